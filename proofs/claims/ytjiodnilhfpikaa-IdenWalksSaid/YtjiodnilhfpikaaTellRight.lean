/-
  The walk over tell.Right: whether a reply may be.
-/
import Derived.Test.YtjiodnilhfpikaaTellOnly
import Derived.Test.YtjiodnilhfpikaaObjs
set_option linter.unusedVariables false
set_option linter.unusedSimpArgs false
namespace Go.Proofs.Ytjiodnilhfpikaa
open Go.RowKit

def on (b : Bool) (x : Int) : Int := if b then x else 0
def onN (b : Bool) (x : Nat) : Nat := if b then x else 0
def onA (b : Bool) (x : Option Addr) : Option Addr := if b then x else none
def fBits (fn : Int) : Bool := fn == 1 || fn == 2
def fWords (fn : Int) : Bool := fn == 3 || fn == 4 || fn == 23
def fAt (fn : Int) : Bool := fn == 5 || fn == 6 || fn == 15 || fn == 16 || fn == 22
def fN (fn : Int) : Bool := fn == 15 || fn == 16
def fValue (fn : Int) : Bool := fn == 5 || fn == 6
def fMask (fn : Int) : Bool := fn == 22
def fIden (fn : Int) : Bool := fn == 43

theorem tellOnly_any (fn exc ad n vl an og cd lv nx : Int) (mo : Bool) (Ab Aw Ao : Option Addr) (nb cb nw cw no co : Nat) (w : World) (hk : fn ∈ fns) :
    Calls Try.prog 43 #[(.agg #[.int .i64 fn, .int .i64 exc, (.slice Ab nb cb), (.slice Aw nw cw), .int .i64 ad, .int .i64 n, .int .u16 vl, .int .u16 an, .int .u16 og, .int .i64 cd, .int .i64 lv, .bool mo, .int .i64 nx, (.slice Ao no co)])] w
      fun e w' => e = .returned (.agg #[.int .i64 fn, .int .i64 0, (.slice (onA (fBits fn) Ab) (onN (fBits fn) nb) (onN (fBits fn) cb)), (.slice (onA (fWords fn) Aw) (onN (fWords fn) nw) (onN (fWords fn) cw)), .int .i64 (on (fAt fn) ad), .int .i64 (on (fN fn) n), .int .u16 (on (fValue fn) vl), .int .u16 (on (fMask fn) an), .int .u16 (on (fMask fn) og), .int .i64 (on (fIden fn) cd), .int .i64 (on (fIden fn) lv), .bool (fIden fn && mo), .int .i64 (on (fIden fn) nx), (.slice (onA (fIden fn) Ao) (onN (fIden fn) no) (onN (fIden fn) co))]) ∧ Keeps Nope w w' := by
  simp only [fns, List.mem_cons, List.not_mem_nil, or_false] at hk
  rcases hk with rfl | rfl | rfl | rfl | rfl | rfl | rfl | rfl | rfl | rfl | rfl
  · exact tellOnly_1 _ _ _ _ _ _ _ _ _ _ _ _ _ _ _ _ _ _ _ _
  · exact tellOnly_2 _ _ _ _ _ _ _ _ _ _ _ _ _ _ _ _ _ _ _ _
  · exact tellOnly_3 _ _ _ _ _ _ _ _ _ _ _ _ _ _ _ _ _ _ _ _
  · exact tellOnly_4 _ _ _ _ _ _ _ _ _ _ _ _ _ _ _ _ _ _ _ _
  · exact tellOnly_5 _ _ _ _ _ _ _ _ _ _ _ _ _ _ _ _ _ _ _ _
  · exact tellOnly_6 _ _ _ _ _ _ _ _ _ _ _ _ _ _ _ _ _ _ _ _
  · exact tellOnly_15 _ _ _ _ _ _ _ _ _ _ _ _ _ _ _ _ _ _ _ _
  · exact tellOnly_16 _ _ _ _ _ _ _ _ _ _ _ _ _ _ _ _ _ _ _ _
  · exact tellOnly_22 _ _ _ _ _ _ _ _ _ _ _ _ _ _ _ _ _ _ _ _
  · exact tellOnly_23 _ _ _ _ _ _ _ _ _ _ _ _ _ _ _ _ _ _ _ _
  · exact tellOnly_43 _ _ _ _ _ _ _ _ _ _ _ _ _ _ _ _ _ _ _ _

/-- A reply's numbers, as a list; those of a reply with just the fields that its function has. -/
def tNums (ad n vl an og cd lv : Int) (mo : Bool) (nx : Int) (nb nw no : Nat) : List Int := [ad, n, vl, an, og, cd, lv, oneOf mo, nx, nb, nw, no]
def tOnly (fn ad n vl an og cd lv : Int) (mo : Bool) (nx : Int) (nb nw no : Nat) : List Int :=
  tNums (on (fAt fn) ad) (on (fN fn) n) (on (fValue fn) vl) (on (fMask fn) an) (on (fMask fn) og) (on (fIden fn) cd) (on (fIden fn) lv) (fIden fn && mo) (on (fIden fn) nx) (onN (fBits fn) nb) (onN (fWords fn) nw) (onN (fIden fn) no)
/-- What is asked of a reply's own fields. -/
def tRest (fn n vl cd lv nx : Int) (nb nw : Nat) (l : List Ob) : Bool :=
  if fn = 1 ∨ fn = 2 then countsB nb 2000 else if fn = 3 ∨ fn = 4 ∨ fn = 23 then countsB nw 125 else if fn = 5 then decide (vl ≤ 1)
  else if fn = 15 then countsB n 1968 else if fn = 16 then countsB n 123 else if fn = 43 then countsB cd 4 && (isByteB lv && (isByteB nx && objsOk 7 l)) else true
/-- Whether a reply may be. -/
def tellRightB (fn exc ad n vl an og cd lv : Int) (mo : Bool) (nx : Int) (nb nw : Nat) (l : List Ob) : Bool :=
  if exc = 0 then kKnown fn && (tNums ad n vl an og cd lv mo nx nb nw l.length == tOnly fn ad n vl an og cd lv mo nx nb nw l.length) && decide (0 ≤ ad ∧ ad < 65536) && tRest fn n vl cd lv nx nb nw l
  else excB exc && isByteB fn && (tNums ad n vl an og cd lv mo nx nb nw l.length == tNums 0 0 0 0 0 0 0 false 0 0 0 0)

/-- The class of worlds in which the reply that came in stands in its box. -/
def Boxed (w : World) (g : Nat) (cs : Array Value) (W : World) : Prop := W.heap[g]? = some (.cells cs 32 (0, 0)) ∧ Keeps Nope w W
theorem Boxed.stable {w : World} {g : Nat} {cs : Array Value} (W W' : World) (h : Boxed w g cs W) (hk : Keeps Nope W W') : Boxed w g cs W' :=
  ⟨(hk.block g (heap_lt h.1) (fun f => f)).trans h.1, h.2.trans hk⟩
theorem Boxed.new (w : World) (cs : Array Value) : Boxed w w.heap.size cs (w.alloc (.cells cs 32)) := ⟨heap_alloc_new w _, (Keeps.refl _ _).alloc _⟩
theorem Boxed.drew {w : World} {g : Nat} {cs : Array Value} {W : World} (h : Boxed w g cs W) : Boxed w g cs W.drew := ⟨h.1, h.2.drew⟩
theorem Boxed.cell {w : World} {g : Nat} {cs : Array Value} (x : InClass (Boxed w g cs)) (j : Nat) : x.w.cell? ⟨g, j, none⟩ = cs[j]? := (cells_at x.ok.1).1 j
theorem sizeOf_int (w : World) : (sizeOf 3).run Try.prog w = .ok 1 w := by kernel_rfl

set_option maxRecDepth 100000 in
set_option maxHeartbeats 4000000 in
theorem tellRight_ne (fn ad n vl an og cd lv nx : Int) (mo : Bool) (Ab Aw Ao : Option Addr) (nb cb nw cw co : Nat) (l : List Ob) (w : World) (hk : fn ∈ fns)
    (h1 : 0 ≤ vl) (h2 : vl ≤ 65535) (h3 : 0 ≤ an) (h4 : an ≤ 65535) (h5 : 0 ≤ og) (h6 : og ≤ 65535) (hl : Lies w Ao (obsCells l)) (hs : Short l) (hn : l.length ≤ 1000000)
    (hb : (tNums ad n vl an og cd lv mo nx nb nw l.length == tOnly fn ad n vl an og cd lv mo nx nb nw l.length) = false) :
    Calls Try.prog 31 #[(.agg #[.int .i64 fn, .int .i64 0, (.slice Ab nb cb), (.slice Aw nw cw), .int .i64 ad, .int .i64 n, .int .u16 vl, .int .u16 an, .int .u16 og, .int .i64 cd, .int .i64 lv, .bool mo, .int .i64 nx, (.slice Ao l.length co)])] w
      fun e w' => e = .returned (.bool (tellRightB fn 0 ad n vl an og cd lv mo nx nb nw l)) ∧ Keeps Nope w w' := by
  have hkn : kKnown fn = true := decide_eq_true hk
  have R : Hid (tellRightB fn 0 ad n vl an og cd lv mo nx nb nw l = false) := by
    show _ = _
    unfold tellRightB
    rw [if_pos rfl, hkn, hb]
    simp
  have heq : ∀ W : World, (Op.equalIn 10000 65 (.agg #[.int .i64 ad, .int .i64 n, .int .i64 vl, .int .i64 an, .int .i64 og, .int .i64 cd, .int .i64 lv, .int .i64 (oneOf mo), .int .i64 nx, .int .i64 nb, .int .i64 nw, .int .i64 l.length]) (.agg #[.int .i64 (on (fAt fn) ad), .int .i64 (on (fN fn) n), .int .i64 (on (fValue fn) vl), .int .i64 (on (fMask fn) an), .int .i64 (on (fMask fn) og), .int .i64 (on (fIden fn) cd), .int .i64 (on (fIden fn) lv), .int .i64 (oneOf (fIden fn && mo)), .int .i64 (on (fIden fn) nx), .int .i64 (onN (fBits fn) nb), .int .i64 (onN (fWords fn) nw), .int .i64 (onN (fIden fn) l.length)])).run Try.prog W
      = .ok (tNums ad n vl an og cd lv mo nx nb nw l.length == tOnly fn ad n vl an og cd lv mo nx nb nw l.length) W := fun W =>
    equal_ints W 9998 65 3 12 .i64 Try.underlying65 Try.underlying3 sizeOf_int (tNums ad n vl an og cd lv mo nx nb nw l.length) (tOnly fn ad n vl an og cd lv mo nx nb nw l.length) rfl rfl
  rw [hb] at heq
  clear hb
  have hv1 : 0 ≤ on (fValue fn) vl := by unfold on; split <;> omega
  have hv2 : on (fValue fn) vl ≤ 65535 := by unfold on; split <;> omega
  have hv3 : 0 ≤ on (fMask fn) an := by unfold on; split <;> omega
  have hv4 : on (fMask fn) an ≤ 65535 := by unfold on; split <;> omega
  have hv5 : 0 ≤ on (fMask fn) og := by unfold on; split <;> omega
  have hv6 : on (fMask fn) og ≤ 65535 := by unfold on; split <;> omega
  have hknown := fun W => kindKnown_any fn W
  rw [hkn] at hknown
  have HKN := Lib.hid hknown
  have HMEM := Lib.hid hk
  clear hknown hkn hk
  have HLI := Lib.hid hl
  clear hl
  go_enter Try.func31, Try.ntmps31
  go_wp2_with (fail)
  have hC := (Boxed.new w #[.int .i64 fn, .int .i64 0, .slice Ab nb cb, .slice Aw nw cw, .int .i64 ad, .int .i64 n, .int .u16 vl, .int .u16 an, .int .u16 og, .int .i64 cd, .int .i64 lv, .bool mo, .int .i64 nx, .slice Ao l.length co]).drew
  have hst := Boxed.stable (w := w) (g := w.heap.size) (cs := #[.int .i64 fn, .int .i64 0, .slice Ab nb cb, .slice Aw nw cw, .int .i64 ad, .int .i64 n, .int .u16 vl, .int .u16 an, .int .u16 og, .int .i64 cd, .int .i64 lv, .bool mo, .int .i64 nx, .slice Ao l.length co])
  have hc := Boxed.cell (w := w) (g := w.heap.size) (cs := #[.int .i64 fn, .int .i64 0, .slice Ab nb cb, .slice Aw nw cw, .int .i64 ad, .int .i64 n, .int .u16 vl, .int .u16 an, .int .u16 og, .int .i64 cd, .int .i64 lv, .bool mo, .int .i64 nx, .slice Ao l.length co])
  refine wp_region_class _ (by kernel_rfl) (by kernel_rfl) hC ?_
  clear hC
  generalize hg : w.heap.size = g at *
  clear hg
  intro hne
  repeat
    (refine wpQuiet_step (fun K hK => ?_)
     go_simp
     first
     | (refine hK _ ?_; clear hK K)
     | (apply Exists.intro; refine ⟨fun x => ?_, hK _ ?_⟩; (first | exact Calls.inClass_same x (HKN.out _) | exact Calls.inClass hst x (tellNumbers_any _ _ _ _ _ _ _ _ _ _ _ _ _ _ _ _ _ _ _ _ _ (by assumption) (by assumption) (by assumption) (by assumption) (by assumption) (by assumption)) | exact Calls.inClass hst x (tellOnly_any _ _ _ _ _ _ _ _ _ _ _ _ _ _ _ _ _ _ _ _ _ HMEM.out)); clear hK K))
  refine wpQuiet_nil ?_
  intro W hW
  clear hc hst hne heq
  have hKW : Hid (Keeps Nope w W) := hW.2
  obtain ⟨c1, f1⟩ := cells_at hW.1
  clear hW
  go_wp2
  go_ret
  exact ⟨ret_bool R.out.symm, hKW.out⟩

set_option maxRecDepth 100000 in
set_option maxHeartbeats 4000000 in
theorem tellRight_lo (fn ad n vl an og cd lv nx : Int) (mo : Bool) (Ab Aw Ao : Option Addr) (nb cb nw cw co : Nat) (l : List Ob) (w : World) (hk : fn ∈ fns)
    (h1 : 0 ≤ vl) (h2 : vl ≤ 65535) (h3 : 0 ≤ an) (h4 : an ≤ 65535) (h5 : 0 ≤ og) (h6 : og ≤ 65535) (hl : Lies w Ao (obsCells l)) (hs : Short l) (hn : l.length ≤ 1000000)
    (hb : (tNums ad n vl an og cd lv mo nx nb nw l.length == tOnly fn ad n vl an og cd lv mo nx nb nw l.length) = true) (hr : ad < 0) :
    Calls Try.prog 31 #[(.agg #[.int .i64 fn, .int .i64 0, (.slice Ab nb cb), (.slice Aw nw cw), .int .i64 ad, .int .i64 n, .int .u16 vl, .int .u16 an, .int .u16 og, .int .i64 cd, .int .i64 lv, .bool mo, .int .i64 nx, (.slice Ao l.length co)])] w
      fun e w' => e = .returned (.bool (tellRightB fn 0 ad n vl an og cd lv mo nx nb nw l)) ∧ Keeps Nope w w' := by
  have hkn : kKnown fn = true := decide_eq_true hk
  have R : Hid (tellRightB fn 0 ad n vl an og cd lv mo nx nb nw l = false) := by
    show _ = _
    unfold tellRightB
    rw [if_pos rfl, hkn, hb, show decide (0 ≤ ad ∧ ad < 65536) = false from decide_eq_false (by omega)]
    simp
  have heq : ∀ W : World, (Op.equalIn 10000 65 (.agg #[.int .i64 ad, .int .i64 n, .int .i64 vl, .int .i64 an, .int .i64 og, .int .i64 cd, .int .i64 lv, .int .i64 (oneOf mo), .int .i64 nx, .int .i64 nb, .int .i64 nw, .int .i64 l.length]) (.agg #[.int .i64 (on (fAt fn) ad), .int .i64 (on (fN fn) n), .int .i64 (on (fValue fn) vl), .int .i64 (on (fMask fn) an), .int .i64 (on (fMask fn) og), .int .i64 (on (fIden fn) cd), .int .i64 (on (fIden fn) lv), .int .i64 (oneOf (fIden fn && mo)), .int .i64 (on (fIden fn) nx), .int .i64 (onN (fBits fn) nb), .int .i64 (onN (fWords fn) nw), .int .i64 (onN (fIden fn) l.length)])).run Try.prog W
      = .ok (tNums ad n vl an og cd lv mo nx nb nw l.length == tOnly fn ad n vl an og cd lv mo nx nb nw l.length) W := fun W =>
    equal_ints W 9998 65 3 12 .i64 Try.underlying65 Try.underlying3 sizeOf_int (tNums ad n vl an og cd lv mo nx nb nw l.length) (tOnly fn ad n vl an og cd lv mo nx nb nw l.length) rfl rfl
  rw [hb] at heq
  clear hb
  have hv1 : 0 ≤ on (fValue fn) vl := by unfold on; split <;> omega
  have hv2 : on (fValue fn) vl ≤ 65535 := by unfold on; split <;> omega
  have hv3 : 0 ≤ on (fMask fn) an := by unfold on; split <;> omega
  have hv4 : on (fMask fn) an ≤ 65535 := by unfold on; split <;> omega
  have hv5 : 0 ≤ on (fMask fn) og := by unfold on; split <;> omega
  have hv6 : on (fMask fn) og ≤ 65535 := by unfold on; split <;> omega
  have hknown := fun W => kindKnown_any fn W
  rw [hkn] at hknown
  have HKN := Lib.hid hknown
  have HMEM := Lib.hid hk
  clear hknown hkn hk
  have HLI := Lib.hid hl
  clear hl
  go_enter Try.func31, Try.ntmps31
  go_wp2_with (fail)
  have hC := (Boxed.new w #[.int .i64 fn, .int .i64 0, .slice Ab nb cb, .slice Aw nw cw, .int .i64 ad, .int .i64 n, .int .u16 vl, .int .u16 an, .int .u16 og, .int .i64 cd, .int .i64 lv, .bool mo, .int .i64 nx, .slice Ao l.length co]).drew
  have hst := Boxed.stable (w := w) (g := w.heap.size) (cs := #[.int .i64 fn, .int .i64 0, .slice Ab nb cb, .slice Aw nw cw, .int .i64 ad, .int .i64 n, .int .u16 vl, .int .u16 an, .int .u16 og, .int .i64 cd, .int .i64 lv, .bool mo, .int .i64 nx, .slice Ao l.length co])
  have hc := Boxed.cell (w := w) (g := w.heap.size) (cs := #[.int .i64 fn, .int .i64 0, .slice Ab nb cb, .slice Aw nw cw, .int .i64 ad, .int .i64 n, .int .u16 vl, .int .u16 an, .int .u16 og, .int .i64 cd, .int .i64 lv, .bool mo, .int .i64 nx, .slice Ao l.length co])
  refine wp_region_class _ (by kernel_rfl) (by kernel_rfl) hC ?_
  clear hC
  generalize hg : w.heap.size = g at *
  clear hg
  intro hne
  repeat
    (refine wpQuiet_step (fun K hK => ?_)
     go_simp
     first
     | (refine hK _ ?_; clear hK K)
     | (apply Exists.intro; refine ⟨fun x => ?_, hK _ ?_⟩; (first | exact Calls.inClass_same x (HKN.out _) | exact Calls.inClass hst x (tellNumbers_any _ _ _ _ _ _ _ _ _ _ _ _ _ _ _ _ _ _ _ _ _ (by assumption) (by assumption) (by assumption) (by assumption) (by assumption) (by assumption)) | exact Calls.inClass hst x (tellOnly_any _ _ _ _ _ _ _ _ _ _ _ _ _ _ _ _ _ _ _ _ _ HMEM.out)); clear hK K))
  refine wpQuiet_nil ?_
  intro W hW
  clear hc hst hne heq
  have hKW : Hid (Keeps Nope w W) := hW.2
  obtain ⟨c1, f1⟩ := cells_at hW.1
  clear hW
  go_wp2
  go_ret
  exact ⟨ret_bool R.out.symm, hKW.out⟩

set_option maxRecDepth 100000 in
set_option maxHeartbeats 4000000 in
theorem tellRight_hi (fn ad n vl an og cd lv nx : Int) (mo : Bool) (Ab Aw Ao : Option Addr) (nb cb nw cw co : Nat) (l : List Ob) (w : World) (hk : fn ∈ fns)
    (h1 : 0 ≤ vl) (h2 : vl ≤ 65535) (h3 : 0 ≤ an) (h4 : an ≤ 65535) (h5 : 0 ≤ og) (h6 : og ≤ 65535) (hl : Lies w Ao (obsCells l)) (hs : Short l) (hn : l.length ≤ 1000000)
    (hb : (tNums ad n vl an og cd lv mo nx nb nw l.length == tOnly fn ad n vl an og cd lv mo nx nb nw l.length) = true) (hr0 : 0 ≤ ad) (hr : 65536 ≤ ad) :
    Calls Try.prog 31 #[(.agg #[.int .i64 fn, .int .i64 0, (.slice Ab nb cb), (.slice Aw nw cw), .int .i64 ad, .int .i64 n, .int .u16 vl, .int .u16 an, .int .u16 og, .int .i64 cd, .int .i64 lv, .bool mo, .int .i64 nx, (.slice Ao l.length co)])] w
      fun e w' => e = .returned (.bool (tellRightB fn 0 ad n vl an og cd lv mo nx nb nw l)) ∧ Keeps Nope w w' := by
  have hkn : kKnown fn = true := decide_eq_true hk
  have R : Hid (tellRightB fn 0 ad n vl an og cd lv mo nx nb nw l = false) := by
    show _ = _
    unfold tellRightB
    rw [if_pos rfl, hkn, hb, show decide (0 ≤ ad ∧ ad < 65536) = false from decide_eq_false (by omega)]
    simp
  have heq : ∀ W : World, (Op.equalIn 10000 65 (.agg #[.int .i64 ad, .int .i64 n, .int .i64 vl, .int .i64 an, .int .i64 og, .int .i64 cd, .int .i64 lv, .int .i64 (oneOf mo), .int .i64 nx, .int .i64 nb, .int .i64 nw, .int .i64 l.length]) (.agg #[.int .i64 (on (fAt fn) ad), .int .i64 (on (fN fn) n), .int .i64 (on (fValue fn) vl), .int .i64 (on (fMask fn) an), .int .i64 (on (fMask fn) og), .int .i64 (on (fIden fn) cd), .int .i64 (on (fIden fn) lv), .int .i64 (oneOf (fIden fn && mo)), .int .i64 (on (fIden fn) nx), .int .i64 (onN (fBits fn) nb), .int .i64 (onN (fWords fn) nw), .int .i64 (onN (fIden fn) l.length)])).run Try.prog W
      = .ok (tNums ad n vl an og cd lv mo nx nb nw l.length == tOnly fn ad n vl an og cd lv mo nx nb nw l.length) W := fun W =>
    equal_ints W 9998 65 3 12 .i64 Try.underlying65 Try.underlying3 sizeOf_int (tNums ad n vl an og cd lv mo nx nb nw l.length) (tOnly fn ad n vl an og cd lv mo nx nb nw l.length) rfl rfl
  rw [hb] at heq
  clear hb
  have hv1 : 0 ≤ on (fValue fn) vl := by unfold on; split <;> omega
  have hv2 : on (fValue fn) vl ≤ 65535 := by unfold on; split <;> omega
  have hv3 : 0 ≤ on (fMask fn) an := by unfold on; split <;> omega
  have hv4 : on (fMask fn) an ≤ 65535 := by unfold on; split <;> omega
  have hv5 : 0 ≤ on (fMask fn) og := by unfold on; split <;> omega
  have hv6 : on (fMask fn) og ≤ 65535 := by unfold on; split <;> omega
  have hknown := fun W => kindKnown_any fn W
  rw [hkn] at hknown
  have HKN := Lib.hid hknown
  have HMEM := Lib.hid hk
  clear hknown hkn hk
  have HLI := Lib.hid hl
  clear hl
  go_enter Try.func31, Try.ntmps31
  go_wp2_with (fail)
  have hC := (Boxed.new w #[.int .i64 fn, .int .i64 0, .slice Ab nb cb, .slice Aw nw cw, .int .i64 ad, .int .i64 n, .int .u16 vl, .int .u16 an, .int .u16 og, .int .i64 cd, .int .i64 lv, .bool mo, .int .i64 nx, .slice Ao l.length co]).drew
  have hst := Boxed.stable (w := w) (g := w.heap.size) (cs := #[.int .i64 fn, .int .i64 0, .slice Ab nb cb, .slice Aw nw cw, .int .i64 ad, .int .i64 n, .int .u16 vl, .int .u16 an, .int .u16 og, .int .i64 cd, .int .i64 lv, .bool mo, .int .i64 nx, .slice Ao l.length co])
  have hc := Boxed.cell (w := w) (g := w.heap.size) (cs := #[.int .i64 fn, .int .i64 0, .slice Ab nb cb, .slice Aw nw cw, .int .i64 ad, .int .i64 n, .int .u16 vl, .int .u16 an, .int .u16 og, .int .i64 cd, .int .i64 lv, .bool mo, .int .i64 nx, .slice Ao l.length co])
  refine wp_region_class _ (by kernel_rfl) (by kernel_rfl) hC ?_
  clear hC
  generalize hg : w.heap.size = g at *
  clear hg
  intro hne
  repeat
    (refine wpQuiet_step (fun K hK => ?_)
     go_simp
     first
     | (refine hK _ ?_; clear hK K)
     | (apply Exists.intro; refine ⟨fun x => ?_, hK _ ?_⟩; (first | exact Calls.inClass_same x (HKN.out _) | exact Calls.inClass hst x (tellNumbers_any _ _ _ _ _ _ _ _ _ _ _ _ _ _ _ _ _ _ _ _ _ (by assumption) (by assumption) (by assumption) (by assumption) (by assumption) (by assumption)) | exact Calls.inClass hst x (tellOnly_any _ _ _ _ _ _ _ _ _ _ _ _ _ _ _ _ _ _ _ _ _ HMEM.out)); clear hK K))
  refine wpQuiet_nil ?_
  intro W hW
  clear hc hst hne heq
  have hKW : Hid (Keeps Nope w W) := hW.2
  obtain ⟨c1, f1⟩ := cells_at hW.1
  clear hW
  go_wp2
  go_ret
  exact ⟨ret_bool R.out.symm, hKW.out⟩

set_option maxRecDepth 100000 in
set_option maxHeartbeats 4000000 in
theorem tellRight_ok (fn ad n vl an og cd lv nx : Int) (mo : Bool) (Ab Aw Ao : Option Addr) (nb cb nw cw co : Nat) (l : List Ob) (w : World) (hk : fn ∈ fns)
    (h1 : 0 ≤ vl) (h2 : vl ≤ 65535) (h3 : 0 ≤ an) (h4 : an ≤ 65535) (h5 : 0 ≤ og) (h6 : og ≤ 65535) (hl : Lies w Ao (obsCells l)) (hs : Short l) (hn : l.length ≤ 1000000)
    (hb : (tNums ad n vl an og cd lv mo nx nb nw l.length == tOnly fn ad n vl an og cd lv mo nx nb nw l.length) = true) (hr1 : 0 ≤ ad) (hr2 : ad < 65536) :
    Calls Try.prog 31 #[(.agg #[.int .i64 fn, .int .i64 0, (.slice Ab nb cb), (.slice Aw nw cw), .int .i64 ad, .int .i64 n, .int .u16 vl, .int .u16 an, .int .u16 og, .int .i64 cd, .int .i64 lv, .bool mo, .int .i64 nx, (.slice Ao l.length co)])] w
      fun e w' => e = .returned (.bool (tellRightB fn 0 ad n vl an og cd lv mo nx nb nw l)) ∧ Keeps Nope w w' := by
  have hkn : kKnown fn = true := decide_eq_true hk
  have R : Hid (tellRightB fn 0 ad n vl an og cd lv mo nx nb nw l = tRest fn n vl cd lv nx nb nw l) := by
    show _ = _
    unfold tellRightB
    rw [if_pos rfl, hkn, hb, show decide (0 ≤ ad ∧ ad < 65536) = true from decide_eq_true (by omega)]
    simp
  have heq : ∀ W : World, (Op.equalIn 10000 65 (.agg #[.int .i64 ad, .int .i64 n, .int .i64 vl, .int .i64 an, .int .i64 og, .int .i64 cd, .int .i64 lv, .int .i64 (oneOf mo), .int .i64 nx, .int .i64 nb, .int .i64 nw, .int .i64 l.length]) (.agg #[.int .i64 (on (fAt fn) ad), .int .i64 (on (fN fn) n), .int .i64 (on (fValue fn) vl), .int .i64 (on (fMask fn) an), .int .i64 (on (fMask fn) og), .int .i64 (on (fIden fn) cd), .int .i64 (on (fIden fn) lv), .int .i64 (oneOf (fIden fn && mo)), .int .i64 (on (fIden fn) nx), .int .i64 (onN (fBits fn) nb), .int .i64 (onN (fWords fn) nw), .int .i64 (onN (fIden fn) l.length)])).run Try.prog W
      = .ok (tNums ad n vl an og cd lv mo nx nb nw l.length == tOnly fn ad n vl an og cd lv mo nx nb nw l.length) W := fun W =>
    equal_ints W 9998 65 3 12 .i64 Try.underlying65 Try.underlying3 sizeOf_int (tNums ad n vl an og cd lv mo nx nb nw l.length) (tOnly fn ad n vl an og cd lv mo nx nb nw l.length) rfl rfl
  rw [hb] at heq
  clear hb
  have hv1 : 0 ≤ on (fValue fn) vl := by unfold on; split <;> omega
  have hv2 : on (fValue fn) vl ≤ 65535 := by unfold on; split <;> omega
  have hv3 : 0 ≤ on (fMask fn) an := by unfold on; split <;> omega
  have hv4 : on (fMask fn) an ≤ 65535 := by unfold on; split <;> omega
  have hv5 : 0 ≤ on (fMask fn) og := by unfold on; split <;> omega
  have hv6 : on (fMask fn) og ≤ 65535 := by unfold on; split <;> omega
  have hknown := fun W => kindKnown_any fn W
  rw [hkn] at hknown
  have HKN := Lib.hid hknown
  have HMEM := Lib.hid hk
  clear hknown hkn hk
  have HLI := Lib.hid hl
  clear hl
  go_enter Try.func31, Try.ntmps31
  go_wp2_with (fail)
  have hC := (Boxed.new w #[.int .i64 fn, .int .i64 0, .slice Ab nb cb, .slice Aw nw cw, .int .i64 ad, .int .i64 n, .int .u16 vl, .int .u16 an, .int .u16 og, .int .i64 cd, .int .i64 lv, .bool mo, .int .i64 nx, .slice Ao l.length co]).drew
  have hst := Boxed.stable (w := w) (g := w.heap.size) (cs := #[.int .i64 fn, .int .i64 0, .slice Ab nb cb, .slice Aw nw cw, .int .i64 ad, .int .i64 n, .int .u16 vl, .int .u16 an, .int .u16 og, .int .i64 cd, .int .i64 lv, .bool mo, .int .i64 nx, .slice Ao l.length co])
  have hc := Boxed.cell (w := w) (g := w.heap.size) (cs := #[.int .i64 fn, .int .i64 0, .slice Ab nb cb, .slice Aw nw cw, .int .i64 ad, .int .i64 n, .int .u16 vl, .int .u16 an, .int .u16 og, .int .i64 cd, .int .i64 lv, .bool mo, .int .i64 nx, .slice Ao l.length co])
  refine wp_region_class _ (by kernel_rfl) (by kernel_rfl) hC ?_
  clear hC
  generalize hg : w.heap.size = g at *
  clear hg
  intro hne
  repeat
    (refine wpQuiet_step (fun K hK => ?_)
     go_simp
     first
     | (refine hK _ ?_; clear hK K)
     | (apply Exists.intro; refine ⟨fun x => ?_, hK _ ?_⟩; (first | exact Calls.inClass_same x (HKN.out _) | exact Calls.inClass hst x (tellNumbers_any _ _ _ _ _ _ _ _ _ _ _ _ _ _ _ _ _ _ _ _ _ (by assumption) (by assumption) (by assumption) (by assumption) (by assumption) (by assumption)) | exact Calls.inClass hst x (tellOnly_any _ _ _ _ _ _ _ _ _ _ _ _ _ _ _ _ _ _ _ _ _ HMEM.out)); clear hK K))
  refine wpQuiet_nil ?_
  intro W hW
  clear hc hst hne heq
  have hKW : Hid (Keeps Nope w W) := hW.2
  obtain ⟨c1, f1⟩ := cells_at hW.1
  clear hW
  have hfn : fn = 1 ∨ fn = 2 ∨ fn = 3 ∨ fn = 4 ∨ fn = 5 ∨ fn = 6 ∨ fn = 15 ∨ fn = 16 ∨ fn = 22 ∨ fn = 23 ∨ fn = 43 := by
    have := HMEM.out
    simp [fns] at this
    omega
  clear HKN HMEM hv1 hv2 hv3 hv4 hv5 hv6
  go_wp2_with (fail)
  refine (kindMost_any _ _).mono ?_
  rintro e w' ⟨rfl, rfl⟩
  rcases hfn with rfl | rfl | rfl | rfl | rfl | rfl | rfl | rfl | rfl | rfl | rfl
  · go_wp2_with (fail)
    refine (tellCounts_any _ _ _).mono ?_
    rintro e w' ⟨rfl, rfl⟩
    go_wp2
    go_ret
    exact ⟨ret_bool (R.out.trans rfl).symm, hKW.out⟩
  · go_wp2_with (fail)
    refine (tellCounts_any _ _ _).mono ?_
    rintro e w' ⟨rfl, rfl⟩
    go_wp2
    go_ret
    exact ⟨ret_bool (R.out.trans rfl).symm, hKW.out⟩
  · go_wp2_with (fail)
    refine (tellCounts_any _ _ _).mono ?_
    rintro e w' ⟨rfl, rfl⟩
    go_wp2
    go_ret
    exact ⟨ret_bool (R.out.trans rfl).symm, hKW.out⟩
  · go_wp2_with (fail)
    refine (tellCounts_any _ _ _).mono ?_
    rintro e w' ⟨rfl, rfl⟩
    go_wp2
    go_ret
    exact ⟨ret_bool (R.out.trans rfl).symm, hKW.out⟩
  · have R2 : Hid (tellRightB 5 0 ad n vl an og cd lv mo nx nb nw l = decide (vl ≤ 1)) := R.out
    clear R
    go_wp2
    go_ret
    exact ⟨ret_bool R2.out.symm, hKW.out⟩
  · go_wp2
    go_ret
    exact ⟨ret_bool (R.out.trans rfl).symm, hKW.out⟩
  · go_wp2_with (fail)
    refine (tellCounts_any _ _ _).mono ?_
    rintro e w' ⟨rfl, rfl⟩
    go_wp2
    go_ret
    exact ⟨ret_bool (R.out.trans rfl).symm, hKW.out⟩
  · go_wp2_with (fail)
    refine (tellCounts_any _ _ _).mono ?_
    rintro e w' ⟨rfl, rfl⟩
    go_wp2
    go_ret
    exact ⟨ret_bool (R.out.trans rfl).symm, hKW.out⟩
  · go_wp2
    go_ret
    exact ⟨ret_bool (R.out.trans rfl).symm, hKW.out⟩
  · go_wp2_with (fail)
    refine (tellCounts_any _ _ _).mono ?_
    rintro e w' ⟨rfl, rfl⟩
    go_wp2
    go_ret
    exact ⟨ret_bool (R.out.trans rfl).symm, hKW.out⟩
  · have HRR := R
    clear R
    by_cases b1 : countsB cd 4 = true
    · by_cases b2 : isByteB lv = true
      · by_cases b3 : isByteB nx = true
        · have R2 : Hid (tellRightB 43 0 ad n vl an og cd lv mo nx nb nw l = objsOk 7 l) := HRR.out.trans (by simp [tRest, b1, b2, b3])
          go_wp2_with (fail)
          refine (tellCounts_any _ _ _).mono ?_
          rintro e w' ⟨rfl, rfl⟩
          rw [b1]
          go_wp2_with (fail)
          refine (tellIsByte_any _ _).mono ?_
          rintro e w' ⟨rfl, rfl⟩
          rw [b2]
          go_wp2_with (fail)
          refine (tellIsByte_any _ _).mono ?_
          rintro e w' ⟨rfl, rfl⟩
          rw [b3]
          go_wp2_with (fail)
          refine (tellObjects_any _ _ _ _ (HLI.out.keeps hKW.out) hs hn).mono ?_
          rintro e w' ⟨rfl, hk2⟩
          go_wp2
          go_ret
          exact ⟨ret_bool R2.out.symm, hKW.out.trans hk2⟩
        · have R2 : Hid (tellRightB 43 0 ad n vl an og cd lv mo nx nb nw l = false) := HRR.out.trans (by simp [tRest, b1, b2, b3])
          have b3' : isByteB nx = false := by simpa using b3
          go_wp2_with (fail)
          refine (tellCounts_any _ _ _).mono ?_
          rintro e w' ⟨rfl, rfl⟩
          rw [b1]
          go_wp2_with (fail)
          refine (tellIsByte_any _ _).mono ?_
          rintro e w' ⟨rfl, rfl⟩
          rw [b2]
          go_wp2_with (fail)
          refine (tellIsByte_any _ _).mono ?_
          rintro e w' ⟨rfl, rfl⟩
          rw [b3']
          clear b3 b3'
          go_wp2
          go_ret
          exact ⟨ret_bool R2.out.symm, hKW.out⟩
      · have R2 : Hid (tellRightB 43 0 ad n vl an og cd lv mo nx nb nw l = false) := HRR.out.trans (by simp [tRest, b1, b2])
        have b2' : isByteB lv = false := by simpa using b2
        go_wp2_with (fail)
        refine (tellCounts_any _ _ _).mono ?_
        rintro e w' ⟨rfl, rfl⟩
        rw [b1]
        go_wp2_with (fail)
        refine (tellIsByte_any _ _).mono ?_
        rintro e w' ⟨rfl, rfl⟩
        rw [b2']
        clear b2 b2'
        go_wp2
        go_ret
        exact ⟨ret_bool R2.out.symm, hKW.out⟩
    · have R2 : Hid (tellRightB 43 0 ad n vl an og cd lv mo nx nb nw l = false) := HRR.out.trans (by simp [tRest, b1])
      have b1' : countsB cd 4 = false := by simpa using b1
      go_wp2_with (fail)
      refine (tellCounts_any _ _ _).mono ?_
      rintro e w' ⟨rfl, rfl⟩
      rw [b1']
      clear b1 b1'
      go_wp2
      go_ret
      exact ⟨ret_bool R2.out.symm, hKW.out⟩

end Go.Proofs.Ytjiodnilhfpikaa

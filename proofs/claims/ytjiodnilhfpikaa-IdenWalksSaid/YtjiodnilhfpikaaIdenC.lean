/-
  The walks over iden.among, iden.Level and iden.fits.
-/
import Derived.Test.YtjiodnilhfpikaaIdenB
set_option linter.unusedVariables false
set_option linter.unusedSimpArgs false
namespace Go.Proofs.Ytjiodnilhfpikaa
open Go.RowKit

/-- The class of worlds in which a block that was made stands as it was laid. -/
def BoxedT (T : TypeId) (w : World) (g : Nat) (cs : Array Value) (W : World) : Prop := W.heap[g]? = some (.cells cs T (0, 0)) ∧ Keeps Nope w W
theorem BoxedT.stable {T : TypeId} {w : World} {g : Nat} {cs : Array Value} (W W' : World) (h : BoxedT T w g cs W) (hk : Keeps Nope W W') : BoxedT T w g cs W' :=
  ⟨(hk.block g (heap_lt h.1) (fun f => f)).trans h.1, h.2.trans hk⟩
theorem BoxedT.new (T : TypeId) (w : World) (cs : Array Value) : BoxedT T w w.heap.size cs (w.alloc (.cells cs T)) := ⟨heap_alloc_new w _, (Keeps.refl _ _).alloc _⟩
theorem BoxedT.drew {T : TypeId} {w : World} {g : Nat} {cs : Array Value} {W : World} (h : BoxedT T w g cs W) : BoxedT T w g cs W.drew := ⟨h.1, h.2.drew⟩
theorem BoxedT.cell {T : TypeId} {w : World} {g : Nat} {cs : Array Value} (x : InClass (BoxedT T w g cs)) (j : Nat) : x.w.cell? ⟨g, j, none⟩ = cs[j]? := (cells_at x.ok.1).1 j

set_option maxRecDepth 100000 in
set_option maxHeartbeats 1000000 in
theorem among_any (A : Option Addr) (c : Nat) (l : List Ob) (cd : Int) (w : World) (hl : Lies w A (obsCells l)) (hn : l.length ≤ 1000000) (hcd : cd = 1 ∨ cd = 2 ∨ cd = 3) (hm : Mono (overCode cd) l) :
    Calls Try.prog 24 #[.slice A l.length c, .int .i64 cd] w (GivesRow 36 2 (amongL cd l).length (obsCells (amongL cd l)) w) := by
  have hk := (Keeps.refl Nope w).alloc (.cells #[.int .i64 cd] 3)
  have hc0 : (w.alloc (.cells #[.int .i64 cd] 3)).cell? ⟨w.heap.size, 0, none⟩ = some (.int .i64 cd) := by simp
  have HC := Lib.hid hc0
  have HCD := Lib.hid hcd
  clear hc0 hcd
  go_enter Try.func24, Try.ntmps24
  go_wp2_with (fail)
  refine (cloneObs_any A c l _ (hl.keeps hk) hn).mono ?_
  rintro e w1 ⟨v, rfl, hown, hk1⟩
  have hs : (w.alloc (.cells #[.int .i64 cd] 3)).heap.size = w.heap.size + 1 := World.size_alloc _ _
  have HO := Lib.hid hown
  have HG := Lib.hid ((hk1.cell (p := ⟨w.heap.size, 0, none⟩) (by rw [hs]; exact Nat.lt_succ_self _) (fun f => f)).trans HC.out)
  have HNE : Hid (v.ownBlock ≠ some w.heap.size) := fun e => by
    have := own_from HO.out _ e
    rw [hs] at this
    omega
  have HOL : Hid (w1.ownsRow w.heap.size 36 2 v l.length (obsCells l)) := own_lower HO.out (by rw [hs]; exact Nat.le_succ _)
  have HK := Lib.hid (hk.trans hk1)
  clear hown hk hk1 hl hs HO
  go_wp2_with (fail)
  refine (deleteAmong_any v l cd w.heap.size w w1 HOL.out HK.out hn HG.out HCD.out HNE.out hm).mono ?_
  rintro e w2 ⟨v2, rfl, hown2, hk2⟩
  go_wp2
  go_ret
  exact ⟨_, rfl, hown2, hk2⟩

/-- How much the device tells. -/
def levelFrom : Int → List Ob → Int
  | lv, [] => lv
  | lv, o :: l => if 127 < o.1 then 131 else levelFrom (if 2 < o.1 then 130 else lv) l
theorem levelFrom_drop {lv : Int} {l : List Ob} {k : Nat} (hk : k < l.length) : levelFrom lv (l.drop k) = if 127 < l[k].1 then 131 else levelFrom (if 2 < l[k].1 then 130 else lv) (l.drop (k + 1)) := by
  rw [List.drop_eq_getElem_cons hk]; rfl
def levelL (l : List Ob) : Int := levelFrom 129 l

set_option maxRecDepth 100000 in
set_option maxHeartbeats 2000000 in
theorem level_any (A : Option Addr) (c : Nat) (l : List Ob) (w : World) (hl : Lies w A (obsCells l)) (hn : l.length ≤ 1000000) :
    Calls Try.prog 17 #[.slice A l.length c] w fun e w' => e = .returned (.int .i64 (levelL l)) ∧ Keeps Nope w w' := by
  obtain ⟨nl, hnl⟩ : ∃ nl, nl = l.length := ⟨_, rfl⟩
  have HN := Lib.hid hnl
  rw [← hnl] at hn ⊢
  clear hnl
  have hl1 := fun W => last_any 1 W (by omega)
  have hl2 := fun W => last_any 2 W (by omega)
  have HL1 : Hid (∀ W : World, Calls Try.prog 28 #[.int .i64 1] W fun e w' => e = .returned (.int .i64 2) ∧ W = w') := hl1
  have HL2 : Hid (∀ W : World, Calls Try.prog 28 #[.int .i64 2] W fun e w' => e = .returned (.int .i64 127) ∧ W = w') := hl2
  clear hl1 hl2
  go_enter Try.func17, Try.ntmps17
  go_wp2
  go_loopw [3, 8] (fun s i wr => ∃ (k : Nat) (lv : Int), k ≤ nl ∧ Hid (levelL l = levelFrom lv (l.drop k)) ∧ s = .int .i64 lv ∧ i = .int .i64 (k : Int) ∧ Hid (Keeps Nope w wr)) (fun _ i _ => (nl - (intOf i)).toNat)
  case atStart => exact ⟨0, 129, by omega, rfl, rfl, rfl, Keeps.refl _ _⟩
  case round =>
    obtain ⟨k, lv, hk, HL, rfl, rfl, HK⟩ := hrel
    by_cases hlt : k < nl
    · have hk' : k < l.length := by rw [← HN.out]; exact hlt
      obtain ⟨b, o, rfl, c1, c2⟩ := (hl.keeps HK.out).ob hk'
      have HD := Lib.hid (HL.out.trans (levelFrom_drop hk'))
      clear HL
      generalize l[k] = ob at *
      obtain ⟨id, tx⟩ := ob
      dsimp only at *
      clear hl
      by_cases h1 : 127 < id
      · have HD2 : Hid (levelL l = 131) := by have := HD.out; rw [if_pos h1] at this; exact this
        clear HD
        go_wp2
        have hC := (BoxedT.new 36 wr #[.int .i64 id, .string tx]).drew
        have hc := BoxedT.cell (T := 36) (w := wr) (g := wr.heap.size) (cs := #[.int .i64 id, .string tx])
        refine wp_region_class _ (by kernel_rfl) (by kernel_rfl) hC ?_
        clear hC
        generalize hg : wr.heap.size = g at *
        clear hg
        intro hne
        repeat
          (refine wpQuiet_step (fun K hK => ?_)
           go_simp
           first
           | (refine hK _ ?_; clear hK K)
           | (apply Exists.intro; refine ⟨fun x => ?_, hK _ ?_⟩; (exact Calls.inClass_same x (HL2.out _)); clear hK K))
        refine wpQuiet_nil ?_
        intro W1 hW
        have HB := Lib.hid hW
        clear hc hne hW
        obtain ⟨cc, _⟩ := cells_at HB.out.1
        go_wp2
        go_ret
        exact ⟨ret_int HD2.out.symm, HK.out.trans HB.out.2⟩
      · by_cases h2 : 2 < id
        · have HD2 : Hid (levelL l = levelFrom 130 (l.drop (k + 1))) := by have := HD.out; rw [if_neg h1, if_pos h2] at this; exact this
          have d1 : decide (127 < id) = false := decide_eq_false h1
          clear HD
          go_wp2
          have hC := (BoxedT.new 36 wr #[.int .i64 id, .string tx]).drew
          have hc := BoxedT.cell (T := 36) (w := wr) (g := wr.heap.size) (cs := #[.int .i64 id, .string tx])
          refine wp_region_class _ (by kernel_rfl) (by kernel_rfl) hC ?_
          clear hC
          generalize hg : wr.heap.size = g at *
          clear hg
          intro hne
          repeat
            (refine wpQuiet_step (fun K hK => ?_)
             go_simp
             first
             | (refine hK _ ?_; clear hK K)
             | (apply Exists.intro; refine ⟨fun x => ?_, hK _ ?_⟩; (exact Calls.inClass_same x (HL2.out _)); clear hK K))
          refine wpQuiet_nil ?_
          intro W1 hW
          have HB := Lib.hid hW
          clear hc hne hW
          obtain ⟨cc, _⟩ := cells_at HB.out.1
          go_wp2
          clear cc
          have hC := BoxedT.drew HB.out
          have hc := BoxedT.cell (T := 36) (w := wr) (g := g) (cs := #[.int .i64 id, .string tx])
          refine wp_region_class _ (by kernel_rfl) (by kernel_rfl) hC ?_
          clear hC
          intro hne
          repeat
            (refine wpQuiet_step (fun K hK => ?_)
             go_simp
             first
             | (refine hK _ ?_; clear hK K)
             | (apply Exists.intro; refine ⟨fun x => ?_, hK _ ?_⟩; (exact Calls.inClass_same x (HL1.out _)); clear hK K))
          refine wpQuiet_nil ?_
          intro W2 hW
          clear HB
          have HB := Lib.hid hW
          clear hc hne hW
          obtain ⟨cc, _⟩ := cells_at HB.out.1
          go_wp2
          go_roundw
          case rel => exact ⟨k + 1, 130, by omega, HD2, rfl, by go_num, HK.out.trans HB.out.2⟩
          case measure => simp [intOf]; omega
        · have HD2 : Hid (levelL l = levelFrom lv (l.drop (k + 1))) := by have := HD.out; rw [if_neg h1, if_neg h2] at this; exact this
          have d1 : decide (127 < id) = false := decide_eq_false h1
          have d2 : decide (2 < id) = false := decide_eq_false h2
          clear HD
          go_wp2
          have hC := (BoxedT.new 36 wr #[.int .i64 id, .string tx]).drew
          have hc := BoxedT.cell (T := 36) (w := wr) (g := wr.heap.size) (cs := #[.int .i64 id, .string tx])
          refine wp_region_class _ (by kernel_rfl) (by kernel_rfl) hC ?_
          clear hC
          generalize hg : wr.heap.size = g at *
          clear hg
          intro hne
          repeat
            (refine wpQuiet_step (fun K hK => ?_)
             go_simp
             first
             | (refine hK _ ?_; clear hK K)
             | (apply Exists.intro; refine ⟨fun x => ?_, hK _ ?_⟩; (exact Calls.inClass_same x (HL2.out _)); clear hK K))
          refine wpQuiet_nil ?_
          intro W1 hW
          have HB := Lib.hid hW
          clear hc hne hW
          obtain ⟨cc, _⟩ := cells_at HB.out.1
          go_wp2
          clear cc
          have hC := BoxedT.drew HB.out
          have hc := BoxedT.cell (T := 36) (w := wr) (g := g) (cs := #[.int .i64 id, .string tx])
          refine wp_region_class _ (by kernel_rfl) (by kernel_rfl) hC ?_
          clear hC
          intro hne
          repeat
            (refine wpQuiet_step (fun K hK => ?_)
             go_simp
             first
             | (refine hK _ ?_; clear hK K)
             | (apply Exists.intro; refine ⟨fun x => ?_, hK _ ?_⟩; (exact Calls.inClass_same x (HL1.out _)); clear hK K))
          refine wpQuiet_nil ?_
          intro W2 hW
          clear HB
          have HB := Lib.hid hW
          clear hc hne hW
          obtain ⟨cc, _⟩ := cells_at HB.out.1
          go_wp2
          go_roundw
          case rel => exact ⟨k + 1, lv, by omega, HD2, rfl, by go_num, HK.out.trans HB.out.2⟩
          case measure => simp [intOf]; omega
    · have HD2 : Hid (levelL l = lv) := by
        have := HL.out
        rw [List.drop_eq_nil_of_le (by rw [← HN.out]; omega)] at this
        exact this
      clear hl
      go_wp2
      go_ret
      exact ⟨ret_int HD2.out.symm, HK.out⟩
theorem level_byte : ∀ (l : List Ob) (lv : Int), 129 ≤ lv ∧ lv ≤ 131 → 129 ≤ levelFrom lv l ∧ levelFrom lv l ≤ 131
  | [], lv, h => h
  | o :: l, lv, h => by
    unfold levelFrom
    split
    · omega
    · exact level_byte l _ (by split <;> omega)

/-- Objects in a reply to who asks who the device is: they may stand there if they fit. -/
theorem fits_any (cd lv nx : Int) (mo : Bool) (A : Option Addr) (c : Nat) (l : List Ob) (w : World) (hcd : cd = 1 ∨ cd = 2 ∨ cd = 3) (hlv : 129 ≤ lv ∧ lv ≤ 131) (hnx : nx = 0) (hl : Lies w A (obsCells l)) (hs : Short l) (hn : l.length ≤ 1000000) :
    Calls Try.prog 26 #[(.agg #[.int .i64 43, .int .i64 0, (.slice none 0 0), (.slice none 0 0), .int .i64 0, .int .i64 0, .int .u16 0, .int .u16 0, .int .u16 0, .int .i64 cd, .int .i64 lv, .bool mo, .int .i64 nx, (.slice A l.length c)])] w
      fun e w' => e = .returned (.bool (objsOk 7 l)) ∧ Keeps Nope w w' := by
  subst hnx
  have hb : (tNums 0 0 0 0 0 cd lv mo 0 0 0 l.length == tOnly 43 0 0 0 0 0 cd lv mo 0 0 0 l.length) = true := by
    have e : tOnly 43 0 0 0 0 0 cd lv mo 0 0 0 l.length = tNums 0 0 0 0 0 cd lv mo 0 0 0 l.length := rfl
    rw [e]
    simp
  have hk := (Keeps.refl Nope w).alloc (.cells #[.int .i64 43, .int .i64 0, .slice none 0 0, .slice none 0 0, .int .i64 0, .int .i64 0, .int .u16 0, .int .u16 0, .int .u16 0, .int .i64 cd, .int .i64 lv, .bool mo, .int .i64 0, .slice A l.length c] 32)
  have hr := tellRight_ok 43 0 0 0 0 0 cd lv 0 mo none none A 0 0 0 0 c l _ (by decide) (by omega) (by omega) (by omega) (by omega) (by omega) (by omega) (hl.keeps hk) hs hn hb (by omega) (by omega)
  have e2 : tellRightB 43 0 0 0 0 0 0 cd lv mo 0 0 0 l = objsOk 7 l := by
    have c1 : countsB cd 4 = true := by simp [countsB]; omega
    have c2 : isByteB lv = true := by simp [isByteB]; omega
    have c3 : isByteB 0 = true := by decide
    have c4 : kKnown 43 = true := by decide
    unfold tellRightB
    rw [if_pos rfl, c4, hb]
    simp [tRest, c1, c2, c3]
  rw [e2] at hr
  have HR := Lib.hid hr
  clear hr hb hl hs e2 hcd hlv
  go_enter Try.func26, Try.ntmps26
  go_wp2_with (fail)
  refine HR.out.mono ?_
  rintro e w' ⟨rfl, hk2⟩
  go_wp2
  go_ret
  exact ⟨rfl, hk.trans hk2⟩
end Go.Proofs.Ytjiodnilhfpikaa

/-
  The walk over Objects: objects that may be, by numbers.
-/
import Derived.Test.YtjiodnilhfpikaaIdenG
import Derived.Test.YtjiodnilhfpikaaRow
import Derived.Deep.OwnRows
import Derived.Deep.CutRange
import Derived.Deep.CutBlock
import Derived.Laws.BytesArg
set_option linter.unusedVariables false
set_option linter.unusedSimpArgs false
namespace Go.Proofs.Ytjiodnilhfpikaa
open Go.RowKit

/-- Objects that may be. -/
structure Good (l : List Ob) : Prop where
  base : ∃ x y z r, l = ((0 : Int), x) :: ((1 : Int), y) :: ((2 : Int), z) :: r
  rise : l.Pairwise (fun a b => a.1 < b.1)
  ids : ∀ o ∈ l, 0 ≤ o.1 ∧ o.1 ≤ 255
  text : ∀ o ∈ l, o.2.size ≤ 244
  few : l.length ≤ 43
theorem Good.snoc {l : List Ob} {id id' : Int} {s : ByteArray} (h : Good l) (hi : ∀ o ∈ l, o.1 ≤ id) (h1 : id < id') (h2 : id' ≤ 255) (h0 : 0 ≤ id') (hs : s.size ≤ 244) (hl : l.length ≤ 42) : Good (l ++ [(id', s)]) where
  base := by
    obtain ⟨x, y, z, r, e⟩ := h.base
    exact ⟨x, y, z, r ++ [(id', s)], by rw [e]; rfl⟩
  rise := by
    rw [List.pairwise_append]
    refine ⟨h.rise, by simp, fun a ha b hb => ?_⟩
    obtain rfl : b = (id', s) := by simpa using hb
    have := hi a ha
    show a.1 < id'
    omega
  ids := fun o ho => by
    rcases List.mem_append.1 ho with ho | ho
    · exact h.ids o ho
    · obtain rfl : o = (id', s) := by simpa using ho
      exact ⟨h0, h2⟩
  text := fun o ho => by
    rcases List.mem_append.1 ho with ho | ho
    · exact h.text o ho
    · obtain rfl : o = (id', s) := by simpa using ho
      exact hs
  few := by simp; omega
theorem Good.one {l : List Ob} {s : ByteArray} (h : Good l) (hs : s.size ≤ 244) : Good (l.set 1 (1, s)) := by
  obtain ⟨x, y, z, r, rfl⟩ := h.base
  refine ⟨⟨x, s, z, r, rfl⟩, ?_, ?_, ?_, ?_⟩
  · have := h.rise
    simp only [List.set_cons_succ, List.set_cons_zero, List.pairwise_cons] at this ⊢
    refine ⟨fun a ha => ?_, fun a ha => this.2.1 a ha, this.2.2⟩
    rcases List.mem_cons.1 ha with rfl | ha
    · show (0 : Int) < 1; omega
    · exact this.1 a (List.mem_cons_of_mem _ ha)
  · intro o ho
    have := h.ids
    simp only [List.set_cons_succ, List.set_cons_zero, List.mem_cons] at this ho
    rcases ho with rfl | rfl | rfl | ho
    · exact this _ (.inl rfl)
    · exact ⟨by show (0:Int) ≤ 1; omega, by show (1:Int) ≤ 255; omega⟩
    · exact this _ (.inr (.inr (.inl rfl)))
    · exact this _ (.inr (.inr (.inr ho)))
  · intro o ho
    have := h.text
    simp only [List.set_cons_succ, List.set_cons_zero, List.mem_cons] at this ho
    rcases ho with rfl | rfl | rfl | ho
    · exact this _ (.inl rfl)
    · exact hs
    · exact this _ (.inr (.inr (.inl rfl)))
    · exact this _ (.inr (.inr (.inr ho)))
  · simpa using h.few

theorem own_set {w : World} {base : Nat} {e : TypeId} {size n g c : Nat} {cs : List Value} (h : w.ownsRow base e size (.slice (some ⟨g, 0, none⟩) n c) n cs) (i : Nat) (v : Value) (hv : v.oneCell' = true) :
    (w.setCell ⟨g, i, none⟩ v).ownsRow base e size (.slice (some ⟨g, 0, none⟩) n c) n (cs.set i v) := by
  refine ⟨by rw [List.length_set]; exact h.1, ?_⟩
  rcases h.2 with ⟨h0, _⟩ | ⟨g', cap', cur, h0, hg, hh, hn, hm, hs, htk⟩
  · cases h0
  · injection h0 with ha hb hc
    injection ha with ha
    injection ha with ha _ _
    subst ha; subst hc
    refine .inr ⟨g, c, cur.setIfInBounds i v, rfl, hg, heap_setCell_same w g i cur e v hh, hn, hm, by simpa using hs, ?_⟩
    rw [Array.toList_setIfInBounds, List.take_set, htk]
theorem byteInfo : (Try.prog.info? 5).map (fun i => (i.zero, i.size, i.bytes)) = some (some (.int .u8 0), 1, 1) := by kernel_rfl

/-- Bytes as cells. -/
abbrev byteCells (xs : List Int) : Array Value := (xs.map (Value.int .u8)).toArray
theorem made_bytes (n : Nat) : madeCells #[.int .u8 0] n = byteCells (List.replicate n 0) := by
  apply Array.toList_inj.1
  rw [toList_madeCells_one]
  simp
theorem wpList_make_bytes {P : Program} {w : World} {ops : Array Oper} {rest : List Oper} {o : Oper} {a : Act} {Q : Exit → Act → World → Prop}
    (hg : o.guard = none) (l c : Operand) (t e : TypeId) (hop : o.op = Op.makeSlice t l c) (ht : P.underlying t = some (.slice e)) (hinfo : (P.info? e).map (fun i => (i.zero, i.size, i.bytes)) = some (some (.int .u8 0), 1, 1))
    (n : Nat) (hl : a.eval l = .int .i64 (n : Int)) (hc : a.eval c = .int .i64 (n : Int)) (hn : n ≤ 1000000)
    (hK : wpList P ops Q rest (a.put o.dst (.slice (some ⟨w.heap.size, 0, none⟩) n n)) (w.alloc (.cells (byteCells (List.replicate n 0)) e))) :
    wpList P ops Q (o :: rest) a w := by
  obtain ⟨i, hi, hzz⟩ := Option.map_eq_some_iff.1 hinfo
  simp only [Prod.mk.injEq] at hzz
  obtain ⟨hz, hs, hb⟩ := hzz
  exact wpList_make_row w hg l c t hop e i _ ht hi hz hs rfl .i64 .i64 n hl hc (by rw [hb]; omega) (by omega) (by rw [made_bytes]; exact hK)
theorem conv_bytes {P : Program} {w : World} {src e dst : TypeId} {g : Nat} {xs : List Int} (hs : P.underlying src = some (.slice e)) (he : P.underlying e = some (.int .u8)) (hd : P.underlying dst = some .string) (h : w.heap[g]? = some (.cells (byteCells xs) e (0, 0))) (n cap : Nat) (hn : xs.length = n) :
    (convert src dst (.slice (some ⟨g, 0, none⟩) n cap)).run P w = .ok (.string (strOfNums xs)) w :=
  run_convert_bytes_arg w src e hs he g 0 n cap xs hn (fun i hi => by
    rw [(cells_at h).1, Nat.zero_add]
    simp [List.getElem?_eq_getElem (show i < xs.length by omega)]) dst hd
theorem byteCells_set (xs : List Int) (k : Nat) (y : Int) : (byteCells xs).setIfInBounds k (.int .u8 y) = byteCells (xs.set k y) := by
  apply Array.toList_inj.1
  simp [List.map_set]
theorem bytes_stored {W : World} {g : Nat} {xs : List Int} {T : TypeId} (h : W.heap[g]? = some (.cells (byteCells xs) T (0, 0))) (k : Nat) (y : Int) : (W.setCell ⟨g, k, none⟩ (.int .u8 y)).heap[g]? = some (.cells (byteCells (xs.set k y)) T (0, 0)) :=
  (heap_setCell_same W g k _ _ _ h).trans (by rw [byteCells_set])
theorem add_zero_addr (x : Addr) : x.add 0 = x := by unfold Addr.add; split <;> simp_all
theorem obs_set_one (x y s : ByteArray) (a b : Ob) (r : List Ob) : (obsCells (a :: (1, y) :: r)).set 3 (.string s) = obsCells (a :: (1, s) :: r) := rfl

/-- Objects that may be, in a new row. -/
def GivesGood (w : World) (e : Ending) (w' : World) : Prop := ∃ (l : List Ob) (v : Value), e = .returned v ∧ w'.ownsRow w.heap.size 36 2 v l.length (obsCells l) ∧ Keeps Nope w w' ∧ Good l

set_option maxRecDepth 100000 in
set_option maxHeartbeats 4000000 in
theorem objects_any (A : Option Addr) (len cap : Nat) (zs : List Int) (w : World) (hrow : IsRow .i64 w A len cap zs) :
    Calls Try.prog 8 #[.slice A len cap] w (GivesGood w) := by
  have HROW := Lib.hid hrow
  have hmax : len ≤ 9223372036854775807 := hrow.len_le
  clear hrow
  go_enter Try.func8, Try.ntmps8
  go_upto_block 0 with (fail)
  have HI0 : Hid ((w.alloc (.cells #[.int .i64 0, .string ⟨#[98, 117, 115, 98, 97, 114]⟩, .int .i64 1, .string ⟨#[]⟩, .int .i64 2, .string ⟨#[49]⟩] 36)).ownsRow w.heap.size 36 2 (.slice (some ⟨w.heap.size, 0, none⟩) 3 3) 3 (obsCells [(0, ⟨#[98, 117, 115, 98, 97, 114]⟩), (1, ⟨#[]⟩), (2, ⟨#[49]⟩)])) :=
    World.ownsRow_lit (base := w.heap.size) (e := 36) (size := 2) w #[.int .i64 0, .string ⟨#[98, 117, 115, 98, 97, 114]⟩, .int .i64 1, .string ⟨#[]⟩, .int .i64 2, .string ⟨#[49]⟩] 3 (Nat.le_refl _) (by simp [maxLen]) rfl
  have HK0 := Lib.hid ((Keeps.refl Nope w).alloc (.cells #[.int .i64 0, .string ⟨#[98, 117, 115, 98, 97, 114]⟩, .int .i64 1, .string ⟨#[]⟩, .int .i64 2, .string ⟨#[49]⟩] 36))
  go_cut [3] from 4 (fun v3 wx => ∃ acc : List Ob, Hid (wx.ownsRow w.heap.size 36 2 v3 acc.length (obsCells acc)) ∧ Hid (Keeps Nope w wx) ∧ Hid (Good acc))
  case rest =>
    obtain ⟨acc, HOW, HKR, HG⟩ := hcut
    clear HI0 HK0
    by_cases hpos : 0 < len
    · obtain ⟨x, rfl, hc, hI⟩ := (HROW.out.keeps HKR.out).at_ hpos
      have HII := Lib.hid hI
      generalize zs.getD 0 0 = z at *
      rw [add_zero_addr] at hc
      obtain ⟨b0, b1, b2, rr, rfl⟩ := HG.out.base
      rcases HOW.out.2 with ⟨_, h0⟩ | ⟨g3, c3, cur, rfl, hg3, hh, hn3, hm3, hs3, ht3⟩
      · simp at h0
      have hcs : 3 < cur.size := by rw [hs3]; simp at hn3; omega
      obtain ⟨cc, ff⟩ := cells_at hh
      have hg3l := heap_lt hh
      have c3n : ∀ o : Obj, (wc.alloc o).cell? ⟨g3, 3, none⟩ = some cur[3] := fun o => (World.cell?_alloc_lt wc o ⟨g3, 3, none⟩ hg3l).trans ((cc 3).trans (Array.getElem?_eq_getElem hcs))
      have f3n : ∀ o : Obj, (wc.alloc o).frozen? ⟨g3, 3, none⟩ = false := fun o => (cells_at (show (wc.alloc o).heap[g3]? = some (.cells cur 36 (0, 0)) from (Below.heap_alloc wc o _ hg3l).trans hh)).2 3
      have hd := dig_range z 2940 245 (by omega)
      obtain ⟨n, hn⟩ := Int.eq_ofNat_of_zero_le hd.1
      have hn2 : n ≤ 244 := by omega
      obtain ⟨m, hm⟩ : ∃ m, m = (((0 : Int), b0) :: ((1 : Int), b1) :: ((2 : Int), b2) :: rr).length := ⟨_, rfl⟩
      have hm3' : 3 ≤ m := by rw [hm]; simp
      have HCV := Lib.hid (fun (w9 : World) (h : w9.heap[wc.heap.size]? = some (.cells (byteCells (List.replicate n 0)) 5 (0, 0))) => conv_bytes (P := Try.prog) (src := 44) (dst := 9) Try.underlying44 Try.underlying5 Try.underlying9 h n n (by simp))
      have HCV2 := HCV.out _ (heap_alloc_new wc (.cells (byteCells (List.replicate n 0)) 5))
      rw [← hm]
      go_wp2_with (first | (go_at_call 22; (with_reducible refine (digit_any _ _ _ _ HII.out (by omega) (by omega) (by omega)).mono ?_); rintro e w5 ⟨rfl, rfl⟩; rw [hn]) | (refine wpList_make_bytes rfl _ _ 44 5 rfl Try.underlying44 byteInfo n rfl rfl (by omega) ?_))
      go_ret
      refine ⟨((0 : Int), b0) :: ((1 : Int), strOfNums (List.replicate n 0)) :: ((2 : Int), b2) :: rr, _, rfl, ?_, (HKR.out.setCell (p := ⟨g3, 3, none⟩) (.inl hg3) _).alloc _, HG.out.one (by rw [strOfNums_size]; simpa using hn2)⟩
      exact own_more (own_set HOW.out 3 (.string (strOfNums (List.replicate n 0))) rfl) ((Keeps.refl Nope _).alloc _)
    · go_wp2_with (fail)
      go_ret
      exact ⟨acc, _, rfl, HOW.out, HKR.out, HG.out⟩
  go_wp2_with (fail)
  go_loopw [3, 4, 5, 6, 7] (fun v3 v4 v5 v6 v7 wr => ∃ (i : Nat) (id : Int) (acc : List Ob), i ≤ len ∧ i ≤ 40 ∧ v5 = .int .i64 (i : Int) ∧ v4 = .int .i64 id ∧ 2 ≤ id ∧ id ≤ 255 ∧ Hid (wr.ownsRow w.heap.size 36 2 v3 acc.length (obsCells acc)) ∧ Hid (Keeps Nope w wr) ∧ Hid (Good acc ∧ (∀ o ∈ acc, o.1 ≤ id) ∧ acc.length ≤ 3 + i)) (fun _ _ v5 _ _ _ => (len - (intOf v5)).toNat)
  case atStart =>
    refine ⟨0, 2, _, by omega, by omega, rfl, rfl, by omega, by omega, HI0, HK0, ⟨⟨_, _, _, [], rfl⟩, ?_, ?_, ?_, ?_⟩, ?_, ?_⟩
    · simp
    · simp
    · intro o ho
      rcases List.mem_cons.1 ho with rfl | ho
      · decide
      rcases List.mem_cons.1 ho with rfl | ho
      · decide
      obtain rfl := List.mem_singleton.1 ho
      decide
    · simp
    · simp
    · simp
  case round =>
    obtain ⟨i, id, acc, hi1, hi2, rfl, rfl, hid2, hid255, HOW, HKR, HG⟩ := hrel
    clear HI0 HK0
    by_cases hlt : i < len
    · by_cases hlt2 : i < 40
      · obtain ⟨x, rfl, hc, hI⟩ := (HROW.out.keeps HKR.out).at_ hlt
        have HII := Lib.hid hI
        generalize zs.getD i 0 = z at *
        have hz1 := Int.emod_nonneg z (show (12 : Int) ≠ 0 by omega)
        have hz2 := Int.emod_lt_of_pos z (show (0 : Int) < 12 by omega)
        have hw1 : wrap64 (id + 1) = id + 1 := by unfold wrap64; omega
        have hw2 : wrap64 (id + 1 + z % 12) = id + 1 + z % 12 := by unfold wrap64; omega
        go_wp2_with (go_at_call 9; (with_reducible refine (within_any _ _ _ (by omega) (by omega)).mono ?_); rintro e w5 ⟨rfl, rfl⟩)
        · go_meet
          case rel => exact ⟨acc, HOW, HKR, HG.out.1⟩
        have hd := dig_range z 12 245 (by omega)
        obtain ⟨n, hn⟩ := Int.eq_ofNat_of_zero_le hd.1
        have hn2 : n ≤ 244 := by omega
        refine (digit_any _ _ _ _ HII.out (by omega) (by omega) (by omega)).mono ?_
        rintro e w5 ⟨rfl, rfl⟩
        rw [hn]
        go_wp2_with (refine wpList_make_bytes rfl _ _ 44 5 rfl Try.underlying44 byteInfo n rfl rfl (by omega) ?_)
        have HB0 := Lib.hid (heap_alloc_new wr (.cells (byteCells (List.replicate n 0)) 5))
        have HKB := Lib.hid ((Keeps.refl Nope wr).alloc (.cells (byteCells (List.replicate n 0)) 5))
        generalize wr.alloc (.cells (byteCells (List.replicate n 0)) 5) = wb at *
        have HGB : Hid (wr.heap.size ≤ wr.heap.size) := Nat.le_refl _
        generalize hgb : wr.heap.size = gB at *
        replace HGB : Hid (wr.heap.size ≤ gB) := Nat.le_of_eq hgb
        clear hgb
        go_loopw [7] (fun v7 W => ∃ (k : Nat) (xs : List Int), v7 = .int .i64 (k : Int) ∧ k ≤ n ∧ Hid (xs.length = n) ∧ Hid (W.heap[gB]? = some (.cells (byteCells xs) 5 (0, 0))) ∧ Hid (Keeps Nope wr W)) (fun v7 _ => (n - (intOf v7)).toNat)
        case atStart => exact ⟨0, _, rfl, by omega, by show _ = _; simp, HB0, HKB⟩
        case round =>
          obtain ⟨k, xs, rfl, hk, HX, HB, HKW⟩ := hrel
          clear HB0 HKB
          by_cases hkn : k < n
          · obtain ⟨cB, fB⟩ := cells_at HB.out
            have cBk : (byteCells xs)[k]? = some (.int .u8 (xs.getD k 0)) := by
              have := HX.out
              simp [List.getElem?_eq_getElem (show k < xs.length by omega)]
            have cBk2 := (cB k).trans cBk
            go_wp2_with (fail)
            go_roundw
            case rel => exact ⟨k + 1, _, by simp, by omega, by show _ = _; rw [List.length_set]; exact HX.out, bytes_stored HB.out k _, HKW.out.setCell (p := ⟨gB, k, none⟩) (.inl HGB.out) _⟩
            case measure => simp [intOf]; omega
          · have HCV := Lib.hid (conv_bytes (P := Try.prog) (src := 44) (dst := 9) Try.underlying44 Try.underlying5 Try.underlying9 HB.out n n HX.out)
            have HCV2 := HCV.out
            have hsx : (strOfNums xs).size = n := (strOfNums_size xs).trans HX.out
            generalize strOfNums xs = sx at *
            have HKW2 := Lib.hid (HKR.out.trans HKW.out)
            have HOW2 := Lib.hid (own_more HOW.out HKW.out)
            have HG2 := HG.out
            have hacc : acc.length ≤ 43 := by omega
            have hb1 : ∀ u ∈ obCells (id + 1 + z % 12, sx), u.oneCell' = true := by intro u hu; simp [obCells] at hu; rcases hu with rfl | rfl <;> rfl
            go_wp2_with (at_builtin; refine wpList_app rfl _ _ 24 36 _ 2 24 rfl Try.underlying24 obInfo rfl (by omega) Nope w u3 acc.length (obsCells acc) (some ⟨_, 0, none⟩) 1 1 (obCells (id + 1 + z % 12, sx)) (by rfl) (by rfl) (own_more HOW2.out ((Keeps.refl Nope _).alloc _)) (lies_block (heap_alloc_new _ _)) rfl hb1 (by omega) (by omega) (HKW2.out.alloc _) ?_; intro v1 w1 hown1 hk1 _ _)
            have hsn : acc.length ≤ 42 := by omega
            rw [obs_snoc] at hown1
            go_roundw
            case rel =>
              refine ⟨i + 1, id + 1 + z % 12, acc ++ [(id + 1 + z % 12, sx)], by omega, by omega, by simp, rfl, by omega, by omega, ?_, hk1, HG2.1.snoc HG2.2.1 (by omega) (by omega) (by omega) (by omega) hsn, fun o ho => ?_, by simp; omega⟩
              · show World.ownsRow _ _ _ _ _ _ _
                rw [List.length_append]
                exact hown1
              · rcases List.mem_append.1 ho with ho | ho
                · have := HG2.2.1 o ho
                  omega
                · obtain rfl : o = (id + 1 + z % 12, sx) := by simpa using ho
                  exact Int.le_refl _
            case measure => simp [intOf]; omega
      · go_wp2_with (fail)
        go_meet
        case rel => exact ⟨acc, HOW, HKR, HG.out.1⟩
    · go_wp2_with (fail)
      go_meet
      case rel => exact ⟨acc, HOW, HKR, HG.out.1⟩
end Go.Proofs.Ytjiodnilhfpikaa

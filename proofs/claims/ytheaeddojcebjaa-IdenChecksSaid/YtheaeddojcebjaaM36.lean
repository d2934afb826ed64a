/-
  The cursor of replies.
-/
import Derived.Test.YtheaeddojcebjaaM35
set_option maxRecDepth 100000
set_option maxHeartbeats 4000000
set_option linter.unusedVariables false
set_option linter.unusedSimpArgs false
namespace Go.Proofs.Ytheaeddojcebjaa
open Go.RowKit

/-- Some bytes off a list, what is left, and whether too few were there. -/
def sm (n : Int) (xs : List Int) : List Int := if xs.length < n then [] else xs.take n.toNat
def sl (n : Int) (xs : List Int) : List Int := if xs.length < n then xs else xs.drop n.toNat
def sb (n : Int) (xs : List Int) : Bool := decide (xs.length < n)
theorem tSome_ok {xs : List Int} {bad : Bool} {n : Int} (hl : xs.length ≤ 1000000) (hn : 0 ≤ n ∧ n ≤ 255) : FnOk Try.prog 151 [vC (.ptr 0 0), vI .i64 n] [cur xs bad] (vBy (sm n xs)) [cur (sl n xs) (bad || sb n xs)] := by
  obtain ⟨m, rfl⟩ := Int.eq_ofNat_of_zero_le hn.1
  by_cases h : xs.length < m
  · have e1 : sm m xs = [] := if_pos (by omega)
    have e2 : sl m xs = xs := if_pos (by omega)
    have e3 : sb m xs = true := decide_eq_true (by omega)
    rw [e1, e2, e3, Bool.or_true]
    exact FnOk.go t151 [.b 12 true] [0] [] rfl rfl rfl rfl rfl rfl (by simp) ⟨decide_eq_true (by omega), by simp⟩ trivial (.e (.c (.t (.nil 1))))
  · have e1 : sm m xs = xs.take m := if_neg (by omega)
    have e2 : sl m xs = xs.drop m := if_neg (by omega)
    have e3 : sb m xs = false := decide_eq_false (by omega)
    rw [e1, e2, e3, Bool.or_false]
    refine FnOk.go t151 [.b 12 false] [0] [] rfl rfl rfl rfl rfl rfl ?_ ?_ trivial (.of ?_)
    · exact cur_drop (n := m) (by omega)
    · simp
      omega
    · simp [rI_take]
      omega
theorem tByte_ok {xs : List Int} {bad : Bool} (hb : Byt xs) (hl : xs.length ≤ 1000000) : FnOk Try.prog 150 [vC (.ptr 0 0)] [cur xs bad] (vI .i64 (xs.getD 0 0)) [cur (xs.drop 1) (bad || decide (xs.length = 0))] := by
  have hs := tSome_ok (xs := xs) (bad := bad) (n := 1) hl (by omega)
  have hx := at_byt hb 0
  by_cases h : xs.length = 0
  · have : xs = [] := List.eq_nil_of_length_eq_zero h
    subst this
    exact FnOk.go t150 [.call [0] [] (vBy []) [cur [] true], .b 8 true] [0] [] rfl rfl rfl rfl rfl rfl (by simp) ⟨trivial, by simpa [sm, sl, sb] using hs, by simp, trivial⟩ trivial (.refl _)
  · have e1 : sm 1 xs = xs.take 1 := if_neg (by omega)
    have e2 : sl 1 xs = xs.drop 1 := if_neg (by omega)
    have e3 : sb 1 xs = false := decide_eq_false (by omega)
    have e4 : decide (xs.length = 0) = false := decide_eq_false h
    rw [e1, e2, e3] at hs
    rw [e4]
    have hlen : (xs.take 1).length = 1 := by rw [List.length_take]; omega
    refine FnOk.go t150 [.call [0] [] (vBy (xs.take 1)) [cur (xs.drop 1) (bad || false)], .b 8 false, .at [.int .u8 (xs.getD 0 0)]] [0] [] rfl rfl rfl rfl rfl rfl rfl ⟨trivial, hs, by rw [hlen]; rfl, ⟨⟨by omega, by rw [hlen]; omega⟩, rfl, ?_⟩, by omega, trivial⟩ trivial (.refl _)
    rw [show (0 : Int).toNat = 0 from rfl, rI_get (by omega)]
    simp [List.getD_eq_getElem?_getD, List.getElem?_take]
theorem RetQ.ofN (σ τ : List Nat) {res : List AR} {n0 : Nat} {r : V} {hs hl : List Ob} {ρ : Env} {p : Prop} {r' : V} {hs' : List Ob} (h : finR res σ τ n0 ρ hl = some (p, r', hs')) (hp : p) (hr : V.le r' r) (hh : hs' = hs) : RetQ res n0 r hs .normal ρ hl :=
  ⟨.inl rfl, (RetQ.of σ τ h hp hr hh).2⟩
theorem tMust_ok {xs : List Int} {bad ok : Bool} : FnOk Try.prog 152 [vC (.ptr 0 0), vB ok] [cur xs bad] (.tup []) [cur xs (bad || !ok)] := by
  refine FnOk.start t152 rfl rfl rfl ?_
  cases bad with
  | true => exact Tri.go [] rfl (by simp) (RetQ.ofN [0] [] rfl trivial (.refl _) rfl)
  | false => exact Tri.go [] rfl (by simp) (RetQ.ofN [0] [] rfl trivial (.refl _) (by simp))
theorem tWord_ok {xs : List Int} {bad : Bool} (hb : Byt xs) (hl : xs.length ≤ 1000000) : FnOk Try.prog 139 [vC (.ptr 0 0)] [cur xs bad] (vI .u16 (cw xs)) [cur (cl xs) (bad || cb xs)] := by
  have hs := tSome_ok (xs := xs) (bad := bad) (n := 2) hl (by omega)
  have hb' : Byt (sm 2 xs) := by
    unfold sm; split
    · exact fun x hx => nomatch hx
    · exact fun x hx => hb x (List.mem_of_mem_take hx)
  have hg := get_ok hb' (k := 0) (by unfold sm; split <;> simp; omega) (by omega)
  have e1 : sl 2 xs = cl xs := by
    unfold sl cl
    by_cases h : 2 ≤ xs.length
    · rw [if_neg (by omega), if_pos h]; rfl
    · rw [if_pos (by omega), if_neg h]
  have e2 : sb 2 xs = cb xs := by
    unfold sb cb
    exact decide_eq_decide.2 (by omega)
  have e3 : (if has2 (sm 2 xs) 0 then wAt (sm 2 xs) (0 : Int).toNat else 0) = cw xs := by
    by_cases h : 2 ≤ xs.length
    · have e : sm 2 xs = xs.take 2 := if_neg (by omega)
      have e' : cw xs = wAt xs 0 := if_pos h
      rw [e, e', if_pos (by simp [has2]; omega)]
      simp [wAt, List.getD_eq_getElem?_getD, List.getElem?_take]
    · have e : sm 2 xs = [] := if_pos (by omega)
      have e' : cw xs = 0 := if_neg h
      rw [e, e', if_neg (by simp [has2])]
  rw [e1, e2] at hs
  rw [e3] at hg
  exact FnOk.go t139 [.call [0] [] (vBy (sm 2 xs)) [cur (cl xs) (bad || cb xs)], .lend [] (.tup [.c (.t (.int .u16 (cw xs))), .c (.t (.bool (has2 (sm 2 xs) 0)))])] [0] [] rfl rfl rfl rfl rfl rfl rfl ⟨trivial, hs, trivial, hg, trivial⟩ trivial (.refl _)
theorem tCoil_ok {xs : List Int} {bad : Bool} (hb : Byt xs) (hl : xs.length ≤ 1000000) : FnOk Try.prog 140 [vC (.ptr 0 0)] [cur xs bad] (vI .u16 (cw xs / 65280)) [cur (cl xs) (bad || cb xs || !decide (cw xs = 0 ∨ cw xs = 65280))] := by
  have hr := cw_rng hb
  have e : IntKind.u16.wrap ((cw xs).tdiv 65280) = cw xs / 65280 := by rw [Int.tdiv_eq_ediv_of_nonneg hr.1, wu16]; omega
  have hw := tWord_ok (bad := bad) hb hl
  have hm := tMust_ok (xs := cl xs) (bad := bad || cb xs) (ok := decide (cw xs = 0 ∨ cw xs = 65280))
  by_cases h1 : cw xs = 0
  · have d : decide (cw xs = 0 ∨ cw xs = 65280) = true := decide_eq_true (.inl h1)
    rw [d] at hm ⊢
    refine FnOk.go t140 [.call [0] [] (vI .u16 (cw xs)) [cur (cl xs) (bad || cb xs)], .b 9 true, .call [0] [] (.tup []) [cur (cl xs) (bad || cb xs || !true)]] [0] [] rfl rfl rfl rfl rfl rfl rfl ?_ trivial (.of (by rw [e]))
    simp only [true_and, and_true]
    exact ⟨hw, by simp [h1], hm, by decide⟩
  · have d : decide (cw xs = 0 ∨ cw xs = 65280) = (cw xs == 65280) := by
      rw [Bool.eq_iff_iff, decide_eq_true_iff, beq_iff_eq]
      omega
    rw [d] at hm ⊢
    refine FnOk.go t140 [.call [0] [] (vI .u16 (cw xs)) [cur (cl xs) (bad || cb xs)], .b 9 false, .call [0] [] (.tup []) [cur (cl xs) (bad || cb xs || !(cw xs == 65280))]] [0] [] rfl rfl rfl rfl rfl rfl rfl ?_ trivial (.of (by rw [e]))
    simp only [true_and, and_true]
    exact ⟨hw, by simp [h1], hm, by decide⟩
/-- Coils behind the byte that tells how many bytes they take. -/
def bOk (xs : List Int) (n : Int) : Bool := decide (1 ≤ xs.length ∧ xs.getD 0 0 = (xs.drop 1).length) && fit (xs.drop 1) n
theorem tCoils_ok {xs : List Int} {n : Int} (hb : Byt xs) (hl : xs.length ≤ 1000000) (hn : b64 n) : ∃ l ys bad', (bad' = false ∧ ys = [] ↔ bOk xs n = true) ∧ (bOk xs n = true → l = unpackL (xs.drop 1) n.toNat) ∧ l.length ≤ 1000000000 ∧
    FnOk Try.prog 137 [vC (.ptr 0 0), vI .i64 n] [cur xs false] (vD (lF l)) [cur ys bad'] := by
  have hx := at_byt hb 0
  have hb' : Byt (xs.drop 1) := fun x hx => hb x (List.mem_of_mem_drop hx)
  have h1 := tByte_ok (bad := false) hb hl
  have h2 := tSome_ok (xs := xs.drop 1) (bad := false || decide (xs.length = 0)) (n := xs.getD 0 0) (by simp; omega) hx
  have hs : Byt (sm (xs.getD 0 0) (xs.drop 1)) := by
    unfold sm; split
    · exact fun x hx => nomatch hx
    · exact fun x hx => hb' x (List.mem_of_mem_take hx)
  have hsl : (sm (xs.getD 0 0) (xs.drop 1)).length ≤ 1000000 := by unfold sm; split <;> simp; omega
  have h3 := unpack_ok hs (by omega) hn
  have h4 := tMust_ok (xs := sl (xs.getD 0 0) (xs.drop 1)) (bad := false || decide (xs.length = 0) || sb (xs.getD 0 0) (xs.drop 1)) (ok := fit (sm (xs.getD 0 0) (xs.drop 1)) n)
  have g1 : 1 ≤ xs.length → xs.getD 0 0 = (xs.drop 1).length → sm (xs.getD 0 0) (xs.drop 1) = xs.drop 1 ∧ sl (xs.getD 0 0) (xs.drop 1) = [] := by
    intro h1 h2
    rw [h2]
    refine ⟨(if_neg (by omega)).trans ?_, (if_neg (by omega)).trans ?_⟩
    · rw [Int.toNat_natCast, List.take_length]
    · rw [Int.toNat_natCast, List.drop_length]
  have g2 : 1 ≤ xs.length → xs.getD 0 0 ≠ (xs.drop 1).length → sb (xs.getD 0 0) (xs.drop 1) = true ∨ sl (xs.getD 0 0) (xs.drop 1) ≠ [] := by
    intro h1 h2
    by_cases h : ((xs.drop 1).length : Int) < xs.getD 0 0
    · exact .inl (decide_eq_true h)
    · refine .inr ?_
      have e : sl (xs.getD 0 0) (xs.drop 1) = (xs.drop 1).drop (xs.getD 0 0).toNat := if_neg h
      rw [e]
      intro hh
      have := congrArg List.length hh
      rw [List.length_drop] at this
      simp only [List.length_nil] at this
      omega
  have g3 : sb (xs.getD 0 0) (xs.drop 1) = true → xs.getD 0 0 ≠ (xs.drop 1).length := by
    intro h
    have := of_decide_eq_true h
    omega
  generalize hS : sm (xs.getD 0 0) (xs.drop 1) = S at *
  generalize hR : sl (xs.getD 0 0) (xs.drop 1) = R at *
  generalize hB : sb (xs.getD 0 0) (xs.drop 1) = B at *
  refine ⟨if fit S n then unpackL S n.toNat else [], R, (false || decide (xs.length = 0) || B || !fit S n), ?_, ?_, ?_, FnOk.go t137 [.call [0] [] (vI .i64 (xs.getD 0 0)) [cur (xs.drop 1) (false || decide (xs.length = 0))], .call [0] [] (vBy S) [cur R (false || decide (xs.length = 0) || B)], .call [] [] (.tup [.c (.t (lF (if fit S n then unpackL S n.toNat else []))), .c (.t (.bool (fit S n)))]) [],
    .call [0] [] (.tup []) [cur R (false || decide (xs.length = 0) || B || !fit S n)]] [0] [] rfl rfl rfl rfl rfl rfl rfl ?_ trivial (.refl _)⟩
  · unfold bOk
    by_cases h0 : 1 ≤ xs.length ∧ xs.getD 0 0 = (xs.drop 1).length
    · obtain ⟨e1, e2⟩ := g1 h0.1 h0.2
      have hB' : B = false := by cases B with
        | false => rfl
        | true => exact absurd h0.2 (g3 rfl)
      rw [hB', e1, e2, decide_eq_true h0, decide_eq_false (by omega)]
      simp
    · rw [decide_eq_false h0, Bool.false_and]
      constructor
      · rintro ⟨q1, q2⟩
        simp only [Bool.or_eq_false_iff, Bool.false_or, decide_eq_false_iff_not] at q1
        rcases g2 (by omega) (fun hh => h0 ⟨by omega, hh⟩) with hh | hh
        · rw [q1.1.2] at hh; cases hh
        · exact absurd q2 hh
      · exact fun h => nomatch h
  · intro h
    simp only [bOk, Bool.and_eq_true, decide_eq_true_eq] at h
    obtain ⟨e1, e2⟩ := g1 h.1.1 h.1.2
    rw [e1, if_pos h.2]
  · split
    · rename_i h
      rw [unpackL_len]
      simp only [fit, decide_eq_true_eq] at h
      unfold nBytes at h
      split at h <;> omega
    · simp
  · simp only [true_and, and_true]
    exact ⟨h1, h2, h3, h4⟩
def cL (zs : List Int) : Nat → List Int
  | 0 => zs
  | i + 1 => cl (cL zs i)
def cB (zs : List Int) (b : Bool) : Nat → Bool
  | 0 => b
  | i + 1 => cB zs b i || cb (cL zs i)
def cW (zs : List Int) (i : Nat) : List Int := (List.range i).map fun j => cw (cL zs j)
theorem cW_len (zs : List Int) (i : Nat) : (cW zs i).length = i := by simp [cW]
theorem cW_succ (zs : List Int) (i : Nat) : cW zs (i + 1) = cW zs i ++ [cw (cL zs i)] := by simp [cW, List.range_succ]
theorem cL_byt {zs : List Int} (h : Byt zs) : ∀ i, Byt (cL zs i)
  | 0 => h
  | i + 1 => cl_byt (cL_byt h i)
theorem cL_len (zs : List Int) : ∀ i, (cL zs i).length ≤ zs.length
  | 0 => Nat.le_refl _
  | i + 1 => Nat.le_trans (cl_len _) (cL_len zs i)
theorem cL_drop {zs : List Int} : ∀ {i : Nat}, 2 * i ≤ zs.length → cL zs i = zs.drop (2 * i)
  | 0, _ => by simp [cL]
  | i + 1, h => by
    have := cL_drop (zs := zs) (i := i) (by omega)
    unfold cL
    rw [this]
    unfold cl
    rw [if_pos (by simp; omega), List.drop_drop]
    congr 1
theorem cB_ok {zs : List Int} {b : Bool} : ∀ {i : Nat}, cB zs b i = false ↔ b = false ∧ 2 * i ≤ zs.length
  | 0 => by simp [cB]
  | i + 1 => by
    unfold cB
    rw [Bool.or_eq_false_iff, cB_ok]
    constructor
    · rintro ⟨⟨h1, h2⟩, h3⟩
      rw [cL_drop h2] at h3
      have := of_decide_eq_false h3
      simp at this
      exact ⟨h1, by omega⟩
    · rintro ⟨h1, h2⟩
      refine ⟨⟨h1, by omega⟩, ?_⟩
      rw [cL_drop (by omega)]
      exact decide_eq_false (by simp; omega)
theorem cW_ws {zs : List Int} {n : Nat} (h : 2 * n ≤ zs.length) : cW zs n = wsOf zs n := by
  unfold cW wsOf
  refine List.map_congr_left fun j hj => ?_
  have hj := List.mem_range.1 hj
  rw [cL_drop (by omega)]
  unfold cw
  rw [if_pos (by simp; omega), wAt_drop]
def fillT (zs : List Int) (i n : Nat) : List Int := cW zs i ++ List.replicate (n - i) 0
theorem fillT_set {zs : List Int} {i n : Nat} (h : i < n) : (fillT zs i n).set i (cw (cL zs i)) = fillT zs (i + 1) n := by
  unfold fillT
  rw [List.set_append_right _ _ (by rw [cW_len]; omega), cW_len, Nat.sub_self, cW_succ, List.append_assoc]
  congr 1
  obtain ⟨m, hm⟩ : ∃ m, n - i = m + 1 := ⟨n - i - 1, by omega⟩
  rw [hm, show n - (i + 1) = m by omega]
  rfl
theorem cW_wrd {zs : List Int} (h : Byt zs) (n : Nat) : Wrd (cW zs n) := by
  intro x hx
  obtain ⟨j, _, rfl⟩ := List.mem_map.1 hx
  exact cw_rng (cL_byt h j)
theorem and1i {x : Int} (h : 0 ≤ x ∧ x ≤ 255) : IntKind.i64.wrap (BitVec.ofInt IntKind.i64.bits x &&& BitVec.ofInt IntKind.i64.bits 1).toNat = x % 2 := by
  obtain ⟨n, rfl⟩ := Int.eq_ofNat_of_zero_le h.1
  have hn : n < 256 := by omega
  have : ∀ n : _root_.Fin 256, IntKind.i64.wrap (BitVec.ofInt IntKind.i64.bits (n.val : Int) &&& BitVec.ofInt IntKind.i64.bits 1).toNat = (n.val : Int) % 2 := by decide
  exact this ⟨n, hn⟩
/-- Words behind the byte that tells how many bytes they take. -/
def w6Ok (xs : List Int) : Bool := decide (1 ≤ xs.length ∧ xs.getD 0 0 = (xs.drop 1).length ∧ xs.getD 0 0 % 2 = 0)
theorem tWords_ok {xs : List Int} (hb : Byt xs) (hl : xs.length ≤ 1000000) : ∃ l ys bad', (bad' = false ∧ ys = [] ↔ w6Ok xs = true) ∧ (w6Ok xs = true → l = wsOf (xs.drop 1) (xs.getD 0 0 / 2).toNat) ∧ l.length ≤ 1000000000 ∧ Wrd l ∧
    FnOk Try.prog 138 [vC (.ptr 0 0)] [cur xs false] (vD (lI .u16 l)) [cur ys bad'] := by
  have hx := at_byt hb 0
  have hb' : Byt (xs.drop 1) := fun x hx => hb x (List.mem_of_mem_drop hx)
  have h1 := tByte_ok (bad := false) hb hl
  have h2 := tMust_ok (xs := xs.drop 1) (bad := false || decide (xs.length = 0)) (ok := (xs.getD 0 0 % 2 == 0))
  have ha := and1i hx
  obtain ⟨c, hc⟩ : ∃ c : Nat, xs.getD 0 0 = c := Int.eq_ofNat_of_zero_le hx.1
  refine ⟨cW (xs.drop 1) (c / 2), cL (xs.drop 1) (c / 2), cB (xs.drop 1) (false || decide (xs.length = 0) || !(xs.getD 0 0 % 2 == 0)) (c / 2), ?_, ?_, by rw [cW_len]; omega, cW_wrd hb' _, ?_⟩
  · unfold w6Ok
    rw [cB_ok, hc, decide_eq_true_iff]
    constructor
    · rintro ⟨⟨q1, q2⟩, q3⟩
      simp only [Bool.or_eq_false_iff, Bool.false_or, decide_eq_false_iff_not, Bool.not_eq_false', beq_iff_eq] at q1
      rw [cL_drop q2] at q3
      have := congrArg List.length q3
      rw [List.length_drop] at this
      simp only [List.length_nil] at this
      omega
    · rintro ⟨q1, q2, q3⟩
      refine ⟨⟨?_, by omega⟩, ?_⟩
      · rw [decide_eq_false (by omega), beq_iff_eq.2 q3]; rfl
      · rw [cL_drop (by omega)]
        exact List.drop_eq_nil_of_le (by omega)
  · intro h
    unfold w6Ok at h
    rw [hc, decide_eq_true_iff] at h
    rw [cW_ws (by omega), hc]
    congr 1
  rw [hc] at h1 h2 ha hx ⊢
  have hzl : (xs.drop 1).length ≤ 1000000 := by rw [List.length_drop]; omega
  generalize hB : (false || decide (xs.length = 0) || !((c : Int) % 2 == 0)) = B at *
  generalize xs.drop 1 = zs at *
  refine FnOk.start t138 rfl rfl rfl ?_
  refine Tri.seq (Tri.go [] rfl trivial ?_)
  refine Tri.seq (Tri.go [.call [0] [] (vI .i64 c) [cur zs (false || decide (xs.length = 0))]] rfl ⟨trivial, h1, trivial⟩ ?_)
  have e2 : ((c : Int).fdiv (2 ^ min (Int.toNat 1) IntKind.i64.bits)) = ((c / 2 : Nat) : Int) := by
    rw [Int.fdiv_eq_ediv_of_nonneg _ (by decide)]
    show (c : Int) / 2 = _
    omega
  refine Tri.seq (Tri.go [.call [0] [] (.tup []) [cur zs B]] rfl ?_ ?_)
  · exact ⟨trivial, trivial, by rw [ha]; exact h2, trivial⟩
  refine Tri.seq (Tri.go [] rfl ?_ ?_)
  · simp only [e2]
    exact ⟨by omega, ⟨by omega, by omega⟩, trivial⟩
  refine Tri.seq (Tri.seq (Tri.go [] rfl trivial ?_))
  refine Tri.block ?_
  simp only [e2, Int.toNat_natCast, rI_rep]
  have hn : c / 2 ≤ 127 := by omega
  generalize c / 2 = n at *
  refine Tri.lp (fun m ρ hl => ∃ i, m = n - i ∧ i ≤ n ∧ hl = [cur (cL zs i) (cB zs B i), .arr 1 (rI .u16 (fillT zs i n))] ∧ keepE ρ [0, 4, 17, 18] = some [(0, vC (.ptr 0 0)), (4, vC (.sl 1 0 n)), (17, vI .i64 n), (18, vI .i64 i)]) n ⟨0, by omega, by omega, by simp [fillT, cW, cL, cB], keep_of rfl (by simp)⟩ ?_
  rintro m ρ hl' ⟨i, rfl, hi, rfl, hkk⟩
  refine Tri.keep _ hkk ?_
  by_cases h : i < n
  · have hw := tWord_ok (bad := cB zs B i) (cL_byt hb' i) (by have := cL_len zs i; omega)
    refine Tri.go [.b 19 true, .call [0] [] (vI .u16 (cw (cL zs i))) [cur (cL zs (i + 1)) (cB zs B (i + 1))]] rfl ?_ (again (n - (i + 1)) (by omega) ⟨i + 1, rfl, by omega, ?_, keep_of rfl (by simp)⟩)
    · simp only [true_and, and_true, Nat.zero_add, Int.toNat_natCast]
      exact ⟨by simp; omega, hw, ⟨by omega, by omega⟩, ⟨rfl, by simp [fillT, cW_len]; omega, by omega⟩, by omega⟩
    · rw [Nat.zero_add, Int.toNat_natCast, rI_mod, fillT_set h]
  · refine Tri.go [.b 19 false] rfl ⟨by simp; omega, trivial⟩ (outQ ?_)
    refine Tri.go [] rfl trivial (RetQ.of [0] [1] rfl ?_ (.e (.c (.t (.cut ?_ ?_)))) ?_)
    · simp [fillT, cW_len]; omega
    · simp [cW_len] <;> omega
    · rw [show i = n by omega]; simp [fillT, rI_take, cW_len, List.take_of_length_le]
    · rw [show i = n by omega]
end Go.Proofs.Ytheaeddojcebjaa

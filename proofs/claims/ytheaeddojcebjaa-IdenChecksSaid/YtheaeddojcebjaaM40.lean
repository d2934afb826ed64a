/-
  The document's Parse of a reply: who the device is.
-/
import Derived.Test.YtheaeddojcebjaaM39
set_option maxRecDepth 100000
set_option maxHeartbeats 4000000
set_option linter.unusedVariables false
set_option linter.unusedSimpArgs false
namespace Go.Proofs.Ytheaeddojcebjaa
open Go.RowKit

/-- Objects off bytes, as far as there are any; whether there were enough; what is left. -/
def tp : Nat → List Int → List Obj × Bool × List Int
  | 0, xs => ([], true, xs)
  | n + 1, xs => if 2 ≤ xs.length ∧ 2 + xs.getD 1 0 ≤ xs.length then
      ((xs.getD 0 0, bytesOf ((xs.drop 2).take (xs.getD 1 0).toNat)) :: (tp n (xs.drop (2 + (xs.getD 1 0).toNat))).1, (tp n (xs.drop (2 + (xs.getD 1 0).toNat))).2)
    else ([], false, xs)
theorem tp_tv : ∀ (n : Nat) (xs : List Int), tv n xs = if (tp n xs).2.1 then some ((tp n xs).1, (tp n xs).2.2) else none
  | 0, xs => rfl
  | n + 1, xs => by
    have ih := tp_tv n (xs.drop (2 + (xs.getD 1 0).toNat))
    unfold tv tp
    by_cases h : 2 ≤ xs.length ∧ 2 + xs.getD 1 0 ≤ xs.length
    · rw [if_pos h, if_pos h, ih]
      simp only
      cases (tp n (xs.drop (2 + (xs.getD 1 0).toNat))).2.1 <;> rfl
    · rw [if_neg h, if_neg h]
      rfl
/-- What is told of a device, as the document has it. -/
def toldH (b : List Int) : Bool := decide (7 ≤ b.length ∧ b.getD 1 0 = 14 ∧ (b.getD 4 0 = 0 ∨ b.getD 4 0 = 255))
def toldA (b : List Int) : Tell := if toldH b then { fn := 43, code := b.getD 2 0, level := b.getD 3 0, more := b.getD 4 0 == 255, next := b.getD 5 0, objs := (tp (b.getD 6 0).toNat (b.drop 7)).1 } else { fn := 43 }
def toldB (b : List Int) : Bool := toldH b && ((tp (b.getD 6 0).toNat (b.drop 7)).2.1 && decide ((tp (b.getD 6 0).toNat (b.drop 7)).2.2 = []))
theorem leTold {cs cs' : List C} {x : Bool} (h : LeCs cs cs') : V.le (.tup [.agg cs, .c (.t (.bool x))]) (.tup [.agg cs', .c (.t (.bool x))]) := .tup (.cons (.agg h) (.cons (.refl _) .nil))
theorem leT0 {fn : Int} : LeCs (t0cs fn) (Tell.cs { fn := fn }) := by
  repeat (first | exact LeCs.nil | refine LeCs.cons (.refl _) ?_ | refine LeCs.cons leF ?_ | refine LeCs.cons leI ?_ | refine LeCs.cons leOb ?_)
theorem leD0 {cd lv nx : Int} {mo : Bool} : LeCs (dcs cd lv mo nx (.t .nil)) (Tell.cs { fn := 43, code := cd, level := lv, more := mo, next := nx, objs := [] }) := by
  repeat (first | exact LeCs.nil | refine LeCs.cons (.refl _) ?_ | refine LeCs.cons leF ?_ | refine LeCs.cons leI ?_ | refine LeCs.cons leOb ?_)
theorem leD {cd lv nx : Int} {mo : Bool} {l : List Obj} : LeCs (dcs cd lv mo nx (.t (lO l))) (Tell.cs { fn := 43, code := cd, level := lv, more := mo, next := nx, objs := l }) := by
  repeat (first | exact LeCs.nil | refine LeCs.cons (.refl _) ?_ | refine LeCs.cons leF ?_ | refine LeCs.cons leI ?_)
theorem told_ok {b : List Int} (hb : Byt b) (hl : b.length ≤ 1000) : FnOk Try.prog 142 [vBy b] [] (.tup [.agg (toldA b).cs, .c (.t (.bool (toldB b)))]) [] := by
  have at_ : ∀ k : Nat, k < b.length → (0 ≤ (k : Int) ∧ (k : Int) < b.length) ∧ 1 = 1 ∧ (rI .u8 b)[(k : Int).toNat]? = some [.int .u8 (b.getD k 0)] := fun k h => ⟨by omega, rfl, rI_get h⟩
  have rng := fun k => at_byt hb k
  have r1 := rng 1
  have r2 := rng 2
  have r3 := rng 3
  have r4 := rng 4
  have r5 := rng 5
  have r6 := rng 6
  refine FnOk.start t142 rfl rfl rfl ?_
  refine Tri.seq (Tri.go [] rfl (by simp) ?_)
  refine Tri.seq (Tri.go [] rfl (by simp) ?_)
  cases hH : toldH b with
  | false =>
    have e1 : toldA b = { fn := 43 } := by unfold toldA; rw [hH]; rfl
    have e2 : toldB b = false := by unfold toldB; rw [hH]; rfl
    rw [e1, e2]
    have hH := of_decide_eq_false hH
    refine Tri.seq ?_
    by_cases h7 : b.length < 7
    · refine Tri.tree (.a (.b 12 true) .nil) rfl ?_
      exact ⟨decide_eq_true (by omega), RetQ.of [] [] rfl ⟨trivial, trivial⟩ (leTold leT0) rfl⟩
    by_cases h14 : b.getD 1 0 = 14
    · refine Tri.tree (.a (.b 12 false) (.a (.at [.int .u8 (b.getD 1 0)]) (.a (.b 18 false) (.a (.at [.int .u8 (b.getD 4 0)]) (.a (.b 23 true) (.a (.at [.int .u8 (b.getD 4 0)]) (.a (.b 29 true) .nil))))))) rfl ?_
      refine ⟨decide_eq_false (by omega), ⟨by omega, rfl, rI_get (by omega)⟩, ?_, ⟨by omega, rfl, rI_get (by omega)⟩, ?_, ⟨by omega, rfl, rI_get (by omega)⟩, ?_, RetQ.of [] [] rfl ⟨trivial, trivial⟩ (leTold leT0) rfl⟩
      · simp [h14, -List.getD_eq_getElem?_getD]
      · simp [-List.getD_eq_getElem?_getD]; omega
      · simp [-List.getD_eq_getElem?_getD]; omega
    · refine Tri.tree (.a (.b 12 false) (.a (.at [.int .u8 (b.getD 1 0)]) (.a (.b 18 true) .nil))) rfl ?_
      refine ⟨decide_eq_false (by omega), ⟨by omega, rfl, rI_get (by omega)⟩, ?_, RetQ.of [] [] rfl ⟨trivial, trivial⟩ (leTold leT0) rfl⟩
      simp [h14, -List.getD_eq_getElem?_getD]
  | true =>
  have e1 : toldA b = { fn := 43, code := b.getD 2 0, level := b.getD 3 0, more := b.getD 4 0 == 255, next := b.getD 5 0, objs := (tp (b.getD 6 0).toNat (b.drop 7)).1 } := by unfold toldA; rw [hH]; rfl
  have e2 : toldB b = ((tp (b.getD 6 0).toNat (b.drop 7)).2.1 && decide ((tp (b.getD 6 0).toNat (b.drop 7)).2.2 = [])) := by unfold toldB; rw [hH]; rfl
  rw [e1, e2]
  obtain ⟨h7, h14, h4⟩ := of_decide_eq_true hH
  refine Tri.mid (fun ρ hl => hl = [.box (t0cs 0), .box (t0cs 43)] ∧ keepE ρ [0, 2, 4] = some [(0, vBy b), (2, vC (.ptr 0 0)), (4, vC (.ptr 1 0))]) ?_ ?_
  · by_cases q : b.getD 4 0 = 0
    · refine Tri.tree (.a (.b 12 false) (.a (.at [.int .u8 (b.getD 1 0)]) (.a (.b 18 false) (.a (.at [.int .u8 (b.getD 4 0)]) (.a (.b 23 false) .nil))))) rfl ?_
      refine ⟨decide_eq_false (by omega), ⟨by omega, rfl, rI_get (by omega)⟩, ?_, ⟨by omega, rfl, rI_get (by omega)⟩, ?_, ⟨rfl, keep_of rfl rfl⟩⟩
      · simp [h14, -List.getD_eq_getElem?_getD]
      · simp [-List.getD_eq_getElem?_getD]; omega
    · refine Tri.tree (.a (.b 12 false) (.a (.at [.int .u8 (b.getD 1 0)]) (.a (.b 18 false) (.a (.at [.int .u8 (b.getD 4 0)]) (.a (.b 23 true) (.a (.at [.int .u8 (b.getD 4 0)]) (.a (.b 29 false) .nil))))))) rfl ?_
      refine ⟨decide_eq_false (by omega), ⟨by omega, rfl, rI_get (by omega)⟩, ?_, ⟨by omega, rfl, rI_get (by omega)⟩, ?_, ⟨by omega, rfl, rI_get (by omega)⟩, ?_, ⟨rfl, keep_of rfl rfl⟩⟩
      · simp [h14, -List.getD_eq_getElem?_getD]
      · simp [-List.getD_eq_getElem?_getD]; omega
      · simp [-List.getD_eq_getElem?_getD]; omega
  rintro ρ hl' ⟨rfl, hkk⟩
  refine Tri.keep _ hkk ?_
  refine Tri.seq (Tri.tree (.a (.at [.int .u8 (b.getD 2 0)]) (.a (.at [.int .u8 (b.getD 3 0)]) (.a (.at [.int .u8 (b.getD 4 0)]) (.a (.at [.int .u8 (b.getD 5 0)]) .nil)))) rfl ?_)
  refine ⟨⟨by omega, rfl, rI_get (by omega)⟩, by omega, ⟨by omega, rfl, rI_get (by omega)⟩, by omega, ⟨by omega, rfl, rI_get (by omega)⟩, ⟨by omega, rfl, rI_get (by omega)⟩, by omega, ?_⟩
  refine Tri.seq (Tri.go [] rfl trivial ?_)
  refine Tri.seq (Tri.seq (Tri.go [] rfl trivial ?_))
  obtain ⟨c, hc⟩ : ∃ c : Nat, b.getD 6 0 = c := Int.eq_ofNat_of_zero_le r6.1
  rw [hc, Int.toNat_natCast]
  have hcb : c ≤ 255 := by omega
  generalize hT : tp c (b.drop 7) = T at *
  refine Tri.block ?_
  refine Tri.lp (fun m ρ hl => ∃ i p acc, m = c - i ∧ i ≤ c ∧ (7 ≤ p ∧ p ≤ b.length) ∧ acc.length ≤ i ∧ (acc ++ (tp m (b.drop p)).1, (tp m (b.drop p)).2) = T ∧
    ((acc = [] ∧ hl = [.box (t0cs 0), .box (dcs (b.getD 2 0) (b.getD 3 0) (b.getD 4 0 == 255) (b.getD 5 0) (.t .nil))]) ∨
     (acc ≠ [] ∧ hl = [.box (t0cs 0), .box (dcs (b.getD 2 0) (b.getD 3 0) (b.getD 4 0 == 255) (b.getD 5 0) (.sl 2 0 acc.length)), .arr 2 (oRows acc)])) ∧
    keepE ρ [0, 2, 4, 5, 6] = some [(0, vBy b), (2, vC (.ptr 0 0)), (4, vC (.ptr 1 0)), (5, vI .i64 p), (6, vI .i64 i)]) c ⟨0, 7, [], by omega, by omega, by omega, by simp, by simpa using hT, .inl ⟨rfl, rfl⟩, keep_of rfl rfl⟩ ?_
  rintro m ρ hl' ⟨i, p, acc, rfl, hi, hp, ha, he, hh, hkk⟩
  refine Tri.keep _ hkk ?_
  by_cases h : i < c
  · obtain ⟨k, hk⟩ : ∃ k, c - i = k + 1 := ⟨c - i - 1, by omega⟩
    rw [hk] at he
    unfold tp at he
    rw [List.length_drop] at he
    have d0 : (b.drop p).getD 0 0 = b.getD p 0 := by simp [List.getD_eq_getElem?_getD]
    have d1 : (b.drop p).getD 1 0 = b.getD (p + 1) 0 := by simp [List.getD_eq_getElem?_getD]
    rw [d0, d1, List.drop_drop, List.drop_drop] at he
    have rp := rng p
    have rp1 := rng (p + 1)
    by_cases h2 : b.length < p + 2
    · rw [if_neg (by omega)] at he
      subst he
      simp only [List.append_nil, Bool.false_and]
      rcases hh with ⟨rfl, rfl⟩ | ⟨hne, rfl⟩
      · refine Tri.seq (Tri.tree (.a (.at [.int .u8 (b.getD 6 0)]) (.a (.b 56 true) .nil)) rfl ⟨⟨by omega, rfl, rI_get (by omega)⟩, by omega, by simp [-List.getD_eq_getElem?_getD]; omega, ?_⟩)
        refine Tri.seq (Tri.block (Tri.tree (.a (.b 64 true) .nil) rfl ?_))
        exact ⟨by omega, by simp; omega, RetQ.of [] [] rfl ⟨trivial, trivial⟩ (leTold leD0) rfl⟩
      · refine Tri.seq (Tri.tree (.a (.at [.int .u8 (b.getD 6 0)]) (.a (.b 56 true) .nil)) rfl ⟨⟨by omega, rfl, rI_get (by omega)⟩, by omega, by simp [-List.getD_eq_getElem?_getD]; omega, ?_⟩)
        refine Tri.seq (Tri.block (Tri.tree (.a (.b 64 true) .nil) rfl ?_))
        refine ⟨by omega, by simp; omega, RetQ.of [] [2] rfl ?_ (leTold leD) rfl⟩
        simp
    by_cases h3 : b.length < p + 2 + b.getD (p + 1) 0
    · rw [if_neg (by omega)] at he
      subst he
      simp only [List.append_nil, Bool.false_and]
      rcases hh with ⟨rfl, rfl⟩ | ⟨hne, rfl⟩
      · refine Tri.seq (Tri.tree (.a (.at [.int .u8 (b.getD 6 0)]) (.a (.b 56 true) .nil)) rfl ⟨⟨by omega, rfl, rI_get (by omega)⟩, by omega, by simp [-List.getD_eq_getElem?_getD]; omega, ?_⟩)
        refine Tri.seq (Tri.block (Tri.tree (.a (.b 64 false) (.a (.at [.int .u8 (b.getD (p + 1) 0)]) (.a (.b 77 true) .nil))) rfl ?_))
        exact ⟨by omega, by simp; omega, by omega, by omega, ⟨by omega, rfl, rI_get (by omega)⟩, by omega, by omega, by simp [-List.getD_eq_getElem?_getD]; omega, RetQ.of [] [] rfl ⟨trivial, trivial⟩ (leTold leD0) rfl⟩
      · refine Tri.seq (Tri.tree (.a (.at [.int .u8 (b.getD 6 0)]) (.a (.b 56 true) .nil)) rfl ⟨⟨by omega, rfl, rI_get (by omega)⟩, by omega, by simp [-List.getD_eq_getElem?_getD]; omega, ?_⟩)
        refine Tri.seq (Tri.block (Tri.tree (.a (.b 64 false) (.a (.at [.int .u8 (b.getD (p + 1) 0)]) (.a (.b 77 true) .nil))) rfl ?_))
        refine ⟨by omega, by simp; omega, by omega, by omega, ⟨by omega, rfl, rI_get (by omega)⟩, by omega, by omega, by simp [-List.getD_eq_getElem?_getD]; omega, RetQ.of [] [2] rfl ?_ (leTold leD) rfl⟩
        simp
    rw [if_pos (by omega)] at he
    obtain ⟨z, hz⟩ : ∃ z : Nat, b.getD (p + 1) 0 = z := Int.eq_ofNat_of_zero_le rp1.1
    rw [hz, Int.toNat_natCast] at he
    generalize hS : ((b.drop (p + 2)).take z) = S at he
    have he' : ((acc ++ [(b.getD p 0, bytesOf S)]) ++ (tp k (b.drop (p + (2 + z)))).1, (tp k (b.drop (p + (2 + z)))).2) = T := by rw [← he]; simp
    have hacc : (acc ++ [(b.getD p 0, bytesOf S)]).length = acc.length + 1 := by simp
    have hrow : oRows acc ++ [[.int .i64 (b.getD p 0), .str (bytesOf S)]] = oRows (acc ++ [(b.getD p 0, bytesOf S)]) := by simp [oRows]
    have hne' : acc ++ [(b.getD p 0, bytesOf S)] ≠ [] := by simp
    have G0 : (rI .u8 b)[((p : Int)).toNat]? = some [.int .u8 (b.getD p 0)] := rI_get (by omega)
    have G1 : (rI .u8 b)[((p : Int) + 1).toNat]? = some [.int .u8 (b.getD (p + 1) 0)] := by
      rw [show ((p : Int) + 1).toNat = p + 1 by omega]; exact rI_get (by omega)
    have hlb : (rI .u8 b).length = b.length := by simp
    have e1' : ((some ((p : Int) + 2 + b.getD (p + 1) 0)).getD (b.length : Int)).toNat - ((some ((p : Int) + 2)).getD 0).toNat = z := by
      simp only [Option.getD_some]; omega
    have e2' : ((some ((p : Int) + 2)).getD 0).toNat = p + 2 := by
      simp only [Option.getD_some]; omega
    have hSl : S.length = z := by rw [← hS, List.length_take, List.length_drop]; omega
    have hSr : List.take z (List.drop (p + 2) (rI .u8 b)) = rI .u8 S := by rw [rI_drop, rI_take, hS]
    have H1 : 0 ≤ (some ((p : Int) + 2)).getD 0 ∧ (some ((p : Int) + 2)).getD 0 ≤ (some ((p : Int) + 2 + b.getD (p + 1) 0)).getD (b.length : Int) ∧ (some ((p : Int) + 2 + b.getD (p + 1) 0)).getD (b.length : Int) ≤ ((rI .u8 b).length : Int) ∧ 1 = 1 := by
      clear e1' e2'
      refine ⟨?_, ?_, ?_, rfl⟩
      · show 0 ≤ (p : Int) + 2
        omega
      · show (p : Int) + 2 ≤ (p : Int) + 2 + b.getD (p + 1) 0
        omega
      · show (p : Int) + 2 + b.getD (p + 1) 0 ≤ _
        omega
    have H5 : ((some ((p : Int) + 2 + b.getD (p + 1) 0)).getD (b.length : Int)).toNat - ((some ((p : Int) + 2)).getD 0).toNat ≤ (List.take (((some ((p : Int) + 2 + b.getD (p + 1) 0)).getD (b.length : Int)).toNat - ((some ((p : Int) + 2)).getD 0).toNat) (List.drop ((some ((p : Int) + 2)).getD 0).toNat (rI .u8 b))).length := by
      rw [e1', e2', hSr, rI_len, hSl]
      exact Nat.le_refl _
    have H6 : List.take (((some ((p : Int) + 2 + b.getD (p + 1) 0)).getD (b.length : Int)).toNat - ((some ((p : Int) + 2)).getD 0).toNat) (List.take (((some ((p : Int) + 2 + b.getD (p + 1) 0)).getD (b.length : Int)).toNat - ((some ((p : Int) + 2)).getD 0).toNat) (List.drop ((some ((p : Int) + 2)).getD 0).toNat (rI .u8 b))) = S.map (fun n => [D.int .u8 n]) := by
      rw [e1', e2', hSr, ← hSl, rI_take, List.take_length]
      rfl
    rcases hh with ⟨rfl, rfl⟩ | ⟨hne, rfl⟩
    · refine Tri.seq (Tri.tree (.a (.at [.int .u8 (b.getD 6 0)]) (.a (.b 56 true) .nil)) rfl ⟨⟨by omega, rfl, rI_get (by omega)⟩, by omega, by simp [-List.getD_eq_getElem?_getD]; omega, ?_⟩)
      refine Tri.seq (Tri.block (Tri.tree (.a (.b 64 false) (.a (.at [.int .u8 (b.getD (p + 1) 0)]) (.a (.b 77 false) (.a (.at [.int .u8 (b.getD (p + 1) 0)]) (.a (.at [.int .u8 (b.getD p 0)]) (.a (.tx S) .nil)))))) rfl ?_))
      refine ⟨by omega, decide_eq_false (by omega), by omega, by omega, ⟨by omega, rfl, G1⟩, by omega, by omega, decide_eq_false (by omega), by omega, ⟨by omega, rfl, G1⟩, by omega, ⟨by omega, rfl, G0⟩, by omega, by omega, by omega, by omega, H1, ⟨.inr rfl, H5, H6⟩, ⟨⟨rfl, by simp⟩, trivial⟩, ⟨.inr rfl, by simp, by omega, by omega⟩, by omega, by omega, ?_⟩
      refine Tri.let [0, 1, 2] [] [0, 2, 4, 5, 6] rfl trivial ?_
      refine Tri.go [] rfl ⟨by omega, trivial⟩ (again k (by omega) ⟨i + 1, p + (2 + z), [] ++ [(b.getD p 0, bytesOf S)], by omega, by omega, by omega, by rw [hacc]; omega, he', .inr ⟨hne', ?_⟩, keep_of rfl (by rw [hz]; simp [Int.add_assoc])⟩)
      rfl
    · refine Tri.seq (Tri.tree (.a (.at [.int .u8 (b.getD 6 0)]) (.a (.b 56 true) .nil)) rfl ⟨⟨by omega, rfl, rI_get (by omega)⟩, by omega, by simp [-List.getD_eq_getElem?_getD]; omega, ?_⟩)
      refine Tri.seq (Tri.block (Tri.tree (.a (.b 64 false) (.a (.at [.int .u8 (b.getD (p + 1) 0)]) (.a (.b 77 false) (.a (.at [.int .u8 (b.getD (p + 1) 0)]) (.a (.at [.int .u8 (b.getD p 0)]) (.a (.tx S) .nil)))))) rfl ?_))
      refine ⟨by omega, decide_eq_false (by omega), by omega, by omega, ⟨by omega, rfl, G1⟩, by omega, by omega, decide_eq_false (by omega), by omega, ⟨by omega, rfl, G1⟩, by omega, ⟨by omega, rfl, G0⟩, by omega, by omega, by omega, by omega, H1, ⟨.inr rfl, H5, H6⟩, ⟨⟨rfl, by simp⟩, trivial⟩, ⟨.inr rfl, rfl, by simp, by simp, by omega, by omega⟩, by omega, by omega, ?_⟩
      refine Tri.let [0, 1, 3] [] [0, 2, 4, 5, 6] rfl trivial ?_
      refine Tri.go [] rfl ⟨by omega, trivial⟩ (again k (by omega) ⟨i + 1, p + (2 + z), acc ++ [(b.getD p 0, bytesOf S)], by omega, by omega, by omega, by rw [hacc]; omega, he', .inr ⟨hne', ?_⟩, keep_of rfl (by rw [hz]; simp [Int.add_assoc])⟩)
      rw [← hrow, hacc]
      rfl
  · have hii : i = c := by omega
    subst hii
    rw [Nat.sub_self, show tp 0 (b.drop p) = ([], true, b.drop p) from rfl] at he
    subst he
    have hd : decide (b.drop p = []) = ((p : Int) == (b.length : Int)) := by
      rw [Bool.eq_iff_iff, decide_eq_true_iff, beq_iff_eq, List.drop_eq_nil_iff]
      omega
    simp only [List.append_nil, Bool.true_and]
    rw [hd]
    rcases hh with ⟨rfl, rfl⟩ | ⟨hne, rfl⟩
    · refine Tri.seq (Tri.tree (.a (.at [.int .u8 (b.getD 6 0)]) (.a (.b 56 false) .nil)) rfl ⟨⟨by omega, rfl, rI_get (by omega)⟩, by omega, by simp [-List.getD_eq_getElem?_getD]; omega, ?_⟩)
      exact Tri.tree .nil rfl (RetQ.of [] [] rfl ⟨trivial, trivial⟩ (leTold leD0) rfl)
    · refine Tri.seq (Tri.tree (.a (.at [.int .u8 (b.getD 6 0)]) (.a (.b 56 false) .nil)) rfl ⟨⟨by omega, rfl, rI_get (by omega)⟩, by omega, by simp [-List.getD_eq_getElem?_getD]; omega, ?_⟩)
      refine Tri.tree .nil rfl (RetQ.of [] [2] rfl ?_ (leTold leD) rfl)
      simp
end Go.Proofs.Ytheaeddojcebjaa

/-
  What aop says is so: structs held against each other, structs built.
-/
import Derived.Test.YtheaeddojcebjaaK6
set_option linter.unusedVariables false
set_option linter.unusedSimpArgs false
namespace Go.Proofs.Ytheaeddojcebjaa
open Go.RowKit

section
variable {P : Program} {w : World} {g : Gh}

theorem eqCs_len : ∀ {ks : List LK} {xs ys : List C} {b : Bool}, eqCs ks xs ys = some b → xs.length = ks.length ∧ ys.length = ks.length
  | [], xs, ys, b, h => by
    cases xs with
    | nil => cases ys with
      | nil => simp
      | cons y ys => simp [eqCs] at h
    | cons x xs => simp [eqCs] at h
  | k :: ks, xs, ys, b, h => by
    cases xs with
    | nil => cases h
    | cons x xs => cases ys with
      | nil => cases x <;> cases h
      | cons y ys =>
        cases x <;> cases y <;> simp only [eqCs] at h <;> try (cases h; done)
        split at h
        · rename_i p q h1 h2
          obtain ⟨i1, i2⟩ := eqCs_len h2
          simp [i1, i2]
        · cases h
theorem eqCs_split : ∀ {ks ks' : List LK} {xs ys : List C} {b : Bool}, eqCs (ks ++ ks') xs ys = some b → ∃ p q, eqCs ks (xs.take ks.length) (ys.take ks.length) = some p ∧ eqCs ks' (xs.drop ks.length) (ys.drop ks.length) = some q ∧ b = (p && q)
  | [], ks', xs, ys, b, h => ⟨true, b, by simp [eqCs], by simpa using h, by simp⟩
  | k :: ks, ks', xs, ys, b, h => by
    simp only [List.cons_append] at h
    cases xs with
    | nil => simp [eqCs] at h
    | cons x xs => cases ys with
      | nil => simp [eqCs] at h
      | cons y ys =>
        cases x <;> cases y <;> simp only [eqCs] at h <;> try (cases h; done)
        rename_i a c
        split at h
        · rename_i p q h1 h2
          cases h
          obtain ⟨p', q', i1, i2, i3⟩ := eqCs_split h2
          refine ⟨p && p', q', ?_, by simpa using i2, by rw [i3, Bool.and_assoc]⟩
          simp only [List.length_cons, List.take_succ_cons, eqCs, h1, i1]
        · cases h
def LKok (P : Program) (t : TypeId) : LK → Prop
  | .int => ∃ k, P.underlying t = some (.int k)
  | .bool => P.underlying t = some .bool
  | .str => P.underlying t = some .string
theorem rd_eq {k : LK} {a b : D} {r : Bool} (h : eqD k a b = some r) {x y : Value} (hx : Rd w g.I x a) (hy : Rd w g.I y b) (d : Nat) (t : TypeId)
    (ht : LKok P t k) : (Op.equalIn (d + 1) t x y).run P w = .ok r w := by
  unfold eqD at h
  split at h
  · rename_i k a k' b
    by_cases hk : k = k'
    · subst hk
      simp at h
      subst h
      cases hx; cases hy
      obtain ⟨k', ht⟩ := ht
      exact run_equalIn_int w d t k k' a b ht
    · simp [hk] at h
  · cases h; cases hx; cases hy
    exact run_equalIn_bool w d t _ _ ht
  · cases h; cases hx; cases hy
    exact run_equalIn_string w d t _ _ ht
  · cases h
/-- A value and its cells, by whether its type is a struct's. -/
def Whole (w : World) (g : Gh) (ag : Bool) (x : Value) (cs : List C) : Prop := match ag with
  | true => ∃ arr, x = .agg arr ∧ Cells w g arr cs
  | false => ∃ c, cs = [c] ∧ RC w g x c
theorem part_whole {t : TypeId} {arr : Array Value} {cs : List C} {ag : Bool} {off n : Nat} (hc : Cells w g arr cs) (ha : aggB P t = some ag) (hs : sizeB P t = some n) (hn : off + n ≤ cs.length) (h1 : ag = false → n = 1) :
    ∃ x, (part t arr off).run P w = .ok x w ∧ Whole w g ag x ((cs.drop off).take n) := by
  cases ag with
  | true => exact ⟨_, by simp [part, run_isAgg ha, run_sizeB hs], _, rfl, hc.take off n hn⟩
  | false =>
    obtain rfl := h1 rfl
    have hlt : off < cs.length := by omega
    obtain ⟨u, e1, e2⟩ := hc.2 off cs[off] (List.getElem?_eq_getElem hlt)
    exact ⟨u, by simp [part, run_isAgg ha, e1], cs[off], by rw [List.drop_eq_getElem_cons hlt]; rfl, e2⟩
theorem flat_one {d : Nat} {t : TypeId} {ks : List LK} (h : flat P d t = some ks) (ha : aggB P t = some false) : ks.length = 1 := by
  cases d with
  | zero => cases h
  | succ d =>
    unfold flat at h
    unfold aggB at ha
    split at h
    · cases h; rfl
    · cases h; rfl
    · cases h; rfl
    · rename_i fs hu; rw [hu] at ha; cases ha
    · cases h
theorem flat_fields {d D : Nat} (ih : ∀ t ks ag x y xs ys b, flat P d t = some ks → aggB P t = some ag → Whole w g ag x xs → Whole w g ag y ys → eqCs ks xs ys = some b → (Op.equalIn D t x y).run P w = .ok b w) :
    ∀ (fs : List Field) (n : Nat) (ks : List LK) (ax ay : Array Value) (xs ys : List C) (b : Bool), flatFs P (flat P d) fs n = some ks → Cells w g ax xs → Cells w g ay ys → n + ks.length = xs.length → n + ks.length = ys.length →
      eqCs ks (xs.drop n) (ys.drop n) = some b → (Op.eqFields D ax ay fs).run P w = .ok b w
  | [], n, ks, ax, ay, xs, ys, b, h, hx, hy, l1, l2, he => by
    simp [flatFs] at h
    subst h
    simp at l1 l2
    rw [List.drop_of_length_le (by omega), List.drop_of_length_le (by omega)] at he
    simp [eqCs] at he
    subst he
    simp [Op.eqFields]
  | f :: fs, n, ks, ax, ay, xs, ys, b, h, hx, hy, l1, l2, he => by
    unfold flatFs at h
    split at h
    · rename_i k1 sz ag h1 h2 h3
      split at h
      · rename_i hcond
        obtain ⟨c1, c2, c3⟩ := hcond
        cases hr : flatFs P (flat P d) fs (n + sz) with
        | none => simp [hr] at h
        | some k2 =>
          simp [hr] at h
          subst h
          obtain ⟨p, q, e1, e2, e3⟩ := eqCs_split he
          simp only [List.length_append] at l1 l2
          rw [List.drop_drop] at e2
          rw [List.drop_drop] at e2
          rw [← c3] at e1 e2
          have hag : ag = false → sz = 1 := fun e => by subst e; rw [c3]; exact flat_one h1 h3
          obtain ⟨vx, r1, w1⟩ := part_whole (P := P) (off := n) (n := sz) hx h3 h2 (by omega) hag
          obtain ⟨vy, r2, w2⟩ := part_whole (P := P) (off := n) (n := sz) hy h3 h2 (by omega) hag
          have r3 := ih _ _ _ _ _ _ _ _ h1 h3 w1 w2 e1
          have r4 := flat_fields ih fs (n + sz) k2 ax ay xs ys q hr hx hy (by omega) (by omega) e2
          rw [e3]
          unfold Op.eqFields
          simp only [c1, ne_eq, not_false_eq_true, if_true, Sem.run_bind, c2, r1, r2, r3, Result.andThen_ok]
          cases p <;> simp [r4]
      · cases h
    · cases h
theorem flat_eq : ∀ (d : Nat) (t : TypeId) (ks : List LK) (ag : Bool) (x y : Value) (xs ys : List C) (b : Bool) (D : Nat), d ≤ D → flat P d t = some ks → aggB P t = some ag → Whole w g ag x xs → Whole w g ag y ys → eqCs ks xs ys = some b →
    (Op.equalIn D t x y).run P w = .ok b w
  | 0, t, ks, ag, x, y, xs, ys, b, D, hd, h, ha, hx, hy, he => by cases h
  | d + 1, t, ks, ag, x, y, xs, ys, b, D, hd, h, ha, hx, hy, he => by
    obtain ⟨D, rfl⟩ : ∃ D', D = D' + 1 := ⟨D - 1, by omega⟩
    have leaf : ∀ k, ks = [k] → ag = false → LKok P t k → (Op.equalIn (D + 1) t x y).run P w = .ok b w := by
      rintro k rfl rfl hk
      obtain ⟨c1, rfl, r1⟩ := hx
      obtain ⟨c2, rfl, r2⟩ := hy
      cases c1 <;> cases c2 <;> simp only [eqCs] at he <;> try (cases he; done)
      split at he
      · rename_i p q e1 e2
        cases he
        cases e2
        rw [Bool.and_true]
        cases r1 with | t r1 => cases r2 with | t r2 => exact rd_eq e1 r1 r2 D t hk
      · cases he
    unfold flat at h
    unfold aggB at ha
    split at h
    · rename_i hu; rw [hu] at ha; cases h; cases ha; exact leaf _ rfl rfl hu
    · rename_i k hu; rw [hu] at ha; cases h; cases ha; exact leaf _ rfl rfl ⟨k, hu⟩
    · rename_i hu; rw [hu] at ha; cases h; cases ha; exact leaf _ rfl rfl hu
    · rename_i fs hu
      rw [hu] at ha
      cases ha
      split at h
      · cases h
      · rename_i hst
        obtain ⟨ax, rfl, cx⟩ := hx
        obtain ⟨ay, rfl, cy⟩ := hy
        have hf : P.fieldsOf t = fs := by simp [Program.fieldsOf, hu]
        rw [run_equalIn_struct w D t ax ay (by rw [hf]; exact hu) (by simpa using hst), hf]
        obtain ⟨l1, l2⟩ := eqCs_len he
        exact flat_fields (fun t ks ag x y xs ys b h1 h2 h3 h4 h5 => flat_eq d t ks ag x y xs ys b D (by omega) h1 h2 h3 h4 h5) fs.toList 0 ks ax ay xs ys b h cx cy (by simp [l1]) (by simp [l2]) (by simpa using he)
    · cases h
theorem eqCs_at : ∀ {n : Nat} {xs ys : List C} {b : Bool}, eqCs (List.replicate n .int) xs ys = some b → ∃ f : Nat → Bool, (∀ i, i < n → ∃ p q, xs[i]? = some (.t p) ∧ ys[i]? = some (.t q) ∧ eqD .int p q = some (f i)) ∧ b = (List.range' 0 n 1).all f
  | 0, xs, ys, b, h => by
    cases xs with
    | nil => cases ys with
      | nil => cases h; exact ⟨fun _ => true, fun i hi => absurd hi (by omega), rfl⟩
      | cons y ys => cases h
    | cons x xs => cases x <;> cases h
  | n + 1, xs, ys, b, h => by
    rw [List.replicate_succ] at h
    cases xs with
    | nil => cases h
    | cons x xs => cases ys with
      | nil => cases x <;> cases h
      | cons y ys =>
        cases x <;> cases y <;> simp only [eqCs] at h <;> try (cases h; done)
        rename_i p q
        split at h
        · rename_i r r' h1 h2
          cases h
          obtain ⟨f, f1, f2⟩ := eqCs_at h2
          refine ⟨fun i => match i with | 0 => r | i + 1 => f i, fun i hi => ?_, ?_⟩
          · cases i with
            | zero => exact ⟨p, q, rfl, rfl, h1⟩
            | succ i => obtain ⟨p', q', e1, e2, e3⟩ := f1 i (by omega); exact ⟨p', q', by simpa using e1, by simpa using e2, e3⟩
          · rw [f2, List.range'_succ, List.all_cons]
            congr 1
            have e : List.range' (0 + 1) n 1 = (List.range' 0 n 1).map (fun x => 1 + x) := by rw [List.map_add_range']
            rw [e, List.all_map]
            congr 1
            funext i
            simp [Nat.add_comm 1 i]
        · cases h
theorem equal_arr (d : Nat) (t e : TypeId) (n : Nat) (k : IntKind) (ht : P.underlying t = some (.array n e)) (he : P.underlying e = some (.int k)) (hsz : sizeB P e = some 1) (ax ay : Array Value) (xs ys : List C) (b : Bool) (hx : Cells w g ax xs) (hy : Cells w g ay ys)
    (hb : eqCs (List.replicate n .int) xs ys = some b) : (Op.equalIn (d + 2) t (.agg ax) (.agg ay)).run P w = .ok b w := by
  obtain ⟨f, f1, rfl⟩ := eqCs_at hb
  have hag : aggB P e = some false := by simp [aggB, he]
  rw [Op.equalIn]
  simp only [Sem.run_bind, run_underlying ht, Result.andThen_ok, run_sizeB hsz, Std.Legacy.Range.forIn_eq_forIn_range', Std.Legacy.Range.size, Nat.sub_zero, Nat.add_sub_cancel, Nat.div_one]
  have hl : ∀ i ∈ List.range' 0 n 1, i < n := fun i hi => by simpa using (List.mem_range'_1.1 hi).2
  generalize List.range' 0 n 1 = l at hl ⊢
  induction l with
  | nil => simp
  | cons i l ih =>
    obtain ⟨p, q, e1, e2, e3⟩ := f1 i (hl i (by simp))
    obtain ⟨u, u1, u2⟩ := hx.2 i _ e1
    obtain ⟨v, v1, v2⟩ := hy.2 i _ e2
    have px : (part e ax (i * 1)).run P w = .ok u w := by simp [part, run_isAgg hag, u1]
    have py : (part e ay (i * 1)).run P w = .ok v w := by simp [part, run_isAgg hag, v1]
    have pe : (Op.equalIn (d + 1) e u v).run P w = .ok (f i) w := by cases u2 with | t u2 => cases v2 with | t v2 => exact rd_eq (P := P) e3 u2 v2 d e ⟨k, he⟩
    simp only [List.forIn_cons, Sem.run_bind, px, py, pe, Result.andThen_ok, List.all_cons]
    cases hb : f i
    · simp
    · simp only [Bool.not_true, Bool.false_eq_true, if_false, Sem.run_pure, Result.andThen_ok, Bool.true_and]
      exact ih fun j hj => hl j (by simp [hj])
end

section
variable {P : Program} {N : Nat} {o : Oper} {ρ : Env} {ts : List Nat} {hl : List Ob} {p : Prop} {s : Res}
theorem s_eqAgg {neg : Bool} {t u : TypeId} {x y : Operand} {ax ay : AX} {ks : List LK} (ho : o.op = .binOp (if neg then .neq else .eql) t x y u) (h1 : trX x = some ax) (h2 : trX y = some ay) (t1 : ∀ t ∈ ax.ts, t ∈ ts) (t2 : ∀ t ∈ ay.ts, t ∈ ts)
    (ht : (flat P 6 t = some ks ∧ ∃ fs, P.underlying t = some (.struct fs)) ∨ ∃ n e k, P.underlying t = some (.array n e) ∧ P.underlying e = some (.int k) ∧ sizeB P e = some 1 ∧ ks = List.replicate n .int) (hg : P.eqGuardType P.depth t = false)
    (h : aop (.eqAgg neg ks ax ay) ρ hl = some (p, s)) : OpR P N o ρ ts hl s := by
  simp only [aop] at h
  split at h
  · rename_i cx cy e1 e2
    split at h
    · rename_i b hb
      obtain rfl := ret_v h
      refine OpR.val rfl rfl fun a w g hh _ hR he => ?_
      obtain ⟨arx, r1, r2⟩ := rv_agg (ev_ok h1 he t1 e1)
      obtain ⟨ary, r3, r4⟩ := rv_agg (ev_ok h2 he t2 e2)
      have heq : (Op.equalIn 10000 t (.agg arx) (.agg ary)).run P w = .ok b w := by
        rcases ht with ⟨hf, fs, hu⟩ | ⟨n, e, k, hu, hk, hz, rfl⟩
        · exact flat_eq 6 t ks true _ _ cx cy b 10000 (by omega) hf (by simp [aggB, hu]) ⟨arx, rfl, r2⟩ ⟨ary, rfl, r4⟩ hb
        · exact equal_arr 9998 t e n k hu hk hz arx ary cx cy b r2 r4 hb
      refine ⟨_, ?_, rv_b _⟩
      simp only [execOp, ho, r1, r3]
      refine run_v ?_
      cases neg
      · simp [run_eqGuard_agg w .eql t x y arx ary hg, run_eql_struct, heq]
      · simp [run_eqGuard_agg w .neq t x y arx ary hg, run_neq_struct, heq]
    · cases h
  · cases h
theorem ptr_nn (d : Nat) {t e : TypeId} (hu : P.underlying t = some (.pointer e)) (w : World) : (Op.equalIn (d + 1) t (.pointer none) (.pointer none)).run P w = .ok true w := by simp [Op.equalIn, run_underlying hu]
theorem ptr_pn (d : Nat) {t e : TypeId} (hu : P.underlying t = some (.pointer e)) (a : Addr) (w : World) : (Op.equalIn (d + 1) t (.pointer (some a)) (.pointer none)).run P w = .ok false w := by simp [Op.equalIn, run_underlying hu]
theorem ptr_np (d : Nat) {t e : TypeId} (hu : P.underlying t = some (.pointer e)) (a : Addr) (w : World) : (Op.equalIn (d + 1) t (.pointer none) (.pointer (some a))).run P w = .ok false w := by simp [Op.equalIn, run_underlying hu]
theorem ptr_pp (d : Nat) {t e : TypeId} {n : Nat} (hu : P.underlying t = some (.pointer e)) (hsz : sizeB P e = some (n + 1)) (a : Addr) (w : World) : (Op.equalIn (d + 1) t (.pointer (some a)) (.pointer (some a))).run P w = .ok true w := by simp [Op.equalIn, run_underlying hu, run_sizeB hsz, sameAddr]
theorem s_eqPtr {neg : Bool} {t u e : TypeId} {n : Nat} {x y : Operand} {ax ay : AX} (ho : o.op = .binOp (if neg then .neq else .eql) t x y u) (h1 : trX x = some ax) (h2 : trX y = some ay) (t1 : ∀ t ∈ ax.ts, t ∈ ts) (t2 : ∀ t ∈ ay.ts, t ∈ ts)
    (hu : P.underlying t = some (.pointer e)) (hsz : sizeB P e = some (n + 1)) (h : aop (.eqPtr neg ax ay) ρ hl = some (p, s)) : OpR P N o ρ ts hl s := by
  have key : ∀ (a : Act) (w : World) (u v : Option Addr) (b : Bool), a.eval x = .pointer u → a.eval y = .pointer v → (Op.equalIn 10000 t (.pointer u) (.pointer v)).run P w = .ok b w →
      (execOp a.eval o).run P w = .ok (.value (.bool (bif neg then !b else b))) w := by
    intro a w u v b hx hy hb
    simp only [execOp, ho, hx, hy]
    refine run_v ?_
    cases neg
    · simp [eqGuard, binOp, Op.equal, Op.maxDepth, hb]
    · simp [eqGuard, binOp, Op.equal, Op.maxDepth, hb]
  simp only [aop] at h
  split at h
  · rename_i e1 e2
    obtain rfl := ret_v h
    refine OpR.val rfl rfl fun a w g hh _ hR he => ?_
    have r1 := rv_c (ev_ok h1 he t1 e1)
    have r2 := rv_c (ev_ok h2 he t2 e2)
    generalize hx : a.eval x = v1 at *
    generalize hy : a.eval y = v2 at *
    cases r1; cases r2
    exact ⟨_, key a w none none true hx hy (ptr_nn 9999 hu w), by cases neg <;> exact rv_b _⟩
  · rename_i i k e1 e2
    obtain rfl := ret_v h
    refine OpR.val rfl rfl fun a w g hh _ hR he => ?_
    have r1 := rv_c (ev_ok h1 he t1 e1)
    have r2 := rv_c (ev_ok h2 he t2 e2)
    generalize hx : a.eval x = v1 at *
    generalize hy : a.eval y = v2 at *
    cases r1; cases r2
    exact ⟨_, key a w _ none false hx hy (ptr_pn 9999 hu _ w), by cases neg <;> exact rv_b _⟩
  · rename_i i k e1 e2
    obtain rfl := ret_v h
    refine OpR.val rfl rfl fun a w g hh _ hR he => ?_
    have r1 := rv_c (ev_ok h1 he t1 e1)
    have r2 := rv_c (ev_ok h2 he t2 e2)
    generalize hx : a.eval x = v1 at *
    generalize hy : a.eval y = v2 at *
    cases r1; cases r2
    exact ⟨_, key a w none _ false hx hy (ptr_np 9999 hu _ w), by cases neg <;> exact rv_b _⟩
  · rename_i i k j m e1 e2
    cases hb : (Nat.beq i j && Nat.beq k m) with
    | false => simp [hb] at h
    | true =>
      simp only [hb, cond_true] at h
      obtain rfl := ret_v h
      simp only [Bool.and_eq_true] at hb
      obtain rfl := Nat.eq_of_beq_eq_true hb.1
      obtain rfl := Nat.eq_of_beq_eq_true hb.2
      refine OpR.val rfl rfl fun a w g hh _ hR he => ?_
      have r1 := rv_c (ev_ok h1 he t1 e1)
      have r2 := rv_c (ev_ok h2 he t2 e2)
      generalize hx : a.eval x = v1 at *
      generalize hy : a.eval y = v2 at *
      cases r1 with
      | ptr _ hm hn => cases r2 with
        | ptr _ hm' hn' =>
          obtain rfl := Option.some.inj (hm.symm.trans hm')
          exact ⟨_, key a w _ _ true hx hy (ptr_pp 9999 hu hsz _ w), by cases neg <;> exact rv_b _⟩
  · cases h
end
end Go.Proofs.Ytheaeddojcebjaa

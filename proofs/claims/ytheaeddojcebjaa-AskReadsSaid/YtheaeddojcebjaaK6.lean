/-
  What aop says is so: fields, indexes, slices, lengths.
-/
import Derived.Test.YtheaeddojcebjaaK5
set_option linter.unusedVariables false
set_option linter.unusedSimpArgs false
namespace Go.Proofs.Ytheaeddojcebjaa
open Go.RowKit

section
variable {P : Program} {w : World} {g : Gh}
theorem run_isAgg {t : TypeId} {b : Bool} (h : aggB P t = some b) (w : World) : (isAgg t).run P w = .ok b w := by
  unfold aggB at h
  split at h <;> simp at h <;> subst h
  · rename_i hu; simp [isAgg, run_underlying hu]
  · rename_i hu; simp [isAgg, run_underlying hu]
  · rename_i d hn1 hn2 hu
    simp only [isAgg, Sem.run_bind, run_underlying hu, Result.andThen_ok]
    cases d <;> first | rfl | exact (hn1 _ rfl).elim | exact (hn2 _ _ rfl).elim
theorem run_sizeB {t : TypeId} {n : Nat} (h : sizeB P t = some n) (w : World) : (sizeOf t).run P w = .ok n w := by
  unfold sizeB at h
  cases hi : P.info? t with
  | none => simp [hi] at h
  | some i => simp [hi] at h; simp [sizeOf, typeInfo, hi, h]
theorem cellsB_none {t : TypeId} (h : cellsB P t = some none) : aggB P t = some false := by
  unfold cellsB at h
  split at h
  · rename_i ha
    cases hs : sizeB P t <;> simp [hs] at h
  · assumption
  · cases h
theorem cellsB_some {t : TypeId} {n : Nat} (h : cellsB P t = some (some n)) : aggB P t = some true ∧ sizeB P t = some n := by
  unfold cellsB at h
  split at h
  · rename_i ha
    cases hs : sizeB P t <;> simp [hs] at h
    exact ⟨ha, by rw [h]⟩
  · simp at h
  · cases h
def Cells (w : World) (g : Gh) (arr : Array Value) (cs : List C) : Prop := arr.size = cs.length ∧ ∀ (j : Nat) c, cs[j]? = some c → ∃ u, arr[j]? = some u ∧ RC w g u c
theorem Cells.take {arr : Array Value} {cs : List C} (h : Cells w g arr cs) (off n : Nat) (hb : off + n ≤ cs.length) : Cells w g (arr.extract off (off + n)) ((cs.drop off).take n) := by
  refine ⟨by simp [h.1]; omega, fun j c hj => ?_⟩
  rw [List.getElem?_take] at hj
  split at hj
  · rename_i hlt
    rw [List.getElem?_drop] at hj
    obtain ⟨u, h1, h2⟩ := h.2 _ c hj
    refine ⟨u, ?_, h2⟩
    rw [Array.getElem?_extract, ← h1]
    have := h.1
    rw [if_pos (by omega)]
  · cases hj
theorem Cells.all {arr : Array Value} {cs : List C} (h : Cells w g arr cs) : RV w g (.agg arr) (vA cs) := .e (.agg arr cs h.1 h.2)
theorem sub1_ok {t : TypeId} {arr : Array Value} {cs : List C} (hc : Cells w g arr cs) {off : Nat} {n : Option Nat} {p : Prop} {v : V} (h : sub1 cs off n = some (p, v)) (hp : p) (ht : cellsB P t = some n) : ∃ u, (part t arr off).run P w = .ok u w ∧ RV w g u v := by
  cases n with
  | none =>
    simp only [sub1] at h
    split at h
    · rename_i c hj
      cases h
      obtain ⟨u, h1, h2⟩ := hc.2 _ c hj
      exact ⟨u, by simp [part, run_isAgg (cellsB_none ht), h1], .e (.c h2)⟩
    · cases h
  | some n =>
    simp only [sub1] at h
    obtain ⟨h1, h2⟩ := cellsB_some ht
    have hrun : (part t arr off).run P w = .ok (.agg (arr.extract off (off + n))) w := by simp [part, run_isAgg h1, run_sizeB h2]
    refine ⟨_, hrun, ?_⟩
    cases hb : (Nat.beq off 0 && Nat.beq n cs.length) with
    | true =>
      rw [hb] at h
      simp only [cond_true] at h
      cases h
      simp only [Bool.and_eq_true] at hb
      obtain ⟨hb1, hb2⟩ := hb
      obtain rfl := Nat.eq_of_beq_eq_true hb1
      obtain rfl := Nat.eq_of_beq_eq_true hb2
      have e : arr.extract 0 (0 + cs.length) = arr := by rw [Nat.zero_add, ← hc.1]; simp
      rw [e]
      exact hc.all
    | false =>
      rw [hb] at h
      simp only [cond_false] at h
      cases h
      exact (hc.take off n hp).all
end

section
variable {P : Program} {N : Nat} {o : Oper} {ρ : Env} {ts : List Nat} {hl : List Ob} {p : Prop} {s : Res}
theorem s_field {t : TypeId} {x : Operand} {i : Nat} {ax : AX} {fs : Array Field} {fd : Field} {n : Option Nat} (ho : o.op = .field t x i) (h1 : trX x = some ax) (t1 : ∀ t ∈ ax.ts, t ∈ ts)
    (hu : P.underlying t = some (.struct fs)) (hf : fs[i]? = some fd) (hc : cellsB P fd.type = some n) (h : aop (.field fd.offset n ax) ρ hl = some (p, s)) (hp : p) : OpR P N o ρ ts hl s := by
  simp only [aop] at h
  split at h
  · rename_i cs e1
    split at h
    · rename_i q v hs
      cases h
      refine OpR.val rfl rfl fun a w g hh _ hR he => ?_
      obtain ⟨arr, r1, r2, r3⟩ := rv_agg (ev_ok h1 he t1 e1)
      obtain ⟨u, hu1, hu2⟩ := sub1_ok ⟨r2, r3⟩ hs hp hc
      exact ⟨u, by simp [execOp, ho, r1, Instr.field, run_underlying hu, hf, asAgg, hu1], hu2⟩
    · cases h
  · cases h
theorem s_index {t e : TypeId} {x i : Operand} {len sz : Nat} {ax ai : AX} {n : Option Nat} (ho : o.op = .index t x i) (h1 : trX x = some ax) (h2 : trX i = some ai) (t1 : ∀ t ∈ ax.ts, t ∈ ts) (t2 : ∀ t ∈ ai.ts, t ∈ ts)
    (hu : P.underlying t = some (.array len e)) (hsz : sizeB P e = some sz) (hc : cellsB P e = some n) (h : aop (.index sz len n ax ai) ρ hl = some (p, s)) (hp : p) : OpR P N o ρ ts hl s := by
  simp only [aop] at h
  split at h
  · rename_i cs k i' e1 e2
    split at h
    · rename_i q v hs
      cases h
      refine OpR.val rfl rfl fun a w g hh _ hR he => ?_
      obtain ⟨arr, r1, r2, r3⟩ := rv_agg (ev_ok h1 he t1 e1)
      have r4 := rv_int (ev_ok h2 he t2 e2)
      obtain ⟨u, hu1, hu2⟩ := sub1_ok ⟨r2, r3⟩ hs hp.1 hc
      exact ⟨u, by simp [execOp, ho, r1, r4, Instr.index, run_underlying hu, asIntOf, hp.2, run_sizeB hsz, hu1], hu2⟩
    · cases h
  · cases h
theorem s_strIdx {t : TypeId} {x i : Operand} {ax ai : AX} (ho : o.op = .index t x i) (h1 : trX x = some ax) (h2 : trX i = some ai) (t1 : ∀ t ∈ ax.ts, t ∈ ts) (t2 : ∀ t ∈ ai.ts, t ∈ ts)
    (hu : P.underlying t = some .string) (h : aop (.strIdx ax ai) ρ hl = some (p, s)) (hp : p) : OpR P N o ρ ts hl s := by
  simp only [aop] at h
  split at h
  · rename_i st k i' e1 e2
    cases h
    refine OpR.val rfl rfl fun a w g hh _ hR he => ?_
    have r1 := rv_str (ev_ok h1 he t1 e1)
    have r4 := rv_int (ev_ok h2 he t2 e2)
    have hlt : i'.toNat < st.size := by omega
    refine ⟨_, ?_, rv_i _ _⟩
    simp [execOp, ho, r1, r4, Instr.index, run_underlying hu, asIntOf, hp.1, hlt]
  · cases h
theorem run_v {x : Sem Value} {u : Value} {w w' : World} (h : x.run P w = .ok u w') : (do let r ← x; pure (Next.value r) : Sem Next).run P w = .ok (.value u) w' := by simp [h]
/-- What a slice's value is. -/
theorem sl_value {v : Value} {x : V} {w : World} {g : Gh} (h : RV w g v x) (hx : x = vD .nil ∨ (∃ sz n rows, x = vL sz n rows) ∨ ∃ id off n, x = vC (.sl id off n)) : ∃ A n c, v = .slice A n c := by
  rcases hx with rfl | ⟨sz, n, rows, rfl⟩ | ⟨id, off, n, rfl⟩
  · cases rv_d h; exact ⟨_, _, _, rfl⟩
  · cases rv_d h <;> exact ⟨_, _, _, rfl⟩
  · cases rv_c h <;> exact ⟨_, _, _, rfl⟩
def bnd (a : Act) (x : Option Operand) (n : Option Int) : Prop := match x, n with
  | none, none => True
  | some x, some n => ∃ k, a.eval x = .int k n
  | _, _ => False
theorem bndI_ok {x : Option Operand} {ax : Option AX} (h : trXo x = some ax) {w : World} {g : Gh} {a : Act} (he : EnvOn w g a ρ ts) (hts : ∀ y, ax = some y → ∀ t ∈ y.ts, t ∈ ts) {n : Option Int} (hn : bndI ρ ax = some n) : bnd a x n := by
  cases x with
  | none => simp [trXo] at h; subst h; simp [bndI] at hn; subst hn; trivial
  | some x =>
    cases hx : trX x with
    | none => simp [trXo, hx] at h
    | some y =>
      simp [trXo, hx] at h
      subst h
      simp only [bndI] at hn
      split at hn
      · rename_i k m e1
        cases hn
        exact ⟨k, rv_int (ev_ok hx he (hts y rfl) e1)⟩
      · cases hn
theorem run_bounds {a : Act} {w : World} (sl : Bool) (len cap : Nat) {lo hi : Option Operand} {l h : Option Int} (hl : bnd a lo l) (hh : bnd a hi h) (h0 : 0 ≤ l.getD 0) (h1 : l.getD 0 ≤ h.getD len) (h2 : h.getD len ≤ cap) :
    (Instr.sliceBounds sl len cap (lo.map a.eval) (hi.map a.eval) none).run P w = .ok ((l.getD 0).toNat, (h.getD len).toNat, cap) w := by
  have hhi : ∀ m : Int, h = some m → ∃ k y, hi = some y ∧ a.eval y = .int k m := by
    intro m e; subst e
    cases hi with
    | none => exact hh.elim
    | some y => obtain ⟨k, hk⟩ := hh; exact ⟨k, y, rfl, hk⟩
  have hhn : h = none → hi = none := by
    intro e; subst e
    cases hi with
    | none => rfl
    | some y => exact hh.elim
  have hlo : ∀ m : Int, l = some m → ∃ k y, lo = some y ∧ a.eval y = .int k m := by
    intro m e; subst e
    cases lo with
    | none => exact hl.elim
    | some y => obtain ⟨k, hk⟩ := hl; exact ⟨k, y, rfl, hk⟩
  have hln : l = none → lo = none := by
    intro e; subst e
    cases lo with
    | none => rfl
    | some y => exact hl.elim
  unfold Instr.sliceBounds
  cases h with
  | none =>
    obtain rfl := hhn rfl
    simp only [Option.getD_none] at h1 h2
    cases l with
    | none =>
      obtain rfl := hln rfl
      simp
    | some m =>
      obtain ⟨k, y, rfl, hy⟩ := hlo m rfl
      simp only [Option.getD_some] at h0 h1
      simp [hy, Instr.sliceBound, asIntOf, h0, h1]
  | some q =>
    obtain ⟨k2, y2, rfl, hy2⟩ := hhi q rfl
    simp only [Option.getD_some] at h1 h2
    have hq : 0 ≤ q := by omega
    cases l with
    | none =>
      obtain rfl := hln rfl
      simp [hy2, Instr.sliceBound, asIntOf, hq, h2]
    | some m =>
      obtain ⟨k, y, rfl, hy⟩ := hlo m rfl
      simp only [Option.getD_some] at h0 h1
      simp [hy, hy2, Instr.sliceBound, asIntOf, hq, h2, h0]
      intro hc
      omega
theorem run_slice {t e : TypeId} {sz : Nat} (hu : P.underlying t = some (.slice e)) (hsz : sizeB P e = some sz) {a : Act} {w : World} (A : Option Addr) (len cap : Nat) {lo hi : Option Operand} {l h : Option Int} (hl : bnd a lo l) (hh : bnd a hi h)
    (h0 : 0 ≤ l.getD 0) (h1 : l.getD 0 ≤ h.getD len) (h2 : h.getD len ≤ cap) :
    (Instr.sliceAt t (.slice A len cap) (lo.map a.eval) (hi.map a.eval) none).run P w =
      .ok (.slice (if cap = (l.getD 0).toNat then A else A.map (·.add ((l.getD 0).toNat * sz))) ((h.getD len).toNat - (l.getD 0).toNat) (cap - (l.getD 0).toNat)) w := by
  simp [Instr.sliceAt, Instr.slice, run_underlying hu, run_bounds true len cap hl hh h0 h1 h2, run_sizeB hsz]
theorem s_clip {t e : TypeId} {x : Operand} {lo hi mx : Option Operand} {ax : AX} {sz : Nat} (ho : o.op = .slice t x lo hi mx) (h1 : trX x = some ax) (t1 : ∀ t ∈ ax.ts, t ∈ ts)
    (hu : P.underlying t = some (.slice e)) (hsz : sizeB P e = some sz) (hlo : lo = none) (hhi : hi = some (.const (.int .i64 0))) (hmx : mx = some (.const (.int .i64 0)))
    (h : aop (.clip ax) ρ hl = some (p, s)) : OpR P N o ρ ts hl s := by
  subst hlo hhi hmx
  simp only [aop] at h
  have key : ∀ x' : V, ev ρ ax = some x' → (x' = vD .nil ∨ (∃ sz n rows, x' = vL sz n rows) ∨ ∃ id off n, x' = vC (.sl id off n)) → ret (vD .nil) = some (p, s) → OpR P N o ρ ts hl s := by
    intro x' e1 hx' hret
    obtain rfl := ret_v hret
    refine OpR.val rfl rfl fun a w g hh _ hR he => ?_
    obtain ⟨A, n, c, r1⟩ := sl_value (ev_ok h1 he t1 e1) hx'
    refine ⟨.slice A 0 0, ?_, .e (.c (.t (.nil A)))⟩
    have hz : a.eval (.const (.int .i64 0)) = .int .i64 0 := rfl
    simp [execOp, ho, r1, Instr.sliceAt, Instr.slice, run_underlying hu, run_sizeB hsz, Instr.sliceBounds, Instr.sliceBound, asIntOf, hz]
  split at h
  · rename_i e1; exact key _ e1 (.inl rfl) h
  · rename_i sz n rows e1; exact key _ e1 (.inr (.inl ⟨_, _, _, rfl⟩)) h
  · rename_i id off n e1; exact key _ e1 (.inr (.inr ⟨_, _, _, rfl⟩)) h
  · cases h
theorem s_slice {t e : TypeId} {x : Operand} {lo hi : Option Operand} {ax : AX} {al ah : Option AX} {sz : Nat} (ho : o.op = .slice t x lo hi none) (h1 : trX x = some ax) (h2 : trXo lo = some al) (h3 : trXo hi = some ah)
    (t1 : ∀ t ∈ ax.ts, t ∈ ts) (t2 : ∀ y, al = some y → ∀ t ∈ y.ts, t ∈ ts) (t3 : ∀ y, ah = some y → ∀ t ∈ y.ts, t ∈ ts)
    (hu : P.underlying t = some (.slice e)) (hsz : sizeB P e = some sz) (hp0 : 0 < sz) (h : aop (.slice sz ax al ah) ρ hl = some (p, s)) (hp : p) : OpR P N o ρ ts hl s := by
  simp only [aop] at h
  split at h
  · rename_i l r e1 e2 e3
    cases h
    refine OpR.val rfl rfl fun a w g hh _ hR he => ?_
    have r2 := bndI_ok h2 he t2 e2
    have r3 := bndI_ok h3 he t3 e3
    have r1 := rv_d (ev_ok h1 he t1 e1)
    generalize hx : a.eval x = v at *
    cases r1 with
    | nil A =>
      have hz : r.getD ((0 : Nat) : Int) = 0 := hp.2
      refine ⟨.slice A 0 0, ?_, .e (.c (.t (.nil A)))⟩
      have := run_slice (P := P) (w := w) hu hsz A 0 0 r2 r3 (by omega) (by omega) (by omega)
      simp only [hp.1, hz] at this
      simp only [execOp, ho, hx]
      exact run_v this
  · rename_i sz' n rows l r e1 e2 e3
    cases h
    obtain ⟨p1, p2, p3, rfl⟩ := hp
    refine OpR.val rfl rfl fun a w g hh _ hR he => ?_
    have r2 := bndI_ok h2 he t2 e2
    have r3 := bndI_ok h3 he t3 e3
    have r1 := rv_d (ev_ok h1 he t1 e1)
    generalize hx : a.eval x = v at *
    cases r1 with
    | lsn A _ =>
      have hz : r.getD ((0 : Nat) : Int) = 0 := by simp only [List.length_nil] at p3; omega
      have hz1 : l.getD 0 = 0 := by omega
      refine ⟨.slice A 0 0, ?_, ?_⟩
      · have := run_slice (P := P) (w := w) hu hsz A 0 0 r2 r3 (by omega) (by omega) (by omega)
        simp only [hz1, hz] at this
        simp only [execOp, ho, hx]
        exact run_v this
      · simp only [hz, hz1]
        exact .e (.c (.t (Rd.take (.lsn A _) (Nat.le_refl _))))
    | ls b of _ _ c _ us hI hn hc hm hs0 hs1 hcell hr =>
      have := run_slice (P := P) (w := w) hu hsz (some ⟨b, of, none⟩) n c r2 r3 p1 p2 (by omega)
      refine ⟨_, by simp only [execOp, ho, hx]; exact run_v this, ?_⟩
      by_cases hcl : c = (l.getD 0).toNat
      · have e1 : (r.getD (n : Int)).toNat - (l.getD 0).toNat = 0 := by omega
        have e2 : rows.drop (l.getD 0).toNat = [] := List.drop_eq_nil_of_le (by omega)
        rw [if_pos hcl, e1, e2, show c - (l.getD 0).toNat = 0 by omega]
        exact .e (.c (.t (Rd.take (.lsn _ _) (Nat.le_refl _))))
      · rw [if_neg hcl]
        simp only [Option.map_some, Addr.add_mid]
        refine .e (.c (.t (Rd.take (.ls b _ sz' _ _ _ (fun i j => us ((l.getD 0).toNat + i) j) hI ?_ ?_ (by omega) hs0 (fun i r' h1 => ?_) (fun i r' j t h1 h2 => ?_) (fun i r' j t h1 h2 => ?_)) (Nat.le_refl _))))
        · rw [List.length_drop]; omega
        · rw [List.length_drop]; omega
        · rw [List.getElem?_drop] at h1; exact hs1 _ _ h1
        · rw [List.getElem?_drop] at h1
          have := hcell _ _ _ _ h1 h2
          rw [← this, Nat.add_mul]
          congr 2
          omega
        · rw [List.getElem?_drop] at h1; exact hr _ _ _ _ h1 h2
  · rename_i id off n l r e1 e2 e3
    split at h
    · rename_i sz' rows hid
      cases h
      obtain ⟨p1, p2, p3, rfl⟩ := hp
      refine OpR.val rfl rfl fun a w g hh hrd hR he => ?_
      have r2 := bndI_ok h2 he t2 e2
      have r3 := bndI_ok h3 he t3 e3
      have r1 := rv_c (ev_ok h1 he t1 e1)
      have hob : hh id = .arr sz' rows := (hrd id (by simp)).trans hid
      obtain ⟨_, lc, m0, m1, hcase⟩ := hob ▸ hR.objs id (by rw [hob]; rfl)
      have htot : rows.length ≤ lc.tot := by
        rcases hcase with ⟨_, _, hr, _⟩ | ⟨_, hle, _⟩
        · rw [hr]; simp
        · exact hle
      generalize hx : a.eval x = v at *
      cases r1 with
      | sl _ _ hμ hn ho' =>
        rename_i lc'
        obtain rfl : lc = lc' := Option.some.inj (m0.symm.trans hμ)
        have := run_slice (P := P) (w := w) hu hsz (some ⟨lc.blk, off * lc.sz, none⟩) n (lc.tot - off) r2 r3 p1 p2 (by omega)
        refine ⟨_, by simp only [execOp, ho, hx]; exact run_v this, ?_⟩
        by_cases hcl : lc.tot - off = (l.getD 0).toNat
        · rw [if_pos hcl, show (r.getD (n : Int)).toNat - (l.getD 0).toNat = 0 by omega, show lc.tot - off - (l.getD 0).toNat = 0 by omega]
          exact .e (.c (.slz _ _ hμ (by omega)))
        · rw [if_neg hcl]
          simp only [Option.map_some, Addr.add_mid]
          have e : off * lc.sz + (l.getD 0).toNat * sz' = (off + (l.getD 0).toNat) * lc.sz := by rw [m1, Nat.add_mul]
          rw [e, Nat.sub_sub]
          exact .e (.c (.sl _ _ hμ hn (by omega)))
      | slz _ A hμ ho' =>
        rename_i lc'
        obtain rfl : lc = lc' := Option.some.inj (m0.symm.trans hμ)
        have hz : r.getD ((0 : Nat) : Int) = 0 := by omega
        have hz1 : l.getD 0 = 0 := by omega
        have := run_slice (P := P) (w := w) hu hsz A 0 0 r2 r3 (by omega) (by omega) (by omega)
        simp only [hz1, hz] at this
        refine ⟨.slice A 0 0, by simp only [execOp, ho, hx]; exact run_v this, ?_⟩
        simp only [hz, hz1]
        exact .e (.c (.slz _ _ hμ ho'))
    · cases h
  · cases h
theorem s_sliceS {t : TypeId} {x : Operand} {lo hi : Option Operand} {ax : AX} {al ah : Option AX} (ho : o.op = .slice t x lo hi none) (h1 : trX x = some ax) (h2 : trXo lo = some al) (h3 : trXo hi = some ah)
    (t1 : ∀ t ∈ ax.ts, t ∈ ts) (t2 : ∀ y, al = some y → ∀ t ∈ y.ts, t ∈ ts) (t3 : ∀ y, ah = some y → ∀ t ∈ y.ts, t ∈ ts)
    (hu : P.underlying t = some .string) (h : aop (.sliceS ax al ah) ρ hl = some (p, s)) (hp : p) : OpR P N o ρ ts hl s := by
  simp only [aop] at h
  split at h
  · rename_i st l r e1 e2 e3
    cases h
    refine OpR.val rfl rfl fun a w g hh _ hR he => ?_
    have r2 := bndI_ok h2 he t2 e2
    have r3 := bndI_ok h3 he t3 e3
    have r1 := rv_str (ev_ok h1 he t1 e1)
    refine ⟨_, ?_, rv_s _⟩
    simp only [execOp, ho, r1]
    refine run_v ?_
    simp [Instr.sliceAt, Instr.slice, run_underlying hu, run_bounds false st.size st.size r2 r3 hp.1 hp.2.1 hp.2.2]
  · cases h
theorem run_fieldAt {t : TypeId} {fs : Array Field} {fd : Field} {i n : Nat} (hu : P.underlying t = some (.struct fs)) (hf : fs[i]? = some fd) (hsz : sizeB P fd.type = some (n + 1)) (b k : Nat) (w : World) :
    (Instr.fieldAt t (.pointer (some ⟨b, k, none⟩)) i).run P w = .ok (.pointer (some ⟨b, k + fd.offset, none⟩)) w := by
  simp [Instr.fieldAt, run_underlying hu, hf, Instr.sureAddr, fieldPlace, run_sizeB hsz, Addr.add_mid]
theorem s_fieldAddr {t : TypeId} {x : Operand} {i n : Nat} {ax : AX} {fs : Array Field} {fd : Field} (ho : o.op = .fieldAddr t x i) (h1 : trX x = some ax) (t1 : ∀ t ∈ ax.ts, t ∈ ts)
    (hu : P.underlying t = some (.struct fs)) (hf : fs[i]? = some fd) (hsz : sizeB P fd.type = some (n + 1)) (h : aop (.fieldAddr fd.offset ax) ρ hl = some (p, s)) : OpR P N o ρ ts hl s := by
  simp only [aop] at h
  split at h
  · rename_i id off e1
    obtain rfl := ret_v h
    refine OpR.val rfl rfl fun a w g hh _ hR he => ?_
    have r1 := rv_c (ev_ok h1 he t1 e1)
    generalize hx : a.eval x = v at *
    cases r1 with
    | ptr _ hμ hn =>
      refine ⟨_, ?_, .e (.c (.ptr _ hμ hn))⟩
      simp only [execOp, ho, hx]
      exact run_v (run_fieldAt hu hf hsz _ _ w)
  · rename_i id i' k e1
    obtain rfl := ret_v h
    refine OpR.val rfl rfl fun a w g hh _ hR he => ?_
    have r1 := rv_c (ev_ok h1 he t1 e1)
    generalize hx : a.eval x = v at *
    cases r1 with
    | el _ _ hμ hn =>
      refine ⟨_, ?_, .e (.c (.el _ _ hμ hn))⟩
      simp only [execOp, ho, hx]
      rw [← Nat.add_assoc]
      exact run_v (run_fieldAt hu hf hsz _ _ w)
  · rename_i ds e1
    obtain rfl := ret_v h
    refine OpR.val rfl rfl fun a w g hh _ hR he => ?_
    have r1 := rv_c (ev_ok h1 he t1 e1)
    generalize hx : a.eval x = v at *
    cases r1 with
    | im b of _ us hI hc hr =>
      refine ⟨.pointer (some ⟨b, of + fd.offset, none⟩), ?_, .e (.c (.im b _ _ (fun j => us (fd.offset + j)) hI (fun j t hj => ?_) (fun j t hj => ?_)))⟩
      · simp only [execOp, ho, hx]
        exact run_v (run_fieldAt hu hf hsz _ _ w)
      · rw [List.getElem?_drop] at hj
        rw [← hc _ t hj, Nat.add_assoc]
      · rw [List.getElem?_drop] at hj
        exact hr _ t hj
  · cases h
theorem s_idxArr {t e : TypeId} {x i : Operand} {len sz : Nat} {ax ai : AX} (ho : o.op = .indexAddr t x i) (h1 : trX x = some ax) (h2 : trX i = some ai) (t1 : ∀ t ∈ ax.ts, t ∈ ts) (t2 : ∀ t ∈ ai.ts, t ∈ ts)
    (hu : P.underlying t = some (.array len e)) (hsz : sizeB P e = some sz) (h : aop (.idxArr sz len ax ai) ρ hl = some (p, s)) (hp : p) : OpR P N o ρ ts hl s := by
  simp only [aop] at h
  split at h
  · rename_i id off k i' e1 e2
    cases h
    refine OpR.val rfl rfl fun a w g hh _ hR he => ?_
    have r1 := rv_c (ev_ok h1 he t1 e1)
    have r2 := rv_int (ev_ok h2 he t2 e2)
    generalize hx : a.eval x = v at *
    cases r1 with
    | ptr _ hμ hn =>
      refine ⟨_, ?_, .e (.c (.ptr _ hμ hn))⟩
      simp only [execOp, ho, hx, r2]
      refine run_v ?_
      simp [Instr.indexAt, run_underlying hu, asIntOf, Instr.sureAddr, hp.1, hp.2, run_sizeB hsz, Addr.add_mid]
  · cases h
theorem run_idxSl {t e : TypeId} {sz : Nat} (hu : P.underlying t = some (.slice e)) (hsz : sizeB P e = some sz) (b of n c : Nat) (k : IntKind) (i : Int) (h0 : 0 ≤ i) (h1 : i < n) (w : World) :
    (Instr.indexAt t (.slice (some ⟨b, of, none⟩) n c) (.int k i)).run P w = .ok (.pointer (some ⟨b, of + i.toNat * sz, none⟩)) w := by
  simp [Instr.indexAt, run_underlying hu, asIntOf, h0, h1, run_sizeB hsz, Addr.add_mid]
theorem s_idxAddr {t e : TypeId} {x i : Operand} {sz : Nat} {ax ai : AX} (ho : o.op = .indexAddr t x i) (h1 : trX x = some ax) (h2 : trX i = some ai) (t1 : ∀ t ∈ ax.ts, t ∈ ts) (t2 : ∀ t ∈ ai.ts, t ∈ ts)
    (hu : P.underlying t = some (.slice e)) (hsz : sizeB P e = some sz) (h : aop (.idxAddr sz ax ai) ρ hl = some (p, s)) (hp : p) : OpR P N o ρ ts hl s := by
  simp only [aop] at h
  split at h
  · rename_i id off n k i' e1 e2
    split at h
    · rename_i sz' rows hid
      cases h
      obtain ⟨p1, p2, rfl⟩ := hp
      refine OpR.val rfl rfl fun a w g hh hrd hR he => ?_
      have r1 := rv_c (ev_ok h1 he t1 e1)
      have r2 := rv_int (ev_ok h2 he t2 e2)
      have hob : hh id = .arr sz' rows := (hrd id (by simp)).trans hid
      obtain ⟨_, lc, m0, m1, _⟩ := hob ▸ hR.objs id (by rw [hob]; rfl)
      generalize hx : a.eval x = v at *
      cases r1 with
      | sl _ _ hμ hn ho' =>
        rename_i lc'
        obtain rfl : lc = lc' := Option.some.inj (m0.symm.trans hμ)
        refine ⟨_, ?_, .e (.c (.el _ _ hμ hn))⟩
        simp only [execOp, ho, hx, r2]
        have := run_idxSl (P := P) hu hsz lc.blk (off * lc.sz) n (lc.tot - off) k i' p1 p2 w
        rw [m1, ← Nat.add_mul] at this
        rw [m1, Nat.add_zero]
        exact run_v this
      | slz _ A hμ ho' => omega
    · cases h
  · cases h
theorem s_idxAddrI {t e : TypeId} {x i : Operand} {sz : Nat} {ax ai : AX} {r : List D} (ho : o.op = .indexAddr t x i) (h1 : trX x = some ax) (h2 : trX i = some ai) (t1 : ∀ t ∈ ax.ts, t ∈ ts) (t2 : ∀ t ∈ ai.ts, t ∈ ts)
    (hu : P.underlying t = some (.slice e)) (hsz : sizeB P e = some sz) (h : aopi (.idxAddr sz ax ai) ρ hl r = some (p, s)) (hp : p) : OpR P N o ρ ts hl s := by
  simp only [aopi] at h
  split at h
  · rename_i sz' n rows k i' e1 e2
    cases h
    obtain ⟨⟨p1, p2⟩, rfl, p3⟩ := hp
    refine OpR.val rfl rfl fun a w g hh hrd hR he => ?_
    have r1 := rv_d (ev_ok h1 he t1 e1)
    have r2 := rv_int (ev_ok h2 he t2 e2)
    generalize hx : a.eval x = v at *
    cases r1 with
    | lsn A _ => omega
    | ls b of _ _ c _ us hI hn hc hm hs0 hs1 hcell hr =>
      refine ⟨_, ?_, .e (.c (.im b (of + i'.toNat * sz') r (us i'.toNat) hI (fun j t hj => ?_) (fun j t hj => hr _ _ _ _ p3 hj)))⟩
      · simp only [execOp, ho, hx, r2]
        exact run_v (run_idxSl (P := P) hu hsz b of n c k i' p1 p2 w)
      · rw [← hcell _ _ _ _ p3 hj, Nat.add_assoc]
  · cases h
theorem run_len {t ty : TypeId} {v : Value} {x : V} {n : Nat} {w : World} {g : Gh} (hn : natLen x = some n) (h : RV w g v x)
    (hu : (∃ e, P.underlying t = some (.slice e)) ∧ (∀ s, x ≠ vD (.str s)) ∨ P.underlying t = some .string ∧ ∃ s, x = vD (.str s)) : (Builtin.len_ #[t] ty #[v]).run P w = .ok (.int .i64 n) w := by
  unfold natLen at hn
  split at hn <;> simp at hn
  · subst hn
    obtain ⟨e, hu2⟩ := (hu.resolve_right (fun h => by obtain ⟨_, _, h⟩ := h; cases h)).1
    cases rv_d h
    simp [Builtin.len_, run_underlying hu2, goInt]
  · subst hn
    obtain ⟨e, hu2⟩ := (hu.resolve_right (fun h => by obtain ⟨_, _, h⟩ := h; cases h)).1
    cases rv_d h <;> simp [Builtin.len_, run_underlying hu2, goInt]
  · subst hn
    have hu2 := (hu.resolve_left (fun h => h.2 _ rfl)).1
    obtain rfl := rv_str h
    simp [Builtin.len_, run_underlying hu2, goInt]
  · subst hn
    obtain ⟨e, hu2⟩ := (hu.resolve_right (fun h => by obtain ⟨_, _, h⟩ := h; cases h)).1
    cases rv_c h <;> simp [Builtin.len_, run_underlying hu2, goInt]
theorem s_len {c : Call} {t : TypeId} {x : Operand} {ax : AX} {st : Bool} (ho : o.op = .call c) (hc : c.callee = .builtin .len) (ht : c.argTypes[0]? = some t) (hu : if st then P.underlying t = some .string else ∃ e, P.underlying t = some (.slice e)) (hargs : c.args.toList = [x])
    (h1 : trX x = some ax) (t1 : ∀ t ∈ ax.ts, t ∈ ts) (h : aop (.len st ax) ρ hl = some (p, s)) : OpR P N o ρ ts hl s := by
  have ha : c.args = #[x] := by rw [← Array.toArray_toList (xs := c.args), hargs]
  have hcall : ∀ (a : Act) (w : World) u, (Builtin.len_ #[t] o.type #[a.eval x]).run P w = .ok u w → (execOp a.eval o).run P w = .ok (.value u) w := by
    intro a w u hr
    have e : Builtin.len_ c.argTypes o.type #[a.eval x] = Builtin.len_ #[t] o.type #[a.eval x] := by simp [Builtin.len_, ht]
    simp [execOp, ho, resolve, hc, invoke, builtin, ha, e, hr]
  simp only [aop] at h
  cases st
  · simp only [cond_false] at h
    split at h
    · rename_i v e1
      cases hs : isStr v with
      | true => simp [hs] at h
      | false =>
        simp only [hs, cond_false] at h
        split at h
        · rename_i n hn
          obtain rfl := ret_v h
          refine OpR.val rfl rfl fun a w g hh hrd hR he => ⟨.int .i64 n, hcall a w _ (run_len hn (ev_ok h1 he t1 e1) (.inl ⟨by simpa using hu, fun s e => by subst e; simp [isStr] at hs⟩)), rv_i _ _⟩
        · cases h
    · cases h
  · simp only [cond_true] at h
    split at h
    · rename_i st e1
      obtain rfl := ret_v h
      refine OpR.val rfl rfl fun a w g hh hrd hR he => ⟨.int .i64 st.size, hcall a w _ (run_len (n := st.size) rfl (ev_ok h1 he t1 e1) (.inr ⟨by simpa using hu, _, rfl⟩)), rv_i _ _⟩
    · cases h
theorem s_minmax {mx : Bool} {c : Call} {x y : Operand} {ax ay : AX} (ho : o.op = .call c) (hc : c.callee = .builtin (if mx then .max else .min)) (hargs : c.args.toList = [x, y])
    (h1 : trX x = some ax) (h2 : trX y = some ay) (t1 : ∀ t ∈ ax.ts, t ∈ ts) (t2 : ∀ t ∈ ay.ts, t ∈ ts) (h : aop (.minmax mx ax ay) ρ hl = some (p, s)) : OpR P N o ρ ts hl s := by
  have ha : c.args = #[x, y] := by rw [← Array.toArray_toList (xs := c.args), hargs]
  simp only [aop] at h
  split at h
  · rename_i k a' k' b' e1 e2
    obtain rfl := ret_v h
    refine OpR.val rfl rfl fun a w g hh hrd hR he => ?_
    have r1 := rv_int (ev_ok h1 he t1 e1)
    have r2 := rv_int (ev_ok h2 he t2 e2)
    refine ⟨_, ?_, rv_i _ _⟩
    cases mx
    · simp [execOp, ho, resolve, hc, invoke, builtin, ha, r1, r2, run_min_int2]
    · simp [execOp, ho, resolve, hc, invoke, builtin, ha, r1, r2, run_max_int2]
  · cases h
theorem evs_ok {xs : List Operand} {axs : List AX} (h : listM trX xs = some axs) {w : World} {g : Gh} {a : Act} (he : EnvOn w g a ρ ts) (hts : ∀ y ∈ axs, ∀ t ∈ y.ts, t ∈ ts) : ∀ {vs : List V}, evs ρ axs = some vs → vs.length = xs.length ∧ ∀ (j : Nat) v, vs[j]? = some v → ∃ x, xs[j]? = some x ∧ RV w g (a.eval x) v := by
  induction xs generalizing axs with
  | nil => intro vs hv; simp [listM] at h; subst h; simp [evs] at hv; subst hv; simp
  | cons x xs ih =>
    intro vs hv
    unfold listM at h
    cases hx : trX x with
    | none => simp [hx] at h
    | some ax =>
      cases hl : listM trX xs with
      | none => simp [hx, hl] at h
      | some axs' =>
        simp [hx, hl] at h
        subst h
        unfold evs at hv
        split at hv
        · rename_i v r e1 e2
          cases hv
          obtain ⟨i1, i2⟩ := ih hl (fun y hy => hts y (by simp [hy])) e2
          refine ⟨by simp [i1], fun j v' hj => ?_⟩
          cases j with
          | zero => simp at hj; subst hj; exact ⟨x, by simp, ev_ok hx he (hts ax (by simp)) e1⟩
          | succ j => simpa using i2 j v' (by simpa using hj)
        · cases hv
theorem s_mkFn {f : FuncId} {caps : Array Operand} {axs : List AX} (ho : o.op = .makeFunc (.func f) #[] caps) (h1 : listM trX caps.toList = some axs) (t1 : ∀ y ∈ axs, ∀ t ∈ y.ts, t ∈ ts) (h : aop (.mkFn f axs) ρ hl = some (p, s)) : OpR P N o ρ ts hl s := by
  simp only [aop] at h
  split at h
  · rename_i vs e1
    split at h
    · rename_i cs e2
      obtain rfl := ret_v h
      refine OpR.val rfl rfl fun a w g hh hrd hR he => ?_
      obtain ⟨i1, i2⟩ := evs_ok h1 he t1 e1
      obtain ⟨j1, j2⟩ := listM_ok e2
      refine ⟨.func (.func f) #[] (caps.map a.eval), ?_, .e (.c (.fn f _ cs (by simp [← j1, i1]) (fun j v c hv hc => ?_)))⟩
      · simp [execOp, ho, Instr.makeFunc]
      · obtain ⟨v', hv', hcc⟩ := j2 j c hc
        obtain ⟨x, hx1, hx2⟩ := i2 j v' hv'
        have : v = a.eval x := by
          rw [Array.getElem?_map] at hv
          have hx1' : caps[j]? = some x := by simpa using hx1
          rw [hx1'] at hv
          simpa using hv.symm
        subst this
        split at hcc
        · cases hcc; exact rv_c hx2
        · cases hcc
    · cases h
  · cases h
theorem s_nilCheck {x : Operand} {ax : AX} (ho : o.op = .nilCheck x) (h1 : trX x = some ax) (t1 : ∀ t ∈ ax.ts, t ∈ ts) (h : aop (.nilCheck ax) ρ hl = some (p, s)) : OpR P N o ρ ts hl s := by
  simp only [aop] at h
  split at h <;> first | (cases h; done) | skip
  all_goals
    rename_i e1
    obtain rfl := ret_v h
    refine OpR.val rfl rfl fun a w g hh hrd hR he => ?_
    have r1 := ev_ok h1 he t1 e1
    refine ⟨a.eval x, ?_, r1⟩
    generalize hx : a.eval x = v at *
    cases rv_c r1
    simp [execOp, ho, hx]
end
end Go.Proofs.Ytheaeddojcebjaa

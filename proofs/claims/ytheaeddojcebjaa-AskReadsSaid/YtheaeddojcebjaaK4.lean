/-
  What aop says is so: operations that leave memory alone.
-/
import Derived.Test.YtheaeddojcebjaaK3
set_option linter.unusedVariables false
set_option linter.unusedSimpArgs false
namespace Go.Proofs.Ytheaeddojcebjaa
open Go.RowKit

def EnvOn (w : World) (g : Gh) (a : Act) (ρ : Env) (ts : List Nat) : Prop := ∀ t ∈ ts, ∀ v, get ρ t = some v → RV w g (a.eval (.tmp t)) v
theorem EnvOn.sub {w : World} {g : Gh} {a : Act} {ρ : Env} {ts us : List Nat} (h : EnvOn w g a ρ ts) (hs : ∀ t ∈ us, t ∈ ts) : EnvOn w g a ρ us := fun t ht => h t (hs t ht)

theorem toD_ok {v : Value} {d : D} (h : toD v = some d) (w : World) (I : Nat → Prop) : Rd w I v d := by
  unfold toD at h
  split at h <;> simp at h <;> subst h
  · exact .int _ _
  · exact .bool _
  · exact .str _
  · exact .nil _
theorem toC_ok {v : Value} {c : C} (h : toC v = some c) (w : World) (g : Gh) : RC w g v c := by
  unfold toC at h
  split at h
  · simp at h; subst h; exact .nilp
  · cases hd : toD v with
    | none => simp [hd] at h
    | some d => simp [hd] at h; subst h; exact .t (toD_ok hd w g.I)
theorem listM_ok {α β : Type} {f : α → Option β} : ∀ {l : List α} {r : List β}, listM f l = some r → l.length = r.length ∧ ∀ (j : Nat) b, r[j]? = some b → ∃ a, l[j]? = some a ∧ f a = some b
  | [], r, h => by simp [listM] at h; subst h; simp
  | a :: l, r, h => by
    unfold listM at h
    cases hf : f a with
    | none => simp [hf] at h
    | some b =>
      cases hl : listM f l with
      | none => simp [hf, hl] at h
      | some r' =>
        simp [hf, hl] at h
        subst h
        obtain ⟨h1, h2⟩ := listM_ok hl
        refine ⟨by simp [h1], fun j b' hj => ?_⟩
        cases j with
        | zero => simp at hj; subst hj; exact ⟨a, by simp, hf⟩
        | succ j => simpa using h2 j b' (by simpa using hj)
theorem listM_fwd {α β : Type} {f : α → Option β} {l : List α} {r : List β} (h : listM f l = some r) (j : Nat) (a : α) (ha : l[j]? = some a) : ∃ b, r[j]? = some b ∧ f a = some b := by
  obtain ⟨h1, h2⟩ := listM_ok h
  have hj : j < r.length := by rw [← h1]; exact (List.getElem?_eq_some_iff.1 ha).1
  obtain ⟨a', h3, h4⟩ := h2 j r[j] (List.getElem?_eq_getElem hj)
  rw [ha] at h3
  injection h3 with h3
  exact ⟨r[j], List.getElem?_eq_getElem hj, h3 ▸ h4⟩
theorem toE_ok {v : Value} {e : E} (h : toE v = some e) (w : World) (g : Gh) : RE w g v e := by
  unfold toE at h
  split at h
  · rename_i cs
    cases hl : listM toC cs.toList with
    | none => simp [hl] at h
    | some r =>
      simp [hl] at h
      subst h
      obtain ⟨h1, h2⟩ := listM_ok hl
      refine .agg _ _ (by simpa using h1) fun j c hj => ?_
      obtain ⟨a, ha, hc⟩ := h2 j c hj
      exact ⟨a, by simpa using ha, toC_ok hc w g⟩
  · cases hc : toC v with
    | none => simp [hc] at h
    | some c => simp [hc] at h; subst h; exact .c (toC_ok hc w g)
theorem ev_ok {x : Operand} {ax : AX} (h : trX x = some ax) {w : World} {g : Gh} {a : Act} {ρ : Env} {ts : List Nat} (he : EnvOn w g a ρ ts) (hts : ∀ t ∈ ax.ts, t ∈ ts) {v : V} (hv : ev ρ ax = some v) : RV w g (a.eval x) v := by
  cases x with
  | tmp t =>
    simp [trX] at h
    subst h
    exact he t (hts t (by simp [AX.ts])) v hv
  | const u =>
    cases hc : toE u with
    | none => simp [trX, hc] at h
    | some e =>
      simp [trX, hc] at h
      subst h
      simp [ev] at hv
      subst hv
      exact .e (toE_ok hc w g)
  | func f =>
    simp [trX] at h
    subst h
    simp [ev] at hv
    subst hv
    exact .e (.c (.fn f #[] [] rfl (by simp)))
  | «global» n => simp [trX] at h

/- What a value is, that reads so. -/
section
variable {w : World} {g : Gh} {v : Value}
theorem rv_int {k : IntKind} {n : Int} (h : RV w g v (vI k n)) : v = .int k n := by cases h with | e h => cases h with | c h => cases h with | t h => cases h; rfl
theorem rv_bool {b : Bool} (h : RV w g v (vB b)) : v = .bool b := by cases h with | e h => cases h with | c h => cases h with | t h => cases h; rfl
theorem rv_str {s : ByteArray} (h : RV w g v (vD (.str s))) : v = .string s := by cases h with | e h => cases h with | c h => cases h with | t h => cases h; rfl
theorem rv_d {d : D} (h : RV w g v (vD d)) : Rd w g.I v d := by cases h with | e h => cases h with | c h => cases h with | t h => exact h
theorem rv_c {c : C} (h : RV w g v (vC c)) : RC w g v c := by cases h with | e h => cases h with | c h => exact h
theorem rv_e {e : E} (h : RV w g v (.e e)) : RE w g v e := by cases h with | e h => exact h
theorem rv_of {e : E} (h : RE w g v e) : RV w g v (.e e) := .e h
theorem rv_agg {cs : List C} (h : RV w g v (vA cs)) : ∃ arr, v = .agg arr ∧ arr.size = cs.length ∧ ∀ (j : Nat) c, cs[j]? = some c → ∃ u, arr[j]? = some u ∧ RC w g u c := by
  cases h with | e h => cases h with | agg arr cs hs h => exact ⟨arr, rfl, hs, h⟩
theorem re_agg {cs : List C} (h : RE w g v (.agg cs)) : ∃ arr, v = .agg arr ∧ arr.size = cs.length ∧ ∀ (j : Nat) c, cs[j]? = some c → ∃ u, arr[j]? = some u ∧ RC w g u c := by
  cases h with | agg arr cs hs h => exact ⟨arr, rfl, hs, h⟩
theorem rv_i (k : IntKind) (n : Int) : RV w g (.int k n) (vI k n) := .e (.c (.t (.int k n)))
theorem rv_b (b : Bool) : RV w g (.bool b) (vB b) := .e (.c (.t (.bool b)))
theorem rv_s (s : ByteArray) : RV w g (.string s) (vD (.str s)) := .e (.c (.t (.str s)))
theorem Rd.one {I : Nat → Prop} {d : D} (h : Rd w I v d) : v.oneCell' = true := by cases h <;> rfl
theorem RC.one {c : C} (h : RC w g v c) : v.oneCell' = true := by
  cases h with
  | t h => exact h.one
  | _ => rfl
theorem RC.cells {c : C} (h : RC w g v c) : v.cells = #[v] := by
  have := h.one
  cases v <;> first | rfl | (simp [Value.oneCell'] at this)
theorem re_cells {e : E} (h : RE w g v e) : v.cells.size = e.cells.length ∧ ∀ (j : Nat) c, e.cells[j]? = some c → ∃ u, v.cells[j]? = some u ∧ RC w g u c := by
  cases h with
  | c h =>
    rw [h.cells]
    refine ⟨rfl, fun j c hj => ?_⟩
    cases j with
    | zero => simp [E.cells] at hj; subst hj; exact ⟨v, rfl, h⟩
    | succ j => simp [E.cells] at hj
  | agg arr cs hs h => exact ⟨hs, h⟩
end

/-- What an operation does, told by a small step. -/
def OpR (P : Program) (N : Nat) (o : Oper) (ρ : Env) (ts : List Nat) (hl : List Ob) (s : Res) : Prop :=
  ∀ (a : Act) (w : World) (g : Gh) (h : Nat → Ob), a.tmps.size = N → (∀ i, i ∈ s.rd ∨ i ∈ s.ids → h i = hx hl i) → (∀ i, isNew hl.length s.nw.length i → g.μ i = none ∧ h i = .dead) → Rl w g h → EnvOn w g a ρ ts →
    o.wp P a w (fun a' w' => ∃ u g', a' = a.put o.dst u ∧ RV w' g' u s.v ∧ Rl w' g' (s.app hl.length h) ∧ Go1 w g h s.ids hl.length s.nw.length w' g' (s.app hl.length h)) (fun _ _ _ => False)

theorem Go1.refl (w : World) (g : Gh) (h : Nat → Ob) (base : Nat) : Go1 w g h [] base 0 w g h :=
  ⟨Keeps.refl _ _, Gm.refl _, fun _ h => .inl h, fun _ _ h => h, fun _ _ _ => rfl, fun i b hi => by simp [isNew] at hi; omega⟩
theorem app_none {s : Res} (hw : s.wr = []) (hn : s.nw = []) (base : Nat) (h : Nat → Ob) : s.app base h = h := by
  funext i
  simp [Res.app, hw, hn, getO]
/-- An operation of one value. -/
theorem OpR.val {P : Program} {N : Nat} {o : Oper} {ρ : Env} {ts : List Nat} {hl : List Ob} {s : Res} (hw : s.wr = []) (hn : s.nw = [])
    (h : ∀ (a : Act) (w : World) (g : Gh) (h : Nat → Ob), (∀ i, i ∈ s.rd → h i = hx hl i) → Rl w g h → EnvOn w g a ρ ts → ∃ u, (execOp a.eval o).run P w = .ok (.value u) w ∧ RV w g u s.v) : OpR P N o ρ ts hl s := by
  intro a w g hh hN hr hnew hR he
  obtain ⟨u, h1, h2⟩ := h a w g hh (fun i hi => hr i (.inl hi)) hR he
  unfold Oper.wp
  rw [h1]
  refine ⟨u, g, rfl, h2, ?_, ?_⟩
  · rw [app_none hw hn]; exact hR
  · rw [app_none hw hn]
    have : s.ids = [] := by simp [Res.ids, hw]
    rw [this, hn]
    exact Go1.refl w g hh _
theorem ret_v {v : V} {p : Prop} {s : Res} (h : ret v = some (p, s)) : s = { v := v } := by
  simp [ret] at h; exact h.2.symm

section
variable {P : Program} {N : Nat} {o : Oper} {ρ : Env} {ts : List Nat} {hl : List Ob} {p : Prop} {s : Res}

theorem s_mv {x : Operand} {ax : AX} (ho : o.op = .move x ∨ o.op = .assign x) (hx' : trX x = some ax) (hts : ∀ t ∈ ax.ts, t ∈ ts) (h : aop (.mv ax) ρ hl = some (p, s)) : OpR P N o ρ ts hl s := by
  simp only [aop] at h
  cases hv : ev ρ ax with
  | none => simp [hv] at h
  | some v =>
    simp only [hv] at h
    obtain rfl := ret_v h
    refine OpR.val rfl rfl fun a w g hh _ hR he => ⟨a.eval x, ?_, ev_ok hx' he hts hv⟩
    rcases ho with ho | ho <;> simp [execOp, ho]

theorem s_len_arr {c : Call} {n : Nat} {t e : TypeId} {x : Operand} (ho : o.op = .call c) (hc : c.callee = .builtin .len) (ht : c.argTypes[0]? = some t) (hu : P.underlying t = some (.array n e)) (hargs : c.args.toList = [x])
    (h : aop (.mv (.k (.c (.t (.int .i64 n))))) ρ hl = some (p, s)) : OpR P N o ρ ts hl s := by
  simp only [aop, ev] at h
  obtain rfl := ret_v h
  have ha : c.args = #[x] := by rw [← Array.toArray_toList (xs := c.args), hargs]
  refine OpR.val rfl rfl fun a w g hh _ hR he => ⟨.int .i64 n, ?_, rv_i _ _⟩
  simp [execOp, ho, resolve, hc, invoke, builtin, ha, Builtin.len_, ht, run_underlying hu, goInt]

theorem s_pick {c x y : Operand} {ac ax ay : AX} (ho : o.op = .pick c x y) (h1 : trX c = some ac) (h2 : trX x = some ax) (h3 : trX y = some ay) (t1 : ∀ t ∈ ac.ts, t ∈ ts) (t2 : ∀ t ∈ ax.ts, t ∈ ts) (t3 : ∀ t ∈ ay.ts, t ∈ ts)
    (h : aop (.pick ac ax ay) ρ hl = some (p, s)) : OpR P N o ρ ts hl s := by
  simp only [aop] at h
  split at h
  · rename_i b u v e1 e2 e3
    obtain rfl := ret_v h
    refine OpR.val rfl rfl fun a w g hh _ hR he => ?_
    have r1 := rv_bool (ev_ok h1 he t1 e1)
    have r2 := rv_bool (ev_ok h2 he t2 e2)
    have r3 := rv_bool (ev_ok h3 he t3 e3)
    refine ⟨.bool (bif b then u else v), ?_, rv_b _⟩
    cases b <;> simp [execOp, ho, r1, r2, r3, asBool]
  · rename_i b u0 v hno e1 e2 e3
    obtain rfl := ret_v h
    refine OpR.val rfl rfl fun a w g hh _ hR he => ?_
    have r1 := rv_bool (ev_ok h1 he t1 e1)
    have r2 := ev_ok h2 he t2 e2
    have r3 := ev_ok h3 he t3 e3
    cases b
    · exact ⟨a.eval y, by simp [execOp, ho, r1, asBool], r3⟩
    · exact ⟨a.eval x, by simp [execOp, ho, r1, asBool], r2⟩
  · cases h
end
end Go.Proofs.Ytheaeddojcebjaa

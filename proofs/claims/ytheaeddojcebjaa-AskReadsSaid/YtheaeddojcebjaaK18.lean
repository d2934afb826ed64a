/-
  Regions that draw their order.
-/
import Derived.Test.YtheaeddojcebjaaK17
set_option linter.unusedVariables false
set_option linter.unusedSimpArgs false
namespace Go.Proofs.Ytheaeddojcebjaa
open Go.RowKit

def envs (aos : List AO) (ss : Nat → Res) (ρ : Env) : Nat → Env
  | 0 => ρ
  | k + 1 => match aos[k]? with
    | some o => pt o.dst (ss k).v (envs aos ss ρ k)
    | none => envs aos ss ρ k
def heaps (ss : Nat → Res) (hl : List Ob) : Nat → List Ob
  | 0 => hl
  | k + 1 => appL (ss k) (heaps ss hl k)
def fts (ss : Nat → Res) (hl : List Ob) (n : Nat) : List Ft := (List.range n).map fun k => (ss k).ft (heaps ss hl k).length
theorem envs_succ (o : AO) (os : List AO) (ss : Nat → Res) (ρ : Env) : ∀ k, envs (o :: os) ss ρ (k + 1) = envs os (fun k => ss (k + 1)) (pt o.dst (ss 0).v ρ) k
  | 0 => by simp [envs]
  | k + 1 => by
    have ih := envs_succ o os ss ρ k
    simp only [envs, List.getElem?_cons_succ] at ih ⊢
    rw [ih]
theorem heaps_succ (ss : Nat → Res) (hl : List Ob) : ∀ k, heaps ss hl (k + 1) = heaps (fun k => ss (k + 1)) (appL (ss 0) hl) k
  | 0 => by simp [heaps]
  | k + 1 => by
    have ih := heaps_succ ss hl k
    simp only [heaps] at ih ⊢
    rw [ih]
theorem fts_succ (ss : Nat → Res) (hl : List Ob) (n : Nat) : fts ss hl (n + 1) = (ss 0).ft hl.length :: fts (fun k => ss (k + 1)) (appL (ss 0) hl) n := by
  simp only [fts, List.range_succ_eq_map, List.map_cons, List.map_map]
  congr 1
  apply List.map_congr_left
  intro k _
  simp only [Function.comp, Nat.succ_eq_add_one]
  rw [heaps_succ]
theorem appL_no (hl : List Ob) : appL noRes hl = hl := by simp [appL, noRes, setAll]
/-- The steps, each of which is as it is. -/
def Steps1 (P : Program) (N : Nat) (aos : List AO) (ss : Nat → Res) (ρ : Env) (hl : List Ob) : Prop :=
  ∀ k o, aos[k]? = some o → (grdB (envs aos ss ρ k) o.grd = some false ∧ ss k = noRes) ∨ (grdB (envs aos ss ρ k) o.grd = some true ∧ OpS P N o.op (envs aos ss ρ k) (heaps ss hl k) (ss k))
theorem rg_seq {P : Program} {N : Nat} : ∀ (aos : List AO) (ρ : Env) (hl : List Ob) (fs : List Ft) (K : Env → List Ob → List Ft → Prop), Rg P N aos ρ hl fs K →
    ∃ ss, Steps1 P N aos ss ρ hl ∧ K (envs aos ss ρ aos.length) (heaps ss hl aos.length) (fs ++ fts ss hl aos.length)
  | [], ρ, hl, fs, K, h => ⟨fun _ => noRes, fun k o hk => by simp at hk, by simpa [Rg, envs, heaps, fts] using h⟩
  | o :: os, ρ, hl, fs, K, h => by
    have key : ∀ s : Res, ((grdB ρ o.grd = some false ∧ s = noRes) ∨ (grdB ρ o.grd = some true ∧ OpS P N o.op ρ hl s)) → Rg P N os (pt o.dst s.v ρ) (appL s hl) (fs ++ [s.ft hl.length]) K →
        ∃ ss, Steps1 P N (o :: os) ss ρ hl ∧ K (envs (o :: os) ss ρ (o :: os).length) (heaps ss hl (o :: os).length) (fs ++ fts ss hl (o :: os).length) := by
      intro s hs hr
      obtain ⟨ss, h1, h2⟩ := rg_seq os _ _ _ K hr
      refine ⟨fun k => match k with | 0 => s | k + 1 => ss k, fun k o' hk => ?_, ?_⟩
      · cases k with
        | zero =>
          simp at hk
          subst hk
          simpa [envs, heaps] using hs
        | succ k =>
          have := h1 k o' (by simpa using hk)
          rw [envs_succ, heaps_succ]
          exact this
      · rw [List.length_cons, envs_succ, heaps_succ, fts_succ]
        simpa [List.append_assoc] using h2
    rcases h with ⟨hg, hr⟩ | ⟨hg, s, hs, hr⟩
    · exact key noRes (.inl ⟨hg, rfl⟩) (by rw [appL_no]; exact hr)
    · exact key s (.inr ⟨hg, hs⟩) hr

def Ft.mods (f : Ft) (x : Nat) : Bool := f.wr.contains x || (Nat.ble f.base x && Nat.blt x (f.base + f.n))
def Ft.conf (a b : Ft) : Bool := (a.rd ++ a.wr).any b.mods || (b.rd ++ b.wr).any a.mods
/-- Steps that meet each other stand in an order that holds. -/
def ordB (ups : List (List Nat)) (fs : List Ft) : Bool := (List.range fs.length).all fun j => (List.range j).all fun i => !(Ft.conf (fs.getD i ⟨[], [], 0, 0⟩) (fs.getD j ⟨[], [], 0, 0⟩)) || (ups.getD j []).contains i

def Md (ss : Nat → Res) (hl : List Ob) (k x : Nat) : Prop := x ∈ (ss k).ids ∨ isNew (heaps ss hl k).length (ss k).nw.length x
/-- What the objects are when some steps were done. -/
def hDn (ss : Nat → Res) (hl : List Ob) (listed : Array Bool) : Nat → Nat → Ob
  | 0 => hx hl
  | k + 1 => if listed.getD k false then (ss k).app (heaps ss hl k).length (hDn ss hl listed k) else hDn ss hl listed k
section
variable {ss : Nat → Res} {hl : List Ob}
theorem getO_mem : ∀ {wr : List (Nat × Ob)} {i : Nat}, i ∈ wr.map (·.1) → ∃ o, getO wr i = some o
  | [], i, h => by cases h
  | (j, o) :: r, i, h => by
    simp only [getO]
    by_cases hj : j = i
    · exact ⟨o, by rw [if_pos hj]⟩
    · rw [if_neg hj]
      simp only [List.map_cons, List.mem_cons] at h
      rcases h with h | h
      · exact absurd h.symm hj
      · exact getO_mem h
theorem app_congr (s : Res) (base : Nat) {h h' : Nat → Ob} {x : Nat} (e : h x = h' x) : s.app base h x = s.app base h' x := by
  simp only [Res.app, e]
theorem app_const (s : Res) (base : Nat) (h h' : Nat → Ob) {x : Nat} (hm : x ∈ s.ids ∨ isNew base s.nw.length x) : s.app base h x = s.app base h' x := by
  simp only [Res.app]
  cases hg : getO s.wr x with
  | some o => rfl
  | none =>
    rcases hm with hm | ⟨h1, h2⟩
    · obtain ⟨o, ho⟩ := getO_mem hm
      rw [hg] at ho; cases ho
    · rw [if_pos h1, if_pos h1, List.getElem?_eq_getElem (by omega)]
theorem app_md {k x : Nat} (h : Nat → Ob) (hm : ¬ Md ss hl k x) : (ss k).app (heaps ss hl k).length h x = h x := app_same (fun e => hm (.inl e)) (fun e => hm (.inr e))
theorem hD_at {listed : Array Bool} {n j x : Nat} (hids : ∀ k, k < n → ∀ i ∈ (ss k).ids, i < (heaps ss hl k).length) (hj : j ≤ n) (h : ∀ k, k < n → Md ss hl k x → (listed.getD k false = true ↔ k < j)) :
    ∀ m, m ≤ n → hDn ss hl listed m x = hx (heaps ss hl (min m j)) x
  | 0, _ => by simp [hDn, heaps]
  | m + 1, hm => by
    have ih := hD_at hids hj h m (by omega)
    simp only [hDn]
    by_cases hmj : m < j
    · rw [show min (m + 1) j = m + 1 by omega]
      rw [show min m j = m by omega] at ih
      have hh : hx (heaps ss hl (m + 1)) x = (ss m).app (heaps ss hl m).length (hx (heaps ss hl m)) x := by
        show hx (appL (ss m) (heaps ss hl m)) x = _
        rw [appL_get (hids m (by omega))]
      rw [hh]
      cases hlm : listed.getD m false with
      | true => simp only [if_true]; exact app_congr _ _ ih
      | false =>
        simp only [Bool.false_eq_true, if_false]
        have : ¬ Md ss hl m x := fun hmd => by
          have := (h m (by omega) hmd).2 hmj
          rw [hlm] at this; cases this
        rw [app_md _ this, ih]
    · rw [show min (m + 1) j = j by omega]
      rw [show min m j = j by omega] at ih
      cases hlm : listed.getD m false with
      | true =>
        simp only [if_true]
        have : ¬ Md ss hl m x := fun hmd => hmj ((h m (by omega) hmd).1 hlm)
        rw [app_md _ this, ih]
      | false => simp only [Bool.false_eq_true, if_false]; exact ih
theorem hD_set {listed : Array Bool} {n j : Nat} (hj : j < n) (hjl : listed.getD j false = false) (hjs : j < listed.size) (h : ∀ k, j < k → k < n → listed.getD k false = true → ∀ x, Md ss hl j x → ¬ Md ss hl k x) :
    ∀ m, m ≤ n → hDn ss hl (listed.setIfInBounds j true) m = if j < m then (ss j).app (heaps ss hl j).length (hDn ss hl listed m) else hDn ss hl listed m
  | 0, _ => by simp [hDn]
  | m + 1, hm => by
    have ih := hD_set hj hjl hjs h m (by omega)
    simp only [hDn]
    by_cases hmj : m = j
    · subst hmj
      have e : (listed.setIfInBounds m true).getD m false = true := by simp [hjs]
      rw [e, hjl, ih]
      simp
    · have e : (listed.setIfInBounds j true).getD m false = listed.getD m false := getD_set_ne false (Ne.symm hmj)
      rw [e, ih]
      by_cases hlt : j < m
      · have hlt' : j < m + 1 := by omega
        simp only [if_pos hlt, if_pos hlt']
        cases hlm : listed.getD m false with
        | false => simp
        | true =>
          simp only [if_true]
          funext x
          by_cases hmd : Md ss hl j x
          · have hk := h m hlt (by omega) hlm x hmd
            rw [app_md _ hk]
            exact app_const _ _ _ _ hmd
          · rw [app_md _ hmd]
            exact app_congr _ _ (app_md _ hmd)
      · have hlt' : ¬ j < m + 1 := by omega
        simp only [if_neg hlt, if_neg hlt']
end

section
variable {P : Program} {N : Nat} {ops : Array Oper} {aos : List AO} {ss : Nat → Res} {ρ : Env} {hl : List Ob}
/-- The head's state, whatever came up. -/
structure AInv (ops : Array Oper) (aos : List AO) (ss : Nat → Res) (ρ : Env) (hl : List Ob) (a0 : Act) (w0 : World) (g0 : Gh) (listed : Array Bool) (b : Act) (W : World) (g : Gh) : Prop where
  head : HeadInv .any ops ops.size listed
  rl : Rl W g (hDn ss hl listed ops.size)
  done : ∀ j, j < ops.size → listed.getD j false = true → ∀ t, dstOf ops j = some t → RV W g (b.eval (.tmp t)) (ss j).v
  fresh : ∀ t, (∀ j, j < ops.size → listed.getD j false = true → dstOf ops j ≠ some t) → b.tmps[t]? = a0.tmps[t]?
  env : EnvAll W g a0 ρ
  frl : Frl w0 g0 (hx hl) hl.length W g (hDn ss hl listed ops.size)
  μn : ∀ i, hl.length ≤ i → (∀ j, j < ops.size → listed.getD j false = true → ¬ isNew (heaps ss hl j).length (ss j).nw.length i) → g.μ i = none
  size : b.tmps.size = a0.tmps.size
  defers : b.defers = a0.defers
theorem envs_get (aos : List AO) (ss : Nat → Res) (ρ : Env) : ∀ (k t : Nat) (v : V), get (envs aos ss ρ k) t = some v → (∃ j o, j < k ∧ aos[j]? = some o ∧ o.dst = some t ∧ v = (ss j).v ∧ ∀ i o', j < i → i < k → aos[i]? = some o' → o'.dst ≠ some t) ∨ (get ρ t = some v ∧ ∀ i o', i < k → aos[i]? = some o' → o'.dst ≠ some t)
  | 0, t, v, h => .inr ⟨h, fun i o hi => absurd hi (by omega)⟩
  | k + 1, t, v, h => by
    simp only [envs] at h
    cases hk : aos[k]? with
    | none =>
      rw [hk] at h
      rcases envs_get aos ss ρ k t v h with ⟨j, o, h1, h2, h3, h4, h5⟩ | ⟨h1, h2⟩
      · refine .inl ⟨j, o, by omega, h2, h3, h4, fun i o' hi1 hi2 hi3 => ?_⟩
        by_cases e : i = k
        · subst e; rw [hk] at hi3; cases hi3
        · exact h5 i o' hi1 (by omega) hi3
      · refine .inr ⟨h1, fun i o' hi1 hi2 => ?_⟩
        by_cases e : i = k
        · subst e; rw [hk] at hi2; cases hi2
        · exact h2 i o' (by omega) hi2
    | some o =>
      rw [hk] at h
      simp only [get_pt] at h
      by_cases hd : o.dst = some t
      · rw [if_pos hd] at h
        cases h
        exact .inl ⟨k, o, by omega, hk, hd, rfl, fun i o' h1 h2 => absurd h1 (by omega)⟩
      · rw [if_neg hd] at h
        rcases envs_get aos ss ρ k t v h with ⟨j, o2, h1, h2, h3, h4, h5⟩ | ⟨h1, h2⟩
        · refine .inl ⟨j, o2, by omega, h2, h3, h4, fun i o' hi1 hi2 hi3 => ?_⟩
          by_cases e : i = k
          · subst e; rw [hk] at hi3; cases hi3; exact hd
          · exact h5 i o' hi1 (by omega) hi3
        · refine .inr ⟨h1, fun i o' hi1 hi2 => ?_⟩
          by_cases e : i = k
          · subst e; rw [hk] at hi2; cases hi2; exact hd
          · exact h2 i o' (by omega) hi2
theorem heaps_le (ss : Nat → Res) (hl : List Ob) : ∀ {i j : Nat}, i ≤ j → (heaps ss hl i).length ≤ (heaps ss hl j).length := by
  intro i j h
  induction j with
  | zero => have : i = 0 := by omega
            subst this; exact Nat.le_refl _
  | succ j ih =>
    by_cases e : i = j + 1
    · subst e; exact Nat.le_refl _
    · have := ih (by omega)
      simp only [heaps, appL_length]
      omega
theorem heaps_lt (ss : Nat → Res) (hl : List Ob) {i j : Nat} (h : i < j) : (heaps ss hl i).length + (ss i).nw.length ≤ (heaps ss hl j).length := by
  have := heaps_le ss hl (show i + 1 ≤ j by omega)
  simpa only [heaps, appL_length] using this
theorem ft_foot {s : Res} {base x : Nat} : (s.ft base).mods x = true ↔ (x ∈ s.ids ∨ isNew base s.nw.length x) := by
  simp only [Ft.mods, Res.ft, Bool.or_eq_true, List.contains_iff_mem, Bool.and_eq_true, isNew]
  constructor
  · rintro (h | ⟨h1, h2⟩)
    · exact .inl h
    · exact .inr ⟨Nat.le_of_ble_eq_true h1, by have := Nat.le_of_ble_eq_true h2; omega⟩
  · rintro (h | ⟨h1, h2⟩)
    · exact .inl h
    · exact .inr ⟨Nat.ble_eq_true_of_le h1, Nat.ble_eq_true_of_le h2⟩
/-- Two steps that meet: the former is ahead of the latter. -/
theorem ord_spec (hord : ordB ((List.range ops.size).map (upon ops)) (fts ss hl ops.size) = true) {i j x : Nat} (hij : i < j) (hj : j < ops.size)
    (hc : (Md ss hl i x ∧ (x ∈ (ss j).rd ∨ Md ss hl j x)) ∨ (Md ss hl j x ∧ (x ∈ (ss i).rd ∨ x ∈ (ss i).ids))) : i ∈ upon ops j := by
  have hlen : (fts ss hl ops.size).length = ops.size := by simp [fts]
  have hget : ∀ k, k < ops.size → (fts ss hl ops.size).getD k ⟨[], [], 0, 0⟩ = (ss k).ft (heaps ss hl k).length := fun k hk => by simp [fts, List.getD_eq_getElem?_getD, hk]
  have h := List.all_eq_true.1 (List.all_eq_true.1 hord j (List.mem_range.2 (by rw [hlen]; exact hj))) i (List.mem_range.2 hij)
  rw [hget i (by omega), hget j hj] at h
  simp only [Bool.or_eq_true, Bool.not_eq_true'] at h
  rcases h with h | h
  · exfalso
    have hconf : Ft.conf ((ss i).ft (heaps ss hl i).length) ((ss j).ft (heaps ss hl j).length) = true := by
      simp only [Ft.conf, Bool.or_eq_true, List.any_eq_true, List.mem_append]
      have hnn : ∀ y, isNew (heaps ss hl i).length (ss i).nw.length y → ¬ isNew (heaps ss hl j).length (ss j).nw.length y := fun y h1 h2 => by
        have := heaps_lt ss hl hij
        unfold isNew at h1 h2
        omega
      rcases hc with ⟨h1, h2⟩ | ⟨h1, h2⟩
      · rcases h2 with h2 | h2
        · exact .inr ⟨x, .inl h2, ft_foot.2 h1⟩
        · rcases h2 with h2 | h2
          · exact .inr ⟨x, .inr h2, ft_foot.2 h1⟩
          · rcases h1 with h1 | h1
            · exact .inl ⟨x, .inr h1, ft_foot.2 (.inr h2)⟩
            · exact absurd h2 (hnn x h1)
      · exact .inl ⟨x, h2, ft_foot.2 h1⟩
    rw [hconf] at h; cases h
  · have : ((List.range ops.size).map (upon ops)).getD j [] = upon ops j := by simp [List.getD_eq_getElem?_getD, hj]
    rw [this] at h
    simpa using h
theorem rg_any {Q' : Exit → Act → World → Prop} {a0 : Act} {w0 : World} {g0 : Gh} (Fi : Fine ops ops.size N []) (htr : listM (trO P N ops) ops.toList = some aos) (hst : Steps1 P N aos ss ρ hl) (hord : ordB ((List.range ops.size).map (upon ops)) (fts ss hl ops.size) = true)
    (hts : ∀ k o, aos[k]? = some o → (∀ t ∈ o.op.ts, t ∈ looksOf ops k) ∧ ∀ t want, o.grd = some (t, want) → t ∈ looksOf ops k) (hN : a0.tmps.size = N) (hend : ∀ b W g, AInv ops aos ss ρ hl a0 w0 g0 (canon ops.size ops.size) b W g → Q' .normal b W) :
    ∀ (m : Nat) (listed : Array Bool) (b : Act) (W : World) (g : Gh), AInv ops aos ss ρ hl a0 w0 g0 listed b W g → cnt listed ops.size = m → wpAny P .any ops Q' (m + (ops.size - ops.size)) listed b W
  | 0, listed, b, W, g, inv, hm => by
    have hall := cnt_zero ops.size hm
    have e : listed = canon ops.size ops.size := by
      refine Array.ext (by rw [inv.head.size]; simp [canon]) fun i h1 h2 => ?_
      rw [inv.head.size] at h1
      have h3 := hall i h1
      have h4 : listed[i] = true := by simpa [Array.getD, inv.head.size, h1] using h3
      rw [h4]
      simp [canon]
    subst e
    rw [Nat.zero_add]
    have := wpAny_of_seq (md := .any) (Q' := Q') (P := P) (ops := ops) (ops.toList.drop ops.size) ops.size (canon ops.size ops.size) b W (fun j => by simp [List.getElem?_drop]) (by rw [List.length_drop, Array.length_toList]; exact Fi.seq) (by
      have hd : ops.toList.drop ops.size = [] := List.drop_eq_nil_of_le (by simp)
      rw [hd]
      exact hend b W g inv)
    rwa [List.length_drop, Array.length_toList] at this
  | m + 1, listed, b, W, g, inv, hm => by
    obtain ⟨i, hi, hiu, hbelow⟩ := cnt_pos ops.size (by omega : cnt listed ops.size ≠ 0)
    have hius : i < listed.size := by rw [inv.head.size]; exact hi
    have hready : i ∈ Region.ready .any ops listed := by
      rw [mem_ready]
      refine ⟨(getD_false_iff hius).2 hiu, ops[i], by simp [hi], fun e he hb => hbelow _ (Fi.order i hi _ ((afters_spec (by simp [hi])).2 ⟨e, he, hb, rfl⟩))⟩
    rw [show m + 1 + (ops.size - ops.size) = (m + (ops.size - ops.size)) + 1 by omega]
    refine ⟨fun h => (by rw [h] at hready; cases hready), fun j hj => ?_⟩
    obtain ⟨hju, oj, hoj, hall⟩ := mem_ready.1 hj
    have hjn : j < ops.size := (Array.getElem?_eq_some_iff.1 hoj).1
    have hjus : j < listed.size := by rw [inv.head.size]; exact hjn
    have hjf := (getD_false_iff hjus).1 hju
    have hupon : ∀ x ∈ upon ops j, listed.getD x false = true := downTo_listed inv.head.closed j _ fun x hx => by
      obtain ⟨e, he, hb, rfl⟩ := (afters_spec hoj).1 hx
      exact hall e he hb
    have notlisted : ∀ x, x < ops.size → listed.getD x false = true → j ∈ upon ops x → False := fun x hx hxl h => by
      cases hox : ops[x]? with
      | none => simp at hox; omega
      | some ox =>
        have := downTo_listed (ops := ops) inv.head.closed x (aftersOf ops x) (fun y hy => by
          obtain ⟨e, he, hb, rfl⟩ := (afters_spec hox).1 hy
          exact inv.head.closed x ox hox hxl e he hb) j h
        rw [this] at hjf; cases hjf
    obtain ⟨aoj, hao, htro⟩ : ∃ aoj, aos[j]? = some aoj ∧ trO P N ops oj = some aoj := listM_fwd htr j oj (by simpa using hoj)
    obtain ⟨t1, t2, t3⟩ := trO_op htro
    have hdj : dstOf ops j = oj.dst := by simp [dstOf, hoj]
    have hlen : aos.length = ops.size := by rw [← (listM_ok htr).1]; simp
    have hdst : ∀ k o, aos[k]? = some o → dstOf ops k = o.dst := fun k o hk => by
      obtain ⟨a, a1, a2⟩ := (listM_ok htr).2 k o hk
      have a1' : ops[k]? = some a := by simpa using a1
      simp only [dstOf, a1', Option.bind_some]
      exact (trO_op a2).2.1
    have hids : ∀ k, k < ops.size → ∀ x ∈ (ss k).ids, x < (heaps ss hl k).length := fun k hk x hx => by
      have hk' : k < aos.length := by omega
      rcases hst k aos[k] (List.getElem?_eq_getElem hk') with ⟨_, h⟩ | ⟨_, h⟩
      · rw [h] at hx; simp [noRes, Res.ids] at hx
      · exact h.1 x hx
    -- what this operation's temporaries hold
    have know : ∀ t, t ∈ looksOf ops j → ∀ v, get (envs aos ss ρ j) t = some v → RV W g (b.eval (.tmp t)) v := fun t ht v hv => by
      have hlk := Fi.looks j hjn t ht
      rcases envs_get aos ss ρ j t v hv with ⟨x, ox, h1, h2, h3, rfl, h5⟩ | ⟨h1, h2⟩
      · have hdx : dstOf ops x = some t := (hdst x ox h2).trans h3
        exact inv.done x (by omega) (hupon x ((hlk x (by omega) hdx).1 h1)) t hdx
      · have hfr := inv.fresh t fun x hx hxl hd => by
          rcases Nat.lt_or_ge x j with hxj | hxj
          · have hx' : x < aos.length := by omega
            exact h2 x aos[x] hxj (List.getElem?_eq_getElem hx') ((hdst x _ (List.getElem?_eq_getElem hx')).symm.trans hd)
          · rcases (hlk x hx hd).2 hxj with rfl | h
            · rw [hxl] at hjf; cases hjf
            · exact notlisted x hx hxl h
        have e : b.eval (.tmp t) = a0.eval (.tmp t) := by simp [Act.eval, hfr]
        rw [e]
        exact inv.env t v h1
    -- a step that meets this one
    have meet : ∀ k x, k < ops.size → k ≠ j → Md ss hl k x → (x ∈ (ss j).rd ∨ Md ss hl j x) → (listed.getD k false = true ↔ k < j) := fun k x hk hkj h1 h2 => by
      rcases Nat.lt_or_ge k j with hlt | hge
      · exact ⟨fun _ => hlt, fun _ => hupon k (ord_spec hord hlt hjn (.inl ⟨h1, h2⟩))⟩
      · refine ⟨fun hl' => ?_, fun h => by omega⟩
        exfalso
        have hjk : j < k := by omega
        have hin : j ∈ upon ops k := by
          refine ord_spec (x := x) hord hjk hk ?_
          rcases h2 with h2 | h2
          · exact .inr ⟨h1, .inl h2⟩
          · exact .inl ⟨h2, .inr h1⟩
        exact notlisted k hk hl' hin
    have hDj : ∀ x, (x ∈ (ss j).rd ∨ x ∈ (ss j).ids) → hDn ss hl listed ops.size x = hx (heaps ss hl j) x := fun x hx' => by
      have := hD_at (listed := listed) (x := x) hids (show j ≤ ops.size by omega) (fun k hk hmd => by
        by_cases hkj : k = j
        · subst hkj; rw [hjf]; simp
        · exact meet k x hk hkj hmd (by rcases hx' with h | h; exact .inl h; exact .inr (.inl h))) ops.size (Nat.le_refl _)
      rw [this, show min ops.size j = j by omega]
    have hsetn : hDn ss hl (listed.setIfInBounds j true) ops.size = (ss j).app (heaps ss hl j).length (hDn ss hl listed ops.size) := by
      have := hD_set (ss := ss) (hl := hl) hjn hjf hjus (fun k hjk hk hkl x h1 h2 => notlisted k hk hkl (ord_spec hord hjk hk (.inl ⟨h1, .inr h2⟩))) ops.size (Nat.le_refl _)
      rw [this, if_pos hjn]
    have hnewj : ∀ x, isNew (heaps ss hl j).length (ss j).nw.length x → g.μ x = none ∧ hDn ss hl listed ops.size x = .dead := fun x hnx => by
      have hbx : hl.length ≤ x := Nat.le_trans (heaps_le ss hl (Nat.zero_le j)) hnx.1
      refine ⟨inv.μn x hbx fun k hk hkl hnk => ?_, ?_⟩
      · have hkj : k ≠ j := fun e => by subst e; rw [hkl] at hjf; cases hjf
        unfold isNew at hnx hnk
        rcases Nat.lt_or_ge k j with h | h
        · have := heaps_lt ss hl h; omega
        · have := heaps_lt ss hl (show j < k by omega); omega
      · have := hD_at (listed := listed) (x := x) (j := j) hids (by omega) (fun k hk hmd => by
          by_cases hkj : k = j
          · subst hkj; rw [hjf]; simp
          · exact meet k x hk hkj hmd (.inr (.inr hnx))) ops.size (Nat.le_refl _)
        rw [this, show min ops.size j = j by omega]
        simp [hx, List.getD_eq_getElem?_getD, List.getElem?_eq_none hnx.1]
    have hdlt : ∀ k, oj.dst = some k → k < b.tmps.size := fun k hk => by rw [inv.size, hN]; exact t3 k (t2 ▸ hk)
    have next : ∀ (u : Value) (W' : World) (g' : Gh), RV W' g' u (ss j).v → Rl W' g' ((ss j).app (heaps ss hl j).length (hDn ss hl listed ops.size)) →
        Go1 W g (hDn ss hl listed ops.size) (ss j).ids (heaps ss hl j).length (ss j).nw.length W' g' ((ss j).app (heaps ss hl j).length (hDn ss hl listed ops.size)) →
        wpAny P .any ops Q' (m + (ops.size - ops.size)) (listed.setIfInBounds j true) (b.put oj.dst u) W' := fun u W' g' hv hR' hgo => by
      have hsm := hgo.same inv.rl
      refine rg_any Fi htr hst hord hts hN hend m _ _ _ g' ⟨inv.head.set hj hjn, by rw [hsetn]; exact hR', fun x hx hxl t hd => ?_, fun t ht => ?_, fun t v hv' => (inv.env t v hv').more hsm hgo.gm, ?_, fun x hx hn' => ?_, by rw [put_size]; exact inv.size, by rw [put_defers]; exact inv.defers⟩ ?_
      · rw [eval_put hdlt]
        by_cases hxj : x = j
        · subst hxj
          rw [if_pos (hdj.symm.trans hd)]; exact hv
        · rw [getD_set_ne false (Ne.symm hxj)] at hxl
          rw [if_neg ?_]
          · exact (inv.done x hx hxl t hd).more hsm hgo.gm
          · intro e
            rcases Nat.lt_or_ge x j with h | h
            · exact (Fi.dist j hjn t (hdj.trans e)).2 x h hd
            · exact (Fi.dist x hx t hd).2 j (by omega) (hdj.trans e)
      · rw [slot_put_other (fun e => ht j hjn (by simp [hjus]) (hdj.trans e))]
        exact inv.fresh t fun x hx hxl hd => ht x hx (getD_set_true hxl) hd
      · rw [hsetn]
        exact inv.frl.step hgo (heaps_le ss hl (Nat.zero_le j)) (fun x h1 h2 => app_same h1 h2)
      · refine hgo.μn x (hn' j hjn (by simp [hjus])) (inv.μn x hx fun k hk hkl => hn' k hk (getD_set_true hkl))
      · have := (cnt_set (listed := listed) (i := j) ops.size hjus hjf).2 hjn
        omega
    unfold wpOp
    simp only [hoj]
    rcases hst j aoj hao with ⟨hg, hs⟩ | ⟨hg, hs⟩
    · have hw := grd_ok htro (fun t want hgd v hv => know t ((hts j aoj hao).2 t want hgd) v hv) hg
      rw [hw]
      simp only [Bool.false_eq_true, if_false]
      have hno : (ss j).app (heaps ss hl j).length (hDn ss hl listed ops.size) = hDn ss hl listed ops.size := by rw [hs]; exact app_none rfl rfl _ _
      refine next undef W g (by rw [hs]; exact .u) (by rw [hno]; exact inv.rl) ?_
      rw [hno, hs]
      exact Go1.refl W g _ _
    · have hw := grd_ok htro (fun t want hgd v hv => know t ((hts j aoj hao).2 t want hgd) v hv) hg
      rw [hw]
      simp only [if_true]
      left
      have hr := hs.2 oj t1 b W g (hDn ss hl listed ops.size) (by rw [inv.size, hN]) hDj hnewj inv.rl (fun t ht v hv => know t ((hts j aoj hao).1 t ht) v hv)
      refine wp_widen (Oper.wp_mono (fun b' W' h => ?_) hr)
      obtain ⟨u, g', rfl, hv, hR', hgo⟩ := h
      exact next u W' g' hv hR' hgo
end
end Go.Proofs.Ytheaeddojcebjaa

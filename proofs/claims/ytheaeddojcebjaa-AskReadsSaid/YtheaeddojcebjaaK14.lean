/-
  What aop says is so: every operation.
-/
import Derived.Test.YtheaeddojcebjaaK13
set_option linter.unusedVariables false
set_option linter.unusedSimpArgs false
namespace Go.Proofs.Ytheaeddojcebjaa
open Go.RowKit

theorem mem_xts {x : AX} {l : List AX} (h : x ∈ l) : ∀ t ∈ x.ts, t ∈ xts l := fun t ht => List.mem_flatMap.2 ⟨x, h, ht⟩
theorem get0 {α β : Type} {a : Array α} {f : α → Option β} {b : β} (h : a[0]?.bind f = some b) : ∃ x, a[0]? = some x ∧ f x = some b := by
  cases hx : a[0]? with
  | none => simp [hx] at h
  | some x => simp [hx] at h; exact ⟨x, rfl, h⟩
theorem get1 {α β : Type} {a : Array α} {f : α → Option β} {b : β} (h : a[1]?.bind f = some b) : ∃ x, a[1]? = some x ∧ f x = some b := by
  cases hx : a[1]? with
  | none => simp [hx] at h
  | some x => simp [hx] at h; exact ⟨x, rfl, h⟩
theorem listM_one {α β : Type} {f : α → Option β} {l : List α} {b : β} (h : listM f l = some [b]) : ∃ a, l = [a] ∧ f a = some b := by
  obtain ⟨h1, h2⟩ := listM_ok h
  match l, h1 with
  | [a], _ => obtain ⟨a', e1, e2⟩ := h2 0 b rfl; simp at e1; subst e1; exact ⟨a, rfl, e2⟩
theorem listM_two {α β : Type} {f : α → Option β} {l : List α} {b c : β} (h : listM f l = some [b, c]) : ∃ a d, l = [a, d] ∧ f a = some b ∧ f d = some c := by
  obtain ⟨h1, h2⟩ := listM_ok h
  match l, h1 with
  | [a, d], _ =>
    obtain ⟨a', e1, e2⟩ := h2 0 b rfl; simp at e1; subst e1
    obtain ⟨a'', e3, e4⟩ := h2 1 c rfl; simp at e3; subst e3
    exact ⟨a, d, rfl, e2, e4⟩
section
variable {P : Program} {N : Nat} {o : Oper} {ρ : Env} {hl : List Ob} {p : Prop} {s : Res}
theorem aop_ok {ao : AOp} (h : trOp P o = some ao) (ha : aop ao ρ hl = some (p, s)) (hp : p) : OpR P N o ρ ao.ts hl s := by
  cases hop : o.op with
  | move x => simp only [trOp, hop] at h; obtain ⟨ax, hx, rfl⟩ := Option.map_eq_some_iff.1 h; exact s_mv (.inl hop) hx (mem_xts (by simp [AOp.xs])) ha
  | assign x => simp only [trOp, hop] at h; obtain ⟨ax, hx, rfl⟩ := Option.map_eq_some_iff.1 h; exact s_mv (.inr hop) hx (mem_xts (by simp [AOp.xs])) ha
  | pick c x y =>
    simp only [trOp, hop] at h
    split at h
    · rename_i ac aa ab h1 h2 h3
      cases h
      exact s_pick hop h1 h2 h3 (mem_xts (by simp [AOp.xs])) (mem_xts (by simp [AOp.xs])) (mem_xts (by simp [AOp.xs])) ha
    · cases h
  | box t x => simp only [trOp, hop] at h; obtain ⟨ax, hx, rfl⟩ := Option.map_eq_some_iff.1 h; exact s_box hop hx (mem_xts (by simp [AOp.xs])) ha
  | alloc t => simp only [trOp, hop] at h; obtain ⟨cs, hx, rfl⟩ := Option.map_eq_some_iff.1 h; exact s_alloc hop hx ha
  | build t parts =>
    simp only [trOp, hop] at h
    split at h
    · rename_i z fs hz hu
      split at h
      · rename_i fs' hf
        obtain ⟨aps, hl', rfl⟩ := Option.map_eq_some_iff.1 h
        exact s_buildS hop hz hf hl' (fun r hr => mem_xts (by simp only [AOp.xs]; exact List.mem_map.2 ⟨r, hr, rfl⟩)) ha hp
      · cases h
    · rename_i z n e hz hu
      split at h
      · rename_i m hs
        obtain ⟨aps, hl', rfl⟩ := Option.map_eq_some_iff.1 h
        exact s_buildA hop hz hu hs hl' (fun r hr => mem_xts (by simp only [AOp.xs]; exact List.mem_map.2 ⟨r, hr, rfl⟩)) ha hp
      · cases h
    · cases h
  | buildSlice t len parts =>
    simp only [trOp, hop] at h
    split at h
    · rename_i e hu
      split at h
      · rename_i sz z ps h1 h2 h3
        split at h
        · rename_i hc
          cases h
          exact s_mkList hop hu h1 h2 h3 (fun r hr => mem_xts (by simp only [AOp.xs]; exact List.mem_map.2 ⟨r, hr, rfl⟩)) hc.1 hc.2.1 hc.2.2 ha hp
        · cases h
      · cases h
    · cases h
  | load t x =>
    simp only [trOp, hop] at h
    split at h
    · rename_i n ax h1 h2
      cases h
      exact s_load hop h2 (mem_xts (by simp [AOp.xs])) h1 ha hp
    · cases h
  | store t x y =>
    simp only [trOp, hop] at h
    split at h
    · rename_i n ax ay h1 h2 h3
      cases h
      exact s_store hop h2 h3 (mem_xts (by simp [AOp.xs])) (mem_xts (by simp [AOp.xs])) h1 ha hp
    · cases h
  | binOp op t x y u =>
    simp only [trOp, hop] at h
    split at h
    · rename_i ax ay h1 h2
      split at h
      · rename_i fs hu
        split at h
        · rename_i ks hf
          split at h
          · cases h
          · rename_i hg
            cases h
            exact s_eqAgg (neg := false) hop h1 h2 (mem_xts (by simp [AOp.xs])) (mem_xts (by simp [AOp.xs])) (.inl ⟨hf, _, hu⟩) (by simpa using hg) ha
        · rename_i ks hf
          split at h
          · cases h
          · rename_i hg
            cases h
            exact s_eqAgg (neg := true) hop h1 h2 (mem_xts (by simp [AOp.xs])) (mem_xts (by simp [AOp.xs])) (.inl ⟨hf, _, hu⟩) (by simpa using hg) ha
        · cases h
      · rename_i n e hu
        split at h
        · rename_i k he hs
          split at h
          · cases h
          · rename_i hg
            cases h
            exact s_eqAgg (neg := false) hop h1 h2 (mem_xts (by simp [AOp.xs])) (mem_xts (by simp [AOp.xs])) (.inr ⟨_, _, _, hu, he, hs, rfl⟩) (by simpa using hg) ha
        · rename_i k he hs
          split at h
          · cases h
          · rename_i hg
            cases h
            exact s_eqAgg (neg := true) hop h1 h2 (mem_xts (by simp [AOp.xs])) (mem_xts (by simp [AOp.xs])) (.inr ⟨_, _, _, hu, he, hs, rfl⟩) (by simpa using hg) ha
        · cases h
      · rename_i e hu
        split at h
        · rename_i n hs
          cases h
          exact s_eqPtr (neg := false) hop h1 h2 (mem_xts (by simp [AOp.xs])) (mem_xts (by simp [AOp.xs])) hu hs ha
        · rename_i n hs
          cases h
          exact s_eqPtr (neg := true) hop h1 h2 (mem_xts (by simp [AOp.xs])) (mem_xts (by simp [AOp.xs])) hu hs ha
        · cases h
      · rename_i k hu
        cases h
        exact s_bin hop h1 h2 (mem_xts (by simp [AOp.xs])) (mem_xts (by simp [AOp.xs])) ha hp
      · rename_i hu
        cases h
        exact s_bin hop h1 h2 (mem_xts (by simp [AOp.xs])) (mem_xts (by simp [AOp.xs])) ha hp
      · rename_i hu
        split at h
        · cases h
          exact s_binB (neg := false) hop h1 h2 (mem_xts (by simp [AOp.xs])) (mem_xts (by simp [AOp.xs])) hu ha
        · cases h
          exact s_binB (neg := true) hop h1 h2 (mem_xts (by simp [AOp.xs])) (mem_xts (by simp [AOp.xs])) hu ha
        · cases h
      · cases h
    · cases h
  | unOp op t x => simp only [trOp, hop] at h; obtain ⟨ax, hx, rfl⟩ := Option.map_eq_some_iff.1 h; exact s_un hop hx (mem_xts (by simp [AOp.xs])) ha
  | convert src dst x =>
    simp only [trOp, hop] at h
    split at h
    · rename_i ax k0 k h1 h2 h3
      cases h
      exact s_conv hop h1 (mem_xts (by simp [AOp.xs])) h2 h3 ha
    · rename_i ax h1 h2 h3
      cases h
      exact s_same hop h1 (mem_xts (by simp [AOp.xs])) h2 h3 ha
    · rename_i ax e h1 h2 h3
      split at h
      · cases h; cases ha
      · cases h
    · cases h
  | makeSlice t l c =>
    simp only [trOp, hop] at h
    split at h
    · rename_i e hu
      split at h
      · rename_i sz by_ z al ac h1 h2 h3 h4 h5
        split at h
        · rename_i hc
          cases h
          exact s_mkSlice hop h4 h5 (mem_xts (by simp [AOp.xs])) (mem_xts (by simp [AOp.xs])) hu h1 h2 h3 hc.1 hc.2 ha hp
        · cases h
      · cases h
    · cases h
  | slice t x lo hi mx =>
    simp only [trOp, hop] at h
    split at h
    · rename_i e ax al ah hu h1 h2 h3
      split at h
      · rename_i sz hs
        split at h
        · rename_i hz
          cases h
          exact s_slice hop h1 h2 h3 (mem_xts (by simp [AOp.xs])) (fun y hy => mem_xts (by simp [AOp.xs, hy])) (fun y hy => mem_xts (by simp [AOp.xs, hy])) hu hs hz ha hp
        · cases h
      · rename_i sz hs
        split at h
        · cases h
          have e1 : lo = none := by
            cases lo with
            | none => rfl
            | some y => simp only [trXo] at h2; cases hy : trX y <;> simp [hy] at h2
          have e2 : hi = some (.const (.int .i64 0)) := by
            cases hi with
            | none => simp [trXo] at h3
            | some y =>
              simp only [trXo] at h3
              cases y with
              | tmp t => simp [trX] at h3
              | func f => simp [trX] at h3
              | «global» g => simp [trX] at h3
              | const v =>
                cases hv : toE v with
                | none => simp [trX, hv] at h3
                | some e =>
                  simp [trX, hv] at h3
                  subst h3
                  unfold toE at hv
                  split at hv
                  · rename_i cs; cases hq : listM toC cs.toList <;> simp [hq] at hv
                  · rename_i v' hno
                    cases hq : toC v with
                    | none => simp [hq] at hv
                    | some c =>
                      simp [hq] at hv
                      subst hv
                      unfold toC at hq
                      split at hq
                      · cases hq
                      · cases hd : toD v with
                        | none => simp [hd] at hq
                        | some d =>
                          simp [hd] at hq
                          subst hq
                          unfold toD at hd
                          split at hd <;> simp at hd
                          obtain ⟨rfl, rfl⟩ := hd
                          rfl
          exact s_clip hop h1 (mem_xts (by simp [AOp.xs])) hu hs e1 e2 rfl ha
        · cases h
      · cases h
    · rename_i ax al ah hu h1 h2 h3
      split at h
      · cases h
        exact s_sliceS hop h1 h2 h3 (mem_xts (by simp [AOp.xs])) (fun y hy => mem_xts (by simp [AOp.xs, hy])) (fun y hy => mem_xts (by simp [AOp.xs, hy])) hu ha hp
      · cases h
    · cases h
  | fieldAddr t x i =>
    simp only [trOp, hop] at h
    split at h
    · rename_i fs ax h1 h2
      unfold fieldsB at h1
      split at h1
      · rename_i fds hu
        obtain ⟨l1, l2⟩ := listM_ok h1
        split at h
        · rename_i off n hi
          cases h
          obtain ⟨fd, f1, f2⟩ := l2 i _ hi
          cases hs : sizeB P fd.type with
          | none => simp [hs] at f2
          | some m =>
            simp [hs] at f2
            obtain ⟨rfl, rfl⟩ := f2
            exact s_fieldAddr hop h2 (mem_xts (by simp [AOp.xs])) hu (by simpa using f1) hs ha
        · cases h
      · cases h1
    · cases h
  | field t x i =>
    simp only [trOp, hop] at h
    split at h
    · rename_i fs ax hu h2
      split at h
      · rename_i fd hf
        obtain ⟨n, hc, rfl⟩ := Option.map_eq_some_iff.1 h
        exact s_field hop h2 (mem_xts (by simp [AOp.xs])) hu hf hc ha hp
      · cases h
    · cases h
  | indexAddr t x i =>
    simp only [trOp, hop] at h
    split at h
    · rename_i e ax ai hu h1 h2
      split at h
      · rename_i sz hs
        split at h
        · cases h
          exact s_idxAddr hop h1 h2 (mem_xts (by simp [AOp.xs])) (mem_xts (by simp [AOp.xs])) hu hs ha hp
        · cases h
      · cases h
    · rename_i n e ax ai hu h1 h2
      obtain ⟨sz, hs, rfl⟩ := Option.map_eq_some_iff.1 h
      exact s_idxArr hop h1 h2 (mem_xts (by simp [AOp.xs])) (mem_xts (by simp [AOp.xs])) hu hs ha hp
    · cases h
  | index t x i =>
    simp only [trOp, hop] at h
    split at h
    · rename_i len e ax ai hu h1 h2
      split at h
      · rename_i sz n hs hc
        cases h
        exact s_index hop h1 h2 (mem_xts (by simp [AOp.xs])) (mem_xts (by simp [AOp.xs])) hu hs hc ha hp
      · cases h
    · rename_i ax ai hu h1 h2
      cases h
      exact s_strIdx hop h1 h2 (mem_xts (by simp [AOp.xs])) (mem_xts (by simp [AOp.xs])) hu ha hp
    · cases h
  | extract x i => simp only [trOp, hop] at h; obtain ⟨ax, hx, rfl⟩ := Option.map_eq_some_iff.1 h; exact s_extract hop hx (mem_xts (by simp [AOp.xs])) ha
  | nilCheck x => simp only [trOp, hop] at h; obtain ⟨ax, hx, rfl⟩ := Option.map_eq_some_iff.1 h; exact s_nilCheck hop hx (mem_xts (by simp [AOp.xs])) ha
  | makeFunc fn fst caps =>
    cases fn with
    | func f =>
      simp only [trOp, hop] at h
      split at h
      · rename_i hf
        obtain ⟨cs, hc, rfl⟩ := Option.map_eq_some_iff.1 h
        have : fst = #[] := by simpa using hf
        subst this
        exact s_mkFn hop hc (fun y hy => mem_xts (by simpa [AOp.xs] using hy)) ha
      · cases h
    | _ => simp only [trOp, hop] at h; cases h
  | makeMap t r =>
    simp only [trOp, hop] at h
    split at h
    · cases h; exact s_mkMap hop ha
    · cases h
  | lookup t x k ok =>
    simp only [trOp, hop] at h
    split at h
    · split at h
      · obtain ⟨z, hz, rfl⟩ := Option.map_eq_some_iff.1 h
        cases ha
      · cases h
    · cases h
  | mapUpdate t m k v =>
    simp only [trOp, hop] at h
    split at h
    · split at h
      · cases h; cases ha
      · cases h
    · cases h
  | call c =>
    simp only [trOp, hop] at h
    split at h
    · cases h
    · rename_i args hargs
      split at h
      · split at h
        · split at h
          · cases h; cases ha
          · cases h
        · cases h
      · obtain ⟨x, hx, rfl⟩ := Option.map_eq_some_iff.1 h
        cases ha
      · rename_i hcl
        split at h
        · rename_i e ax hu
          cases h
          obtain ⟨t, ht, hu⟩ := get0 hu
          obtain ⟨x, hx, hax⟩ := listM_one hargs
          exact s_len (st := false) hop hcl ht (by simpa using ⟨_, hu⟩) hx hax (mem_xts (by simp [AOp.xs])) ha
        · rename_i ax hu
          cases h
          obtain ⟨t, ht, hu⟩ := get0 hu
          obtain ⟨x, hx, hax⟩ := listM_one hargs
          exact s_len (st := true) hop hcl ht (by simpa using hu) hx hax (mem_xts (by simp [AOp.xs])) ha
        · cases h; cases ha
        · rename_i n e ax hu
          cases h
          obtain ⟨t, ht, hu⟩ := get0 hu
          obtain ⟨x, hx, hax⟩ := listM_one hargs
          exact s_len_arr hop hcl ht hu hx ha
        · cases h
      · rename_i hcl
        split at h
        · rename_i ax ay
          cases h
          obtain ⟨x, y, hx, h1, h2⟩ := listM_two hargs
          exact s_minmax (mx := true) hop hcl hx h1 h2 (mem_xts (by simp [AOp.xs])) (mem_xts (by simp [AOp.xs])) ha
        · cases h
      · rename_i hcl
        split at h
        · rename_i ax ay
          cases h
          obtain ⟨x, y, hx, h1, h2⟩ := listM_two hargs
          exact s_minmax (mx := false) hop hcl hx h1 h2 (mem_xts (by simp [AOp.xs])) (mem_xts (by simp [AOp.xs])) ha
        · cases h
      · rename_i hcl
        split at h
        · rename_i e t2 ax ay hu1 hu2
          obtain ⟨sT, ht0, hu1⟩ := get0 hu1
          obtain ⟨xT, ht1, hu2⟩ := get1 hu2
          obtain ⟨x, y, hx, h1, h2⟩ := listM_two hargs
          have key : ∀ (sz by_ : Nat) (z : List D), ((∃ e', P.underlying xT = some (.slice e')) ∨ P.underlying xT = some .string) → sizeB P e = some sz → bytesB P e = some by_ → zeroD P e = some z → 0 < sz → z.length = sz → aop (.append sz by_ z ax ay) ρ hl = some (p, s) → OpR P N o ρ (AOp.append sz by_ z ax ay).ts hl s := by
            intro sz by_ z hxt hs hb hz hsz hzl ha
            simp only [aop] at ha
            split at ha
            · rename_i sz' m rows rd e1 e2
              cases ha
              cases hvy : ev ρ ay with
              | none => simp [hvy] at e2
              | some vy =>
                simp only [hvy, Option.bind_some] at e2
                exact s_appendNil hop hcl ht0 ht1 hx h1 h2 (mem_xts (by simp [AOp.xs])) (mem_xts (by simp [AOp.xs])) hu1 hxt hs hb hz hsz hzl e1 hvy e2 hp.1 hp.2.1 hp.2.2.1 hp.2.2.2
            · rename_i id n sz' m rows rd e1 e2
              split at ha
              · rename_i sz0 old hid
                cases hct : rd.contains id with
                | true => rw [hct] at ha; cases ha
                | false =>
                  simp only [hct, cond_false] at ha
                  cases ha
                  obtain ⟨p1, rfl, p2, p3, p4, p5⟩ := hp
                  cases hvy : ev ρ ay with
                  | none => simp [hvy] at e2
                  | some vy =>
                    simp only [hvy, Option.bind_some] at e2
                    exact s_appendSl hop hcl ht0 ht1 hx h1 h2 (mem_xts (by simp [AOp.xs])) (mem_xts (by simp [AOp.xs])) hu1 hxt hs hb hz hsz hzl e1 hvy e2 hid p1 p2 p3 p4 p5
              · cases ha
            · cases ha
          split at h
          · split at h
            · rename_i hc
              cases h
              exact key _ _ _ (.inl ⟨_, hu2⟩) (by assumption) (by assumption) (by assumption) hc.1 hc.2 ha
            · cases h
          · split at h
            · rename_i hc
              cases h
              exact key _ _ _ (.inr hu2) (by assumption) (by assumption) (by assumption) (by omega) hc.2 ha
            · cases h
          · cases h
        · cases h
      · rename_i hcl
        split at h
        · rename_i e ax ay hu
          obtain ⟨dT, ht0, hu⟩ := get0 hu
          obtain ⟨x, y, hx, h1, h2⟩ := listM_two hargs
          split at h
          · rename_i sz hs
            split at h
            · rename_i hz
              cases h
              exact s_copy hop hcl ht0 hx h1 h2 (mem_xts (by simp [AOp.xs])) (mem_xts (by simp [AOp.xs])) hu hs hz ha hp
            · cases h
          · cases h
        · cases h
      · rename_i hcl
        split at h
        · rename_i e ax hu
          obtain ⟨dT, ht0, hu⟩ := get0 hu
          obtain ⟨x, hx, h1⟩ := listM_one hargs
          split at h
          · rename_i sz z hs hz
            split at h
            · rename_i hc
              cases h
              exact s_clear hop hcl ht0 hx h1 (mem_xts (by simp [AOp.xs])) hu hs hz hc.1 hc.2 ha hp
            · cases h
          · cases h
        · cases h
      · split at h
        · split at h
          · cases h; cases ha
          · cases h
        · cases h
      · cases h
  | _ => simp only [trOp, hop] at h; cases h
end
end Go.Proofs.Ytheaeddojcebjaa

/-
  Serial replay, the plain law: spans that cover; chains in order; what transactions read and write; what stands behind them.
-/
import Derived.Test.YtpnbncdclgmegaaT22
import Derived.Test.YtpnbncdclgmegaaT13m
set_option maxRecDepth 100000
set_option maxHeartbeats 1000000
set_option linter.unusedVariables false
set_option linter.unusedSimpArgs false
namespace Go.Proofs.Ytpnbncdclgmegaa
open Go.RowKit

/-- Some span has a key. -/
def cov (R : List Spn) (t a : Int) : Prop := ∃ x ∈ R, x.1 = t ∧ x.2.1 ≤ a ∧ a < x.2.2
theorem stepS_cov {q : AddSt} {x : Spn} {t a : Int} (h : cov [x] t a ∨ cov q.1 t a ∨ cov [q.2.2] t a) : cov (stepS q x).1 t a ∨ cov [(stepS q x).2.2] t a := by
  have one : ∀ y : Spn, cov [y] t a ↔ y.1 = t ∧ y.2.1 ≤ a ∧ a < y.2.2 := fun y => by simp [cov]
  have app : ∀ y : Spn, cov q.1 t a ∨ cov [y] t a → cov (q.1 ++ [y]) t a := fun y h => by
    rcases h with ⟨z, z1, z2⟩ | ⟨z, z1, z2⟩
    · exact ⟨z, by simp [z1], z2⟩
    · exact ⟨z, by simp at z1; simp [z1], z2⟩
  unfold stepS
  split
  · rcases h with h | h | h
    · exact .inl (app x (.inr h))
    · exact .inl (app x (.inl h))
    · exact .inr h
  · rename_i h1
    split
    · rcases h with h | h | h
      · exact .inl (app x (.inr h))
      · exact .inl (app x (.inl h))
      · exact .inr h
    · rename_i h2
      simp only [aheadS, Bool.or_eq_true, Bool.and_eq_true, decide_eq_true_eq, beq_iff_eq, not_or, not_and] at h1 h2
      have ht : x.1 = q.2.2.1 := by omega
      rcases h with h | h | h
      · right
        rw [one] at h ⊢
        simp only [mnI, mxI]
        refine ⟨by omega, ?_, ?_⟩ <;> split <;> omega
      · exact .inl h
      · right
        rw [one] at h ⊢
        simp only [mnI, mxI]
        refine ⟨h.1, ?_, ?_⟩ <;> split <;> omega
theorem foldS_cov {t a : Int} : ∀ (R : List Spn) (q : AddSt), cov R t a ∨ cov q.1 t a ∨ cov [q.2.2] t a → cov (R.foldl stepS q).1 t a ∨ cov [(R.foldl stepS q).2.2] t a
  | [], q, h => by
    rcases h with ⟨x, hx, _⟩ | h
    · cases hx
    · exact h
  | x :: R, q, h => by
    rw [List.foldl_cons]
    refine foldS_cov R _ ?_
    rcases h with ⟨y, hy, h⟩ | h
    · rcases List.mem_cons.1 hy with rfl | hy
      · exact .inr (stepS_cov (.inl ⟨y, by simp, h⟩))
      · exact .inl ⟨y, hy, h⟩
    · exact .inr (stepS_cov (.inr h))
theorem addS_cov {R : List Spn} {s : Spn} {t a : Int} (h : cov R t a ∨ cov [s] t a) : cov (addS R s) t a := by
  have := foldS_cov R ([], 0, s) (h.imp id fun h => .inr h)
  unfold addS foldS
  simp only
  rcases this with ⟨x, hx, h⟩ | ⟨x, hx, h⟩
  · refine ⟨x, ?_, h⟩
    rw [← List.take_append_drop (R.foldl stepS ([], 0, s)).2.1 (R.foldl stepS ([], 0, s)).1] at hx
    rcases List.mem_append.1 hx with hx | hx
    · exact List.mem_append_left _ hx
    · exact List.mem_append_right _ (List.mem_cons_of_mem _ hx)
  · simp only [List.mem_singleton] at hx
    subst hx
    exact ⟨_, List.mem_append_right _ List.mem_cons_self, h⟩
theorem stepS_bd {q : AddSt} {x : Spn} (h1 : ∀ y ∈ q.1, SpB y) (h2 : SpB q.2.2) (h3 : SpB x) : (∀ y ∈ (stepS q x).1, SpB y) ∧ SpB (stepS q x).2.2 := by
  have app : ∀ y ∈ q.1 ++ [x], SpB y := fun y hy => by
    rcases List.mem_append.1 hy with hy | hy
    · exact h1 y hy
    · simp at hy; subst hy; exact h3
  unfold stepS
  split
  · exact ⟨app, h2⟩
  · split
    · exact ⟨app, h2⟩
    · refine ⟨h1, ?_⟩
      simp only [SpB, mnI, mxI] at *
      constructor <;> split <;> omega
theorem addS_bd {R : List Spn} {s : Spn} (h : ∀ x ∈ R, SpB x) (hs : SpB s) : ∀ x ∈ addS R s, SpB x := by
  have key : ∀ (R : List Spn) (q : AddSt), (∀ x ∈ R, SpB x) → (∀ y ∈ q.1, SpB y) → SpB q.2.2 → (∀ y ∈ (R.foldl stepS q).1, SpB y) ∧ SpB (R.foldl stepS q).2.2 := by
    intro R
    induction R with
    | nil => intro q _ h1 h2; exact ⟨h1, h2⟩
    | cons x R ih =>
      intro q h h1 h2
      obtain ⟨e1, e2⟩ := stepS_bd h1 h2 (h x (by simp))
      exact ih _ (fun y hy => h y (by simp [hy])) e1 e2
  obtain ⟨e1, e2⟩ := key R ([], 0, s) h (by simp) hs
  intro x hx
  unfold addS foldS at hx
  simp only at hx
  rcases List.mem_append.1 hx with hx | hx
  · exact e1 x (List.mem_of_mem_take hx)
  · rcases List.mem_cons.1 hx with rfl | hx
    · exact e2
    · exact e1 x (List.mem_of_mem_drop hx)
theorem first_none {L : Chs} {q t : Int} : ∀ (n : Nat) (a : Int), firstA L q t n a = none → ∀ b, a ≤ b → b < a + n → newL (chK L (t, b)) ≤ q
  | 0, a, _, b, h1, h2 => by omega
  | n + 1, a, h, b, h1, h2 => by
    unfold firstA at h
    split at h
    · cases h
    · rename_i hq
      by_cases e : b = a
      · subst e; omega
      · exact first_none n (a + 1) h b (by omega) (by omega)
theorem clash_none {L : Chs} {q : Int} : ∀ {R : List Spn}, clashS L q R = none → ∀ {t a : Int}, cov R t a → newL (chK L (t, a)) ≤ q
  | [], _, t, a, ⟨x, hx, _⟩ => by cases hx
  | s :: R, h, t, a, ⟨x, hx, h1, h2, h3⟩ => by
    rw [clashS_cons] at h
    split at h
    · cases h
    · rename_i hf
      rcases List.mem_cons.1 hx with rfl | hx
      · subst h1
        exact first_none _ _ hf a h2 (by omega)
      · exact clash_none h ⟨x, hx, h1, h2, h3⟩

/-- A chain in order, up to a number. -/
structure ChS (q : Int) (l : Ch) : Prop where
  srt : l.Pairwise fun e f => e.1 < f.1
  rng : ∀ e ∈ l, 1 ≤ e.1 ∧ e.1 ≤ q
theorem ch_parts (s : Int) : ∀ {l : Ch}, l.Pairwise (fun e f => e.1 < f.1) → ∃ A B, l = A ++ B ∧ (∀ e ∈ A, e.1 ≤ s) ∧ ∀ e ∈ B, s < e.1
  | [], _ => ⟨[], [], rfl, by simp, by simp⟩
  | c :: l, h => by
    have h := List.pairwise_cons.1 h
    by_cases hc : c.1 ≤ s
    · obtain ⟨A, B, rfl, h1, h2⟩ := ch_parts s h.2
      exact ⟨c :: A, B, rfl, fun x hx => by rcases List.mem_cons.1 hx with rfl | hx; exact hc; exact h1 x hx, h2⟩
    · exact ⟨[], c :: l, rfl, by simp, fun x hx => by
        rcases List.mem_cons.1 hx with rfl | hx
        · omega
        · have := h.1 x hx; omega⟩
theorem atL_parts {A B : Ch} {s : Int} (h1 : ∀ e ∈ A, e.1 ≤ s) (h2 : ∀ e ∈ B, s < e.1) : atL (A ++ B) s = lastV A := by
  have hu : upL (A ++ B) s = A.length := by
    unfold upL
    refine bsF_eq _ A.length _ _ _ (fun j _ hj => ?_) (by omega) (by simp) (by omega)
    have hget : (A ++ B).getD j default = (A ++ B)[j] := by rw [List.getD_eq_getElem?_getD, List.getElem?_eq_getElem hj]; rfl
    rw [hget]
    by_cases hjA : j < A.length
    · rw [List.getElem_append_left hjA]
      have := h1 _ (List.getElem_mem hjA)
      simp [this, hjA]
    · have hjB : j - A.length < B.length := by simp at hj; omega
      rw [List.getElem_append_right (by omega)]
      have := h2 _ (List.getElem_mem hjB)
      have hn : ¬ (B[j - A.length].1 ≤ s) := by omega
      simp [hn, hjA]
  have hA : atL A s = lastV A := atL_last h1
  rw [← hA]
  unfold atL
  rw [hu, upL_all h1]
  by_cases h0 : A.length = 0
  · rw [if_pos h0, if_pos h0]
  · rw [if_neg h0, if_neg h0, List.getD_eq_getElem?_getD, List.getD_eq_getElem?_getD, List.getElem?_append_left (by omega)]
/-- What stands as of a number stays when later versions come. -/
theorem at_old {q m : Int} {l : Ch} (h : ChS q l) (hm : m ≤ q) (v : Int) : atL (l ++ [(q + 1, v)]) m = atL l m := by
  obtain ⟨A, B, rfl, h1, h2⟩ := ch_parts m h.srt
  rw [List.append_assoc, atL_parts h1 (B := B ++ [(q + 1, v)]) (fun e he => ?_), atL_parts h1 h2]
  rcases List.mem_append.1 he with he | he
  · exact h2 e he
  · simp at he; subst he; simp only; omega
theorem at_new {q : Int} {l : Ch} (h : ChS q l) (v : Int) : atL (l ++ [(q + 1, v)]) (q + 1) = v := by
  rw [atL_last, lastV_snoc]
  intro e he
  rcases List.mem_append.1 he with he | he
  · have := h.rng e he; omega
  · simp at he; subst he; simp
theorem at_next {q : Int} {l : Ch} (h : ChS q l) : atL l (q + 1) = atL l q := by
  rw [atL_last fun e he => by have := h.rng e he; omega, atL_last fun e he => (h.rng e he).2]
theorem ChS.snoc {q : Int} {l : Ch} (h : ChS q l) (hq : 0 ≤ q) (v : Int) : ChS (q + 1) (l ++ [(q + 1, v)]) := by
  refine ⟨List.pairwise_append.2 ⟨h.srt, by simp, fun e he f hf => ?_⟩, fun e he => ?_⟩
  · simp at hf; subst hf; have := h.rng e he; simp only; omega
  · rcases List.mem_append.1 he with he | he
    · have := h.rng e he; omega
    · simp at he; subst he; simp only; omega
theorem ChS.mono {q q' : Int} {l : Ch} (h : ChS q l) (hq : q ≤ q') : ChS q' l := ⟨h.srt, fun e he => by have := h.rng e he; omega⟩
theorem new_all {q s : Int} {l : Ch} (h : ChS q l) (hn : newL l ≤ s) : ∀ e ∈ l, e.1 ≤ s := by
  intro e he
  rcases List.eq_nil_or_concat l with rfl | ⟨l', x, rfl⟩
  · cases he
  · have hx : newL (l' ++ [x]) = x.1 := by simp [newL]
    rw [List.concat_eq_append] at hn he h
    rw [hx] at hn
    rcases List.mem_append.1 he with he | he
    · have := (List.pairwise_append.1 h.srt).2.2 e he x (by simp)
      omega
    · simp at he; subst he; exact hn
theorem at_same {q s m : Int} {l : Ch} (h : ChS q l) (hn : newL l ≤ s) (hm : s ≤ m) : atL l m = atL l s := by
  have := new_all h hn
  rw [atL_last this, atL_last fun e he => by have := this e he; omega]
abbrev atF (L : Chs) (m : Int) : Key → Int := fun k => atL (chK L k) m
theorem chK_adds {q : Int} {k : Key} : ∀ {W : List Cel} {L : Chs}, Srt W → AllOk W → chK (addsK L q W) k = match W.find? (fun c => decide (keyC c = k)) with | some c => chK L k ++ [(q, c.2.2)] | none => chK L k
  | [], L, _, _ => rfl
  | c :: W, L, hs, hl => by
    have hs := List.pairwise_cons.1 hs
    have e : addsK L q (c :: W) = addsK (addK L (keyC c) (q, c.2.2)) q W := rfl
    rw [e, chK_adds hs.2 (fun x hx => hl x (by simp [hx])), List.find?_cons]
    by_cases hk : keyC c = k
    · have hn : W.find? (fun c => decide (keyC c = k)) = none := List.find?_eq_none.2 fun x hx => by
        have := key_ne (hs.1 x hx)
        rw [hk] at this
        simpa using fun e => this e.symm
      rw [hn]
      simp only [hk, decide_true]
      rw [chK_addK, if_pos rfl]
    · simp only [hk, decide_false]
      rw [chK_addK, if_neg hk]
theorem gat_key {t a : Int} (ha : AdB a) : ∀ {W : List Cel}, AllOk W → gat W (t * 65536 + a) = W.find? (fun c => decide (keyC c = (t, a)))
  | [], _ => rfl
  | c :: W, h => by
    have ih := gat_key (t := t) ha (W := W) fun x hx => h x (by simp [hx])
    unfold gat at ih ⊢
    rw [List.find?_cons, List.find?_cons, ih]
    have hca := (h c (by simp)).ad
    have : (ec c = t * 65536 + a) ↔ keyC c = (t, a) := by
      unfold ec keyC
      rw [Prod.mk.injEq]
      omega
    simp only [this]
theorem getL_key {W : List Cel} (hs : Srt W) (hl : AllOk W) {t a : Int} (ha : AdB a) : getL W t a = match W.find? (fun c => decide (keyC c = (t, a))) with | some c => (c.2.2, true) | none => (0, false) := by
  rw [getL_gat hs hl ha, gat_key ha hl]
  cases W.find? (fun c => decide (keyC c = (t, a))) <;> rfl
/-- A store behind an install. -/
theorem adds_ver {L : Chs} {q : Int} {W : List Cel} (hq : 0 ≤ q) (h : ∀ k, ChS q (chK L k)) (hs : Srt W) (hl : AllOk W) : ∀ k, ChS (q + 1) (chK (addsK L (q + 1) W) k) := by
  intro k
  rw [chK_adds hs hl]
  split
  · exact (h k).snoc hq _
  · exact (h k).mono (by omega)
theorem adds_old {L : Chs} {q m : Int} {W : List Cel} (h : ∀ k, ChS q (chK L k)) (hs : Srt W) (hl : AllOk W) (hm : m ≤ q) (k : Key) : atF (addsK L (q + 1) W) m k = atF L m k := by
  unfold atF
  rw [chK_adds hs hl]
  split
  · exact at_old (h k) hm _
  · rfl
theorem adds_new {L : Chs} {q : Int} {W : List Cel} (h : ∀ k, ChS q (chK L k)) (hs : Srt W) (hl : AllOk W) {t a : Int} (ha : AdB a) : atF (addsK L (q + 1) W) (q + 1) (t, a) = if (getL W t a).2 then (getL W t a).1 else atF L q (t, a) := by
  unfold atF
  rw [chK_adds hs hl, getL_key hs hl ha]
  cases W.find? (fun c => decide (keyC c = (t, a))) with
  | some c => exact at_new (h _) _
  | none => exact at_next (h _)

/-- A read, or a write, and what was read, or written. -/
abbrev Act := Bool × Cel
def stpA (f : Key → Int) (a : Act) : Key → Int := if a.1 then fun k => if keyC a.2 = k then a.2.2.2 else f k else f
def aft (f : Key → Int) (l : List Act) : Key → Int := l.foldl stpA f
theorem aft_snoc (f : Key → Int) (l : List Act) (a : Act) : aft f (l ++ [a]) = stpA (aft f l) a := by simp [aft]
def wrt (l : List Act) (k : Key) : Prop := ∃ a ∈ l, a.1 = true ∧ keyC a.2 = k
theorem aft_eq {k : Key} : ∀ (l : List Act) (f g : Key → Int), (f k = g k ∨ wrt l k) → aft f l k = aft g l k
  | [], f, g, h => by
    rcases h with h | ⟨a, ha, _⟩
    · exact h
    · cases ha
  | a :: l, f, g, h => by
    show aft (stpA f a) l k = aft (stpA g a) l k
    refine aft_eq l _ _ ?_
    rcases h with h | ⟨b, hb, h1, h2⟩
    · left
      unfold stpA
      split
      · simp only [h]
      · exact h
    · rcases List.mem_cons.1 hb with rfl | hb
      · left
        unfold stpA
        simp [h1, h2]
      · exact .inr ⟨b, hb, h1, h2⟩
theorem aft_no {k : Key} : ∀ (l : List Act) (f : Key → Int), ¬ wrt l k → aft f l k = f k
  | [], f, _ => rfl
  | a :: l, f, h => by
    show aft (stpA f a) l k = f k
    rw [aft_no l _ fun ⟨b, hb, h1⟩ => h ⟨b, by simp [hb], h1⟩]
    unfold stpA
    split
    · rename_i h1
      have : keyC a.2 ≠ k := fun e => h ⟨a, by simp, h1, e⟩
      simp [this]
    · rfl
/-- Each read is what stands behind what is ahead of it. -/
def okR (f : Key → Int) (l : List Act) : Prop := ∀ (j : Nat) a, l[j]? = some a → a.1 = false → aft f (l.take j) (keyC a.2) = a.2.2.2
theorem okR.snoc {f : Key → Int} {l : List Act} (h : okR f l) {a : Act} (ha : a.1 = false → aft f l (keyC a.2) = a.2.2.2) : okR f (l ++ [a]) := by
  intro j b hb h1
  rcases Nat.lt_trichotomy j l.length with hj | hj | hj
  · rw [List.getElem?_append_left hj] at hb
    rw [List.take_append_of_le_length (by omega)]
    exact h j b hb h1
  · subst hj
    rw [List.getElem?_append_right (by omega), Nat.sub_self] at hb
    cases hb
    rw [List.take_left]
    exact ha h1
  · rw [List.getElem?_eq_none (by simp; omega)] at hb
    cases hb
theorem okR.base {f g : Key → Int} {l : List Act} (h : okR f l) (hfg : ∀ (j : Nat) a, l[j]? = some a → a.1 = false → ¬ wrt (l.take j) (keyC a.2) → f (keyC a.2) = g (keyC a.2)) : okR g l := by
  intro j a ha h1
  rw [← h j a ha h1]
  by_cases hw : wrt (l.take j) (keyC a.2)
  · exact aft_eq _ _ _ (.inr hw)
  · exact aft_eq _ _ _ (.inl (hfg j a ha h1 hw).symm)
/-- A transaction that is open. -/
structure OI (L : Chs) (last : Int) (v : Vw) (l : List Act) : Prop where
  q0 : 0 ≤ v.q ∧ v.q ≤ last
  srt : Srt v.W
  ok : AllOk v.W
  buf : ∀ t a, AdB a → ∀ f, aft f l (t, a) = if (getL v.W t a).2 then (getL v.W t a).1 else f (t, a)
  hit : ∀ t a, AdB a → ((getL v.W t a).2 = true ↔ wrt l (t, a))
  rd : okR (atF L v.q) l
  cv : ∀ (j : Nat) a, l[j]? = some a → a.1 = false → ¬ wrt (l.take j) (keyC a.2) → cov v.R a.2.1 a.2.2.1
  av : ∀ a ∈ l, AdB a.2.2.1 ∧ (a.1 = true → CelOk a.2)
  lR : v.R.length ≤ l.length
  lW : v.W.length ≤ l.length
  rs : ∀ x ∈ v.R, SpB x
theorem getL_nil {t a : Int} : getL [] t a = (0, false) := by unfold getL; simp
theorem OI.start {L : Chs} {last : Int} (h : 0 ≤ last) : OI L last ⟨last, [], []⟩ [] := by
  refine ⟨⟨h, Int.le_refl _⟩, .nil, by simp, fun t a _ f => by rw [getL_nil]; rfl, fun t a _ => ?_, fun j a h => by simp at h, fun j a h => by simp at h, by simp, by simp, by simp, by simp⟩
  rw [getL_nil]
  constructor
  · intro h; cases h
  · rintro ⟨a, ha, _⟩; cases ha
theorem OI.move {L L' : Chs} {last last' : Int} {v : Vw} {l : List Act} (h : OI L last v l) (hl : last ≤ last') (hs : ∀ m, m ≤ last → ∀ k, atF L' m k = atF L m k) : OI L' last' v l :=
  ⟨⟨h.q0.1, by have := h.q0.2; omega⟩, h.srt, h.ok, h.buf, h.hit, h.rd.base fun j a _ _ _ => (hs _ h.q0.2 _).symm, h.cv, h.av, h.lR, h.lW, h.rs⟩
theorem take_snoc {α : Type} {l : List α} {a b : α} {j : Nat} (h : (l ++ [a])[j]? = some b) : (j < l.length ∧ l[j]? = some b ∧ (l ++ [a]).take j = l.take j) ∨ (j = l.length ∧ a = b ∧ (l ++ [a]).take j = l) := by
  rcases Nat.lt_trichotomy j l.length with hj | hj | hj
  · rw [List.getElem?_append_left hj] at h
    exact .inl ⟨hj, h, List.take_append_of_le_length (by omega)⟩
  · subst hj
    rw [List.getElem?_append_right (by omega), Nat.sub_self] at h
    cases h
    exact .inr ⟨rfl, rfl, List.take_left⟩
  · rw [List.getElem?_eq_none (by simp; omega)] at h
    cases h
theorem rest_hit {W : List Cel} (hs : Srt W) (hl : AllOk W) {t a : Int} (ha : AdB a) : restL W (t, a, a + 1) = if (getL W t a).2 then [] else [(t, a, a + 1)] := by
  rw [getL_gat hs hl ha]
  cases hg : gat W (t * 65536 + a) with
  | some c =>
    simp only [if_true]
    unfold gat at hg
    have hm := List.mem_of_find?_eq_some hg
    have hk : ec c = t * 65536 + a := by simpa using List.find?_some hg
    have hca := (hl c hm).ad
    unfold ec at hk
    have h1 : c.1 = t := by omega
    have h2 : c.2.1 = a := by omega
    have := restL_mem hs hl hm
    rw [h1, h2] at this
    exact this
  | none =>
    simp only [Bool.false_eq_true, if_false]
    unfold gat at hg
    have hno := List.find?_eq_none.1 hg
    obtain ⟨A, B, rfl, h1, h2⟩ := srt_parts (t * 65536 + a) hs
    have hA : AllOk A := fun x hx => hl x (by simp [hx])
    have hB : AllOk B := fun x hx => hl x (by simp [hx])
    unfold restL
    simp only
    rw [findL_parts ha hA hB h1 h2]
    cases B with
    | nil => simp [restF]; omega
    | cons d B =>
      have hlen : (A ++ d :: B).length - A.length = B.length + 1 := by simp
      have hget : (A ++ d :: B)[A.length]? = some d := by simp
      have hd := h2 d (by simp)
      have hne := hno d (by simp)
      have hda := (hB d (by simp)).ad
      simp only [decide_eq_true_eq] at hne
      have hn : (d.1 == t && decide (d.2.1 < a + 1)) = false := by
        by_cases h : d.1 = t
        · unfold ec at hd hne
          have : ¬ d.2.1 < a + 1 := by omega
          simp [this]
        · simp [h]
      rw [hlen, restF, hget]
      simp only [hn, Bool.false_eq_true, if_false]
      rw [if_pos (by omega)]
theorem OI.read {L : Chs} {last : Int} {v : Vw} {l : List Act} (h : OI L last v l) {t a : Int} (ha : AdB a) : OI L last ⟨v.q, addsS v.R (restL v.W (t, a, a + 1)), v.W⟩ (l ++ [(false, (t, a, wordAt L v.W v.q t a))]) := by
  have hw : ∀ k, wrt (l ++ [(false, (t, a, wordAt L v.W v.q t a))]) k ↔ wrt l k := fun k => by
    constructor
    · rintro ⟨b, hb, h1, h2⟩
      rcases List.mem_append.1 hb with hb | hb
      · exact ⟨b, hb, h1, h2⟩
      · simp at hb; subst hb; cases h1
    · rintro ⟨b, hb, h1⟩
      exact ⟨b, by simp [hb], h1⟩
  have hst : ∀ f, aft f (l ++ [(false, (t, a, wordAt L v.W v.q t a))]) = aft f l := fun f => by rw [aft_snoc]; rfl
  have hrest := rest_hit h.srt h.ok (t := t) ha
  have hcov : ∀ t' a', cov v.R t' a' → cov (addsS v.R (restL v.W (t, a, a + 1))) t' a' := fun t' a' hc => by
    rw [hrest]
    split
    · exact hc
    · exact addS_cov (.inl hc)
  refine ⟨h.q0, h.srt, h.ok, fun t' a' ha' f => by rw [hst]; exact h.buf t' a' ha' f, fun t' a' ha' => by rw [hw]; exact h.hit t' a' ha', h.rd.snoc fun _ => ?_, fun j b hb h1 h2 => ?_, fun b hb => ?_, ?_, by have := h.lW; simp; omega, fun x hx => ?_⟩
  · show aft (atF L v.q) l (t, a) = wordAt L v.W v.q t a
    rw [h.buf t a ha]
    rfl
  · rcases take_snoc hb with ⟨_, e1, e2⟩ | ⟨_, rfl, e2⟩
    · rw [e2] at h2
      exact hcov _ _ (h.cv j b e1 h1 h2)
    · rw [e2] at h2
      have hn : (getL v.W t a).2 = false := by
        cases hh : (getL v.W t a).2 with
        | false => rfl
        | true => exact absurd ((h.hit t a ha).1 hh) h2
      rw [hrest, hn]
      exact addS_cov (.inr ⟨_, List.mem_singleton_self _, rfl, Int.le_refl _, by simp only; omega⟩)
  · rcases List.mem_append.1 hb with hb | hb
    · exact h.av b hb
    · simp at hb; subst hb; exact ⟨ha, fun e => by cases e⟩
  · have := addsS_len (restL v.W (t, a, a + 1)) v.R
    have h2 : (restL v.W (t, a, a + 1)).length ≤ 1 := by rw [hrest]; split <;> simp
    have := h.lR
    simp
    omega
  · rw [hrest] at hx
    split at hx
    · exact h.rs x hx
    · exact addS_bd h.rs ⟨by simp only; omega, by simp only; omega⟩ x hx
theorem OI.write {L : Chs} {last : Int} {v : Vw} {l : List Act} (h : OI L last v l) {c : Cel} (hc : CelOk c) : OI L last ⟨v.q, v.R, putL v.W c⟩ (l ++ [(true, c)]) := by
  obtain ⟨e1, e2, _⟩ := putL_srt h.srt h.ok hc
  have hst : ∀ f k, aft f (l ++ [(true, c)]) k = if keyC c = k then c.2.2 else aft f l k := fun f k => by rw [aft_snoc]; simp [stpA]
  have hke : ∀ t a, (c.1 = t ∧ c.2.1 = a) ↔ keyC c = (t, a) := fun t a => by simp [keyC, Prod.mk.injEq]
  refine ⟨h.q0, e1, e2, fun t a ha f => ?_, fun t a ha => ?_, h.rd.snoc fun e => by (cases e), fun j b hb h1 h2 => ?_, fun b hb => ?_, by have := h.lR; simp; omega, ?_, h.rs⟩
  · rw [hst, getL_put h.srt h.ok hc ha]
    by_cases hk : keyC c = (t, a)
    · simp only [if_pos hk, if_pos ((hke t a).2 hk)]
      rfl
    · simp only [if_neg hk, if_neg fun e => hk ((hke t a).1 e)]
      exact h.buf t a ha f
  · rw [getL_put h.srt h.ok hc ha]
    by_cases hk : keyC c = (t, a)
    · simp only [if_pos ((hke t a).2 hk)]
      exact ⟨fun _ => ⟨(true, c), by simp, rfl, hk⟩, fun _ => trivial⟩
    · simp only [if_neg fun e => hk ((hke t a).1 e)]
      rw [h.hit t a ha]
      constructor
      · rintro ⟨b, hb, h1⟩
        exact ⟨b, by simp [hb], h1⟩
      · rintro ⟨b, hb, h1, h2⟩
        rcases List.mem_append.1 hb with hb | hb
        · exact ⟨b, hb, h1, h2⟩
        · simp at hb; subst hb; exact absurd h2 hk
  · rcases take_snoc hb with ⟨_, f1, f2⟩ | ⟨_, rfl, f2⟩
    · rw [f2] at h2
      exact h.cv j b f1 h1 h2
    · cases h1
  · rcases List.mem_append.1 hb with hb | hb
    · exact h.av b hb
    · simp at hb; subst hb; exact ⟨hc.ad, fun _ => hc⟩
  · have := putL_len v.W c
    have := h.lW
    simp
    omega
/-- What was committed. -/
structure Deed where
  q : Int
  w : Bool
  acts : List Act
def Deed.base (d : Deed) : Int := if d.w then d.q - 1 else d.q
structure DI (L : Chs) (last : Int) (d : Deed) : Prop where
  q0 : 0 ≤ d.q ∧ d.q ≤ last
  qw : d.w = true → 1 ≤ d.q
  rd : okR (atF L d.base) d.acts
  en : ∀ t a, AdB a → aft (atF L d.base) d.acts (t, a) = atF L d.q (t, a)
  av : ∀ a ∈ d.acts, AdB a.2.2.1 ∧ (a.1 = true → CelOk a.2)
theorem DI.move {L L' : Chs} {last last' : Int} {d : Deed} (h : DI L last d) (hl : last ≤ last') (hs : ∀ m, m ≤ last → ∀ k, atF L' m k = atF L m k) : DI L' last' d := by
  have hb : d.base ≤ last := by
    have := h.q0
    unfold Deed.base
    split <;> omega
  refine ⟨⟨h.q0.1, by have := h.q0.2; omega⟩, h.qw, h.rd.base fun j a _ _ _ => (hs _ hb _).symm, fun t a ha => ?_, h.av⟩
  rw [hs _ h.q0.2, ← h.en t a ha]
  exact aft_eq _ _ _ (.inl (hs _ hb _))
theorem OI.reader {L : Chs} {last : Int} {v : Vw} {l : List Act} (h : OI L last v l) (hW : v.W = []) : DI L last ⟨v.q, false, l⟩ := by
  refine ⟨h.q0, fun e => by (cases e), h.rd, fun t a ha => ?_, h.av⟩
  show aft (atF L v.q) l (t, a) = atF L v.q (t, a)
  rw [h.buf t a ha, hW, getL_nil]
  rfl
theorem OI.writer {L : Chs} {last : Int} {v : Vw} {l : List Act} (h : OI L last v l) (hL : ∀ k, ChS last (chK L k)) (h0 : 0 ≤ last) (hc : clashS L v.q v.R = none) : DI (addsK L (last + 1) v.W) (last + 1) ⟨last + 1, true, l⟩ := by
  have hb : (⟨last + 1, true, l⟩ : Deed).base = last := by simp [Deed.base]
  refine ⟨⟨by simp only; omega, Int.le_refl _⟩, fun _ => by simp only; omega, ?_, fun t a ha => ?_, h.av⟩
  · rw [hb]
    refine h.rd.base fun j a ha h1 h2 => ?_
    rw [adds_old hL h.srt h.ok (Int.le_refl _)]
    exact (at_same (hL _) (clash_none hc (h.cv j a ha h1 h2)) h.q0.2).symm
  · rw [hb]
    simp only
    rw [h.buf t a ha, adds_new hL h.srt h.ok ha, adds_old hL h.srt h.ok (Int.le_refl _)]
end Go.Proofs.Ytpnbncdclgmegaa

/-
  What is put into a buffer is got; the last version of a chain.
-/
import Derived.Test.YtpnbncdclgmegaaT17
import Derived.Test.YtpnbncdclgmegaaT6m
set_option maxRecDepth 100000
set_option maxHeartbeats 1000000
set_option linter.unusedVariables false
set_option linter.unusedSimpArgs false
namespace Go.Proofs.Ytpnbncdclgmegaa
open Go.RowKit

def gat (l : List Cel) (e : Int) : Option Cel := l.find? fun c => decide (ec c = e)
theorem gat_none {l : List Cel} {e : Int} (h : ∀ c ∈ l, ec c ≠ e) : l.find? (fun c => decide (ec c = e)) = none := List.find?_eq_none.2 fun x hx => by simpa using h x hx
theorem getL_gat {l : List Cel} (hs : Srt l) (hl : AllOk l) {t a : Int} (ha : AdB a) : getL l t a = match gat l (t * 65536 + a) with | some c => (c.2.2, true) | none => (0, false) := by
  obtain ⟨A, B, rfl, h1, h2⟩ := srt_parts (t * 65536 + a) hs
  have hA : AllOk A := fun x hx => hl x (by simp [hx])
  have hB : AllOk B := fun x hx => hl x (by simp [hx])
  have hf := findL_parts (t := t) ha hA hB h1 h2
  obtain ⟨p1, p2, p3⟩ := List.pairwise_append.1 hs
  unfold getL gat
  rw [hf, List.getElem?_append_right (by omega), Nat.sub_self, List.find?_append, gat_none (fun c hc => by have := h1 c hc; omega), Option.none_or]
  cases B with
  | nil => rfl
  | cons d B =>
    simp only [List.getElem?_cons_zero]
    rw [eqK_ec (hB d (by simp)).ad ha, List.find?_cons]
    by_cases hd : ec d = t * 65536 + a
    · have hd' : d.1 * 65536 + d.2.1 = t * 65536 + a := hd
      simp [hd, hd']
    · have hd' : ¬ d.1 * 65536 + d.2.1 = t * 65536 + a := hd
      have p2 := List.pairwise_cons.1 p2
      simp only [hd, hd', decide_false, Bool.false_eq_true, if_false]
      rw [gat_none fun c hc => by
        have := p2.1 c hc
        have := h2 d (by simp)
        omega]
theorem putL_parts {l : List Cel} (hs : Srt l) (hl : AllOk l) {c : Cel} (hc : CelOk c) : ∃ A B B', l = A ++ B ∧ putL l c = A ++ c :: B' ∧ (∀ x ∈ A, ec x < ec c) ∧ (∀ x ∈ B', ec c < ec x) ∧ (B = B' ∨ ∃ d, B = d :: B' ∧ ec d = ec c) := by
  obtain ⟨A, B, rfl, h1, h2⟩ := srt_parts (ec c) hs
  have hA : AllOk A := fun x hx => hl x (by simp [hx])
  have hB : AllOk B := fun x hx => hl x (by simp [hx])
  have hf := findL_parts (t := c.1) hc.ad hA hB h1 h2
  have hh := hitL_parts (t := c.1) hc.ad hA hB h1 h2
  obtain ⟨p1, p2, p3⟩ := List.pairwise_append.1 hs
  cases B with
  | nil =>
    refine ⟨A, [], [], rfl, ?_, h1, by simp, .inl rfl⟩
    unfold putL
    rw [hf, hh]
    simp
  | cons d B =>
    have p2 := List.pairwise_cons.1 p2
    by_cases hd : ec d = c.1 * 65536 + c.2.1
    · have hdc : ec d = ec c := hd
      refine ⟨A, d :: B, B, rfl, ?_, h1, fun x hx => by have := p2.1 x hx; omega, .inr ⟨d, rfl, hdc⟩⟩
      unfold putL
      rw [hf, hh]
      have hdr : List.drop (A.length + 1) (A ++ d :: B) = B := by rw [← List.drop_drop, List.drop_left]; rfl
      simp only [hd, decide_true, if_true]
      rw [hdr, List.take_left]
    · have hdc : ec c < ec d := by
        have := h2 d (by simp)
        have h0 : ec c = c.1 * 65536 + c.2.1 := rfl
        omega
      refine ⟨A, d :: B, d :: B, rfl, ?_, h1, fun x hx => ?_, .inl rfl⟩
      · unfold putL
        rw [hf, hh]
        simp only [hd, decide_false, Bool.false_eq_true, if_false, Nat.add_zero]
        rw [List.drop_left, List.take_left]
      · rcases List.mem_cons.1 hx with rfl | hx
        · exact hdc
        · have := p2.1 x hx; omega
theorem gat_put {l : List Cel} (hs : Srt l) (hl : AllOk l) {c : Cel} (hc : CelOk c) (e : Int) : gat (putL l c) e = if ec c = e then some c else gat l e := by
  obtain ⟨A, B, B', rfl, hp, h1, h2, h3⟩ := putL_parts hs hl hc
  unfold gat
  rw [hp, List.find?_append, List.find?_cons]
  by_cases he : ec c = e
  · rw [gat_none (fun x hx => by have := h1 x hx; omega)]
    simp [he]
  · simp only [he, decide_false, if_false]
    rw [List.find?_append]
    rcases h3 with rfl | ⟨d, rfl, hd⟩
    · rfl
    · rw [List.find?_cons]
      have : ¬ ec d = e := by omega
      simp [this]
theorem getL_put {l : List Cel} (hs : Srt l) (hl : AllOk l) {c : Cel} (hc : CelOk c) {t a : Int} (ha : AdB a) : getL (putL l c) t a = if c.1 = t ∧ c.2.1 = a then (c.2.2, true) else getL l t a := by
  obtain ⟨e1, e2, _⟩ := putL_srt hs hl hc
  rw [getL_gat e1 e2 ha, getL_gat hs hl ha, gat_put hs hl hc]
  have hca := hc.ad
  by_cases h : c.1 = t ∧ c.2.1 = a
  · have : ec c = t * 65536 + a := by unfold ec; rw [h.1, h.2]
    simp [h, this]
  · have : ¬ ec c = t * 65536 + a := by unfold ec; omega
    simp [h, this]
/-- The last version of a chain. -/
def lastV (l : Ch) : Int := (l.getLast?.map (·.2)).getD 0
theorem upL_all {l : Ch} {s : Int} (h : ∀ e ∈ l, e.1 ≤ s) : upL l s = l.length := by
  unfold upL
  refine bsF_eq _ l.length _ _ _ (fun j _ hj => ?_) (by omega) (by omega) (by omega)
  have hget : l.getD j default = l[j] := by rw [List.getD_eq_getElem?_getD, List.getElem?_eq_getElem hj]; rfl
  rw [hget]
  have := h _ (List.getElem_mem hj)
  simp [this, hj]
theorem atL_last {l : Ch} {s : Int} (h : ∀ e ∈ l, e.1 ≤ s) : atL l s = lastV l := by
  unfold atL lastV
  rw [upL_all h]
  cases hl : l.getLast? with
  | none => rw [List.getLast?_eq_none_iff] at hl; subst hl; rfl
  | some x =>
    have hne : l ≠ [] := fun e => by rw [e] at hl; cases hl
    have h0 : ¬ l.length = 0 := fun e => hne (List.eq_nil_of_length_eq_zero e)
    rw [if_neg h0]
    rw [List.getLast?_eq_getElem?] at hl
    rw [List.getD_eq_getElem?_getD, hl]
    rfl
theorem lastV_snoc (l : Ch) (v : Int × Int) : lastV (l ++ [v]) = v.2 := by simp [lastV]
theorem look_one {L : Chs} {q t a : Int} : lookL L [] q (t, a, a + 1) = [atL (chK L (t, a)) q] := by
  unfold lookL
  simp only [show (a + 1 - a).toNat = 1 by omega]
  rfl
end Go.Proofs.Ytpnbncdclgmegaa

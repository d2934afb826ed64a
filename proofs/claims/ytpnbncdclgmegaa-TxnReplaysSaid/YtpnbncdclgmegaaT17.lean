/-
  Buffers in order: what is put is got; what is written once stands once.
-/
import Derived.Test.YtpnbncdclgmegaaT15
import Derived.Test.YtpnbncdclgmegaaC1c
set_option maxRecDepth 100000
set_option maxHeartbeats 1000000
set_option linter.unusedVariables false
set_option linter.unusedSimpArgs false
namespace Go.Proofs.Ytpnbncdclgmegaa
open Go.RowKit

def ec (c : Cel) : Int := c.1 * 65536 + c.2.1
abbrev AdB (a : Int) : Prop := 0 ≤ a ∧ a ≤ 65535
theorem lessK_ec {t a u b : Int} (ha : AdB a) (hb : AdB b) : lessK t a u b = decide (t * 65536 + a < u * 65536 + b) := by
  unfold lessK
  by_cases h1 : t < u
  · have : t * 65536 + a < u * 65536 + b := by omega
    simp [h1, this]
  · by_cases h2 : t = u
    · subst h2
      simp
    · have : ¬ t * 65536 + a < u * 65536 + b := by omega
      simp [h1, h2, this]
theorem eqK_ec {t a u b : Int} (ha : AdB a) (hb : AdB b) : (t == u && a == b) = decide (t * 65536 + a = u * 65536 + b) := by
  by_cases h1 : t = u
  · subst h1
    by_cases h2 : a = b
    · subst h2; simp
    · have : ¬ t * 65536 + a = t * 65536 + b := by omega
      simp [h2]
  · have : ¬ t * 65536 + a = u * 65536 + b := by omega
    simp [h1, this]
theorem bsF_eq (p : Nat → Bool) (m : Nat) : ∀ (f lo hi : Nat), (∀ j, lo ≤ j → j < hi → (p j = true ↔ j < m)) → lo ≤ m → m ≤ hi → hi - lo ≤ f → bsF p f lo hi = m
  | 0, lo, hi, h, h1, h2, h3 => by unfold bsF; omega
  | f + 1, lo, hi, h, h1, h2, h3 => by
    unfold bsF
    by_cases hlt : lo < hi
    · rw [if_pos hlt]
      have hm := h ((lo + hi) / 2) (by omega) (by omega)
      cases hp : p ((lo + hi) / 2) with
      | true =>
        rw [if_pos rfl]
        have := hm.1 hp
        exact bsF_eq p m f _ _ (fun j h1 h2 => h j (by omega) h2) (by omega) h2 (by omega)
      | false =>
        rw [if_neg (by simp)]
        have : ¬ (lo + hi) / 2 < m := fun hh => by have := hm.2 hh; rw [hp] at this; cases this
        exact bsF_eq p m f _ _ (fun j h1 h2 => h j h1 (by omega)) h1 (by omega) (by omega)
    · rw [if_neg hlt]; omega
/-- All cells are cells by numbers. -/
abbrev AllOk (l : List Cel) : Prop := ∀ c ∈ l, CelOk c
theorem CelOk.ad {c : Cel} (h : CelOk c) : AdB c.2.1 := by have := h.a; constructor <;> omega
abbrev Srt (l : List Cel) : Prop := l.Pairwise fun c d => ec c < ec d
section
variable {t a : Int} (ha : AdB a)
include ha
theorem findL_parts {A B : List Cel} (hA : AllOk A) (hB : AllOk B) (h1 : ∀ c ∈ A, ec c < t * 65536 + a) (h2 : ∀ c ∈ B, t * 65536 + a ≤ ec c) : findL (A ++ B) t a = A.length := by
  unfold findL
  refine bsF_eq _ A.length _ _ _ (fun j _ hj => ?_) (by omega) (by simp) (by omega)
  unfold belK
  have hget : (A ++ B).getD j default = (A ++ B)[j] := by rw [List.getD_eq_getElem?_getD, List.getElem?_eq_getElem hj]; rfl
  rw [hget]
  by_cases hjA : j < A.length
  · rw [List.getElem_append_left hjA]
    have hm := List.getElem_mem hjA
    rw [lessK_ec (hA _ hm).ad ha]
    have := h1 _ hm
    unfold ec at this
    simp [this, hjA]
  · have hjB : j - A.length < B.length := by simp at hj; omega
    rw [List.getElem_append_right (by omega)]
    have hm := List.getElem_mem hjB
    rw [lessK_ec (hB _ hm).ad ha]
    have := h2 _ hm
    unfold ec at this
    have hn : ¬ (B[j - A.length].1 * 65536 + B[j - A.length].2.1 < t * 65536 + a) := by omega
    simp [hn, hjA]
theorem hitL_parts {A B : List Cel} (hA : AllOk A) (hB : AllOk B) (h1 : ∀ c ∈ A, ec c < t * 65536 + a) (h2 : ∀ c ∈ B, t * 65536 + a ≤ ec c) : hitL (A ++ B) t a = match B with | [] => false | d :: _ => decide (ec d = t * 65536 + a) := by
  unfold hitL
  rw [findL_parts ha hA hB h1 h2, List.getElem?_append_right (by omega), Nat.sub_self]
  cases B with
  | nil => rfl
  | cons d B =>
    simp only [List.getElem?_cons_zero]
    rw [eqK_ec (hB d (by simp)).ad ha]
    rfl
end
theorem srt_parts (e : Int) : ∀ {l : List Cel}, Srt l → ∃ A B, l = A ++ B ∧ (∀ c ∈ A, ec c < e) ∧ ∀ c ∈ B, e ≤ ec c
  | [], _ => ⟨[], [], rfl, by simp, by simp⟩
  | c :: l, h => by
    have h := List.pairwise_cons.1 h
    by_cases hc : ec c < e
    · obtain ⟨A, B, rfl, h1, h2⟩ := srt_parts e h.2
      exact ⟨c :: A, B, rfl, fun x hx => by rcases List.mem_cons.1 hx with rfl | hx; exact hc; exact h1 x hx, h2⟩
    · exact ⟨[], c :: l, rfl, by simp, fun x hx => by
        rcases List.mem_cons.1 hx with rfl | hx
        · omega
        · have := h.1 x hx; omega⟩
/-- A cell put into a buffer. -/
theorem putL_srt {l : List Cel} (hs : Srt l) (hl : AllOk l) {c : Cel} (hc : CelOk c) : Srt (putL l c) ∧ AllOk (putL l c) ∧ 0 < (putL l c).length := by
  obtain ⟨A, B, rfl, h1, h2⟩ := srt_parts (ec c) hs
  have hA : AllOk A := fun x hx => hl x (by simp [hx])
  have hB : AllOk B := fun x hx => hl x (by simp [hx])
  have hf := findL_parts (t := c.1) hc.ad hA hB h1 h2
  have hh := hitL_parts (t := c.1) hc.ad hA hB h1 h2
  obtain ⟨p1, p2, p3⟩ := List.pairwise_append.1 hs
  have key : ∀ B', (∀ x ∈ B', x ∈ B) → Srt B' → (∀ x ∈ B', ec c < ec x) → Srt (A ++ c :: B') ∧ AllOk (A ++ c :: B') ∧ 0 < (A ++ c :: B').length := fun B' hsub hs' hgt => by
    refine ⟨List.pairwise_append.2 ⟨p1, List.pairwise_cons.2 ⟨hgt, hs'⟩, fun x hx y hy => ?_⟩, fun x hx => ?_, by rw [List.length_append, List.length_cons]; omega⟩
    · rcases List.mem_cons.1 hy with rfl | hy
      · exact h1 x hx
      · exact p3 x hx y (hsub y hy)
    · rcases List.mem_append.1 hx with hx | hx
      · exact hA x hx
      · rcases List.mem_cons.1 hx with rfl | hx
        · exact hc
        · exact hB x (hsub x hx)
  unfold putL
  rw [hf, hh, List.take_left']
  · cases B with
    | nil =>
      simp only [Bool.false_eq_true, if_false, Nat.add_zero, List.drop_left]
      exact key [] (by simp) .nil (by simp)
    | cons d B =>
      have p2 := List.pairwise_cons.1 p2
      by_cases hd : ec d = c.1 * 65536 + c.2.1
      · simp only [hd, decide_true, if_true]
        have hdr : List.drop (A.length + 1) (A ++ d :: B) = B := by rw [← List.drop_drop, List.drop_left]; rfl
        rw [hdr]
        refine key B (by simp +contextual) p2.2 fun x hx => ?_
        have := p2.1 x hx
        have : ec c = ec d := by rw [hd]; rfl
        omega
      · simp only [hd, decide_false, Bool.false_eq_true, if_false, Nat.add_zero, List.drop_left]
        have hdc : ec c < ec d := by
          have := h2 d (by simp)
          have h0 : ec c = c.1 * 65536 + c.2.1 := rfl
          omega
        refine key (d :: B) (by simp) (List.pairwise_cons.2 p2) fun x hx => ?_
        rcases List.mem_cons.1 hx with rfl | hx
        · exact hdc
        · have := p2.1 x hx; omega
  · rfl
theorem cellsG_srt (ks : List Int) : ∀ n : Nat, n ≤ ks.length → Srt (cellsG ks n) ∧ AllOk (cellsG ks n) ∧ (0 < n → 0 < (cellsG ks n).length)
  | 0, _ => ⟨by simp [cellsG], by simp [cellsG], by omega⟩
  | n + 1, h => by
    obtain ⟨h1, h2, _⟩ := cellsG_srt ks n (by omega)
    rw [cellsG_succ (by omega)]
    obtain ⟨e1, e2, e3⟩ := putL_srt h1 h2 (cellG_ok ks[n])
    exact ⟨e1, e2, fun _ => e3⟩
/-- What is there is found. -/
theorem srt_find {l : List Cel} (hs : Srt l) (hl : AllOk l) {c : Cel} (hc : c ∈ l) : ∃ A B, l = A ++ c :: B ∧ findL l c.1 c.2.1 = A.length ∧ (∀ x ∈ B, ec c < ec x) ∧ (∀ x ∈ A, ec x < ec c) := by
  obtain ⟨A, B, rfl, h1, h2⟩ := srt_parts (ec c) hs
  have hA : AllOk A := fun x hx => hl x (by simp [hx])
  have hB : AllOk B := fun x hx => hl x (by simp [hx])
  have hf := findL_parts (t := c.1) (hl c hc).ad hA hB h1 h2
  obtain ⟨p1, p2, p3⟩ := List.pairwise_append.1 hs
  have hcB : c ∈ B := by
    rcases List.mem_append.1 hc with h | h
    · have := h1 c h; omega
    · exact h
  cases B with
  | nil => cases hcB
  | cons d B =>
    have p2 := List.pairwise_cons.1 p2
    have hd : c = d := by
      rcases List.mem_cons.1 hcB with h | h
      · exact h
      · have := p2.1 c h
        have := h2 d (by simp)
        omega
    subst hd
    exact ⟨A, B, rfl, hf, p2.1, h1⟩
theorem getL_mem {l : List Cel} (hs : Srt l) (hl : AllOk l) {c : Cel} (hc : c ∈ l) : getL l c.1 c.2.1 = (c.2.2, true) := by
  obtain ⟨A, B, rfl, hf, _⟩ := srt_find hs hl hc
  unfold getL
  rw [hf]
  simp
theorem restL_mem {l : List Cel} (hs : Srt l) (hl : AllOk l) {c : Cel} (hc : c ∈ l) : restL l (c.1, c.2.1, c.2.1 + 1) = [] := by
  obtain ⟨A, B, rfl, hf, hgt, _⟩ := srt_find hs hl hc
  unfold restL
  simp only [hf]
  have hlen : (A ++ c :: B).length - A.length = B.length + 1 := by simp
  have h1 : (A ++ c :: B)[A.length]? = some c := by simp
  rw [hlen, restF, h1]
  simp only [beq_self_eq_true, Bool.true_and]
  rw [if_pos (decide_eq_true (by omega)), if_neg (by omega), List.nil_append]
  cases B with
  | nil => simp [restF]
  | cons d B =>
    have h2 : (A ++ c :: d :: B)[A.length + 1]? = some d := by rw [List.getElem?_append_right (by omega)]; simp
    rw [List.length_cons, restF, h2]
    simp only
    have hd := hgt d (by simp)
    have had := (hl d (by simp)).ad
    have hac := (hl c (by simp)).ad
    have hn : (d.1 == c.1 && decide (d.2.1 < c.2.1 + 1)) = false := by
      by_cases h : d.1 = c.1
      · unfold ec at hd
        have : ¬ d.2.1 < c.2.1 + 1 := by omega
        simp [this]
      · simp [h]
    rw [hn]
    simp
theorem srt_right {l : List Cel} (hs : Srt l) (hl : AllOk l) : rightL l = true := by
  induction l with
  | nil => rfl
  | cons c l ih =>
    have hs := List.pairwise_cons.1 hs
    have ih := ih hs.2 fun x hx => hl x (by simp [hx])
    cases l with
    | nil => rfl
    | cons d l =>
      rw [rightL_two, ih, lessK_ec (hl c (by simp)).ad (hl d (by simp)).ad]
      have := hs.1 d (by simp)
      unfold ec at this
      simp [this]
theorem srt_may {l : List Cel} (hs : Srt l) (hl : AllOk l) (h0 : 0 < l.length) : mayL l = true := by
  unfold mayL
  rw [srt_right hs hl]
  have : (l.any fun c => !cellR c) = false := by
    rw [List.any_eq_false]
    intro c hc
    simp [(hl c hc).r]
  simp [this, h0]
theorem puts_srt {l : List Cel} (hs : Srt l) (hl : AllOk l) : ∀ i, i ≤ l.length → putsL [] (l.take i) = l.take i
  | 0, _ => by simp [putsL]
  | i + 1, h => by
    rw [putsL_succ (by omega), puts_srt hs hl i (by omega)]
    have hm := List.getElem_mem (show i < l.length by omega)
    have hA : AllOk (l.take i) := fun x hx => hl x (List.mem_of_mem_take hx)
    have hlt : ∀ x ∈ l.take i, ec x < ec l[i] := by
      have := hs
      rw [← List.take_append_drop i l] at this
      obtain ⟨_, _, p3⟩ := List.pairwise_append.1 this
      intro x hx
      have hd := List.drop_eq_getElem_cons (show i < l.length by omega)
      exact p3 x hx _ (by rw [hd]; exact List.mem_cons_self)
    have hf := findL_parts (t := l[i].1) (hl _ hm).ad hA (B := []) (by simp) hlt (by simp)
    have hh := hitL_parts (t := l[i].1) (hl _ hm).ad hA (B := []) (by simp) hlt (by simp)
    rw [List.append_nil] at hf hh
    unfold putL
    rw [hf, hh]
    show List.take (List.take i l).length (List.take i l) ++ l[i] :: List.drop ((List.take i l).length + 0) (List.take i l) = _
    rw [List.take_length, Nat.add_zero, List.drop_length, List.take_append_getElem]
theorem key_ne {c d : Cel} (h : ec c < ec d) : keyC c ≠ keyC d := fun e => by
  simp only [keyC, Prod.mk.injEq] at e
  obtain ⟨e1, e2⟩ := e
  unfold ec at h
  omega
theorem once_srt : ∀ {l : List Cel} {ks : List Key}, Srt l → AllOk l → (∀ c ∈ l, keyC c ∉ ks) → onceF ks l = true
  | [], ks, _, _, _ => rfl
  | c :: l, ks, hs, hl, hk => by
    have hs := List.pairwise_cons.1 hs
    unfold onceF
    have h1 : ks.contains (keyC c) = false := by simpa using hk c (by simp)
    rw [h1, (hl c (by simp)).r, once_srt hs.2 (fun x hx => hl x (by simp [hx])) fun x hx => ?_]
    · rfl
    · intro hm
      rcases List.mem_append.1 hm with hm | hm
      · exact hk x (by simp [hx]) hm
      · simp at hm
        exact key_ne (hs.1 x hx) hm.symm
theorem adds_srt (q : Int) : ∀ {l : List Cel} {L : Chs}, Srt l → (∀ c ∈ l, ∀ e ∈ L, e.1 ≠ keyC c) → addsK L q l = L ++ l.map fun c => (keyC c, [(q, c.2.2)])
  | [], L, _, _ => by simp [addsK]
  | c :: l, L, hs, hL => by
    have hs := List.pairwise_cons.1 hs
    have hk : addK L (keyC c) (q, c.2.2) = L ++ [(keyC c, [(q, c.2.2)])] := by
      have : idxK L (keyC c) = L.length := by
        unfold idxK
        rw [List.findIdx_eq_length]
        intro x hx
        simpa using hL c (by simp) x hx
      unfold addK
      rw [if_neg (by omega)]
    have : addsK L q (c :: l) = addsK (addK L (keyC c) (q, c.2.2)) q l := rfl
    rw [this, hk, adds_srt q hs.2 fun x hx e he => ?_]
    · simp
    · rcases List.mem_append.1 he with he | he
      · exact hL x (by simp [hx]) e he
      · simp at he
        subst he
        exact key_ne (hs.1 x hx)
theorem chK_srt {q : Int} : ∀ {l : List Cel}, Srt l → ∀ c ∈ l, chK (l.map fun c => (keyC c, [(q, c.2.2)])) (keyC c) = [(q, c.2.2)]
  | [], _, c, hc => by cases hc
  | d :: l, hs, c, hc => by
    have hs := List.pairwise_cons.1 hs
    unfold chK idxK
    rw [List.map_cons, List.findIdx_cons]
    rcases List.mem_cons.1 hc with rfl | hc
    · simp
    · have hne : (keyC d == keyC c) = false := by simpa using key_ne (hs.1 c hc)
      rw [hne]
      have ih := chK_srt (q := q) hs.2 c hc
      unfold chK idxK at ih
      simpa using ih
end Go.Proofs.Ytpnbncdclgmegaa

/-
  Beside their bounds: an open session has a view, and what a view has written stands in order. What is refused changes nothing.
-/
import Derived.Test.YthddlkhfkncgpaaGreatE10
set_option maxRecDepth 100000
set_option maxHeartbeats 2000000
set_option linter.unusedVariables false
set_option linter.unusedSimpArgs false
namespace Go.Proofs.YthddlkhfkncgpaaGreat
open Go.RowKit

def keyN (c : Cel) : Int := c.1 * 65536 + c.2.1
abbrev AdR (a : Int) : Prop := 0 ≤ a ∧ a ≤ 65535
theorem lessK_n {t a u b : Int} (ha : AdR a) (hb : AdR b) : lessK t a u b = decide (t * 65536 + a < u * 65536 + b) := by
  unfold lessK
  by_cases h1 : t < u
  · have : t * 65536 + a < u * 65536 + b := by omega
    simp [h1, this]
  · by_cases h2 : t = u
    · subst h2
      simp
    · have : ¬ t * 65536 + a < u * 65536 + b := by omega
      simp [h1, h2, this]
theorem eqK_n {t a u b : Int} (ha : AdR a) (hb : AdR b) : (t == u && a == b) = decide (t * 65536 + a = u * 65536 + b) := by
  by_cases h1 : t = u
  · subst h1
    by_cases h2 : a = b
    · subst h2; simp
    · have : ¬ t * 65536 + a = t * 65536 + b := by omega
      simp [h2]
  · have : ¬ t * 65536 + a = u * 65536 + b := by omega
    simp [h1, this]
theorem bsF_is (p : Nat → Bool) (m : Nat) : ∀ (f lo hi : Nat), (∀ j, lo ≤ j → j < hi → (p j = true ↔ j < m)) → lo ≤ m → m ≤ hi → hi - lo ≤ f → bsF p f lo hi = m
  | 0, lo, hi, h, h1, h2, h3 => by unfold bsF; omega
  | f + 1, lo, hi, h, h1, h2, h3 => by
    unfold bsF
    by_cases hlt : lo < hi
    · rw [if_pos hlt]
      have hm := h ((lo + hi) / 2) (by omega) (by omega)
      cases hp : p ((lo + hi) / 2) with
      | true =>
        rw [if_pos rfl]
        have := hm.1 hp
        exact bsF_is p m f _ _ (fun j h1 h2 => h j (by omega) h2) (by omega) h2 (by omega)
      | false =>
        rw [if_neg (by simp)]
        have : ¬ (lo + hi) / 2 < m := fun hh => by have := hm.2 hh; rw [hp] at this; cases this
        exact bsF_is p m f _ _ (fun j h1 h2 => h j h1 (by omega)) h1 (by omega) (by omega)
    · rw [if_neg hlt]; omega
abbrev AllR (l : List Cel) : Prop := ∀ c ∈ l, cellR c = true
theorem adR {c : Cel} (h : cellR c = true) : AdR c.2.1 := by simp [cellR, keyR] at h; unfold AdR; omega
abbrev SrtR (l : List Cel) : Prop := l.Pairwise fun c d => keyN c < keyN d
section
variable {t a : Int} (ha : AdR a)
include ha
theorem findR_parts {A B : List Cel} (hA : AllR A) (hB : AllR B) (h1 : ∀ c ∈ A, keyN c < t * 65536 + a) (h2 : ∀ c ∈ B, t * 65536 + a ≤ keyN c) : findL (A ++ B) t a = A.length := by
  unfold findL
  refine bsF_is _ A.length _ _ _ (fun j _ hj => ?_) (by omega) (by simp) (by omega)
  unfold belK
  have hget : (A ++ B).getD j default = (A ++ B)[j] := by rw [List.getD_eq_getElem?_getD, List.getElem?_eq_getElem hj]; rfl
  rw [hget]
  by_cases hjA : j < A.length
  · rw [List.getElem_append_left hjA]
    have hm := List.getElem_mem hjA
    rw [lessK_n (adR (hA _ hm)) ha]
    have := h1 _ hm
    unfold keyN at this
    simp [this, hjA]
  · have hjB : j - A.length < B.length := by simp at hj; omega
    rw [List.getElem_append_right (by omega)]
    have hm := List.getElem_mem hjB
    rw [lessK_n (adR (hB _ hm)) ha]
    have := h2 _ hm
    unfold keyN at this
    have hn : ¬ (B[j - A.length].1 * 65536 + B[j - A.length].2.1 < t * 65536 + a) := by omega
    simp [hn, hjA]
theorem hitR_parts {A B : List Cel} (hA : AllR A) (hB : AllR B) (h1 : ∀ c ∈ A, keyN c < t * 65536 + a) (h2 : ∀ c ∈ B, t * 65536 + a ≤ keyN c) : hitL (A ++ B) t a = match B with | [] => false | d :: _ => decide (keyN d = t * 65536 + a) := by
  unfold hitL
  rw [findR_parts ha hA hB h1 h2, List.getElem?_append_right (by omega), Nat.sub_self]
  cases B with
  | nil => rfl
  | cons d B =>
    simp only [List.getElem?_cons_zero]
    rw [eqK_n (adR (hB d (by simp))) ha]
    rfl
end
theorem srtR_parts (e : Int) : ∀ {l : List Cel}, SrtR l → ∃ A B, l = A ++ B ∧ (∀ c ∈ A, keyN c < e) ∧ ∀ c ∈ B, e ≤ keyN c
  | [], _ => ⟨[], [], rfl, by simp, by simp⟩
  | c :: l, h => by
    have h := List.pairwise_cons.1 h
    by_cases hc : keyN c < e
    · obtain ⟨A, B, rfl, h1, h2⟩ := srtR_parts e h.2
      exact ⟨c :: A, B, rfl, fun x hx => by rcases List.mem_cons.1 hx with rfl | hx; exact hc; exact h1 x hx, h2⟩
    · exact ⟨[], c :: l, rfl, by simp, fun x hx => by
        rcases List.mem_cons.1 hx with rfl | hx
        · omega
        · have := h.1 x hx; omega⟩
/-- A cell put into a buffer. -/
theorem putR_srt {l : List Cel} (hs : SrtR l) (hl : AllR l) {c : Cel} (hc : cellR c = true) : SrtR (putL l c) ∧ AllR (putL l c) ∧ 0 < (putL l c).length := by
  obtain ⟨A, B, rfl, h1, h2⟩ := srtR_parts (keyN c) hs
  have hA : AllR A := fun x hx => hl x (by simp [hx])
  have hB : AllR B := fun x hx => hl x (by simp [hx])
  have hf := findR_parts (t := c.1) (adR hc) hA hB h1 h2
  have hh := hitR_parts (t := c.1) (adR hc) hA hB h1 h2
  obtain ⟨p1, p2, p3⟩ := List.pairwise_append.1 hs
  have key : ∀ B', (∀ x ∈ B', x ∈ B) → SrtR B' → (∀ x ∈ B', keyN c < keyN x) → SrtR (A ++ c :: B') ∧ AllR (A ++ c :: B') ∧ 0 < (A ++ c :: B').length := fun B' hsub hs' hgt => by
    refine ⟨List.pairwise_append.2 ⟨p1, List.pairwise_cons.2 ⟨hgt, hs'⟩, fun x hx y hy => ?_⟩, fun x hx => ?_, by rw [List.length_append, List.length_cons]; omega⟩
    · rcases List.mem_cons.1 hy with rfl | hy
      · exact h1 x hx
      · exact p3 x hx y (hsub y hy)
    · rcases List.mem_append.1 hx with hx | hx
      · exact hA x hx
      · rcases List.mem_cons.1 hx with rfl | hx
        · exact hc
        · exact hB x (hsub x hx)
  unfold putL
  rw [hf, hh, List.take_left']
  · cases B with
    | nil =>
      simp only [Bool.false_eq_true, if_false, Nat.add_zero, List.drop_left]
      exact key [] (by simp) .nil (by simp)
    | cons d B =>
      have p2 := List.pairwise_cons.1 p2
      by_cases hd : keyN d = c.1 * 65536 + c.2.1
      · simp only [hd, decide_true, if_true]
        have hdr : List.drop (A.length + 1) (A ++ d :: B) = B := by rw [← List.drop_drop, List.drop_left]; rfl
        rw [hdr]
        refine key B (by simp +contextual) p2.2 fun x hx => ?_
        have := p2.1 x hx
        have : keyN c = keyN d := by rw [hd]; rfl
        omega
      · simp only [hd, decide_false, Bool.false_eq_true, if_false, Nat.add_zero, List.drop_left]
        have hdc : keyN c < keyN d := by
          have := h2 d (by simp)
          have h0 : keyN c = c.1 * 65536 + c.2.1 := rfl
          omega
        refine key (d :: B) (by simp) (List.pairwise_cons.2 p2) fun x hx => ?_
        rcases List.mem_cons.1 hx with rfl | hx
        · exact hdc
        · have := p2.1 x hx; omega
  · rfl
theorem keyR_ne {c d : Cel} (h : keyN c < keyN d) : keyC c ≠ keyC d := fun e => by
  simp only [keyC, Prod.mk.injEq] at e
  obtain ⟨e1, e2⟩ := e
  unfold keyN at h
  omega
theorem onceR : ∀ {l : List Cel} {ks : List Key}, SrtR l → AllR l → (∀ c ∈ l, keyC c ∉ ks) → onceF ks l = true
  | [], ks, _, _, _ => rfl
  | c :: l, ks, hs, hl, hk => by
    have hs := List.pairwise_cons.1 hs
    unfold onceF
    have h1 : ks.contains (keyC c) = false := by simpa using hk c (by simp)
    rw [h1, hl c (by simp), onceR hs.2 (fun x hx => hl x (by simp [hx])) fun x hx => ?_]
    · rfl
    · intro hm
      rcases List.mem_append.1 hm with hm | hm
      · exact hk x (by simp [hx]) hm
      · simp at hm
        exact keyR_ne (hs.1 x hx) hm.symm
theorem putsR : ∀ {l W : List Cel}, SrtR W → AllR W → AllR l → SrtR (putsL W l) ∧ AllR (putsL W l)
  | [], _, hs, hW, _ => ⟨hs, hW⟩
  | c :: l, W, hs, hW, hl => by
    obtain ⟨h1, h2, _⟩ := putR_srt hs hW (hl c (by simp))
    exact putsR (l := l) (W := putL W c) h1 h2 fun x hx => hl x (by simp [hx])
theorem may_allR {l : List Cel} (h : mayL l = true) : AllR l := by
  intro c hc
  simp only [mayL, Bool.and_eq_true, Bool.not_eq_true', List.any_eq_false] at h
  have := h.1.2 c hc
  simpa using this
/-- What a view has written stands in order. -/
structure Vq (v : Vw) : Prop where
  srt : SrtR v.W
  ok : AllR v.W
abbrev Mq (M : Mo) : Prop := ∀ y ∈ M.es, Vq y.2.2
theorem Mq.get {M : Mo} (h : Mq M) {k : Int} {v : Vw} (hg : M.get k = some v) : Vq v := by
  unfold Mo.get at hg
  obtain ⟨y, h1, rfl⟩ := Option.map_eq_some_iff.1 hg
  exact h y (List.mem_of_getElem? h1)
theorem Mq.set {M : Mo} (h : Mq M) {k : Int} {v : Vw} (hv : Vq v) : Mq (M.set k v) := by
  unfold Mo.set
  split
  · intro y he
    obtain ⟨j, hj⟩ := List.mem_iff_getElem?.1 he
    rw [List.getElem?_modify] at hj
    cases hL : M.es[j]? with
    | none => rw [hL] at hj; simp at hj
    | some x =>
      rw [hL] at hj
      by_cases hi : M.at k = j
      · simp [hi] at hj; subst hj; exact hv
      · simp [hi] at hj; subst hj; exact h x (List.mem_of_getElem? hL)
  · intro y he
    rcases List.mem_append.1 he with he | he
    · exact h y he
    · simp at he; subst he; exact hv
theorem Mq.del {M : Mo} (h : Mq M) {k : Int} : Mq (M.del k) := fun y he => h y (List.mem_of_mem_eraseIdx he)
structure Sq (x : Ss) : Prop where
  m : Mq x.M
  op : ∀ k, (stG x.A k).st = 1 → ∃ v, x.M.get k = some v
/-- A session that was open has ended otherwise than by order; nothing was installed. -/
structure Lost (x y : Ss) (k : Int) : Prop where
  was : (stG x.A k).st = 1
  now : (stG y.A k).st ≠ 1
  r0 : (stG y.A k).re ≠ 0
  r1 : (stG y.A k).re ≠ 1
  s : y.s = x.s
section
variable {x : Ss} {k : Int}
theorem Sq.off (h : Sq x) {st re q : Int} (hst : st ≠ 1) {s : St} : Sq (turnR { x with s := s, M := x.M.del k } k st re q) := by
  refine ⟨h.m.del, fun j hj => ?_⟩
  have hj : (stG (x.A.set k ⟨st, re, 0, q⟩) j).st = 1 := hj
  show ∃ v, (x.M.del k).get j = some v
  rw [stG_set] at hj
  by_cases e : j = k
  · rw [if_pos e] at hj; exact absurd hj hst
  · rw [if_neg e] at hj
    rw [Mo.get_del_ne e]
    exact h.op j hj
theorem Lost.turn {re q : Int} {st : Int} (hw : (stG x.A k).st = 1) (h1 : st ≠ 1) (h2 : re ≠ 0) (h3 : re ≠ 1) {M : Mo} : Lost x (turnR { x with M := M } k st re q) k := by
  have e : stG (turnR { x with M := M } k st re q).A k = ⟨st, re, 0, q⟩ := by
    show stG (x.A.set k ⟨st, re, 0, q⟩) k = _
    rw [stG_set, if_pos rfl]
  exact ⟨hw, by rw [e]; exact h1, by rw [e]; exact h2, by rw [e]; exact h3, rfl⟩
theorem Sq.begin (h : Sq x) : Sq (beginR x k).2 ∧ ((beginR x k).1 = 0 ∨ (beginR x k).2 = x) := by
  unfold beginR
  split
  · exact ⟨h, .inr rfl⟩
  · unfold begR
    split
    · exact ⟨h, .inr rfl⟩
    · split
      · exact ⟨h, .inr rfl⟩
      · refine ⟨⟨h.m.set ⟨.nil, by simp⟩, fun j hj => ?_⟩, .inl rfl⟩
        have hj : (stG (x.A.set k ⟨1, 0, 0, x.s.last⟩) j).st = 1 := hj
        show ∃ v, (x.M.set k ⟨x.s.last, [], []⟩).get j = some v
        by_cases e : j = k
        · subst e; exact ⟨_, Mo.get_set_eq⟩
        · rw [Mo.get_set_ne e]
          rw [stG_set, if_neg e] at hj
          exact h.op j hj
theorem Sq.abort (h : Sq x) : Sq (sabR x k).2 ∧ ((sabR x k).1 = 0 ∨ (sabR x k).2 = x) := by
  unfold sabR
  split
  · exact ⟨h, .inr rfl⟩
  · exact ⟨h.off (by omega), .inl rfl⟩
theorem Sq.commit (h : Sq x) : Sq (scomR x k).2 ∧ ((scomR x k).1 = 0 ∨ (scomR x k).2 = x ∨ Lost x (scomR x k).2 k) := by
  unfold scomR
  split
  · exact ⟨h, .inr (.inl rfl)⟩
  · rename_i hs
    have hs : (stG x.A k).st = 1 := by simpa using hs
    obtain ⟨v, hg⟩ := h.op k hs
    have hv := h.m.get hg
    unfold comR
    rw [hg]
    simp only
    by_cases h0 : v.W.length = 0
    · rw [if_pos h0]
      exact ⟨h.off (by omega), .inl rfl⟩
    rw [if_neg h0]
    by_cases hc : (clashS x.s.L v.q v.R).isSome = true
    · rw [if_pos hc]
      exact ⟨h.off (by omega), .inr (.inr (Lost.turn hs (by omega) (by simp [whyN]) (by simp [whyN])))⟩
    rw [if_neg hc]
    have hon : onceL v.W = true := by
      unfold onceL
      rw [onceR hv.srt hv.ok (by simp)]
      simp
      omega
    refine ⟨h.off (by omega), ?_⟩
    unfold instR
    rw [hon, if_neg (by simp)]
    by_cases h1 : x.s.last = 18446744073709551615
    · rw [if_pos h1]
      exact .inr (.inr (Lost.turn hs (by omega) (by simp [whyN]) (by simp [whyN])))
    rw [if_neg h1]
    by_cases h2 : x.s.most - x.s.n < v.W.length
    · rw [if_pos h2]
      exact .inr (.inr (Lost.turn hs (by omega) (by simp [whyN]) (by simp [whyN])))
    · rw [if_neg h2]
      exact .inl rfl
theorem Sq.read (h : Sq x) {sp : Spn} (hsp : spnR sp = true) : Sq (sreadR x k sp).2.2 ∧
    ((sreadR x k sp).2.1 = 0 ∧ (sreadR x k sp).2.2.A = x.A ∧ (sreadR x k sp).2.2.s = x.s ∧ ((stG x.A k).st ≠ 1 → (sreadR x k sp).2.2 = x) ∨ (stG x.A k).st = 2 ∧ (sreadR x k sp).2.2 = x ∨ (sreadR x k sp).2.1 ≠ 0 ∧ Lost x (sreadR x k sp).2.2 k) := by
  unfold sreadR
  rw [hsp, if_neg (by simp)]
  by_cases h1 : (stG x.A k).st = 1
  · rw [if_pos h1]
    obtain ⟨v, hg⟩ := h.op k h1
    have hv := h.m.get hg
    unfold readR
    rw [hsp, if_neg (by simp), hg]
    simp only
    unfold vrdR
    split
    · simp only [keepR]
      exact ⟨h.off (by omega), .inr (.inr ⟨by simp, Lost.turn h1 (by omega) (by omega) (by omega)⟩)⟩
    · simp only [keepR]
      refine ⟨⟨h.m.set ⟨hv.srt, hv.ok⟩, fun j hj => ?_⟩, .inl ⟨by trivial, rfl, rfl, fun h => absurd h1 h⟩⟩
      show ∃ v, (x.M.set k _).get j = some v
      by_cases e : j = k
      · subst e; exact ⟨_, Mo.get_set_eq⟩
      · rw [Mo.get_set_ne e]
        exact h.op j hj
  · rw [if_neg h1]
    by_cases h2 : (stG x.A k).st = 2
    · rw [if_pos h2]
      exact ⟨h, .inr (.inl ⟨h2, rfl⟩)⟩
    · rw [if_neg h2]
      exact ⟨h, .inl ⟨rfl, rfl, rfl, fun _ => rfl⟩⟩
theorem Sq.write (h : Sq x) {l : List Cel} : Sq (swriteR x k l).2 ∧
    ((swriteR x k l).1 = 0 ∧ (swriteR x k l).2.A = x.A ∧ ((stG x.A k).st = 1 → (swriteR x k l).2.s = x.s) ∨ (swriteR x k l).1 ≠ 0 ∧ ((swriteR x k l).2 = x ∧ ((stG x.A k).st ≠ 1 ∨ mayL l = false) ∨ Lost x (swriteR x k l).2 k)) := by
  unfold swriteR
  by_cases h1 : (stG x.A k).st = 1
  · rw [if_pos h1]
    obtain ⟨v, hg⟩ := h.op k h1
    have hv := h.m.get hg
    unfold writeR
    cases hm : mayL l with
    | false =>
      rw [if_pos rfl]
      exact ⟨h, .inr ⟨by simp, .inl ⟨rfl, .inr rfl⟩⟩⟩
    | true =>
      rw [if_neg (by simp), hg]
      simp only
      unfold vwrR
      split
      · simp only [keepR]
        exact ⟨h.off (by omega), .inr ⟨by simp, .inr (Lost.turn h1 (by omega) (by omega) (by omega))⟩⟩
      · simp only [keepR]
        obtain ⟨p1, p2⟩ := putsR hv.srt hv.ok (may_allR hm)
        refine ⟨⟨h.m.set ⟨p1, p2⟩, fun j hj => ?_⟩, .inl ⟨by trivial, rfl, fun _ => rfl⟩⟩
        show ∃ v, (x.M.set k _).get j = some v
        by_cases e : j = k
        · subst e; exact ⟨_, Mo.get_set_eq⟩
        · rw [Mo.get_set_ne e]
          exact h.op j hj
  · rw [if_neg h1]
    by_cases h2 : (stG x.A k).st = 2
    · rw [if_pos h2]
      exact ⟨h, .inr ⟨by simp, .inl ⟨rfl, .inl h1⟩⟩⟩
    · rw [if_neg h2]
      refine ⟨⟨h.m, h.op⟩, ?_⟩
      unfold instR
      split
      · exact .inr ⟨by simp, .inl ⟨rfl, .inl h1⟩⟩
      · split
        · exact .inr ⟨by simp, .inl ⟨rfl, .inl h1⟩⟩
        · split
          · exact .inr ⟨by simp, .inl ⟨rfl, .inl h1⟩⟩
          · exact .inl ⟨rfl, rfl, fun h => absurd h h1⟩
theorem echo_exc (a : Ask) : (echoT a).exc = 0 := by
  unfold echoT
  repeat' split
  all_goals rfl
/-- What an exception leaves: the same, or a session that has ended otherwise than by order. -/
def Refd (x y : Ss) (k : Int) (t : Tell) : Prop := t.exc = 0 ∨ y = x ∨ t.exc = 4 ∧ Lost x y k
theorem Sq.ctl (h : Sq x) {w : Int} {a : Ask} : Sq (ctlR x w k a).2 ∧ Refd x (ctlR x w k a).2 k (ctlR x w k a).1 := by
  have hb := h.begin (k := k)
  have hc := h.commit (k := k)
  have ha := h.abort (k := k)
  unfold ctlR Refd
  generalize hv : (orderR a w).1 = v
  by_cases c1 : a.fn = 3
  · rw [if_pos c1]; exact ⟨h, .inr (.inl rfl)⟩
  rw [if_neg c1]
  by_cases c2 : (orderR a w).2 = false
  · rw [if_pos c2]; exact ⟨h, .inr (.inl rfl)⟩
  rw [if_neg c2]
  by_cases c3 : ¬ (v = 1 ∨ v = 2 ∨ v = 3)
  · rw [if_pos c3]; exact ⟨h, .inr (.inl rfl)⟩
  rw [if_neg c3]
  have hcmd : Sq (cmdR x k v).2 ∧ ((cmdR x k v).1 = 0 ∨ (cmdR x k v).2 = x ∨ v ≠ 1 ∧ Lost x (cmdR x k v).2 k) := by
    unfold cmdR
    by_cases e1 : v = 1
    · rw [if_pos e1]; exact ⟨hb.1, hb.2.elim .inl fun h => .inr (.inl h)⟩
    rw [if_neg e1]
    by_cases e2 : v = 2
    · rw [if_pos e2]; exact ⟨hc.1, hc.2.elim .inl fun h => .inr (h.elim .inl fun h => .inr ⟨e1, h⟩)⟩
    rw [if_neg e2]; exact ⟨ha.1, ha.2.elim .inl fun h => .inr (.inl h)⟩
  obtain ⟨hq, hr⟩ := hcmd
  by_cases e0 : (cmdR x k v).1 = 0
  · rw [if_pos e0]; exact ⟨hq, .inl (echo_exc a)⟩
  rw [if_neg e0]
  rcases hr with hr | hr | ⟨hv1, hr⟩
  · exact absurd hr e0
  · split
    · exact ⟨hq, .inr (.inl hr)⟩
    · exact ⟨hq, .inr (.inl hr)⟩
  · rw [if_neg (fun hh => hv1 hh.2)]
    exact ⟨hq, .inr (.inr ⟨rfl, hr⟩)⟩
theorem Lost.of {y z : Ss} (h : Lost y z k) (hA : y.A = x.A) (hs : y.s = x.s) : Lost x z k := ⟨by rw [← hA]; exact h.was, h.now, h.r0, h.r1, by rw [h.s, hs]⟩
theorem Sq.dataE (h : Sq x) {a : Ask} {rd : List Spn} (hrd : ∀ s ∈ rd, spnR s = true) (hst : (stG x.A k).st ≠ 2) : Sq (dataE x k a rd).2 ∧ ((dataE x k a rd).1.exc = 0 ∨ (dataE x k a rd).1.exc = 4 ∧ Lost x (dataE x k a rd).2 k) := by
  cases rd with
  | nil => exact ⟨h, .inl (echo_exc a)⟩
  | cons r l =>
    obtain ⟨hq, hr⟩ := h.read (k := k) (hrd r (by simp))
    show Sq (if (sreadR x k r).2.1 = 0 then (toldT a.fn (sreadR x k r).1, (sreadR x k r).2.2) else (failT a.fn 4, (sreadR x k r).2.2)).2 ∧ _
    unfold Go.Proofs.YthddlkhfkncgpaaGreat.dataE
    simp only
    by_cases e0 : (sreadR x k r).2.1 = 0
    · rw [if_pos e0]
      refine ⟨hq, .inl ?_⟩
      unfold toldT
      split <;> rfl
    · rw [if_neg e0]
      rcases hr with hr | hr | hr
      · exact absurd hr.1 e0
      · exact absurd hr.1 hst
      · exact ⟨hq, .inr ⟨rfl, hr.2⟩⟩
theorem Sq.dataW (h : Sq x) {a : Ask} {was : Int} {rd wr : List Spn} (hrd : ∀ s ∈ rd, spnR s = true) (hst : (stG x.A k).st ≠ 2) : Sq (dataW x k a was rd wr).2 ∧
    ((dataW x k a was rd wr).1.exc = 0 ∨ (dataW x k a was rd wr).2 = x ∧ ((stG x.A k).st ≠ 1 ∨ mayL (cellsT a was) = false) ∨ (dataW x k a was rd wr).1.exc = 4 ∧ Lost x (dataW x k a was rd wr).2 k) := by
  cases wr with
  | nil =>
    obtain ⟨hq, hr⟩ := h.dataE (k := k) (a := a) hrd hst
    exact ⟨hq, hr.elim .inl fun h => .inr (.inr h)⟩
  | cons w l =>
    obtain ⟨hq, hr⟩ := h.write (k := k) (l := cellsT a was)
    unfold Go.Proofs.YthddlkhfkncgpaaGreat.dataW
    simp only
    by_cases e0 : (swriteR x k (cellsT a was)).1 = 0
    · rw [if_pos e0]
      by_cases h1 : (stG x.A k).st = 1
      · rcases hr with ⟨_, hA, hs⟩ | ⟨hx, hr⟩
        · obtain ⟨hq2, hr2⟩ := hq.dataE (k := k) (a := a) hrd (by rw [hA]; exact hst)
          exact ⟨hq2, hr2.elim .inl fun h2 => .inr (.inr ⟨h2.1, h2.2.of hA (hs h1)⟩)⟩
        · exact absurd e0 hx
      · rcases hr with ⟨_, hA, hs⟩ | ⟨hx, hr⟩
        · obtain ⟨hq2, hr2⟩ := hq.dataE (k := k) (a := a) hrd (by rw [hA]; exact hst)
          exact ⟨hq2, hr2.elim .inl fun h2 => absurd (by rw [← hA]; exact h2.2.was) h1⟩
        · exact absurd e0 hx
    · rw [if_neg e0]
      rcases hr with hr | ⟨_, hr | hr⟩
      · exact absurd hr.1 e0
      · exact ⟨hq, .inr (.inl hr)⟩
      · exact ⟨hq, .inr (.inr ⟨rfl, hr⟩)⟩
theorem right_at {a : Ask} (h : a.right = true) (hf : a.fn = 22) : 0 ≤ a.at_ ∧ a.at_ ≤ 65535 := by
  obtain ⟨fn, at_, n, vl, an, og, bs, ws, ra, rn, cd, ob⟩ := a
  simp only at hf
  subst hf
  simp [Ask.right, Ask.same, Ask.only, Ask.rest, known, countsB, kMost, placeB] at h
  simp only
  omega
theorem may22 {a : Ask} (h : a.right = true) (hf : a.fn = 22) {was : Int} : mayL (cellsT a was) = true := by
  have ha := right_at h hf
  have e : cellsT a was = [(2, a.at_, maskE was a.and_ a.or_)] := by
    unfold cellsT
    rw [if_pos h]
    simp [hf, wsC, layL, kTab]
  rw [e]
  simp [mayL, cellR, keyR, rightL]
  omega
theorem Sq.data (h : Sq x) {a : Ask} (hr : a.right = true) (hsp : ∀ s ∈ (spans a).1 ++ (spans a).2, spnR s = true) (hst : (stG x.A k).st ≠ 2) : Sq (dataR x k a (spans a).1 (spans a).2).2 ∧ Refd x (dataR x k a (spans a).1 (spans a).2).2 k (dataR x k a (spans a).1 (spans a).2).1 := by
  have hrd : ∀ s ∈ (spans a).1, spnR s = true := fun s hs => hsp s (by simp [hs])
  unfold dataR Refd
  by_cases h22 : a.fn = 22
  · rw [if_pos h22]
    have e2 : spans a = ([], [((kTab a.fn).1, a.at_, a.at_ + 1)]) := by
      unfold spans
      rw [hr, if_neg (by simp), if_neg (by omega), if_neg (by omega), if_pos (by omega)]
    have ha := right_at hr h22
    have hsp : spnR ((kTab a.fn).1, a.at_, a.at_ + 1) = true := hsp _ (by rw [e2]; simp)
    rw [e2]
    simp only
    obtain ⟨hq, hx⟩ := h.read (k := k) hsp
    by_cases e0 : (sreadR x k ((kTab a.fn).1, a.at_, a.at_ + 1)).2.1 = 0
    · rw [if_pos e0]
      rcases hx with ⟨_, hA, hs, hx⟩ | hx | hx
      · obtain ⟨hq2, hr2⟩ := hq.dataW (k := k) (a := a) (was := (sreadR x k ((kTab a.fn).1, a.at_, a.at_ + 1)).1.getD 0 0) (rd := []) (wr := [((kTab a.fn).1, a.at_, a.at_ + 1)]) (by simp) (by rw [hA]; exact hst)
        refine ⟨hq2, ?_⟩
        rcases hr2 with hr2 | ⟨hr2, hr3⟩ | hr2
        · exact .inl hr2
        · rw [hA, may22 hr h22] at hr3
          exact .inr (.inl (hr2.trans (hx (hr3.elim id fun h => by simp at h))))
        · exact .inr (.inr ⟨hr2.1, hr2.2.of hA hs⟩)
      · exact absurd hx.1 hst
      · exact absurd e0 hx.1
    · rw [if_neg e0]
      rcases hx with hx | hx | hx
      · exact absurd hx.1 e0
      · exact absurd hx.1 hst
      · exact ⟨hq, .inr (.inr ⟨rfl, hx.2⟩)⟩
  · rw [if_neg h22]
    obtain ⟨hq2, hr2⟩ := h.dataW (k := k) (a := a) (was := 0) (wr := (spans a).2) hrd hst
    exact ⟨hq2, hr2.elim .inl fun h => .inr (h.elim (fun h => .inl h.1) .inr)⟩
theorem Sq.do (h : Sq x) {c : Cf} {a : Ask} : Sq (doR c x k a).2 ∧ Refd x (doR c x k a).2 k (doR c x k a).1 := by
  unfold doR
  by_cases c1 : a.right = false
  · rw [if_pos c1]; exact ⟨h, .inr (.inl rfl)⟩
  rw [if_neg c1]
  have c1 : a.right = true := by simpa using c1
  by_cases c2 : a.fn = 43
  · rw [if_pos c2]; exact ⟨h, .inr (.inl rfl)⟩
  rw [if_neg c2]
  split
  · exact ⟨h, .inr (.inl rfl)⟩
  rename_i hw
  have hsp : ∀ s ∈ (spans a).1 ++ (spans a).2, spnR s = true := fun s hs => by
    cases he : spnR s with
    | true => rfl
    | false => exact absurd (List.any_eq_true.2 ⟨s, hs, by simp [whereS, he]⟩) hw
  split
  · exact h.ctl
  split
  · exact ⟨h, .inr (.inl rfl)⟩
  split
  · exact ⟨h, .inr (.inl rfl)⟩
  · rename_i hst
    exact h.data c1 hsp (by simpa using hst)
theorem ssC_q (c : Cf) : Sq (ssC c) := ⟨by intro y hy; simp [ssC] at hy, fun k hk => by simp [ssC, stG, Ao.get] at hk⟩
end
end Go.Proofs.YthddlkhfkncgpaaGreat

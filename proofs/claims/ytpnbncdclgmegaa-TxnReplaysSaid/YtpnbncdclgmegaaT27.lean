/-
  Serial replay: the engine, and what was committed, deed by deed.
-/
import Derived.Test.YtpnbncdclgmegaaT26
import Derived.Test.YtpnbncdclgmegaaT23
set_option maxRecDepth 100000
set_option maxHeartbeats 1000000
set_option linter.unusedVariables false
set_option linter.unusedSimpArgs false
namespace Go.Proofs.Ytpnbncdclgmegaa
open Go.RowKit

theorem Mo.none_iff {M : Mo} {k : Int} : M.get k = none ↔ ∀ e ∈ M.es, e.2.1 ≠ k := by
  constructor
  · intro h e he hk
    have hlt : M.at k < M.es.length := List.findIdx_lt_length_of_exists ⟨e, he, by simpa using hk⟩
    unfold Mo.get at h
    rw [List.getElem?_eq_getElem hlt] at h
    cases h
  · intro h
    obtain ⟨ck, es⟩ := M
    exact get_noneM h
abbrev MoNd (M : Mo) : Prop := (M.es.map (·.2.1)).Nodup
theorem MoNd.set {M : Mo} (h : MoNd M) {k : Int} {v : Vw} : MoNd (M.set k v) := by
  unfold Mo.set
  split
  · have e : ∀ (l : List (Nat × Int × Vw)) (i : Nat), (l.modify i fun e => (e.1, e.2.1, v)).map (·.2.1) = l.map (·.2.1) := by
      intro l
      induction l with
      | nil => intro i; simp
      | cons x l ih => intro i; cases i with
        | zero => simp
        | succ i => simp [ih]
    show ((M.es.modify (M.at k) fun e => (e.1, e.2.1, v)).map (·.2.1)).Nodup
    rw [e]
    exact h
  · rename_i hn
    show ((M.es ++ [(M.ck, k, v)]).map (·.2.1)).Nodup
    rw [List.map_append]
    refine List.nodup_append.2 ⟨h, by simp, fun a ha b hb => ?_⟩
    have hb : b = k := by simpa using hb
    rw [hb]
    obtain ⟨e, he, rfl⟩ := List.mem_map.1 ha
    have hg : M.get k = none := by
      unfold Mo.get
      rw [List.getElem?_eq_none (by omega)]
      rfl
    exact Mo.none_iff.1 hg e he
theorem MoNd.del {M : Mo} (h : MoNd M) {k : Int} : MoNd (M.del k) := h.sublist ((List.eraseIdx_sublist _ _).map _)
theorem Mo.get_del {M : Mo} (h : MoNd M) {k : Int} : (M.del k).get k = none := by
  refine Mo.none_iff.2 fun e he hk => ?_
  unfold Mo.del at he
  obtain ⟨j, hj, hne, rfl⟩ := List.mem_eraseIdx_iff_getElem.1 he
  have hlt : M.at k < M.es.length := List.findIdx_lt_length_of_exists ⟨_, List.getElem_mem hj, by simpa using hk⟩
  have hkk : M.es[M.at k].2.1 = k := by
    have := List.findIdx_getElem (w := hlt)
    exact (by simpa using this : M.es[List.findIdx (fun e => e.2.1 == k) M.es].2.1 = k)
  have := (List.getElem_inj (xs := M.es.map (·.2.1)) (i := j) (j := M.at k) (h₀ := by simpa using hj) (h₁ := by simpa using hlt) h).1 (by simp [hk, hkk])
  exact hne this
/-- The engine's transactions, what each did, and what was committed. -/
structure RI (i : Nat) (s : St) (M : Mo) (cur : Int → List Act) (did : List Deed) : Prop where
  last : 0 ≤ s.last ∧ s.last ≤ i
  n : 0 ≤ s.n ∧ s.n ≤ 80 * i
  most : s.most = 10000
  ln : s.L.length ≤ 80 * i
  ch : ChOk (80 * i) s.L
  vr : ∀ k, ChS s.last (chK s.L k)
  nd : MoNd M
  op : ∀ c v, M.get c = some v → OI s.L s.last v (cur c)
  al : ∀ c, (cur c).length ≤ i
  dl : did.length ≤ i
  da : ∀ d ∈ did, d.acts.length ≤ i
  di : ∀ d ∈ did, DI s.L s.last d
  d2 : ∀ m : Int, 1 ≤ m → m ≤ s.last → ∃ (j : Nat) (d : Deed), did[j]? = some d ∧ d.w = true ∧ d.q = m
  d3 : ∀ (j j' : Nat) (d d' : Deed), did[j]? = some d → did[j']? = some d' → d.w = true → d'.w = true → d.q = d'.q → j = j'
def upd (cur : Int → List Act) (c : Int) (l : List Act) : Int → List Act := fun x => if x = c then l else cur x
theorem ChOk.mono {m m' : Nat} {L : Chs} (h : ChOk m L) (hm : m ≤ m') : ChOk m' L := fun e he => by have := h e he; omega
theorem RI.start : RI 0 ⟨0, 0, 10000, []⟩ ⟨0, []⟩ (fun _ => []) [] := by
  refine ⟨⟨by simp, by simp⟩, ⟨by simp, by simp⟩, rfl, by simp, fun e he => by simp at he, fun k => ⟨by simp [chK_nil], by simp [chK_nil]⟩, by simp [MoNd], fun c v h => ?_, by simp, by simp, by simp, by simp, fun m h1 h2 => ?_, fun j j' d d' h => by simp at h⟩
  · rw [get_noneM (by simp)] at h; cases h
  · simp at h2; omega
theorem RI.mono {i : Nat} {s : St} {M : Mo} {cur : Int → List Act} {did : List Deed} (h : RI i s M cur did) : RI (i + 1) s M cur did :=
  ⟨⟨h.last.1, by have := h.last.2; omega⟩, ⟨h.n.1, by have := h.n.2; omega⟩, h.most, by have := h.ln; omega, h.ch.mono (by omega), h.vr, h.nd, h.op, fun c => by have := h.al c; omega, by have := h.dl; omega, fun d hd => by have := h.da d hd; omega, h.di, h.d2, h.d3⟩
theorem RI.go {i : Nat} {s : St} {M : Mo} {cur : Int → List Act} {did : List Deed} (h : RI i s M cur did) (hi : i ≤ 80) : StGo s :=
  ⟨by have := h.ln; omega, fun e he => by have := h.ch e he; omega, ⟨h.last.1, by have := h.last.2; omega⟩, ⟨h.n.1, by have := h.n.2; omega⟩, by rw [h.most]; simp⟩
theorem RI.vw {i : Nat} {s : St} {M : Mo} {cur : Int → List Act} {did : List Deed} (h : RI i s M cur did) (hi : i ≤ 80) {c : Int} : ∀ v, M.get c = some v → VwOk v := fun v hv => by
  have ho := h.op c v hv
  have := h.al c
  refine ⟨by have := ho.lR; omega, by have := ho.lW; omega, ho.rs, fun x hx => ?_⟩
  have := (ho.ok x hx).ad
  exact ⟨by omega, by omega⟩
/-- Another view of one owner. -/
theorem RI.set {i : Nat} {s : St} {M : Mo} {cur : Int → List Act} {did : List Deed} (h : RI i s M cur did) {c : Int} {v : Vw} {l : List Act} (hl : l.length ≤ i + 1) (ho : OI s.L s.last v l) : RI (i + 1) s (M.set c v) (upd cur c l) did := by
  have hm := h.mono
  refine ⟨hm.last, hm.n, hm.most, hm.ln, hm.ch, hm.vr, hm.nd.set, fun x u hu => ?_, fun x => ?_, hm.dl, hm.da, hm.di, hm.d2, hm.d3⟩
  · by_cases hx : x = c
    · subst hx
      rw [Mo.get_set_eq] at hu
      cases hu
      simp only [upd, if_true]
      exact ho
    · rw [Mo.get_set_ne hx] at hu
      simp only [upd, if_neg hx]
      exact h.op x u hu
  · by_cases hx : x = c
    · simp only [upd, if_pos hx]; exact hl
    · simp only [upd, if_neg hx]; exact hm.al x
theorem RI.begin {i : Nat} {s : St} {M : Mo} {cur : Int → List Act} {did : List Deed} (h : RI i s M cur did) {c : Int} : RI (i + 1) s (M.set c ⟨s.last, [], []⟩) (upd cur c []) did := h.set (by simp) (.start h.last.1)
theorem RI.read {i : Nat} {s : St} {M : Mo} {cur : Int → List Act} {did : List Deed} (h : RI i s M cur did) {c : Int} {v : Vw} (hv : M.get c = some v) {t a : Int} (ha : AdB a) :
    RI (i + 1) s (M.set c ⟨v.q, addsS v.R (restL v.W (t, a, a + 1)), v.W⟩) (upd cur c (cur c ++ [(false, (t, a, wordAt s.L v.W v.q t a))])) did := h.set (by have := h.al c; simp; omega) ((h.op c v hv).read ha)
theorem RI.write {i : Nat} {s : St} {M : Mo} {cur : Int → List Act} {did : List Deed} (h : RI i s M cur did) {c : Int} {v : Vw} (hv : M.get c = some v) {x : Cel} (hx : CelOk x) :
    RI (i + 1) s (M.set c ⟨v.q, v.R, putL v.W x⟩) (upd cur c (cur c ++ [(true, x)])) did := h.set (by have := h.al c; simp; omega) ((h.op c v hv).write hx)
theorem RI.del {i : Nat} {s : St} {M : Mo} {cur : Int → List Act} {did : List Deed} (h : RI i s M cur did) {c : Int} : RI (i + 1) s (M.del c) cur did := by
  have hm := h.mono
  refine ⟨hm.last, hm.n, hm.most, hm.ln, hm.ch, hm.vr, hm.nd.del, fun x u hu => ?_, hm.al, hm.dl, hm.da, hm.di, hm.d2, hm.d3⟩
  by_cases hx : x = c
  · subst hx
    rw [Mo.get_del h.nd] at hu
    cases hu
  · rw [Mo.get_del_ne hx] at hu
    exact h.op x u hu
theorem RI.reader {i : Nat} {s : St} {M : Mo} {cur : Int → List Act} {did : List Deed} (h : RI i s M cur did) {c : Int} {v : Vw} (hv : M.get c = some v) (hW : v.W = []) : RI (i + 1) s (M.del c) cur (did ++ [⟨v.q, false, cur c⟩]) := by
  have hm := h.del (c := c)
  refine ⟨hm.last, hm.n, hm.most, hm.ln, hm.ch, hm.vr, hm.nd, hm.op, hm.al, by have := h.dl; simp; omega, fun d hd => ?_, fun d hd => ?_, fun m h1 h2 => ?_, fun j j' d d' hj hj' hw hw' hq => ?_⟩
  · rcases List.mem_append.1 hd with hd | hd
    · exact hm.da d hd
    · simp at hd; subst hd; exact hm.al c
  · rcases List.mem_append.1 hd with hd | hd
    · exact hm.di d hd
    · simp at hd; subst hd; exact (h.op c v hv).reader hW
  · obtain ⟨j, d, e1, e2⟩ := h.d2 m h1 h2
    exact ⟨j, d, by rw [List.getElem?_append_left (List.getElem?_eq_some_iff.1 e1).1]; exact e1, e2⟩
  · rcases take_snoc hj with ⟨_, e1, _⟩ | ⟨_, rfl, _⟩
    · rcases take_snoc hj' with ⟨_, f1, _⟩ | ⟨_, rfl, _⟩
      · exact h.d3 j j' d d' e1 f1 hw hw' hq
      · cases hw'
    · cases hw
theorem addsK_len' {q : Int} (L : Chs) (W : List Cel) : (addsK L q W).length ≤ L.length + W.length := addsK_len W L
theorem RI.writer {i : Nat} {s : St} {M : Mo} {cur : Int → List Act} {did : List Deed} (h : RI i s M cur did) (hi : i ≤ 80) {c : Int} {v : Vw} (hv : M.get c = some v) (hc : clashS s.L v.q v.R = none) :
    RI (i + 1) ⟨s.last + 1, s.n + v.W.length, s.most, addsK s.L (s.last + 1) v.W⟩ (M.del c) cur (did ++ [⟨s.last + 1, true, cur c⟩]) := by
  have ho := h.op c v hv
  have hlW : v.W.length ≤ 80 := by have := ho.lW; have := h.al c; omega
  have hold : ∀ m, m ≤ s.last → ∀ k, atF (addsK s.L (s.last + 1) v.W) m k = atF s.L m k := fun m hm k => adds_old h.vr ho.srt ho.ok hm k
  have hle : s.last ≤ s.last + 1 := by omega
  have hdel := h.del (c := c)
  refine ⟨⟨by have := h.last.1; simp only; omega, by have := h.last.2; simp only; omega⟩, ⟨by have := h.n.1; simp only; omega, by have := h.n.2; simp only; omega⟩, h.most, ?_, (addsK_ok (q := s.last + 1) v.W h.ch).mono (by omega), adds_ver h.last.1 h.vr ho.srt ho.ok, hdel.nd, fun x u hu => (hdel.op x u hu).move hle hold, hdel.al, by have := h.dl; simp; omega, fun d hd => ?_, fun d hd => ?_, fun m h1 h2 => ?_, fun j j' d d' hj hj' hw hw' hq => ?_⟩
  · have := addsK_len' (q := s.last + 1) s.L v.W; have := h.ln; simp only; omega
  · rcases List.mem_append.1 hd with hd | hd
    · exact hdel.da d hd
    · simp at hd; subst hd; exact hdel.al c
  · rcases List.mem_append.1 hd with hd | hd
    · exact (h.di d hd).move hle hold
    · simp at hd; subst hd; exact ho.writer h.vr h.last.1 hc
  · by_cases hm : m = s.last + 1
    · exact ⟨did.length, ⟨s.last + 1, true, cur c⟩, by simp, rfl, hm.symm⟩
    · obtain ⟨j, d, e1, e2⟩ := h.d2 m h1 (by simp only at h2; omega)
      exact ⟨j, d, by rw [List.getElem?_append_left (List.getElem?_eq_some_iff.1 e1).1]; exact e1, e2⟩
  · have old : ∀ (j : Nat) d, did[j]? = some d → d.q ≤ s.last := fun j d hj => (h.di d (List.mem_of_getElem? hj)).q0.2
    rcases take_snoc hj with ⟨_, e1, _⟩ | ⟨e0, rfl, _⟩
    · rcases take_snoc hj' with ⟨_, f1, _⟩ | ⟨_, rfl, _⟩
      · exact h.d3 j j' d d' e1 f1 hw hw' hq
      · have := old j d e1; simp only at hq; omega
    · rcases take_snoc hj' with ⟨_, f1, _⟩ | ⟨f0, rfl, _⟩
      · have := old j' d' f1; simp only at hq; omega
      · omega
theorem RI.good {i : Nat} {s : St} {M : Mo} {cur : Int → List Act} {did : List Deed} (h : RI i s M cur did) (hi : i ≤ 80) : RG s.L s.last did :=
  ⟨h.last.1, h.vr, by have := h.dl; omega, fun d hd => by have := h.da d hd; omega, h.di, h.d2, h.d3⟩
/-- What the engine answers. -/
abbrev rE9 : En := ⟨9, 100, 100⟩
theorem look_w {L : Chs} {W : List Cel} {q t a : Int} : lookL L W q (t, a, a + 1) = [wordAt L W q t a] := by
  unfold lookL
  simp only [show (a + 1 - a).toNat = 1 by omega]
  rfl
theorem RI.rdR {i : Nat} {s : St} {M : Mo} {cur : Int → List Act} {did : List Deed} (h : RI i s M cur did) (hi : i ≤ 80) {c : Int} {v : Vw} (hv : M.get c = some v) {t a : Int} (ht : 0 ≤ t ∧ t < 4) (ha : AdB a) :
    readR rE9 s M c (t, a, a + 1) = ([wordAt s.L v.W v.q t a], 0, M.set c ⟨v.q, addsS v.R (restL v.W (t, a, a + 1)), v.W⟩) := by
  have ho := h.op c v hv
  have hal := h.al c
  have hsp : spnR (t, a, a + 1) = true := by simp [spnR]; omega
  have hlen : (addsS v.R (restL v.W (t, a, a + 1))).length ≤ 81 := by
    have := addsS_len (restL v.W (t, a, a + 1)) v.R
    have h2 : (restL v.W (t, a, a + 1)).length ≤ 1 := by rw [rest_hit ho.srt ho.ok ha]; split <;> simp
    have := ho.lR
    omega
  have e : vrdR s.L v.q v.R v.W (t, a, a + 1) 100 = (addsS v.R (restL v.W (t, a, a + 1)), [wordAt s.L v.W v.q t a], 0) := by
    unfold vrdR
    rw [if_neg (by omega), look_w]
  unfold readR
  rw [hsp, hv]
  simp only [Bool.true_eq_false, if_false, e, keepR, if_true]
theorem RI.wrR {i : Nat} {s : St} {M : Mo} {cur : Int → List Act} {did : List Deed} (h : RI i s M cur did) (hi : i ≤ 80) {c : Int} {v : Vw} (hv : M.get c = some v) {x : Cel} (hx : CelOk x) :
    writeR rE9 M c [x] = (0, M.set c ⟨v.q, v.R, putL v.W x⟩) := by
  have ho := h.op c v hv
  have hal := h.al c
  have hm : mayL [x] = true := by simp [mayL, rightL, hx.r]
  have e : vwrR v.W [x] 100 = (putL v.W x, 0) := by
    have hp : putsL v.W [x] = putL v.W x := rfl
    have := putL_len v.W x
    have := ho.lW
    unfold vwrR
    rw [hp, if_neg (by omega)]
  unfold writeR
  rw [hm, hv]
  simp only [Bool.true_eq_false, if_false, e, keepR, if_true]
theorem RI.coR {i : Nat} {s : St} {M : Mo} {cur : Int → List Act} {did : List Deed} (h : RI i s M cur did) (hi : i ≤ 80) {c : Int} {v : Vw} (hv : M.get c = some v) :
    comR s M c = if v.W = [] then ((v.q, 0, s, M.del c) : Int × Int × St × Mo) else match clashS s.L v.q v.R with
      | some _ => (0, 7, s, M.del c)
      | none => (s.last + 1, 0, ⟨s.last + 1, s.n + v.W.length, s.most, addsK s.L (s.last + 1) v.W⟩, M.del c) := by
  have ho := h.op c v hv
  have hal := h.al c
  unfold comR
  rw [hv]
  simp only
  by_cases hW : v.W = []
  · simp [hW]
  · have h0 : ¬ v.W.length = 0 := fun e => hW (List.eq_nil_of_length_eq_zero e)
    rw [if_neg h0, if_neg hW]
    cases hc : clashS s.L v.q v.R with
    | some k => rfl
    | none =>
      have hon : onceL v.W = true := by
        unfold onceL
        rw [once_srt ho.srt ho.ok (by simp)]
        simp
        omega
      have hlW := ho.lW
      have hla := h.last
      have hnn := h.n
      have hi2 : instR s v.W = (s.last + 1, 0, ⟨s.last + 1, s.n + v.W.length, s.most, addsK s.L (s.last + 1) v.W⟩) := by
        unfold instR
        rw [hon]
        simp only [Bool.true_eq_false, if_false]
        rw [if_neg (by omega), if_neg (by rw [h.most]; omega)]
      simp only [Option.isSome_none, Bool.false_eq_true, if_false, hi2]
end Go.Proofs.Ytpnbncdclgmegaa

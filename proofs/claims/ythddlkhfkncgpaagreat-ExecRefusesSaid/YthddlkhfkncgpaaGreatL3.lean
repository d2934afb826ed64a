/-
  A tick: the program's book (in whatever order its owners come), the document's.
-/
import Derived.Test.YthddlkhfkncgpaaGreatL2
set_option maxRecDepth 100000
set_option maxHeartbeats 1000000
set_option linter.unusedVariables false
set_option linter.unusedSimpArgs false
namespace Go.Proofs.YthddlkhfkncgpaaGreat
open Go.RowKit

/-- A book in which no stamp and no owner stands twice. -/
structure Bk.Wf (b : Bk) : Prop where
  st : (b.es.map (·.1)).Nodup
  ow : (b.es.map (·.2.1)).Nodup
  lt : ∀ e ∈ b.es, e.1 < b.ck
  rg : ∀ e ∈ b.es, 1 ≤ e.2.2 ∧ e.2.2 ≤ 65535
def decE (S : List Nat) (e : Nat × Int × Int) : Nat × Int × Int := if S.contains e.1 then (e.1, e.2.1, e.2.2 - 1) else e
def Bk.dec (b : Bk) (S : List Nat) : Bk := ⟨b.ck, b.es.map (decE S)⟩
def Bk.dels (b : Bk) (ks : List Int) : Bk := ⟨b.ck, b.es.filter fun e => !ks.contains e.2.1⟩
/-- Whose lease runs out. -/
def Bk.out (b : Bk) : List Int := (b.es.filter fun e => decide (e.2.2 ≤ 1)).map (·.2.1)
def Bk.tick (b : Bk) : Bk := ⟨b.ck, (b.es.filter fun e => !decide (e.2.2 ≤ 1)).map fun e => (e.1, e.2.1, e.2.2 - 1)⟩
theorem nodup_of {α β : Type} {f : α → β} : ∀ {l : List α}, (l.map f).Nodup → ∀ {x y : α}, x ∈ l → y ∈ l → f x = f y → x = y
  | [], _, _, _, hx, _, _ => by simp at hx
  | a :: l, h, x, y, hx, hy, e => by
    rw [List.map_cons, List.nodup_cons] at h
    rcases List.mem_cons.1 hx with rfl | hx' <;> rcases List.mem_cons.1 hy with rfl | hy'
    · rfl
    · exact absurd (e ▸ List.mem_map_of_mem hy') h.1
    · exact absurd (e ▸ List.mem_map_of_mem hx') h.1
    · exact nodup_of h.2 hx' hy' e
theorem idx_of {es : List (Nat × Int × Int)} (hn : (es.map (·.2.1)).Nodup) {e : Nat × Int × Int} (he : e ∈ es) : ∃ i, ∃ h : i < es.length, es[i] = e ∧ es.findIdx (fun x => x.2.1 == e.2.1) = i := by
  have hx : ∃ x ∈ es, (fun x : Nat × Int × Int => x.2.1 == e.2.1) x = true := ⟨e, he, by simp⟩
  have hlt := List.findIdx_lt_length_of_exists hx
  refine ⟨_, hlt, ?_, rfl⟩
  have := List.findIdx_getElem (w := hlt)
  exact nodup_of hn (List.getElem_mem _) he (by simpa using this)
theorem dec_set {b : Bk} (hw : b.Wf) {S : List Nat} {e : Nat × Int × Int} (he : e ∈ b.es) (hs : S.contains e.1 = false) : (b.dec S).set e.2.1 (e.2.2 - 1) = b.dec (S ++ [e.1]) := by
  obtain ⟨i, hi, hie, hf⟩ := idx_of hw.ow he
  have hat : (b.dec S).at e.2.1 = i := by
    unfold Bk.at Bk.dec
    rw [List.findIdx_map]
    rw [← hf]
    congr 1
    funext x
    simp only [Function.comp, decE]
    split <;> rfl
  unfold Bk.set
  rw [hat]
  have hl : (b.dec S).es.length = b.es.length := by simp [Bk.dec]
  rw [hl, if_pos hi]
  simp only [Bk.dec, Bk.mk.injEq, true_and]
  apply List.ext_getElem?
  intro j
  rw [List.getElem?_modify]
  simp only [List.getElem?_map]
  cases hj : b.es[j]? with
  | none => simp
  | some x =>
    by_cases hij : i = j
    · subst hij
      rw [List.getElem?_eq_getElem hi, hie] at hj
      cases hj
      simp only [if_true, Option.map_some, Option.map_eq_map, decE]
      rw [hs]
      simp
    · have hne : x.1 ≠ e.1 := fun h => by
        obtain ⟨hjl, rfl⟩ := List.getElem?_eq_some_iff.1 hj
        have := nodup_of hw.st (List.getElem_mem hjl) he h
        rw [← hie] at this
        have h1 : (b.es.map (·.2.1))[j]'(by simpa using hjl) = (b.es.map (·.2.1))[i]'(by simpa using hi) := by simp [this]
        exact hij ((List.getElem_inj hw.ow).1 h1).symm
      simp only [if_neg hij, Option.map_some, Option.map_eq_map, decE]
      simp [List.contains_eq_mem, hne]
theorem out_step {es : List (Nat × Int × Int)} (hn : (es.map (·.1)).Nodup) {S : List Nat} {e : Nat × Int × Int} (he : e ∈ es) (hs : S.contains e.1 = false) (q : Nat × Int × Int → Bool) :
    (es.filter fun x => (S ++ [e.1]).contains x.1 && q x).Perm ((es.filter fun x => S.contains x.1 && q x) ++ (if q e then [e] else [])) := by
  induction es with
  | nil => simp at he
  | cons a es ih =>
    rw [List.map_cons, List.nodup_cons] at hn
    rcases List.mem_cons.1 he with rfl | he'
    · have hr : (es.filter fun x => (S ++ [e.1]).contains x.1 && q x) = es.filter fun x => S.contains x.1 && q x := by
        refine List.filter_congr fun x hx => ?_
        have : x.1 ≠ e.1 := fun h => hn.1 (h ▸ List.mem_map_of_mem hx)
        simp [List.contains_eq_mem, this]
      rw [List.filter_cons, List.filter_cons, hr, hs]
      have h1 : (S ++ [e.1]).contains e.1 = true := by simp
      rw [h1]
      cases q e with
      | true => simpa using (List.perm_append_singleton e _).symm
      | false => simp
    · have hne : a.1 ≠ e.1 := fun h => hn.1 (h ▸ List.mem_map_of_mem he')
      have h1 : (S ++ [e.1]).contains a.1 = S.contains a.1 := by simp [List.contains_eq_mem, hne]
      rw [List.filter_cons, List.filter_cons, h1]
      cases (S.contains a.1 && q a) with
      | true => simpa using ih hn.2 he'
      | false => simpa using ih hn.2 he'
theorem del_filter : ∀ {es : List (Nat × Int × Int)} {k : Int}, (es.map (·.2.1)).Nodup → es.eraseIdx (es.findIdx fun e => e.2.1 == k) = es.filter fun e => e.2.1 != k
  | [], _, _ => rfl
  | a :: es, k, h => by
    rw [List.map_cons, List.nodup_cons] at h
    rw [List.findIdx_cons, List.filter_cons]
    by_cases hk : a.2.1 = k
    · subst hk
      have hr : (es.filter fun e => e.2.1 != a.2.1) = es := List.filter_eq_self.2 fun x hx => by
        have : x.2.1 ≠ a.2.1 := fun e => h.1 (e ▸ List.mem_map_of_mem hx)
        simpa using this
      simp [hr]
    · have h1 : (a.2.1 == k) = false := by simpa using hk
      have h2 : (a.2.1 != k) = true := by simpa using hk
      simp only [h1, h2, cond_false, if_true, List.eraseIdx_cons_succ, del_filter h.2]
theorem dels_step {b : Bk} (ho : (b.es.map (·.2.1)).Nodup) (ks : List Int) (k : Int) : (b.dels ks).del k = b.dels (ks ++ [k]) := by
  unfold Bk.del Bk.at Bk.dels
  have hn : ((b.es.filter fun e => !ks.contains e.2.1).map (·.2.1)).Nodup := List.Nodup.sublist (List.Sublist.map _ List.filter_sublist) ho
  simp only
  rw [del_filter hn, List.filter_filter]
  congr 1
  refine List.filter_congr fun x _ => ?_
  by_cases h : x.2.1 = k
  · subst h; simp
  · simp [List.contains_eq_mem, h, bne_iff_ne]
theorem tick_of {b : Bk} (hw : b.Wf) {S : List Nat} (hS : ∀ e ∈ b.es, S.contains e.1 = true) {O : List Int} (hO : O.Perm ((b.es.filter fun e => S.contains e.1 && decide (e.2.2 ≤ 1)).map (·.2.1))) : O.Perm b.out ∧ (b.dec S).dels O = b.tick := by
  have hf : (b.es.filter fun e => S.contains e.1 && decide (e.2.2 ≤ 1)) = b.es.filter fun e => decide (e.2.2 ≤ 1) := List.filter_congr fun x hx => by rw [hS x hx]; simp
  rw [hf] at hO
  refine ⟨hO, ?_⟩
  unfold Bk.dels Bk.dec Bk.tick
  simp only [Bk.mk.injEq, true_and]
  have hd : b.es.map (decE S) = b.es.map fun e => (e.1, e.2.1, e.2.2 - 1) := List.map_congr_left fun x hx => by unfold decE; rw [hS x hx]; simp
  rw [hd, List.filter_map]
  congr 1
  refine List.filter_congr fun x hx => ?_
  simp only [Function.comp]
  congr 1
  rw [List.contains_eq_mem]
  have : x.2.1 ∈ O ↔ x.2.2 ≤ 1 := by
    rw [hO.mem_iff]
    simp only [List.mem_map, List.mem_filter, decide_eq_true_eq]
    constructor
    · rintro ⟨y, ⟨y1, y2⟩, y3⟩
      have := nodup_of hw.ow y1 hx y3
      rw [← this]; exact y2
    · intro h
      exact ⟨x, ⟨hx, h⟩, rfl⟩
  simp [this]
theorem insR_perm (x : Int) : ∀ l : List Int, (insR x l).Perm (x :: l)
  | [] => .refl _
  | y :: r => by
    unfold insR
    split
    · exact ((insR_perm x r).cons y).trans (.swap x y r)
    · exact .refl _
theorem insR_sorted (x : Int) : ∀ {l : List Int}, l.Pairwise (· ≥ ·) → (insR x l).Pairwise (· ≥ ·)
  | [], _ => by simp [insR]
  | y :: r, h => by
    unfold insR
    rw [List.pairwise_cons] at h
    split
    · rename_i hc
      refine List.pairwise_cons.2 ⟨fun z hz => ?_, insR_sorted x h.2⟩
      rcases List.mem_cons.1 ((insR_perm x r).mem_iff.1 hz) with rfl | hz'
      · omega
      · exact h.1 z hz'
    · rename_i hc
      refine List.pairwise_cons.2 ⟨fun z hz => ?_, List.pairwise_cons.2 h⟩
      rcases List.mem_cons.1 hz with rfl | hz'
      · omega
      · have := h.1 z hz'; omega
theorem srt_perm (l : List Int) : (srt l).Perm l := by
  have : ∀ (l r : List Int), (l.foldl (fun r x => insR x r) r).Perm (r ++ l) := by
    intro l
    induction l with
    | nil => intro r; simp
    | cons x l ih =>
      intro r
      refine (ih (insR x r)).trans ?_
      refine ((insR_perm x r).append_right l).trans ?_
      exact List.perm_middle.symm
  exact (List.reverse_perm _).trans (by simpa [srtR] using this l [])
theorem srt_sorted (l : List Int) : (srt l).Pairwise (· ≤ ·) := by
  have : ∀ (l r : List Int), r.Pairwise (· ≥ ·) → (l.foldl (fun r x => insR x r) r).Pairwise (· ≥ ·) := by
    intro l
    induction l with
    | nil => intro r h; exact h
    | cons x l ih => intro r h; exact ih _ (insR_sorted x h)
  exact List.pairwise_reverse.2 (this l [] .nil)
theorem srt_eq {l m : List Int} (h : l.Perm m) (hm : m.Pairwise (· ≤ ·)) : srt l = m :=
  List.Perm.eq_of_pairwise (fun a b _ _ h1 h2 => by omega) (srt_sorted l) hm ((srt_perm l).trans h)
theorem unR {l m : List Int} (h : l.Perm m) : srt l = srt m := srt_eq (h.trans (srt_perm m).symm) (srt_sorted m)
abbrev lN (l : List Int) : V := vD (lI .i64 l)
theorem dec_nil (b : Bk) : b.dec [] = b := by
  unfold Bk.dec
  have : b.es.map (decE []) = b.es := by
    conv => rhs; rw [← List.map_id b.es]
    exact List.map_congr_left fun x _ => rfl
  rw [this]
theorem dec_st (b : Bk) (S : List Nat) : ∀ e ∈ (b.dec S).mp.es, ∃ x ∈ b.es, e = mpE (decE S x) := by
  intro e he
  simp only [Bk.mp, Bk.dec, List.mem_map] at he
  obtain ⟨y, ⟨x, hx, rfl⟩, rfl⟩ := he
  exact ⟨x, hx, rfl⟩
theorem decE_1 (S : List Nat) (x : Nat × Int × Int) : (decE S x).1 = x.1 ∧ (decE S x).2.1 = x.2.1 := by unfold decE; split <;> exact ⟨rfl, rfl⟩
theorem left_dec (b : Bk) (S : List Nat) : ∀ e ∈ (b.dec S).mp.left S, ∃ x ∈ b.es, S.contains x.1 = false ∧ e = mpE x := by
  intro e he
  obtain ⟨h1, h2⟩ := List.mem_filter.1 he
  obtain ⟨x, hx, rfl⟩ := dec_st b S e h1
  have h3 : S.contains x.1 = false := by
    have : (mpE (decE S x)).1 = x.1 := (decE_1 S x).1
    rw [this] at h2
    simpa using h2
  refine ⟨x, hx, h3, ?_⟩
  unfold decE
  rw [h3]
  rfl
theorem find_st : ∀ {es : List (Nat × Int × Int)}, (es.map (·.1)).Nodup → ∀ {x}, x ∈ es → ∀ S, (es.map fun x => mpE (decE S x)).find? (fun e => e.1 == x.1) = some (mpE (decE S x))
  | [], _, _, hx, _ => by simp at hx
  | a :: es, h, x, hx, S => by
    rw [List.map_cons, List.nodup_cons] at h
    rw [List.map_cons, List.find?_cons]
    have h1 : (mpE (decE S a)).1 = a.1 := (decE_1 S a).1
    rw [h1]
    rcases List.mem_cons.1 hx with rfl | hx'
    · simp
    · have : a.1 ≠ x.1 := fun e => h.1 (e ▸ List.mem_map_of_mem hx')
      have : (a.1 == x.1) = false := by simpa using this
      rw [this]
      exact find_st h.2 hx' S
theorem tick_ok {t : Int} {b : Bk} (hw : b.Wf) (hl : b.es.length ≤ 12) : FnOk Tryz.prog 80 [vC (.ptr 0 0)] [bkO t, bkM b] (lN (srt b.out)) [bkO t, bkM b.tick] := by
  refine FnOk.start t80 rfl rfl rfl ?_
  refine Tri.seq (Tri.go [] rfl trivial ?_)
  refine Tri.seq (Tri.go [] rfl trivial ?_)
  refine Tri.mid (fun ρ hl => ∃ (S : List Nat) (O : List Int), (∀ e ∈ b.es, S.contains e.1 = true) ∧ O.Perm ((b.es.filter fun e => S.contains e.1 && decide (e.2.2 ≤ 1)).map (·.2.1)) ∧
    hl = [bkO t, .mp false (b.dec S).mp, .it 1 b.ck S b.ck, oN O] ∧ keepE ρ [0, 3] = some [(0, vC (.ptr 0 0)), (3, vC (.sl 3 0 O.length))]) ?_ ?_
  · refine Tri.seq (Tri.go [] rfl ⟨trivial, trivial⟩ ?_)
    refine Tri.block ?_
    refine Tri.own 3 1 (by omega) rfl ?_
    refine Tri.lp (fun q ρ hl => ∃ (S : List Nat) (O : List Int), q = (b.es.filter fun e => !S.contains e.1).length ∧ O.Perm ((b.es.filter fun e => S.contains e.1 && decide (e.2.2 ≤ 1)).map (·.2.1)) ∧
      hl = [bkO t, .mp false (b.dec S).mp, .it 1 b.ck S b.ck, oN O] ∧ keepE ρ [0, 3, 12] = some [(0, vC (.ptr 0 0)), (3, vC (.sl 3 0 O.length)), (12, vC (.ptr 2 0))]) (b.es.filter fun e => !([] : List Nat).contains e.1).length ⟨[], [], rfl, by simp, ?_, keep_of rfl rfl⟩ ?_
    · rw [dec_nil]
      rfl
    rintro q ρ hl' ⟨S, O, rfl, hO, rfl, hkk⟩
    refine Tri.keep _ hkk ?_
    have hold : ∀ e ∈ (b.dec S).mp.es, e.1 < b.ck := fun e he => by
      obtain ⟨x, hx, rfl⟩ := dec_st b S e he
      have : (mpE (decE S x)).1 = x.1 := (decE_1 S x).1
      rw [this]
      exact hw.lt x hx
    have hOl : O.length ≤ 12 := by
      have := hO.length_eq
      rw [List.length_map] at this
      rw [this]
      exact Nat.le_trans (List.length_filter_le _ _) hl
    refine Tri.seq (Tri.regionN (Rgn.step (OpN.next (m := (b.dec S).mp) rfl rfl rfl hold (Nat.le_refl _)) ?_))
    rintro s (⟨hleft, rfl⟩ | ⟨e, he, rfl⟩)
    · refine Rgn.run [] rfl trivial ?_
      have hS : ∀ e ∈ b.es, S.contains e.1 = true := fun e he => by
        have h1 : mpE (decE S e) ∈ (b.dec S).mp.es := by simp only [Bk.mp, Bk.dec, List.map_map, List.mem_map]; exact ⟨e, he, rfl⟩
        have h2 := List.filter_eq_nil_iff.1 hleft _ h1
        have h3 : (mpE (decE S e)).1 = e.1 := (decE_1 S e).1
        rw [h3] at h2
        simpa using h2
      exact Tri.seq (Tri.tree .nil rfl ⟨S, O, hS, hO, rfl, keep_of rfl (by simp)⟩)
    · obtain ⟨x, hx, hxs, rfl⟩ := left_dec b S e he
      have hset := dec_set hw hx hxs
      have hset' : (b.dec S).mp.set x.2.1 [.int .i64 (x.2.2 - 1)] = (b.dec (S ++ [x.1])).mp := by rw [Bk.set_eq, hset]
      have hrg := hw.rg x hx
      have hfind : (b.dec S).mp.es.find? (fun e => e.1 == x.1) = some (x.1, x.2.1, [.int .i64 x.2.2]) := by
        have := find_st hw.st hx S
        simp only [Bk.mp, Bk.dec, List.map_map]
        refine this.trans ?_
        unfold decE
        rw [hxs]
        rfl
      have hstep := out_step hw.st hx hxs (fun e => decide (e.2.2 ≤ 1))
      have hlt : (b.es.filter fun e => !(S ++ [x.1]).contains e.1).length < (b.es.filter fun e => !S.contains e.1).length := by
        have e1 : (b.es.filter fun e => !(S ++ [x.1]).contains e.1) = (b.es.filter fun e => !S.contains e.1).filter fun e => e.1 != x.1 := by
          rw [List.filter_filter]
          refine List.filter_congr fun y _ => ?_
          by_cases h : y.1 = x.1
          · rw [h]; simp
          · simp [List.contains_eq_mem, h, bne_iff_ne]
        rw [e1]
        refine List.length_filter_lt_length_iff_exists.2 ⟨x, List.mem_filter.2 ⟨hx, by rw [hxs]; rfl⟩, by simp⟩
      refine Rgn.run [] rfl trivial ?_
      refine Tri.seq (Tri.tree .nil rfl ?_)
      refine Tri.block ?_
      refine Tri.seq (Tri.tree (.a (.en x.2.1 [.int .i64 x.2.2]) .nil) rfl ⟨⟨rfl, x.1, by simp [mpE], hfind⟩, ?_⟩)
      by_cases hc : x.2.2 ≤ 1
      · refine Tri.seq (Tri.tree (.a (.b 19 true) .nil) rfl ⟨by simpa using hc, ⟨⟨rfl, by simp⟩, trivial⟩, ⟨.inr rfl, rfl, by simp, by simp, by omega, by omega⟩, ?_⟩)
        refine Tri.let [0, 1, 2, 4] [] [0, 3, 4, 5, 12] rfl trivial ?_
        refine Tri.go [] rfl ⟨by omega, trivial, trivial⟩ ⟨_, hlt, S ++ [x.1], O ++ [x.2.1], rfl, ?_, ?_, keep_of rfl (by simp)⟩
        · refine List.Perm.trans ?_ (hstep.map _).symm
          rw [List.map_append]
          simp only [decide_eq_true hc, if_true, List.map_cons, List.map_nil]
          exact hO.append_right _
        · rw [hset', show oN (O ++ [x.2.1]) = .arr 1 (rI .i64 O ++ rI .i64 [x.2.1]) from by rw [rI_app]]
          rfl
      · refine Tri.seq (Tri.tree (.a (.b 19 false) .nil) rfl ⟨by simpa using hc, ?_⟩)
        refine Tri.let [0, 1, 2, 3] [] [0, 3, 4, 5, 12] rfl trivial ?_
        refine Tri.go [] rfl ⟨by omega, trivial, trivial⟩ ⟨_, hlt, S ++ [x.1], O, rfl, ?_, ?_, keep_of rfl (by simp)⟩
        · refine List.Perm.trans ?_ (hstep.map _).symm
          rw [List.map_append, if_neg (by simpa using hc)]
          simpa using hO
        · rw [hset']
          rfl
  rintro ρ hl' ⟨S, O, hS, hO, rfl, hkk⟩
  refine Tri.keep _ hkk ?_
  obtain ⟨hOp, hdel⟩ := tick_of hw hS hO
  have hOl : O.length ≤ 12 := by
    have := hO.length_eq
    rw [List.length_map] at this
    rw [this]
    exact Nat.le_trans (List.length_filter_le _ _) hl
  have hod : ((b.dec S).es.map (·.2.1)).Nodup := by
    have : (b.dec S).es.map (·.2.1) = b.es.map (·.2.1) := by
      simp only [Bk.dec, List.map_map]
      exact List.map_congr_left fun x _ => (decE_1 S x).2
    rw [this]
    exact hw.ow
  have hd0 : (b.dec S).dels [] = b.dec S := by
    unfold Bk.dels
    rw [List.filter_eq_self.2 (by simp)]
  generalize b.dec S = c at *
  have hso := sort_ok hOl
  refine Tri.let [0, 1, 3] [] [0, 3] rfl trivial ?_
  refine Tri.mid (fun ρ hl => hl = [bkO t, .mp false (c.dels O).mp, oN O] ∧ keepE ρ [0, 3] = some [(0, vC (.ptr 0 0)), (3, vC (.sl 2 0 O.length))]) ?_ ?_
  · refine Tri.seq (Tri.go [] rfl trivial ?_)
    refine Tri.block ?_
    refine Tri.lp (fun q ρ hl => ∃ i, q = O.length - i ∧ i ≤ O.length ∧ hl = [bkO t, .mp false (c.dels (O.take i)).mp, oN O] ∧ keepE ρ [0, 3, 31, 32, 33] = some [(0, vC (.ptr 0 0)), (3, vC (.sl 2 0 O.length)), (31, vC (.sl 2 0 O.length)), (32, vI .i64 O.length), (33, vI .i64 i)]) O.length ⟨0, by omega, by omega, by rw [List.take_zero, hd0], keep_of rfl rfl⟩ ?_
    rintro q ρ hl' ⟨i, rfl, hi, rfl, hkk⟩
    refine Tri.keep _ hkk ?_
    by_cases h : i < O.length
    · have hg : (rI .i64 O)[i]? = some [.int .i64 O[i]] := by simp [rI, h]
      have hts : O.take (i + 1) = O.take i ++ [O[i]] := (List.take_append_getElem h).symm
      have hdl := dels_step hod (O.take i) O[i]
      rw [← hts] at hdl
      generalize O[i] = k at *
      refine Tri.seq (Tri.go [] rfl trivial ?_)
      refine Tri.seq (Tri.tree (.a (.b 34 true) .nil) rfl ⟨decide_eq_true (by omega), ?_⟩)
      refine Tri.seq (Tri.block (Tri.tree (.a (.at [.int .i64 k]) .nil) rfl ⟨⟨by omega, by omega, rfl⟩, by simpa using hg, trivial, ?_⟩))
      refine Tri.go [] rfl ⟨by omega, trivial⟩ (again (O.length - (i + 1)) (by omega) ⟨i + 1, rfl, by omega, ?_, keep_of rfl (by simp)⟩)
      rw [Bk.del_eq, hdl]
    · have : i = O.length := by omega
      subst this
      rw [List.take_length]
      refine Tri.seq (Tri.go [] rfl trivial ?_)
      exact Tri.seq (Tri.tree (.a (.b 34 false) .nil) rfl ⟨decide_eq_false (by omega), rfl, keep_of rfl (by simp)⟩)
  rintro ρ hl' ⟨rfl, hkk⟩
  refine Tri.keep _ hkk ?_
  rw [hdel]
  have hu := unR hOp
  refine Tri.treeR (.o [2] [] hso (.a (.call [0, 1] [2] .u []) .nil)) rfl ?_
  have hsl : (srt O).length = O.length := srt_len O
  refine ⟨trivial, ⟨leP_refl _, trivial⟩, rfl, ⟨by rw [← hsl]; simp, trivial⟩, LeOs.of rfl, ?_⟩
  have h2 : O.length = (srt b.out).length := by rw [← hu, hsl]
  simp [leP, leE, leC, h2, hu]
end Go.Proofs.YthddlkhfkncgpaaGreat

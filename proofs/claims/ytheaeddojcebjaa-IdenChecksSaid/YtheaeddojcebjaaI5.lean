/-
  Objects that may be, by numbers (chapter 7's law).
-/
import Derived.Test.YtheaeddojcebjaaI4
set_option maxRecDepth 100000
set_option maxHeartbeats 1000000
set_option linter.unusedVariables false
set_option linter.unusedSimpArgs false
namespace Go.Proofs.Ytheaeddojcebjaa
open Go.RowKit

theorem bytesOf_size (r : List Int) : (bytesOf r).size = r.length := by simp [bytesOf, ByteArray.size]
/-- 0, 1, 2, and others, rising. -/
structure MadeO (os : List Obj) (id : Int) : Prop where
  ok : ObjsOk os
  top : ∀ o ∈ os, o.1 ≤ id
  hd : ∃ a b c r, os = (0, a) :: (1, b) :: (2, c) :: r
theorem MadeO.add {os : List Obj} {id : Int} (h : MadeO os id) {j : Int} (hj : id < j ∧ j ≤ 255) {s : ByteArray} (hs : s.size ≤ 244) : MadeO (os ++ [(j, s)]) j := by
  obtain ⟨⟨h1, h2, h3⟩, h4, a, b, c, r, rfl⟩ := h
  have h0 := h4 (0, a) (by simp)
  simp only at h0
  refine ⟨⟨?_, ?_, ?_⟩, ?_, a, b, c, r ++ [(j, s)], rfl⟩
  · rw [List.pairwise_append]
    refine ⟨h1, by simp, fun x hx y hy => ?_⟩
    rw [List.mem_singleton.1 hy]
    have := h4 x hx
    simp only
    omega
  · intro o ho
    rcases List.mem_append.1 ho with ho | ho
    · exact h2 o ho
    · rw [List.mem_singleton.1 ho]; simp only; omega
  · intro o ho
    rcases List.mem_append.1 ho with ho | ho
    · exact h3 o ho
    · rw [List.mem_singleton.1 ho]; exact hs
  · intro o ho
    rcases List.mem_append.1 ho with ho | ho
    · have := h4 o ho; omega
    · rw [List.mem_singleton.1 ho]; simp
theorem objects0 : MadeO [(0, ⟨#[98, 117, 115, 98, 97, 114]⟩), (1, ⟨#[]⟩), (2, ⟨#[49]⟩)] 2 := by
  refine ⟨⟨by simp, ?_, ?_⟩, ?_, _, _, _, _, rfl⟩
  all_goals
    intro o ho
    simp only [List.mem_cons, List.not_mem_nil, or_false] at ho
    rcases ho with rfl | rfl | rfl <;> simp [ByteArray.size]
theorem rO_app (l m : List Obj) : oRows l ++ oRows m = oRows (l ++ m) := by simp [oRows]
def txtG (n : Nat) : List Int := (List.range n).map fun k : Nat => ((97 + k % 26 : Nat) : Int)
theorem txtG_len (n : Nat) : (txtG n).length = n := by simp [txtG]
theorem txtG_succ (n : Nat) : txtG (n + 1) = txtG n ++ [((97 + n % 26 : Nat) : Int)] := by simp [txtG, List.range_succ]
abbrev baseO : List Obj := [(0, ⟨#[98, 117, 115, 98, 97, 114]⟩), (1, ⟨#[]⟩), (2, ⟨#[49]⟩)]
def nxtO (k id : Int) : Obj := (id + 1 + k % 12, bytesOf (txtG (dig k 12 245).toNat))
def objF : List Int → Nat → Int → List Obj → List Obj
  | [], _, _, os => os
  | _ :: _, 0, _, os => os
  | k :: r, n + 1, id, os => if 255 < id + 1 + k % 12 then os else objF r n (id + 1 + k % 12) (os ++ [nxtO k id])
theorem objF_zero (r : List Int) (id : Int) (os : List Obj) : objF r 0 id os = os := by cases r <;> rfl
theorem objF_cons (k : Int) (r : List Int) (n : Nat) (id : Int) (os : List Obj) : objF (k :: r) (n + 1) id os = if 255 < id + 1 + k % 12 then os else objF r n (id + 1 + k % 12) (os ++ [nxtO k id]) := rfl
theorem objF_made : ∀ (r : List Int) (n : Nat) (id : Int) (os : List Obj), MadeO os id → id ≤ 255 → ∃ j, MadeO (objF r n id os) j ∧ (objF r n id os).length ≤ os.length + n
  | [], n, id, os, h, _ => ⟨id, h, by simp [objF]⟩
  | k :: r, 0, id, os, h, _ => ⟨id, h, by simp [objF]⟩
  | k :: r, n + 1, id, os, h, hi => by
    rw [objF_cons]
    have h12 := digR k 12 (n := 245) (by omega)
    have hk : 0 ≤ k % 12 ∧ k % 12 < 12 := ⟨Int.emod_nonneg _ (by omega), Int.emod_lt_of_pos _ (by omega)⟩
    split
    · exact ⟨id, h, by omega⟩
    · have h2 : MadeO (os ++ [nxtO k id]) (id + 1 + k % 12) := h.add (j := id + 1 + k % 12) (by omega) (s := bytesOf (txtG (dig k 12 245).toNat)) (by rw [bytesOf_size, txtG_len]; omega)
      obtain ⟨j, h3, h4⟩ := objF_made r n _ _ h2 (by omega)
      rw [List.length_append, List.length_singleton] at h4
      exact ⟨j, h3, by omega⟩
def objsG7 (ks : List Int) : List Obj := match ks with
  | [] => objF [] 40 2 baseO
  | k :: r => (objF (k :: r) 40 2 baseO).set 1 (1, bytesOf (List.replicate (dig k 2940 245).toNat 0))
theorem set1_ok {os : List Obj} {id : Int} (h : MadeO os id) {s : ByteArray} (hs : s.size ≤ 244) : ObjsOk (os.set 1 (1, s)) := by
  obtain ⟨⟨h1, h2, h3⟩, h4, a, b, c, r, rfl⟩ := h
  refine ⟨?_, ?_, ?_⟩
  · simp only [List.set_cons_succ, List.set_cons_zero, List.pairwise_cons] at *
    exact ⟨fun x hx => by
      rcases List.mem_cons.1 hx with rfl | hx
      · simp
      · exact h1.1 x (List.mem_cons_of_mem _ hx), fun x hx => h1.2.1 x hx, h1.2.2⟩
  · intro o ho
    simp only [List.set_cons_succ, List.set_cons_zero, List.mem_cons] at ho
    rcases ho with rfl | rfl | ho
    · simp
    · simp
    · exact h2 o (by simp [ho])
  · intro o ho
    simp only [List.set_cons_succ, List.set_cons_zero, List.mem_cons] at ho
    rcases ho with rfl | rfl | ho
    · exact h3 (0, a) (by simp)
    · exact hs
    · exact h3 o (by simp [ho])
theorem made_len {os : List Obj} {id : Int} (h : MadeO os id) : 3 ≤ os.length := by
  obtain ⟨_, _, a, b, c, r, rfl⟩ := h
  simp
theorem objsG7_ok (ks : List Int) : ObjsOk (objsG7 ks) ∧ 3 ≤ (objsG7 ks).length ∧ (objsG7 ks).length ≤ 43 := by
  obtain ⟨j, h1, h2⟩ := objF_made ks 40 2 baseO objects0 (by omega)
  have h3 := made_len h1
  cases ks with
  | nil => exact ⟨h1.ok, h3, h2⟩
  | cons k r =>
    have := digR k 2940 (n := 245) (by omega)
    refine ⟨set1_ok h1 (by rw [bytesOf_size]; simp; omega), by simpa [objsG7] using h3, by simpa [objsG7] using h2⟩
theorem objects7_ok {ks : List Int} (hk : ∀ x ∈ ks, b64 x) (hm : ks.length ≤ 9223372036854775807) : FnOk Try.prog 21 [vD (lI .i64 ks)] [] (vC (.sl 0 0 (objsG7 ks).length)) [.arr 2 (oRows (objsG7 ks))] := by
  refine FnOk.start t21 rfl rfl rfl ?_
  refine Tri.seq (Tri.go [] rfl trivial ?_)
  refine Tri.mid (fun ρ hl => hl = [.arr 2 (oRows baseO)] ∧ keepE ρ [0, 3] = some [(0, vD (lI .i64 ks)), (3, vC (.sl 0 0 3))]) ?_ ?_
  · exact Tri.tree (.w .nil) rfl ⟨⟨⟨rfl, by simp⟩, ⟨rfl, by simp⟩, ⟨rfl, by simp⟩, trivial⟩, rfl, keep_of rfl rfl⟩
  rintro ρ hl' ⟨rfl, hkk⟩
  refine Tri.keep _ hkk ?_
  refine Tri.seq (Tri.go [] rfl trivial ?_)
  refine Tri.mid (fun ρ hl => hl = [.arr 2 (oRows (objF ks 40 2 baseO))] ∧ keepE ρ [0, 3] = some [(0, vD (lI .i64 ks)), (3, vC (.sl 0 0 (objF ks 40 2 baseO).length))]) ?_ ?_
  · refine Tri.seq (Tri.go [] rfl trivial ?_)
    refine Tri.block ?_
    refine Tri.lp (fun q ρ hl => ∃ i id os, q = 40 - i ∧ i ≤ 40 ∧ i ≤ ks.length ∧ 0 ≤ id ∧ id ≤ 255 ∧ os.length ≤ 3 + i ∧ objF ks 40 2 baseO = objF (ks.drop i) (40 - i) id os ∧ hl = [.arr 2 (oRows os)] ∧ keepE ρ [0, 3, 4, 5] = some [(0, vD (lI .i64 ks)), (3, vC (.sl 0 0 os.length)), (4, vI .i64 id), (5, vI .i64 i)]) 40 ⟨0, 2, baseO, rfl, by omega, by omega, by omega, by omega, by simp, rfl, rfl, keep_of rfl rfl⟩ ?_
    rintro q ρ hl' ⟨i, id, os, rfl, hi, hik, hid0, hid, hos, he, rfl, hkk⟩
    refine Tri.keep _ hkk ?_
    by_cases h : i < ks.length
    · by_cases h40 : i < 40
      · have hgi : (rI .i64 ks)[(i : Int).toNat]? = some [.int .i64 ks[i]] := by rw [rI_get (k := .i64) (show (i : Int).toNat < ks.length by omega)]; simp [List.getD_eq_getElem?_getD, h]
        have hb := hk _ (List.getElem_mem h)
        rw [List.drop_eq_getElem_cons h, show 40 - i = (40 - (i + 1)) + 1 by omega, objF_cons] at he
        generalize ks[i] = k at *
        have hw := within_ok (k := k) (n := 12) hb (by omega)
        have hwr : 0 ≤ k % 12 ∧ k % 12 < 12 := ⟨Int.emod_nonneg _ (by omega), Int.emod_lt_of_pos _ (by omega)⟩
        have hd := digit_ok (k := k) (d := 12) (n := 245) hb (by omega) (by omega)
        have hdr := digR k 12 (n := 245) (by omega)
        refine Tri.seq (Tri.go [.b 16 true, .b 19 true] rfl ⟨decide_eq_true (by omega), decide_eq_true (by omega), trivial⟩ ?_)
        by_cases h255 : 255 < id + 1 + k % 12
        · rw [if_pos h255] at he
          refine Tri.seq (Tri.block (Tri.seq (Tri.tree (.a (.at [.int .i64 k]) (.f [] hw .nil)) rfl ⟨by omega, ⟨by omega, rfl, hgi⟩, trivial, by simp [leVs, leP, leE, leC], by omega, ?_⟩)))
          refine Tri.seq (Tri.tree (.a (.b 31 true) .nil) rfl ⟨decide_eq_true h255, ?_⟩)
          rw [he]
          exact And.intro rfl (keep_of rfl rfl)
        rw [if_neg h255] at he
        refine Tri.seq (Tri.block (Tri.seq (Tri.tree (.a (.at [.int .i64 k]) (.f [] hw .nil)) rfl ⟨by omega, ⟨by omega, rfl, hgi⟩, trivial, by simp [leVs, leP, leE, leC], by omega, ?_⟩)))
        refine Tri.seq (Tri.tree (.a (.b 31 false) .nil) rfl ⟨decide_eq_false h255, ?_⟩)
        obtain ⟨n, hn⟩ := Int.eq_ofNat_of_zero_le hdr.1
        have hnx : nxtO k id = (id + 1 + k % 12, bytesOf (txtG n)) := by rw [nxtO, hn]; rfl
        rw [hn] at hd hdr
        refine Tri.seq (Tri.tree (.a (.at [.int .i64 k]) (.f [] hd .nil)) rfl ⟨⟨by omega, rfl, hgi⟩, trivial, by simp [leVs, leP, leE, leC], by omega, ?_⟩)
        refine Tri.mid (fun ρ hl => hl = [.arr 2 (oRows os), .arr 1 (rI .u8 (txtG n))] ∧ keepE ρ [0, 3, 4, 5, 6] = some [(0, vD (lI .i64 ks)), (3, vC (.sl 0 0 os.length)), (4, vI .i64 (id + 1 + k % 12)), (5, vI .i64 i), (6, vC (.sl 1 0 n))]) ?_ ?_
        · refine Tri.seq (Tri.go [] rfl trivial ?_)
          refine Tri.block ?_
          refine Tri.lp (fun q ρ hl => ∃ j, q = n - j ∧ j ≤ n ∧ hl = [.arr 2 (oRows os), .arr 1 (rI .u8 (txtG j ++ List.replicate (n - j) 0))] ∧ keepE ρ [0, 3, 4, 5, 6, 7] = some [(0, vD (lI .i64 ks)), (3, vC (.sl 0 0 os.length)), (4, vI .i64 (id + 1 + k % 12)), (5, vI .i64 i), (6, vC (.sl 1 0 n)), (7, vI .i64 j)]) n ⟨0, by omega, by omega, ?_, keep_of rfl rfl⟩ ?_
          · simp [rI, txtG]
          rintro q ρ hl' ⟨j, rfl, hj, rfl, hkk⟩
          refine Tri.keep _ hkk ?_
          by_cases hjn : j < n
          · refine Tri.seq (Tri.go [.b 41 true] rfl ⟨decide_eq_true (by omega), trivial⟩ ?_)
            have ht : (j : Int).tmod 26 = ((j % 26 : Nat) : Int) := by rw [Int.tmod_eq_emod_of_nonneg (by omega)]; omega
            have hset : (txtG j ++ List.replicate (n - j) 0).set j ((97 + j % 26 : Nat) : Int) = txtG (j + 1) ++ List.replicate (n - (j + 1)) 0 := by
              rw [List.set_append_right _ _ (by rw [txtG_len]; omega), txtG_len, Nat.sub_self, show n - j = (n - (j + 1)) + 1 by omega, List.replicate_succ, List.set_cons_zero, txtG_succ, List.append_assoc]
              rfl
            have hwr8 : IntKind.u8.wrap (97 + ((j % 26 : Nat) : Int)) = ((97 + j % 26 : Nat) : Int) := by rw [wu8]; omega
            refine Tri.seq (Tri.block (Tri.tree .nil rfl ?_))
            rw [ht, hwr8]
            refine ⟨by omega, by omega, trivial, ⟨by omega, by omega, rfl⟩, ⟨rfl, by simp [txtG_len]; omega, by omega⟩, ?_⟩
            refine Tri.go [] rfl ⟨by omega, trivial⟩ (again (n - (j + 1)) (by omega) ⟨j + 1, rfl, by omega, ?_, keep_of rfl (by simp)⟩)
            simp only [Int.toNat_natCast, Nat.zero_add]
            rw [rI_mod, hset]
          · have : j = n := by omega
            subst this
            refine Tri.go [.b 41 false] rfl ⟨decide_eq_false (by omega), trivial⟩ (And.intro ?_ (keep_of rfl rfl))
            simp
        rintro ρ hl' ⟨rfl, hkk⟩
        refine Tri.keep _ hkk ?_
        refine Tri.tree (.a (.tx (txtG n)) .nil) rfl ⟨⟨.inr rfl, by simp [txtG_len], by rw [List.drop_zero, List.take_of_length_le (by simp [txtG_len])]; rfl⟩, ⟨⟨rfl, by simp⟩, trivial⟩, ⟨.inr rfl, rfl, by simp, by simp, by omega, by omega⟩, ?_⟩
        refine Tri.let [2] [] [0, 3, 4, 5] rfl trivial ?_
        refine Tri.go [] rfl ⟨by omega, trivial⟩ (again (40 - (i + 1)) (by omega) ⟨i + 1, id + 1 + k % 12, os ++ [nxtO k id], rfl, by omega, by omega, by omega, by omega, by simp; omega, he, ?_, keep_of rfl (by simp)⟩)
        rw [hnx]
        simp [oRows]
      · have : i = 40 := by omega
        subst this
        rw [objF_zero] at he
        rw [he]
        exact Tri.seq (Tri.tree (.a (.b 16 true) (.a (.b 19 false) .nil)) rfl ⟨decide_eq_true (by omega), rfl, rfl, keep_of rfl rfl⟩)
    · rw [List.drop_eq_nil_of_le (by omega)] at he
      have he : objF ks 40 2 baseO = os := he
      rw [he]
      exact Tri.seq (Tri.tree (.a (.b 16 false) (.a (.b 19 false) .nil)) rfl ⟨decide_eq_false (by omega), rfl, rfl, keep_of rfl rfl⟩)
  rintro ρ hl' ⟨rfl, hkk⟩
  refine Tri.keep _ hkk ?_
  obtain ⟨j, h1, h2⟩ := objF_made ks 40 2 baseO objects0 (by omega)
  cases ks with
  | nil =>
    refine Tri.treeR (.a (.b 60 false) (.a (.call [0] [] .u []) .nil)) rfl ⟨rfl, trivial, .refl _, leP_refl _⟩
  | cons k r =>
    have hb := hk k (by simp)
    have hd := digit_ok (k := k) (d := 2940) (n := 245) hb (by omega) (by omega)
    have hdr := digR k 2940 (n := 245) (by omega)
    obtain ⟨n, hn⟩ := Int.eq_ofNat_of_zero_le hdr.1
    have eG : objsG7 (k :: r) = (objF (k :: r) 40 2 baseO).set 1 (1, bytesOf (List.replicate n 0)) := by rw [objsG7, hn]; rfl
    rw [eG]
    rw [hn] at hd hdr
    have h3 := made_len h1
    obtain ⟨_, _, a, b, c, os, e⟩ := h1
    rw [e] at h3 h2 ⊢
    clear e eG
    refine Tri.treeR (.a (.b 60 true) (.a (.at [.int .i64 k]) (.f [] hd (.a (.tx (List.replicate n 0)) (.a (.call [0] [] .u []) .nil))))) rfl ⟨decide_eq_true (by simp), ⟨⟨by omega, by simp⟩, rfl, rfl⟩, trivial, by simp [leVs, leP, leE, leC], ⟨by omega, by omega, by omega, by omega⟩, ⟨.inr rfl, by simp, by simp⟩, ⟨by omega, by simp; omega, rfl⟩, ⟨rfl, by simp [oRows], by omega⟩, trivial, .of ?_, by simp [leP, leE, leC]⟩
    simp [oRows, putAt]
end Go.Proofs.Ytheaeddojcebjaa

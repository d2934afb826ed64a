/-
  Replies held against each other; the few laws' guards.
-/
import Derived.Test.YtheaeddojcebjaaM42
import Derived.Test.YtheaeddojcebjaaM16
set_option maxRecDepth 100000
set_option maxHeartbeats 4000000
set_option linter.unusedVariables false
set_option linter.unusedSimpArgs false
namespace Go.Proofs.Ytheaeddojcebjaa
open Go.RowKit

theorem sameTell_ok {a : Tell} (hf : a.Fit) : FnOk Try.prog 42 [a.v, a.v] [] (vB true) [] := by
  have hb := sameBits_ok (l := a.bits) hf.bits
  have hw := sameWords_ok (l := a.words) hf.words
  have hol := hf.objs
  refine FnOk.start t42 rfl rfl rfl ?_
  refine Tri.seq (Tri.go [] rfl (by simp) ?_)
  refine Tri.seq (Tri.tree (.a (.b 12 false) .nil) rfl ⟨by simp, ?_⟩)
  refine Tri.seq (Tri.seq (Tri.go [] rfl trivial ?_))
  refine Tri.block ?_
  refine Tri.lp (fun m ρ hl => ∃ i, m = a.objs.length - i ∧ i ≤ a.objs.length ∧ hl = [.box a.cs, .box a.cs] ∧ keepE ρ [2, 3, 5] = some [(2, vC (.ptr 0 0)), (3, vC (.ptr 1 0)), (5, vI .i64 i)]) a.objs.length ⟨0, by omega, by omega, rfl, keep_of rfl rfl⟩ ?_
  rintro m ρ hl' ⟨i, rfl, hi, rfl, hkk⟩
  refine Tri.keep _ hkk ?_
  by_cases h : i < a.objs.length
  · have hg := oRows_get h
    generalize a.objs[i] = o at *
    obtain ⟨o1, o2⟩ := o
    refine Tri.seq (Tri.tree (.a (.b 17 true) .nil) rfl ⟨by simp; omega, ?_⟩)
    refine Tri.seq (Tri.block (Tri.tree (.a (.at [.int .i64 o1, .str o2]) (.a (.at [.int .i64 o1, .str o2]) (.a (.b 30 false) .nil))) rfl ?_))
    refine ⟨⟨by simp; omega, rfl, hg⟩, by simp, ⟨by simp; omega, rfl, hg⟩, by simp, by simp, by simp, ?_⟩
    refine Tri.let [0, 1] [] [2, 3, 5] rfl trivial ?_
    refine Tri.go [] rfl ⟨by omega, trivial⟩ (again (a.objs.length - (i + 1)) (by omega) ⟨i + 1, rfl, by omega, rfl, keep_of rfl (by simp)⟩)
  · refine Tri.seq (Tri.tree (.a (.b 17 false) .nil) rfl ⟨by simp; omega, ?_⟩)
    refine Tri.treeR (.a (.b 36 true) (.a (.b 43 true) (.f [] hb (.f [] hw (.a (.b 57 true) (.a (.b 64 true) (.a (.b 71 true) (.a (.b 78 true) (.a (.b 85 true) (.a (.b 92 true) (.a (.b 99 true) (.a (.b 106 true) (.a (.b 113 true) .nil))))))))))))) rfl ?_
    simp [leVs, leP, leE, leC]
theorem fit0 : Tell.Fit {} := tFit0
theorem pTell_fit {b : List Int} (hb : Byt b) (hl : b.length ≤ 1000) {n : Int} (hn : b64 n) : (pTell b n).1.Fit := by
  have h0 := at_byt hb 0
  have h1 := at_byt hb 1
  unfold pTell
  split
  · exact ⟨by simp only [b64]; omega, by simp only [b64]; omega, by simp, by simp, wrd_nil, by simp [b64], by simp [b64], by simp, by simp, by simp, by simp [b64], by simp [b64], by simp [b64], by simp, fun o h => (nomatch h)⟩
  split
  · exact tFit0
  split
  · rename_i hk h
    simp only [Bool.and_eq_true] at h
    have hK : known (b.getD 0 0) = true := by
      cases q : known (b.getD 0 0) with
      | true => rfl
      | false => exact absurd (.inr q) hk
    obtain ⟨a, ys, bad, hfit, _, hof, _⟩ := tFields_ok hK (xs := b.drop 1) (fun x hx => hb x (List.mem_of_mem_drop hx)) (by simp; omega) hn
    simp only
    rw [← hof h.1]
    exact hfit
  · exact tFit0
theorem awake6_ok : FnOk Try.prog 52 [] [] (vB true) [] := by
  have hF := fail_ok 3 2
  have hfit : Tell.Fit { fn := 3, exc := 2 } := ⟨by simp [b64], by simp [b64], by simp, by simp, wrd_nil, by simp [b64], by simp [b64], by simp, by simp, by simp, by simp [b64], by simp [b64], by simp [b64], by simp, fun o h => (nomatch h)⟩
  have hB := tellBytesExc_ok (a := { fn := 3, exc := 2 }) hfit (by rfl) (by decide)
  have e1 : tellB { fn := 3, exc := 2 } = [131, 2] := by rfl
  rw [e1] at hB
  have hP := tellParse_ok (b := [1, 1, 5]) (by simp [Byt]) (by simp) (n := 3) (by simp [b64])
  have e2 : pTell [1, 1, 5] 3 = ({ fn := 1, bits := [true, false, true] }, 0) := by rfl
  rw [e2] at hP
  refine FnOk.tree t52 (.f [] hF (.f [] hB (.f [] hP (.a (.tx [131, 2]) (.a (.b 22 true) (.a (.at [.bool true]) (.a (.at [.bool false]) (.a (.at [.bool true]) .nil)))))))) rfl rfl rfl rfl ?_
  simp [leVs, leP, leE, leEs, leL, leC, rI, rF, bytesOf]
theorem getD_set_eq0 {l : List Int} {k : Nat} {x : Int} (h : k < l.length) : (l.set k x).getD k 0 = x := by simp [List.getD_eq_getElem?_getD, h]
theorem tellReads_ok {b : List Int} (hb : Byt b) (hm : b.length ≤ 9223372036854775807) {n : Int} (hn : b64 n) {fn : Int} (hf : b64 fn) (ahead : Bool) : FnOk Try.prog 15 [vBy b, vI .i64 n, vI .i64 fn, vB ahead] [] (vB true) [] := by
  have haw := awake6_ok
  by_cases h3 : 300 < b.length
  · exact FnOk.tree t15 (.a (.b 18 true) (.f [] haw .nil)) rfl rfl rfl rfl (by simp [leVs, leP, leE, leC]; omega)
  refine FnOk.start t15 rfl rfl rfl ?_
  refine Tri.seq (Tri.go [] rfl trivial ?_)
  refine Tri.seq (Tri.tree (.a (.b 18 false) (.f [] haw .nil)) rfl ⟨decide_eq_false (by omega), trivial, trivial, ?_⟩)
  refine Tri.seq (Tri.go [] rfl ?_ ?_)
  · simp; omega
  have hw := within_ok (k := fn) (n := 46) hf (by omega)
  have hw9 := within_ok (k := n) (n := 9) hn (by omega)
  have hm9 := Int.emod_nonneg n (show (9 : Int) ≠ 0 by omega)
  have hm9' := Int.emod_lt_of_pos n (show (0 : Int) < 9 by omega)
  have ht : (rI .u8 b).take b.length = rI .u8 b := by rw [rI_take]; simp
  have hm46 := Int.emod_nonneg fn (show (46 : Int) ≠ 0 by omega)
  refine Tri.mid (fun ρ hl => ∃ x m, Byt x ∧ x.length ≤ 300 ∧ b64 m ∧ hl = [.arr 1 (rI .u8 x)] ∧ keepE ρ [1, 9] = some [(1, vI .i64 m), (9, vC (.sl 0 0 x.length))]) ?_ ?_
  · rw [ht]
    cases ahead with
    | false =>
      exact Tri.tree .nil rfl ⟨b, n, hb, by omega, hn, rfl, keep_of rfl rfl⟩
    | true =>
    by_cases h0 : b.length = 0
    · refine Tri.tree (.a (.b 30 false) .nil) rfl ⟨decide_eq_false (by omega), b, n, hb, by omega, hn, rfl, keep_of rfl rfl⟩
    have e0 : (0 : Int).toNat = 0 := rfl
    by_cases h1 : b.length = 1
    · refine Tri.tree (.a (.b 30 true) (.f [] hw (.a (.b 39 false) .nil))) rfl ?_
      refine ⟨decide_eq_true (by omega), trivial, by simp [leVs, leP, leE, leC], trivial, ⟨by omega, by omega, rfl⟩, ⟨rfl, by simp; omega, by omega⟩, decide_eq_false (by omega), b.set 0 (IntKind.u8.wrap (fn % 46)), n, byt_set hb 0 (by rw [wu8]; omega), by simp; omega, hn, ?_, keep_of rfl (by simp)⟩
      rw [show 0 + Int.toNat 0 = 0 from rfl, rI_mod]
    by_cases h5 : IntKind.u8.wrap (fn % 46) < 5
    · refine Tri.tree (.a (.b 30 true) (.f [] hw (.a (.b 39 true) (.a (.at [.int .u8 (IntKind.u8.wrap (fn % 46))]) (.a (.b 44 true) (.f [] hw9 .nil)))))) rfl ?_
      refine ⟨decide_eq_true (by omega), trivial, by simp [leVs, leP, leE, leC], trivial, ⟨by omega, by omega, rfl⟩, ⟨rfl, by simp; omega, by omega⟩, decide_eq_true (by omega), ⟨by omega, by omega, rfl⟩, ?_, decide_eq_true h5, by omega, trivial, by omega, by omega, trivial, by simp [leVs, leP, leE, leC], by omega, ⟨by omega, by omega, rfl⟩, ⟨rfl, by simp; omega, by omega⟩, (b.set 0 (IntKind.u8.wrap (fn % 46))).set 1 (IntKind.u8.wrap ((b.length : Int) - 2)), 8 * ((b.length : Int) - 2) - n % 9, byt_set (byt_set hb 0 (by rw [wu8]; omega)) 1 (by rw [wu8]; omega), by simp; omega, by simp only [b64]; omega, ?_, keep_of rfl (by simp)⟩
      · rw [show 0 + Int.toNat 0 = 0 from rfl, rI_mod, rI_get (by simp; omega), getD_set_eq0 (by omega)]
      · rw [show 0 + Int.toNat 0 = 0 from rfl, show 0 + Int.toNat 1 = 1 from rfl, rI_mod, rI_mod]
    · refine Tri.tree (.a (.b 30 true) (.f [] hw (.a (.b 39 true) (.a (.at [.int .u8 (IntKind.u8.wrap (fn % 46))]) (.a (.b 44 false) .nil))))) rfl ?_
      refine ⟨decide_eq_true (by omega), trivial, by simp [leVs, leP, leE, leC], trivial, ⟨by omega, by omega, rfl⟩, ⟨rfl, by simp; omega, by omega⟩, decide_eq_true (by omega), ⟨by omega, by omega, rfl⟩, ?_, decide_eq_false h5, b.set 0 (IntKind.u8.wrap (fn % 46)), n, byt_set hb 0 (by rw [wu8]; omega), by simp; omega, hn, ?_, keep_of rfl (by simp)⟩
      · rw [show 0 + Int.toNat 0 = 0 from rfl, rI_mod, rI_get (by simp; omega), getD_set_eq0 (by omega)]
      · rw [show 0 + Int.toNat 0 = 0 from rfl, rI_mod]
  · rintro ρ hl' ⟨x, m, hx, hxl, hmm, rfl, hk⟩
    refine Tri.keep _ hk ?_
    refine Tri.let [] [0] [1, 9] rfl ?_ ?_
    · simp
    have hle := lentBytes_ok (l := x) (by omega)
    have hpa := tellParse_ok (b := x) hx (by omega) hmm
    have hrp := rTellParse_ok (b := x) hx (by omega) hmm
    have hsa := sameTell_ok (a := (pTell x m).1) (pTell_fit hx (by omega) hmm)
    have hst := staysBytes_ok (l := x) (by omega)
    refine Tri.treeR (.f [] hle (.f [] hpa (.f [] hrp (.a (.b 75 true) (.f [] hsa (.f [] hst .nil)))))) rfl ?_
    have e1 : (rI .u8 (lent 165 x 3)).take x.length = rI .u8 x := by rw [rI_take]; simp [lent]
    simp [leVs, leP, leE, leC, e1]
end Go.Proofs.Ytheaeddojcebjaa

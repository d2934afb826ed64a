/-
  Sessions of few connections: the book.
-/
import Derived.Test.YthddlkhfkncgpaaGreatE10
import Derived.Test.YthddlkhfkncgpaaGreatL4a
set_option maxRecDepth 100000
set_option maxHeartbeats 4000000
set_option linter.unusedVariables false
set_option linter.unusedSimpArgs false
namespace Go.Proofs.YthddlkhfkncgpaaGreat
open Go.RowKit

theorem nodup_le : ∀ {l L : List Int}, l.Nodup → (∀ x ∈ l, x ∈ L) → l.length ≤ L.length
  | [], _, _, _ => by simp
  | a :: l, L, h, hs => by
    rw [List.nodup_cons] at h
    have ha := hs a (by simp)
    have h2 : ∀ x ∈ l, x ∈ L.erase a := fun x hx => by
      have hne : x ≠ a := fun e => h.1 (e ▸ hx)
      exact (List.mem_erase_of_ne hne).2 (hs x (by simp [hx]))
    have h3 := nodup_le h.2 h2
    have h4 := List.length_erase_of_mem ha
    have h5 := List.length_pos_of_mem ha
    simp only [List.length_cons]
    omega
structure Bi (b : Bk) : Prop where
  wf : b.Wf
  ks : ∀ e ∈ b.es, 0 ≤ e.2.1 ∧ e.2.1 ≤ 7
theorem Bi.len {b : Bk} (h : Bi b) : b.es.length ≤ 12 := by
  have := nodup_le (L := [0, 1, 2, 3, 4, 5, 6, 7]) h.wf.ow (fun x hx => by
    obtain ⟨e, he, rfl⟩ := List.mem_map.1 hx
    have := h.ks e he
    have h8 : e.2.1 = 0 ∨ e.2.1 = 1 ∨ e.2.1 = 2 ∨ e.2.1 = 3 ∨ e.2.1 = 4 ∨ e.2.1 = 5 ∨ e.2.1 = 6 ∨ e.2.1 = 7 := by omega
    simpa using h8)
  simp at this
  omega
theorem Bi.set {b : Bk} (h : Bi b) {k n : Int} (hk : 0 ≤ k ∧ k ≤ 7) (hn : 1 ≤ n ∧ n ≤ 65535) : Bi (b.set k n) := ⟨h.wf.set hn, fun e he => by
  rcases (mem_set h.wf k n e.2.1 e.2.2).1 ⟨e, he, rfl, rfl⟩ with ⟨h1, _⟩ | ⟨_, f, hf, h1, _⟩
  · rw [h1]; exact hk
  · rw [← h1]; exact h.ks f hf⟩
theorem Bi.del {b : Bk} (h : Bi b) {k : Int} : Bi (b.del k) := ⟨h.wf.del k, fun e he => h.ks e (List.mem_of_mem_eraseIdx he)⟩
theorem Bi.tick {b : Bk} (h : Bi b) : Bi b.tick := ⟨h.wf.tick, fun e he => by
  simp only [Bk.tick, List.mem_map, List.mem_filter] at he
  obtain ⟨f, ⟨hf, _⟩, rfl⟩ := he
  exact h.ks f hf⟩
/-- Sessions whose connections are few, and have so many ticks. -/
structure Sx (T : Int) (x : Ss) : Prop where
  w : Sw x
  b : Bi x.b
  t : x.t = T
  r : 1 ≤ T ∧ T ≤ 65535
section
variable {T : Int} {x : Ss} {k : Int}
theorem Bt.turn (h : Bi x.b ∧ x.t = T) {st re q : Int} : Bi (turnR x k st re q).b ∧ (turnR x k st re q).t = T := by
  unfold turnR
  refine ⟨?_, h.2⟩
  show Bi (if st = 1 then x.b else x.b.del k)
  split
  · exact h.1
  · exact h.1.del
theorem Bt.met (h : Bi x.b ∧ x.t = T) {e : Int} : Bi (metR x k e).b ∧ (metR x k e).t = T := by
  unfold metR
  split
  · exact Bt.turn h
  · exact h
theorem Bt.begin (h : Bi x.b ∧ x.t = T) (hr : 1 ≤ T ∧ T ≤ 65535) (hk : 0 ≤ k ∧ k ≤ 7) : Bi (beginR x k).2.b ∧ (beginR x k).2.t = T := by
  unfold beginR
  split
  · exact h
  · split
    · exact h
    · exact ⟨h.1.set hk (by rw [h.2]; exact hr), h.2⟩
theorem Bt.commit (h : Bi x.b ∧ x.t = T) : Bi (scomR x k).2.b ∧ (scomR x k).2.t = T := by
  unfold scomR
  split
  · exact h
  · exact Bt.turn (x := { x with s := (comR x.s x.M k).2.2.1, M := (comR x.s x.M k).2.2.2 }) h
theorem Bt.abort (h : Bi x.b ∧ x.t = T) : Bi (sabR x k).2.b ∧ (sabR x k).2.t = T := by
  unfold sabR
  split
  · exact h
  · exact Bt.turn (x := { x with M := x.M.del k }) h
theorem Bt.read (h : Bi x.b ∧ x.t = T) {sp : Spn} : Bi (sreadR x k sp).2.2.b ∧ (sreadR x k sp).2.2.t = T := by
  unfold sreadR
  split
  · exact h
  · split
    · exact Bt.met (x := { x with M := (readR x.e x.s x.M k sp).2.2 }) h
    · split <;> exact h
theorem Bt.write (h : Bi x.b ∧ x.t = T) {l : List Cel} : Bi (swriteR x k l).2.b ∧ (swriteR x k l).2.t = T := by
  unfold swriteR
  split
  · exact Bt.met (x := { x with M := (writeR x.e x.M k l).2 }) h
  · split <;> exact h
theorem Bt.cmd (h : Bi x.b ∧ x.t = T) (hr : 1 ≤ T ∧ T ≤ 65535) (hk : 0 ≤ k ∧ k ≤ 7) {v : Int} : Bi (cmdR x k v).2.b ∧ (cmdR x k v).2.t = T := by
  unfold cmdR
  split
  · exact Bt.begin h hr hk
  · split
    · exact Bt.commit h
    · exact Bt.abort h
theorem Bt.dataE (h : Bi x.b ∧ x.t = T) {a : Ask} {rd : List Spn} : Bi (dataE x k a rd).2.b ∧ (dataE x k a rd).2.t = T := by
  unfold Go.Proofs.YthddlkhfkncgpaaGreat.dataE
  split
  · exact h
  · split <;> exact Bt.read h
theorem Bt.dataW (h : Bi x.b ∧ x.t = T) {a : Ask} {was : Int} {rd wr : List Spn} : Bi (dataW x k a was rd wr).2.b ∧ (dataW x k a was rd wr).2.t = T := by
  unfold Go.Proofs.YthddlkhfkncgpaaGreat.dataW
  split
  · exact Bt.dataE h
  · split
    · exact Bt.dataE (Bt.write h)
    · exact Bt.write h
theorem Bt.do (h : Bi x.b ∧ x.t = T) (hr : 1 ≤ T ∧ T ≤ 65535) (hk : 0 ≤ k ∧ k ≤ 7) {c : Cf} {a : Ask} : Bi (doR c x k a).2.b ∧ (doR c x k a).2.t = T := by
  unfold doR ctlR dataR
  repeat' split
  all_goals first | exact h | exact Bt.cmd h hr hk | exact Bt.dataW (Bt.read h) | exact Bt.read h | exact Bt.dataW h
theorem Bt.overs : ∀ (l : List Int) {x : Ss}, (Bi x.b ∧ x.t = T) → Bi (oversR x l).b ∧ (oversR x l).t = T
  | [], _, h => h
  | c :: l, x, h => Bt.overs l (x := overR x c) (Bt.turn (x := { x with M := x.M.del c }) h)
theorem Sx.do (h : Sx T x) (hk : 0 ≤ k ∧ k ≤ 7) {c : Cf} {a : Ask} : Sx T (doR c x k a).2 := by
  obtain ⟨h1, h2⟩ := Bt.do (c := c) (a := a) ⟨h.b, h.t⟩ h.r hk
  exact ⟨h.w.do, h1, h2, h.r⟩
theorem Sx.tick (h : Sx T x) : Sx T (stickR x).2 := by
  obtain ⟨h1, h2⟩ := Bt.overs (srt x.b.out) (x := { x with b := x.b.tick }) ⟨h.b.tick, h.t⟩
  exact ⟨h.w.tick, h1, h2, h.r⟩
end
theorem ssC_x {c : Cf} (h : c.Lo) : Sx (capT c.lease) (ssC c) := ⟨ssC_w h, ⟨⟨.nil, .nil, by simp [ssC], by simp [ssC]⟩, by simp [ssC]⟩, rfl, capT_rng _⟩
/-- The window's registers, as it is asked for them. -/
def winA : Ask := { fn := 3, at_ := 100, n := 8 }
theorem winA_fit : winA.Fit := fitA (by simp [winA, b64]) (by simp [winA, b64]) (by simp [winA, b64]) (by simp [winA]) (by simp [winA]) (by simp [winA]) (by simp [winA]) (by simp [winA]) wrd_nil (by simp [winA, b64]) (by simp [winA, b64]) (by simp [winA, b64]) (by simp [winA, b64])
theorem do_win {c : Cf} (hm : c.map = mapF) (hw : c.window = 100) {x : Ss} {k : Int} : doR c x k winA = ({ fn := 3, words := regsW (stG x.A k).st (stG x.A k).re x.t (stG x.A k).q }, x) := by
  have hr : winA.right = true := by rfl
  have hs : spans winA = ([(2, 100, 108)], []) := by rfl
  have e : whereS mapF 100 (2, 100, 108) = 2 := by rfl
  unfold doR
  rw [hr, hs, hm, hw, if_neg (by simp), if_neg (by simp [winA]), if_neg (by simp [e]), if_pos (by simp [e])]
  unfold ctlR
  rw [if_pos (show winA.fn = 3 from rfl)]
  have hl := regsW_len (stG x.A k).st (stG x.A k).re x.t (stG x.A k).q
  have : readW (stG x.A k).st (stG x.A k).re x.t (stG x.A k).q (winA.at_ - 100) (winA.at_ - 100 + winA.n) = regsW (stG x.A k).st (stG x.A k).re x.t (stG x.A k).q := by
    show readW _ _ _ _ 0 8 = _
    unfold readW
    rw [if_neg (by omega)]
    simp [List.take_of_length_le, hl]
  rw [this]
  rfl
theorem orW16 {n w : Int} (hn : 0 ≤ n ∧ n < 281474976710656) (hw : 0 ≤ w ∧ w < 65536) : IntKind.u64.wrap (BitVec.ofInt IntKind.u64.bits (IntKind.u64.wrap (n * 2 ^ (min (16 : Int).toNat IntKind.u64.bits))) ||| BitVec.ofInt IntKind.u64.bits w).toNat = n * 65536 + w := by
  obtain ⟨a, rfl⟩ := Int.eq_ofNat_of_zero_le hn.1
  obtain ⟨b, rfl⟩ := Int.eq_ofNat_of_zero_le hw.1
  have hb : b < 2 ^ 16 := by omega
  have e0 : ((a : Int) * 2 ^ (min (16 : Int).toNat IntKind.u64.bits)) = ((a * 65536 : Nat) : Int) := by
    show (a : Int) * 65536 = _
    omega
  rw [e0, wu64, wu64]
  show (((BitVec.ofInt 64 (((a * 65536 : Nat) : Int) % 18446744073709551616) ||| BitVec.ofInt 64 (b : Int)).toNat : Nat) : Int) % 18446744073709551616 = _
  rw [BitVec.toNat_or, BitVec.toNat_ofInt, BitVec.toNat_ofInt]
  have h1 : (((a * 65536 : Nat) : Int) % 18446744073709551616 % ((2 ^ 64 : Nat) : Int)).toNat = a * 65536 := by
    show (((a * 65536 : Nat) : Int) % 18446744073709551616 % 18446744073709551616).toNat = _
    omega
  have h2 : ((b : Int) % ((2 ^ 64 : Nat) : Int)).toNat = b := by
    show ((b : Int) % 18446744073709551616).toNat = _
    omega
  rw [h1, h2]
  have h3 := Nat.shiftLeft_add_eq_or_of_lt hb a
  rw [Nat.shiftLeft_eq] at h3
  have h4 : a * 65536 ||| b = a * 65536 + b := h3.symm
  rw [h4]
  omega
end Go.Proofs.YthddlkhfkncgpaaGreat

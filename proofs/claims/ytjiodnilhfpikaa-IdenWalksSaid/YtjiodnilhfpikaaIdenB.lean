/-
  The walks over iden.among: those objects that a code asks for.
-/
import Derived.Test.YtjiodnilhfpikaaIdenA
set_option linter.unusedVariables false
set_option linter.unusedSimpArgs false
namespace Go.Proofs.Ytjiodnilhfpikaa
open Go.RowKit

/-- The greatest number that a code asks for. -/
def lastOf (cd : Int) : Int := if cd = 1 then 2 else if cd = 2 then 127 else 255
theorem last_any (cd : Int) (w : World) (h : cd = 1 ∨ cd = 2 ∨ cd = 3) : Calls Try.prog 28 #[.int .i64 cd] w fun e w' => e = .returned (.int .i64 (lastOf cd)) ∧ w = w' := by
  have i0 : ∀ W : World, (Instr.index 64 (.agg #[.int .i64 2, .int .i64 127, .int .i64 255]) (.int .i64 0)).run Try.prog W = .ok (.int .i64 2) W := fun _ => by kernel_rfl
  have i1 : ∀ W : World, (Instr.index 64 (.agg #[.int .i64 2, .int .i64 127, .int .i64 255]) (.int .i64 1)).run Try.prog W = .ok (.int .i64 127) W := fun _ => by kernel_rfl
  have i2 : ∀ W : World, (Instr.index 64 (.agg #[.int .i64 2, .int .i64 127, .int .i64 255]) (.int .i64 2)).run Try.prog W = .ok (.int .i64 255) W := fun _ => by kernel_rfl
  rcases h with rfl | rfl | rfl
  all_goals
    go_enter Try.func28, Try.ntmps28
    go_wp2
    go_ret
    exact ⟨rfl, rfl⟩

def overCode (cd : Int) (o : Ob) : Bool := decide (lastOf cd < o.1)
set_option maxHeartbeats 1000000 in
theorem amongIs_any (o : Ob) (cd : Int) (g : Nat) (w : World) (hg : w.cell? ⟨g, 0, none⟩ = some (.int .i64 cd)) (hcd : cd = 1 ∨ cd = 2 ∨ cd = 3) :
    Calls Try.prog 38 #[.agg #[.int .i64 o.1, .string o.2], .pointer (some ⟨g, 0, none⟩)] w fun e w' => e = .returned (.bool (overCode cd o)) ∧ Keeps Nope w w' := by
  obtain ⟨n, tx⟩ := o
  have hg2 : (w.alloc (.cells #[.int .i64 n, .string tx] 36)).cell? ⟨g, 0, none⟩ = some (.int .i64 cd) := ((Keeps.refl Nope w).alloc _).cell (p := ⟨g, 0, none⟩) (World.block_lt_of_cell? w _ hg) (fun f => f) |>.trans hg
  have R : Hid (overCode cd (n, tx) = decide (lastOf cd < n)) := rfl
  have HC := Lib.hid hcd
  clear hcd
  go_enter Try.func38, Try.ntmps38
  go_wp2
  go_quiet ((go_at_call 28; exact Calls.quiet_of_same ((last_any _ _ HC.out).mono fun _ _ h => ⟨h.1, h.2.symm⟩)))
  go_wp2
  go_ret
  exact ⟨ret_bool R.out.symm, ((Keeps.refl _ _).alloc _).drewN _⟩

set_option maxRecDepth 100000 in
set_option maxHeartbeats 1000000 in
theorem indexAmong_any (A : Option Addr) (c : Nat) (l : List Ob) (cd : Int) (g : Nat) (w : World) (hl : Lies w A (obsCells l)) (hn : l.length ≤ 1000000) (hg : w.cell? ⟨g, 0, none⟩ = some (.int .i64 cd)) (hcd : cd = 1 ∨ cd = 2 ∨ cd = 3) :
    Calls Try.prog 35 #[.slice A l.length c, .func (.func 38) #[] #[.pointer (some ⟨g, 0, none⟩)]] w fun e w' => e = .returned (.int .i64 (obIndex (overCode cd) 0 l)) ∧ Keeps Nope w w' := by
  have hgl := World.block_lt_of_cell? w _ hg
  obtain ⟨nl, hnl⟩ : ∃ nl, nl = l.length := ⟨_, rfl⟩
  have HN := Lib.hid hnl
  rw [← hnl] at hn ⊢
  clear hnl
  have HCD := Lib.hid hcd
  clear hcd
  have HG := Lib.hid hg
  clear hg
  go_enter Try.func35, Try.ntmps35
  go_wp2
  go_loopw [8] (fun i wr => ∃ (k : Nat), k ≤ nl ∧ Hid (obIndex (overCode cd) 0 l = obIndex (overCode cd) k (l.drop k)) ∧ i = .int .i64 (k : Int) ∧ Hid (Keeps Nope w wr)) (fun i _ => (nl - (intOf i)).toNat)
  case atStart => exact ⟨0, by omega, rfl, rfl, Keeps.refl _ _⟩
  case round =>
    obtain ⟨k, hk, HL, rfl, HK⟩ := hrel
    by_cases hlt : k < nl
    · have hk' : k < l.length := by rw [← HN.out]; exact hlt
      obtain ⟨b, o, rfl, c1, c2⟩ := (hl.keeps HK.out).ob hk'
      have HD := Lib.hid (HL.out.trans (obIndex_drop hk'))
      clear HL
      generalize l[k] = ob at *
      have HGW : Hid (wr.cell? ⟨g, 0, none⟩ = some (.int .i64 cd)) := (HK.out.cell (p := ⟨g, 0, none⟩) hgl (fun f => f)).trans HG.out
      by_cases hb : overCode cd ob = true
      · have HD2 : Hid (obIndex (overCode cd) 0 l = k) := by have := HD.out; rw [if_pos hb] at this; exact this
        clear HD hl
        go_wp2_with (fail)
        refine (amongIs_any ob cd g _ HGW.out HCD.out).mono ?_
        rintro e w' ⟨rfl, hk2⟩
        rw [hb]
        clear hb
        go_wp2
        go_ret
        exact ⟨ret_int HD2.out.symm, HK.out.trans hk2⟩
      · have HD2 : Hid (obIndex (overCode cd) 0 l = obIndex (overCode cd) (k + 1 : Nat) (l.drop (k + 1))) := by have := HD.out; rw [if_neg hb] at this; exact this
        have hb' : overCode cd ob = false := by simpa using hb
        clear HD hl hb
        go_wp2_with (fail)
        refine (amongIs_any ob cd g _ HGW.out HCD.out).mono ?_
        rintro e w' ⟨rfl, hk2⟩
        rw [hb']
        clear hb'
        go_wp2
        go_roundw
        case rel => exact ⟨k + 1, by omega, HD2, by go_num, HK.out.trans hk2⟩
        case measure => simp [intOf]; omega
    · have HD2 : Hid (obIndex (overCode cd) 0 l = -1) := by
        have := HL.out
        rw [List.drop_eq_nil_of_le (by rw [← HN.out]; omega)] at this
        exact this
      clear hl
      go_wp2
      go_ret
      exact ⟨ret_int HD2.out.symm, HK.out⟩


theorem obIndex_spec (p : Ob → Bool) : ∀ (l : List Ob) (n : Int), (obIndex p n l = -1 ∧ ∀ o ∈ l, p o = false) ∨ ∃ i, ∃ h : i < l.length, obIndex p n l = n + i ∧ p l[i] = true ∧ ∀ j (hj : j < i), p (l[j]'(by omega)) = false
  | [], n => .inl ⟨rfl, by simp⟩
  | o :: l, n => by
    unfold obIndex
    by_cases h : p o = true
    · rw [if_pos h]
      exact .inr ⟨0, by simp, by simp, by simpa using h, fun j hj => by omega⟩
    · rw [if_neg h]
      have h' : p o = false := by simpa using h
      rcases obIndex_spec p l (n + 1) with ⟨e, hall⟩ | ⟨i, hi, e, h1, h2⟩
      · exact .inl ⟨e, by simpa [h'] using hall⟩
      · refine .inr ⟨i + 1, by simpa using hi, by rw [e]; omega, by simpa using h1, fun j hj => ?_⟩
        rcases j with _ | j
        · simpa using h'
        · simpa using h2 j (by omega)
/-- Once over, over to the end. -/
def Mono (p : Ob → Bool) (l : List Ob) : Prop := ∀ j k (hk : k < l.length) (hj : j ≤ k), p (l[j]'(by omega)) = true → p l[k] = true

theorem obCells_take (l : List Ob) (i : Nat) : obsCells (l.take i) = (obsCells l).take (i * 2) := by
  induction l generalizing i with
  | nil => simp [obsCells]
  | cons o l ih =>
    rcases i with _ | i
    · simp [obsCells]
    · have := ih i
      simp only [obsCells, List.take_succ_cons, List.flatMap_cons, obCells] at this ⊢
      rw [show (i + 1) * 2 = i * 2 + 2 by omega]
      simpa using this
theorem zeroOb (w : World) : (zeroValue 36).run Try.prog w = .ok (.agg #[.int .i64 0, .string ByteArray.empty]) w := by kernel_rfl

def amongL (cd : Int) (l : List Ob) : List Ob := l.filter fun o => !overCode cd o
theorem filter_none {p : Ob → Bool} {l : List Ob} (h : ∀ o ∈ l, p o = false) : l.filter (fun o => !p o) = l := List.filter_eq_self.2 (by simpa using h)
theorem filter_front {p : Ob → Bool} {l : List Ob} {i : Nat} (hi : i < l.length) (h1 : p l[i] = true) (h2 : ∀ j (hj : j < i), p (l[j]'(by omega)) = false) (hm : Mono p l) : l.filter (fun o => !p o) = l.take i := by
  have e : l = l.take i ++ l.drop i := (List.take_append_drop i l).symm
  conv => lhs; rw [e]
  rw [List.filter_append]
  have ha : (l.take i).filter (fun o => !p o) = l.take i := filter_none (fun o ho => by
    obtain ⟨j, hj, rfl⟩ := List.mem_iff_getElem.1 ho
    rw [List.getElem_take]
    exact h2 j (by simp at hj; omega))
  have hb : (l.drop i).filter (fun o => !p o) = [] := by
    rw [List.filter_eq_nil_iff]
    intro o ho
    obtain ⟨j, hj, rfl⟩ := List.mem_iff_getElem.1 ho
    rw [List.getElem_drop]
    have := hm i (i + j) (by simp at hj; omega) (by omega) h1
    simp [this]
  rw [ha, hb, List.append_nil]

set_option maxRecDepth 100000 in
set_option maxHeartbeats 2000000 in
theorem deleteAmong_any (v : Value) (l : List Ob) (cd : Int) (g : Nat) (w0 w : World) (hown : w.ownsRow w0.heap.size 36 2 v l.length (obsCells l)) (hK : Keeps Nope w0 w) (hn : l.length ≤ 1000000) (hg : w.cell? ⟨g, 0, none⟩ = some (.int .i64 cd)) (hcd : cd = 1 ∨ cd = 2 ∨ cd = 3)
    (hgb : v.ownBlock ≠ some g) (hm : Mono (overCode cd) l) :
    Calls Try.prog 37 #[v, .func (.func 38) #[] #[.pointer (some ⟨g, 0, none⟩)]] w fun e w' => GivesRow 36 2 (amongL cd l).length (obsCells (amongL cd l)) w0 e w' := by
  have hgl := World.block_lt_of_cell? w _ hg
  have HCD := Lib.hid hcd
  clear hcd
  obtain ⟨nl, hnl⟩ : ∃ nl, nl = l.length := ⟨_, rfl⟩
  have HN := Lib.hid hnl
  obtain ⟨A, c, rfl, hlies, hnc⟩ := Lies.of_own hown
  have hix := indexAmong_any A c l cd g w hlies hn hg HCD.out
  have HOWN := Lib.hid hown
  clear hown
  rw [← hnl] at hn hnc hix ⊢
  clear hnl
  have HG := Lib.hid hg
  clear hg
  rcases obIndex_spec (overCode cd) l 0 with ⟨e, hall⟩ | ⟨i, hi, e, h1, h2⟩
  · rw [e] at hix
    have HF := Lib.hid (filter_none hall)
    clear e hall
    have HIX := Lib.hid hix
    clear hix
    go_enter Try.func37, Try.ntmps37
    go_wp2_with (fail)
    refine HIX.out.mono ?_
    rintro e w1 ⟨rfl, hk1⟩
    go_wp2
    go_ret
    refine ⟨_, rfl, ?_, hK.trans hk1⟩
    have : amongL cd l = l := HF.out
    rw [this, HN.out]
    exact own_more HOWN.out hk1
  · have e' : obIndex (overCode cd) 0 l = (i : Int) := by omega
    rw [e'] at hix
    have HF := Lib.hid (filter_front hi h1 h2 hm)
    have HM := Lib.hid (fun k (hk : i ≤ k) (hk2 : k < l.length) => hm i k hk2 hk h1)
    have hi' : i < nl := by rw [HN.out]; exact hi
    clear e e' h1 h2 hm
    have HIX := Lib.hid hix
    clear hix
    go_enter Try.func37, Try.ntmps37
    go_wp2_with (fail)
    refine HIX.out.mono ?_
    rintro e w1 ⟨rfl, hk1⟩
    have hineq : ((i : Int) == -1) = false := by simp
    go_wp2_with (fail)
    go_loopw [5, 6] (fun q s wr => ∃ (k : Nat), i < k ∧ k ≤ nl ∧ q = .int .i64 (i : Int) ∧ s = .int .i64 (k : Int) ∧ Hid (Keeps Nope w wr)) (fun _ s _ => (nl - (intOf s)).toNat)
    case atStart => exact ⟨i + 1, by omega, by omega, rfl, by go_num, hk1⟩
    case round =>
      obtain ⟨k, hk1', hk2', rfl, rfl, HK⟩ := hrel
      clear hk1
      by_cases hlt : k < nl
      · have hk' : k < l.length := by rw [← HN.out]; exact hlt
        obtain ⟨b, o, rfl, c1, c2⟩ := (hlies.keeps HK.out).ob hk'
        have hp := HM.out k (by omega) hk'
        have HGW : Hid (wr.cell? ⟨g, 0, none⟩ = some (.int .i64 cd)) := (HK.out.cell (p := ⟨g, 0, none⟩) hgl (fun f => f)).trans HG.out
        generalize l[k] = ob at *
        clear hlies HOWN
        obtain ⟨id, tx⟩ := ob
        have HK2 := Lib.hid (HK.out.alloc (.cells #[.int .i64 id, .string tx] 36))
        have HG2 := Lib.hid ((((Keeps.refl Nope wr).alloc (.cells #[.int .i64 id, .string tx] 36)).cell (p := ⟨g, 0, none⟩) (World.block_lt_of_cell? wr _ HGW.out) (fun f => f)).trans HGW.out)
        have HP := Lib.hid hp
        clear hp
        go_wp2_with (fail)
        refine (amongIs_any (id, tx) cd g _ HG2.out HCD.out).mono ?_
        rintro e w2 ⟨rfl, hk2⟩
        rw [HP.out]
        go_wp2
        go_roundw
        case rel => exact ⟨k + 1, by omega, by omega, rfl, by go_num, HK2.out.trans hk2⟩
        case measure => simp [intOf]; omega
      · have hownr := own_more HOWN.out HK.out
        rw [← HN.out] at hownr
        obtain ⟨gb, cap, hv, hb1, hb2⟩ := hownr.form (by omega)
        have hA : A = some ⟨gb, 0, none⟩ := by injection hv
        subst hA
        clear hv
        obtain ⟨w3, hrun, hown3, hk3⟩ := run_clear_end (P := Try.prog) wr w0.heap.size 24 36 0 _ 2 Try.underlying24 zeroOb rfl (by omega) (by intro u hu; simp [Value.cells] at hu; rcases hu with rfl | rfl <;> rfl) gb nl c i (c - i) (obsCells l) hownr hi'
        have hci : ¬ c = i := by omega
        have hci2 : i ≤ c := by omega
        have HX := Lib.hid (And.intro hown3 hk3)
        clear hlies hownr hb2 hown3 hk3
        go_wp2
        go_ret
        have hF2 : amongL cd l = l.take i := HF.out
        have hlen : (l.take i).length = i := by rw [List.length_take, Nat.min_eq_left (by omega)]
        rw [hF2, hlen, obCells_take]
        exact ⟨_, rfl, HX.out.1, (hK.trans HK.out).then HX.out.2 (fun j hj e => by have : j = gb := e; omega)⟩
end Go.Proofs.Ytjiodnilhfpikaa

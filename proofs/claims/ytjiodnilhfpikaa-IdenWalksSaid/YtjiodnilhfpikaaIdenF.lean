/-
  The walk over iden.Answer for the objects of a kind: as many as fit.
-/
import Derived.Test.YtjiodnilhfpikaaIdenE
import Derived.Deep.CutRange
import Derived.Deep.RegionLaw
set_option linter.unusedVariables false
set_option linter.unusedSimpArgs false
namespace Go.Proofs.Ytjiodnilhfpikaa
open Go.RowKit

/-- As many of the objects as fit behind those that were taken; the number of the first one that is left. -/
def takeFit : List Ob → List Ob → List Ob × Option Int
  | acc, [] => (acc, none)
  | acc, o :: r => if objsOk 7 (acc ++ [o]) then takeFit (acc ++ [o]) r else (acc, some o.1)
theorem takeFit_drop {acc l : List Ob} {k : Nat} (hk : k < l.length) : takeFit acc (l.drop k) = if objsOk 7 (acc ++ [l[k]]) then takeFit (acc ++ [l[k]]) (l.drop (k + 1)) else (acc, some l[k].1) := by
  rw [List.drop_eq_getElem_cons hk]; rfl
/-- Where a reply begins among the objects of a kind. -/
def startAt (ob : Int) (la : List Ob) : Nat := (max (obIndex (fun o => o.1 == ob) 0 la) 0).toNat
def toldOf (cd ob : Int) (l : List Ob) : List Ob × Option Int := takeFit [] ((amongL cd l).drop (startAt ob (amongL cd l)))
theorem obIndex_lt (p : Ob → Bool) (l : List Ob) : obIndex p 0 l < l.length := by
  rcases obIndex_spec p l 0 with ⟨e, _⟩ | ⟨i, hi, e, _⟩ <;> omega

theorem obs_drop_cells (l : List Ob) (m : Nat) : obsCells (l.drop m) = (obsCells l).drop (m * 2) := by
  induction l generalizing m with
  | nil => simp [obsCells]
  | cons o l ih =>
    rcases m with _ | m
    · simp
    · have := ih m
      simp only [obsCells, List.drop_succ_cons, List.flatMap_cons, obCells] at this ⊢
      rw [show (m + 1) * 2 = m * 2 + 2 by omega]
      simpa using this
theorem obs_drop {w : World} {b : Nat} {l : List Ob} (h : Lies w (some ⟨b, 0, none⟩) (obsCells l)) (m : Nat) : Lies w (some ⟨b, m * 2, none⟩) (obsCells (l.drop m)) := by
  intro hne
  rw [obs_drop_cells] at hne ⊢
  obtain ⟨b', o', e, hr⟩ := h (by intro e; rw [e] at hne; simp at hne)
  injection e with e
  injection e with e1 e2 _
  subst e1 e2
  refine ⟨b, m * 2, rfl, fun j v hj => ?_⟩
  rw [List.getElem?_drop] at hj
  have := hr _ _ hj
  simpa using this

/-- What holds at each round's head. -/
structure AnsInv (w : World) (g6 g8 : Nat) (cd lv : Int) (A : Option Addr) (lb acc : List Ob) (vo : Value) (W : World) : Prop where
  b6 : W.heap[g6]? = some (.cells (tcells 0 0 0 false 0 (.slice none 0 0)) 32 (0, 0))
  b8 : W.heap[g8]? = some (.cells (tcells 43 cd lv false 0 vo) 32 (0, 0))
  own : W.ownsRow (g8 + 1) 36 2 vo acc.length (obsCells acc)
  lies : Lies W A (obsCells lb)
  far : ∀ a, A = some a → g8 < a.block
  keeps : Keeps Nope w W
theorem AnsInv.more {w : World} {g6 g8 : Nat} {cd lv : Int} {A : Option Addr} {lb acc : List Ob} {vo : Value} {W W' : World} (h : AnsInv w g6 g8 cd lv A lb acc vo W) (hk : Keeps Nope W W') : AnsInv w g6 g8 cd lv A lb acc vo W' :=
  ⟨blk_keeps h.b6 hk, blk_keeps h.b8 hk, own_more h.own hk, h.lies.keeps hk, h.far, h.keeps.trans hk⟩

theorem lies_block {w : World} {g : Nat} {cs : Array Value} {t : TypeId} {fr : Nat × Nat} (h : w.heap[g]? = some (.cells cs t fr)) : Lies w (some ⟨g, 0, none⟩) cs.toList := fun _ =>
  ⟨g, 0, rfl, fun j v hj => by
    rw [cell_of_row w g (0 + j) cs t fr h, Nat.zero_add]
    simpa using hj⟩
theorem step_app {P : Program} {ops : Array Oper} {o : Oper} {a : Act} {K : Act → World → Prop} {Q : Exit → Act → World → Prop} {E : Prop} {w : World} (hgd : o.guard = none) (s x : Operand) (t e : TypeId) (z : Value) (size bytes : Nat)
    (ho : o.op = .call { callee := .builtin .append, args := #[s, x], argTypes := #[t, t] }) (ht : P.underlying t = some (.slice e)) (hinfo : (P.info? e).map (fun i => (i.zero, i.size, i.bytes)) = some (some z, size, bytes)) (hzs : z.cells.size = size) (hsz : 0 < size)
    (base : Nat) (v : Value) (n : Nat) (xs : List Value) (A : Option Addr) (m c : Nat) (news : List Value) (hs : a.eval s = v) (hx : a.eval x = .slice A m c)
    (hown : w.ownsRow base e size v n xs) (hnews : Lies w A news) (hl : news.length = m * size) (h1 : ∀ u ∈ news, u.oneCell' = true) (h63 : n + m ≤ 1000000000000) (hbytes : (n + m) * bytes ≤ 140737488355328) (hb : base ≤ w.heap.size)
    (h : ∀ v' w', w'.ownsRow base e size v' (n + m) (xs ++ news) → Keeps (fun g => v.ownBlock = some g) w w' → K (a.put o.dst v') w') :
    if Region.wanted o (yielded ops a.tmps) = true then Oper.wp P o a w K Q else E := by
  obtain ⟨i0, hi, hzz⟩ := Option.map_eq_some_iff.1 hinfo
  simp only [Prod.mk.injEq] at hzz
  obtain ⟨hz0, hz1, hz2⟩ := hzz
  exact step_append_any w hgd s x t ho base e i0 z size bytes ht hi hz0 hz1 hz2 hzs hsz v n xs hs hown w.heap.size A m c news hx (hnews.reads hl hsz) h1 (by simp only [maxLen]; omega) hbytes hb
    fun v' w' h2 h3 h4 => h v' w' h2 ((Keeps.refl _ w).grown h3 (fun g hg => .inr hg))
theorem Keeps.fresh {R : Nat → Prop} {a w w' : World} (h : Keeps Nope a w) (h2 : Keeps R w w') (hr : ∀ g, R g → a.heap.size ≤ g) : Keeps Nope a w' :=
  ⟨h2.os.trans h.os, h2.tape.trans h.tape, h2.output.trans h.output, Nat.le_trans h.size h2.size, fun k hk hF =>
    (h2.block k (Nat.lt_of_lt_of_le hk h.size) (fun e => by have := hr k e; omega)).trans (h.block k hk hF)⟩
/-- Behind the making of the next reply. -/
structure AnsMid (w : World) (g6 g8 g12 : Nat) (cd lv : Int) (A : Option Addr) (lb acc : List Ob) (vo : Value) (oo : Ob) (vn : Value) (W : World) : Prop where
  inv : AnsInv w g6 g8 cd lv A lb acc vo W
  b12 : W.heap[g12]? = some (.cells (tcells 43 cd lv false 0 vn) 32 (0, 0))
  b11 : W.heap[g12 - 1]? = some (.cells #[.int .i64 oo.1, .string oo.2] 36 (0, 0))
  own2 : W.ownsRow (g12 + 1) 36 2 vn (acc.length + 1) (obsCells (acc ++ [oo]))

theorem lies_apart {F : Nat → Prop} {w w' : World} {A : Option Addr} {cs : List Value} (h : Lies w A cs) (hk : Keeps F w w') (hF : ∀ a, A = some a → ¬ F a.block) : Lies w' A cs := by
  intro hne
  obtain ⟨b, o, e, hr⟩ := h hne
  refine ⟨b, o, e, fun j v hj => ?_⟩
  have := hr j v hj
  rw [hk.cell (p := ⟨b, o + j, none⟩) (World.block_lt_of_cell? w _ this) (hF ⟨b, o, none⟩ e)]
  exact this
theorem ansMid_end {w wr W0 w6 : World} {g6 g8 g12 : Nat} {cd lv : Int} {A A6 : Option Addr} {c6 n6 : Nat} {lb acc : List Ob} {vo : Value} {oo : Ob} (HI : Hid (AnsInv w g6 g8 cd lv A lb acc vo wr)) (KW : Hid (Keeps Nope wr W0)) (KD : Hid (Keeps Nope W0 w6)) (hg : Hid (wr.heap.size ≤ g12))
    (hg2 : g12 < W0.heap.size) (h0 : 0 < g12) (b11 : W0.heap[g12 - 1]? = some (.cells #[.int .i64 oo.1, .string oo.2] 36 (0, 0)))
    (b12 : Hid (w6.heap[g12]? = some (.cells (tcells 43 cd lv false 0 vo) 32 (0, 0)))) (ho : Hid (w6.ownsRow (g12 + 1) 36 2 (.slice A6 n6 c6) (acc.length + 1) (obsCells (acc ++ [oo])))) :
    AnsMid w g6 g8 g12 cd lv A lb acc vo oo (.slice A6 n6 c6) (w6.setCell ⟨g12, 13, none⟩ (.slice A6 n6 c6)) where
  inv := HI.out.more ((KW.out.trans KD.out).setCell (p := ⟨g12, 13, none⟩) (.inl hg.out) _)
  b12 := heap_setCell_same w6 g12 13 _ _ _ b12.out
  b11 := (heap_setCell_other w6 ⟨g12, 13, none⟩ (g12 - 1) _ (by show g12 - 1 ≠ g12; omega)).trans (blk_keeps b11 KD.out)
  own2 := own_keeps ho.out ((Keeps.refl (Only g12) w6).setCell (p := ⟨g12, 13, none⟩) (.inr (show Only g12 g12 from rfl)) _) (fun g hg e => by
    have h1 : g = g12 := e
    have h2 := own_from ho.out g hg
    omega)
theorem obs_snoc (l : List Ob) (o : Ob) : obsCells l ++ obCells o = obsCells (l ++ [o]) := by simp [obsCells]

theorem AnsMid.more {w : World} {g6 g8 g12 : Nat} {cd lv : Int} {A : Option Addr} {lb acc : List Ob} {vo vn : Value} {oo : Ob} {W W' : World} (h : AnsMid w g6 g8 g12 cd lv A lb acc vo oo vn W) (hk : Keeps Nope W W') : AnsMid w g6 g8 g12 cd lv A lb acc vo oo vn W' :=
  ⟨h.inv.more hk, blk_keeps h.b12 hk, blk_keeps h.b11 hk, own_more h.own2 hk⟩
theorem ansInv_next {w : World} {g6 g8 g12 : Nat} {cd lv : Int} {A A7 : Option Addr} {c7 n7 : Nat} {lb acc : List Ob} {vo : Value} {oo : Ob} {W : World} (h : Hid (AnsMid w g6 g8 g12 cd lv A lb acc vo oo (.slice A7 n7 c7) W)) (hg : g8 < g12) (h6 : g6 < g8) (hb : Hid (w.heap.size ≤ g8)) :
    AnsInv w g6 g8 cd lv A lb (acc ++ [oo]) (.slice A7 n7 c7) (W.setRow g8 (tcells 43 cd lv false 0 (.slice A7 n7 c7))) := by
  have hk := (Keeps.refl (Only g8) W).setRow (.inr (show Only g8 g8 from rfl)) (tcells 43 cd lv false 0 (.slice A7 n7 c7))
  refine ⟨(setRow_other _ _ _ _ (by omega)).trans h.out.inv.b6, setRow_heap _ _ _ _ _ _ h.out.inv.b8, ?_, ?_, h.out.inv.far, h.out.inv.keeps.setRow (.inl hb.out) _⟩
  · have := own_lower (base' := g8 + 1) h.out.own2 (by omega)
    rw [show (acc ++ [oo]).length = acc.length + 1 by simp]
    refine own_keeps this hk (fun g hg2 e => ?_)
    have h1 : g = g8 := e
    have h2 := own_from this g hg2
    omega
  · refine lies_apart h.out.inv.lies hk (fun a e e2 => ?_)
    have h1 : a.block = g8 := e2
    have h2 := h.out.inv.far a e
    omega

set_option maxRecDepth 100000 in
set_option maxHeartbeats 4000000 in
theorem answer_some0 (A : Option Addr) (c : Nat) (l : List Ob) (cd ob : Int) (w : World) (hl : Lies w A (obsCells l)) (hn : l.length ≤ 1000000) (hs : Short l) (hcd : cd = 1 ∨ cd = 2 ∨ cd = 3) (h0 : 0 ≤ ob) (h1 : ob ≤ 255) (hm : Mono (overCode cd) l) (hne : 0 < (amongL cd l).length) (hcase : obIndex (fun o => o.1 == ob) 0 (amongL cd l) = -1) :
    Calls Try.prog 10 #[.slice A l.length c, .int .i64 cd, .int .i64 ob] w (AnswerYes cd (levelL l) (toldOf cd ob l).2.isSome ((toldOf cd ob l).2.getD 0) (toldOf cd ob l).1 w) := by
  have hcd1 : 1 ≤ cd := by omega
  have hcd2 : cd ≤ 4 := by omega
  have hcd4 : (cd == 4) = false := by simp; omega
  have hlv := level_byte l 129 (by omega)
  have HLV : Hid (129 ≤ levelL l ∧ levelL l ≤ 131) := hlv
  have HL := Lib.hid hl
  have HCD := Lib.hid hcd
  have HM := Lib.hid hm
  have HS := Lib.hid hs
  obtain ⟨r, hr⟩ : ∃ r, r = toldOf cd ob l := ⟨_, rfl⟩
  have HT : Hid (r = takeFit [] ((amongL cd l).drop (startAt ob (amongL cd l)))) := hr
  rw [← hr]
  clear hr
  clear hl hcd hm hs hlv
  go_enter Try.func10, Try.ntmps10
  go_wp2_with (fail)
  refine (level_any A c l _ (HL.out.keeps ((Keeps.refl _ _).alloc _)) hn).mono ?_
  rintro e w1 ⟨rfl, hk1⟩
  have HK := Lib.hid (((Keeps.refl Nope w).alloc _).trans hk1)
  have B6 := Lib.hid (blk_keeps (heap_alloc_new w _) hk1)
  have HL1 := Lib.hid (HL.out.keeps HK.out)
  have hg6 := heap_lt B6.out
  clear hk1 HL
  have HG := Lib.hid (Nat.le_refl w.heap.size)
  generalize hgg : w.heap.size = g6 at *
  replace HG : Hid (w.heap.size ≤ g6) := Nat.le_of_eq hgg
  clear hgg
  generalize levelL l = lv at *
  go_wp2_with (fail)
  refine (among_any A c l cd _ (HL1.out.keeps ((Keeps.refl _ _).alloc _)) hn HCD.out HM.out).mono ?_
  rintro e w2 ⟨v, rfl, hown, hk2⟩
  obtain ⟨gb, cb, rfl, hgb, hgb2⟩ := hown.form hne
  obtain ⟨A2, c2, e2, hlies, hnc⟩ := Lies.of_own hown
  injection e2 with ea eb ec
  subst ea ec
  clear eb
  have HIN : Hid (AnsInv w g6 w1.heap.size cd lv (some ⟨gb, 0, none⟩) (amongL cd l) [] (.slice none 0 0) w2) := ⟨blk_keeps (blk_keeps B6.out ((Keeps.refl _ _).alloc _)) hk2, blk_keeps (heap_alloc_new w1 _) hk2, own_nil _ _ _ _, hlies, (by rintro _ ⟨⟩; exact Nat.lt_of_lt_of_le (by show w1.heap.size < (w1.heap.push _).size; simp) hgb), (HK.out.alloc _).trans hk2⟩
  have hn2 : (amongL cd l).length ≤ 1000000 := Nat.le_trans (List.length_filter_le _ _) hn
  have HS2 : Hid (Short (amongL cd l)) := fun o ho => HS.out o (List.mem_filter.1 ho).1
  have HG8 : Hid (w.heap.size ≤ w1.heap.size) := HK.out.size
  clear hk2 HL1 B6 hown hlies HM HS HK hgb hgb2
  generalize w1.heap.size = g8 at *
  generalize amongL cd l = la at *
  clear hn
  go_wp2_with (fail)
  refine (place_any _ cb la ob _ HIN.out.lies hn2).mono ?_
  rintro e w3 ⟨rfl, hk3⟩
  have HI3 := Lib.hid (HIN.out.more hk3)
  clear hk3 HIN
  have hix := obIndex_lt (fun o => o.1 == ob) la
  unfold startAt at HT
  generalize obIndex (fun o => o.1 == ob) 0 la = ix at *
  have hfin : ∃ (lb : List Ob) (nb m : Nat), Hid (lb = la.drop m) ∧ Hid (nb = lb.length) ∧ nb ≤ 1000000 ∧ Hid (r = takeFit [] lb) ∧ Hid (Short lb) ∧ Hid (m = (max ix 0).toNat) ∧ Hid (nb = la.length - m) := by
    refine ⟨la.drop (max ix 0).toNat, (la.drop (max ix 0).toNat).length, (max ix 0).toNat, rfl, rfl, ?_, HT.out, fun o ho => HS2.out o (List.mem_of_mem_drop ho), rfl, by show _ = _; simp⟩
    rw [List.length_drop]; omega
  obtain ⟨lb, nb, m, HLB, HN, hnb, HR, HS3, HMM, HNB⟩ := hfin
  have hdrop : Lies w3 (some ⟨gb, m * 2, none⟩) (obsCells lb) := by
    rw [HLB.out]
    exact obs_drop HI3.out.lies m
  have HIN : Hid (AnsInv w g6 g8 cd lv (some ⟨gb, m * 2, none⟩) lb [] (.slice none 0 0) w3) := ⟨HI3.out.b6, HI3.out.b8, HI3.out.own, hdrop, (by rintro _ ⟨⟩; exact HI3.out.far ⟨gb, 0, none⟩ rfl), HI3.out.keeps⟩
  clear hdrop HI3 HS2 HT
  obtain rfl := hcase
  obtain rfl : m = 0 := by rw [HMM.out]; rfl
  have en : nb = la.length := HNB.out
  subst en
  have HIN2 : Hid (AnsInv w g6 g8 cd lv (some ⟨gb, 0, none⟩) lb [] (.slice none 0 0) w3) := HIN
  clear HIN HLB HMM HNB
  generalize la.length = nb at *
  have HIN := HIN2
  clear HIN2
  go_wp2_with (fail)
  generalize (some ⟨gb, 0, none⟩ : Option Addr) = A3 at *
  go_loopw [58] (fun i wr => ∃ (k : Nat) (acc : List Ob) (vo : Value), k ≤ nb ∧ Hid (AnsInv w g6 g8 cd lv A3 lb acc vo wr) ∧ Hid (r = takeFit acc (lb.drop k)) ∧ Hid (acc.length ≤ k ∧ Short acc) ∧ i = .int .i64 (k : Int)) (fun i _ => (nb - (intOf i)).toNat)
  case atStart => exact ⟨0, [], .slice none 0 0, by omega, HIN, by rw [List.drop_zero]; exact HR.out, ⟨by simp, fun o ho => by simp at ho⟩, rfl⟩
  case round =>
    obtain ⟨k, acc, vo, hk, HI, HRK, HAC, rfl⟩ := hrel
    clear HIN HR
    by_cases hlt : k < nb
    · have hk' : k < lb.length := by rw [← HN.out]; exact hlt
      obtain ⟨b, o, rfl, c1, c2⟩ := HI.out.lies.ob hk'
      have HD := Lib.hid (HRK.out.trans (takeFit_drop hk'))
      have HSO : Hid ((lb[k]).2.size ≤ 1000000) := HS3.out _ (List.getElem_mem hk')
      clear HRK
      generalize lb[k] = oo at *
      obtain ⟨id, tx⟩ := oo
      have K1 := Lib.hid ((Keeps.refl Nope wr).alloc (.cells #[.int .i64 id, .string tx] 36))
      have B8a := Lib.hid (blk_keeps HI.out.b8 K1.out)
      have hsz : (tcells 43 cd lv false 0 vo).size = 14 := rfl
      obtain ⟨A4, c4, rfl, hlies4, hle4⟩ := Lies.of_own HI.out.own
      have hone : (tcells 43 cd lv false 0 (.slice A4 acc.length c4)).all (·.oneCell') = true := tcells_one _ _ _ _ _ _ rfl
      go_wp2_with (first | (refine wpList_load_row rfl 32 _ rfl g8 rfl 32 _ _ _ B8a.out Try.underlying32 rfl tellSize ?_) | (refine wpList_store_new rfl 32 _ _ rfl rfl _ (tcells 43 cd lv false 0 (.slice A4 acc.length c4)) rfl tellSize rfl hone ?_))
      have KW := Lib.hid (K1.out.alloc (.cells (tcells 43 cd lv false 0 (.slice A4 acc.length c4)) 32))
      have B12 : Hid (((wr.alloc (.cells #[.int .i64 id, .string tx] 36)).alloc (.cells (tcells 43 cd lv false 0 (.slice A4 acc.length c4)) 32)).heap[wr.heap.size + 1]? = some (.cells (tcells 43 cd lv false 0 (.slice A4 acc.length c4)) 32 (0, 0))) := heap_alloc2_new wr _ _
      have B11 : Hid (((wr.alloc (.cells #[.int .i64 id, .string tx] 36)).alloc (.cells (tcells 43 cd lv false 0 (.slice A4 acc.length c4)) 32)).heap[wr.heap.size]? = some (.cells #[.int .i64 id, .string tx] 36 (0, 0))) := heap_alloc2_old wr _ _
      have HI0 := Lib.hid (HI.out.more KW.out)
      have hg8r : g8 < wr.heap.size := heap_lt HI.out.b8
      generalize ((wr.alloc (.cells #[.int .i64 id, .string tx] 36)).alloc (.cells (tcells 43 cd lv false 0 (.slice A4 acc.length c4)) 32)) = W0 at *
      have HSZ : Hid (wr.heap.size ≤ wr.heap.size + 1) := Nat.le_succ _
      clear K1 B8a hlies4 c1 c2
      have hg12 : g8 < wr.heap.size + 1 := by omega
      have hgw : wr.heap.size + 1 < W0.heap.size := heap_lt B12.out
      have hg11 : wr.heap.size + 1 - 1 = wr.heap.size := by omega
      obtain ⟨A5, c5, e5, hlies5, hle5⟩ := Lies.of_own HI0.out.own
      injection e5 with e5a _ e5c
      subst e5a e5c
      have HL5 := Lib.hid hlies5
      clear hlies5
      generalize hgq : wr.heap.size = g11 at *
      replace HSZ : Hid (wr.heap.size ≤ g11 + 1) := by rw [hgq]; exact HSZ
      clear hgq
      go_cut [58] from 58 to 78 (fun s58 wx => s58 = .int .i64 (k : Int) ∧ ∃ vn, AnsMid w g6 g8 (g11 + 1) cd lv (some { block := b, off := o }) lb acc (.slice A4 acc.length c4) (id, tx) vn wx)
      case first =>
        obtain ⟨c8, f8⟩ := cells_at HI0.out.b8
        obtain ⟨c11, f11⟩ := cells_at B11.out
        obtain ⟨c12, f12⟩ := cells_at B12.out
        have c8n : ∀ ob' : Obj, (W0.alloc ob').cell? ⟨g8, 13, none⟩ = some (.slice A4 acc.length c4) := fun ob' => (World.cell?_alloc_lt W0 ob' ⟨g8, 13, none⟩ (by show g8 < _; omega)).trans (c8 13)
        have hacc : acc.length ≤ 1000000 := Nat.le_trans HAC.out.1 (by omega)
        have hb1 : ∀ u ∈ obCells (id, tx), u.oneCell' = true := by intro u hu; simp [obCells] at hu; rcases hu with rfl | rfl <;> rfl
        go_region_law (first
          | (go_simp; refine (cloneObs_any A4 c4 acc W0.drew (HL5.out.keeps (Keeps.refl Nope W0).drew) hacc).mono ?_
             rintro e w5 ⟨v5, rfl, hown5, hk5⟩
             have KC := Lib.hid ((Keeps.refl Nope W0).drew.trans hk5)
             have BC := Lib.hid (blk_keeps B11.out KC.out)
             obtain ⟨c11c, f11c⟩ := cells_at BC.out)
          | (go_simp; refine (cloneObs_any A4 c4 acc (W0.alloc (.cells #[.int .i64 id, .string tx] 36)).drew (HL5.out.keeps ((Keeps.refl Nope W0).alloc _).drew) hacc).mono ?_
             rintro e w5 ⟨v5, rfl, hown5, hk5⟩
             have KC := Lib.hid (((Keeps.refl Nope W0).alloc (.cells #[.int .i64 id, .string tx] 36)).drew.trans hk5)
             have BN := Lib.hid (blk_keeps (w := (W0.alloc (.cells #[.int .i64 id, .string tx] 36)).drew) (heap_alloc_new W0 _) hk5))
          | (refine step_app rfl _ _ 24 36 _ 2 24 rfl Try.underlying24 obInfo rfl (by omega) W0.drew.heap.size v5 acc.length (obsCells acc) (some ⟨w5.heap.size, 0, none⟩) 1 1 (obCells (id, tx)) rfl rfl (own_more hown5 ((Keeps.refl Nope w5).alloc _)) (lies_block (heap_alloc_new w5 _)) rfl hb1 (by omega) (by omega) (((Keeps.refl Nope W0).drew.trans hk5).alloc _).size ?_
             intro v6 w6 hown6 hk6
             have KD := Lib.hid ((KC.out.alloc (.cells #[.int .i64 id, .string tx] 36)).fresh hk6 (fun g hg => own_from hown5 g hg))
             have B12d := Lib.hid (blk_keeps B12.out KD.out)
             obtain ⟨A6, c6, rfl, hl6, hle6⟩ := Lies.of_own hown6
             rw [obs_snoc] at hown6
             have HO6 := Lib.hid (own_lower hown6 (Nat.succ_le_of_lt hgw))
             obtain ⟨c12d, f12d⟩ := cells_at B12d.out)
          | (refine step_app rfl _ _ 24 36 _ 2 24 rfl Try.underlying24 obInfo rfl (by omega) (W0.alloc (.cells #[.int .i64 id, .string tx] 36)).drew.heap.size v5 acc.length (obsCells acc) (some ⟨W0.heap.size, 0, none⟩) 1 1 (obCells (id, tx)) rfl rfl hown5 (lies_block BN.out) rfl hb1 (by omega) (by omega) hk5.size ?_
             intro v6 w6 hown6 hk6
             have KD := Lib.hid (KC.out.fresh hk6 (fun g hg => Nat.le_trans ((Keeps.refl Nope W0).alloc (.cells #[.int .i64 id, .string tx] 36)).drew.size (own_from hown5 g hg)))
             have B12d := Lib.hid (blk_keeps B12.out KD.out)
             obtain ⟨A6, c6, rfl, hl6, hle6⟩ := Lies.of_own hown6
             rw [obs_snoc] at hown6
             have HO6 := Lib.hid (own_lower hown6 (Nat.le_trans (Nat.succ_le_of_lt hgw) ((Keeps.refl Nope W0).alloc (.cells #[.int .i64 id, .string tx] 36)).drew.size))
             obtain ⟨c12d, f12d⟩ := cells_at B12d.out))
        all_goals
          go_wp2_with (fail)
          go_meet
          case rel => exact ⟨rfl, _, ansMid_end HI KW KD HSZ hgw (by omega) (by rw [hg11]; exact B11.out) B12d HO6⟩
      case rest =>
        obtain ⟨rfl, vn, HM⟩ := hcut
        clear HI KW HI0 HL5 B11 B12 hle5 hle4
        replace HM := Lib.hid HM
        obtain ⟨A7, c7, e7, hl7, hle7⟩ := Lies.of_own HM.out.own2
        subst e7
        have HL7 := Lib.hid hl7
        clear hl7
        have BM := HM.out.b12
        have hsz2 : (acc ++ [(id, tx)]).length = acc.length + 1 := by simp
        go_wp2_with (refine wpList_load_row rfl 32 _ rfl (g11 + 1) rfl 32 _ _ _ BM Try.underlying32 rfl tellSize ?_)
        rw [← hsz2]
        refine (fits_any cd lv 0 false A7 c7 (acc ++ [(id, tx)]) _ HCD.out HLV.out rfl HL7.out (fun o' ho' => ?_) ?_).mono ?_
        · rcases List.mem_append.1 ho' with h | h
          · exact HAC.out.2 _ h
          · obtain rfl : o' = (id, tx) := by simpa using h
            exact HSO.out
        · rw [hsz2]; have := HAC.out.1; omega
        rintro e w7 ⟨rfl, hk7⟩
        have HM7 := Lib.hid (HM.out.more hk7)
        clear hk7 HM HL7 BM hle7
        by_cases hok : objsOk 7 (acc ++ [(id, tx)]) = true
        · rw [if_pos hok] at HD
          have B12 := HM7.out.b12
          have B8 := HM7.out.inv.b8
          go_wp2_with (first | (refine wpList_load_row rfl 32 _ rfl (g11 + 1) rfl 32 _ _ _ B12 Try.underlying32 rfl tellSize ?_) | (refine wpList_store_row rfl 32 _ _ rfl g8 (tcells 43 cd lv false 0 (.slice A7 (acc.length + 1) c7)) rfl rfl 32 _ B8 tellSize rfl (tcells_one _ _ _ _ _ _ rfl) ?_))
          go_roundw
          case rel =>
            refine ⟨k + 1, acc ++ [(id, tx)], .slice A7 (acc.length + 1) c7, by omega, ansInv_next HM7 hg12 (by omega) HG8, HD.out, ⟨by rw [hsz2]; have := HAC.out.1; omega, fun o' ho' => ?_⟩, by simp⟩
            rcases List.mem_append.1 ho' with h | h
            · exact HAC.out.2 _ h
            · obtain rfl : o' = (id, tx) := by simpa using h
              exact HSO.out
          case measure => simp [intOf]; omega
        · rw [if_neg hok] at HD
          obtain ⟨c11, f11⟩ := cells_at HM7.out.b11
          obtain ⟨c8, f8⟩ := cells_at HM7.out.inv.b8
          rw [hg11] at c11
          have hok2 : objsOk 7 (acc ++ [(id, tx)]) = false := by simpa using hok
          go_wp2_with (fail)
          have hne1 : ¬ (g8 = g11) := by omega
          have hne2 : ¬ (g11 = g8) := by omega
          go_region
          have hs1 := heap_setCell_same w7 g8 11 _ _ (.bool true) HM7.out.inv.b8
          have hs2 := heap_setCell_same (w7.setCell ⟨g8, 11, none⟩ (.bool true)) g8 12 _ _ (.int .i64 id) hs1
          have hs6 := (heap_setCell_other (w7.setCell ⟨g8, 11, none⟩ (.bool true)) ⟨g8, 12, none⟩ g6 (.int .i64 id) (by show g6 ≠ g8; omega)).trans ((heap_setCell_other w7 ⟨g8, 11, none⟩ g6 (.bool true) (by show g6 ≠ g8; omega)).trans HM7.out.inv.b6)
          have HKS := Lib.hid (((Keeps.refl (Only g8) w7).setCell (p := ⟨g8, 11, none⟩) (.inr (show Only g8 g8 from rfl)) (.bool true)).setCell (p := ⟨g8, 12, none⟩) (.inr (show Only g8 g8 from rfl)) (.int .i64 id))
          have HK8 := Lib.hid ((HM7.out.inv.keeps.setCell (p := ⟨g8, 11, none⟩) (.inl HG8.out) (.bool true)).setCell (p := ⟨g8, 12, none⟩) (.inl HG8.out) (.int .i64 id))
          generalize ((w7.setCell { block := g8, off := 11 } (Value.bool true)).setCell { block := g8, off := 12 } (.int .i64 id)) = w9 at *
          clear hs1
          go_wp2_with (first | (refine wpList_load_row rfl 32 _ rfl g8 rfl 32 _ _ _ hs2 Try.underlying32 rfl tellSize ?_) | (refine wpList_store_row rfl 32 _ _ rfl g6 (tcells 43 cd lv true id (.slice A4 acc.length c4)) rfl rfl 32 _ hs6 tellSize rfl (tcells_one _ _ _ _ _ _ rfl) ?_))
          have hb := (cells_at (setRow_heap w9.drew g6 _ (tcells 43 cd lv true id (.slice A4 acc.length c4)) _ _ hs6)).1
          refine bodyPost_ret (v := .tuple #[(.agg #[.int .i64 43, .int .i64 0, (.slice none 0 0), (.slice none 0 0), .int .i64 0, .int .i64 0, .int .u16 0, .int .u16 0, .int .u16 0, .int .i64 cd, .int .i64 lv, .bool true, .int .i64 id, (.slice A4 acc.length c4)]), .int .i64 0]) (by simp [results, Try.results10, go_sem, hb]) rfl ?_
          rw [HD.out]
          refine ⟨_, rfl, ?_, ?_⟩
          · refine own_keeps (own_keeps (own_lower HM7.out.inv.own (Nat.le_succ_of_le HG8.out)) HKS.out.drew (fun g hg e => ?_)) ((Keeps.refl (Only g6) w9.drew).setRow (.inr (show Only g6 g6 from rfl)) _) (fun g hg e => ?_)
            · have h2 : g = g8 := e
              have h3 := own_from HM7.out.inv.own g hg
              omega
            · have h2 : g = g6 := e
              have h3 := own_from HM7.out.inv.own g hg
              omega
          · exact HK8.out.drew.setRow (.inl HG.out) _
    · have hke : k = nb := by omega
      subst hke
      obtain ⟨A4, c4, rfl, hlies4, hle4⟩ := Lies.of_own HI.out.own
      have B8 := HI.out.b8
      have B6 := HI.out.b6
      go_wp2_with (first | (refine wpList_load_row rfl 32 _ rfl g8 rfl 32 _ _ _ B8 Try.underlying32 rfl tellSize ?_) | (refine wpList_store_row rfl 32 _ _ rfl g6 (tcells 43 cd lv false 0 (.slice A4 acc.length c4)) rfl rfl 32 _ B6 tellSize rfl (tcells_one _ _ _ _ _ _ rfl) ?_))
      have hb := (cells_at (setRow_heap _ g6 _ (tcells 43 cd lv false 0 (.slice A4 acc.length c4)) _ _ B6)).1
      refine bodyPost_ret (v := .tuple #[(.agg #[.int .i64 43, .int .i64 0, (.slice none 0 0), (.slice none 0 0), .int .i64 0, .int .i64 0, .int .u16 0, .int .u16 0, .int .u16 0, .int .i64 cd, .int .i64 lv, .bool false, .int .i64 0, (.slice A4 acc.length c4)]), .int .i64 0]) (by simp [results, Try.results10, go_sem, hb]) rfl ?_
      have hr : r = (acc, none) := by
        rw [HRK.out, List.drop_of_length_le (by rw [← HN.out]; omega)]; rfl
      rw [hr]
      refine ⟨_, rfl, ?_, ?_⟩
      · refine own_keeps (own_lower HI.out.own (Nat.le_succ_of_le HG8.out)) ((Keeps.refl (Only g6) _).setRow (.inr (show Only g6 g6 from rfl)) _) (fun g hg e => ?_)
        have h2 : g = g6 := e
        have h3 := own_from HI.out.own g hg
        omega
      · exact HI.out.keeps.setRow (.inl HG.out) _
end Go.Proofs.Ytjiodnilhfpikaa

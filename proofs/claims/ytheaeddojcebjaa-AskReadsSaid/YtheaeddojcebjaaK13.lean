/-
  What aop says is so: copy, clear, bytes as a text.
-/
import Derived.Test.YtheaeddojcebjaaK12
set_option linter.unusedVariables false
set_option linter.unusedSimpArgs false
namespace Go.Proofs.Ytheaeddojcebjaa
open Go.RowKit

section
variable {P : Program} {N : Nat} {o : Oper} {ρ : Env} {ts : List Nat} {hl : List Ob} {p : Prop} {s : Res}
/-- Rows spliced into a list's block. -/
theorem splice_rows {w : World} {g : Gh} {h : Nat → Ob} {id : Nat} {l : Loc} {sz : Nat} {rows mid : List (List D)} {arr : Array Value} {ty : TypeId} {off k : Nat} {news : Array Value} {X : Array Value} (hR : Rl w g h) (hob : h id = .arr sz rows) (hsz : 0 < sz) (m1 : g.μ id = some l) (m2 : l.sz = sz)
    (hnn : l.nil = false) (hle : rows.length ≤ l.tot) (hmx : l.tot ≤ maxLen) (m6 : ∀ b, g.fp id b ↔ b = l.blk) (m3 : w.heap[l.blk]? = some (.cells arr ty (0, 0))) (m4 : arr.size = l.tot * sz) (m5 : RowsIn w g.I arr sz rows)
    (hmid : mid.length = k) (hk : off + k ≤ rows.length) (hn : news.size = k * sz) (hnr : RowsIn w g.I news sz mid) (hX : (arr.toList.take (off * sz) ++ news.toList ++ arr.toList.drop (off * sz + k * sz)).toArray = X) (base : Nat) (v : V) (rd : List Nat) :
    Rl (w.setRow l.blk X) g (Res.app { v := v, wr := [(id, .arr sz (rows.take off ++ mid ++ rows.drop (off + k)))], rd := rd } base h) ∧
      Go1 w g h [id] base 0 (w.setRow l.blk X) g (Res.app { v := v, wr := [(id, .arr sz (rows.take off ++ mid ++ rows.drop (off + k)))], rd := rd } base h) := by
  have hlive : (h id).live = true := by rw [hob]; rfl
  have hkp : Keeps (g.fp id) w (w.setRow l.blk X) := (Keeps.refl _ _).setRow (.inr ((m6 _).2 rfl)) _
  have hsm : Same g.I w (w.setRow l.blk X) := Same.of_keeps hkp hR.lt (fun b hb hf => hR.imm id b hlive hf hb)
  have hfit : off * sz + k * sz ≤ arr.size := by rw [m4, ← Nat.add_mul]; exact Nat.mul_le_mul_right _ (by omega)
  have hXg : ∀ q, X[q]? = if off * sz ≤ q ∧ q < off * sz + k * sz then news[q - off * sz]? else arr[q]? := fun q => by
    have := splice_get arr.toList news.toList (off * sz) (by rw [Array.length_toList, Array.length_toList, hn]; exact hfit) q
    rw [Array.length_toList, hn] at this
    rw [← hX, List.getElem?_toArray, this]
    simp
  have hXs : X.size = l.tot * sz := by rw [← hX, ← m4]; simp [hn]; omega
  refine turn1 hR hlive hkp (.arr sz (rows.take off ++ mid ++ rows.drop (off + k))) ⟨hsz, l, m1, m2, .inr ⟨hnn, by simp [hmid]; omega, hmx, m6, X, ty, setRow_heap w l.blk arr X ty _ m3, hXs, fun p r hr => ?_⟩⟩ v rd
  have hout : ∀ (q : Nat) r, rows[q]? = some r → (q < off ∨ off + k ≤ q) → r.length = sz ∧ ∀ (j : Nat) t, r[j]? = some t → ∃ v, X[q * sz + j]? = some v ∧ Rd (w.setRow l.blk X) g.I v t := fun q r hr hq => by
    obtain ⟨h1, h2⟩ := m5 q r hr
    refine ⟨h1, fun j t hj => ?_⟩
    have hjl := (List.getElem?_eq_some_iff.1 hj).1
    obtain ⟨v, v1, v2⟩ := h2 j t hj
    refine ⟨v, ?_, v2.more hsm (fun _ h => h)⟩
    rw [hXg, if_neg ?_]
    · exact v1
    · rw [← Nat.add_mul]
      rintro ⟨c1, c2⟩
      rcases hq with hq | hq
      · have : (q + 1) * sz ≤ off * sz := Nat.mul_le_mul_right _ (by omega)
        rw [Nat.add_mul] at this
        omega
      · have : (off + k) * sz ≤ q * sz := Nat.mul_le_mul_right _ (by omega)
        omega
  by_cases c1 : p < off
  · rw [List.append_assoc, List.getElem?_append_left (by simp; omega), List.getElem?_take_of_lt c1] at hr
    exact hout p r hr (.inl c1)
  · by_cases c2 : p < off + k
    · rw [List.append_assoc, List.getElem?_append_right (by simp; omega), List.getElem?_append_left (by simp [hmid]; omega)] at hr
      have hlt : min off rows.length = off := by omega
      simp only [List.length_take, hlt] at hr
      obtain ⟨h1, h2⟩ := hnr _ r hr
      refine ⟨h1, fun j t hj => ?_⟩
      obtain ⟨v, v1, v2⟩ := h2 j t hj
      have hvl := (Array.getElem?_eq_some_iff.1 v1).1
      rw [hn] at hvl
      have e : (p - off) * sz + j = p * sz + j - off * sz := by
        rw [Nat.sub_mul]
        have : off * sz ≤ p * sz := Nat.mul_le_mul_right _ (by omega)
        omega
      have hge : off * sz ≤ p * sz := Nat.mul_le_mul_right _ (by omega)
      refine ⟨v, ?_, v2.more hsm (fun _ h => h)⟩
      rw [hXg, if_pos (by rw [e] at hvl; omega), ← e]
      exact v1
    · rw [List.getElem?_append_right (by simp [hmid]; omega), List.getElem?_drop] at hr
      have e : off + k + (p - (rows.take off ++ mid).length) = p := by simp [hmid]; omega
      rw [e] at hr
      exact hout p r hr (.inr (by omega))
theorem RowsIn.cut {w : World} {I : Nat → Prop} {news : Array Value} {sz m k : Nat} {rows : List (List D)} (h : RowsIn w I news sz (rows.take m)) (hk : k ≤ m) : RowsIn w I (news.extract 0 (k * sz)) sz (rows.take k) := by
  intro p r hr
  rw [List.getElem?_take] at hr
  split at hr
  · rename_i hp
    obtain ⟨h1, h2⟩ := h p r (by rw [List.getElem?_take_of_lt (by omega)]; exact hr)
    refine ⟨h1, fun j t hj => ?_⟩
    have hjl := (List.getElem?_eq_some_iff.1 hj).1
    have : (p + 1) * sz ≤ k * sz := Nat.mul_le_mul_right _ hp
    rw [Nat.add_mul] at this
    obtain ⟨v, v1, v2⟩ := h2 j t hj
    have hvl := (Array.getElem?_eq_some_iff.1 v1).1
    refine ⟨v, ?_, v2⟩
    rw [Array.getElem?_extract, if_pos (by omega), Nat.zero_add]
    exact v1
  · cases hr
theorem s_copy {c : Call} {dT e : TypeId} {x y : Operand} {ax ay : AX} {sz : Nat} (ho : o.op = .call c) (hc : c.callee = .builtin .copy) (ht0 : c.argTypes[0]? = some dT) (hargs : c.args.toList = [x, y])
    (h1 : trX x = some ax) (h2 : trX y = some ay) (t1 : ∀ t ∈ ax.ts, t ∈ ts) (t2 : ∀ t ∈ ay.ts, t ∈ ts) (hu : P.underlying dT = some (.slice e)) (hs : sizeB P e = some sz) (hsz : 0 < sz) (h : aop (.copy sz ax ay) ρ hl = some (p, s)) (hp : p) : OpR P N o ρ ts hl s := by
  have ha : c.args = #[x, y] := by rw [← Array.toArray_toList (xs := c.args), hargs]
  simp only [aop] at h
  split at h
  · rename_i id off n sz' m src rd e1 e2
    split at h
    · rename_i sz0 rows hid
      cases h
      obtain ⟨p1, rfl, p2, p3⟩ := hp
      cases hvy : ev ρ ay with
      | none => simp [hvy] at e2
      | some vy =>
        simp [hvy] at e2
        intro a w g hh hN hrd hnew hR he
        have r1 := rv_c (ev_ok h1 he t1 e1)
        have r2 := ev_ok h2 he t2 hvy
        have hob : hh id = .arr sz0 rows := (hrd id (.inl (by simp))).trans hid
        have hlive : (hh id).live = true := by rw [hob]; rfl
        obtain ⟨_, l, m1, m2, hcase⟩ := hob ▸ hR.objs id hlive
        obtain ⟨l1, news, n1, n2, n3, n4⟩ := shows_ok (P := P) hR e2 (fun i hi => hrd i (.inl (by simp [hi]))) r2 p3 sz0 p1
        generalize hxv : a.eval x = u at *
        have hex : ∀ A q cp v w', u = .slice A q cp → (Builtin.copy_ #[dT, 0] o.type #[.slice A q cp, a.eval y]).run P w = .ok v w' → (execOp a.eval o).run P w = .ok (.value v) w' := by
          rintro A q cp v w' rfl hr
          have e : Builtin.copy_ c.argTypes o.type #[.slice A q cp, a.eval y] = Builtin.copy_ #[dT, 0] o.type #[.slice A q cp, a.eval y] := by simp only [Builtin.copy_, ht0]; rfl
          simp [execOp, ho, resolve, hc, invoke, builtin, ha, hxv, e, hr]
        cases r1 with
        | slz _ A hμ ho' =>
          rename_i l'
          obtain rfl : l = l' := Option.some.inj (m1.symm.trans hμ)
          have hrun : (Builtin.copy_ #[dT, 0] o.type #[.slice A 0 0, a.eval y]).run P w = .ok (.int .i64 0) w := by
            have h4 := n4 0 (Nat.zero_le _) w rfl
            have hmin : Nat.min m 0 = 0 := Nat.min_zero _
            cases A with
            | none => simp [Builtin.copy_, run_underlying hu, l1 w, run_sizeB hs, h4, goInt]
            | some a' => simp [Builtin.copy_, run_underlying hu, l1 w, run_sizeB hs, h4, goInt, storeCells]
          unfold Oper.wp
          rw [hex _ _ _ _ _ rfl hrun]
          have hmz : min m 0 = 0 := Nat.min_zero _
          have hsame : rows.take off ++ src.take (min m 0) ++ rows.drop (off + min m 0) = rows := by rw [hmz]; simp
          rw [hsame, hmz]
          obtain ⟨q1, q2⟩ := turn1 (base := hl.length) hR hlive (Keeps.refl _ w) (.arr sz0 rows) (hob ▸ hR.objs id hlive) (vI .i64 (0 : Nat)) (id :: rd)
          exact ⟨_, g, rfl, rv_i _ _, q1, q2⟩
        | sl _ _ hμ hn ho' =>
          rename_i l'
          obtain rfl : l = l' := Option.some.inj (m1.symm.trans hμ)
          rcases hcase with ⟨hc', _⟩ | ⟨hnn, hle, hmx, m6, arr, ty, m3, m4, m5⟩
          · rw [hc'] at hn; cases hn
          · have hsrc : (src.take (min m n)).length = min m n := by rw [List.length_take]; omega
            have hnl : (news.extract 0 (min m n * sz0)).size = min m n * sz0 := by
              have : min m n * sz0 ≤ m * sz0 := Nat.mul_le_mul_right _ (by omega)
              simp; omega
            have hfit : off * sz0 + min m n * sz0 ≤ arr.size := by rw [m4, ← Nat.add_mul]; exact Nat.mul_le_mul_right _ (by omega)
            have hst := run_storeCells_at (P := P) l.blk (off * sz0) ty (news.extract 0 (min m n * sz0)).toList 0 arr w m3 (by rw [Array.length_toList, hnl]; omega) (fun v hv => n3 v (by
              rw [Array.toList_extract] at hv
              exact List.mem_of_mem_take (i := min m n * sz0) (by simpa [List.extract_eq_take_drop] using hv)))
            simp only [Nat.add_zero, Array.length_toList, hnl] at hst
            generalize hX : (arr.toList.take (off * sz0) ++ (news.extract 0 (min m n * sz0)).toList ++ arr.toList.drop (off * sz0 + min m n * sz0)).toArray = X at hst
            have hrun : (Builtin.copy_ #[dT, 0] o.type #[.slice (some ⟨l.blk, off * l.sz, none⟩) n (l.tot - off), a.eval y]).run P w = .ok (.int .i64 (min m n : Nat)) (w.setRow l.blk X) := by
              have h4 := n4 (min m n) (by omega) w rfl
              have hmin : Nat.min m n = min m n := rfl
              rw [m2]
              generalize news.extract 0 (min m n * sz0) = Z at h4 hst
              simp [Builtin.copy_, run_underlying hu, l1 w, run_sizeB hs, hmin, h4, hst, goInt]
            unfold Oper.wp
            rw [hex _ _ _ _ _ rfl hrun]
            obtain ⟨q1, q2⟩ := splice_rows hR hob hsz m1 m2 hnn hle hmx m6 m3 m4 m5 hsrc (by omega) hnl (n2.cut (by omega)) hX hl.length (vI .i64 (min m n : Nat)) (id :: rd)
            exact ⟨_, g, rfl, rv_i _ _, q1, q2⟩
    · cases h
  · cases h
theorem s_clear {c : Call} {dT e : TypeId} {x : Operand} {ax : AX} {sz : Nat} {zero : List D} (ho : o.op = .call c) (hc : c.callee = .builtin .clear) (ht0 : c.argTypes[0]? = some dT) (hargs : c.args.toList = [x])
    (h1 : trX x = some ax) (t1 : ∀ t ∈ ax.ts, t ∈ ts) (hu : P.underlying dT = some (.slice e)) (hs : sizeB P e = some sz) (hz : zeroD P e = some zero) (hsz : 0 < sz) (hzl : zero.length = sz) (h : aop (.clear sz zero ax) ρ hl = some (p, s)) (hp : p) : OpR P N o ρ ts hl s := by
  have ha : c.args = #[x] := by rw [← Array.toArray_toList (xs := c.args), hargs]
  simp only [aop] at h
  split at h
  · rename_i id off n e1
    split at h
    · rename_i sz0 rows hid
      cases h
      obtain ⟨rfl, p2⟩ := hp
      intro a w g hh hN hrd hnew hR he
      have r1 := rv_c (ev_ok h1 he t1 e1)
      have hob : hh id = .arr sz0 rows := (hrd id (.inl (by simp))).trans hid
      have hlive : (hh id).live = true := by rw [hob]; rfl
      obtain ⟨_, l, m1, m2, hcase⟩ := hob ▸ hR.objs id hlive
      obtain ⟨z, z1, z2, z3⟩ := zeroD_ok hz
      generalize hxv : a.eval x = u at *
      have hex : ∀ v w', (Builtin.clear_ #[dT] o.type #[u]).run P w = .ok v w' → (execOp a.eval o).run P w = .ok (.value v) w' := by
        intro v w' hr
        have e : Builtin.clear_ c.argTypes o.type #[u] = Builtin.clear_ #[dT] o.type #[u] := by simp [Builtin.clear_, ht0]
        simp [execOp, ho, resolve, hc, invoke, builtin, ha, hxv, e, hr]
      have htup : RV w g (.tuple #[]) (.tup []) := .tup #[] [] rfl (fun j e hj => by simp at hj)
      have zero_case : n = 0 → (∃ A cp, u = .slice A 0 cp) → o.wp P a w (fun a' w' => ∃ u g', a' = a.put o.dst u ∧ RV w' g' u (.tup []) ∧ Rl w' g' (Res.app { v := .tup [], wr := [(id, .arr sz0 (rows.take off ++ List.replicate n zero ++ rows.drop (off + n)))], rd := [id] } hl.length hh) ∧
          Go1 w g hh [id] hl.length 0 w' g' (Res.app { v := .tup [], wr := [(id, .arr sz0 (rows.take off ++ List.replicate n zero ++ rows.drop (off + n)))], rd := [id] } hl.length hh)) (fun _ _ _ => False) := by
        rintro rfl ⟨A, cp, rfl⟩
        have hrun : (Builtin.clear_ #[dT] o.type #[.slice A 0 cp]).run P w = .ok (.tuple #[]) w := by cases A <;> simp [Builtin.clear_, run_underlying hu]
        unfold Oper.wp
        rw [hex _ _ hrun]
        have hsame : rows.take off ++ List.replicate 0 zero ++ rows.drop (off + 0) = rows := by simp
        rw [hsame]
        obtain ⟨q1, q2⟩ := turn1 (base := hl.length) hR hlive (Keeps.refl _ w) (.arr sz0 rows) (hob ▸ hR.objs id hlive) (.tup []) [id]
        exact ⟨_, g, rfl, htup, q1, q2⟩
      cases r1 with
      | slz _ A hμ ho' => exact zero_case rfl ⟨A, 0, rfl⟩
      | sl _ _ hμ hn ho' =>
        rename_i l'
        obtain rfl : l = l' := Option.some.inj (m1.symm.trans hμ)
        rcases hcase with ⟨hc', _⟩ | ⟨hnn, hle, hmx, m6, arr, ty, m3, m4, m5⟩
        · rw [hc'] at hn; cases hn
        · rcases Nat.eq_zero_or_pos n with rfl | hpos
          · exact zero_case rfl ⟨_, _, rfl⟩
          · obtain ⟨q, rfl⟩ : ∃ q, n = q + 1 := ⟨n - 1, by omega⟩
            have hnl : (Builtin.zeroCells z.cells (q + 1)).size = (q + 1) * sz0 := by rw [zeroCells_length, z2, hzl]
            have hfit : off * sz0 + (q + 1) * sz0 ≤ arr.size := by rw [m4, ← Nat.add_mul]; exact Nat.mul_le_mul_right _ (by omega)
            have hzo : ∀ v ∈ z.cells, v.oneCell' = true := fun v hv => by
              obtain ⟨j, hj, rfl⟩ := Array.mem_iff_getElem.1 hv
              have hj' : j < zero.length := by rw [← z2]; exact hj
              obtain ⟨u', u1, u2⟩ := z3 w g.I j _ (List.getElem?_eq_getElem hj')
              rw [Array.getElem?_eq_getElem hj] at u1
              injection u1 with u1
              rw [u1]; exact u2.one
            have hst := run_storeCells_at (P := P) l.blk (off * sz0) ty (Builtin.zeroCells z.cells (q + 1)).toList 0 arr w m3 (by rw [Array.length_toList, hnl]; omega) (zeroCells_one _ _ hzo (fun _ => by rw [z2, hzl]; exact hsz))
            simp only [Nat.add_zero, Array.length_toList, hnl] at hst
            generalize hX : (arr.toList.take (off * sz0) ++ (Builtin.zeroCells z.cells (q + 1)).toList ++ arr.toList.drop (off * sz0 + (q + 1) * sz0)).toArray = X at hst
            have hrun : (Builtin.clear_ #[dT] o.type #[.slice (some ⟨l.blk, off * l.sz, none⟩) (q + 1) (l.tot - off)]).run P w = .ok (.tuple #[]) (w.setRow l.blk X) := by
              rw [m2]
              simp [Builtin.clear_, run_underlying hu, z1 w, hst]
            unfold Oper.wp
            rw [hex _ _ hrun]
            have hzr : RowsIn w g.I (Builtin.zeroCells z.cells (q + 1)) sz0 (List.replicate (q + 1) zero) := by
              have := zero_rows (w := w) (g := g) hzl z2 z3 hsz (q + 1) (q + 1) (Nat.le_refl _)
              have e : Builtin.zeroCells z.cells (q + 1) = (Array.range ((q + 1) * sz0)).map (z.cells[· % z.cells.size]!) := by simp [Builtin.zeroCells, z2, hzl]
              rw [e]; exact this
            obtain ⟨q1, q2⟩ := splice_rows hR hob hsz m1 m2 hnn hle hmx m6 m3 m4 m5 (by simp) (by omega) hnl hzr hX hl.length (.tup []) [id]
            exact ⟨_, g, rfl, .tup #[] [] rfl (fun j e hj => by simp at hj), q1, q2⟩
    · cases h
  · cases h
theorem s_bstr {src dst e : TypeId} {x : Operand} {ax : AX} {r : List Int} (ho : o.op = .convert src dst x) (h1 : trX x = some ax) (t1 : ∀ t ∈ ax.ts, t ∈ ts)
    (hs : P.underlying src = some (.slice e)) (hd : P.underlying dst = some .string) (he : P.underlying e = some (.int .u8)) (h : aopb (.bstr ax) ρ hl r = some (p, s)) (hp : p) : OpR P N o ρ ts hl s := by
  simp only [aopb] at h
  split at h
  · rename_i sz m rows rd e1
    cases h
    obtain ⟨p1, p2, p3⟩ := hp
    cases hv : ev ρ ax with
    | none => simp [hv] at e1
    | some vx =>
      simp only [hv, Option.bind_some] at e1
      cases hst : isStr vx with
      | true => simp [hst] at e1
      | false =>
        simp only [hst, cond_false] at e1
        refine OpR.val rfl rfl fun a w g hh hrd hR hE => ?_
        have r1 := ev_ok h1 hE t1 hv
        obtain ⟨l1, news, n1, n2, n3, n4⟩ := shows_ok (P := P) hR e1 hrd r1 p2 1 p1
        have hsl : ∃ A n c, a.eval x = .slice A n c := by
          refine sl_value r1 ?_
          unfold shows at e1
          split at e1
          · exact .inl rfl
          · exact .inr (.inl ⟨_, _, _, rfl⟩)
          · exact .inr (.inr ⟨_, _, _, rfl⟩)
          · simp [isStr] at hst
          · cases e1
        obtain ⟨A, n, cp, hxv⟩ := hsl
        rw [hxv] at l1 n4
        have hnm : n = m := by
          have := l1 w
          simp only [Builtin.lenOf, Sem.run_pure] at this
          injection this
        subst hnm
        have hrl : r.length = n := by
          have := congrArg List.length p3
          simp at this
          omega
        have hnews : news = (r.map (Value.int .u8)).toArray := by
          apply Array.ext (by simp [n1, hrl])
          intro i hi1 hi2
          have hir : i < r.length := by simpa using hi2
          obtain ⟨_, h2⟩ := n2 i [.int .u8 r[i]] (by rw [p3, List.getElem?_map, List.getElem?_eq_getElem hir]; rfl)
          obtain ⟨v, v1, v2⟩ := h2 0 _ rfl
          cases v2
          rw [Nat.mul_one, Nat.add_zero, Array.getElem?_eq_getElem hi1] at v1
          injection v1 with v1
          rw [v1]
          simp
        have hfold : ∀ (l : List Int) (s : ByteArray), l.foldl (fun r n => r.push (UInt8.ofNat n.toNat)) s = ⟨s.data ++ (l.map fun n => UInt8.ofNat n.toNat).toArray⟩ := by
          intro l
          induction l with
          | nil => intro s; simp
          | cons n l ih =>
            intro s
            rw [List.foldl_cons, ih]
            congr 1
            rw [List.map_cons]
            apply Array.ext'
            simp [ByteArray.push]
        have hb : bytesOf r = r.foldl (fun r n => r.push (UInt8.ofNat n.toNat)) ByteArray.empty := by
          rw [hfold]
          simp [bytesOf, ByteArray.empty, ByteArray.emptyWithCapacity]
          rfl
        refine ⟨.string (bytesOf r), ?_, rv_s _⟩
        simp only [execOp, ho, hxv]
        refine run_v ?_
        have h4 := n4 n (Nat.le_refl _) w rfl
        rw [Nat.mul_one, show news.extract 0 n = news from by rw [show n = news.size by rw [n1, Nat.mul_one]]; simp, hnews] at h4
        cases A with
        | none =>
          have : r = [] := by
            simp only [Builtin.firstCells, Sem.run_pure] at h4
            injection h4 with h4
            have := congrArg Array.size h4
            simp at this
            exact List.eq_nil_of_length_eq_zero this.symm
          subst this
          simp [convert, run_underlying hs, run_underlying hd, run_underlying he, Conv.bytesToString, bytesOf, ByteArray.empty, ByteArray.emptyWithCapacity]
          rfl
        | some ad =>
          simp only [Builtin.firstCells, Nat.mul_one] at h4
          have := run_bytesToString (P := P) w ad n cp r h4
          rw [← hb] at this
          simp [convert, run_underlying hs, run_underlying hd, run_underlying he, this]
  · cases h
end
end Go.Proofs.Ytheaeddojcebjaa

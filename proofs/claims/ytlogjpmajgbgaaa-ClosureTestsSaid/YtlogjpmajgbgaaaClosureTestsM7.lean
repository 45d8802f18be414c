/- Parts of the proof: AxNd, RqA, RqB, Cz1m, CzA, Cz2m, CzB, Cl1m, Rq1m, Rq2m, RqC, RqD, ClA, Cl2m, ClB, Cl3m, ClC, Cl4m, ClD, Cz3m, ClE, Cl5m, ClF, Cm2m, Cm1m, CmA, CmB. -/
import Derived.KernelRfl
import Derived.Test.YtlogjpmajgbgaaaProg
import Derived.Test.YtlogjpmajgbgaaaClosureTestsM6
namespace Go.AX
variable {P : Program}
def OpOKs (P : Program) (o : Oper) (ev : Operand → AV) (h : Hp) (nb : Nat) (S : OpR → Prop) : Prop :=
  ∀ (φ : Phi) (A : Nat → Prop) (w : World) (a : Act) (K : Act → World → Prop) (Q : Exit → Act → World → Prop),
    (∀ r, A r → r < w.heap.size ∧ ¬ Mut φ h r) → (∀ x, VR φ A w (ev x) (a.eval x)) → HR φ A w h → (∀ b, nb ≤ b → φ b = none) →
    (∀ R v' w' φ', S R → Eff φ A w h nb R v' w' φ' → K (a.put o.dst v') w') → o.wp P a w K Q
inductive OCont (P : Program) (m : Nat) (ops : Array Oper) : List Oper → St → (St → Prop) → Prop
  | nil {st : St} {k : St → Prop} (h : k st) : OCont P m ops [] st k
  | one {o : Oper} {r : List Oper} {st : St} {k : St → Prop} {S : OpR → Prop} (hg : ∀ kk want, o.guard = some (kk, want) → ∃ g, (ops[kk]?).bind (·.dst) = some g ∧ look st.fr g = .bool want) (hop : OpOKs P o st.ev (nth st.hp) st.hp.length S)
      (hf : ∀ R, S R → R.fits (nth st.hp) ∧ (∀ b, b ∈ R.dead → m ≤ b) ∧ ∀ d, o.dst = some d → d < st.n) (h : ∀ R, S R → OCont P m ops r (st.app o.dst R) k) : OCont P m ops (o :: r) st k
  | skip {o : Oper} {r : List Oper} {st : St} {k : St → Prop} {kk g : Nat} {want : Bool} (hg : o.guard = some (kk, want)) (hk : (ops[kk]?).bind (·.dst) = some g) (hv : look st.fr g = .bool (!want)) (hd : ∀ d, o.dst = some d → d < st.n)
      (h : OCont P m ops r (st.app o.dst { v := .tup [] }) k) : OCont P m ops (o :: r) st k
theorem ocont_sound {m : Nat} {ops : Array Oper} {Q : Exit → Act → World → Prop} {A0 : Nat → Prop} {n0 : Nat} : ∀ {l : List Oper} {st : St} {k : St → Prop}, OCont P m ops l st k →
    ∀ {φ : Phi} {a : Act} {w : World}, m ≤ st.hp.length → Rel A0 n0 m φ st a w →
      (∀ st' φ' a' w', k st' → m ≤ st'.hp.length → Rel A0 n0 m φ' st' a' w' → Tr m φ st.h w φ' st'.h w' → Q .normal a' w') → wpList P ops Q l a w := by
  intro l st k h
  induction h with
  | nil h => intro φ a w hm hr K; exact K _ φ a w h hm hr (.refl _ _ _ _)
  | @one o r st k S hg hop hf h ih =>
    intro φ a w hm hr K
    unfold wpList
    rw [if_pos (wanted_run (φ := φ) (A := Ok A0 n0 φ st.h w) (w := w) fun kk want hk => by
      obtain ⟨g, g1, g2⟩ := hg kk want hk
      exact ⟨g, g1, by rw [← g2]; exact hr.slot g⟩)]
    left
    refine hop φ (Ok A0 n0 φ st.h w) w a _ _ (fun r hA => ⟨hA.2.1, hA.2.2⟩) hr.ev hr.heap hr.out fun R v' w' φ' hS he => ?_
    obtain ⟨f1, f2, f3⟩ := hf R hS
    have hm' : m ≤ (st.app o.dst R).hp.length := by simp [St.app, length_updL, length_mapSome]; omega
    obtain ⟨s1, s2⟩ := hr.step hm f2 f3 f1 he
    exact ih R hS hm' s1 fun st2 φ2 a2 w2 g0 g1 g2 g3 => K st2 φ2 a2 w2 g0 g1 g2 (s2.trans g3)
  | @skip o r st k kk g want hg hk hv hd h ih =>
    intro φ a w hm hr K
    unfold wpList
    rw [if_neg (by rw [wanted_skip hg hk (.inl hv) (hr.slot g)]; simp)]
    have he : Eff φ (Ok A0 n0 φ st.h w) w st.h st.hp.length { v := .tup [] } undef w φ := Eff.skip hr.out
    have hm' : m ≤ (st.app o.dst { v := .tup [] }).hp.length := by simp [St.app, length_updL, length_mapSome]; omega
    obtain ⟨s1, s2⟩ := hr.step hm (fun b hb => by simp at hb) hd (OpR.fits_value _ _) he
    exact ih hm' s1 fun st2 φ2 a2 w2 g0 g1 g2 g3 => K st2 φ2 a2 w2 g0 g1 g2 (s2.trans g3)
set_option linter.unusedVariables false in
theorem T.opsN {m id : Nat} {ops : Array Oper} {st : St} {post : Exit → St → Prop} (h : OCont P m ops ops.toList st (post .normal)) : T P m (.region id ops false) st post :=
  fun A0 n0 φ a w hm hr => wp_region_list (ocont_sound h hm hr fun st' φ' a' w' g0 g1 g2 g3 => ⟨φ', _, g0, g2, g1, g3⟩)
theorem OpOK.s {o : Oper} {ev : Operand → AV} {h : Hp} {nb : Nat} {R : OpR} (hop : OpOK P o ev h nb R) : OpOKs P o ev h nb (fun R' => R' = R) :=
  fun φ A w a K Q h1 h2 h3 h4 h5 => hop φ A w a K Q h1 h2 h3 h4 fun v' w' φ' he => h5 R v' w' φ' rfl he
theorem OCont.val {m : Nat} {ops : Array Oper} {o : Oper} {r : List Oper} {n : Nat} {fr : List (Nat × AV)} {hp : List (Option Blk)} {k : St → Prop} {d : Nat} {v : AV} (hg : ∀ kk want, o.guard = some (kk, want) → ∃ g, (ops[kk]?).bind (·.dst) = some g ∧ look fr g = .bool want) (ho : o.dst = some d) (hd : d < n) (hop : OpOK P o (St.ev ⟨n, fr, hp⟩) (nth hp) hp.length { v }) (h : OCont P m ops r ⟨n, (d, v) :: fr, hp⟩ k) : OCont P m ops (o :: r) ⟨n, fr, hp⟩ k := by
  refine .one hg hop.s (fun R' e => by subst e; exact ⟨OpR.fits_value _ _, fun b hb => by simp at hb, fun d' h' => by rw [ho] at h'; cases h'; exact hd⟩) (fun R' e => ?_)
  subst e
  have e : St.app ⟨n, fr, hp⟩ o.dst { v } = ⟨n, (d, v) :: fr, hp⟩ := by
    unfold St.app; rw [ho]; simp only [put, updL_nil, mapSome, List.append_nil]
  rw [e]; exact h
theorem OCont.skp {m : Nat} {ops : Array Oper} {o : Oper} {r : List Oper} {n : Nat} {fr : List (Nat × AV)} {hp : List (Option Blk)} {k : St → Prop} {d kk g : Nat} {want : Bool} (hg : o.guard = some (kk, want)) (hk : (ops[kk]?).bind (·.dst) = some g) (hv : look fr g = .bool (!want)) (ho : o.dst = some d) (hd : d < n) (h : OCont P m ops r ⟨n, (d, .tup []) :: fr, hp⟩ k) : OCont P m ops (o :: r) ⟨n, fr, hp⟩ k := by
  refine .skip hg hk hv (fun d' h' => by rw [ho] at h'; cases h'; exact hd) ?_
  have e : St.app ⟨n, fr, hp⟩ o.dst { v := .tup [] } = ⟨n, (d, .tup []) :: fr, hp⟩ := by
    unfold St.app; rw [ho]; simp only [put, updL_nil, mapSome, List.append_nil]
  rw [e]; exact h
theorem OCont.new {m : Nat} {ops : Array Oper} {o : Oper} {r : List Oper} {n : Nat} {fr : List (Nat × AV)} {hp : List (Option Blk)} {k : St → Prop} {d : Nat} {v : AV} {blk : Blk} (hg : ∀ kk want, o.guard = some (kk, want) → ∃ g, (ops[kk]?).bind (·.dst) = some g ∧ look fr g = .bool want) (ho : o.dst = some d) (hd : d < n) (hop : OpOK P o (St.ev ⟨n, fr, hp⟩) (nth hp) hp.length { v, new := [blk] }) (h : OCont P m ops r ⟨n, (d, v) :: fr, hp ++ [some blk]⟩ k) : OCont P m ops (o :: r) ⟨n, fr, hp⟩ k := by
  refine .one hg hop.s (fun R' e => by subst e; exact ⟨⟨fun b blk hm => by simp at hm, fun b hm => by simp at hm⟩, fun b hb => by simp at hb, fun d' h' => by rw [ho] at h'; cases h'; exact hd⟩) (fun R' e => ?_)
  subst e
  have e : St.app ⟨n, fr, hp⟩ o.dst { v, new := [blk] } = ⟨n, (d, v) :: fr, hp ++ [some blk]⟩ := by
    unfold St.app; rw [ho]; simp only [put, updL_nil, mapSome]
  rw [e]; exact h
theorem noG {ops : Array Oper} {o : Oper} {fr : List (Nat × AV)} (h : o.guard = none) : ∀ kk want, o.guard = some (kk, want) → ∃ g, (ops[kk]?).bind (·.dst) = some g ∧ look fr g = .bool want := fun kk want e => by rw [h] at e; cases e
theorem isG {ops : Array Oper} {o : Oper} {fr : List (Nat × AV)} {kk g : Nat} {want : Bool} (h : o.guard = some (kk, want)) (hk : (ops[kk]?).bind (·.dst) = some g) (hv : look fr g = .bool want) : ∀ kk want, o.guard = some (kk, want) → ∃ g, (ops[kk]?).bind (·.dst) = some g ∧ look fr g = .bool want := fun kk' want' e => by
  rw [h] at e; cases e; exact ⟨g, hk, hv⟩
theorem run_append_at {w : World} (t ty e : TypeId) (i : TypeInfo) (ht : P.underlying t = some (.slice e)) (hi : P.info? e = some i)
    (g o sLen sCap : Nat) (cur : Array Value) (T : TypeId) (hg : w.heap[g]? = some (.cells cur T (0, 0)))
    (ao : Option Addr) (m c : Nat) (news : List Value) (hl : news.length = m * i.size) (hao : ao = none → m = 0 ∧ c = 0) (hnews : ∀ ad, ao = some ad → ∀ (j : Nat) u, news[j]? = some u → w.cell? (ad.add j) = some u)
    (h1 : ∀ u ∈ news, u.oneCell' = true) (hroom : sLen + m ≤ sCap) (hfit : (o + sLen * i.size) + news.length ≤ cur.size) :
    (Builtin.append_ #[t, t] ty #[.slice (some ⟨g, o, none⟩) sLen sCap, .slice ao m c]).run P w =
      .ok (.slice (some ⟨g, o, none⟩) (sLen + m) sCap) (w.setRow g (cur.toList.take (o + sLen * i.size) ++ news ++ cur.toList.drop ((o + sLen * i.size) + news.length)).toArray) := by
  have hst := run_storeCells_at P g (o + sLen * i.size) T news 0 cur w hg (by simpa using hfit) h1
  simp only [Nat.add_zero] at hst
  have hf : (Builtin.firstCells i.size m (.slice ao m c)).run P w = .ok news.toArray w := by
    cases ao with
    | none =>
      obtain ⟨rfl, rfl⟩ := hao rfl
      have : news = [] := List.eq_nil_of_length_eq_zero (by simpa using hl)
      subst this
      exact run_firstCells_none w i.size 0 0 0
    | some ad => exact run_firstCells_some (P := P) w i.size m ad m c news hl (hnews ad rfl)
  simp [Builtin.append_, run_underlying ht, sizeOf, typeInfo, hi, Builtin.lenOf, hroom, hf, Addr.add_lit, hst]
def QApp (nb b i z : Nat) (es src : List AV) (flat : Bool) (R : OpR) : Prop :=
  ∃ es' i', i' ≤ es'.length ∧ es'.drop i' = es.drop i ++ src ∧ es'.length ≤ es.length + src.length ∧ R = { v := .sl nb i' (es'.length - i'), dead := [b], new := [{ es := es', z, flat }] }
theorem ok_append_q {o : Oper} {ev : Operand → AV} {h : Hp} {nb : Nat} {t : TypeId} {x y : Operand} {e : AV} {z by_ b i n : Nat} {src : List AV} {blk : Blk} {flat : Bool}
    (ho : o.op = .call { callee := .builtin .append, args := #[x, y], argTypes := #[t, t] }) (ht : zeroEl P t = some (e, z, by_))
    (hx : ev x = .sl b i n) (hbl : h b = some blk) (hbz : blk.z = z) (hwr : blk.wr = true) (hin : i + n = blk.es.length)
    (hy : srcOf h (ev y) = some src) (hf : SrcFit h z (ev y)) (hpl : 0 < src.length) (h63 : blk.es.length + src.length ≤ 9223372036854775807) (hb : (blk.es.length + src.length) * by_ ≤ 140737488355328) (hfl : (blk.flat && srcFlat h (ev y)) = flat) :
    OpOKs P o ev h nb (QApp nb b i z blk.es src flat) := by
  intro φ A w ac K Q hA hv hh hn k
  obtain ⟨el, inf, zv, hu, hi, hz, rfl, hsz, hby, hkn, hzl, hone, hpos⟩ := zeroEl_spec ht
  obtain ⟨ao, c, news, hvy, hrow, hao, hnews⟩ := Src.of hh hy hf (hv y) hpos
  have hnl : news.length = src.length * inf.size := by rw [hrow.len, hsz]
  have h1s := hrow.one hpos
  have hzs : zv.cells.size = z := by
    have := ((VR.imm (φ := φ) (A := A) (w := w) _ _ (RT.absV zv)).cr hkn).1
    simp at this; omega
  have hsf := srcFlat_spec hh hy (hv y)
  have wrap : ∀ (R : OpR) (r : Value) (w' : World) (φ' : Phi), QApp nb b i z blk.es src flat R → (Builtin.append_ #[t, t] o.type #[ac.eval x, .slice ao src.length c]).run P w = .ok r w' →
      Eff φ A w h nb R r w' φ' → o.wp P ac w K Q := by
    intro R r w' φ' hR hr he
    unfold Oper.wp
    have hex : (execOp ac.eval o).run P w = .ok (.value r) w' := by
      rw [← hvy] at hr
      generalize ac.eval = ρ at *
      simp [execOp, ho, resolve, invoke, builtin, hr]
    rw [hex]
    exact k R r w' φ' hR he
  have hzero : ∀ n, (Builtin.zeroCells zv.cells n).toList.length = n * z := by intro n; simp [size_zeroCells, hzs]
  have hne : ao ≠ none := fun h0 => by have := (hao h0).1; rw [this] at hpl; exact absurd hpl (Nat.lt_irrefl _)
  obtain ⟨ad, rfl⟩ := Option.ne_none_iff_exists'.1 hne
  have hdt : (blk.es.drop i).take n = blk.es.drop i := by rw [List.take_of_length_le]; rw [List.length_drop]; omega
  have hdl : (blk.es.drop i).length = n := by rw [List.length_drop]; omega
  have hfl2 : flat = true → Noref (blk.es ++ src) := by
    intro hf e' he'
    rw [← hfl] at hf
    simp only [Bool.and_eq_true] at hf
    rcases List.mem_append.1 he' with hm | hm
    · exact hh.flat b blk hbl hf.1 e' hm
    · exact hsf hf.2 e' hm
  have hfl3 : flat = true → Noref (blk.es.drop i ++ src) := fun hf e' he' => hfl2 hf e' (by
    rcases List.mem_append.1 he' with hm | hm
    · exact List.mem_append_left _ (List.mem_of_mem_drop hm)
    · exact List.mem_append_right _ hm)
  have mkQ : QApp nb b i z blk.es src flat { v := .sl nb 0 ((blk.es.drop i ++ src).length), dead := [b], new := [{ es := blk.es.drop i ++ src, z, flat }] } :=
    ⟨blk.es.drop i ++ src, 0, Nat.zero_le _, rfl, by simp only [List.length_append, List.length_drop]; omega, rfl⟩
  have hql : (blk.es.drop i ++ src).length = n + src.length := by rw [List.length_append, hdl]
  -- a new row
  have grown : ∀ (a : Option Addr) (cap : Nat) (us : List Value), ac.eval x = .slice a n cap → Row φ A w z (blk.es.drop i) us → (a = none → n = 0 ∧ cap = 0 ∧ us = []) → (∀ ad, a = some ad → ∀ (j : Nat) u, us[j]? = some u → w.cell? (ad.add j) = some u) → ¬ n + src.length ≤ cap → o.wp P ac w K Q := by
    intro a cap us he hrx ha hus hroom
    have hboth := hrx.append hrow
    have hge := grownCap_ge w (n + src.length) cap el
    have hrun : (Builtin.append_ #[t, t] o.type #[ac.eval x, .slice (some ad) src.length c]).run P w = .ok (.slice (some ⟨w.heap.size, 0, none⟩) (n + src.length) (grownCap w (n + src.length) cap el))
        (w.drew.alloc (.cells (us.toArray ++ news.toArray ++ Builtin.zeroCells zv.cells (grownCap w (n + src.length) cap el - (n + src.length))) el)) := by
      rw [he]
      cases a with
      | none =>
        obtain ⟨rfl, rfl, rfl⟩ := ha rfl
        have := run_append_nil w t o.type el inf zv hu hi hz ad src.length c news hnl (hnews ad rfl) (by omega) (by omega) (by rw [hby]; have := Nat.mul_le_mul_right by_ (Nat.le_add_left src.length blk.es.length); omega)
        simpa using this
      | some a' =>
        exact run_append_grow (P := P) w t o.type el inf zv hu hi hz a' n cap us (by rw [hrx.len, hdl, hsz]) (hus a' rfl) ad src.length c news hnl (hnews ad rfl) (by omega) (by omega) (growslice_fits (by omega) (by rw [hby]; exact Nat.le_trans (Nat.mul_le_mul_right by_ (by omega)) hb))
    refine wrap _ _ _ (upd φ nb (w.heap.size, z)) mkQ hrun ?_
    have := Eff.grow (dead := [b]) (T := el) (n := n + src.length) (cap := grownCap w (n + src.length) cap el) (flat := flat) hfl3 (extra := (Builtin.zeroCells zv.cells (grownCap w (n + src.length) cap el - (n + src.length))).toList) hA hn hboth
      hql.symm hge (by rw [hzero, hboth.len, hql, Nat.sub_mul]; have := Nat.mul_le_mul_right z hge; omega)
    rw [List.append_toArray, toArr, hql]
    exact this
  have h0 := hv x; rw [hx] at h0
  rcases h0.sl_inv with ⟨hn0, a, he⟩ | ⟨r, z', cap, hφ, hnc, hrw, he⟩
  · subst hn0
    have hd0 : blk.es.drop i = [] := List.eq_nil_of_length_eq_zero hdl
    exact grown a 0 [] he (by rw [hd0]; exact ⟨by simp, fun i e he => by simp at he⟩) (fun _ => ⟨rfl, rfl, rfl⟩) (fun _ _ j u hu => by simp at hu) (by omega)
  · obtain ⟨hzz, hmpn, cs, T, hr, hsz', hrow'⟩ := hh.row hbl hφ (.inl (hh.zpos hbl hφ (by omega)))
    have hz' : z' = z := by omega
    subst hz'
    have hrc : (i + cap) * z' ≤ cs.size := by have := hrw; unfold rowSize at this; rw [hr] at this; exact this
    by_cases hroom : n + src.length ≤ cap
    · have hboth := hrow'.append hrow
      have hpos2 : i * z' + n * inf.size = blk.es.length * z' := by rw [hsz, ← Nat.add_mul, hin]
      have hfit : (i * z' + n * inf.size) + news.length ≤ cs.size := by
        rw [hpos2, hnl, hsz, ← Nat.add_mul]; exact Nat.le_trans (Nat.mul_le_mul_right z' (by omega)) hrc
      have hrun := run_append_at (P := P) (w := w) t o.type el inf hu hi r (i * z') n cap cs T hr (some ad) src.length c news hnl (fun h0 => by cases h0) hnews h1s hroom hfit
      rw [hpos2] at hrun hfit
      have hcs' : cs.size = (cs.toList.take (blk.es.length * z') ++ news ++ cs.toList.drop (blk.es.length * z' + news.length)).toArray.size := by simp; omega
      let φ' : Phi := fun b' => if b' = nb then some (r, z') else φ b'
      have hbn : b < nb := by
        rcases Nat.lt_or_ge b nb with h1 | h1
        · exact h1
        · rw [hn b h1] at hφ; cases hφ
      have hφ' : ∀ b x, φ b = some x → φ' b = some x := fun b' x hb' => by
        simp only [φ']; split
        · rename_i he; subst he; rw [hn b' (Nat.le_refl _)] at hb'; cases hb'
        · exact hb'
      have hother : ∀ q, q ≠ r → (w.setRow r (cs.toList.take (blk.es.length * z') ++ news ++ cs.toList.drop (blk.es.length * z' + news.length)).toArray).heap[q]? = w.heap[q]? := fun q hq => setRow_other w r q _ hq
      have hAr : ∀ q, A q → q ≠ r := fun q hq he' => (hA q hq).2 ⟨b, blk, z', hbl, hwr, by rw [he']; exact hφ⟩
      have hrs := rowSize_setRow w r cs _ T _ hr hcs'
      refine wrap { v := .sl nb i ((blk.es ++ src).length - i), dead := [b], new := [{ es := blk.es ++ src, z := z', flat }] } _ _ φ' ⟨blk.es ++ src, i, by simp only [List.length_append]; omega, by rw [List.drop_append_of_le_length (by omega)], by simp, rfl⟩ (by rw [he]; exact hrun) ?_
      refine ⟨⟨rfl, rfl, rfl, by simp, fun q _ hq => hother q fun he' => hq ⟨b, z', .inl (by simp), by rw [he']; exact hφ⟩, hrs⟩, fun b' hb' => ?_, fun b' hb' => ?_, fun b' q z1 hb' h1 => ?_, fun b1 b2 q z1 z2 hb1 hb2 h1 h2 => ?_, ?_, fun b' blk' hm => by simp at hm, fun blk' hm => by simp at hm; subst hm; exact hfl2, fun b' blk' hm => by simp at hm, fun k' blk' hk => ?_⟩
      · simp only [φ']; rw [if_neg (by omega)]
      · simp at hb'; simp only [φ']; rw [if_neg (by omega)]; exact hn b' (by omega)
      · simp only [φ'] at h1
        split at h1
        · simp at h1; right; exact ⟨b, z', blk, by simp, hbl, hwr, by rw [← h1.1]; exact hφ⟩
        · rw [hn b' hb'] at h1; cases h1
      · simp only [φ'] at h1 h2
        by_cases e1 : b1 = nb
        · by_cases e2 : b2 = nb
          · omega
          · rw [if_neg e2, hn b2 hb2] at h2; cases h2
        · rw [if_neg e1, hn b1 hb1] at h1; cases h1
      · have := VR.sl (φ := φ') (A := Grow A φ' nb w (w.setRow r (cs.toList.take (blk.es.length * z') ++ news ++ cs.toList.drop (blk.es.length * z' + news.length)).toArray))
          (w := w.setRow r (cs.toList.take (blk.es.length * z') ++ news ++ cs.toList.drop (blk.es.length * z' + news.length)).toArray) nb i (n + src.length) r z' cap (by simp [φ']) hroom (Nat.le_trans hrw (hrs r))
        rw [show (blk.es ++ src).length - i = n + src.length by simp only [List.length_append]; omega]
        exact this
      · match k', hk with
        | 0, hk =>
          simp at hk; subst hk
          refine .inr (.inl ⟨r, _, T, by simp [φ'], setRow_heap w r cs _ T _ hr, ⟨?_, rfl⟩, fun q e' he' => ?_⟩)
          · rw [← hcs']; simp only [List.length_append]; rw [Nat.add_mul, ← hrow.len]; exact hfit
          · obtain ⟨hl, hc⟩ := hboth.cell q e' he'
            refine ⟨hl, fun j c' hj => ?_⟩
            obtain ⟨g1, u, hu', hvr⟩ := hc j c' hj
            refine ⟨g1, u, ?_, hvr.mono hφ' (fun _ h => .inl h) (fun q hq => hother q (hAr q hq)) hrs⟩
            have hlt := (lsi.1 hu').1
            rw [List.getElem?_toArray, List.getElem?_append_left hlt]; exact hu'
    · obtain ⟨a, c2, us, hvx, hrx, ha, hus⟩ := Src.sl hh hbl h0 hbz (Nat.le_of_eq hin) hpos
      rw [hdt] at hrx ha hvx
      rw [hdl] at hvx
      rw [he] at hvx
      cases hvx
      exact grown _ _ us he hrx (fun h => by cases h) hus hroom
theorem OCont.q {m : Nat} {o : Oper} {r : List Oper} {n d b i z : Nat} {fr : List (Nat × AV)} {hp : List (Option Blk)} {es src : List AV} {flat : Bool} {blk0 : Blk} {k : St → Prop} {ops : Array Oper} (hg : o.guard = none) (ho : o.dst = some d) (hd : d < n)
    (hb : nth hp b = some blk0) (hw : blk0.wr = true) (hm : m ≤ b) (hop : OpOKs P o (St.ev ⟨n, fr, hp⟩) (nth hp) hp.length (QApp hp.length b i z es src flat))
    (h : ∀ es' i', i' ≤ es'.length → es'.drop i' = es.drop i ++ src → es'.length ≤ es.length + src.length → OCont P m ops r ⟨n, (d, .sl hp.length i' (es'.length - i')) :: fr, hp.set b none ++ [some { es := es', z, flat }]⟩ k) : OCont P m ops (o :: r) ⟨n, fr, hp⟩ k := by
  refine .one (noG hg) hop (fun R hR => ?_) fun R hR => ?_
  · obtain ⟨es', i', h1, h2, h3, rfl⟩ := hR
    exact ⟨⟨fun b blk hm => by simp at hm, fun b' hm' => by simp at hm'; subst hm'; exact ⟨⟨blk0, hb, hw⟩, rfl⟩⟩, fun b' hb' => by simp at hb'; subst hb'; exact hm, fun d' h' => by rw [ho] at h'; cases h'; exact hd⟩
  · obtain ⟨es', i', h1, h2, h3, rfl⟩ := hR
    have e : St.app ⟨n, fr, hp⟩ o.dst { v := .sl hp.length i' (es'.length - i'), dead := [b], new := [{ es := es', z, flat }] } = ⟨n, (d, .sl hp.length i' (es'.length - i')) :: fr, hp.set b none ++ [some { es := es', z, flat }]⟩ := by
      unfold St.app; rw [ho]; simp only [put, updL_dead b hp 0 (Nat.zero_le _), mapSome, Nat.sub_zero]
    rw [e]; exact h es' i' h1 h2 h3
end Go.AX
open Go Go.AX Go.Proofs
set_option maxRecDepth 100000
set_option linter.unusedVariables false
set_option linter.unusedSimpArgs false
namespace Go.Proofs.Ytlogjpmajgbgaaa
theorem _root_.Go.AX.OCont.av {P : Program} {m : Nat} {ops : Array Oper} {o : Oper} {r : List Oper} {n d : Nat} {fr : List (Nat × AV)} {hp : List (Option Blk)} {k : St → Prop} (v : AV) (hg : o.guard = none) (ho : o.dst = some d) (hd : Nat.ble (d + 1) n = true) (h : aop P o (St.ev ⟨n, fr, hp⟩) hp .no = some ({ v }, True)) (q : OCont P m ops r ⟨n, (d, v) :: fr, hp⟩ k) : OCont P m ops (o :: r) ⟨n, fr, hp⟩ k := .val (noG hg) ho (nbl hd) (aop_sound h trivial).1 q
def bsA (m : Nat → Bool) (n : Nat) : List AV := (List.range n).map fun k => .bool (m k)
theorem bsA_len (m : Nat → Bool) (n : Nat) : (bsA m n).length = n := by unfold bsA; simp
theorem bsA_get (m : Nat → Bool) {n k : Nat} (h : k < n) : (bsA m n)[k]? = some (.bool (m k)) := by
  unfold bsA; rw [List.getElem?_map, List.getElem?_range h]; rfl
theorem bsA_no (n : Nat) : List.replicate n (AV.bool false) = bsA (fun _ => false) n := by
  unfold bsA; rw [List.map_const', List.length_range]
theorem bsA_set (m : Nat → Bool) (n x : Nat) : (bsA m n).set (0 + x) (.bool true) = bsA (updM m x) n := by
  rw [Nat.zero_add]
  refine List.ext_getElem? fun k => ?_
  rw [List.getElem?_set, bsA_len]
  by_cases hk : k < n
  · rw [bsA_get _ hk, bsA_get _ hk, updM_at]
    by_cases hx : x = k
    · subst hx; rw [if_pos rfl, if_pos hk, if_pos rfl]
    · rw [if_neg hx, if_neg (fun e => hx e.symm)]
  · rw [List.getElem?_eq_none (by rw [bsA_len]; omega), List.getElem?_eq_none (by rw [bsA_len]; omega)]
    split
    · rw [if_neg (by omega)]
    · rfl
theorem tsz4 : tsz Try.prog 4 = some (1, false) := by kernel_rfl
theorem elSz56 : elSz Try.prog 56 = some (none, 1) := by kernel_rfl
noncomputable def rqS (g : List (List Int)) (s : List Bool) (i q b : Nat) (hp : List (Option Blk)) : St := ⟨Try.f104.ntmps, [(0, .lst (gL g)), (1, .lst (boL s)), (7, .sl 0 0 (gL g).length), (8, .sl b i q)], hp⟩
noncomputable def rqJ (g : List (List Int)) (s : List Bool) (i q b : Nat) (x : Int) (k : Nat) (hp : List (Option Blk)) : St := ⟨Try.f104.ntmps, [(0, .lst (gL g)), (1, .lst (boL s)), (7, .sl 0 0 (gL g).length), (8, .sl b i q), (9, .int .i64 x), (10, .int .i64 (k : Int))], hp⟩
structure RqI (g : List (List Int)) (m : Nat → Bool) (es : List AV) (st : List Int) (i b : Nat) (hp : List (Option Blk)) : Prop where
  top : nth hp 0 = some (Blk.mk (bsA m g.length) 1 true true none)
  blk : nth hp b = some (Blk.mk es 1 true true none)
  pos : 1 ≤ b
  dr : es.drop i = st.map (AV.int .i64)
  siz : es.length + cUn m 24 ≤ 24
  le : i ≤ es.length
structure RqX where
  m : Nat → Bool
  es : List AV
  st : List Int
  i : Nat
  b : Nat
  hp : List (Option Blk)
theorem rq_freeze {n N : Nat} {es : List AV} {hp : List (Option Blk)} (h : nth hp 0 = some (Blk.mk es 1 true true none)) (hn : N = es.length) : Ren 0 ⟨n, [(0, .sl 0 0 N)], hp⟩ ⟨n, [(0, .lst es)], []⟩ := by
  refine Ren.of (p := N = es.length ∧ True) [] [0] [0] ?_ ⟨hn, trivial⟩ rfl rfl rfl
  have e : renV [] [0] hp 3 (.sl 0 0 N) = (.lst es, N = es.length) := by
    show (match renS [] [0] hp 0 0 N with | some x => x | none => (AV.unk, True)) = _
    have : renS [] [0] hp 0 0 N = some (.lst es, N = es.length) := by
      unfold renS
      show (match memN [0] 0, nth hp 0 with | true, some blk => _ | _, _ => none) = _
      rw [h]; rfl
    rw [this]
  show (match renH [] [0] hp with | some hp' => _ | none => none) = _
  show some _ = _
  simp only [List.map_cons, List.map_nil, AX.look, Nat.beq_refl, e, List.foldr]
theorem rq_hgt {m : Nat → Bool} {g : List (List Int)} {es : List AV} {st : List Int} {i b : Nat} {hp : List (Option Blk)} (h : RqI g m es st i b hp) : st.length = es.length - i := by
  have := congrArg List.length h.dr
  rw [List.length_drop, List.length_map] at this; exact this.symm
theorem reach_ct {g : List (List Int)} {s : List Bool} (hg : GOk g) (hs : s.length = g.length) {v : Nat} (hv : v < g.length) : CT Try.prog 104 [] [.lst (gL g), .lst (boL s), .int .i64 (v : Int)] [] (.lst (boL ((List.range g.length).map (mkB g s v)))) := by
  have h24 := hg.len
  have hlg : (gL g).length = g.length := gL_len g
  have hbo : boL ((List.range g.length).map (mkB g s v)) = bsA (mkB g s v) g.length := by unfold boL bsA; rw [List.map_map]; rfl
  rw [hbo]
  have gsA : ∀ x : Nat, x < g.length → (boL s)[x]? = some (.bool (s.getD x true)) := fun x hx => by
    unfold boL; rw [List.getElem?_map, getE true (by omega)]; rfl
  have hsv := gsA v hv
  refine CT.of Try.func104 (show Try.f104.body = some (bodyOf Try.f104) from by kernel_rfl) (nbl rfl) ?_
  refine T.seq ?_
  refine T.ops (st' := ?st1) ?steps1 ?post1
  case steps1 =>
    refine .av (.nils) rfl rfl rfl (by kernel_rfl) ?_
    exact .nil _
  show T Try.prog 0 _ _ _
  refine T.seq ?_
  refine T.ops (st' := ?st2) ?steps2 ?post2
  case steps2 =>
    refine .av (.lst (gL g)) rfl rfl rfl (by kernel_rfl) ?_
    refine .av (.int .i64 (iN (gL g).length)) rfl rfl rfl (by kernel_rfl) ?_
    refine .new (v := .sl 0 0 (gL g).length) (blk := Blk.mk (List.replicate (gL g).length (.bool false)) 1 true true none) rfl rfl (nbl rfl) (aop_sound (hint := .no) (R := { v := .sl 0 0 (gL g).length, new := [Blk.mk (List.replicate (gL g).length (.bool false)) 1 true true none] }) (p := 0 ≤ iN (gL g).length ∧ iN (gL g).length ≤ iN (gL g).length ∧ ((1 : Nat) : Int) * iN (gL g).length ≤ 281474976710656 ∧ iN (gL g).length ≤ 9223372036854775807) (by kernel_rfl) (by simp only [iN, hlg]; omega)).1 ?_
    refine .av (.sl 0 0 (gL g).length) rfl rfl rfl (by kernel_rfl) ?_
    exact .nil _
  show T Try.prog 0 _ _ _
  refine T.seq (T.seq ?_)
  cases hsb : s.getD v true with
  | true =>
    refine T.ops (st' := ?st3) ?steps3 ?post3
    case steps3 =>
      refine .av (.lst (boL s)) rfl rfl rfl (by kernel_rfl) ?_
      refine .av (.int .i64 (v : Int)) rfl rfl rfl (by kernel_rfl) ?_
      refine .va (.iptr [.bool true]) rfl rfl rfl (ok_indexAddr_lst (es := boL s) (m := (v : Int)) (e := .bool true) rfl rfl rfl elSz56 (by omega) (by rw [Int.toNat_natCast, hsv, hsb]) rfl) ?_
      refine .va (.bool true) rfl rfl rfl (ok_load_iptr rfl rfl tsz4 rfl rfl) ?_
      exact .nil _
    show T Try.prog 0 _ _ _
    refine T.cond_true rfl (T.seq ?_)
    refine T.ops (st' := ?st4) ?steps4 ?post4
    case steps4 =>
      refine .av (.sl 0 0 (gL g).length) rfl rfl rfl (by kernel_rfl) ?_
      refine .av (.sl 0 0 (gL g).length) rfl rfl rfl (by kernel_rfl) ?_
      exact .nil _
    show T Try.prog 0 _ _ _
    have hno : mkB g s v = fun _ => false := by
      funext k
      refine mkB_no fun h => ?_
      have : s.getD v true = false := by
        clear hsv
        induction h with
        | refl h => exact h
        | step _ _ _ ih => exact ih
      rw [hsb] at this; cases this
    rw [hno]
    refine T.ret ?_
    refine ⟨.inr rfl, .sl 0 0 (gL g).length, ⟨Try.f104.ntmps, [(0, .lst (bsA (fun _ => false) g.length))], []⟩, rfl, rq_freeze (by rw [← bsA_no, ← hlg]; rfl) (by rw [bsA_len, hlg]), rfl, rfl, (nbl rfl)⟩
  | false =>
    refine T.ops (st' := ?st5) ?steps5 ?post5
    case steps5 =>
      refine .av (.lst (boL s)) rfl rfl rfl (by kernel_rfl) ?_
      refine .av (.int .i64 (v : Int)) rfl rfl rfl (by kernel_rfl) ?_
      refine .va (.iptr [.bool false]) rfl rfl rfl (ok_indexAddr_lst (es := boL s) (m := (v : Int)) (e := .bool false) rfl rfl rfl elSz56 (by omega) (by rw [Int.toNat_natCast, hsv, hsb]) rfl) ?_
      refine .va (.bool false) rfl rfl rfl (ok_load_iptr rfl rfl tsz4 rfl rfl) ?_
      exact .nil _
    show T Try.prog 0 _ _ _
    refine T.cond_false rfl (T.skip ?_)
    show T Try.prog 0 _ _ _
    refine T.seq ?_
    refine T.ops (st' := ?st6) ?steps6 ?post6
    case steps6 =>
      refine .av (.sl 0 0 (gL g).length) rfl rfl rfl (by kernel_rfl) ?_
      refine .av (.int .i64 (v : Int)) rfl rfl rfl (by kernel_rfl) ?_
      refine .va (.ptr 0 (0 + v) 0) rfl rfl rfl (ok_indexAddr_sl (m := (v : Int)) rfl rfl rfl elSz56 (h := nth [some (Blk.mk (List.replicate (gL g).length (.bool false)) 1 true true none)]) rfl rfl ⟨by omega, by omega⟩) ?_
      refine .chg (v := .unk) (blk := Blk.mk ((List.replicate (gL g).length (AV.bool false)).set (0 + v) (.bool true)) 1 true true none) rfl rfl (b := 0) rfl rfl ?_ ?_
      rotate_left
      exact .nil _
      exact ok_store_b (x := .tmp 22) (y := .const (.bool true)) (e := .bool true) (b := 0) (i := 0 + v) (j := 0) (flat := true) (blk := Blk.mk (List.replicate (gL g).length (.bool false)) 1 true true none) rfl rfl rfl rfl tsz4 rfl rfl rfl (show 0 + v < (List.replicate (gL g).length (AV.bool false)).length by rw [List.length_replicate]; omega) (Nat.le_refl _) rfl (fun kk c hc => .inl (by
        match kk, hc with
        | 0, hc => exact ⟨Nat.le_refl _, Nat.lt_add_one _, hc⟩)) rfl
    show T Try.prog 0 _ _ _
    refine T.seq ?_
    refine T.ops (st' := ?st7) ?steps7 ?post7
    case steps7 =>
      refine .av (.int .i64 (v : Int)) rfl rfl rfl (by kernel_rfl) ?_
      refine .new (v := .sl 1 0 1) (blk := Blk.mk [.int .i64 (v : Int)] 1 true true none) rfl rfl (nbl rfl) (ok_buildSlice rfl (by kernel_rfl)) ?_
      refine .av (.sl 1 0 1) rfl rfl rfl (by kernel_rfl) ?_
      exact .nil _
    show T Try.prog 0 _ _ _
    refine T.seq ?_
    refine T.block ?_
    refine T.ren (st' := rqS g s 0 1 1 [some (Blk.mk ((List.replicate (gL g).length (AV.bool false)).set (0 + v) (.bool true)) 1 true true none), some (Blk.mk [.int .i64 (v : Int)] 1 true true none)]) (Ren.keys ⟨rfl, rfl, rfl, rfl, trivial⟩) ?_
    have hc0 := cUn_upd (m := fun _ => false) (x := v) rfl 24
    rw [if_pos (by omega)] at hc0
    have h0 : cUn (fun _ => false) 24 = 24 := by decide
    have hJ0 : FdJ g s v (updM (fun _ => false) v) [(v : Int)] (fun _ => False) := by
      refine ⟨fun k hk => ?_, by rw [updM_at, if_pos rfl], fun x hx => ?_, fun u hu hn _ w hw ho => ?_, ?_⟩
      · rw [updM_at] at hk
        split at hk
        · rename_i e; subst e; exact .refl hsb
        · cases hk
      · rw [List.mem_singleton.1 hx]; exact ⟨by omega, by omega, by rw [Int.toNat_natCast, updM_at, if_pos rfl]⟩
      · rw [updM_at] at hu
        split at hu
        · rename_i e; subst e; exact absurd (List.mem_singleton.2 rfl) hn
        · cases hu
      · show 1 + cUn (updM (fun _ => false) v) 24 ≤ 24
        omega
    refine T.loop (fun X : RqX => rqS g s X.i X.st.length X.b X.hp) (fun X => RqI g X.m X.es X.st X.i X.b X.hp ∧ FdJ g s v X.m X.st (fun _ => False)) (fun X => 2 * cUn X.m 24 + X.st.length) ⟨updM (fun _ => false) v, [.int .i64 (v : Int)], [(v : Int)], 0, 1, _⟩ ⟨⟨?_, rfl, Nat.le_refl _, rfl, ?_, Nat.zero_le _⟩, hJ0⟩ ?_
    · show some _ = _
      rw [bsA_no, bsA_set, hlg]
    · show 1 + cUn (updM (fun _ => false) v) 24 ≤ 24
      omega
    rintro ⟨m, es, st, i, b, hp⟩ ⟨hI, hJ⟩
    simp only at hI hJ
    have hht := rq_hgt hI
    refine T.seq (T.seq ?_)
    refine T.ops (st' := ?st8) ?steps8 ?post8
    case steps8 =>
      refine .av (.sl b i st.length) rfl rfl rfl (by kernel_rfl) ?_
      refine .av (.int .i64 (iN st.length)) rfl rfl rfl (by kernel_rfl) ?_
      refine .av (.bool (decide ((0 : Int) < iN st.length))) rfl rfl rfl (by kernel_rfl) ?_
      exact .nil _
    show T Try.prog 0 _ _ _
    refine T.cond_split (b := decide ((0 : Int) < iN st.length)) rfl (fun hlt => T.skip ?_) (fun hge => T.exit ?_)
    · have hpos : 0 < st.length := by have := of_decide_eq_true hlt; simp only [iN] at this; omega
      obtain ⟨x, st1, rfl⟩ := List.exists_cons_of_length_pos hpos
      have hxe : es[i + (0 : Int).toNat]? = some (.int .i64 x) := by
        have := congrArg (fun l : List AV => l[0]?) hI.dr
        simpa using this
      have hdr1 : es.drop (i + 1) = st1.map (AV.int .i64) := by
        have := congrArg (List.drop 1) hI.dr
        rw [List.drop_drop] at this
        simpa using this
      obtain ⟨x0, x1, x2⟩ := hJ.stk x (List.mem_cons_self ..)
      have hxl : x.toNat < g.length := by omega
      obtain ⟨hr1, hr2⟩ := hg.row x.toNat hxl
      have hgl := gL_get hxl
      generalize hrr : g.getD x.toNat [] = r at hgl hr1 hr2
      show T Try.prog 0 _ _ _
      refine T.block ?_
      refine T.seq ?_
      refine T.ops (st' := ?st9) ?steps9 ?post9
      case steps9 =>
        refine .av (.sl b i (x :: st1).length) rfl rfl rfl (by kernel_rfl) ?_
        refine .va (.ptr b (i + (0 : Int).toNat) 0) rfl rfl rfl (ok_indexAddr_sl (m := 0) rfl rfl rfl elSz22 hI.blk rfl ⟨by omega, by omega⟩) ?_
        refine .va (.int .i64 x) rfl rfl rfl (ok_load_ptr rfl rfl hI.blk hxe tsz3 rfl rfl) ?_
        refine .av (.int .i64 x) rfl rfl rfl (by kernel_rfl) ?_
        exact .nil _
      show T Try.prog 0 _ _ _
      refine T.seq ?_
      refine T.ops (st' := ?st10) ?steps10 ?post10
      case steps10 =>
        refine .av (.sl b i (x :: st1).length) rfl rfl rfl (by kernel_rfl) ?_
        refine .va (.sl b (i + (1 : Int).toNat) ((((x :: st1).length : Nat) : Int).toNat - (1 : Int).toNat)) rfl rfl rfl (ok_slice_sl (l := 1) (u := (((x :: st1).length : Nat) : Int)) (m := (((x :: st1).length : Nat) : Int)) rfl rfl elSz22 hI.blk rfl rfl rfl rfl (fun h => by cases h) ⟨by omega, by omega, by omega, by omega⟩) ?_
        refine .av (.sl b (i + (1 : Int).toNat) ((((x :: st1).length : Nat) : Int).toNat - (1 : Int).toNat)) rfl rfl rfl (by kernel_rfl) ?_
        exact .nil _
      show T Try.prog 0 _ _ _
      refine T.seq ?_
      refine T.ops (st' := ?st11) ?steps11 ?post11
      case steps11 =>
        refine .av (.int .i64 0) rfl rfl rfl (by kernel_rfl) ?_
        exact .nil _
      show T Try.prog 0 _ _ _
      refine T.block ?_
      refine T.ren (st' := rqJ g s (i + 1) st1.length b x 0 hp) (Ren.keys ⟨rfl, rfl, rfl, (by show AV.sl b (i + 1) st1.length = AV.sl b (i + (1 : Int).toNat) ((((x :: st1).length : Nat) : Int).toNat - (1 : Int).toNat); rw [Int.toNat_natCast, List.length_cons]; rfl), rfl, rfl, trivial⟩) ?_
      refine T.loop (fun Y : Nat × RqX => rqJ g s Y.2.i Y.2.st.length Y.2.b x Y.1 Y.2.hp) (fun Y => Y.1 ≤ r.length ∧ RqI g Y.2.m Y.2.es Y.2.st Y.2.i Y.2.b Y.2.hp ∧ FdJ g s v Y.2.m Y.2.st (fun u => u = x.toNat) ∧ Y.2.m x.toNat = true ∧ (∀ (j : Nat) (w : Int), j < Y.1 → r[j]? = some w → s.getD w.toNat true = false → Y.2.m w.toNat = true) ∧ 2 * cUn Y.2.m 24 + Y.2.st.length < 2 * cUn m 24 + (x :: st1).length) (fun Y => r.length - Y.1) (0, ⟨m, es, st1, i + 1, b, hp⟩) ⟨Nat.zero_le _, ⟨hI.top, hI.blk, hI.pos, hdr1, hI.siz, by rw [List.length_cons] at hht; show i + 1 ≤ es.length; omega⟩, ⟨hJ.sound, hJ.start, fun y hy => hJ.stk y (List.mem_cons_of_mem _ hy), fun u hu hn hex w hw ho => ?_, ?_⟩, x2, fun j w hj => absurd hj (Nat.not_lt_zero _), ?_⟩ ?_
      · refine hJ.closed u hu (fun h => ?_) (fun e => e) w hw ho
        rcases List.mem_cons.1 h with h | h
        · exact hex (by omega)
        · exact hn h
      · have := hJ.size; rw [List.length_cons] at this; show st1.length + cUn m 24 ≤ 24; omega
      · show 2 * cUn m 24 + st1.length < 2 * cUn m 24 + (x :: st1).length; rw [List.length_cons]; omega
      rintro ⟨k, ⟨m2, es2, st2, i2, b2, hp2⟩⟩ ⟨hk, hI2, hJ2, hmx, hdone, hmu⟩
      simp only at hk hI2 hJ2 hmx hdone hmu
      have hht2 := rq_hgt hI2
      refine T.seq (T.seq ?_)
      refine T.ops (st' := ?st12) ?steps12 ?post12
      case steps12 =>
        refine .av (.int .i64 (k : Int)) rfl rfl rfl (by kernel_rfl) ?_
        refine .av (.lst (gL g)) rfl rfl rfl (by kernel_rfl) ?_
        refine .av (.int .i64 x) rfl rfl rfl (by kernel_rfl) ?_
        refine .va (.iptr [lI r]) rfl rfl rfl (ok_indexAddr_lst (es := gL g) (m := x) (e := lI r) rfl rfl rfl elSz28 (by omega) hgl rfl) ?_
        refine .va (lI r) rfl rfl rfl (ok_load_iptr rfl rfl tsz22 rfl rfl) ?_
        refine .av (.int .i64 (iN (r.map (AV.int .i64)).length)) rfl rfl rfl (by kernel_rfl) ?_
        refine .av (.bool (decide ((k : Int) < iN (r.map (AV.int .i64)).length))) rfl rfl rfl (by kernel_rfl) ?_
        exact .nil _
      show T Try.prog 0 _ _ _
      refine T.cond_split (b := decide ((k : Int) < iN (r.map (AV.int .i64)).length)) rfl (fun hlt1 => T.skip ?_) (fun hge1 => T.exit ?_)
      · have hkl : k < r.length := by have := of_decide_eq_true hlt1; simp only [iN, List.length_map] at this; omega
        have hwk : r[k]? = some (r.getD k 0) := getE 0 hkl
        have hwm : r.getD k 0 ∈ r := lmg hwk
        generalize hwd : r.getD k 0 = w at hwk hwm
        obtain ⟨w0, w1⟩ := hr2 w hwm
        have hwl : w.toNat < g.length := by omega
        have hsw := gsA w.toNat hwl
        have hmw := bsA_get m2 hwl
        show T Try.prog 0 _ _ _
        refine T.seq ?_
        refine T.block ?_
        refine T.seq ?_
        refine T.ops (st' := ?st13) ?steps13 ?post13
        case steps13 =>
          refine .av (.lst (gL g)) rfl rfl rfl (by kernel_rfl) ?_
          refine .av (.int .i64 x) rfl rfl rfl (by kernel_rfl) ?_
          refine .va (.iptr [lI r]) rfl rfl rfl (ok_indexAddr_lst (es := gL g) (m := x) (e := lI r) rfl rfl rfl elSz28 (by omega) hgl rfl) ?_
          refine .va (lI r) rfl rfl rfl (ok_load_iptr rfl rfl tsz22 rfl rfl) ?_
          refine .av (.int .i64 (k : Int)) rfl rfl rfl (by kernel_rfl) ?_
          refine .va (.iptr [.int .i64 w]) rfl rfl rfl (ok_indexAddr_lst (es := r.map (AV.int .i64)) (m := (k : Int)) (e := .int .i64 w) rfl rfl rfl elSz22 (by omega) (by rw [Int.toNat_natCast, List.getElem?_map, hwk]; rfl) rfl) ?_
          refine .va (.int .i64 w) rfl rfl rfl (ok_load_iptr rfl rfl tsz3 rfl rfl) ?_
          refine .av (.int .i64 w) rfl rfl rfl (by kernel_rfl) ?_
          exact .nil _
        show T Try.prog 0 _ _ _
        refine T.seq ?_
        cases hso : s.getD w.toNat true with
        | true =>
          refine T.opsN ?_
          refine .av (.lst (boL s)) rfl rfl rfl (by kernel_rfl) ?_
          refine .av (.int .i64 w) rfl rfl rfl (by kernel_rfl) ?_
          refine .val (v := .iptr [.bool true]) (noG rfl) rfl (nbl rfl) (ok_indexAddr_lst (es := boL s) (m := w) (e := .bool true) rfl rfl rfl elSz56 (by omega) (by rw [hsw, hso]) rfl) ?_
          refine .val (v := .bool true) (noG rfl) rfl (nbl rfl) (ok_load_iptr rfl rfl tsz4 rfl rfl) ?_
          refine .av (.bool false) rfl rfl rfl (by kernel_rfl) ?_
          refine .av (.bool false) rfl rfl rfl (by kernel_rfl) ?_
          refine .skp (kk := 5) (g := 54) (want := true) rfl rfl rfl rfl (nbl rfl) ?_
          refine .skp (kk := 5) (g := 54) (want := true) rfl rfl rfl rfl (nbl rfl) ?_
          refine .skp (kk := 5) (g := 54) (want := true) rfl rfl rfl rfl (nbl rfl) ?_
          refine .skp (kk := 5) (g := 54) (want := true) rfl rfl rfl rfl (nbl rfl) ?_
          refine .skp (kk := 5) (g := 54) (want := true) rfl rfl rfl rfl (nbl rfl) ?_
          refine .av (.bool false) rfl rfl rfl (by kernel_rfl) ?_
          refine .nil ?_
          show T Try.prog 0 _ _ _
          refine T.cond_false rfl (T.skip ?_)
          show T Try.prog 0 _ _ _
          refine T.ops (st' := ?st14) ?steps14 ?post14
          case steps14 =>
            refine .av (.int .i64 (k : Int)) rfl rfl rfl (by kernel_rfl) ?_
            refine .av (.int .i64 (IntKind.i64.wrap ((k : Int) + 1))) rfl rfl rfl (by kernel_rfl) ?_
            refine .av (.int .i64 (IntKind.i64.wrap ((k : Int) + 1))) rfl rfl rfl (by kernel_rfl) ?_
            exact .nil _
          show ∃ j, _
          refine ⟨(k + 1, ⟨m2, es2, st2, i2, b2, hp2⟩), Ren.keys ⟨rfl, rfl, rfl, rfl, rfl, (by show AV.int .i64 ((k + 1 : Nat) : Int) = AV.int .i64 (IntKind.i64.wrap ((k : Int) + 1)); rw [wrap_nat k (by omega)]), trivial⟩, ⟨hkl, hI2, hJ2, hmx, fun j w' hj hw' ho => ?_, hmu⟩, by show r.length - (k + 1) < r.length - k; omega⟩
          · by_cases hjk : j = k
            · subst hjk; rw [hwk] at hw'; cases hw'; rw [hso] at ho; cases ho
            · exact hdone j w' (by omega) hw' ho
        | false =>
          cases hmv : m2 w.toNat with
          | true =>
            rw [hmv] at hmw
            refine T.opsN ?_
            refine .av (.lst (boL s)) rfl rfl rfl (by kernel_rfl) ?_
            refine .av (.int .i64 w) rfl rfl rfl (by kernel_rfl) ?_
            refine .val (v := .iptr [.bool false]) (noG rfl) rfl (nbl rfl) (ok_indexAddr_lst (es := boL s) (m := w) (e := .bool false) rfl rfl rfl elSz56 (by omega) (by rw [hsw, hso]) rfl) ?_
            refine .val (v := .bool false) (noG rfl) rfl (nbl rfl) (ok_load_iptr rfl rfl tsz4 rfl rfl) ?_
            refine .av (.bool true) rfl rfl rfl (by kernel_rfl) ?_
            refine .av (.bool true) rfl rfl rfl (by kernel_rfl) ?_
            refine .val (v := .sl 0 0 (gL g).length) (isG (kk := 5) (g := 54) rfl rfl rfl) rfl (nbl rfl) (aop_sound (hint := .no) (R := { v := .sl 0 0 (gL g).length }) (p := True) (by kernel_rfl) trivial).1 ?_
            refine .val (v := .int .i64 w) (isG (kk := 5) (g := 54) rfl rfl rfl) rfl (nbl rfl) (aop_sound (hint := .no) (R := { v := .int .i64 w }) (p := True) (by kernel_rfl) trivial).1 ?_
            refine .val (v := .ptr 0 (0 + w.toNat) 0) (isG (kk := 5) (g := 54) rfl rfl rfl) rfl (nbl rfl) (ok_indexAddr_sl (m := w) rfl rfl rfl elSz56 hI2.top rfl ⟨by omega, by omega⟩) ?_
            refine .val (v := .bool true) (isG (kk := 5) (g := 54) rfl rfl rfl) rfl (nbl rfl) (ok_load_ptr rfl rfl hI2.top (by rw [Nat.zero_add]; exact hmw) tsz4 rfl rfl) ?_
            refine .val (v := .bool false) (isG (kk := 5) (g := 54) rfl rfl rfl) rfl (nbl rfl) (aop_sound (hint := .no) (R := { v := .bool false }) (p := True) (by kernel_rfl) trivial).1 ?_
            refine .av (.bool false) rfl rfl rfl (by kernel_rfl) ?_
            refine .nil ?_
            show T Try.prog 0 _ _ _
            refine T.cond_false rfl (T.skip ?_)
            show T Try.prog 0 _ _ _
            refine T.ops (st' := ?st15) ?steps15 ?post15
            case steps15 =>
              refine .av (.int .i64 (k : Int)) rfl rfl rfl (by kernel_rfl) ?_
              refine .av (.int .i64 (IntKind.i64.wrap ((k : Int) + 1))) rfl rfl rfl (by kernel_rfl) ?_
              refine .av (.int .i64 (IntKind.i64.wrap ((k : Int) + 1))) rfl rfl rfl (by kernel_rfl) ?_
              exact .nil _
            show ∃ j, _
            refine ⟨(k + 1, ⟨m2, es2, st2, i2, b2, hp2⟩), Ren.keys ⟨rfl, rfl, rfl, rfl, rfl, (by show AV.int .i64 ((k + 1 : Nat) : Int) = AV.int .i64 (IntKind.i64.wrap ((k : Int) + 1)); rw [wrap_nat k (by omega)]), trivial⟩, ⟨hkl, hI2, hJ2, hmx, fun j w' hj hw' ho => ?_, hmu⟩, by show r.length - (k + 1) < r.length - k; omega⟩
            · by_cases hjk : j = k
              · subst hjk; rw [hwk] at hw'; cases hw'; exact hmv
              · exact hdone j w' (by omega) hw' ho
          | false =>
            rw [hmv] at hmw
            refine T.opsN ?_
            refine .av (.lst (boL s)) rfl rfl rfl (by kernel_rfl) ?_
            refine .av (.int .i64 w) rfl rfl rfl (by kernel_rfl) ?_
            refine .val (v := .iptr [.bool false]) (noG rfl) rfl (nbl rfl) (ok_indexAddr_lst (es := boL s) (m := w) (e := .bool false) rfl rfl rfl elSz56 (by omega) (by rw [hsw, hso]) rfl) ?_
            refine .val (v := .bool false) (noG rfl) rfl (nbl rfl) (ok_load_iptr rfl rfl tsz4 rfl rfl) ?_
            refine .av (.bool true) rfl rfl rfl (by kernel_rfl) ?_
            refine .av (.bool true) rfl rfl rfl (by kernel_rfl) ?_
            refine .val (v := .sl 0 0 (gL g).length) (isG (kk := 5) (g := 54) rfl rfl rfl) rfl (nbl rfl) (aop_sound (hint := .no) (R := { v := .sl 0 0 (gL g).length }) (p := True) (by kernel_rfl) trivial).1 ?_
            refine .val (v := .int .i64 w) (isG (kk := 5) (g := 54) rfl rfl rfl) rfl (nbl rfl) (aop_sound (hint := .no) (R := { v := .int .i64 w }) (p := True) (by kernel_rfl) trivial).1 ?_
            refine .val (v := .ptr 0 (0 + w.toNat) 0) (isG (kk := 5) (g := 54) rfl rfl rfl) rfl (nbl rfl) (ok_indexAddr_sl (m := w) rfl rfl rfl elSz56 hI2.top rfl ⟨by omega, by omega⟩) ?_
            refine .val (v := .bool false) (isG (kk := 5) (g := 54) rfl rfl rfl) rfl (nbl rfl) (ok_load_ptr rfl rfl hI2.top (by rw [Nat.zero_add]; exact hmw) tsz4 rfl rfl) ?_
            refine .val (v := .bool true) (isG (kk := 5) (g := 54) rfl rfl rfl) rfl (nbl rfl) (aop_sound (hint := .no) (R := { v := .bool true }) (p := True) (by kernel_rfl) trivial).1 ?_
            refine .av (.bool true) rfl rfl rfl (by kernel_rfl) ?_
            refine .nil ?_
            show T Try.prog 0 _ _ _
            refine T.cond_true rfl (T.seq ?_)
            refine T.ops (st' := ?st16) ?steps16 ?post16
            case steps16 =>
              refine .av (.sl 0 0 (gL g).length) rfl rfl rfl (by kernel_rfl) ?_
              refine .av (.int .i64 w) rfl rfl rfl (by kernel_rfl) ?_
              refine .va (.ptr 0 (0 + w.toNat) 0) rfl rfl rfl (ok_indexAddr_sl (m := w) rfl rfl rfl elSz56 hI2.top rfl ⟨by omega, by omega⟩) ?_
              refine .chg (v := .unk) (blk := Blk.mk ((bsA m2 g.length).set (0 + w.toNat) (.bool true)) 1 true true none) rfl rfl hI2.top rfl ?_ ?_
              rotate_left
              exact .nil _
              exact ok_store_b (x := .tmp 63) (y := .const (.bool true)) (e := .bool true) rfl rfl hI2.top rfl tsz4 rfl rfl rfl (show 0 + w.toNat < (bsA m2 g.length).length by rw [bsA_len]; omega) (Nat.le_refl _) rfl (fun kk c hc => .inl (by
                match kk, hc with
                | 0, hc => exact ⟨Nat.le_refl _, Nat.lt_add_one _, hc⟩)) rfl
            show T Try.prog 0 _ _ _
            have hl2 := nth_lt hI2.blk
            have hln1 : (hp2.set 0 (some (Blk.mk ((bsA m2 g.length).set (0 + w.toNat) (.bool true)) 1 true true none))).length = hp2.length := by simp
            have hln2 : ((hp2.set 0 (some (Blk.mk ((bsA m2 g.length).set (0 + w.toNat) (.bool true)) 1 true true none))) ++ [some (Blk.mk [.int .i64 w] 1 true true none)]).length = hp2.length + 1 := by simp
            have hb1 : nth ((hp2.set 0 (some (Blk.mk ((bsA m2 g.length).set (0 + w.toNat) (.bool true)) 1 true true none))) ++ [some (Blk.mk [.int .i64 w] 1 true true none)]) b2 = some (Blk.mk es2 1 true true none) := by rw [nth_append, if_pos (by simp; omega), nth_set, if_neg (fun e => by have := hI2.pos; omega)]; exact hI2.blk
            have hb2 : nth ((hp2.set 0 (some (Blk.mk ((bsA m2 g.length).set (0 + w.toNat) (.bool true)) 1 true true none))) ++ [some (Blk.mk [.int .i64 w] 1 true true none)]) hp2.length = some (Blk.mk [.int .i64 w] 1 true true none) := by rw [nth_append, if_neg (by simp), List.length_set, Nat.sub_self]; rfl
            have hsiz := hI2.siz
            refine T.opsN ?_
            refine .av (.sl b2 i2 st2.length) rfl rfl rfl (by kernel_rfl) ?_
            refine .av (.int .i64 w) rfl rfl rfl (by kernel_rfl) ?_
            refine .new (v := .sl (hp2.set 0 (some (Blk.mk ((bsA m2 g.length).set (0 + w.toNat) (.bool true)) 1 true true none))).length 0 1) (blk := Blk.mk [.int .i64 w] 1 true true none) (noG rfl) rfl (nbl rfl) (ok_buildSlice rfl (by kernel_rfl)) ?_
            refine .q (b := b2) (i := i2) (z := 1) (es := es2) (src := [.int .i64 w]) (flat := true) rfl rfl (nbl rfl) hb1 rfl (Nat.zero_le _) ?_ fun es3 i3 e1 e2 e3 => ?_
            · have hy : srcOf (nth ((hp2.set 0 (some (Blk.mk ((bsA m2 g.length).set (0 + w.toNat) (.bool true)) 1 true true none))) ++ [some (Blk.mk [.int .i64 w] 1 true true none)])) (.sl (hp2.set 0 (some (Blk.mk ((bsA m2 g.length).set (0 + w.toNat) (.bool true)) 1 true true none))).length 0 1) = some [.int .i64 w] := by unfold srcOf; simp only [hln1, hb2]; rfl
              have hf : SrcFit (nth ((hp2.set 0 (some (Blk.mk ((bsA m2 g.length).set (0 + w.toNat) (.bool true)) 1 true true none))) ++ [some (Blk.mk [.int .i64 w] 1 true true none)])) 1 (.sl (hp2.set 0 (some (Blk.mk ((bsA m2 g.length).set (0 + w.toNat) (.bool true)) 1 true true none))).length 0 1) := by unfold SrcFit; simp only [hln1, hb2]; exact ⟨trivial, Nat.le_refl _⟩
              have hsf : srcFlat (nth ((hp2.set 0 (some (Blk.mk ((bsA m2 g.length).set (0 + w.toNat) (.bool true)) 1 true true none))) ++ [some (Blk.mk [.int .i64 w] 1 true true none)])) (.sl (hp2.set 0 (some (Blk.mk ((bsA m2 g.length).set (0 + w.toNat) (.bool true)) 1 true true none))).length 0 1) = true := by unfold srcFlat; simp only [hln1, hb2]
              exact ok_append_q (x := .tmp 64) (y := .tmp 66) (n := st2.length) rfl zEl22 rfl hb1 rfl rfl (show i2 + st2.length = es2.length by have := hI2.le; omega) hy hf (by simp) (by show es2.length + 1 ≤ _; omega) (by show (es2.length + 1) * 8 ≤ _; omega) (by show (true && srcFlat _ (.sl (hp2.set 0 (some (Blk.mk ((bsA m2 g.length).set (0 + w.toNat) (.bool true)) 1 true true none))).length 0 1)) = true; rw [hsf]; rfl)
            refine .av (.sl ((hp2.set 0 (some (Blk.mk ((bsA m2 g.length).set (0 + w.toNat) (.bool true)) 1 true true none))) ++ [some (Blk.mk [.int .i64 w] 1 true true none)]).length i3 (es3.length - i3)) rfl rfl rfl (by kernel_rfl) ?_
            refine .nil ?_
            have hln3 : es3.length - i3 = (st2 ++ [w]).length := by
              have := congrArg List.length e2
              rw [List.length_drop, hI2.dr, List.length_append, List.length_map] at this
              rw [List.length_append]; simpa using this
            have hcu := cUn_upd hmv 24
            rw [if_pos (by omega)] at hcu
            have hup : ∀ u, m2 u = true → updM m2 w.toNat u = true := fun u hu => by rw [updM_at]; split <;> first | rfl | exact hu
            have hwx : w.toNat ≠ x.toNat := fun e => by rw [e, hmx] at hmv; cases hmv
            have hln4 : (st2 ++ [w]).length = st2.length + 1 := by simp
            have hsz2 := hJ2.size
            have e3' : es3.length ≤ es2.length + 1 := e3
            have hJ3 : FdJ g s v (updM m2 w.toNat) (st2 ++ [w]) (fun u => u = x.toNat) := by
              refine ⟨fun u hu => ?_, hup _ hJ2.start, fun y hy => ?_, fun u hu hn hex z hz ho => ?_, by omega⟩
              · rw [updM_at] at hu
                split at hu
                · rename_i e
                  subst e
                  exact .step (hJ2.sound _ hmx) (by rw [hrr, Int.toNat_of_nonneg w0]; exact hwm) hso
                · exact hJ2.sound u hu
              · rcases List.mem_append.1 hy with h | h
                · obtain ⟨a, b, c⟩ := hJ2.stk y h; exact ⟨a, b, hup _ c⟩
                · rw [List.mem_singleton.1 h]; exact ⟨w0, w1, by rw [updM_at, if_pos rfl]⟩
              · have hne : u ≠ w.toNat := fun e => hn (by rw [e, Int.toNat_of_nonneg w0]; simp)
                rw [updM_at, if_neg hne] at hu
                exact hup _ (hJ2.closed u hu (fun h => hn (List.mem_append_left _ h)) hex z hz ho)
            show T Try.prog 0 _ _ _
            refine T.ops (st' := ?st17) ?steps17 ?post17
            case steps17 =>
              refine .av (.int .i64 (k : Int)) rfl rfl rfl (by kernel_rfl) ?_
              refine .av (.int .i64 (IntKind.i64.wrap ((k : Int) + 1))) rfl rfl rfl (by kernel_rfl) ?_
              refine .av (.int .i64 (IntKind.i64.wrap ((k : Int) + 1))) rfl rfl rfl (by kernel_rfl) ?_
              exact .nil _
            show ∃ j, _
            refine ⟨(k + 1, ⟨updM m2 w.toNat, es3, st2 ++ [w], i3, ((hp2.set 0 (some (Blk.mk ((bsA m2 g.length).set (0 + w.toNat) (.bool true)) 1 true true none))) ++ [some (Blk.mk [.int .i64 w] 1 true true none)]).length, (((hp2.set 0 (some (Blk.mk ((bsA m2 g.length).set (0 + w.toNat) (.bool true)) 1 true true none))) ++ [some (Blk.mk [.int .i64 w] 1 true true none)]).set b2 none ++ [some (Blk.mk es3 1 true true none)])⟩), Ren.keys ⟨rfl, rfl, rfl, (by show AV.sl ((hp2.set 0 (some (Blk.mk ((bsA m2 g.length).set (0 + w.toNat) (.bool true)) 1 true true none))) ++ [some (Blk.mk [.int .i64 w] 1 true true none)]).length i3 (st2 ++ [w]).length = AV.sl ((hp2.set 0 (some (Blk.mk ((bsA m2 g.length).set (0 + w.toNat) (.bool true)) 1 true true none))) ++ [some (Blk.mk [.int .i64 w] 1 true true none)]).length i3 (es3.length - i3); rw [hln3]), rfl, (by show AV.int .i64 ((k + 1 : Nat) : Int) = AV.int .i64 (IntKind.i64.wrap ((k : Int) + 1)); rw [wrap_nat k (by omega)]), trivial⟩, ⟨hkl, ⟨?_, ?_, ?_, ?_, ?_, e1⟩, hJ3, hup _ hmx, fun j w' hj hw' ho => ?_, ?_⟩, by show r.length - (k + 1) < r.length - k; omega⟩
            · show nth (((hp2.set 0 (some (Blk.mk ((bsA m2 g.length).set (0 + w.toNat) (.bool true)) 1 true true none))) ++ [some (Blk.mk [.int .i64 w] 1 true true none)]).set b2 none ++ [some (Blk.mk es3 1 true true none)]) 0 = _
              rw [nth_append, if_pos (by simp), nth_set, if_neg (fun e => by have := hI2.pos; omega), nth_append, if_pos (by simp; omega), nth_set, if_pos ⟨rfl, by omega⟩, bsA_set]
            · show nth (((hp2.set 0 (some (Blk.mk ((bsA m2 g.length).set (0 + w.toNat) (.bool true)) 1 true true none))) ++ [some (Blk.mk [.int .i64 w] 1 true true none)]).set b2 none ++ [some (Blk.mk es3 1 true true none)]) ((hp2.set 0 (some (Blk.mk ((bsA m2 g.length).set (0 + w.toNat) (.bool true)) 1 true true none))) ++ [some (Blk.mk [.int .i64 w] 1 true true none)]).length = _
              rw [nth_append, if_neg (by simp), List.length_set, Nat.sub_self]; rfl
            · show 1 ≤ ((hp2.set 0 (some (Blk.mk ((bsA m2 g.length).set (0 + w.toNat) (.bool true)) 1 true true none))) ++ [some (Blk.mk [.int .i64 w] 1 true true none)]).length
              rw [hln2]; omega
            · show es3.drop i3 = (st2 ++ [w]).map (AV.int .i64)
              rw [e2, hI2.dr, List.map_append]; rfl
            · show es3.length + cUn (updM m2 w.toNat) 24 ≤ 24
              omega
            · by_cases hjk : j = k
              · subst hjk; rw [hwk] at hw'; cases hw'; show updM m2 w.toNat w.toNat = true; rw [updM_at, if_pos rfl]
              · exact hup _ (hdone j w' (by omega) hw' ho)
            · show 2 * cUn (updM m2 w.toNat) 24 + (st2 ++ [w]).length < _
              omega
      · have hke : k = r.length := by have := of_decide_eq_false hge1; simp only [iN, List.length_map] at this; omega
        simp only [andThen, inBlk, ↓reduceIte]
        show ∃ j, _
        refine ⟨⟨m2, es2, st2, i2, b2, hp2⟩, Ren.keys ⟨rfl, rfl, rfl, rfl, trivial⟩, ⟨hI2, ⟨hJ2.sound, hJ2.start, hJ2.stk, fun u hu hn _ w hw ho => ?_, hJ2.size⟩⟩, hmu⟩
        · by_cases hux : u = x.toNat
          · subst hux
            rw [hrr] at hw
            obtain ⟨j, hj⟩ := List.getElem?_of_mem hw
            have hjl := (lsi.1 hj).1
            have := hdone j _ (by omega) hj (by simpa using ho)
            simpa using this
          · exact hJ2.closed u hu hn hux w hw ho
    · have h0 : st = [] := by
        refine List.eq_nil_of_length_eq_zero ?_
        have := of_decide_eq_false hge; simp only [iN] at this; omega
      subst h0
      simp only [andThen, inBlk, ↓reduceIte]
      show T Try.prog 0 _ _ _
      refine T.seq ?_
      refine T.ops (st' := ?st18) ?steps18 ?post18
      case steps18 =>
        refine .av (.sl 0 0 (gL g).length) rfl rfl rfl (by kernel_rfl) ?_
        refine .av (.sl 0 0 (gL g).length) rfl rfl rfl (by kernel_rfl) ?_
        exact .nil _
      show T Try.prog 0 _ _ _
      refine T.ret ?_
      have hend := fd_end hJ
      refine ⟨.inr rfl, .sl 0 0 (gL g).length, ⟨Try.f104.ntmps, [(0, .lst (bsA (mkB g s v) g.length))], []⟩, rfl, rq_freeze (by rw [← hend]; exact hI.top) (by rw [bsA_len, hlg]), rfl, rfl, (nbl rfl)⟩
theorem fd_m {g : List (List Int)} {s : List Bool} {q : Int} (hg : GOk g) (hs : s.length = g.length) (hq : 0 ≤ q ∧ q < (g.length : Int)) : CT Try.prog 68 [] [.lst (gL g), .lst (boL s), .int .i64 q] [] (.agg [.bool (mkB g s q.toNat 0), .bool (mkB g s q.toNat 1), .bool (mkB g s q.toNat 2), .bool (mkB g s q.toNat 3), .bool (mkB g s q.toNat 4), .bool (mkB g s q.toNat 5), .bool (mkB g s q.toNat 6), .bool (mkB g s q.toNat 7), .bool (mkB g s q.toNat 8), .bool (mkB g s q.toNat 9), .bool (mkB g s q.toNat 10), .bool (mkB g s q.toNat 11), .bool (mkB g s q.toNat 12), .bool (mkB g s q.toNat 13), .bool (mkB g s q.toNat 14), .bool (mkB g s q.toNat 15), .bool (mkB g s q.toNat 16), .bool (mkB g s q.toNat 17), .bool (mkB g s q.toNat 18), .bool (mkB g s q.toNat 19), .bool (mkB g s q.toNat 20), .bool (mkB g s q.toNat 21), .bool (mkB g s q.toNat 22), .bool (mkB g s q.toNat 23)]) := fd_c hg hs q hq
noncomputable def rcL (g : List (List Int)) (s : List Bool) (q : Int) : List Bool := (List.range g.length).map (mkB g s q.toNat)
theorem reach_m {g : List (List Int)} {s : List Bool} {q : Int} (hg : GOk g) (hs : s.length = g.length) (hq : 0 ≤ q ∧ q < (g.length : Int)) : CT Try.prog 104 [] [.lst (gL g), .lst (boL s), .int .i64 q] [] (.lst (boL (rcL g s q))) := by
  obtain ⟨v, rfl⟩ : ∃ v : Nat, q = v := ⟨q.toNat, by omega⟩
  have := reach_ct hg hs (v := v) (by omega)
  unfold rcL; rw [Int.toNat_natCast]; exact this
theorem check4_x {g : List (List Int)} (s : List Bool) (hrw : Rows g) : CT Try.prog 103 [] [.lst (gL g), .lst (boL s)] [] (.int .i64 (chk4 g s)) := check4_ct hrw
end Go.Proofs.Ytlogjpmajgbgaaa
set_option maxHeartbeats 4000000
namespace Go.Proofs.Ytlogjpmajgbgaaa
noncomputable def ckSSt (n : NetD) (sp : Int) : Empty → St
  | x => x.elim
def ckSHd : Empty → Nat
  | x => x.elim
noncomputable def ckSEn (n : NetD) (sp : Int) : Option (Empty ⊕ Ret) :=
 gu (Rows n.nx) <|
 br (!valB n)
 (some (.inr ([], AV.int .i64 20)))
 (br (decide (sp < 0))
 (some (.inr ([], AV.int .i64 19)))
 (br (decide (iN (List.map sA n.ss).length ≤ sp))
 (some (.inr ([], AV.int .i64 19)))
 (some (.inr ([], AV.int .i64 0)))))
noncomputable def ckSStep (n : NetD) (sp : Int) : Empty → Option (Empty ⊕ Ret)
  | x => x.elim
theorem ckSEn_ok (n : NetD) (sp : Int) (o : Empty ⊕ Ret) (h : ckSEn n sp = some o) : Arr Try.prog Try.f69 0 (ckSSt n sp) ckSHd (bodyOf Try.f69) [] { n := Try.f69.ntmps, fr := enumF 0 ([netA n, .int .i64 sp]), hp := ([]) } o :=
 Scr.ok h mix (
 .rn 0 [] [] [] [] (al (u2 t2)) <|
 .gu fun a0 =>
 have c0 := valid_net_ct a0;
 .rn 0 [] [] [(7, hK c0 [] [])] [] (al (u2 (aj (ak (aj t9 (al (c0)))) (u2 s2)))) <|
 .br (fun a1 =>
 .rt [11] [] [] [] [] [] (aj (aj a1 s2) t2))
 (fun a1 =>
 .br (fun a2 =>
  .rt [10, 25] [] [] [] [] [] (aj (aj a1 (aj (u2 (u2 (u2 (aj a2 (aj a2 (aj a2 (aj a2 (aj a2 (ag a2 s2))))))))) (ak s2))) t2))
 (fun a2 =>
  .rn 0 [10, 24] [] [] [] (aj a1 (al (u2 (u2 (u2 (ag a2 (ag a2 (ag a2 (ag a2 (aj (aj a2 t3) (ag a2 s2))))))))))) <|
  .br (fun a3 =>
  .rt [24, 19] [] [] [] [] [] (aj (aj a3 s2) t2))
  (fun a3 =>
  .rt [24, 18] [] [] [] [] [] (aj (aj a3 s2) t2))))) (by kernel_rfl)
theorem ckS_ct (n : NetD) (sp : Int) (r : Ret) (h : MReach (ckSStep n sp) (ckSEn n sp) r) : CT Try.prog 69 ([]) ([netA n, .int .i64 sp]) r.1 r.2 :=
  CT.mach (fn := Try.f69) (c := bodyOf Try.f69) (S := ckSSt n sp) (hd := ckSHd) Try.func69 (by kernel_rfl) (nbl rfl)
    (fun s o ho => match s, ho with
      | x, _ => x.elim)
    (fun o ho => ckSEn_ok n sp o ho) h
noncomputable def cntSt (n : NetD) : Empty → St
  | x => x.elim
def cntHd : Empty → Nat
  | x => x.elim
noncomputable def cntEn (n : NetD) : Option (Empty ⊕ Ret) :=
 gu (Rows n.nx) <|
 br (!valB n)
 (some (.inr ([], AV.tup [AV.int .i64 0, AV.int .i64 20])))
 (gu (ValidN n) <|
 some (.inr ([], AV.tup [AV.int .i64 (iN (celN n)), AV.int .i64 0])))
noncomputable def cntStep (n : NetD) : Empty → Option (Empty ⊕ Ret)
  | x => x.elim
theorem cntEn_ok (n : NetD) (o : Empty ⊕ Ret) (h : cntEn n = some o) : Arr Try.prog Try.f84 0 (cntSt n) cntHd (bodyOf Try.f84) [] { n := Try.f84.ntmps, fr := enumF 0 ([netA n]), hp := ([]) } o :=
 Scr.ok h mix (
 .rn 0 [] [] [] [] (al (u2 t3)) <|
 .gu fun a0 =>
 have c0 := valid_net_ct a0;
 .rn 0 [] [] [(5, hK c0 [] [])] [] (al (u2 (aj (ak (aj t9 (al (c0)))) s2))) <|
 .br (fun a1 =>
 .rt [13] [] [] [] [] [] (aj (aj a1 (al t3)) (al t3)))
 (fun a1 =>
 .gu fun a2 =>
 have c1 := ccount_ct a2;
 .rt [12] [] [(8, hK c1 [] [])] [] [] [] (aj (aj a1 (al (u2 (aj (ak (aj t9 (al (c1)))) (u2 t2))))) (al t3)))) (by kernel_rfl)
theorem cnt_ct (n : NetD) (r : Ret) (h : MReach (cntStep n) (cntEn n) r) : CT Try.prog 84 ([]) ([netA n]) r.1 r.2 :=
  CT.mach (fn := Try.f84) (c := bodyOf Try.f84) (S := cntSt n) (hd := cntHd) Try.func84 (by kernel_rfl) (nbl rfl)
    (fun s o ho => match s, ho with
      | x, _ => x.elim)
    (fun o ho => cntEn_ok n o ho) h
inductive shuPc where
  | l0 (v0 : List Bool) (v1 : Int) (v2 : Nat)
noncomputable def shuSt (L : List Int) (kk : Nat) (c : Int) : shuPc → St
  | .l0 v0 v1 v2 => St.mk 25 [(0, AV.ptr 0 0 0), (1, iv c), (5, AV.sl 1 0 v0.length), (6, iv v1)] [some (tapeB L v2), some (Blk.mk (List.map AV.bool v0) 1 true true none)]
def shuHd : shuPc → Nat
  | .l0 _ _ _ => 0
noncomputable def shuEn (L : List Int) (kk : Nat) (c : Int) : Option (shuPc ⊕ Ret) :=
 gu (0 ≤ c) <|
 gu (1 * c ≤ 281474976710656) <|
 gu (c ≤ 9223372036854775807) <|
 gu (kk < 9223372036854775807) <|
 some (.inl (.l0 (List.replicate c.toNat false) (nextZ L kk 3) (kk + 1)))
noncomputable def shuS0 (L : List Int) (kk : Nat) (c : Int) (v0 : List Bool) (v1 : Int) (v2 : Nat) : Option (shuPc ⊕ Ret) :=
 br (decide (0 < v1))
 (br (decide (0 < c))
 (gu (v2 < 9223372036854775807) <|
 gu (0 ≤ nextZ L v2 c) <|
 gu (nextZ L v2 c < iN v0.length) <|
 gu ((0 + (nextZ L v2 c).toNat).succ.le (List.map AV.bool v0).length) <|
 some (.inl (.l0 (v0.set (0 + (nextZ L v2 c).toNat) true) (IntKind.i64.wrap (v1 - 1)) (v2 + 1))))
 (some (.inr ([some (Blk.mk [AV.agg [AV.lst (List.map (AV.int .i64) L), AV.int .i64 (iN v2)]] 2 true true none)], AV.lst (List.map AV.bool v0)))))
 (some (.inr ([some (Blk.mk [AV.agg [AV.lst (List.map (AV.int .i64) L), AV.int .i64 (iN v2)]] 2 true true none)], AV.lst (List.map AV.bool v0))))
noncomputable def shuStep (L : List Int) (kk : Nat) (c : Int) : shuPc → Option (shuPc ⊕ Ret)
  | .l0 v0 v1 v2 => shuS0 L kk c v0 v1 v2
theorem shuEn_ok (L : List Int) (kk : Nat) (c : Int) (o : shuPc ⊕ Ret) (h : shuEn L kk c = some o) : Arr Try.prog Try.f28 1 (shuSt L kk c) shuHd (bodyOf Try.f28) [] { n := Try.f28.ntmps, fr := enumF 0 ([.ptr 0 0 0, .int .i64 c]), hp := ([some (tapeB L kk)]) } o :=
 Scr.ok h mix (
 .rn 0 [] [] [] [] s2 <|
 .gu fun a0 =>
 .gu fun a1 =>
 .gu fun a2 =>
 .rn 0 [] [] [] [] (al (u2 (aj (k2 (aj a0 (aj (show c ≤ c by omega) (aj a1 a2)))) s2))) <|
 .gu fun a3 =>
 have c0 := next_ct (L) (kk) (3) a3;
 .lq [] [] [(10, hK c0 [0] [])] [] [] [0, 1] [0, 1, 5, 6] (up [(5, AV.sl 1 0 c.toNat)] [(1, List.replicate c.toNat (AV.bool false))] (shuSt L kk c (.l0 (List.replicate c.toNat false) (nextZ L kk 3) (kk + 1)))) (aj (al (u2 (aj (ak (k3 (al (c0)))) s2))) t7) (by simp [up, upF, upV, upH, upB, shuSt, gL, boL, lI, sA, bA])) (by kernel_rfl)
theorem shuS0_ok (L : List Int) (kk : Nat) (c : Int) (v0 : List Bool) (v1 : Int) (v2 : Nat) (o : shuPc ⊕ Ret) (h : shuS0 L kk c v0 v1 v2 = some o) : Arr Try.prog Try.f28 1 (shuSt L kk c) shuHd (headC Try.f28 0) (.rnd (headC Try.f28 0) :: headK Try.f28 0) (shuSt L kk c (.l0 v0 v1 v2)) o :=
 Scr.ok h mix (
 .br (fun a0 =>
 .rn 0 [27] [] [] [] (al (u2 (u2 (u2 (ag a0 (ag a0 (al (aj a0 t2)))))))) <|
 .br (fun a1 =>
  .gu fun a2 =>
  .gu fun a3 =>
  .gu fun a4 =>
  .gu fun a5 =>
  have c0 := next_ct (L) v2 c a2;
  .lq [27, 33] [] [(22, hK c0 [0] [])] [] [] [0, 1] [0, 1, 5, 6] (up [(5, AV.sl 1 0 v0.length)] [(1, (List.map AV.bool v0).set (0 + (nextZ L v2 c).toNat) (AV.bool true))] (shuSt L kk c (.l0 (v0.set (0 + (nextZ L v2 c).toNat) true) (IntKind.i64.wrap (v1 - 1)) (v2 + 1)))) (aj (aj a1 (aj (u2 (u2 (u2 (aj (k5 (al (c0))) (aj (k2 (aj a3 a4)) (al (ak a5))))))) (al (u2 (u2 s2))))) t7) (by simp [up, upF, upV, upH, upB, shuSt, gL, boL, lI, sA, bA]))
 (fun a1 =>
  .rt [27, 32] [] [] [] [0] [1] (aj (aj a1 (al (u2 s2))) (aj (show v0.length = (List.map AV.bool v0).length by simp) t2))))
 (fun a0 =>
 .rt [26] [] [] [] [0] [1] (aj (aj (u2 (u2 (u2 (aj a0 (aj a0 (al (aj a0 t2))))))) (ak (al (u2 s2)))) (aj (show v0.length = (List.map AV.bool v0).length by simp) t2)))) (by kernel_rfl)
theorem shu_ct (L : List Int) (kk : Nat) (c : Int) (r : Ret) (h : MReach (shuStep L kk c) (shuEn L kk c) r) : CT Try.prog 28 ([some (tapeB L kk)]) ([.ptr 0 0 0, .int .i64 c]) r.1 r.2 :=
  CT.mach (fn := Try.f28) (c := bodyOf Try.f28) (S := shuSt L kk c) (hd := shuHd) Try.func28 (by kernel_rfl) (nbl rfl)
    (fun s o ho => match s, ho with
      | .l0 v0 v1 v2, ho => shuS0_ok L kk c v0 v1 v2 o ho
    )
    (fun o ho => shuEn_ok L kk c o ho) h
noncomputable def csE (n : NetD) (sp : Int) : Int := if valB n = true then (if sp < 0 ∨ (n.ss.length : Int) ≤ sp then 19 else 0) else 20
theorem checkSpur_ct {n : NetD} (hrw : Rows n.nx) (sp : Int) : CT Try.prog 69 [] [netA n, .int .i64 sp] [] (.int .i64 (csE n sp)) := by
  refine ckS_ct n sp ([], _) (.val ?_)
  unfold ckSEn csE
  rw [gu_t hrw]
  cases hv : valB n with
  | false => rfl
  | true =>
    rw [br_f (by rfl), if_pos rfl]
    by_cases h0 : sp < 0
    · rw [br_t (dec_t h0), if_pos (.inl h0)]
    by_cases h1 : (n.ss.length : Int) ≤ sp
    · rw [br_f (dec_f h0), br_t (dec_t (by simpa [iN] using h1)), if_pos (.inr h1)]
    · rw [br_f (dec_f h0), br_f (dec_f (by simpa [iN] using h1)), if_neg (by omega)]
def opB (n : NetD) (sh : List Bool) (sp : Int) : Bool := match n.ss[sp.toNat]? with | some s => openB sh s | none => false
theorem ropen_ct (n : NetD) (sh : List Bool) (sp : Int) (hv : ValidN n) (hsh : sh.length = celN n) (hi : 0 ≤ sp ∧ sp < n.ss.length) : CT Try.prog 86 [] [netA n, .lst (boL sh), .int .i64 sp] [] (.bool (opB n sh sp)) := by
  obtain ⟨j, rfl⟩ : ∃ j : Nat, sp = j := ⟨sp.toNat, by omega⟩
  have hl : j < n.ss.length := by omega
  have h := open_ct hv hsh (lgg hl)
  unfold opB
  rw [Int.toNat_natCast, lgg hl]
  exact h
theorem shu_ex (L : List Int) (kk c : Nat) (hc : c ≤ 1000) (hk : kk ≤ 50000) : ∃ p : List Bool × Nat, p.1.length = c ∧ p.2 ≤ kk + 10 ∧ CT Try.prog 28 [some (tapeB L kk)] [.ptr 0 0 0, .int .i64 (c : Int)] [some (tapeB L p.2)] (.lst (boL p.1)) := by
  have r := nextZ_rng L kk 3 (by omega) (by omega)
  have loop : ∀ (m : Nat) (s : List Bool) (k : Nat), s.length = c → k + 10 * m ≤ 60000 → ∃ (s' : List Bool) (k' : Nat), s'.length = c ∧ k' ≤ k + m ∧ MReach (shuStep L kk (c : Int)) (some (.inl (.l0 s (m : Int) k))) (([some (tapeB L k')], .lst (boL s')) : Ret) := by
    intro m
    induction m with
    | zero =>
      intro s k hs _
      refine ⟨s, k, hs, by omega, .to ?_ (.ret _)⟩
      show shuS0 L kk c s 0 k = _
      unfold shuS0
      rw [br_f (by simp)]; rfl
    | succ m ih =>
      intro s k hs hkm
      by_cases h0 : (0 : Int) < c
      · have r2 := nextZ_rng L k (c : Int) (by omega) (by omega)
        obtain ⟨s', k', g1, g2, g3⟩ := ih (s.set (0 + (nextZ L k (c : Int)).toNat) true) (k + 1) (by simpa using hs) (by omega)
        refine ⟨s', k', g1, by omega, .to ?_ g3⟩
        show shuS0 L kk c s ((m + 1 : Nat) : Int) k = _
        unfold shuS0
        rw [br_t (dec_t (by omega)), br_t (dec_t h0), gu_t (by omega), gu_t r2.1, gu_t (by simp only [iN]; omega), gu_t (by rw [List.length_map, hs]; show 0 + _ + 1 ≤ _; omega), wrapS (((m + 1 : Nat) : Int) - 1) (by omega) (by omega), show ((m + 1 : Nat) : Int) - 1 = (m : Int) by omega]
      · refine ⟨s, k, hs, by omega, .to ?_ (.ret _)⟩
        show shuS0 L kk c s ((m + 1 : Nat) : Int) k = _
        unfold shuS0
        rw [br_t (dec_t (by omega)), br_f (dec_f h0)]; rfl
  obtain ⟨q, hq⟩ : ∃ q : Nat, nextZ L kk 3 = q := ⟨(nextZ L kk 3).toNat, by omega⟩
  obtain ⟨s', k', g1, g2, g3⟩ := loop q (List.replicate c false) (kk + 1) (by simp) (by omega)
  refine ⟨(s', k'), g1, by show k' ≤ _; omega, shu_ct L kk c ([some (tapeB L k')], .lst (boL s')) ?_⟩
  unfold shuEn
  rw [gu_t (by omega), gu_t (by omega), gu_t (by omega), gu_t (by omega), hq, Int.toNat_natCast]
  exact g3
theorem shu_exP (L : List Int) (kk c : Nat) : ∃ p : List Bool × Nat, c ≤ 1000 → kk ≤ 50000 → p.1.length = c ∧ p.2 ≤ kk + 10 ∧ CT Try.prog 28 [some (tapeB L kk)] [.ptr 0 0 0, .int .i64 (c : Int)] [some (tapeB L p.2)] (.lst (boL p.1)) := by
  by_cases h : c ≤ 1000 ∧ kk ≤ 50000
  · obtain ⟨p, a⟩ := shu_ex L kk c h.1 h.2
    exact ⟨p, fun _ _ => a⟩
  · exact ⟨([], 0), fun a b => absurd ⟨a, b⟩ h⟩
@[irreducible] noncomputable def shuL (L : List Int) (kk c : Nat) : List Bool := (Classical.choose (shu_exP L kk c)).1
@[irreducible] noncomputable def shuK (L : List Int) (kk c : Nat) : Nat := (Classical.choose (shu_exP L kk c)).2
theorem shu_spec {L : List Int} {kk c : Nat} (h : c ≤ 1000) (hk : kk ≤ 50000) : (shuL L kk c).length = c ∧ shuK L kk c ≤ kk + 10 ∧ CT Try.prog 28 [some (tapeB L kk)] [.ptr 0 0 0, .int .i64 (c : Int)] [some (tapeB L (shuK L kk c))] (.lst (boL (shuL L kk c))) := by unfold shuL shuK; exact Classical.choose_spec (shu_exP L kk c) h hk
theorem shut_ct (L : List Int) (kk c : Nat) (h : c ≤ 1000) (hk : kk ≤ 50000) : CT Try.prog 28 [some (tapeB L kk)] [.ptr 0 0 0, .int .i64 (iN c)] [some (tapeB L (shuK L kk c))] (.lst (boL (shuL L kk c))) := (shu_spec h hk).2.2
noncomputable def cntZ (n : NetD) : Int := if valB n = true then (celN n : Int) else 0
noncomputable def cntE (n : NetD) : Int := if valB n = true then 0 else 20
theorem cnt_c {n : NetD} (hrw : Rows n.nx) : CT Try.prog 84 [] [netA n] [] (.tup [.int .i64 (cntZ n), .int .i64 (cntE n)]) := by
  refine cnt_ct n ([], _) (.val ?_)
  unfold cntEn cntZ cntE
  rw [gu_t hrw]
  cases hv : valB n with
  | false => rfl
  | true => rw [br_f (by rfl), gu_t (valB_iff.1 hv)]; rfl
theorem csE_zero {n : NetD} {sp : Int} (h : csE n sp = 0) : ValidN n ∧ 0 ≤ sp ∧ sp < n.ss.length := by
  unfold csE at h
  split at h
  · rename_i hv
    split at h
    · omega
    · exact ⟨valB_iff.1 hv, by omega, by omega⟩
  · omega
inductive cOpPc where
  | l0 (v0 : Bool) (v1 : SpuD) (v2 : Int)
noncomputable def cOpSt (n : NetD) (sh : List Bool) (sp : Int) : cOpPc → St
  | .l0 v0 v1 v2 => St.mk 62 [(1, AV.lst (boL sh)), (9, AV.ptr 0 0 0), (10, AV.bool v0), (45, iv v1.k), (46, iv v2)] [some (Blk.mk [sA v1] 6 true true none)]
def cOpHd : cOpPc → Nat
  | .l0 _ _ _ => 0
noncomputable def cOpEn (n : NetD) (sh : List Bool) (sp : Int) : Option (cOpPc ⊕ Ret) :=
 gu (Rows n.nx) <|
 br (csE n sp != 0)
 (some (.inr ([], AV.tup [AV.bool false, AV.int .i64 (csE n sp)])))
 (gu (ValidN n) <|
 br (iN (boL sh).length != iN (celN n))
 (some (.inr ([], AV.tup [AV.bool false, AV.int .i64 19])))
 (gu (0 ≤ sp) <|
 el (n.ss) (sp.toNat) fun (x28 : SpuD) =>
 gu (0 ≤ x28.i) <|
 el (sh) (x28.i.toNat) fun (x33 : Bool) =>
 br (!x33)
 (gu (0 ≤ x28.o) <|
 el (sh) (x28.o.toNat) fun (x40 : Bool) =>
 some (.inl (.l0 (!x40) x28 ((0 : Int)))))
 (some (.inl (.l0 (false) x28 ((0 : Int)))))))
noncomputable def cOpS0 (n : NetD) (sh : List Bool) (sp : Int) (v0 : Bool) (v1 : SpuD) (v2 : Int) : Option (cOpPc ⊕ Ret) :=
 br (decide (v2 < v1.k))
 (br v0
 (gu (0 ≤ IntKind.i64.wrap (v1.b + v2)) <|
 el (sh) ((IntKind.i64.wrap (v1.b + v2)).toNat) fun (x56 : Bool) =>
 some (.inl (.l0 (!x56) v1 (IntKind.i64.wrap (v2 + 1)))))
 (some (.inl (.l0 (false) v1 (IntKind.i64.wrap (v2 + 1))))))
 (some (.inr ([], AV.tup [AV.bool v0, AV.int .i64 0])))
noncomputable def cOpStep (n : NetD) (sh : List Bool) (sp : Int) : cOpPc → Option (cOpPc ⊕ Ret)
  | .l0 v0 v1 v2 => cOpS0 n sh sp v0 v1 v2
theorem cOpEn_ok (n : NetD) (sh : List Bool) (sp : Int) (o : cOpPc ⊕ Ret) (h : cOpEn n sh sp = some o) : Arr Try.prog Try.f36 0 (cOpSt n sh sp) cOpHd (bodyOf Try.f36) [] { n := Try.f36.ntmps, fr := enumF 0 ([netA n, .lst (boL sh), .int .i64 sp]), hp := ([]) } o :=
 Scr.ok h mix (
 .rn 0 [] [] [] [] (al (u2 t3)) <|
 .gu fun a0 =>
 have c0 := checkSpur_ct a0 (sp);
 .rn 1 [] [] [(14, hK c0 [] [])] [] (aj (u2 (u2 (aj (k2 (aj t9 (ak (al (c0))))) s2))) (al (u2 (u2 s2)))) <|
 .br (fun a1 =>
 .rt [31] [] [] [] [] [] (aj (aj a1 (al (u2 (ak s2)))) (al t3)))
 (fun a1 =>
 .gu fun a2 =>
 have c1 := ccount_ct a2;
 .rn 0 [30] [] [(23, hK c1 [] [])] [] (aj a1 (al (u2 (u2 (u2 (aj (ak (aj t9 (al (c1)))) (aj t3 s2))))))) <|
 .br (fun a3 =>
  .rt [39] [] [] [] [] [] (aj (aj a3 (al t3)) (al t3)))
 (fun a3 =>
  .gu fun a4 =>
  .el fun x28 a5 =>
  .rn 0 [38] [(28, sA x28)] [] [] (aj a3 (al (u2 (u2 (u2 (aj (k2 (aj a4 (getMap (f := sA) a5))) (u2 (ak (al (k2 n11)))))))))) <|
  .gu fun a6 =>
  .el fun x33 a7 =>
  .br (fun a8 =>
  .gu fun a9 =>
  .el fun x40 a10 =>
  .lp [73] [(33, AV.bool x33), (40, AV.bool x40)] [] [] [] [1] [1, 9, 10, 45, 46] (aj (aj (u2 (u2 (u2 (aj (k2 (aj a6 (getMap (f := AV.bool) a7))) (u2 (u2 (u2 (ag a8 (ag a8 (ag a8 (aj (aj a8 (k2 (aj a9 (getMap (f := AV.bool) a10)))) (ag a8 (ag a8 (ag a8 s2)))))))))))))) (al (u2 (u2 t2)))) t7))
  (fun a8 =>
  .lp [72] [(33, AV.bool x33)] [] [] [] [1] [1, 9, 10, 45, 46] (aj (aj (u2 (u2 (u2 (aj (k2 (aj a6 (getMap (f := AV.bool) a7))) (u2 (u2 (u2 (aj a8 (aj a8 (aj a8 (aj a8 (aj a8 (aj a8 (ag a8 s2)))))))))))))) (al (u2 (u2 t2)))) t7))))) (by kernel_rfl)
theorem cOpS0_ok (n : NetD) (sh : List Bool) (sp : Int) (v0 : Bool) (v1 : SpuD) (v2 : Int) (o : cOpPc ⊕ Ret) (h : cOpS0 n sh sp v0 v1 v2 = some o) : Arr Try.prog Try.f36 0 (cOpSt n sh sp) cOpHd (headC Try.f36 0) (.rnd (headC Try.f36 0) :: headK Try.f36 0) (cOpSt n sh sp (.l0 v0 v1 v2)) o :=
 Scr.ok h mix (
 .rn 0 [] [] [] [] (al (al t3)) <|
 .br (fun a0 =>
 .rn 0 [95] [] [] [] (aj a0 (al (u2 s2))) <|
 .br (fun a1 =>
  .gu fun a2 =>
  .el fun x56 a3 =>
  .lp [101] [(56, AV.bool x56)] [] [] [] [0] [1, 9, 10, 45, 46] (aj (aj (u2 (u2 (ag a1 (ag a1 (ag a1 (ag a1 (aj (aj a1 t3) (aj (aj a1 (k2 (aj a2 (getMap (f := AV.bool) a3)))) (ag a1 (ag a1 (ag a1 s2))))))))))) (al (u2 s2))) t7))
 (fun a1 =>
  .lp [100] [] [] [] [] [0] [1, 9, 10, 45, 46] (aj (aj (u2 (u2 (aj a1 (aj a1 (aj a1 (aj a1 (aj a1 (aj a1 (aj a1 (aj a1 (ag a1 s2))))))))))) (al (u2 s2))) t7)))
 (fun a0 =>
 .rt [94] [] [] [] [] [] (aj (aj a0 (al (u2 (u2 t2)))) (al t3)))) (by kernel_rfl)
theorem cOp_ct (n : NetD) (sh : List Bool) (sp : Int) (r : Ret) (h : MReach (cOpStep n sh sp) (cOpEn n sh sp) r) : CT Try.prog 36 ([]) ([netA n, .lst (boL sh), .int .i64 sp]) r.1 r.2 :=
  CT.mach (fn := Try.f36) (c := bodyOf Try.f36) (S := cOpSt n sh sp) (hd := cOpHd) Try.func36 (by kernel_rfl) (nbl rfl)
    (fun s o ho => match s, ho with
      | .l0 v0 v1 v2, ho => cOpS0_ok n sh sp v0 v1 v2 o ho
    )
    (fun o ho => cOpEn_ok n sh sp o ho) h
noncomputable def cOB (n : NetD) (sh : List Bool) (sp : Int) : Bool := valB n && decide (0 ≤ sp) && decide (sp < n.ss.length) && decide (sh.length = celN n) && opB n sh sp
noncomputable def cOE (n : NetD) (sh : List Bool) (sp : Int) : Int := if csE n sp = 0 then (if sh.length = celN n then 0 else 19) else csE n sp
def shB (sh : List Bool) (s : SpuD) (j : Nat) : Bool := sh.getD (s.b + (j : Int)).toNat false
theorem fnd_or {p : Nat → Bool} : ∀ (k i : Nat), (fnd p i (k + 1)).isSome = ((fnd p i k).isSome || p (i + k)) := by
  intro k
  induction k with
  | zero => intro i; simp only [fnd, Nat.add_zero]; cases p i <;> rfl
  | succ k ih =>
    intro i
    have h := ih (i + 1)
    rw [show i + (k + 1) = i + 1 + k by omega]
    show (fnd p i ((k + 1) + 1)).isSome = ((fnd p i (k + 1)).isSome || p (i + 1 + k))
    unfold fnd
    cases p i with
    | true => rfl
    | false => exact h
def opJ (sh : List Bool) (s : SpuD) (j : Nat) : Bool := !(sh.getD s.i.toNat false) && !(sh.getD s.o.toNat false) && !(fnd (shB sh s) 0 j).isSome
theorem opJ_succ (sh : List Bool) (s : SpuD) (j : Nat) : opJ sh s (j + 1) = (opJ sh s j && !shB sh s j) := by
  unfold opJ
  rw [fnd_or, Nat.zero_add]
  cases sh.getD s.i.toNat false <;> cases sh.getD s.o.toNat false <;> cases (fnd (shB sh s) 0 j).isSome <;> cases shB sh s j <;> rfl
theorem opJ_end (sh : List Bool) (s : SpuD) : opJ sh s s.k.toNat = openB sh s := rfl
theorem get_sh {sh : List Bool} {c : Int} (h0 : 0 ≤ c) (h1 : c < sh.length) : sh[c.toNat]? = some (sh.getD c.toNat false) := by
  have hl : c.toNat < sh.length := by omega
  rw [lgd, lgg hl]; rfl
theorem cOpen_ct {n : NetD} (hrw : Rows n.nx) (sh : List Bool) (sp : Int) : CT Try.prog 36 [] [netA n, .lst (boL sh), .int .i64 sp] [] (.tup [.bool (cOB n sh sp), .int .i64 (cOE n sh sp)]) := by
  refine cOp_ct n sh sp ([], _) ?_
  unfold cOpEn cOB cOE
  rw [gu_t hrw]
  by_cases h : csE n sp = 0
  · obtain ⟨hv, h0, h1⟩ := csE_zero h
    obtain ⟨i, rfl⟩ : ∃ i : Nat, sp = i := ⟨sp.toNat, by omega⟩
    obtain ⟨s, hs⟩ : ∃ s, n.ss[i]? = some s := ⟨_, lgg (by omega)⟩
    have e := hv.ends hs
    have sb := hv.sb hs
    rw [br_f (by simp [h]), gu_t hv, if_pos h, valB_iff.2 hv, dec_t h0, dec_t h1]
    by_cases hl : sh.length = celN n
    · rw [br_f (by simp [iN, boL, hl]), gu_t h0, Int.toNat_natCast, el_t hs, gu_t e.1, el_t (get_sh e.1 (by omega)), dec_t hl, if_pos hl]
      have ho : opB n sh (i : Int) = openB sh s := by unfold opB; rw [Int.toNat_natCast, hs]
      rw [ho, ← opJ_end]
      simp only [Bool.true_and]
      have loop : MReach (cOpStep n sh (i : Int)) (some (.inl (.l0 (opJ sh s 0) s 0))) (([], .tup [.bool (opJ sh s s.k.toNat), .int .i64 0]) : Ret) := by
        refine loop_up (fun j => cOpPc.l0 (opJ sh s j) s (j : Int)) s.k.toNat (fun j hj hr => .to ?_ hr) (.to ?_ (.ret _))
        · show cOpS0 n sh i _ s j = _
          unfold cOpS0
          rw [br_t (dec_t (by omega)), opJ_succ, wrapS (s.b + (j : Int)) (by omega) (by omega), wrap_nat j (by omega)]
          cases opJ sh s j with
          | false => rfl
          | true =>
            rw [br_t rfl, gu_t (by omega), el_t (get_sh (by omega) (by omega))]; rfl
        · show cOpS0 n sh i _ s _ = _
          unfold cOpS0
          rw [br_f (dec_f (by omega))]
      have z : opJ sh s 0 = (!(sh.getD s.i.toNat false) && !(sh.getD s.o.toNat false)) := by unfold opJ; simp [fnd]
      rw [z] at loop
      cases h3 : sh.getD s.i.toNat false with
      | true => rw [h3] at loop; exact loop
      | false =>
        rw [h3] at loop
        rw [br_t (by rfl), gu_t (by omega), el_t (get_sh e.2.2.1 (by omega))]
        exact loop
    · rw [br_t (by simp [iN, boL]; omega), dec_f hl, if_neg hl]; simp; exact .ret _
  · rw [br_t (by simpa using h), if_neg h]
    have : (valB n && decide (0 ≤ sp) && decide (sp < n.ss.length)) = false := by
      cases hv : valB n with
      | false => rfl
      | true =>
        unfold csE at h
        rw [if_pos hv] at h
        by_cases a : 0 ≤ sp
        · by_cases b : sp < n.ss.length
          · rw [if_neg (by omega)] at h; exact absurd rfl h
          · simp [b]
        · simp [a]
    rw [this]; exact .ret _
theorem cOB_ok {n : NetD} (hv : ValidN n) {sh : List Bool} (hl : sh.length = celN n) {sp : Int} (h : 0 ≤ sp ∧ sp < n.ss.length) : cOB n sh sp = opB n sh sp := by
  unfold cOB; rw [valB_iff.2 hv, dec_t h.1, dec_t h.2, dec_t hl]; rfl
noncomputable def chcSt (n : NetD) (sh : List Bool) (fl : Int) : Empty → St
  | x => x.elim
def chcHd : Empty → Nat
  | x => x.elim
noncomputable def chcEn (n : NetD) (sh : List Bool) (fl : Int) : Option (Empty ⊕ Ret) :=
 gu (Rows n.nx) <|
 br (cntE n != 0)
 (some (.inr ([], AV.int .i64 (cntE n))))
 (br (iN (boL sh).length != cntZ n)
 (some (.inr ([], AV.int .i64 19)))
 (br (decide (fl < 0))
 (some (.inr ([], AV.int .i64 19)))
 (br (decide (8 < fl))
 (some (.inr ([], AV.int .i64 19)))
 (some (.inr ([], AV.int .i64 0))))))
noncomputable def chcStep (n : NetD) (sh : List Bool) (fl : Int) : Empty → Option (Empty ⊕ Ret)
  | x => x.elim
theorem chcEn_ok (n : NetD) (sh : List Bool) (fl : Int) (o : Empty ⊕ Ret) (h : chcEn n sh fl = some o) : Arr Try.prog Try.f62 0 (chcSt n sh fl) chcHd (bodyOf Try.f62) [] { n := Try.f62.ntmps, fr := enumF 0 ([netA n, .lst (boL sh), .int .i64 fl]), hp := ([]) } o :=
 Scr.ok h mix (
 .rn 0 [] [] [] [] (al (u2 t2)) <|
 .gu fun a0 =>
 have c0 := cnt_c a0;
 .rn 1 [] [] [(11, hK c0 [] [])] [] (aj (u2 (aj (ak (aj t9 (al (c0)))) (u2 (u2 (u2 (u2 s2)))))) (al (u2 (u2 s2)))) <|
 .br (fun a1 =>
 .rt [29] [] [] [] [] [] (aj (aj a1 (al (u2 s2))) t2))
 (fun a1 =>
 .br (fun a2 =>
  .rt [28, 47] [] [] [] [] [] (aj (aj a1 (aj (u2 (u2 (u2 (aj t3 (u2 (aj a2 (aj a2 (ag a2 (u2 (k2 (aj t3 s2))))))))))) (ak s2))) t2))
 (fun a2 =>
  .br (fun a3 =>
  .rt [28, 46, 55] [] [] [] [] [] (aj (aj a1 (aj (u2 (u2 (u2 (aj t3 (u2 (ag a2 (ag a2 (ag a2 (u2 (aj a3 (aj a3 (ag a3 s2)))))))))))) (ak s2))) t2))
  (fun a3 =>
  .rn 0 [28, 46, 54] [] [] [] (aj a1 (al (u2 (u2 (u2 (aj t3 (u2 (ag a2 (ag a2 (ag a2 (u2 (ag a3 (ag a3 (ag a3 s2)))))))))))))) <|
  .br (fun a4 =>
   .rt [46, 54, 37] [] [] [] [] [] (aj (aj a4 s2) t2))
  (fun a4 =>
   .rt [46, 54, 36] [] [] [] [] [] (aj (aj a4 s2) t2)))))) (by kernel_rfl)
theorem chc_ct (n : NetD) (sh : List Bool) (fl : Int) (r : Ret) (h : MReach (chcStep n sh fl) (chcEn n sh fl) r) : CT Try.prog 62 ([]) ([netA n, .lst (boL sh), .int .i64 fl]) r.1 r.2 :=
  CT.mach (fn := Try.f62) (c := bodyOf Try.f62) (S := chcSt n sh fl) (hd := chcHd) Try.func62 (by kernel_rfl) (nbl rfl)
    (fun s o ho => match s, ho with
      | x, _ => x.elim)
    (fun o ho => chcEn_ok n sh fl o ho) h
noncomputable def rchSt (n : NetD) (sh : List Bool) (fl : Int) : Empty → St
  | x => x.elim
def rchHd : Empty → Nat
  | x => x.elim
noncomputable def rchEn (n : NetD) (sh : List Bool) (fl : Int) : Option (Empty ⊕ Ret) :=
 gu (Rows n.nx) <|
 br (!valB n)
 (some (.inr ([], AV.int .i64 20)))
 (gu (ValidN n) <|
 br (iN (boL sh).length != iN (celN n))
 (some (.inr ([], AV.int .i64 19)))
 (br (decide (fl < 0))
 (some (.inr ([], AV.int .i64 19)))
 (br (decide (8 < fl))
 (some (.inr ([], AV.int .i64 19)))
 (some (.inr ([], AV.int .i64 0))))))
noncomputable def rchStep (n : NetD) (sh : List Bool) (fl : Int) : Empty → Option (Empty ⊕ Ret)
  | x => x.elim
theorem rchEn_ok (n : NetD) (sh : List Bool) (fl : Int) (o : Empty ⊕ Ret) (h : rchEn n sh fl = some o) : Arr Try.prog Try.f63 0 (rchSt n sh fl) rchHd (bodyOf Try.f63) [] { n := Try.f63.ntmps, fr := enumF 0 ([netA n, .lst (boL sh), .int .i64 fl]), hp := ([]) } o :=
 Scr.ok h mix (
 .rn 0 [] [] [] [] (al (u2 t2)) <|
 .gu fun a0 =>
 have c0 := rvalid_net_ct a0;
 .rn 0 [] [] [(8, hK c0 [] [])] [] (al (u2 (aj (ak (aj t9 (al (c0)))) s2))) <|
 .br (fun a1 =>
 .rt [19] [] [] [] [] [] (aj (aj a1 s2) t2))
 (fun a1 =>
 .gu fun a2 =>
 .br (fun a3 =>
  have c1 := cells_ct a2;
  .rt [18, 31] [] [(13, hK c1 [] [])] [] [] [] (aj (aj a1 (aj (u2 (u2 (u2 (aj (ak (aj t9 (al (c1)))) (aj t3 (u2 (aj a3 (aj a3 (ag a3 (u2 (k2 (al t3)))))))))))) (ak s2))) t2))
 (fun a3 =>
  .br (fun a4 =>
  have c1 := cells_ct a2;
  .rt [18, 30, 39] [] [(13, hK c1 [] [])] [] [] [] (aj (aj a1 (aj (u2 (u2 (u2 (aj (ak (aj t9 (al (c1)))) (aj t3 (u2 (ag a3 (ag a3 (ag a3 (u2 (aj a4 (aj a4 (al (aj a4 t2)))))))))))))) (ak s2))) t2))
  (fun a4 =>
  have c1 := cells_ct a2;
  .rn 0 [18, 30, 38] [] [(13, hK c1 [] [])] [] (aj a1 (al (u2 (u2 (u2 (aj (ak (aj t9 (al (c1)))) (aj t3 (u2 (ag a3 (ag a3 (ag a3 (u2 (ag a4 (ag a4 (al (aj a4 t2)))))))))))))))) <|
  .br (fun a5 =>
   .rt [30, 38, 45] [] [] [] [] [] (aj (aj a5 s2) t2))
  (fun a5 =>
   .rt [30, 38, 44] [] [] [] [] [] (aj (aj a5 s2) t2)))))) (by kernel_rfl)
theorem rch_ct (n : NetD) (sh : List Bool) (fl : Int) (r : Ret) (h : MReach (rchStep n sh fl) (rchEn n sh fl) r) : CT Try.prog 63 ([]) ([netA n, .lst (boL sh), .int .i64 fl]) r.1 r.2 :=
  CT.mach (fn := Try.f63) (c := bodyOf Try.f63) (S := rchSt n sh fl) (hd := rchHd) Try.func63 (by kernel_rfl) (nbl rfl)
    (fun s o ho => match s, ho with
      | x, _ => x.elim)
    (fun o ho => rchEn_ok n sh fl o ho) h
inductive rslPc where
  | l0 (v0 v1 : Int)
noncomputable def rslSt (n : NetD) (sh : List Bool) : rslPc → St
  | .l0 v0 v1 => St.mk 35 [(1, AV.lst (boL sh)), (2, AV.ptr 0 0 0), (5, iv v0), (6, iv v1)] [some (Blk.mk [netA n] 8 true true none)]
def rslHd : rslPc → Nat
  | .l0 _ _ => 0
noncomputable def rslEn (n : NetD) (sh : List Bool) : Option (rslPc ⊕ Ret) :=
 some (.inl (.l0 ((0 : Int)) ((0 : Int))))
noncomputable def rslS0 (n : NetD) (sh : List Bool) (v0 v1 : Int) : Option (rslPc ⊕ Ret) :=
 br (decide (v1 < iN (List.map sA n.ss).length))
 (gu (0 ≤ v1) <|
 el (n.ss) (v1.toNat) fun (x17 : SpuD) =>
 br (x17.dep)
 (gu (ValidN n) <|
 gu (sh.length = celN n) <|
 gu (0 ≤ v1 ∧ v1 < iN n.ss.length) <|
 br (opB n sh v1)
 (el (n.ss) (v1.toNat) fun (x30 : SpuD) =>
 some (.inl (.l0 (IntKind.i64.wrap (v0 + x30.k)) (IntKind.i64.wrap (v1 + 1)))))
 (some (.inl (.l0 v0 (IntKind.i64.wrap (v1 + 1))))))
 (some (.inl (.l0 v0 (IntKind.i64.wrap (v1 + 1))))))
 (some (.inr ([], AV.int .i64 v0)))
noncomputable def rslStep (n : NetD) (sh : List Bool) : rslPc → Option (rslPc ⊕ Ret)
  | .l0 v0 v1 => rslS0 n sh v0 v1
theorem rslEn_ok (n : NetD) (sh : List Bool) (o : rslPc ⊕ Ret) (h : rslEn n sh = some o) : Arr Try.prog Try.f64 0 (rslSt n sh) rslHd (bodyOf Try.f64) [] { n := Try.f64.ntmps, fr := enumF 0 ([netA n, .lst (boL sh)]), hp := ([]) } o :=
 Scr.ok h mix (
 .lp [] [] [] [] [] [0] [1, 2, 5, 6] (aj (ag t2 (u2 s2)) t6)) (by kernel_rfl)
theorem rslS0_ok (n : NetD) (sh : List Bool) (v0 v1 : Int) (o : rslPc ⊕ Ret) (h : rslS0 n sh v0 v1 = some o) : Arr Try.prog Try.f64 0 (rslSt n sh) rslHd (headC Try.f64 0) (.rnd (headC Try.f64 0) :: headK Try.f64 0) (rslSt n sh (.l0 v0 v1)) o :=
 Scr.ok h mix (
 .rn 0 [] [] [] [] (al (u2 (u2 (u2 (u2 (al t3)))))) <|
 .br (fun a0 =>
 .gu fun a1 =>
 .el fun x17 a2 =>
 .br (fun a3 =>
  .gu fun a4 =>
  .gu fun a5 =>
  .gu fun a6 =>
  have c0 := ropen_ct n (sh) v1 a4 a5 a6;
  .rn 0 [23, 41] [(17, sA x17)] [(24, hK c0 [] [])] [] (aj a0 (al (u2 (u2 (u2 (aj (k2 (aj a1 (getMap (f := sA) a2))) (u2 (u2 (u2 (ag a3 (ag a3 (ag a3 (aj (aj a3 (k3 (aj t9 (k2 (al (c0)))))) (al (aj a3 t2))))))))))))))) <|
  .br (fun a7 =>
  .el fun x30 a8 =>
  .lp [41, 51] [(30, sA x30)] [] [] [] [0] [1, 2, 5, 6] (aj (aj a7 (aj (u2 (u2 (u2 (u2 (aj (k2 (aj a1 (getMap (f := sA) a8))) (u2 (u2 (aj t3 s2)))))))) (al (u2 (u2 s2))))) t6))
  (fun a7 =>
  .lp [41, 50] [] [] [] [] [0] [1, 2, 5, 6] (aj (aj a7 (al (u2 (u2 s2)))) t6)))
 (fun a3 =>
  .lp [23, 40] [(17, sA x17)] [] [] [] [0] [1, 2, 5, 6] (aj (aj a0 (aj (u2 (u2 (u2 (aj (k2 (aj a1 (getMap (f := sA) a2))) (u2 (u2 (u2 (aj a3 (aj a3 (aj a3 (aj a3 (al (aj a3 t2))))))))))))) (ak (al (u2 (u2 s2)))))) t6)))
 (fun a0 =>
 .rt [22] [] [] [] [] [] (aj (aj a0 (al (u2 s2))) t2))) (by kernel_rfl)
theorem rsl_ct (n : NetD) (sh : List Bool) (r : Ret) (h : MReach (rslStep n sh) (rslEn n sh) r) : CT Try.prog 64 ([]) ([netA n, .lst (boL sh)]) r.1 r.2 :=
  CT.mach (fn := Try.f64) (c := bodyOf Try.f64) (S := rslSt n sh) (hd := rslHd) Try.func64 (by kernel_rfl) (nbl rfl)
    (fun s o ho => match s, ho with
      | .l0 v0 v1, ho => rslS0_ok n sh v0 v1 o ho
    )
    (fun o ho => rslEn_ok n sh o ho) h
noncomputable def wthSt (sh : List Bool) (c : Int) : Empty → St
  | x => x.elim
def wthHd : Empty → Nat
  | x => x.elim
noncomputable def wthEn (sh : List Bool) (c : Int) : Option (Empty ⊕ Ret) :=
 gu (∀ (e : AV), e ∈ boL sh → e.cells.length = 1) <|
 gu ((boL sh).length ≤ 9223372036854775807) <|
 gu ((boL sh).length * 1 ≤ 140737488355328) <|
 gu (0 ≤ c) <|
 gu (c < iN (boL sh).length) <|
 gu ((0 + c.toNat).succ.le (boL sh).length) <|
 some (.inr ([], AV.lst ((boL sh).set (0 + c.toNat) (AV.bool true))))
noncomputable def wthStep (sh : List Bool) (c : Int) : Empty → Option (Empty ⊕ Ret)
  | x => x.elim
theorem wthEn_ok (sh : List Bool) (c : Int) (o : Empty ⊕ Ret) (h : wthEn sh c = some o) : Arr Try.prog Try.f88 0 (wthSt sh c) wthHd (bodyOf Try.f88) [] { n := Try.f88.ntmps, fr := enumF 0 ([.lst (boL sh), .int .i64 c]), hp := ([]) } o :=
 Scr.ok h mix (
 .rn 0 [] [] [] [] s2 <|
 .gu fun a0 =>
 .gu fun a1 =>
 .gu fun a2 =>
 .rn 0 [] [] [] [] (al (u2 (aj (ak (aj a0 (aj a1 a2))) s2))) <|
 .gu fun a3 =>
 .gu fun a4 =>
 .gu fun a5 =>
 .rt [] [] [] [] [] [0] (aj (aj (u2 (u2 (aj (k2 (aj a3 a4)) (al (ak a5))))) (al (u2 s2))) (al (show (boL sh).length = ((boL sh).set (0 + c.toNat) (AV.bool true)).length by simp)))) (by kernel_rfl)
theorem wth_ct (sh : List Bool) (c : Int) (r : Ret) (h : MReach (wthStep sh c) (wthEn sh c) r) : CT Try.prog 88 ([]) ([.lst (boL sh), .int .i64 c]) r.1 r.2 :=
  CT.mach (fn := Try.f88) (c := bodyOf Try.f88) (S := wthSt sh c) (hd := wthHd) Try.func88 (by kernel_rfl) (nbl rfl)
    (fun s o ho => match s, ho with
      | x, _ => x.elim)
    (fun o ho => wthEn_ok sh c o ho) h
inductive mutPc where
  | l0 (v0 : Int)
  | l1 (v0 : Int) (v1 v2 v3 v4 v5 v6 v7 v8 v9 v10 v11 v12 v13 v14 v15 v16 v17 v18 v19 v20 v21 v22 v23 v24 v25 v26 v27 v28 v29 v30 v31 v32 v33 v34 v35 v36 v37 v38 v39 v40 v41 v42 v43 v44 v45 v46 v47 v48 : Bool)
noncomputable def mutSt (g : List (List Int)) (sh : List Bool) : mutPc → St
  | .l0 v0 => St.mk 66 [(0, AV.lst (gL g)), (1, AV.lst (boL sh)), (6, AV.lst (gL (rvO g))), (27, AV.lst (boL sh)), (28, iv (iN (boL sh).length)), (29, iv v0)] []
  | .l1 v0 v1 v2 v3 v4 v5 v6 v7 v8 v9 v10 v11 v12 v13 v14 v15 v16 v17 v18 v19 v20 v21 v22 v23 v24 v25 v26 v27 v28 v29 v30 v31 v32 v33 v34 v35 v36 v37 v38 v39 v40 v41 v42 v43 v44 v45 v46 v47 v48 => St.mk 66 [(10, AV.ptr 0 0 0), (11, AV.ptr 1 0 0), (43, AV.lst (boL sh)), (44, iv (iN (boL sh).length)), (45, iv v0)] [some (Blk.mk [AV.agg [AV.bool v1, AV.bool v2, AV.bool v3, AV.bool v4, AV.bool v5, AV.bool v6, AV.bool v7, AV.bool v8, AV.bool v9, AV.bool v10, AV.bool v11, AV.bool v12, AV.bool v13, AV.bool v14, AV.bool v15, AV.bool v16, AV.bool v17, AV.bool v18, AV.bool v19, AV.bool v20, AV.bool v21, AV.bool v22, AV.bool v23, AV.bool v24]] 24 true true none), some (Blk.mk [AV.agg [AV.bool v25, AV.bool v26, AV.bool v27, AV.bool v28, AV.bool v29, AV.bool v30, AV.bool v31, AV.bool v32, AV.bool v33, AV.bool v34, AV.bool v35, AV.bool v36, AV.bool v37, AV.bool v38, AV.bool v39, AV.bool v40, AV.bool v41, AV.bool v42, AV.bool v43, AV.bool v44, AV.bool v45, AV.bool v46, AV.bool v47, AV.bool v48]] 24 true true none)]
def mutHd : mutPc → Nat
  | .l0 _ => 0
  | .l1 _ _ _ _ _ _ _ _ _ _ _ _ _ _ _ _ _ _ _ _ _ _ _ _ _ _ _ _ _ _ _ _ _ _ _ _ _ _ _ _ _ _ _ _ _ _ _ _ _ => 1
noncomputable def mutEn (g : List (List Int)) (sh : List Bool) : Option (mutPc ⊕ Ret) :=
 gu (Rows g) <|
 br (rvE g != 0)
 (some (.inr ([], AV.tup [AV.bool false, AV.int .i64 (rvE g)])))
 (br (iN (boL sh).length != iN (gL g).length)
 (some (.inr ([], AV.tup [AV.bool false, AV.int .i64 19])))
 (some (.inl (.l0 ((0 : Int))))))
noncomputable def mutS0 (g : List (List Int)) (sh : List Bool) (v0 : Int) : Option (mutPc ⊕ Ret) :=
 br (decide (v0 < iN (boL sh).length))
 (gu (0 ≤ v0) <|
 el (sh) (v0.toNat) fun (x32 : Bool) =>
 br x32
 (some (.inl (.l0 (IntKind.i64.wrap (v0 + 1)))))
 (gu (GOk g) <|
 gu (sh.length = g.length) <|
 gu (0 ≤ v0 ∧ v0 < iN g.length) <|
 gu (GOk (rvO g)) <|
 gu (sh.length = (rvO g).length) <|
 gu (0 ≤ v0 ∧ v0 < iN (rvO g).length) <|
 some (.inl (.l1 ((0 : Int)) (mkB g sh v0.toNat 0) (mkB g sh v0.toNat 1) (mkB g sh v0.toNat 2) (mkB g sh v0.toNat 3) (mkB g sh v0.toNat 4) (mkB g sh v0.toNat 5) (mkB g sh v0.toNat 6) (mkB g sh v0.toNat 7) (mkB g sh v0.toNat 8) (mkB g sh v0.toNat 9) (mkB g sh v0.toNat 10) (mkB g sh v0.toNat 11) (mkB g sh v0.toNat 12) (mkB g sh v0.toNat 13) (mkB g sh v0.toNat 14) (mkB g sh v0.toNat 15) (mkB g sh v0.toNat 16) (mkB g sh v0.toNat 17) (mkB g sh v0.toNat 18) (mkB g sh v0.toNat 19) (mkB g sh v0.toNat 20) (mkB g sh v0.toNat 21) (mkB g sh v0.toNat 22) (mkB g sh v0.toNat 23) (mkB (rvO g) sh v0.toNat 0) (mkB (rvO g) sh v0.toNat 1) (mkB (rvO g) sh v0.toNat 2) (mkB (rvO g) sh v0.toNat 3) (mkB (rvO g) sh v0.toNat 4) (mkB (rvO g) sh v0.toNat 5) (mkB (rvO g) sh v0.toNat 6) (mkB (rvO g) sh v0.toNat 7) (mkB (rvO g) sh v0.toNat 8) (mkB (rvO g) sh v0.toNat 9) (mkB (rvO g) sh v0.toNat 10) (mkB (rvO g) sh v0.toNat 11) (mkB (rvO g) sh v0.toNat 12) (mkB (rvO g) sh v0.toNat 13) (mkB (rvO g) sh v0.toNat 14) (mkB (rvO g) sh v0.toNat 15) (mkB (rvO g) sh v0.toNat 16) (mkB (rvO g) sh v0.toNat 17) (mkB (rvO g) sh v0.toNat 18) (mkB (rvO g) sh v0.toNat 19) (mkB (rvO g) sh v0.toNat 20) (mkB (rvO g) sh v0.toNat 21) (mkB (rvO g) sh v0.toNat 22) (mkB (rvO g) sh v0.toNat 23)))))
 (some (.inr ([], AV.tup [AV.bool false, AV.int .i64 0])))
noncomputable def mutS1 (g : List (List Int)) (sh : List Bool) (v0 : Int) (v1 v2 v3 v4 v5 v6 v7 v8 v9 v10 v11 v12 v13 v14 v15 v16 v17 v18 v19 v20 v21 v22 v23 v24 v25 v26 v27 v28 v29 v30 v31 v32 v33 v34 v35 v36 v37 v38 v39 v40 v41 v42 v43 v44 v45 v46 v47 v48 : Bool) : Option (mutPc ⊕ Ret) :=
 br (decide (v0 < iN (boL sh).length))
 (gu (0 ≤ v0) <|
 el (sh) (v0.toNat) fun (x48 : Bool) =>
 br (!x48)
 (gu (v0 < 24) <|
 el ([v1, v2, v3, v4, v5, v6, v7, v8, v9, v10, v11, v12, v13, v14, v15, v16, v17, v18, v19, v20, v21, v22, v23, v24]) (0 + v0.toNat * 1) fun (x55 : Bool) =>
 br (!x55)
 (some (.inr ([], AV.tup [AV.bool false, AV.int .i64 0])))
 (el ([v25, v26, v27, v28, v29, v30, v31, v32, v33, v34, v35, v36, v37, v38, v39, v40, v41, v42, v43, v44, v45, v46, v47, v48]) (0 + v0.toNat * 1) fun (x60 : Bool) =>
 br (!x60)
 (some (.inr ([], AV.tup [AV.bool false, AV.int .i64 0])))
 (some (.inl (.l1 (IntKind.i64.wrap (v0 + 1)) v1 v2 v3 v4 v5 v6 v7 v8 v9 v10 v11 v12 v13 v14 v15 v16 v17 v18 v19 v20 v21 v22 v23 v24 v25 v26 v27 v28 v29 v30 v31 v32 v33 v34 v35 v36 v37 v38 v39 v40 v41 v42 v43 v44 v45 v46 v47 v48)))))
 (some (.inl (.l1 (IntKind.i64.wrap (v0 + 1)) v1 v2 v3 v4 v5 v6 v7 v8 v9 v10 v11 v12 v13 v14 v15 v16 v17 v18 v19 v20 v21 v22 v23 v24 v25 v26 v27 v28 v29 v30 v31 v32 v33 v34 v35 v36 v37 v38 v39 v40 v41 v42 v43 v44 v45 v46 v47 v48))))
 (some (.inr ([], AV.tup [AV.bool true, AV.int .i64 0])))
noncomputable def mutStep (g : List (List Int)) (sh : List Bool) : mutPc → Option (mutPc ⊕ Ret)
  | .l0 v0 => mutS0 g sh v0
  | .l1 v0 v1 v2 v3 v4 v5 v6 v7 v8 v9 v10 v11 v12 v13 v14 v15 v16 v17 v18 v19 v20 v21 v22 v23 v24 v25 v26 v27 v28 v29 v30 v31 v32 v33 v34 v35 v36 v37 v38 v39 v40 v41 v42 v43 v44 v45 v46 v47 v48 => mutS1 g sh v0 v1 v2 v3 v4 v5 v6 v7 v8 v9 v10 v11 v12 v13 v14 v15 v16 v17 v18 v19 v20 v21 v22 v23 v24 v25 v26 v27 v28 v29 v30 v31 v32 v33 v34 v35 v36 v37 v38 v39 v40 v41 v42 v43 v44 v45 v46 v47 v48
theorem mutEn_ok (g : List (List Int)) (sh : List Bool) (o : mutPc ⊕ Ret) (h : mutEn g sh = some o) : Arr Try.prog Try.f35 0 (mutSt g sh) mutHd (bodyOf Try.f35) [] { n := Try.f35.ntmps, fr := enumF 0 ([.lst (gL g), .lst (boL sh)]), hp := ([]) } o :=
 Scr.ok h mix (
 .rn 0 [] [] [] [] (al t3) <|
 .gu fun a0 =>
 have c0 := rev_c a0;
 .rn 1 [] [] [(16, hK c0 [] [])] [] (aj (u2 (aj (k2 (al (c0))) (u2 (u2 (u2 (u2 s2)))))) (al (u2 s2))) <|
 .br (fun a1 =>
 .rt [41] [] [] [] [] [] (aj (aj a1 (al (u2 (ak s2)))) (al t3)))
 (fun a1 =>
 .rn 0 [40] [] [] [] (aj a1 (al (u2 (u2 (u2 (u2 (al t3))))))) <|
 .br (fun a2 =>
  .rt [53] [] [] [] [] [] (aj (aj a2 (al t3)) (al t3)))
 (fun a2 =>
  .lp [52] [] [] [] [] [] [0, 1, 6, 27, 28, 29] (aj (aj a2 (al (u2 (u2 t2)))) t7)))) (by kernel_rfl)
theorem mutS0_ok (g : List (List Int)) (sh : List Bool) (v0 : Int) (o : mutPc ⊕ Ret) (h : mutS0 g sh v0 = some o) : Arr Try.prog Try.f35 0 (mutSt g sh) mutHd (headC Try.f35 0) (.rnd (headC Try.f35 0) :: headK Try.f35 0) (mutSt g sh (.l0 v0)) o :=
 Scr.ok h mix (
 .rn 0 [] [] [] [] (al (al t3)) <|
 .br (fun a0 =>
 .gu fun a1 =>
 .el fun x32 a2 =>
 .rn 1 [61] [(32, AV.bool x32)] [] [] (aj a0 (aj (u2 (aj (k2 (aj a1 (getMap (f := AV.bool) a2))) (u2 (u2 s2)))) (al s2))) <|
 .br (fun a3 =>
  .lp [69] [] [] [] [] [] [0, 1, 6, 27, 28, 29] (aj (aj a3 (al (u2 s2))) t7))
 (fun a3 =>
  .gu fun a4 =>
  .gu fun a5 =>
  .gu fun a6 =>
  .gu fun a7 =>
  .gu fun a8 =>
  .gu fun a9 =>
  have c0 := fd_m a4 a5 a6;
  have c1 := fd_m a7 a8 a9;
  .lp [68] [] [(38, hK c0 [] []), (42, hK c1 [] [])] [] [] [0, 1] [10, 11, 43, 44, 45] (aj (aj a3 (aj (u2 (u2 (u2 (aj (ak (k5 (al (c0)))) (u2 (u2 (u2 (aj (ak (k5 (al (c1)))) (k2 (aj (k2 n11) (al (k2 n11)))))))))))) (al (u2 (u2 t2))))) t8)))
 (fun a0 =>
 .rt [60] [] [] [] [] [] (aj (aj a0 (al t3)) (al t3)))) (by kernel_rfl)
theorem mutS1_ok (g : List (List Int)) (sh : List Bool) (v0 : Int) (v1 v2 v3 v4 v5 v6 v7 v8 v9 v10 v11 v12 v13 v14 v15 v16 v17 v18 v19 v20 v21 v22 v23 v24 v25 v26 v27 v28 v29 v30 v31 v32 v33 v34 v35 v36 v37 v38 v39 v40 v41 v42 v43 v44 v45 v46 v47 v48 : Bool) (o : mutPc ⊕ Ret) (h : mutS1 g sh v0 v1 v2 v3 v4 v5 v6 v7 v8 v9 v10 v11 v12 v13 v14 v15 v16 v17 v18 v19 v20 v21 v22 v23 v24 v25 v26 v27 v28 v29 v30 v31 v32 v33 v34 v35 v36 v37 v38 v39 v40 v41 v42 v43 v44 v45 v46 v47 v48 = some o) : Arr Try.prog Try.f35 0 (mutSt g sh) mutHd (headC Try.f35 1) (.rnd (headC Try.f35 1) :: headK Try.f35 1) (mutSt g sh (.l1 v0 v1 v2 v3 v4 v5 v6 v7 v8 v9 v10 v11 v12 v13 v14 v15 v16 v17 v18 v19 v20 v21 v22 v23 v24 v25 v26 v27 v28 v29 v30 v31 v32 v33 v34 v35 v36 v37 v38 v39 v40 v41 v42 v43 v44 v45 v46 v47 v48)) o :=
 Scr.ok h mix (
 .rn 0 [] [] [] [] (al (al t3)) <|
 .br (fun a0 =>
 .gu fun a1 =>
 .el fun x48 a2 =>
 .rn 0 [93] [(48, AV.bool x48)] [] [] (aj a0 (al (u2 (aj (k2 (aj a1 (getMap (f := AV.bool) a2))) (u2 (u2 s2)))))) <|
 .br (fun a3 =>
  .gu fun a4 =>
  .el fun x55 a5 =>
  .br (fun a6 =>
  .rt [105, 115] [(55, AV.tup [AV.bool x55])] [] [] [] [] (aj (aj (u2 (u2 (u2 (ag a3 (aj (aj a3 (k2 (aj a1 a4))) (aj (aj a3 (ak (getMap (f := AV.bool) a5))) (ag a3 (ag a3 (aj a6 (aj a6 (aj a6 (aj a6 (aj (aj a3 (aj a6 t2)) (al (aj a3 t2))))))))))))))) (ak (al t3))) (al t3)))
  (fun a6 =>
  .el fun x60 a7 =>
  .rn 0 [105, 114] [(55, AV.tup [AV.bool x55]), (60, AV.tup [AV.bool x60])] [] [] (al (u2 (u2 (u2 (ag a3 (aj (aj a3 (k2 (aj a1 a4))) (aj (aj a3 (ak (getMap (f := AV.bool) a5))) (ag a3 (ag a3 (ag a6 (aj (aj a6 (k2 (aj a1 a4))) (aj (aj a6 (ak (getMap (f := AV.bool) a7))) (ag a6 (aj (aj a3 (aj a6 t2)) (al (aj a3 t2)))))))))))))))) <|
  .br (fun a8 =>
   .rt [105, 114, 127] [] [] [] [] [] (aj (aj a8 (al t3)) (al t3)))
  (fun a8 =>
   .lp [105, 114, 126] [] [] [] [] [0, 1] [10, 11, 43, 44, 45] (aj (aj a8 (al (u2 s2))) t8))))
 (fun a3 =>
  .lp [104] [] [] [] [] [0, 1] [10, 11, 43, 44, 45] (aj (aj (u2 (u2 (u2 (aj a3 (aj a3 (aj a3 (aj a3 (aj a3 (ak (k3 (aj a3 (al (aj a3 t2))))))))))))) (ak (al (u2 s2)))) t8)))
 (fun a0 =>
 .rt [92] [] [] [] [] [] (aj (aj a0 (al t3)) (al t3)))) (by kernel_rfl)
theorem mut_ct (g : List (List Int)) (sh : List Bool) (r : Ret) (h : MReach (mutStep g sh) (mutEn g sh) r) : CT Try.prog 35 ([]) ([.lst (gL g), .lst (boL sh)]) r.1 r.2 :=
  CT.mach (fn := Try.f35) (c := bodyOf Try.f35) (S := mutSt g sh) (hd := mutHd) Try.func35 (by kernel_rfl) (nbl rfl)
    (fun s o ho => match s, ho with
      | .l0 v0, ho => mutS0_ok g sh v0 o ho
      | .l1 v0 v1 v2 v3 v4 v5 v6 v7 v8 v9 v10 v11 v12 v13 v14 v15 v16 v17 v18 v19 v20 v21 v22 v23 v24 v25 v26 v27 v28 v29 v30 v31 v32 v33 v34 v35 v36 v37 v38 v39 v40 v41 v42 v43 v44 v45 v46 v47 v48, ho => mutS1_ok g sh v0 v1 v2 v3 v4 v5 v6 v7 v8 v9 v10 v11 v12 v13 v14 v15 v16 v17 v18 v19 v20 v21 v22 v23 v24 v25 v26 v27 v28 v29 v30 v31 v32 v33 v34 v35 v36 v37 v38 v39 v40 v41 v42 v43 v44 v45 v46 v47 v48 o ho
    )
    (fun o ho => mutEn_ok g sh o ho) h
inductive rmuPc where
  | l0 (v0 v1 : Int)
  | l1 (v0 v1 : Int) (v2 : List Bool) (v3 : Int)
noncomputable def rmuSt (g : List (List Int)) (sh : List Bool) : rmuPc → St
  | .l0 v0 v1 => St.mk 53 [(0, AV.lst (gL g)), (1, AV.lst (boL sh)), (7, iv v0), (8, iv v1)] []
  | .l1 v0 v1 v2 v3 => St.mk 53 [(0, AV.lst (gL g)), (1, AV.lst (boL sh)), (7, iv v0), (8, iv v1), (9, AV.lst (List.map AV.bool v2)), (10, iv v3)] []
def rmuHd : rmuPc → Nat
  | .l0 _ _ => 0
  | .l1 _ _ _ _ => 1
noncomputable def rmuEn (g : List (List Int)) (sh : List Bool) : Option (rmuPc ⊕ Ret) :=
 gu (Rows g) <|
 br (chk4 g sh != 0)
 (some (.inr ([], AV.tup [AV.bool false, AV.int .i64 (chk4 g sh)])))
 (some (.inl (.l0 ((0 : Int)) ((0 : Int)))))
noncomputable def rmuS0 (g : List (List Int)) (sh : List Bool) (v0 v1 : Int) : Option (rmuPc ⊕ Ret) :=
 br (decide (v1 < iN (gL g).length))
 (gu (0 ≤ v1) <|
 el (sh) (v1.toNat) fun (x25 : Bool) =>
 br x25
 (some (.inl (.l0 v0 (IntKind.i64.wrap (v1 + 1)))))
 (gu (GOk g) <|
 gu (sh.length = g.length) <|
 gu (0 ≤ v1 ∧ v1 < iN g.length) <|
 some (.inl (.l1 (IntKind.i64.wrap (v0 + 1)) v1 (rcL g sh v1) ((0 : Int))))))
 (some (.inr ([], AV.tup [AV.bool (decide (0 < v0)), AV.int .i64 0])))
noncomputable def rmuS1 (g : List (List Int)) (sh : List Bool) (v0 v1 : Int) (v2 : List Bool) (v3 : Int) : Option (rmuPc ⊕ Ret) :=
 br (decide (v3 < iN (gL g).length))
 (gu (0 ≤ v3) <|
 el (sh) (v3.toNat) fun (x41 : Bool) =>
 br (!x41)
 (el v2 (v3.toNat) fun (x47 : Bool) =>
 br (!x47)
 (some (.inr ([], AV.tup [AV.bool false, AV.int .i64 0])))
 (some (.inl (.l1 v0 v1 v2 (IntKind.i64.wrap (v3 + 1))))))
 (some (.inl (.l1 v0 v1 v2 (IntKind.i64.wrap (v3 + 1))))))
 (some (.inl (.l0 v0 (IntKind.i64.wrap (v1 + 1)))))
noncomputable def rmuStep (g : List (List Int)) (sh : List Bool) : rmuPc → Option (rmuPc ⊕ Ret)
  | .l0 v0 v1 => rmuS0 g sh v0 v1
  | .l1 v0 v1 v2 v3 => rmuS1 g sh v0 v1 v2 v3
theorem rmuEn_ok (g : List (List Int)) (sh : List Bool) (o : rmuPc ⊕ Ret) (h : rmuEn g sh = some o) : Arr Try.prog Try.f87 0 (rmuSt g sh) rmuHd (bodyOf Try.f87) [] { n := Try.f87.ntmps, fr := enumF 0 ([.lst (gL g), .lst (boL sh)]), hp := ([]) } o :=
 Scr.ok h mix (
 .rn 0 [] [] [] [] (al t3) <|
 .gu fun a0 =>
 have c0 := check4_x (sh) a0;
 .rn 1 [] [] [(13, hK c0 [] [])] [] (aj (u2 (u2 (aj (ak (k3 (al (c0)))) s2))) (al (u2 s2))) <|
 .br (fun a1 =>
 .rt [31] [] [] [] [] [] (aj (aj a1 (al (u2 (ak s2)))) (al t3)))
 (fun a1 =>
 .lp [30] [] [] [] [] [] [0, 1, 7, 8] (aj (aj a1 (u2 s2)) t5))) (by kernel_rfl)
theorem rmuS0_ok (g : List (List Int)) (sh : List Bool) (v0 v1 : Int) (o : rmuPc ⊕ Ret) (h : rmuS0 g sh v0 v1 = some o) : Arr Try.prog Try.f87 0 (rmuSt g sh) rmuHd (headC Try.f87 0) (.rnd (headC Try.f87 0) :: headK Try.f87 0) (rmuSt g sh (.l0 v0 v1)) o :=
 Scr.ok h mix (
 .rn 0 [] [] [] [] (al (u2 (u2 (u2 (al t3))))) <|
 .br (fun a0 =>
 .gu fun a1 =>
 .el fun x25 a2 =>
 .rn 0 [41] [(25, AV.bool x25)] [] [] (aj a0 (al (u2 (u2 (aj (k2 (aj a1 (getMap (f := AV.bool) a2))) s2))))) <|
 .br (fun a3 =>
  .lp [53] [] [] [] [] [] [0, 1, 7, 8] (aj (aj a3 (al (u2 (u2 s2)))) t5))
 (fun a3 =>
  .rn 0 [52] [] [] [] (aj a3 (al (u2 (u2 s2)))) <|
  .gu fun a4 =>
  .gu fun a5 =>
  .gu fun a6 =>
  have c0 := reach_m a4 a5 a6;
  .lp [] [] [(32, hK c0 [] [])] [] [] [] [0, 1, 7, 8, 9, 10] (aj (aj (u2 (u2 (u2 (aj (ak (k5 (al (c0)))) s2)))) s2) t7)))
 (fun a0 =>
 .rt [40] [] [] [] [] [] (aj (aj a0 (al (u2 (u2 (u2 t2))))) (al t3)))) (by kernel_rfl)
theorem rmuS1_ok (g : List (List Int)) (sh : List Bool) (v0 v1 : Int) (v2 : List Bool) (v3 : Int) (o : rmuPc ⊕ Ret) (h : rmuS1 g sh v0 v1 v2 v3 = some o) : Arr Try.prog Try.f87 0 (rmuSt g sh) rmuHd (headC Try.f87 1) (.rnd (headC Try.f87 1) :: headK Try.f87 1) (rmuSt g sh (.l1 v0 v1 v2 v3)) o :=
 Scr.ok h mix (
 .rn 0 [] [] [] [] (al (u2 (u2 (u2 (al t3))))) <|
 .br (fun a0 =>
 .gu fun a1 =>
 .el fun x41 a2 =>
 .br (fun a3 =>
  .el fun x47 a4 =>
  .rn 0 [73, 89] [(41, AV.bool x41), (47, AV.bool x47)] [] [] (aj a0 (al (u2 (u2 (aj (k2 (aj a1 (getMap (f := AV.bool) a2))) (u2 (u2 (u2 (ag a3 (ag a3 (aj (aj a3 (k2 (aj a1 (getMap (f := AV.bool) a4)))) (ag a3 (ag a3 (al (aj a3 t2))))))))))))))) <|
  .br (fun a5 =>
  .rt [89, 101] [] [] [] [] [] (aj (aj a5 (al t3)) (al t3)))
  (fun a5 =>
  .lp [89, 100] [] [] [] [] [] [0, 1, 7, 8, 9, 10] (aj (aj a5 (al (u2 (u2 s2)))) t7)))
 (fun a3 =>
  .lp [73, 88] [(41, AV.bool x41)] [] [] [] [] [0, 1, 7, 8, 9, 10] (aj (aj a0 (aj (u2 (u2 (aj (k2 (aj a1 (getMap (f := AV.bool) a2))) (u2 (u2 (u2 (aj a3 (aj a3 (aj a3 (aj a3 (aj a3 (al (aj a3 t2))))))))))))) (ak (al (u2 (u2 s2)))))) t7)))
 (fun a0 =>
 .lp [72] [] [] [] [] [] [0, 1, 7, 8] (aj (aj a0 (al (u2 (u2 s2)))) t5))) (by kernel_rfl)
theorem rmu_ct (g : List (List Int)) (sh : List Bool) (r : Ret) (h : MReach (rmuStep g sh) (rmuEn g sh) r) : CT Try.prog 87 ([]) ([.lst (gL g), .lst (boL sh)]) r.1 r.2 :=
  CT.mach (fn := Try.f87) (c := bodyOf Try.f87) (S := rmuSt g sh) (hd := rmuHd) Try.func87 (by kernel_rfl) (nbl rfl)
    (fun s o ho => match s, ho with
      | .l0 v0 v1, ho => rmuS0_ok g sh v0 v1 o ho
      | .l1 v0 v1 v2 v3, ho => rmuS1_ok g sh v0 v1 v2 v3 o ho
    )
    (fun o ho => rmuEn_ok g sh o ho) h
theorem Rcv.open1 {g : List (List Int)} {s : List Bool} {v k : Nat} (h : Rcv g s v k) : s.getD v true = false := by
  induction h with
  | refl h => exact h
  | step _ _ _ ih => exact ih
theorem Rcv.trans {g : List (List Int)} {s : List Bool} {a b c : Nat} (h : Rcv g s a b) (k : Rcv g s b c) : Rcv g s a c := by
  induction k with
  | refl _ => exact h
  | step _ hw ho ih => exact .step ih hw ho
theorem addEs_mem (v : Nat) : ∀ (l : List Int) (R : List (List Int)) (w : Nat) (y : Int), (∀ z ∈ l, 0 ≤ z ∧ z < (R.length : Int)) → (y ∈ (l.foldl (addE v) R).getD w [] ↔ y ∈ R.getD w [] ∨ (y = (v : Int) ∧ (w : Int) ∈ l)) := by
  intro l
  induction l with
  | nil => intro R w y _; simp
  | cons x l ih =>
    intro R w y hl
    rw [List.foldl_cons, ih _ _ _ (fun z hz => by rw [addE_len]; exact hl z (List.mem_cons_of_mem _ hz))]
    obtain ⟨x0, x1⟩ := hl x (List.mem_cons_self ..)
    have e : (addE v R x).getD w [] = if x.toNat = w then R.getD w [] ++ [(v : Int)] else R.getD w [] := by
      unfold addE
      rw [lgd, List.getElem?_set]
      by_cases hx : x.toNat = w
      · subst hx; rw [if_pos rfl, if_pos (by omega), if_pos rfl]; rfl
      · rw [if_neg hx, if_neg hx, ← lgd]
    rw [e, List.mem_cons]
    by_cases hx : x.toNat = w
    · have hwx : (w : Int) = x := by omega
      rw [if_pos hx, List.mem_append, List.mem_singleton]
      constructor
      · rintro ((h | h) | ⟨h1, h2⟩)
        · exact .inl h
        · exact .inr ⟨h, .inl hwx⟩
        · exact .inr ⟨h1, .inr h2⟩
      · rintro (h | ⟨h1, h2⟩)
        · exact .inl (.inl h)
        · exact .inl (.inr h1)
    · have hwx : (w : Int) ≠ x := by omega
      rw [if_neg hx]
      constructor
      · rintro (h | ⟨h1, h2⟩)
        · exact .inl h
        · exact .inr ⟨h1, .inr h2⟩
      · rintro (h | ⟨h1, h2⟩)
        · exact .inl h
        · rcases h2 with h2 | h2
          · exact absurd h2 hwx
          · exact .inr ⟨h1, h2⟩
theorem revI_mem {g : List (List Int)} (hr : ∀ v, v < g.length → ∀ w ∈ g.getD v [], 0 ≤ w ∧ w < (g.length : Int)) (w : Nat) (y : Int) : ∀ i, i ≤ g.length → (y ∈ (revI g i).getD w [] ↔ ∃ x : Nat, x < i ∧ y = (x : Int) ∧ (w : Int) ∈ g.getD x []) := by
  intro i
  induction i with
  | zero =>
    intro _
    have : (revI g 0).getD w [] = [] := by
      unfold revI
      rw [List.range_zero, List.foldl_nil, lgd, List.getElem?_replicate]; split <;> rfl
    rw [this]
    constructor
    · intro h; cases h
    · rintro ⟨x, h, _⟩; exact absurd h (Nat.not_lt_zero _)
  | succ i ih =>
    intro hi
    rw [revI_succ, addEs_mem i _ _ _ _ (fun z hz => by rw [revI_len]; exact hr i (by omega) z hz), ih (by omega)]
    constructor
    · rintro (⟨x, h1, h2⟩ | ⟨h1, h2⟩)
      · exact ⟨x, by omega, h2⟩
      · exact ⟨i, by omega, h1, h2⟩
    · rintro ⟨x, h1, h2, h3⟩
      by_cases hx : x = i
      · subst hx; exact .inr ⟨h2, h3⟩
      · exact .inl ⟨x, by omega, h2, h3⟩
theorem revG_mem {g : List (List Int)} (hg : GOk g) (w : Nat) (y : Int) : y ∈ (revG g).getD w [] ↔ ∃ x : Nat, x < g.length ∧ y = (x : Int) ∧ (w : Int) ∈ g.getD x [] := revI_mem (fun v hv => (hg.row v hv).2) w y g.length (Nat.le_refl _)
theorem val_gok {g : List (List Int)} (hrw : Rows g) (h : valZ g = true) : GOk g := by
  obtain ⟨h1, h2⟩ := val_ok hrw h
  exact ⟨h1, fun v hv => ⟨by have := (h2 v hv).1; omega, (h2 v hv).2⟩⟩
theorem revG_gok {g : List (List Int)} (hrw : Rows g) (h : valZ g = true) : GOk (revG g) := by
  obtain ⟨h1, h2⟩ := val_ok hrw h
  have hl : (revG g).length = g.length := revI_len g _
  refine ⟨by omega, fun v hv => ⟨?_, fun w hw => ?_⟩⟩
  · have := revI_getD (fun v hv => (h2 v hv).1) v g.length (Nat.le_refl _)
    unfold revG; omega
  · obtain ⟨x, hx, rfl, _⟩ := (revG_mem (val_gok hrw h) v w).1 hw
    omega
theorem rcv_rev {g : List (List Int)} (hg : GOk g) {s : List Bool} {v u : Nat} (h : Rcv (revG g) s v u) : Rcv g s u v := by
  induction h with
  | refl h => exact .refl h
  | @step u w _ hw ho ih =>
    obtain ⟨x, hx, e, h2⟩ := (revG_mem hg u _).1 hw
    have : x = w := by omega
    subst this
    exact (Rcv.step (.refl ho) h2 ih.open1).trans ih
theorem mem_lt {g : List (List Int)} {x : Nat} {y : Int} (h : y ∈ g.getD x []) : x < g.length := by
  rcases Nat.lt_or_ge x g.length with h1 | h1
  · exact h1
  · rw [lgd, List.getElem?_eq_none h1] at h; cases h
theorem rcv_vre {g : List (List Int)} (hg : GOk g) {s : List Bool} {u v : Nat} (h : Rcv g s u v) : Rcv (revG g) s v u := by
  induction h with
  | refl h => exact .refl h
  | @step a w h1 hw ho ih =>
    exact (Rcv.step (.refl ho) ((revG_mem hg w _).2 ⟨a, mem_lt hw, rfl, hw⟩) ih.open1).trans ih
def Mut2 (g : List (List Int)) (s : List Bool) : Prop := chk4 g s = 0 ∧ (∃ v, s.getD v true = false) ∧ ∀ v w, s.getD v true = false → s.getD w true = false → Rcv g s v w
open Classical in
noncomputable def muB (g : List (List Int)) (s : List Bool) : Bool := decide (Mut2 g s)
theorem muB_t {g : List (List Int)} {s : List Bool} (h : Mut2 g s) : muB g s = true := by unfold muB; exact @decide_eq_true _ (Classical.propDecidable _) h
theorem muB_f {g : List (List Int)} {s : List Bool} (h : ¬ Mut2 g s) : muB g s = false := by unfold muB; exact @decide_eq_false _ (Classical.propDecidable _) h
theorem chk4_val {g : List (List Int)} {s : List Bool} : chk4 g s = if valZ g = true then (if s.length ≠ g.length then 19 else 0) else 20 := by
  unfold chk4 valZ
  by_cases h1 : 24 < g.length
  · rw [if_pos h1, if_neg (by simp [h1])]
  · rw [if_neg h1]
    cases hb : badG g with
    | true => rw [if_pos rfl, if_neg (by simp)]
    | false =>
      have e : (!decide (24 < g.length) && !false) = true := by simp [h1]
      rw [if_neg (show ¬ (false = true) by simp), if_pos e]
theorem opn_lt {s : List Bool} {v : Nat} (h : s.getD v true = false) : v < s.length := by
  rcases Nat.lt_or_ge v s.length with h1 | h1
  · exact h1
  · rw [lgd, List.getElem?_eq_none h1] at h; cases h
theorem rmu_c {g : List (List Int)} {s : List Bool} (hrw : Rows g) : CT Try.prog 87 [] [.lst (gL g), .lst (boL s)] [] (.tup [.bool (muB g s), .int .i64 (chk4 g s)]) := by
  refine rmu_ct g s ([], _) ?_
  unfold rmuEn
  rw [gu_t hrw]
  have hlg := gL_len g
  by_cases hc : chk4 g s = 0
  case neg => rw [br_t (bne_iff_ne.2 hc), muB_f (fun h => hc h.1)]; exact .ret _
  rw [br_f (by rw [hc]; rfl), hc]
  have hc' := hc
  rw [chk4_val] at hc'
  have hv : valZ g = true := by cases h : valZ g with | true => rfl | false => rw [h] at hc'; cases hc'
  rw [if_pos hv] at hc'
  have hl : s.length = g.length := by
    by_cases h : s.length ≠ g.length
    · rw [if_pos h] at hc'; cases hc'
    · omega
  have hg := val_gok hrw hv
  have h24 := hg.len
  have key : ∀ (j k : Nat) (c : Int), k + j = g.length → 0 ≤ c ∧ c ≤ k → (0 < c ↔ ∃ v, v < k ∧ s.getD v true = false) → (∀ v w, v < k → s.getD v true = false → s.getD w true = false → Rcv g s v w) →
      MReach (rmuStep g s) (some (.inl (.l0 c (k : Int)))) (([], .tup [.bool (muB g s), .int .i64 0]) : Ret) := by
    intro j
    induction j with
    | zero =>
      intro k c hk hcb hco hall
      have hkg : k = g.length := by omega
      refine .to (show rmuS0 g s c k = some (.inr ([], .tup [.bool (decide (0 < c)), .int .i64 0])) from ?_) ?_
      · unfold rmuS0; rw [br_f (dec_f (by rw [hlg]; simp only [iN]; omega))]
      · have : muB g s = decide (0 < c) := by
          by_cases h : 0 < c
          · rw [dec_t h]
            obtain ⟨v, _, hv⟩ := hco.1 h
            exact muB_t ⟨hc, ⟨v, hv⟩, fun a b ha hb => hall a b (by have := opn_lt ha; omega) ha hb⟩
          · rw [dec_f h]
            refine muB_f fun ⟨_, ⟨v, hv⟩, _⟩ => h (hco.2 ⟨v, by have := opn_lt hv; omega, hv⟩)
        rw [this]; exact .ret _
    | succ j ih =>
      intro k c hk hcb hco hall
      have hkl : k < s.length := by omega
      have hsk := getE true hkl
      have wk := wrap_nat k (by omega)
      cases hso : s.getD k true with
      | true =>
        refine .to (show rmuS0 g s c k = some (.inl (.l0 c ((k + 1 : Nat) : Int))) from ?_) (ih (k + 1) c (by omega) ⟨hcb.1, by omega⟩ (hco.trans ⟨fun ⟨v, h1, h2⟩ => ⟨v, by omega, h2⟩, fun ⟨v, h1, h2⟩ => ⟨v, ?_, h2⟩⟩) fun v w h1 h2 h3 => hall v w ?_ h2 h3)
        · unfold rmuS0
          rw [br_t (dec_t (by rw [hlg]; simp only [iN]; omega)), gu_t (by omega), Int.toNat_natCast, el_t hsk, hso, br_t rfl, wk]
        · rcases Nat.lt_or_ge v k with h | h
          · exact h
          · have : v = k := by omega
            subst this; rw [hso] at h2; cases h2
        · rcases Nat.lt_or_ge v k with h | h
          · exact h
          · have : v = k := by omega
            subst this; rw [hso] at h2; cases h2
      | false =>
        have wc : IntKind.i64.wrap (c + 1) = c + 1 := wrap_in (by omega) (by omega)
        have hrl : (rcL g s k).length = g.length := by unfold rcL; simp
        refine .to (show rmuS0 g s c k = some (.inl (.l1 (c + 1) (k : Int) (rcL g s k) 0)) from ?_) ?_
        · unfold rmuS0
          rw [br_t (dec_t (by rw [hlg]; simp only [iN]; omega)), gu_t (by omega), Int.toNat_natCast, el_t hsk, hso, br_f rfl, gu_t hg, gu_t hl, gu_t ⟨by omega, by simp only [iN]; omega⟩, wc]
        have inner : ∀ (i q : Nat), q + i = g.length → (∀ w, w < q → s.getD w true = false → Rcv g s k w) → MReach (rmuStep g s) (some (.inl (.l1 (c + 1) (k : Int) (rcL g s k) (q : Int)))) (([], .tup [.bool (muB g s), .int .i64 0]) : Ret) := by
          intro i
          induction i with
          | zero =>
            intro q hq hok
            refine .to (show rmuS1 g s (c + 1) k (rcL g s k) q = some (.inl (.l0 (c + 1) ((k + 1 : Nat) : Int))) from ?_) (ih (k + 1) (c + 1) (by omega) ⟨by omega, by omega⟩ ⟨fun _ => ⟨k, by omega, hso⟩, fun _ => by omega⟩ fun v w h1 h2 h3 => ?_)
            · unfold rmuS1
              rw [br_f (dec_f (by rw [hlg]; simp only [iN]; omega)), wk]
            · rcases Nat.lt_or_ge v k with h | h
              · exact hall v w h h2 h3
              · have : v = k := by omega
                subst this
                exact hok w (by have := opn_lt h3; omega) h3
          | succ i ihi =>
            intro q hq hok
            have hql : q < s.length := by omega
            have hsq := getE true hql
            have wq := wrap_nat q (by omega)
            have hrq : (rcL g s k)[q]? = some (mkB g s k q) := by
              unfold rcL; rw [List.getElem?_map, List.getElem?_range (by omega), Int.toNat_natCast]; rfl
            cases hsqo : s.getD q true with
            | true =>
              refine .to (show rmuS1 g s (c + 1) k (rcL g s k) q = some (.inl (.l1 (c + 1) (k : Int) (rcL g s k) ((q + 1 : Nat) : Int))) from ?_) (ihi (q + 1) (by omega) fun w hw ho => hok w ?_ ho)
              · unfold rmuS1
                rw [br_t (dec_t (by rw [hlg]; simp only [iN]; omega)), gu_t (by omega), Int.toNat_natCast, el_t hsq, hsqo, br_f (by rfl), wq]
              · rcases Nat.lt_or_ge w q with h | h
                · exact h
                · have : w = q := by omega
                  subst this; rw [hsqo] at ho; cases ho
            | false =>
              cases hm : mkB g s k q with
              | true =>
                refine .to (show rmuS1 g s (c + 1) k (rcL g s k) q = some (.inl (.l1 (c + 1) (k : Int) (rcL g s k) ((q + 1 : Nat) : Int))) from ?_) (ihi (q + 1) (by omega) fun w hw ho => ?_)
                · unfold rmuS1
                  rw [br_t (dec_t (by rw [hlg]; simp only [iN]; omega)), gu_t (by omega), Int.toNat_natCast, el_t hsq, hsqo, br_t (by rfl), el_t hrq, hm, br_f (by rfl), wq]
                · rcases Nat.lt_or_ge w q with h | h
                  · exact hok w h ho
                  · have : w = q := by omega
                    subst this; exact mkB_iff.1 hm
              | false =>
                refine .to (show rmuS1 g s (c + 1) k (rcL g s k) q = some (.inr ([], .tup [.bool false, .int .i64 0])) from ?_) ?_
                · unfold rmuS1
                  rw [br_t (dec_t (by rw [hlg]; simp only [iN]; omega)), gu_t (by omega), Int.toNat_natCast, el_t hsq, hsqo, br_t (by rfl), el_t hrq, hm, br_t (by rfl)]
                · rw [muB_f fun h => by
                    have := mkB_iff.2 (h.2.2 k q hso hsqo)
                    rw [hm] at this; cases this]
                  exact .ret _
        exact inner g.length 0 (by omega) fun w hw => absurd hw (Nat.not_lt_zero _)
  exact key g.length 0 0 (by omega) ⟨by omega, by omega⟩ ⟨fun h => absurd h (by omega), fun ⟨v, h, _⟩ => absurd h (Nat.not_lt_zero _)⟩ fun v w h => absurd h (Nat.not_lt_zero _)
noncomputable def muA (n : Nat → Bool) (b : Nat → Bool) (k : Int) : mutPc := .l1 k (n 0) (n 1) (n 2) (n 3) (n 4) (n 5) (n 6) (n 7) (n 8) (n 9) (n 10) (n 11) (n 12) (n 13) (n 14) (n 15) (n 16) (n 17) (n 18) (n 19) (n 20) (n 21) (n 22) (n 23) (b 0) (b 1) (b 2) (b 3) (b 4) (b 5) (b 6) (b 7) (b 8) (b 9) (b 10) (b 11) (b 12) (b 13) (b 14) (b 15) (b 16) (b 17) (b 18) (b 19) (b 20) (b 21) (b 22) (b 23)
theorem mut_c {g : List (List Int)} {s : List Bool} (hrw : Rows g) : CT Try.prog 35 [] [.lst (gL g), .lst (boL s)] [] (.tup [.bool (muB g s), .int .i64 (chk4 g s)]) := by
  refine mut_ct g s ([], _) ?_
  unfold mutEn
  rw [gu_t hrw, chk4_val]
  have hlg := gL_len g
  have hlb := boL_len s
  cases hv : valZ g with
  | false =>
    have : rvE g = 20 := by unfold rvE; rw [hv]; rfl
    rw [this, if_neg (by simp), muB_f (fun h => by have := h.1; rw [chk4_val, hv] at this; cases this)]
    exact .ret _
  | true =>
    have hE : rvE g = 0 := by unfold rvE; rw [if_pos hv]
    have hO : rvO g = revG g := by unfold rvO; rw [if_pos hv]
    rw [hE, br_f (by rfl), if_pos rfl]
    by_cases hl : s.length ≠ g.length
    · rw [br_t (bne_iff_ne.2 (by rw [hlb, hlg]; simp only [iN]; omega)), if_pos hl, muB_f (fun h => by have := h.1; rw [chk4_val, if_pos hv, if_pos hl] at this; cases this)]
      exact .ret _
    rw [br_f (by rw [hlb, hlg]; simp only [Decidable.not_not] at hl; rw [hl]; simp), if_neg hl]
    have hl : s.length = g.length := by omega
    have hc : chk4 g s = 0 := by rw [chk4_val, if_pos hv, if_neg (by omega)]
    have hg := val_gok hrw hv
    have hg2 := revG_gok hrw hv
    have hrl : (revG g).length = g.length := revI_len g _
    have h24 := hg.len
    have key : ∀ (j k : Nat), k + j = g.length → (∀ v, v < k → s.getD v true = true) → MReach (mutStep g s) (some (.inl (.l0 (k : Int)))) (([], .tup [.bool (muB g s), .int .i64 0]) : Ret) := by
      intro j
      induction j with
      | zero =>
        intro k hk hall
        refine .to (show mutS0 g s k = some (.inr ([], .tup [.bool false, .int .i64 0])) from ?_) ?_
        · unfold mutS0; rw [br_f (dec_f (by rw [hlb]; simp only [iN]; omega))]
        · rw [muB_f fun ⟨_, ⟨v, hv⟩, _⟩ => by rw [hall v (by have := opn_lt hv; omega)] at hv; cases hv]
          exact .ret _
      | succ j ih =>
        intro k hk hall
        have hkl : k < s.length := by omega
        have hsk := getE true hkl
        have wk := wrap_nat k (by omega)
        cases hso : s.getD k true with
        | true =>
          refine .to (show mutS0 g s k = some (.inl (.l0 ((k + 1 : Nat) : Int))) from ?_) (ih (k + 1) (by omega) fun v hv => ?_)
          · unfold mutS0
            rw [br_t (dec_t (by rw [hlb]; simp only [iN]; omega)), gu_t (by omega), Int.toNat_natCast, el_t hsk, hso, br_t rfl, wk]
          · rcases Nat.lt_or_ge v k with h | h
            · exact hall v h
            · have : v = k := by omega
              subst this; exact hso
        | false =>
          refine .to (show mutS0 g s k = some (.inl (muA (mkB g s k) (mkB (revG g) s k) 0)) from ?_) ?_
          · unfold mutS0
            rw [br_t (dec_t (by rw [hlb]; simp only [iN]; omega)), gu_t (by omega), Int.toNat_natCast, el_t hsk, hso, br_f rfl, gu_t hg, gu_t hl, gu_t ⟨by omega, by simp only [iN]; omega⟩, hO, gu_t hg2, gu_t (by omega), gu_t ⟨by omega, by simp only [iN]; omega⟩]
            rfl
          have inner : ∀ (i q : Nat), q + i = g.length → (∀ w, w < q → s.getD w true = false → Rcv g s k w ∧ Rcv g s w k) → MReach (mutStep g s) (some (.inl (muA (mkB g s k) (mkB (revG g) s k) (q : Int)))) (([], .tup [.bool (muB g s), .int .i64 0]) : Ret) := by
            intro i
            induction i with
            | zero =>
              intro q hq hok
              refine .to (show mutS1 g s q (mkB g s k 0) (mkB g s k 1) (mkB g s k 2) (mkB g s k 3) (mkB g s k 4) (mkB g s k 5) (mkB g s k 6) (mkB g s k 7) (mkB g s k 8) (mkB g s k 9) (mkB g s k 10) (mkB g s k 11) (mkB g s k 12) (mkB g s k 13) (mkB g s k 14) (mkB g s k 15) (mkB g s k 16) (mkB g s k 17) (mkB g s k 18) (mkB g s k 19) (mkB g s k 20) (mkB g s k 21) (mkB g s k 22) (mkB g s k 23) (mkB (revG g) s k 0) (mkB (revG g) s k 1) (mkB (revG g) s k 2) (mkB (revG g) s k 3) (mkB (revG g) s k 4) (mkB (revG g) s k 5) (mkB (revG g) s k 6) (mkB (revG g) s k 7) (mkB (revG g) s k 8) (mkB (revG g) s k 9) (mkB (revG g) s k 10) (mkB (revG g) s k 11) (mkB (revG g) s k 12) (mkB (revG g) s k 13) (mkB (revG g) s k 14) (mkB (revG g) s k 15) (mkB (revG g) s k 16) (mkB (revG g) s k 17) (mkB (revG g) s k 18) (mkB (revG g) s k 19) (mkB (revG g) s k 20) (mkB (revG g) s k 21) (mkB (revG g) s k 22) (mkB (revG g) s k 23) = some (.inr ([], .tup [.bool true, .int .i64 0])) from ?_) ?_
              · unfold mutS1
                rw [br_f (dec_f (by rw [hlb]; simp only [iN]; omega))]
              · rw [muB_t ⟨hc, ⟨k, hso⟩, fun v w hv hw => (hok v (by have := opn_lt hv; omega) hv).2.trans (hok w (by have := opn_lt hw; omega) hw).1⟩]
                exact .ret _
            | succ i ihi =>
              intro q hq hok
              have hql : q < s.length := by omega
              have hsq := getE true hql
              have wq := wrap_nat q (by omega)
              have ga := arr_get (mkB g s k) (k := q) (by omega)
              have gb := arr_get (mkB (revG g) s k) (k := q) (by omega)
              have nxt : (s.getD q true = false → Rcv g s k q ∧ Rcv g s q k) → ∀ w, w < q + 1 → s.getD w true = false → Rcv g s k w ∧ Rcv g s w k := fun h w hw ho => by
                rcases Nat.lt_or_ge w q with h1 | h1
                · exact hok w h1 ho
                · have : w = q := by omega
                  subst this; exact h ho
              cases hsqo : s.getD q true with
              | true =>
                refine .to (show mutS1 g s q (mkB g s k 0) (mkB g s k 1) (mkB g s k 2) (mkB g s k 3) (mkB g s k 4) (mkB g s k 5) (mkB g s k 6) (mkB g s k 7) (mkB g s k 8) (mkB g s k 9) (mkB g s k 10) (mkB g s k 11) (mkB g s k 12) (mkB g s k 13) (mkB g s k 14) (mkB g s k 15) (mkB g s k 16) (mkB g s k 17) (mkB g s k 18) (mkB g s k 19) (mkB g s k 20) (mkB g s k 21) (mkB g s k 22) (mkB g s k 23) (mkB (revG g) s k 0) (mkB (revG g) s k 1) (mkB (revG g) s k 2) (mkB (revG g) s k 3) (mkB (revG g) s k 4) (mkB (revG g) s k 5) (mkB (revG g) s k 6) (mkB (revG g) s k 7) (mkB (revG g) s k 8) (mkB (revG g) s k 9) (mkB (revG g) s k 10) (mkB (revG g) s k 11) (mkB (revG g) s k 12) (mkB (revG g) s k 13) (mkB (revG g) s k 14) (mkB (revG g) s k 15) (mkB (revG g) s k 16) (mkB (revG g) s k 17) (mkB (revG g) s k 18) (mkB (revG g) s k 19) (mkB (revG g) s k 20) (mkB (revG g) s k 21) (mkB (revG g) s k 22) (mkB (revG g) s k 23) = some (.inl (muA (mkB g s k) (mkB (revG g) s k) ((q + 1 : Nat) : Int))) from ?_) (ihi (q + 1) (by omega) (nxt fun h => by rw [hsqo] at h; cases h))
                unfold mutS1
                rw [br_t (dec_t (by rw [hlb]; simp only [iN]; omega)), gu_t (by omega), Int.toNat_natCast, el_t hsq, hsqo, br_f (by rfl), wq]; rfl
              | false =>
                cases hm : mkB g s k q with
                | false =>
                  refine .to (show mutS1 g s q (mkB g s k 0) (mkB g s k 1) (mkB g s k 2) (mkB g s k 3) (mkB g s k 4) (mkB g s k 5) (mkB g s k 6) (mkB g s k 7) (mkB g s k 8) (mkB g s k 9) (mkB g s k 10) (mkB g s k 11) (mkB g s k 12) (mkB g s k 13) (mkB g s k 14) (mkB g s k 15) (mkB g s k 16) (mkB g s k 17) (mkB g s k 18) (mkB g s k 19) (mkB g s k 20) (mkB g s k 21) (mkB g s k 22) (mkB g s k 23) (mkB (revG g) s k 0) (mkB (revG g) s k 1) (mkB (revG g) s k 2) (mkB (revG g) s k 3) (mkB (revG g) s k 4) (mkB (revG g) s k 5) (mkB (revG g) s k 6) (mkB (revG g) s k 7) (mkB (revG g) s k 8) (mkB (revG g) s k 9) (mkB (revG g) s k 10) (mkB (revG g) s k 11) (mkB (revG g) s k 12) (mkB (revG g) s k 13) (mkB (revG g) s k 14) (mkB (revG g) s k 15) (mkB (revG g) s k 16) (mkB (revG g) s k 17) (mkB (revG g) s k 18) (mkB (revG g) s k 19) (mkB (revG g) s k 20) (mkB (revG g) s k 21) (mkB (revG g) s k 22) (mkB (revG g) s k 23) = some (.inr ([], .tup [.bool false, .int .i64 0])) from ?_) ?_
                  · unfold mutS1
                    rw [br_t (dec_t (by rw [hlb]; simp only [iN]; omega)), gu_t (by omega), Int.toNat_natCast, el_t hsq, hsqo, br_t (by rfl), gu_t (by omega), el_t ga, hm, br_t (by rfl)]
                  · rw [muB_f fun h => by
                      have := mkB_iff.2 (h.2.2 k q hso hsqo)
                      rw [hm] at this; cases this]
                    exact .ret _
                | true =>
                  cases hm2 : mkB (revG g) s k q with
                  | false =>
                    refine .to (show mutS1 g s q (mkB g s k 0) (mkB g s k 1) (mkB g s k 2) (mkB g s k 3) (mkB g s k 4) (mkB g s k 5) (mkB g s k 6) (mkB g s k 7) (mkB g s k 8) (mkB g s k 9) (mkB g s k 10) (mkB g s k 11) (mkB g s k 12) (mkB g s k 13) (mkB g s k 14) (mkB g s k 15) (mkB g s k 16) (mkB g s k 17) (mkB g s k 18) (mkB g s k 19) (mkB g s k 20) (mkB g s k 21) (mkB g s k 22) (mkB g s k 23) (mkB (revG g) s k 0) (mkB (revG g) s k 1) (mkB (revG g) s k 2) (mkB (revG g) s k 3) (mkB (revG g) s k 4) (mkB (revG g) s k 5) (mkB (revG g) s k 6) (mkB (revG g) s k 7) (mkB (revG g) s k 8) (mkB (revG g) s k 9) (mkB (revG g) s k 10) (mkB (revG g) s k 11) (mkB (revG g) s k 12) (mkB (revG g) s k 13) (mkB (revG g) s k 14) (mkB (revG g) s k 15) (mkB (revG g) s k 16) (mkB (revG g) s k 17) (mkB (revG g) s k 18) (mkB (revG g) s k 19) (mkB (revG g) s k 20) (mkB (revG g) s k 21) (mkB (revG g) s k 22) (mkB (revG g) s k 23) = some (.inr ([], .tup [.bool false, .int .i64 0])) from ?_) ?_
                    · unfold mutS1
                      rw [br_t (dec_t (by rw [hlb]; simp only [iN]; omega)), gu_t (by omega), Int.toNat_natCast, el_t hsq, hsqo, br_t (by rfl), gu_t (by omega), el_t ga, hm, br_f (by rfl), el_t gb, hm2, br_t (by rfl)]
                    · rw [muB_f fun h => by
                        have := mkB_iff.2 (rcv_vre hg (h.2.2 q k hsqo hso))
                        rw [hm2] at this; cases this]
                      exact .ret _
                  | true =>
                    refine .to (show mutS1 g s q (mkB g s k 0) (mkB g s k 1) (mkB g s k 2) (mkB g s k 3) (mkB g s k 4) (mkB g s k 5) (mkB g s k 6) (mkB g s k 7) (mkB g s k 8) (mkB g s k 9) (mkB g s k 10) (mkB g s k 11) (mkB g s k 12) (mkB g s k 13) (mkB g s k 14) (mkB g s k 15) (mkB g s k 16) (mkB g s k 17) (mkB g s k 18) (mkB g s k 19) (mkB g s k 20) (mkB g s k 21) (mkB g s k 22) (mkB g s k 23) (mkB (revG g) s k 0) (mkB (revG g) s k 1) (mkB (revG g) s k 2) (mkB (revG g) s k 3) (mkB (revG g) s k 4) (mkB (revG g) s k 5) (mkB (revG g) s k 6) (mkB (revG g) s k 7) (mkB (revG g) s k 8) (mkB (revG g) s k 9) (mkB (revG g) s k 10) (mkB (revG g) s k 11) (mkB (revG g) s k 12) (mkB (revG g) s k 13) (mkB (revG g) s k 14) (mkB (revG g) s k 15) (mkB (revG g) s k 16) (mkB (revG g) s k 17) (mkB (revG g) s k 18) (mkB (revG g) s k 19) (mkB (revG g) s k 20) (mkB (revG g) s k 21) (mkB (revG g) s k 22) (mkB (revG g) s k 23) = some (.inl (muA (mkB g s k) (mkB (revG g) s k) ((q + 1 : Nat) : Int))) from ?_) (ihi (q + 1) (by omega) (nxt fun _ => ⟨mkB_iff.1 hm, rcv_rev hg (mkB_iff.1 hm2)⟩))
                    unfold mutS1
                    rw [br_t (dec_t (by rw [hlb]; simp only [iN]; omega)), gu_t (by omega), Int.toNat_natCast, el_t hsq, hsqo, br_t (by rfl), gu_t (by omega), el_t ga, hm, br_f (by rfl), el_t gb, hm2, br_f (by rfl), wq]; rfl
          exact inner g.length 0 (by omega) fun w hw => absurd hw (Nat.not_lt_zero _)
    exact key g.length 0 (by omega) fun v h => absurd h (Nat.not_lt_zero _)
noncomputable def chE (n : NetD) (sh : List Bool) (fl : Int) : Int := if valB n = true then (if sh.length = celN n ∧ 0 ≤ fl ∧ fl ≤ 8 then 0 else 19) else 20
theorem chE_ok {n : NetD} {sh : List Bool} {fl : Int} (h : chE n sh fl = 0) : ValidN n ∧ sh.length = celN n ∧ 0 ≤ fl ∧ fl ≤ 8 := by
  unfold chE at h
  split at h
  · rename_i hv
    split at h
    · rename_i hx; exact ⟨valB_iff.1 hv, hx⟩
    · cases h
  · cases h
theorem chE_zero {n : NetD} {sh : List Bool} {fl : Int} (hv : ValidN n) (hl : sh.length = celN n) (h : 0 ≤ fl ∧ fl ≤ 8) : chE n sh fl = 0 := by
  unfold chE; rw [if_pos (valB_iff.2 hv), if_pos ⟨hl, h⟩]
theorem chc_c {n : NetD} (sh : List Bool) (fl : Int) (hrw : Rows n.nx) : CT Try.prog 62 [] [netA n, .lst (boL sh), .int .i64 fl] [] (.int .i64 (chE n sh fl)) := by
  refine chc_ct n sh fl ([], _) (.val ?_)
  unfold chcEn chE cntE cntZ
  rw [gu_t hrw]
  cases hv : valB n with
  | false => rfl
  | true =>
    rw [if_pos rfl, if_pos rfl, if_pos rfl, br_f (by rfl), boL_len]
    by_cases h1 : sh.length = celN n
    · rw [br_f (by simp [iN, h1])]
      by_cases h2 : fl < 0
      · rw [br_t (dec_t h2), if_neg (by omega)]
      · by_cases h3 : 8 < fl
        · rw [br_f (dec_f h2), br_t (dec_t h3), if_neg (by omega)]
        · rw [br_f (dec_f h2), br_f (dec_f h3), if_pos ⟨h1, by omega, by omega⟩]
    · rw [br_t (bne_iff_ne.2 (by simp only [iN]; omega)), if_neg (by omega)]
theorem rch_c {n : NetD} (sh : List Bool) (fl : Int) (hrw : Rows n.nx) : CT Try.prog 63 [] [netA n, .lst (boL sh), .int .i64 fl] [] (.int .i64 (chE n sh fl)) := by
  refine rch_ct n sh fl ([], _) (.val ?_)
  unfold rchEn chE
  rw [gu_t hrw]
  cases hv : valB n with
  | false => rfl
  | true =>
    rw [if_pos rfl, br_f (by rfl), boL_len, gu_t (valB_iff.1 hv)]
    by_cases h1 : sh.length = celN n
    · rw [br_f (by simp [iN, h1])]
      by_cases h2 : fl < 0
      · rw [br_t (dec_t h2), if_neg (by omega)]
      · by_cases h3 : 8 < fl
        · rw [br_f (dec_f h2), br_t (dec_t h3), if_neg (by omega)]
        · rw [br_f (dec_f h2), br_f (dec_f h3), if_pos ⟨h1, by omega, by omega⟩]
    · rw [br_t (bne_iff_ne.2 (by simp only [iN]; omega)), if_neg (by omega)]
def slT (n : NetD) (sh : List Bool) (i : Nat) : Int := if (n.ss.getD i s0).dep = true ∧ opB n sh (i : Int) = true then (n.ss.getD i s0).k else 0
def slI (n : NetD) (sh : List Bool) : Nat → Int
  | 0 => 0
  | i + 1 => slI n sh i + slT n sh i
def slS (n : NetD) (sh : List Bool) : Int := slI n sh n.ss.length
theorem slT_rng {n : NetD} (hv : ValidN n) (sh : List Bool) {i : Nat} (hi : i < n.ss.length) : 0 ≤ slT n sh i ∧ slT n sh i ≤ 1000 := by
  have hs := getE s0 hi
  have hb := hv.sb hs
  have hc := hv.cel
  unfold slT
  split <;> omega
theorem slI_rng {n : NetD} (hv : ValidN n) (sh : List Bool) : ∀ i, i ≤ n.ss.length → 0 ≤ slI n sh i ∧ slI n sh i ≤ 1000 * i := by
  intro i
  induction i with
  | zero => intro _; exact ⟨Int.le_refl _, Int.le_refl _⟩
  | succ i ih =>
    intro hi
    have h1 := ih (by omega)
    have h2 := slT_rng hv sh (i := i) (by omega)
    show 0 ≤ slI n sh i + slT n sh i ∧ slI n sh i + slT n sh i ≤ _
    omega
theorem rsl_c {n : NetD} (hv : ValidN n) {sh : List Bool} (hl : sh.length = celN n) : CT Try.prog 64 [] [netA n, .lst (boL sh)] [] (.int .i64 (slS n sh)) := by
  refine rsl_ct n sh ([], _) ?_
  have hn : (List.map sA n.ss).length = n.ss.length := List.length_map _
  have hss : n.ss.length ≤ 100000 := by have := hv.ns; omega
  unfold rslEn
  refine loop_up (fun j => rslPc.l0 (slI n sh j) (j : Int)) n.ss.length (fun j hj hr => .to ?_ hr) (.to ?_ (.ret _))
  · show rslS0 n sh (slI n sh j) j = _
    have hs := getE s0 hj
    have hb := slI_rng hv sh j (by omega)
    have ht := slT_rng hv sh hj
    unfold rslS0
    rw [br_t (dec_t (by rw [hn]; simp only [iN]; omega)), gu_t (by omega), Int.toNat_natCast, el_t hs, wrap_nat j (by omega)]
    show _ = some (Sum.inl (rslPc.l0 (slI n sh j + slT n sh j) ((j + 1 : Nat) : Int)))
    unfold slT at ht ⊢
    cases hd : (n.ss.getD j s0).dep with
    | false => rw [br_f rfl, if_neg (fun h => by cases h.1), Int.add_zero]
    | true =>
      rw [br_t rfl, gu_t hv, gu_t hl, gu_t ⟨by omega, by simp only [iN]; omega⟩]
      cases ho : opB n sh (j : Int) with
      | false => rw [br_f rfl, if_neg (fun h => by cases h.2), Int.add_zero]
      | true =>
        rw [hd, ho, if_pos ⟨rfl, rfl⟩] at ht
        rw [br_t rfl, el_t hs, if_pos ⟨rfl, rfl⟩, wrap_in (by omega) (by omega)]
  · show rslS0 n sh (slI n sh n.ss.length) n.ss.length = _
    unfold rslS0
    rw [br_f (dec_f (by rw [hn]; simp only [iN]; omega))]; rfl
def wth (sh : List Bool) (c : Int) : List Bool := sh.set c.toNat true
theorem wth_len (sh : List Bool) (c : Int) : (wth sh c).length = sh.length := by unfold wth; simp
theorem wth_c {sh : List Bool} {c : Int} (hl : sh.length ≤ 100000) (hc : 0 ≤ c ∧ c < (sh.length : Int)) : CT Try.prog 88 [] [.lst (boL sh), .int .i64 c] [] (.lst (boL (wth sh c))) := by
  refine wth_ct sh c ([], _) (.val ?_)
  have hL := boL_len sh
  unfold wthEn
  rw [gu_t (fun e he => by unfold boL at he; obtain ⟨b, _, rfl⟩ := List.mem_map.1 he; rfl), gu_t (by omega), gu_t (by omega), gu_t hc.1, gu_t (by rw [hL]; simp only [iN]; omega), gu_t (show Nat.le _ _ from (show 0 + c.toNat + 1 ≤ (boL sh).length by omega))]
  unfold wth boL
  rw [List.map_set, Nat.zero_add]
inductive sloPc where
  | l0 (v0 v1 : Int)
noncomputable def sloSt (n : NetD) (sh : List Bool) : sloPc → St
  | .l0 v0 v1 => St.mk 44 [(1, AV.lst (boL sh)), (2, AV.ptr 0 0 0), (7, iv v0), (19, AV.lst (List.map sA n.ss)), (20, iv (iN (List.map sA n.ss).length)), (21, iv v1)] [some (Blk.mk [netA n] 8 true true none)]
def sloHd : sloPc → Nat
  | .l0 _ _ => 0
noncomputable def sloEn (n : NetD) (sh : List Bool) : Option (sloPc ⊕ Ret) :=
 gu (Rows n.nx) <|
 br (chE n sh 0 != 0)
 (some (.inr ([], AV.tup [AV.int .i64 0, AV.int .i64 (chE n sh 0)])))
 (some (.inl (.l0 ((0 : Int)) ((0 : Int)))))
noncomputable def sloS0 (n : NetD) (sh : List Bool) (v0 v1 : Int) : Option (sloPc ⊕ Ret) :=
 br (decide (v1 < iN (List.map sA n.ss).length))
 (gu (0 ≤ v1) <|
 el (n.ss) (v1.toNat) fun (x24 : SpuD) =>
 gu (Rows n.nx) <|
 br (cOB n sh v1)
 (br (x24.dep)
 (some (.inl (.l0 (IntKind.i64.wrap (v0 + x24.k)) (IntKind.i64.wrap (v1 + 1)))))
 (some (.inl (.l0 v0 (IntKind.i64.wrap (v1 + 1))))))
 (some (.inl (.l0 v0 (IntKind.i64.wrap (v1 + 1))))))
 (some (.inr ([], AV.tup [AV.int .i64 v0, AV.int .i64 0])))
noncomputable def sloStep (n : NetD) (sh : List Bool) : sloPc → Option (sloPc ⊕ Ret)
  | .l0 v0 v1 => sloS0 n sh v0 v1
theorem sloEn_ok (n : NetD) (sh : List Bool) (o : sloPc ⊕ Ret) (h : sloEn n sh = some o) : Arr Try.prog Try.f29 0 (sloSt n sh) sloHd (bodyOf Try.f29) [] { n := Try.f29.ntmps, fr := enumF 0 ([netA n, .lst (boL sh)]), hp := ([]) } o :=
 Scr.ok h mix (
 .rn 0 [] [] [] [] (al (u2 t3)) <|
 .gu fun a0 =>
 have c0 := chc_c (sh) (0) a0;
 .rn 1 [] [] [(14, hK c0 [] [])] [] (aj (u2 (u2 (aj (k2 (aj t9 (k2 (al (c0))))) s2))) (al (u2 s2))) <|
 .br (fun a1 =>
 .rt [33] [] [] [] [] [] (aj (aj a1 (al (u2 (ak s2)))) (al t3)))
 (fun a1 =>
 .lp [32] [] [] [] [] [0] [1, 2, 7, 19, 20, 21] (aj (aj a1 (u2 (al (u2 (u2 (u2 t2)))))) t8))) (by kernel_rfl)
theorem sloS0_ok (n : NetD) (sh : List Bool) (v0 v1 : Int) (o : sloPc ⊕ Ret) (h : sloS0 n sh v0 v1 = some o) : Arr Try.prog Try.f29 0 (sloSt n sh) sloHd (headC Try.f29 0) (.rnd (headC Try.f29 0) :: headK Try.f29 0) (sloSt n sh (.l0 v0 v1)) o :=
 Scr.ok h mix (
 .rn 0 [] [] [] [] (al (al t3)) <|
 .br (fun a0 =>
 .gu fun a1 =>
 .el fun x24 a2 =>
 .rn 0 [45] [(24, sA x24)] [] [] (aj a0 (al (u2 (aj (k2 (aj a1 (getMap (f := sA) a2))) (u2 (ak (u2 (al (k2 n11))))))))) <|
 .gu fun a3 =>
 have c0 := cOpen_ct a3 (sh) (v1);
 .rn 0 [] [] [(30, hK c0 [] [])] [] (al (u2 (u2 (u2 (aj (k3 (aj t9 (k2 (al (c0))))) (u2 (u2 (u2 (u2 s2))))))))) <|
 .br (fun a4 =>
  .rn 0 [69] [] [] [] (al (u2 (u2 (ag a4 (ag a4 (al (aj a4 t2))))))) <|
  .br (fun a5 =>
  .lp [69, 75] [] [] [] [] [0] [1, 2, 7, 19, 20, 21] (aj (aj a5 (aj (u2 (u2 (u2 (aj t3 s2)))) (al (u2 s2)))) t8))
  (fun a5 =>
  .lp [69, 74] [] [] [] [] [0] [1, 2, 7, 19, 20, 21] (aj (aj a5 (al (u2 s2))) t8)))
 (fun a4 =>
  .lp [68] [] [] [] [] [0] [1, 2, 7, 19, 20, 21] (aj (aj (u2 (u2 (aj a4 (aj a4 (al (aj a4 t2)))))) (ak (al (u2 s2)))) t8)))
 (fun a0 =>
 .rt [44] [] [] [] [] [] (aj (aj a0 (al (u2 (u2 t2)))) (al t3)))) (by kernel_rfl)
theorem slo_ct (n : NetD) (sh : List Bool) (r : Ret) (h : MReach (sloStep n sh) (sloEn n sh) r) : CT Try.prog 29 ([]) ([netA n, .lst (boL sh)]) r.1 r.2 :=
  CT.mach (fn := Try.f29) (c := bodyOf Try.f29) (S := sloSt n sh) (hd := sloHd) Try.func29 (by kernel_rfl) (nbl rfl)
    (fun s o ho => match s, ho with
      | .l0 v0 v1, ho => sloS0_ok n sh v0 v1 o ho
    )
    (fun o ho => sloEn_ok n sh o ho) h
noncomputable def rcaSt (n : NetD) (sh : List Bool) (fl : Int) : Empty → St
  | x => x.elim
def rcaHd : Empty → Nat
  | x => x.elim
noncomputable def rcaEn (n : NetD) (sh : List Bool) (fl : Int) : Option (Empty ⊕ Ret) :=
 gu (∀ (e : AV), e ∈ boL sh → e.cells.length = 1) <|
 gu (iN (List.map bA n.bs).length ≤ iN (boL sh).length) <|
 gu (Rows n.nx) <|
 br (muB n.nx (List.take ((List.map bA n.bs).length - Int.toNat 0) (List.drop (Int.toNat 0) sh)))
 (gu (ValidN n) <|
 gu (sh.length = celN n) <|
 some (.inr ([], AV.bool (decide (fl ≤ slS n sh)))))
 (some (.inr ([], AV.bool false)))
noncomputable def rcaStep (n : NetD) (sh : List Bool) (fl : Int) : Empty → Option (Empty ⊕ Ret)
  | x => x.elim
theorem rcaEn_ok (n : NetD) (sh : List Bool) (fl : Int) (o : Empty ⊕ Ret) (h : rcaEn n sh fl = some o) : Arr Try.prog Try.f65 0 (rcaSt n sh fl) rcaHd (bodyOf Try.f65) [] { n := Try.f65.ntmps, fr := enumF 0 ([netA n, .lst (boL sh), .int .i64 fl]), hp := ([]) } o :=
 Scr.ok h mix (
 .rn 0 [] [] [] [] (al (u2 t2)) <|
 .gu fun a0 =>
 .gu fun a1 =>
 .gu fun a2 =>
 have c0 := rmu_c a2;
 .rn 0 [] [] [(17, hK c0 [] [])] [] (al (u2 (u2 (u2 (u2 (u2 (u2 (aj (k2 (aj a0 (aj (show (0 : Int) ≤ (0 : Int) from (by first | exact nbl rfl | decide)) (aj (show 0 ≤ iN (List.map bA n.bs).length from (Int.natCast_nonneg _)) (aj a1 (show iN (boL sh).length ≤ iN (boL sh).length by omega)))))) (aj (ak (k3 (al (show CT Try.prog 87 [] [AV.lst (gL n.nx), AV.lst (List.take ((List.map bA n.bs).length - Int.toNat 0) (List.drop (Int.toNat 0) (boL sh)))] [] (AV.tup [AV.bool (muB n.nx (List.take ((List.map bA n.bs).length - Int.toNat 0) (List.drop (Int.toNat 0) sh))), iv (chk4 n.nx (List.take ((List.map bA n.bs).length - Int.toNat 0) (List.drop (Int.toNat 0) sh)))]) from CT.eqs (c0) (by first | (simp [gL, boL, lI, sA, bA]; done) | (simp [gL, boL, lI, sA, bA]; rfl) | (simp only [netA, List.map_append, List.map_set, List.map_cons, List.map_nil]; rfl)) (by first | (simp [gL, boL, lI, sA, bA]; done) | (simp [gL, boL, lI, sA, bA]; rfl) | (simp only [netA, List.map_append, List.map_set, List.map_cons, List.map_nil]; rfl)))))) (u2 (u2 (u2 (u2 s2))))))))))))) <|
 .br (fun a3 =>
 .gu fun a4 =>
 .gu fun a5 =>
 have c1 := rsl_c a4 a5;
 .rt [43] [] [(24, hK c1 [] [])] [] [] [] (aj (al (u2 (u2 (ag a3 (ag a3 (aj (aj a3 (k2 (aj t9 (ak (al (c1)))))) (ag a3 (aj (aj a3 t3) (ag a3 s2))))))))) t2))
 (fun a3 =>
 .rt [42] [] [] [] [] [] (aj (al (u2 (u2 (aj a3 (aj a3 (aj a3 (aj a3 (aj a3 (ag a3 s2))))))))) t2))) (by kernel_rfl)
theorem rca_ct (n : NetD) (sh : List Bool) (fl : Int) (r : Ret) (h : MReach (rcaStep n sh fl) (rcaEn n sh fl) r) : CT Try.prog 65 ([]) ([netA n, .lst (boL sh), .int .i64 fl]) r.1 r.2 :=
  CT.mach (fn := Try.f65) (c := bodyOf Try.f65) (S := rcaSt n sh fl) (hd := rcaHd) Try.func65 (by kernel_rfl) (nbl rfl)
    (fun s o ho => match s, ho with
      | x, _ => x.elim)
    (fun o ho => rcaEn_ok n sh fl o ho) h
noncomputable def slZ (n : NetD) (sh : List Bool) : Int := if chE n sh 0 = 0 then slS n sh else 0
theorem slo_c {n : NetD} (sh : List Bool) (hrw : Rows n.nx) : CT Try.prog 29 [] [netA n, .lst (boL sh)] [] (.tup [.int .i64 (slZ n sh), .int .i64 (chE n sh 0)]) := by
  refine slo_ct n sh ([], _) ?_
  have hn : (List.map sA n.ss).length = n.ss.length := List.length_map _
  unfold sloEn slZ
  rw [gu_t hrw]
  by_cases h : chE n sh 0 = 0
  case neg => rw [br_t (bne_iff_ne.2 h), if_neg h]; exact .ret _
  obtain ⟨hv, hl, _⟩ := chE_ok h
  have hss : n.ss.length ≤ 100000 := by have := hv.ns; omega
  rw [br_f (by rw [h]; rfl), if_pos h, h]
  refine loop_up (fun j => sloPc.l0 (slI n sh j) (j : Int)) n.ss.length (fun j hj hr => .to ?_ hr) (.to ?_ (.ret _))
  · show sloS0 n sh (slI n sh j) j = _
    have hs := getE s0 hj
    have hb := slI_rng hv sh j (by omega)
    have ht := slT_rng hv sh hj
    unfold sloS0
    rw [br_t (dec_t (by rw [hn]; simp only [iN]; omega)), gu_t (by omega), Int.toNat_natCast, el_t hs, wrap_nat j (by omega), gu_t hrw, cOB_ok hv hl ⟨by omega, by omega⟩]
    show _ = some (Sum.inl (sloPc.l0 (slI n sh j + slT n sh j) ((j + 1 : Nat) : Int)))
    unfold slT at ht ⊢
    cases ho : opB n sh (j : Int) with
    | false => rw [br_f rfl, if_neg (fun h => by cases h.2), Int.add_zero]
    | true =>
      rw [br_t rfl]
      cases hd : (n.ss.getD j s0).dep with
      | false => rw [br_f rfl, if_neg (fun h => by cases h.1), Int.add_zero]
      | true =>
        rw [hd, ho, if_pos ⟨rfl, rfl⟩] at ht
        rw [br_t rfl, if_pos ⟨rfl, rfl⟩, wrap_in (by omega) (by omega)]
  · show sloS0 n sh (slI n sh n.ss.length) n.ss.length = _
    unfold sloS0
    rw [br_f (dec_f (by rw [hn]; simp only [iN]; omega))]; rfl
noncomputable def caB (n : NetD) (sh : List Bool) (fl : Int) : Bool := muB n.nx (sh.take n.bs.length) && decide (fl ≤ slS n sh)
theorem tk_eq (n : NetD) (sh : List Bool) : List.take ((List.map bA n.bs).length - Int.toNat 0) (List.drop (Int.toNat 0) sh) = sh.take n.bs.length := by
  rw [List.length_map]; rfl
theorem bs_le {n : NetD} (hv : ValidN n) {sh : List Bool} (hl : sh.length = celN n) : n.bs.length ≤ sh.length := by
  rw [hl]; exact hv.cel.2.1
theorem bo_one (sh : List Bool) : ∀ (e : AV), e ∈ boL sh → e.cells.length = 1 := fun e he => by
  unfold boL at he; obtain ⟨b, _, rfl⟩ := List.mem_map.1 he; rfl
theorem rca_c {n : NetD} {sh : List Bool} (fl : Int) (hv : ValidN n) (hl : sh.length = celN n) (hrw : Rows n.nx) : CT Try.prog 65 [] [netA n, .lst (boL sh), .int .i64 fl] [] (.bool (caB n sh fl)) := by
  refine rca_ct n sh fl ([], _) (.val ?_)
  have hb := bs_le hv hl
  unfold rcaEn caB
  rw [gu_t (bo_one sh), gu_t (by rw [boL_len, List.length_map]; simp only [iN]; omega), gu_t hrw, tk_eq]
  cases muB n.nx (sh.take n.bs.length) with
  | false => rfl
  | true => rw [br_t rfl, gu_t hv, gu_t hl]; rfl
noncomputable def carSt (n : NetD) (sh : List Bool) (fl : Int) : Empty → St
  | x => x.elim
def carHd : Empty → Nat
  | x => x.elim
noncomputable def carEn (n : NetD) (sh : List Bool) (fl : Int) : Option (Empty ⊕ Ret) :=
 gu (Rows n.nx) <|
 br (chE n sh fl != 0)
 (some (.inr ([], AV.tup [AV.bool false, AV.int .i64 (chE n sh fl)])))
 (gu (∀ (e : AV), e ∈ boL sh → e.cells.length = 1) <|
 gu (iN (List.map bA n.bs).length ≤ iN (boL sh).length) <|
 br (muB n.nx (List.take ((List.map bA n.bs).length - Int.toNat 0) (List.drop (Int.toNat 0) sh)))
 (some (.inr ([], AV.tup [AV.bool (decide (fl ≤ slZ n sh)), AV.int .i64 0])))
 (some (.inr ([], AV.tup [AV.bool false, AV.int .i64 0]))))
noncomputable def carStep (n : NetD) (sh : List Bool) (fl : Int) : Empty → Option (Empty ⊕ Ret)
  | x => x.elim
theorem carEn_ok (n : NetD) (sh : List Bool) (fl : Int) (o : Empty ⊕ Ret) (h : carEn n sh fl = some o) : Arr Try.prog Try.f31 0 (carSt n sh fl) carHd (bodyOf Try.f31) [] { n := Try.f31.ntmps, fr := enumF 0 ([netA n, .lst (boL sh), .int .i64 fl]), hp := ([]) } o :=
 Scr.ok h mix (
 .rn 0 [] [] [] [] (al (u2 t3)) <|
 .gu fun a0 =>
 have c0 := chc_c (sh) (fl) a0;
 .rn 1 [] [] [(16, hK c0 [] [])] [] (aj (u2 (u2 (u2 (aj (k3 (aj t9 (k2 (al (c0))))) s2)))) (al (u2 s2))) <|
 .br (fun a1 =>
 .rt [37] [] [] [] [] [] (aj (aj a1 (al (u2 (ak s2)))) (al t3)))
 (fun a1 =>
 have c1 := slo_c (sh) a0;
 .rn 0 [36] [] [(23, hK c1 [] [])] [] (aj a1 (al (u2 (u2 (aj (k2 (aj t9 (ak (al (c1))))) (u2 (u2 (u2 (u2 s2))))))))) <|
 .gu fun a2 =>
 .gu fun a3 =>
 have c2 := mut_c a0;
 .rn 0 [] [] [(34, hK c2 [] [])] [] (al (u2 (u2 (u2 (u2 (u2 (u2 (aj (k2 (aj a2 (aj (show (0 : Int) ≤ (0 : Int) from (by first | exact nbl rfl | decide)) (aj (show 0 ≤ iN (List.map bA n.bs).length from (Int.natCast_nonneg _)) (aj a3 (show iN (boL sh).length ≤ iN (boL sh).length by omega)))))) (aj (ak (k3 (al (show CT Try.prog 35 [] [AV.lst (gL n.nx), AV.lst (List.take ((List.map bA n.bs).length - Int.toNat 0) (List.drop (Int.toNat 0) (boL sh)))] [] (AV.tup [AV.bool (muB n.nx (List.take ((List.map bA n.bs).length - Int.toNat 0) (List.drop (Int.toNat 0) sh))), iv (chk4 n.nx (List.take ((List.map bA n.bs).length - Int.toNat 0) (List.drop (Int.toNat 0) sh)))]) from CT.eqs (c2) (by first | (simp [gL, boL, lI, sA, bA]; done) | (simp [gL, boL, lI, sA, bA]; rfl) | (simp only [netA, List.map_append, List.map_set, List.map_cons, List.map_nil]; rfl)) (by first | (simp [gL, boL, lI, sA, bA]; done) | (simp [gL, boL, lI, sA, bA]; rfl) | (simp only [netA, List.map_append, List.map_set, List.map_cons, List.map_nil]; rfl)))))) (u2 (u2 (u2 (u2 s2))))))))))))) <|
 .br (fun a4 =>
  .rt [77] [] [] [] [] [] (aj (al (u2 (u2 (ag a4 (ag a4 (aj (aj a4 t3) (ag a4 (u2 t2)))))))) (al t3)))
 (fun a4 =>
  .rt [76] [] [] [] [] [] (aj (al (u2 (u2 (aj a4 (aj a4 (aj a4 (ag a4 (u2 t2)))))))) (al t3))))) (by kernel_rfl)
theorem car_ct (n : NetD) (sh : List Bool) (fl : Int) (r : Ret) (h : MReach (carStep n sh fl) (carEn n sh fl) r) : CT Try.prog 31 ([]) ([netA n, .lst (boL sh), .int .i64 fl]) r.1 r.2 :=
  CT.mach (fn := Try.f31) (c := bodyOf Try.f31) (S := carSt n sh fl) (hd := carHd) Try.func31 (by kernel_rfl) (nbl rfl)
    (fun s o ho => match s, ho with
      | x, _ => x.elim)
    (fun o ho => carEn_ok n sh fl o ho) h
noncomputable def ralSt (n : NetD) (sh : List Bool) (bk fl : Int) : Empty → St
  | x => x.elim
def ralHd : Empty → Nat
  | x => x.elim
noncomputable def ralEn (n : NetD) (sh : List Bool) (bk fl : Int) : Option (Empty ⊕ Ret) :=
 gu (0 ≤ bk) <|
 el (sh) (bk.toNat) fun (x11 : Bool) =>
 br (!x11)
 (gu (sh.length ≤ 100000) <|
 gu (0 ≤ bk ∧ bk < iN sh.length) <|
 gu (ValidN n) <|
 gu ((wth sh bk).length = celN n) <|
 gu (Rows n.nx) <|
 some (.inr ([], AV.bool (caB n (wth sh bk) fl))))
 (some (.inr ([], AV.bool false)))
noncomputable def ralStep (n : NetD) (sh : List Bool) (bk fl : Int) : Empty → Option (Empty ⊕ Ret)
  | x => x.elim
theorem ralEn_ok (n : NetD) (sh : List Bool) (bk fl : Int) (o : Empty ⊕ Ret) (h : ralEn n sh bk fl = some o) : Arr Try.prog Try.f66 0 (ralSt n sh bk fl) ralHd (bodyOf Try.f66) [] { n := Try.f66.ntmps, fr := enumF 0 ([netA n, .lst (boL sh), .int .i64 bk, .int .i64 fl]), hp := ([]) } o :=
 Scr.ok h mix (
 .rn 0 [] [] [] [] (al (u2 t2)) <|
 .gu fun a0 =>
 .el fun x11 a1 =>
 .br (fun a2 =>
 .gu fun a3 =>
 .gu fun a4 =>
 .gu fun a5 =>
 .gu fun a6 =>
 .gu fun a7 =>
 have c0 := wth_c a3 a4;
 have c1 := rca_c (fl) a5 a6 a7;
 .rt [29] [(11, AV.bool x11)] [(18, hK c0 [] []), (20, hK c1 [] [])] [] [] [] (aj (al (u2 (u2 (aj (k2 (aj a0 (getMap (f := AV.bool) a1))) (u2 (u2 (u2 (ag a2 (ag a2 (ag a2 (aj (aj a2 (ak (k3 (al (c0))))) (ag a2 (aj (aj a2 (k3 (aj t9 (k2 (al (c1)))))) (ag a2 s2)))))))))))))) t2))
 (fun a2 =>
 .rt [28] [(11, AV.bool x11)] [] [] [] [] (aj (al (u2 (u2 (aj (k2 (aj a0 (getMap (f := AV.bool) a1))) (u2 (u2 (u2 (aj a2 (aj a2 (aj a2 (aj a2 (aj a2 (aj a2 (ag a2 s2)))))))))))))) t2))) (by kernel_rfl)
theorem ral_ct (n : NetD) (sh : List Bool) (bk fl : Int) (r : Ret) (h : MReach (ralStep n sh bk fl) (ralEn n sh bk fl) r) : CT Try.prog 66 ([]) ([netA n, .lst (boL sh), .int .i64 bk, .int .i64 fl]) r.1 r.2 :=
  CT.mach (fn := Try.f66) (c := bodyOf Try.f66) (S := ralSt n sh bk fl) (hd := ralHd) Try.func66 (by kernel_rfl) (nbl rfl)
    (fun s o ho => match s, ho with
      | x, _ => x.elim)
    (fun o ho => ralEn_ok n sh bk fl o ho) h
noncomputable def rsoSt (n : NetD) (sh : List Bool) : Empty → St
  | x => x.elim
def rsoHd : Empty → Nat
  | x => x.elim
noncomputable def rsoEn (n : NetD) (sh : List Bool) : Option (Empty ⊕ Ret) :=
 gu (Rows n.nx) <|
 br (chE n sh 0 != 0)
 (some (.inr ([], AV.tup [AV.int .i64 0, AV.int .i64 (chE n sh 0)])))
 (gu (ValidN n) <|
 gu (sh.length = celN n) <|
 some (.inr ([], AV.tup [AV.int .i64 (slS n sh), AV.int .i64 0])))
noncomputable def rsoStep (n : NetD) (sh : List Bool) : Empty → Option (Empty ⊕ Ret)
  | x => x.elim
theorem rsoEn_ok (n : NetD) (sh : List Bool) (o : Empty ⊕ Ret) (h : rsoEn n sh = some o) : Arr Try.prog Try.f30 0 (rsoSt n sh) rsoHd (bodyOf Try.f30) [] { n := Try.f30.ntmps, fr := enumF 0 ([netA n, .lst (boL sh)]), hp := ([]) } o :=
 Scr.ok h mix (
 .rn 0 [] [] [] [] (al (u2 t3)) <|
 .gu fun a0 =>
 have c0 := rch_c (sh) (0) a0;
 .rn 1 [] [] [(9, hK c0 [] [])] [] (aj (u2 (u2 (aj (k2 (aj t9 (k2 (al (c0))))) s2))) (al (u2 s2))) <|
 .br (fun a1 =>
 .rt [23] [] [] [] [] [] (aj (aj a1 (al (u2 (ak s2)))) (al t3)))
 (fun a1 =>
 .gu fun a2 =>
 .gu fun a3 =>
 have c1 := rsl_c a2 a3;
 .rt [22] [] [(15, hK c1 [] [])] [] [] [] (aj (aj a1 (al (u2 (u2 (aj (k2 (aj t9 (ak (al (c1))))) (u2 t2)))))) (al t3)))) (by kernel_rfl)
theorem rso_ct (n : NetD) (sh : List Bool) (r : Ret) (h : MReach (rsoStep n sh) (rsoEn n sh) r) : CT Try.prog 30 ([]) ([netA n, .lst (boL sh)]) r.1 r.2 :=
  CT.mach (fn := Try.f30) (c := bodyOf Try.f30) (S := rsoSt n sh) (hd := rsoHd) Try.func30 (by kernel_rfl) (nbl rfl)
    (fun s o ho => match s, ho with
      | x, _ => x.elim)
    (fun o ho => rsoEn_ok n sh o ho) h
noncomputable def rcoSt (n : NetD) (sh : List Bool) (fl : Int) : Empty → St
  | x => x.elim
def rcoHd : Empty → Nat
  | x => x.elim
noncomputable def rcoEn (n : NetD) (sh : List Bool) (fl : Int) : Option (Empty ⊕ Ret) :=
 gu (Rows n.nx) <|
 br (chE n sh fl != 0)
 (some (.inr ([], AV.tup [AV.bool false, AV.int .i64 (chE n sh fl)])))
 (gu (ValidN n) <|
 gu (sh.length = celN n) <|
 some (.inr ([], AV.tup [AV.bool (caB n sh fl), AV.int .i64 0])))
noncomputable def rcoStep (n : NetD) (sh : List Bool) (fl : Int) : Empty → Option (Empty ⊕ Ret)
  | x => x.elim
theorem rcoEn_ok (n : NetD) (sh : List Bool) (fl : Int) (o : Empty ⊕ Ret) (h : rcoEn n sh fl = some o) : Arr Try.prog Try.f32 0 (rcoSt n sh fl) rcoHd (bodyOf Try.f32) [] { n := Try.f32.ntmps, fr := enumF 0 ([netA n, .lst (boL sh), .int .i64 fl]), hp := ([]) } o :=
 Scr.ok h mix (
 .rn 0 [] [] [] [] (al (u2 t3)) <|
 .gu fun a0 =>
 have c0 := rch_c (sh) (fl) a0;
 .rn 1 [] [] [(12, hK c0 [] [])] [] (aj (u2 (u2 (u2 (aj (k3 (aj t9 (k2 (al (c0))))) s2)))) (al (u2 s2))) <|
 .br (fun a1 =>
 .rt [29] [] [] [] [] [] (aj (aj a1 (al (u2 (ak s2)))) (al t3)))
 (fun a1 =>
 .gu fun a2 =>
 .gu fun a3 =>
 have c1 := rca_c (fl) a2 a3 a0;
 .rt [28] [] [(19, hK c1 [] [])] [] [] [] (aj (aj a1 (al (u2 (u2 (u2 (aj (k3 (aj t9 (k2 (al (c1))))) (u2 t2))))))) (al t3)))) (by kernel_rfl)
theorem rco_ct (n : NetD) (sh : List Bool) (fl : Int) (r : Ret) (h : MReach (rcoStep n sh fl) (rcoEn n sh fl) r) : CT Try.prog 32 ([]) ([netA n, .lst (boL sh), .int .i64 fl]) r.1 r.2 :=
  CT.mach (fn := Try.f32) (c := bodyOf Try.f32) (S := rcoSt n sh fl) (hd := rcoHd) Try.func32 (by kernel_rfl) (nbl rfl)
    (fun s o ho => match s, ho with
      | x, _ => x.elim)
    (fun o ho => rcoEn_ok n sh fl o ho) h
noncomputable def caO (n : NetD) (sh : List Bool) (fl : Int) : Bool := if chE n sh fl = 0 then caB n sh fl else false
theorem slZ_ok {n : NetD} {sh : List Bool} (hv : ValidN n) (hl : sh.length = celN n) : slZ n sh = slS n sh := by
  unfold slZ; rw [if_pos (chE_zero hv hl (by omega))]
theorem car_c {n : NetD} (sh : List Bool) (fl : Int) (hrw : Rows n.nx) : CT Try.prog 31 [] [netA n, .lst (boL sh), .int .i64 fl] [] (.tup [.bool (caO n sh fl), .int .i64 (chE n sh fl)]) := by
  refine car_ct n sh fl ([], _) (.val ?_)
  unfold carEn caO
  rw [gu_t hrw]
  by_cases h : chE n sh fl = 0
  case neg => rw [br_t (bne_iff_ne.2 h), if_neg h]
  obtain ⟨hv, hl, _⟩ := chE_ok h
  have hb := bs_le hv hl
  rw [br_f (by rw [h]; rfl), if_pos h, h, gu_t (bo_one sh), gu_t (by rw [boL_len, List.length_map]; simp only [iN]; omega), tk_eq, slZ_ok hv hl]
  unfold caB
  cases muB n.nx (sh.take n.bs.length) <;> rfl
theorem rco_c {n : NetD} (sh : List Bool) (fl : Int) (hrw : Rows n.nx) : CT Try.prog 32 [] [netA n, .lst (boL sh), .int .i64 fl] [] (.tup [.bool (caO n sh fl), .int .i64 (chE n sh fl)]) := by
  refine rco_ct n sh fl ([], _) (.val ?_)
  unfold rcoEn caO
  rw [gu_t hrw]
  by_cases h : chE n sh fl = 0
  case neg => rw [br_t (bne_iff_ne.2 h), if_neg h]
  obtain ⟨hv, hl, _⟩ := chE_ok h
  rw [br_f (by rw [h]; rfl), if_pos h, h, gu_t hv, gu_t hl]
theorem rso_c {n : NetD} (sh : List Bool) (hrw : Rows n.nx) : CT Try.prog 30 [] [netA n, .lst (boL sh)] [] (.tup [.int .i64 (slZ n sh), .int .i64 (chE n sh 0)]) := by
  refine rso_ct n sh ([], _) (.val ?_)
  unfold rsoEn slZ
  rw [gu_t hrw]
  by_cases h : chE n sh 0 = 0
  case neg => rw [br_t (bne_iff_ne.2 h), if_neg h]
  obtain ⟨hv, hl, _⟩ := chE_ok h
  rw [br_f (by rw [h]; rfl), if_pos h, h, gu_t hv, gu_t hl]
noncomputable def alB (n : NetD) (sh : List Bool) (bk fl : Int) : Bool := !(sh.getD bk.toNat true) && caB n (wth sh bk) fl
theorem ral_c {n : NetD} {sh : List Bool} {bk : Int} (fl : Int) (hv : ValidN n) (hl : sh.length = celN n) (hrw : Rows n.nx) (hk : 0 ≤ bk ∧ bk < (n.bs.length : Int)) : CT Try.prog 66 [] [netA n, .lst (boL sh), .int .i64 bk, .int .i64 fl] [] (.bool (alB n sh bk fl)) := by
  refine ral_ct n sh bk fl ([], _) (.val ?_)
  have hb := bs_le hv hl
  have hc := hv.cel
  have hs := getE true (show bk.toNat < sh.length by omega)
  unfold ralEn alB
  rw [gu_t hk.1, el_t hs]
  cases sh.getD bk.toNat true with
  | true => rfl
  | false => rw [br_t (by rfl), gu_t (by omega), gu_t ⟨by omega, by simp only [iN]; omega⟩, gu_t hv, gu_t (by rw [wth_len]; exact hl), gu_t hrw]; rfl
noncomputable def allSt (n : NetD) (sh : List Bool) (bk fl : Int) : Empty → St
  | x => x.elim
def allHd : Empty → Nat
  | x => x.elim
noncomputable def allEn (n : NetD) (sh : List Bool) (bk fl : Int) : Option (Empty ⊕ Ret) :=
 gu (Rows n.nx) <|
 br (chE n sh fl != 0)
 (some (.inr ([], AV.tup [AV.bool false, AV.int .i64 (chE n sh fl)])))
 (br (decide (bk < 0))
 (some (.inr ([], AV.tup [AV.bool false, AV.int .i64 19])))
 (br (decide (iN (List.map bA n.bs).length ≤ bk))
 (some (.inr ([], AV.tup [AV.bool false, AV.int .i64 19])))
 (gu (0 ≤ bk) <|
 el (sh) (bk.toNat) fun (x33 : Bool) =>
 br x33
 (some (.inr ([], AV.tup [AV.bool false, AV.int .i64 0])))
 (gu (1 * iN (boL sh).length ≤ 281474976710656) <|
 gu (iN (boL sh).length ≤ 9223372036854775807) <|
 gu (∀ (e : AV), e ∈ boL sh → e.cells.length = 1) <|
 gu (bk < iN (boL sh).length) <|
 gu ((0 + bk.toNat).succ.le ([] ++ List.take (min (boL sh).length (boL sh).length) (boL sh) ++ List.drop (0 + min (boL sh).length (boL sh).length) (List.replicate (boL sh).length (AV.bool false))).length) <|
 some (.inr ([], AV.tup [AV.bool (caO n ((List.take (min (boL sh).length (boL sh).length) sh ++ List.drop (0 + min (boL sh).length (boL sh).length) (List.replicate (boL sh).length false)).set (0 + bk.toNat) true) fl), AV.int .i64 (chE n ((List.take (min (boL sh).length (boL sh).length) sh ++ List.drop (0 + min (boL sh).length (boL sh).length) (List.replicate (boL sh).length false)).set (0 + bk.toNat) true) fl)]))))))
noncomputable def allStep (n : NetD) (sh : List Bool) (bk fl : Int) : Empty → Option (Empty ⊕ Ret)
  | x => x.elim
theorem allEn_ok (n : NetD) (sh : List Bool) (bk fl : Int) (o : Empty ⊕ Ret) (h : allEn n sh bk fl = some o) : Arr Try.prog Try.f33 0 (allSt n sh bk fl) allHd (bodyOf Try.f33) [] { n := Try.f33.ntmps, fr := enumF 0 ([netA n, .lst (boL sh), .int .i64 bk, .int .i64 fl]), hp := ([]) } o :=
 Scr.ok h mix (
 .rn 0 [] [] [] [] (al (u2 t3)) <|
 .gu fun a0 =>
 have c0 := chc_c (sh) (fl) a0;
 .rn 1 [] [] [(15, hK c0 [] [])] [] (aj (u2 (u2 (u2 (aj (k3 (aj t9 (k2 (al (c0))))) s2)))) (al (u2 (u2 s2)))) <|
 .br (fun a1 =>
 .rt [33] [] [] [] [] [] (aj (aj a1 (al (u2 (ak s2)))) (al t3)))
 (fun a1 =>
 .br (fun a2 =>
  .rt [32, 47] [] [] [] [] [] (aj (aj a1 (aj (u2 (u2 (u2 (aj a2 (aj a2 (aj a2 (aj a2 (aj a2 (ag a2 s2))))))))) (ak (al t3)))) (al t3)))
 (fun a2 =>
  .rn 0 [32, 46] [] [] [] (aj a1 (al (u2 (u2 (u2 (ag a2 (ag a2 (ag a2 (ag a2 (aj (aj a2 t3) (ag a2 s2))))))))))) <|
  .br (fun a3 =>
  .rt [46, 41] [] [] [] [] [] (aj (aj a3 (al t3)) (al t3)))
  (fun a3 =>
  .gu fun a4 =>
  .el fun x33 a5 =>
  .rn 0 [46, 40] [(33, AV.bool x33)] [] [] (aj a3 (al (u2 (u2 (aj (k2 (aj a4 (getMap (f := AV.bool) a5))) (u2 s2)))))) <|
  .br (fun a6 =>
   .rt [46, 61] [] [] [] [] [] (aj (aj a6 (al t3)) (al t3)))
  (fun a6 =>
   .gu fun a7 =>
   .gu fun a8 =>
   .rn 0 [46, 60] [] [] [] (aj a6 (al (u2 (u2 (aj (k2 (aj (show 0 ≤ iN (boL sh).length from (Int.natCast_nonneg _)) (aj (show iN (boL sh).length ≤ iN (boL sh).length by omega) (aj a7 a8)))) s2))))) <|
   .gu fun a9 =>
   .rn 0 [46] [] [] [] (al (u2 (u2 (al (k2 (aj (show 0 + (boL sh).length ≤ (List.replicate (boL sh).length (AV.bool false)).length by simp) a9)))))) <|
   .gu fun a10 =>
   .gu fun a11 =>
   have c1 := car_c ((List.take (min (boL sh).length (boL sh).length) sh ++ List.drop (0 + min (boL sh).length (boL sh).length) (List.replicate (boL sh).length false)).set (0 + bk.toNat) true) (fl) a0;
   .rt [46] [] [(47, hK c1 [] [1])] [] [] [] (aj (aj (u2 (u2 (aj (k2 (aj a4 a10)) (al (ak a11))))) (al (u2 (u2 (u2 (aj (k3 (aj t9 (aj (show (boL sh).length = (([] ++ List.take (min (boL sh).length (boL sh).length) (boL sh) ++ List.drop (0 + min (boL sh).length (boL sh).length) (List.replicate (boL sh).length (AV.bool false))).set (0 + bk.toNat) (AV.bool true)).length by simp) (ak (aj (show CT Try.prog 31 [] [AV.agg [AV.lst (List.map bA n.bs), AV.lst (gL n.nx), AV.lst (List.map sA n.ss), AV.lst (List.map (iv) n.rs), iv n.q, iv n.a, iv n.d, iv n.p], AV.lst (([] ++ List.take (min (boL sh).length (boL sh).length) (boL sh) ++ List.drop (0 + min (boL sh).length (boL sh).length) (List.replicate (boL sh).length (AV.bool false))).set (0 + bk.toNat) (AV.bool true)), iv fl] [] (AV.tup [AV.bool (caO n ((List.take (min (boL sh).length (boL sh).length) sh ++ List.drop (0 + min (boL sh).length (boL sh).length) (List.replicate (boL sh).length false)).set (0 + bk.toNat) true) fl), iv (chE n ((List.take (min (boL sh).length (boL sh).length) sh ++ List.drop (0 + min (boL sh).length (boL sh).length) (List.replicate (boL sh).length false)).set (0 + bk.toNat) true) fl)]) from CT.eqs (c1) (by first | (simp only [netA, boL, lI, List.map_append, List.map_set, List.map_take, List.map_drop, List.map_replicate, List.nil_append]; done) | (simp only [netA, boL, lI, List.map_append, List.map_set, List.map_take, List.map_drop, List.map_replicate, List.nil_append]; rfl) | (simp [gL, boL, lI, sA, bA]; done) | (simp [gL, boL, lI, sA, bA]; rfl) | (simp only [netA, List.map_append, List.map_set, List.map_cons, List.map_nil]; rfl)) (by first | (simp only [netA, boL, lI, List.map_append, List.map_set, List.map_take, List.map_drop, List.map_replicate, List.nil_append]; done) | (simp only [netA, boL, lI, List.map_append, List.map_set, List.map_take, List.map_drop, List.map_replicate, List.nil_append]; rfl) | (simp [gL, boL, lI, sA, bA]; done) | (simp [gL, boL, lI, sA, bA]; rfl) | (simp only [netA, List.map_append, List.map_set, List.map_cons, List.map_nil]; rfl))) (show ∀ (blk : Blk), blk ∈ [] → ImmB blk from (by intro _ h; cases h))))))) (u2 (u2 (u2 s2))))))))) (al t3))))))) (by kernel_rfl)
theorem all_ct (n : NetD) (sh : List Bool) (bk fl : Int) (r : Ret) (h : MReach (allStep n sh bk fl) (allEn n sh bk fl) r) : CT Try.prog 33 ([]) ([netA n, .lst (boL sh), .int .i64 bk, .int .i64 fl]) r.1 r.2 :=
  CT.mach (fn := Try.f33) (c := bodyOf Try.f33) (S := allSt n sh bk fl) (hd := allHd) Try.func33 (by kernel_rfl) (nbl rfl)
    (fun s o ho => match s, ho with
      | x, _ => x.elim)
    (fun o ho => allEn_ok n sh bk fl o ho) h
noncomputable def raoSt (n : NetD) (sh : List Bool) (bk fl : Int) : Empty → St
  | x => x.elim
def raoHd : Empty → Nat
  | x => x.elim
noncomputable def raoEn (n : NetD) (sh : List Bool) (bk fl : Int) : Option (Empty ⊕ Ret) :=
 gu (Rows n.nx) <|
 br (chE n sh fl != 0)
 (some (.inr ([], AV.tup [AV.bool false, AV.int .i64 (chE n sh fl)])))
 (br (decide (bk < 0))
 (some (.inr ([], AV.tup [AV.bool false, AV.int .i64 19])))
 (br (decide (iN (List.map bA n.bs).length ≤ bk))
 (some (.inr ([], AV.tup [AV.bool false, AV.int .i64 19])))
 (gu (ValidN n) <|
 gu (sh.length = celN n) <|
 gu (0 ≤ bk ∧ bk < iN n.bs.length) <|
 some (.inr ([], AV.tup [AV.bool (alB n sh bk fl), AV.int .i64 0])))))
noncomputable def raoStep (n : NetD) (sh : List Bool) (bk fl : Int) : Empty → Option (Empty ⊕ Ret)
  | x => x.elim
theorem raoEn_ok (n : NetD) (sh : List Bool) (bk fl : Int) (o : Empty ⊕ Ret) (h : raoEn n sh bk fl = some o) : Arr Try.prog Try.f34 0 (raoSt n sh bk fl) raoHd (bodyOf Try.f34) [] { n := Try.f34.ntmps, fr := enumF 0 ([netA n, .lst (boL sh), .int .i64 bk, .int .i64 fl]), hp := ([]) } o :=
 Scr.ok h mix (
 .rn 0 [] [] [] [] (al (u2 t3)) <|
 .gu fun a0 =>
 have c0 := rch_c (sh) (fl) a0;
 .rn 1 [] [] [(14, hK c0 [] [])] [] (aj (u2 (u2 (u2 (aj (k3 (aj t9 (k2 (al (c0))))) s2)))) (al (u2 s2))) <|
 .br (fun a1 =>
 .rt [33] [] [] [] [] [] (aj (aj a1 (al (u2 (ak s2)))) (al t3)))
 (fun a1 =>
 .br (fun a2 =>
  .rt [32, 41] [] [] [] [] [] (aj (aj a1 (aj (u2 (u2 (u2 (aj a2 (aj a2 (aj a2 (aj a2 (aj a2 (al (aj a2 t2)))))))))) (ak (al t3)))) (al t3)))
 (fun a2 =>
  .rn 0 [32, 40] [] [] [] (aj a1 (al (u2 (u2 (u2 (ag a2 (ag a2 (ag a2 (ag a2 (aj (aj a2 t3) (al (aj a2 t2)))))))))))) <|
  .br (fun a3 =>
  .rt [40, 53] [] [] [] [] [] (aj (aj a3 (al t3)) (al t3)))
  (fun a3 =>
  .gu fun a4 =>
  .gu fun a5 =>
  .gu fun a6 =>
  have c1 := ral_c (fl) a4 a5 a0 a6;
  .rt [40, 52] [] [(31, hK c1 [] [])] [] [] [] (aj (aj a3 (al (u2 (u2 (u2 (u2 (aj (ak (k3 (aj t9 (k3 (al (c1)))))) (u2 t2)))))))) (al t3)))))) (by kernel_rfl)
theorem rao_ct (n : NetD) (sh : List Bool) (bk fl : Int) (r : Ret) (h : MReach (raoStep n sh bk fl) (raoEn n sh bk fl) r) : CT Try.prog 34 ([]) ([netA n, .lst (boL sh), .int .i64 bk, .int .i64 fl]) r.1 r.2 :=
  CT.mach (fn := Try.f34) (c := bodyOf Try.f34) (S := raoSt n sh bk fl) (hd := raoHd) Try.func34 (by kernel_rfl) (nbl rfl)
    (fun s o ho => match s, ho with
      | x, _ => x.elim)
    (fun o ho => raoEn_ok n sh bk fl o ho) h
noncomputable def alE (n : NetD) (sh : List Bool) (bk fl : Int) : Int := if chE n sh fl = 0 then (if 0 ≤ bk ∧ bk < (n.bs.length : Int) then 0 else 19) else chE n sh fl
noncomputable def alO (n : NetD) (sh : List Bool) (bk fl : Int) : Bool := if alE n sh bk fl = 0 then alB n sh bk fl else false
theorem alE_bad {n : NetD} {sh : List Bool} {bk fl : Int} (h : chE n sh fl ≠ 0) : alE n sh bk fl = chE n sh fl ∧ alO n sh bk fl = false := by
  have e : alE n sh bk fl = chE n sh fl := by unfold alE; rw [if_neg h]
  exact ⟨e, by unfold alO; rw [if_neg (by rw [e]; exact h)]⟩
theorem alE_out {n : NetD} {sh : List Bool} {bk fl : Int} (h : chE n sh fl = 0) (hb : ¬ (0 ≤ bk ∧ bk < (n.bs.length : Int))) : alE n sh bk fl = 19 ∧ alO n sh bk fl = false := by
  have e : alE n sh bk fl = 19 := by unfold alE; rw [if_pos h, if_neg hb]
  exact ⟨e, by unfold alO; rw [if_neg (by omega)]⟩
theorem alE_in {n : NetD} {sh : List Bool} {bk fl : Int} (h : chE n sh fl = 0) (hb : 0 ≤ bk ∧ bk < (n.bs.length : Int)) : alE n sh bk fl = 0 ∧ alO n sh bk fl = alB n sh bk fl := by
  have e : alE n sh bk fl = 0 := by unfold alE; rw [if_pos h, if_pos hb]
  exact ⟨e, by unfold alO; rw [if_pos e]⟩
theorem all_c {n : NetD} (sh : List Bool) (bk fl : Int) (hrw : Rows n.nx) : CT Try.prog 33 [] [netA n, .lst (boL sh), .int .i64 bk, .int .i64 fl] [] (.tup [.bool (alO n sh bk fl), .int .i64 (alE n sh bk fl)]) := by
  refine all_ct n sh bk fl ([], _) (.val ?_)
  unfold allEn
  rw [gu_t hrw]
  by_cases h : chE n sh fl = 0
  case neg => rw [br_t (bne_iff_ne.2 h), (alE_bad h).1, (alE_bad h).2]
  obtain ⟨hv, hl, hf⟩ := chE_ok h
  have hb := bs_le hv hl
  have hc := hv.cel
  rw [br_f (by rw [h]; rfl)]
  by_cases h1 : bk < 0
  · rw [br_t (dec_t h1), (alE_out h (by omega)).1, (alE_out h (by omega)).2]
  by_cases h2 : (n.bs.length : Int) ≤ bk
  · rw [br_f (dec_f h1), br_t (dec_t (by rw [List.length_map]; exact h2)), (alE_out h (by omega)).1, (alE_out h (by omega)).2]
  have hs := getE true (show bk.toNat < sh.length by omega)
  have hL := boL_len sh
  have e : (List.take (min (boL sh).length (boL sh).length) sh ++ List.drop (0 + min (boL sh).length (boL sh).length) (List.replicate (boL sh).length false)).set (0 + bk.toNat) true = wth sh bk := by
    rw [hL, Nat.min_self, List.take_length, Nat.zero_add, Nat.zero_add, List.drop_of_length_le (by simp), List.append_nil]; rfl
  rw [br_f (dec_f h1), br_f (dec_f (by rw [List.length_map]; exact h2)), (alE_in h ⟨by omega, by omega⟩).1, (alE_in h ⟨by omega, by omega⟩).2, gu_t (by omega), el_t hs, e]
  unfold alB
  cases sh.getD bk.toNat true with
  | true => rfl
  | false =>
    have hc2 : chE n (wth sh bk) fl = 0 := chE_zero hv (by rw [wth_len]; exact hl) hf
    rw [br_f (by rfl), gu_t (by rw [hL]; simp only [iN]; omega), gu_t (by rw [hL]; simp only [iN]; omega), gu_t (bo_one sh), gu_t (by rw [hL]; simp only [iN]; omega), gu_t (show Nat.le _ _ from (show 0 + bk.toNat + 1 ≤ _ by simp only [List.nil_append, List.length_append, List.length_take, List.length_drop, List.length_replicate, hL]; omega)), hc2]
    unfold caO
    rw [if_pos hc2]; rfl
theorem rao_c {n : NetD} (sh : List Bool) (bk fl : Int) (hrw : Rows n.nx) : CT Try.prog 34 [] [netA n, .lst (boL sh), .int .i64 bk, .int .i64 fl] [] (.tup [.bool (alO n sh bk fl), .int .i64 (alE n sh bk fl)]) := by
  refine rao_ct n sh bk fl ([], _) (.val ?_)
  unfold raoEn
  rw [gu_t hrw]
  by_cases h : chE n sh fl = 0
  case neg => rw [br_t (bne_iff_ne.2 h), (alE_bad h).1, (alE_bad h).2]
  obtain ⟨hv, hl, hf⟩ := chE_ok h
  rw [br_f (by rw [h]; rfl)]
  by_cases h1 : bk < 0
  · rw [br_t (dec_t h1), (alE_out h (by omega)).1, (alE_out h (by omega)).2]
  by_cases h2 : (n.bs.length : Int) ≤ bk
  · rw [br_f (dec_f h1), br_t (dec_t (by rw [List.length_map]; exact h2)), (alE_out h (by omega)).1, (alE_out h (by omega)).2]
  rw [br_f (dec_f h1), br_f (dec_f (by rw [List.length_map]; exact h2)), (alE_in h ⟨by omega, by omega⟩).1, (alE_in h ⟨by omega, by omega⟩).2, gu_t hv, gu_t hl, gu_t ⟨by omega, by simp only [iN]; omega⟩]
noncomputable def lnSt : Empty → St
  | x => x.elim
def lnHd : Empty → Nat
  | x => x.elim
noncomputable def lnEn : Option (Empty ⊕ Ret) :=
 some (.inr ([], AV.agg [AV.lst [AV.agg [AV.str (ByteArray.mk #[97]), AV.int .i64 0, AV.int .i64 0], AV.agg [AV.str (ByteArray.mk #[98]), AV.int .i64 0, AV.int .i64 0], AV.agg [AV.str (ByteArray.mk #[99]), AV.int .i64 0, AV.int .i64 0]], AV.lst [AV.lst [AV.int .i64 1], AV.lst [AV.int .i64 0, AV.int .i64 2], AV.lst [AV.int .i64 1]], AV.lst [AV.agg [AV.str (ByteArray.mk #[100]), AV.bool true, AV.int .i64 0, AV.int .i64 0, AV.int .i64 1, AV.int .i64 3], AV.agg [AV.str (ByteArray.mk #[101]), AV.bool true, AV.int .i64 2, AV.int .i64 2, AV.int .i64 2, AV.int .i64 4]], AV.nils, AV.int .i64 1, AV.int .i64 0, AV.int .i64 0, AV.int .i64 1]))
noncomputable def lnStep : Empty → Option (Empty ⊕ Ret)
  | x => x.elim
theorem lnEn_ok (o : Empty ⊕ Ret) (h : lnEn = some o) : Arr Try.prog Try.f61 0 (lnSt) lnHd (bodyOf Try.f61) [] { n := Try.f61.ntmps, fr := enumF 0 ([]), hp := ([]) } o :=
 Scr.ok h mix (
 .rt [] [(4, AV.lst []), (5, AV.lst []), (6, AV.lst []), (7, AV.lst []), (8, AV.lst []), (11, AV.lst [])] [] [] [] [] (aj (u2 (al (k3 (aj t4 (k3 (aj t4 (k2 (aj t3 (ak (aj t5 (al (k2 n11)))))))))))) (al t9))) (by kernel_rfl)
theorem ln_ct (r : Ret) (h : MReach (lnStep) (lnEn) r) : CT Try.prog 61 ([]) ([]) r.1 r.2 :=
  CT.mach (fn := Try.f61) (c := bodyOf Try.f61) (S := lnSt) (hd := lnHd) Try.func61 (by kernel_rfl) (nbl rfl)
    (fun s o ho => match s, ho with
      | x, _ => x.elim)
    (fun o ho => lnEn_ok o ho) h
theorem ln_exP : ∃ n : NetD, n = ⟨[⟨⟨#[97]⟩, 0, 0⟩, ⟨⟨#[98]⟩, 0, 0⟩, ⟨⟨#[99]⟩, 0, 0⟩], [[1], [0, 2], [1]], [⟨⟨#[100]⟩, true, 0, 0, 1, 3⟩, ⟨⟨#[101]⟩, true, 2, 2, 2, 4⟩], [], 1, 0, 0, 1⟩ := ⟨_, rfl⟩
@[irreducible] noncomputable def lnN : NetD := Classical.choose ln_exP
theorem lnN_eq : lnN = ⟨[⟨⟨#[97]⟩, 0, 0⟩, ⟨⟨#[98]⟩, 0, 0⟩, ⟨⟨#[99]⟩, 0, 0⟩], [[1], [0, 2], [1]], [⟨⟨#[100]⟩, true, 0, 0, 1, 3⟩, ⟨⟨#[101]⟩, true, 2, 2, 2, 4⟩], [], 1, 0, 0, 1⟩ := by unfold lnN; exact Classical.choose_spec ln_exP
theorem VR_wka {φ : Phi} {A : Nat → Prop} {w : World} {cs : List AV} {v : Value} (h : VR φ A w (.agg cs) v) : VR φ A w (.agg (cs.map wk1)) v := by
  cases h with
  | imm _ _ h =>
    cases h with
    | agg _ vs hl h =>
      refine .agg _ vs (by simpa using hl) fun i c v hc hv => ?_
      rw [List.getElem?_map] at hc
      obtain ⟨c', hc', rfl⟩ := Option.map_eq_some_iff.1 hc
      exact (VR.imm _ _ (h i c' v hc' hv)).wk1
  | agg _ vs hl h =>
    refine .agg _ vs (by simpa using hl) fun i c v hc hv => ?_
    rw [List.getElem?_map] at hc
    obtain ⟨c', hc', rfl⟩ := Option.map_eq_some_iff.1 hc
    exact (h i c' v hc' hv).wk1
theorem ln_c : CT Try.prog 61 [] [] [] (netA lnN) := by
  rw [lnN_eq]
  exact (ln_ct _ (.val (show lnEn = some (.inr _) by unfold lnEn; exact rfl))).less fun _ _ _ _ h => VR_wka h
theorem lnN_rows : Rows lnN.nx := by
  rw [lnN_eq]
  intro v hv
  match v, hv with
  | 0, _ => decide
  | 1, _ => decide
  | 2, _ => decide
  | v + 3, hv => simp at hv; try omega
theorem lnN_ok : ValidN lnN := by
  rw [lnN_eq]
  refine ⟨by decide +kernel, rfl, by decide, by decide, by decide +kernel, ?_, ?_, ?_, ?_, ?_⟩
  · intro i b h
    match i, h with
    | 0, h => cases h; exact ⟨by decide +kernel, by decide +kernel, by decide +kernel, by decide +kernel⟩
    | 1, h => cases h; exact ⟨by decide +kernel, by decide +kernel, by decide +kernel, by decide +kernel⟩
    | 2, h => cases h; exact ⟨by decide +kernel, by decide +kernel, by decide +kernel, by decide +kernel⟩
    | i + 3, h => simp at h
  · intro i s h
    match i, h with
    | 0, h => cases h; exact ⟨by decide +kernel, by decide +kernel, by decide +kernel, by decide +kernel, by decide +kernel⟩
    | 1, h => cases h; exact ⟨by decide +kernel, by decide +kernel, by decide +kernel, by decide +kernel, by decide +kernel⟩
    | i + 2, h => simp at h
  · decide +kernel
  · exact ⟨3, ⟨⟨#[100]⟩, true, 0, 0, 1, 3⟩, by simp, rfl, by decide, by decide⟩
  · intro i c h
    cases h
theorem lnN_cel : celN lnN = 6 := by rw [lnN_eq]; decide +kernel
def s6 : List Bool := [false, false, false, false, false, false]
theorem ln_ch (fl : Int) (h : 0 ≤ fl ∧ fl ≤ 8) : chE lnN s6 fl = 0 := chE_zero lnN_ok (by rw [lnN_cel]; rfl) h
theorem ln_sl : slZ lnN s6 = 3 := by
  rw [slZ_ok lnN_ok (by rw [lnN_cel]; rfl), lnN_eq]; decide +kernel
theorem ln_e (bk fl : Int) (hb : 0 ≤ bk ∧ bk < 3) (h : 0 ≤ fl ∧ fl ≤ 8) : alE lnN s6 bk fl = 0 ∧ alO lnN s6 bk fl = alB lnN s6 bk fl := alE_in (ln_ch fl h) (by rw [lnN_eq]; exact hb)
theorem lnA : alB lnN s6 0 2 = true := by
  unfold alB caB
  have h1 : muB lnN.nx ((wth s6 0).take lnN.bs.length) = true := by
    rw [lnN_eq]
    refine muB_t ⟨by decide +kernel, ⟨1, rfl⟩, fun v w hv hw => ?_⟩
    have h11 : Rcv [[1], [0, 2], [1]] [true, false, false] 1 1 := .refl rfl
    have h22 : Rcv [[1], [0, 2], [1]] [true, false, false] 2 2 := .refl rfl
    have h12 : Rcv [[1], [0, 2], [1]] [true, false, false] 1 2 := .step h11 (by decide) rfl
    have h21 : Rcv [[1], [0, 2], [1]] [true, false, false] 2 1 := .step h22 (by decide) rfl
    have key : ∀ x : Nat, ((wth s6 0).take 3).getD x true = false → x = 1 ∨ x = 2 := fun x hx => by
      match x, hx with
      | 0, hx => cases hx
      | 1, _ => exact .inl rfl
      | 2, _ => exact .inr rfl
      | x + 3, hx => simp [wth, s6] at hx
    rcases key v hv with rfl | rfl <;> rcases key w hw with rfl | rfl
    · exact h11
    · exact h12
    · exact h21
    · exact h22
  have h2 : decide ((2 : Int) ≤ slS lnN (wth s6 0)) = true := by rw [lnN_eq]; decide +kernel
  rw [h1, h2]; rfl
theorem lnB : alB lnN s6 1 1 = false := by
  unfold alB caB
  have h1 : muB lnN.nx ((wth s6 1).take lnN.bs.length) = false := by
    rw [lnN_eq]
    refine muB_f fun h => ?_
    have h02 := h.2.2 0 2 rfl rfl
    have key : ∀ k, Rcv [[1], [0, 2], [1]] ((wth s6 1).take 3) 0 k → k = 0 := fun k hk => by
      induction hk with
      | refl _ => rfl
      | @step u w _ hw ho ih =>
        subst ih
        have : w = 1 := by
          have : (w : Int) ∈ ([1] : List Int) := hw
          have := List.mem_singleton.1 this
          omega
        subst this; cases ho
    exact absurd (key 2 h02) (by decide)
  rw [h1]; simp
theorem lnC : alB lnN s6 2 2 = false := by
  unfold alB caB
  have h2 : decide ((2 : Int) ≤ slS lnN (wth s6 2)) = false := by rw [lnN_eq]; decide +kernel
  rw [h2]; simp
theorem allK0 : CT Try.prog 33 [] [netA lnN, .lst (boL s6), .int .i64 0, .int .i64 2] [] (.tup [.bool true, .int .i64 0]) := by
  have h := all_c s6 0 2 lnN_rows
  rwa [(ln_e 0 2 (by omega) (by omega)).1, (ln_e 0 2 (by omega) (by omega)).2, lnA] at h
theorem allK1 : CT Try.prog 33 [] [netA lnN, .lst (boL s6), .int .i64 1, .int .i64 1] [] (.tup [.bool false, .int .i64 0]) := by
  have h := all_c s6 1 1 lnN_rows
  rwa [(ln_e 1 1 (by omega) (by omega)).1, (ln_e 1 1 (by omega) (by omega)).2, lnB] at h
theorem allK2 : CT Try.prog 33 [] [netA lnN, .lst (boL s6), .int .i64 2, .int .i64 2] [] (.tup [.bool false, .int .i64 0]) := by
  have h := all_c s6 2 2 lnN_rows
  rwa [(ln_e 2 2 (by omega) (by omega)).1, (ln_e 2 2 (by omega) (by omega)).2, lnC] at h
theorem sloK : CT Try.prog 29 [] [netA lnN, .lst (boL s6)] [] (.tup [.int .i64 3, .int .i64 0]) := by
  have h := slo_c s6 lnN_rows
  rwa [ln_sl, ln_ch 0 (by omega)] at h
noncomputable def knoSt : Empty → St
  | x => x.elim
def knoHd : Empty → Nat
  | x => x.elim
noncomputable def knoEn : Option (Empty ⊕ Ret) :=
 some (.inr ([], AV.bool true))
noncomputable def knoStep : Empty → Option (Empty ⊕ Ret)
  | x => x.elim
theorem knoEn_ok (o : Empty ⊕ Ret) (h : knoEn = some o) : Arr Try.prog Try.f27 0 (knoSt) knoHd (bodyOf Try.f27) [] { n := Try.f27.ntmps, fr := enumF 0 ([]), hp := ([]) } o :=
 Scr.ok h mix (
 have c0 := ln_c;
 have c1 := allK0;
 have c2 := allK1;
 have c3 := allK2;
 have c4 := sloK;
 .rt [] [] [(11, hK c0 [] []), (16, hK c1 [] [0]), (22, hK c2 [] [0]), (28, hK c3 [] [0]), (34, hK c4 [] [0])] [] [] [] (aj (u2 (aj (aj (al (c0)) (aj (aj (show (0 : Int) ≤ (6 : Int) from (by first | exact nbl rfl | decide)) (aj (show (6 : Int) ≤ (6 : Int) from (by first | exact nbl rfl | decide)) (aj (show (6 : Int) ≤ (281474976710656 : Int) from (by first | exact nbl rfl | decide)) (show (6 : Int) ≤ (9223372036854775807 : Int) from (by first | exact nbl rfl | decide))))) (ak (aj (k2 n11) s2)))) (aj (u2 (u2 (aj (k2 (aj t9 (aj (show nat_lit 6 = nat_lit 6 from rfl) (k2 (aj (c1) (show ∀ (blk : Blk), blk ∈ [] → ImmB blk from (by intro _ h; cases h))))))) (u2 (u2 (u2 (u2 s2))))))) (aj (u2 (u2 (aj (k2 (aj t9 (aj (show nat_lit 6 = nat_lit 6 from rfl) (k2 (aj (c2) (show ∀ (blk : Blk), blk ∈ [] → ImmB blk from (by intro _ h; cases h))))))) (u2 (u2 (u2 (u2 s2))))))) (aj (u2 (u2 (aj (k2 (aj t9 (aj (show nat_lit 6 = nat_lit 6 from rfl) (k2 (aj (c3) (show ∀ (blk : Blk), blk ∈ [] → ImmB blk from (by intro _ h; cases h))))))) (u2 (u2 (u2 (u2 s2))))))) (aj (u2 (u2 (aj (k2 (aj t9 (aj (show nat_lit 6 = nat_lit 6 from rfl) (aj (c4) (show ∀ (blk : Blk), blk ∈ [] → ImmB blk from (by intro _ h; cases h)))))) (u2 (u2 (u2 (u2 s2))))))) (al (u2 (u2 (u2 (aj t3 (aj t3 (aj t3 (u2 (aj t3 (aj t3 (aj t3 (u2 (aj t3 (aj t3 (aj t3 (u2 (aj t3 (aj t3 (u2 (aj t3 (aj t3 (aj t3 (u2 (aj t3 (aj t3 (aj t3 (u2 (aj t3 (aj t3 (aj t3 s2)))))))))))))))))))))))))))))))))))) t2)) (by kernel_rfl)
theorem kno_ct (r : Ret) (h : MReach (knoStep) (knoEn) r) : CT Try.prog 27 ([]) ([]) r.1 r.2 :=
  CT.mach (fn := Try.f27) (c := bodyOf Try.f27) (S := knoSt) (hd := knoHd) Try.func27 (by kernel_rfl) (nbl rfl)
    (fun s o ho => match s, ho with
      | x, _ => x.elim)
    (fun o ho => knoEn_ok o ho) h
theorem kno_c : CT Try.prog 27 [] [] [] (.bool true) := kno_ct ([], _) (.val (show knoEn = _ by unfold knoEn; rfl))
inductive clTPc where
  | l0 (v0 : List Bool) (v1 : Int) (v2 : NetD) (v3 v4 : Int) (v5 : Nat)
noncomputable def clTSt (n : NetD) (sh : List Bool) (p q : Int) (ls : List Int) : clTPc → St
  | .l0 v0 v1 v2 v3 v4 v5 => St.mk 127 [(1, AV.lst (List.map AV.bool v0)), (4, AV.ptr 0 0 0), (6, AV.ptr 1 0 0), (9, AV.ptr 2 0 0), (10, iv v1)] [some (Blk.mk [AV.agg [AV.lst (List.map bA v2.bs), AV.lst (List.map lI v2.nx), AV.lst (List.map sA v2.ss), AV.lst (List.map (iv) v2.rs), iv v2.q, iv v2.a, iv v2.d, iv v2.p]] 8 true true none), some (Blk.mk [AV.agg [iv v3, iv v4]] 2 true true none), some (tapeB ls v5)]
def clTHd : clTPc → Nat
  | .l0 _ _ _ _ _ _ => 0
noncomputable def clTEn (n : NetD) (sh : List Bool) (p q : Int) (ls : List Int) : Option (clTPc ⊕ Ret) :=
 some (.inl (.l0 (sh) ((0 : Int)) n p q (nat_lit 0)))
noncomputable def clTS0 (n : NetD) (sh : List Bool) (p q : Int) (ls : List Int) (v0 : List Bool) (v1 : Int) (v2 : NetD) (v3 v4 : Int) (v5 : Nat) : Option (clTPc ⊕ Ret) :=
 br (decide (v1 < 2))
 (br (v1 == 1)
 (gu (v5 ≤ 5000) <|
 gu (ValidN (looM ls v5 8)) <|
 gu (celN (looM ls v5 8) ≤ 1000) <|
 gu (looK ls v5 8 ≤ 50000) <|
 gu (shuK ls (looK ls v5 8) (celN (looM ls v5 8)) < 9223372036854775807) <|
 gu (shuK ls (looK ls v5 8) (celN (looM ls v5 8)) + 1 < 9223372036854775807) <|
 gu (Rows (looM ls v5 8).nx) <|
 br (slZ (looM ls v5 8) (shuL ls (looK ls v5 8) (celN (looM ls v5 8))) != slZ (looM ls v5 8) (shuL ls (looK ls v5 8) (celN (looM ls v5 8))))
 (some (.inr ([], AV.bool false)))
 (br (chE (looM ls v5 8) (shuL ls (looK ls v5 8) (celN (looM ls v5 8))) 0 != chE (looM ls v5 8) (shuL ls (looK ls v5 8) (celN (looM ls v5 8))) 0)
 (some (.inr ([], AV.bool false)))
 (br (!caO (looM ls v5 8) (shuL ls (looK ls v5 8) (celN (looM ls v5 8))) (IntKind.i64.wrap (nextZ ls (shuK ls (looK ls v5 8) (celN (looM ls v5 8)) + 1) 11 - 1)) == caO (looM ls v5 8) (shuL ls (looK ls v5 8) (celN (looM ls v5 8))) (IntKind.i64.wrap (nextZ ls (shuK ls (looK ls v5 8) (celN (looM ls v5 8)) + 1) 11 - 1)))
 (some (.inr ([], AV.bool false)))
 (br (chE (looM ls v5 8) (shuL ls (looK ls v5 8) (celN (looM ls v5 8))) (IntKind.i64.wrap (nextZ ls (shuK ls (looK ls v5 8) (celN (looM ls v5 8)) + 1) 11 - 1)) != chE (looM ls v5 8) (shuL ls (looK ls v5 8) (celN (looM ls v5 8))) (IntKind.i64.wrap (nextZ ls (shuK ls (looK ls v5 8) (celN (looM ls v5 8)) + 1) 11 - 1)))
 (some (.inr ([], AV.bool false)))
 (br (!alO (looM ls v5 8) (shuL ls (looK ls v5 8) (celN (looM ls v5 8))) (IntKind.i64.wrap (nextZ ls (shuK ls (looK ls v5 8) (celN (looM ls v5 8))) (IntKind.i64.wrap (iN (List.map bA (looM ls v5 8).bs).length + 2)) - 1)) (IntKind.i64.wrap (nextZ ls (shuK ls (looK ls v5 8) (celN (looM ls v5 8)) + 1) 11 - 1)) == alO (looM ls v5 8) (shuL ls (looK ls v5 8) (celN (looM ls v5 8))) (IntKind.i64.wrap (nextZ ls (shuK ls (looK ls v5 8) (celN (looM ls v5 8))) (IntKind.i64.wrap (iN (List.map bA (looM ls v5 8).bs).length + 2)) - 1)) (IntKind.i64.wrap (nextZ ls (shuK ls (looK ls v5 8) (celN (looM ls v5 8)) + 1) 11 - 1)))
 (some (.inr ([], AV.bool false)))
 (br (alE (looM ls v5 8) (shuL ls (looK ls v5 8) (celN (looM ls v5 8))) (IntKind.i64.wrap (nextZ ls (shuK ls (looK ls v5 8) (celN (looM ls v5 8))) (IntKind.i64.wrap (iN (List.map bA (looM ls v5 8).bs).length + 2)) - 1)) (IntKind.i64.wrap (nextZ ls (shuK ls (looK ls v5 8) (celN (looM ls v5 8)) + 1) 11 - 1)) != alE (looM ls v5 8) (shuL ls (looK ls v5 8) (celN (looM ls v5 8))) (IntKind.i64.wrap (nextZ ls (shuK ls (looK ls v5 8) (celN (looM ls v5 8))) (IntKind.i64.wrap (iN (List.map bA (looM ls v5 8).bs).length + 2)) - 1)) (IntKind.i64.wrap (nextZ ls (shuK ls (looK ls v5 8) (celN (looM ls v5 8)) + 1) 11 - 1)))
 (some (.inr ([], AV.bool false)))
 (some (.inl (.l0 (shuL ls (looK ls v5 8) (celN (looM ls v5 8))) (IntKind.i64.wrap (v1 + 1)) (looM ls v5 8) (IntKind.i64.wrap (nextZ ls (shuK ls (looK ls v5 8) (celN (looM ls v5 8))) (IntKind.i64.wrap (iN (List.map bA (looM ls v5 8).bs).length + 2)) - 1)) (IntKind.i64.wrap (nextZ ls (shuK ls (looK ls v5 8) (celN (looM ls v5 8)) + 1) 11 - 1)) (shuK ls (looK ls v5 8) (celN (looM ls v5 8)) + 1 + 1))))))))))
 (gu (Rows v2.nx) <|
 br (slZ v2 v0 != slZ v2 v0)
 (some (.inr ([], AV.bool false)))
 (br (chE v2 v0 0 != chE v2 v0 0)
 (some (.inr ([], AV.bool false)))
 (br (!caO v2 v0 v4 == caO v2 v0 v4)
 (some (.inr ([], AV.bool false)))
 (br (chE v2 v0 v4 != chE v2 v0 v4)
 (some (.inr ([], AV.bool false)))
 (br (!alO v2 v0 v3 v4 == alO v2 v0 v3 v4)
 (some (.inr ([], AV.bool false)))
 (br (alE v2 v0 v3 v4 != alE v2 v0 v3 v4)
 (some (.inr ([], AV.bool false)))
 (some (.inl (.l0 v0 (IntKind.i64.wrap (v1 + 1)) v2 v3 v4 v5))))))))))
 (some (.inr ([], AV.bool true)))
noncomputable def clTStep (n : NetD) (sh : List Bool) (p q : Int) (ls : List Int) : clTPc → Option (clTPc ⊕ Ret)
  | .l0 v0 v1 v2 v3 v4 v5 => clTS0 n sh p q ls v0 v1 v2 v3 v4 v5
theorem clTEn_ok (n : NetD) (sh : List Bool) (p q : Int) (ls : List Int) (o : clTPc ⊕ Ret) (h : clTEn n sh p q ls = some o) : Arr Try.prog Try.f6 0 (clTSt n sh p q ls) clTHd (bodyOf Try.f6) [] { n := Try.f6.ntmps, fr := enumF 0 ([netA n, .lst (boL sh), .agg [.int .i64 p, .int .i64 q], lI ls]), hp := ([]) } o :=
 Scr.ok h mix (
 have c0 := kno_c;
 .lp [] [] [(23, hK c0 [] [])] [] [] [0, 1, 2] [1, 4, 6, 9, 10] (aj (aj (u2 (u2 t2)) (aj (aj (al (c0)) s2) (ak (aj (u2 (u2 (u2 s2))) s2)))) t9)) (by kernel_rfl)
theorem clTS0_ok (n : NetD) (sh : List Bool) (p q : Int) (ls : List Int) (v0 : List Bool) (v1 : Int) (v2 : NetD) (v3 v4 : Int) (v5 : Nat) (o : clTPc ⊕ Ret) (h : clTS0 n sh p q ls v0 v1 v2 v3 v4 v5 = some o) : Arr Try.prog Try.f6 0 (clTSt n sh p q ls) clTHd (headC Try.f6 0) (.rnd (headC Try.f6 0) :: headK Try.f6 0) (clTSt n sh p q ls (.l0 v0 v1 v2 v3 v4 v5)) o :=
 Scr.ok h mix (
 .rn 0 [] [] [] [] (al (u2 s2)) <|
 .br (fun a0 =>
 .rn 0 [59] [] [] [] (aj a0 (al (u2 s2))) <|
 .br (fun a1 =>
  .gu fun a2 =>
  have c0 := loose_ct (ls) v5 (8) a2 (show (1 : Int) ≤ (8 : Int) ∧ (8 : Int) ≤ (20 : Int) from ⟨(by first | exact nbl rfl | decide), (by first | exact nbl rfl | decide)⟩);
  .rn 0 [67] [] [(35, hK c0 [2] [])] [] (aj a1 (al (u2 (aj (ak (k3 (al (c0)))) (al (k2 (show Nat.le 1 [AV.agg [AV.lst (List.map bA v2.bs), AV.lst (List.map lI v2.nx), AV.lst (List.map sA v2.ss), AV.lst (List.map (iv) v2.rs), iv v2.q, iv v2.a, iv v2.d, iv v2.p]].length from (nbl rfl)))))))) <|
  .gu fun a3 =>
  .gu fun a4 =>
  .gu fun a5 =>
  have c1 := cells_ct a3;
  have c2 := shut_ct (ls) (looK ls v5 8) (celN (looM ls v5 8)) a4 a5;
  .rn 0 [] [] [(38, hK c1 [] []), (39, hK c2 [2] [])] [] (al (u2 (u2 (aj (ak (aj t9 (al (c1)))) (aj (k5 (al (c2))) s2))))) <|
  .gu fun a6 =>
  .gu fun a7 =>
  have c3 := next_ct (ls) (shuK ls (looK ls v5 8) (celN (looM ls v5 8))) (IntKind.i64.wrap (iN (List.map bA (looM ls v5 8).bs).length + 2)) a6;
  have c4 := next_ct (ls) (shuK ls (looK ls v5 8) (celN (looM ls v5 8)) + 1) (11) a7;
  .rn 0 [] [] [(45, hK c3 [2] []), (48, hK c4 [2] [])] [] (al (u2 (u2 (u2 (u2 (u2 (aj (k5 (al (c3))) (u2 (u2 (aj (ak (k3 (al (c4)))) (u2 (aj t3 (al (k2 (show Nat.le 1 [AV.agg [iv v3, iv v4]].length from (nbl rfl)))))))))))))))) <|
  .gu fun a8 =>
  have c5 := slo_c (shuL ls (looK ls v5 8) (celN (looM ls v5 8))) a8;
  have c6 := rso_c (shuL ls (looK ls v5 8) (celN (looM ls v5 8))) a8;
  have c7 := car_c (shuL ls (looK ls v5 8) (celN (looM ls v5 8))) (IntKind.i64.wrap (nextZ ls (shuK ls (looK ls v5 8) (celN (looM ls v5 8)) + 1) 11 - 1)) a8;
  have c8 := rco_c (shuL ls (looK ls v5 8) (celN (looM ls v5 8))) (IntKind.i64.wrap (nextZ ls (shuK ls (looK ls v5 8) (celN (looM ls v5 8)) + 1) 11 - 1)) a8;
  have c9 := all_c (shuL ls (looK ls v5 8) (celN (looM ls v5 8))) (IntKind.i64.wrap (nextZ ls (shuK ls (looK ls v5 8) (celN (looM ls v5 8))) (IntKind.i64.wrap (iN (List.map bA (looM ls v5 8).bs).length + 2)) - 1)) (IntKind.i64.wrap (nextZ ls (shuK ls (looK ls v5 8) (celN (looM ls v5 8)) + 1) 11 - 1)) a8;
  have c10 := rao_c (shuL ls (looK ls v5 8) (celN (looM ls v5 8))) (IntKind.i64.wrap (nextZ ls (shuK ls (looK ls v5 8) (celN (looM ls v5 8))) (IntKind.i64.wrap (iN (List.map bA (looM ls v5 8).bs).length + 2)) - 1)) (IntKind.i64.wrap (nextZ ls (shuK ls (looK ls v5 8) (celN (looM ls v5 8)) + 1) 11 - 1)) a8;
  .rn 5 [] [] [(54, hK c5 [] []), (60, hK c6 [] []), (68, hK c7 [] []), (76, hK c8 [] []), (86, hK c9 [] []), (96, hK c10 [] [])] [] (aj (u2 (u2 (aj (k2 (aj t9 (ak (al (c5))))) (u2 (u2 (u2 (u2 s2))))))) (aj (u2 (u2 (aj (k2 (aj t9 (ak (al (c6))))) (u2 (u2 (u2 (u2 s2))))))) (aj (u2 (u2 (aj (ak (aj (show (0 : Int) ≤ (1 : Int) from (by first | exact nbl rfl | decide)) (show (1 : Int) < (2 : Int) from (by first | exact nbl rfl | decide)))) (u2 (aj (k3 (aj t9 (k2 (al (c7))))) (u2 (u2 (u2 (u2 s2))))))))) (aj (u2 (u2 (aj (ak (aj (show (0 : Int) ≤ (1 : Int) from (by first | exact nbl rfl | decide)) (show (1 : Int) < (2 : Int) from (by first | exact nbl rfl | decide)))) (u2 (aj (k3 (aj t9 (k2 (al (c8))))) (u2 (u2 (u2 (u2 s2))))))))) (aj (u2 (u2 (aj (ak (aj (show (0 : Int) ≤ (0 : Int) from (by first | exact nbl rfl | decide)) (show (0 : Int) < (2 : Int) from (by first | exact nbl rfl | decide)))) (u2 (aj (ak (aj (show (0 : Int) ≤ (1 : Int) from (by first | exact nbl rfl | decide)) (show (1 : Int) < (2 : Int) from (by first | exact nbl rfl | decide)))) (u2 (aj (ak (k3 (aj t9 (k3 (al (c9)))))) (u2 (u2 (u2 (u2 s2))))))))))) (al (u2 (u2 (aj (ak (aj (show (0 : Int) ≤ (0 : Int) from (by first | exact nbl rfl | decide)) (show (0 : Int) < (2 : Int) from (by first | exact nbl rfl | decide)))) (u2 (aj (ak (aj (show (0 : Int) ≤ (1 : Int) from (by first | exact nbl rfl | decide)) (show (1 : Int) < (2 : Int) from (by first | exact nbl rfl | decide)))) (u2 (aj (ak (k3 (aj t9 (k3 (al (c10)))))) (u2 (u2 (u2 (u2 s2))))))))))))))))) <|
  .br (fun a9 =>
  .rt [205] [] [] [] [] [] (aj (aj (u2 (u2 (aj t3 (u2 (aj a9 (aj a9 (aj a9 (ag a9 (u2 (k3 (aj t3 (u2 (k3 (aj t3 (u2 (k3 (aj t3 (u2 (k3 (al t3)))))))))))))))))))) (ak s2)) t2))
  (fun a9 =>
  .br (fun a10 =>
   .rt [204, 215] [] [] [] [] [] (aj (aj (u2 (u2 (aj t3 (u2 (ag a9 (ag a9 (aj (aj a9 t3) (ag a9 (u2 (aj a10 (aj a10 (aj a10 (ag a10 (u2 (k3 (aj t3 (u2 (k3 (aj t3 (u2 (k3 (al t3)))))))))))))))))))))) (ak s2)) t2))
  (fun a10 =>
   .br (fun a11 =>
   .rt [204, 214, 225] [] [] [] [] [] (aj (aj (u2 (u2 (aj t3 (u2 (ag a9 (ag a9 (aj (aj a9 t3) (ag a9 (u2 (ag a10 (ag a10 (aj (aj a10 t3) (ag a10 (u2 (aj a11 (aj a11 (aj a11 (ag a11 (u2 (k3 (aj t3 (u2 (k3 (al t3)))))))))))))))))))))))) (ak s2)) t2))
   (fun a11 =>
   .br (fun a12 =>
    .rt [204, 214, 224, 235] [] [] [] [] [] (aj (aj (u2 (u2 (aj t3 (u2 (ag a9 (ag a9 (aj (aj a9 t3) (ag a9 (u2 (ag a10 (ag a10 (aj (aj a10 t3) (ag a10 (u2 (ag a11 (ag a11 (aj (aj a11 t3) (ag a11 (u2 (aj a12 (aj a12 (aj a12 (ag a12 (u2 (k3 (al t3)))))))))))))))))))))))))) (ak s2)) t2))
   (fun a12 =>
    .br (fun a13 =>
    .rt [204, 214, 224, 234, 245] [] [] [] [] [] (aj (aj (u2 (u2 (aj t3 (u2 (ag a9 (ag a9 (aj (aj a9 t3) (ag a9 (u2 (ag a10 (ag a10 (aj (aj a10 t3) (ag a10 (u2 (ag a11 (ag a11 (aj (aj a11 t3) (ag a11 (u2 (ag a12 (ag a12 (aj (aj a12 t3) (ag a12 (u2 (aj a13 (aj a13 (aj a13 (al (aj a13 t2))))))))))))))))))))))))))))) (ak s2)) t2))
    (fun a13 =>
    .rn 0 [204, 214, 224, 234, 244] [] [] [] (al (u2 (u2 (aj t3 (u2 (ag a9 (ag a9 (aj (aj a9 t3) (ag a9 (u2 (ag a10 (ag a10 (aj (aj a10 t3) (ag a10 (u2 (ag a11 (ag a11 (aj (aj a11 t3) (ag a11 (u2 (ag a12 (ag a12 (aj (aj a12 t3) (ag a12 (u2 (ag a13 (ag a13 (aj (aj a13 t3) (al (aj a13 t2)))))))))))))))))))))))))))))) <|
    .br (fun a14 =>
     .rt [204, 214, 224, 234, 244, 253] [] [] [] [] [] (aj (aj a14 s2) t2))
    (fun a14 =>
     .lp [204, 214, 224, 234, 244, 252] [] [] [] [] [0, 1, 2] [1, 4, 6, 9, 10] (aj (aj a14 (al (u2 (u2 s2)))) t9))))))))
 (fun a1 =>
  .gu fun a2 =>
  have c0 := slo_c v0 a2;
  have c1 := rso_c v0 a2;
  have c2 := car_c v0 v4 a2;
  have c3 := rco_c v0 v4 a2;
  have c4 := all_c v0 v3 v4 a2;
  have c5 := rao_c v0 v3 v4 a2;
  .rn 5 [66] [] [(54, hK c0 [] []), (60, hK c1 [] []), (68, hK c2 [] []), (76, hK c3 [] []), (86, hK c4 [] []), (96, hK c5 [] [])] [] (aj a1 (aj (u2 (u2 (aj (k2 (aj t9 (ak (al (c0))))) (u2 (u2 (u2 (u2 s2))))))) (aj (u2 (u2 (aj (k2 (aj t9 (ak (al (c1))))) (u2 (u2 (u2 (u2 s2))))))) (aj (u2 (u2 (aj (ak (aj (show (0 : Int) ≤ (1 : Int) from (by first | exact nbl rfl | decide)) (show (1 : Int) < (2 : Int) from (by first | exact nbl rfl | decide)))) (u2 (aj (k3 (aj t9 (k2 (al (c2))))) (u2 (u2 (u2 (u2 s2))))))))) (aj (u2 (u2 (aj (ak (aj (show (0 : Int) ≤ (1 : Int) from (by first | exact nbl rfl | decide)) (show (1 : Int) < (2 : Int) from (by first | exact nbl rfl | decide)))) (u2 (aj (k3 (aj t9 (k2 (al (c3))))) (u2 (u2 (u2 (u2 s2))))))))) (aj (u2 (u2 (aj (ak (aj (show (0 : Int) ≤ (0 : Int) from (by first | exact nbl rfl | decide)) (show (0 : Int) < (2 : Int) from (by first | exact nbl rfl | decide)))) (u2 (aj (ak (aj (show (0 : Int) ≤ (1 : Int) from (by first | exact nbl rfl | decide)) (show (1 : Int) < (2 : Int) from (by first | exact nbl rfl | decide)))) (u2 (aj (ak (k3 (aj t9 (k3 (al (c4)))))) (u2 (u2 (u2 (u2 s2))))))))))) (al (u2 (u2 (aj (ak (aj (show (0 : Int) ≤ (0 : Int) from (by first | exact nbl rfl | decide)) (show (0 : Int) < (2 : Int) from (by first | exact nbl rfl | decide)))) (u2 (aj (ak (aj (show (0 : Int) ≤ (1 : Int) from (by first | exact nbl rfl | decide)) (show (1 : Int) < (2 : Int) from (by first | exact nbl rfl | decide)))) (u2 (aj (ak (k3 (aj t9 (k3 (al (c5)))))) (u2 (u2 (u2 (u2 s2)))))))))))))))))) <|
  .br (fun a3 =>
  .rt [205] [] [] [] [] [] (aj (aj (u2 (u2 (aj t3 (u2 (aj a3 (aj a3 (aj a3 (ag a3 (u2 (k3 (aj t3 (u2 (k3 (aj t3 (u2 (k3 (aj t3 (u2 (k3 (al t3)))))))))))))))))))) (ak s2)) t2))
  (fun a3 =>
  .br (fun a4 =>
   .rt [204, 215] [] [] [] [] [] (aj (aj (u2 (u2 (aj t3 (u2 (ag a3 (ag a3 (aj (aj a3 t3) (ag a3 (u2 (aj a4 (aj a4 (aj a4 (ag a4 (u2 (k3 (aj t3 (u2 (k3 (aj t3 (u2 (k3 (al t3)))))))))))))))))))))) (ak s2)) t2))
  (fun a4 =>
   .br (fun a5 =>
   .rt [204, 214, 225] [] [] [] [] [] (aj (aj (u2 (u2 (aj t3 (u2 (ag a3 (ag a3 (aj (aj a3 t3) (ag a3 (u2 (ag a4 (ag a4 (aj (aj a4 t3) (ag a4 (u2 (aj a5 (aj a5 (aj a5 (ag a5 (u2 (k3 (aj t3 (u2 (k3 (al t3)))))))))))))))))))))))) (ak s2)) t2))
   (fun a5 =>
   .br (fun a6 =>
    .rt [204, 214, 224, 235] [] [] [] [] [] (aj (aj (u2 (u2 (aj t3 (u2 (ag a3 (ag a3 (aj (aj a3 t3) (ag a3 (u2 (ag a4 (ag a4 (aj (aj a4 t3) (ag a4 (u2 (ag a5 (ag a5 (aj (aj a5 t3) (ag a5 (u2 (aj a6 (aj a6 (aj a6 (ag a6 (u2 (k3 (al t3)))))))))))))))))))))))))) (ak s2)) t2))
   (fun a6 =>
    .br (fun a7 =>
    .rt [204, 214, 224, 234, 245] [] [] [] [] [] (aj (aj (u2 (u2 (aj t3 (u2 (ag a3 (ag a3 (aj (aj a3 t3) (ag a3 (u2 (ag a4 (ag a4 (aj (aj a4 t3) (ag a4 (u2 (ag a5 (ag a5 (aj (aj a5 t3) (ag a5 (u2 (ag a6 (ag a6 (aj (aj a6 t3) (ag a6 (u2 (aj a7 (aj a7 (aj a7 (al (aj a7 t2))))))))))))))))))))))))))))) (ak s2)) t2))
    (fun a7 =>
    .rn 0 [204, 214, 224, 234, 244] [] [] [] (al (u2 (u2 (aj t3 (u2 (ag a3 (ag a3 (aj (aj a3 t3) (ag a3 (u2 (ag a4 (ag a4 (aj (aj a4 t3) (ag a4 (u2 (ag a5 (ag a5 (aj (aj a5 t3) (ag a5 (u2 (ag a6 (ag a6 (aj (aj a6 t3) (ag a6 (u2 (ag a7 (ag a7 (aj (aj a7 t3) (al (aj a7 t2)))))))))))))))))))))))))))))) <|
    .br (fun a8 =>
     .rt [204, 214, 224, 234, 244, 253] [] [] [] [] [] (aj (aj a8 s2) t2))
    (fun a8 =>
     .lp [204, 214, 224, 234, 244, 252] [] [] [] [] [0, 1, 2] [1, 4, 6, 9, 10] (aj (aj a8 (al (u2 (u2 s2)))) t9)))))))))
 (fun a0 =>
 .rt [58] [] [] [] [] [] (aj (aj a0 s2) t2))) (by kernel_rfl)
theorem clT_ct (n : NetD) (sh : List Bool) (p q : Int) (ls : List Int) (r : Ret) (h : MReach (clTStep n sh p q ls) (clTEn n sh p q ls) r) : CT Try.prog 6 ([]) ([netA n, .lst (boL sh), .agg [.int .i64 p, .int .i64 q], lI ls]) r.1 r.2 :=
  CT.mach (fn := Try.f6) (c := bodyOf Try.f6) (S := clTSt n sh p q ls) (hd := clTHd) Try.func6 (by kernel_rfl) (nbl rfl)
    (fun s o ho => match s, ho with
      | .l0 v0 v1 v2 v3 v4 v5, ho => clTS0_ok n sh p q ls v0 v1 v2 v3 v4 v5 o ho
    )
    (fun o ho => clTEn_ok n sh p q ls o ho) h
theorem nbB (b : Bool) : (!b == b) = false := by cases b <;> rfl
theorem clT_leaf {σ : Type} {n : NetD} (hrw : Rows n.nx) (sh : List Bool) (p q : Int) {F Y : Option σ} :
 gu (Rows n.nx) (br (slZ n sh != slZ n sh) F (br (chE n sh 0 != chE n sh 0) F (br (!caO n sh q == caO n sh q) F (br (chE n sh q != chE n sh q) F (br (!alO n sh p q == alO n sh p q) F (br (alE n sh p q != alE n sh p q) F Y)))))) = Y := by
  rw [gu_t hrw, br_f (bne_self_eq_false _), br_f (bne_self_eq_false _), br_f (nbB _), br_f (bne_self_eq_false _), br_f (nbB _), br_f (bne_self_eq_false _)]
theorem clT_run {n : NetD} (hrw : Rows n.nx) (sh : List Bool) (p q : Int) (ls : List Int) : CT Try.prog 6 [] [netA n, .lst (boL sh), .agg [.int .i64 p, .int .i64 q], lI ls] [] (.bool true) := by
  refine clT_ct n sh p q ls ([], .bool true) ?_
  have hs := loo_spec (L := ls) (kk := 0) (most := 8) (by omega) (by omega)
  have hce := hs.1.v.cel
  have hsh := shu_spec (L := ls) (kk := looK ls 0 8) (c := celN (looM ls 0 8)) (by omega) (by omega)
  have fin : ∀ z0 z2 z3 z4 z5, MReach (clTStep n sh p q ls) (some (.inl (.l0 z0 (IntKind.i64.wrap (1 + 1)) z2 z3 z4 z5))) (([], .bool true) : Ret) := fun z0 z2 z3 z4 z5 => by
    refine .to (show clTS0 n sh p q ls z0 _ z2 z3 z4 z5 = _ from ?_) (.ret _)
    unfold clTS0
    rw [br_f (by rfl)]
  unfold clTEn
  refine .to (show clTS0 n sh p q ls sh 0 n p q 0 = some (.inl (.l0 sh 1 n p q 0)) from ?_) (.to (show clTS0 n sh p q ls sh 1 n p q 0 = _ from rfl) ?_)
  · unfold clTS0
    rw [br_t (by rfl), br_f (by rfl), clT_leaf hrw sh p q]
    rfl
  · unfold clTS0
    rw [br_t (by rfl), br_t (by rfl), gu_t (by omega), gu_t hs.1.v, gu_t (by omega), gu_t (by omega), gu_t (by omega), gu_t (by omega), clT_leaf hs.1.rows]
    exact fin _ _ _ _ _
theorem closureTests_row (avs : List AV) (h : ShVs Try.prog 6 Try.f6.params.toList avs) : CT Try.prog 6 [] avs [] (.bool true) := by
  rw [Try.params6] at h
  obtain ⟨a, _, rfl, ka, h⟩ := h.consD
  obtain ⟨b, _, rfl, kb, h⟩ := h.consD
  obtain ⟨c, _, rfl, kc, h⟩ := h.consD
  obtain ⟨d, _, rfl, kd, h⟩ := h.consD
  obtain rfl := h.nilD
  obtain ⟨n, rfl, hrw⟩ := rdNet33 ka
  obtain ⟨_, _, hb, rfl⟩ := kb.sliceD Try.underlying56
  obtain ⟨u, rfl⟩ := rdBools hb
  obtain ⟨_, hd, rfl⟩ := kc.arrayD Try.underlying57
  obtain ⟨_, _, rfl, g1, hd⟩ := hd.consD
  obtain ⟨_, _, rfl, g2, hd⟩ := hd.consD
  obtain rfl := hd.nilD
  obtain ⟨x, _, rfl⟩ := g1.intD Try.underlying3
  obtain ⟨y, _, rfl⟩ := g2.intD Try.underlying3
  obtain ⟨_, _, he, rfl⟩ := kd.sliceD Try.underlying22
  obtain ⟨l, rfl⟩ := rdInts he
  exact clT_run hrw u x y l
end Go.Proofs.Ytlogjpmajgbgaaa

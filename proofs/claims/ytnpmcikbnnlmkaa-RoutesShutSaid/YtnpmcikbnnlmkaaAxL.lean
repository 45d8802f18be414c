import Derived.Test.YtnpmcikbnnlmkaaAxK
/-! copy, equality, parts, conversions, function values, smaller and greater. -/
namespace Go.AX
variable {φ : Phi} {A : Nat → Prop} {w : World} {P : Program}

theorem drop_split (l : List Value) (p q : Nat) (h : p ≤ q) : l.drop p = (l.take q).drop p ++ l.drop q := by
  have : l.drop q = (l.drop p).drop (q - p) := by rw [List.drop_drop]; congr 1; omega
  rw [List.drop_take, this, List.take_append_drop]

theorem ok_copy {o : Oper} {ev : Operand → AV} {h : Hp} {nb : Nat} {t t' : TypeId} {x y : Operand} {b i n z by_ : Nat} {blk : Blk} {src : List AV} {e : AV}
    (ho : o.op = .call { callee := .builtin .copy, args := #[x, y], argTypes := #[t, t'] }) (ht : zeroEl P t = some (e, z, by_))
    (hx : ev x = .sl b i n) (hb : h b = some blk) (hz : blk.z = z) (hw : blk.wr = true) (hin : i + n ≤ blk.es.length) (hy : srcOf h (ev y) = some src) (hf : SrcFit h z (ev y)) :
    OpOK P o ev h nb { v := .int .i64 (min src.length n : Nat), chg := [(b, { blk with es := blk.es.take i ++ src.take (min src.length n) ++ blk.es.drop (i + min src.length n), flat := blk.flat && srcFlat h (ev y) })] } := by
  intro φ A w ac K Q hA hv hh hn k
  obtain ⟨el, inf, zv, hu, hi, hzz, rfl, hsz, hby, hkn, hzl, hone, hpos⟩ := zeroEl_spec ht
  obtain ⟨ao, c, news, hvy, hrow, hao, hnews⟩ := Src.of hh hy hf (hv y) hpos
  generalize hm : min src.length n = m at *
  have hms : m ≤ src.length := by omega
  have hmn : m ≤ n := by omega
  have h0 := hv x; rw [hx] at h0
  have hsub := hrow.sub 0 m (by omega)
  simp only [Nat.zero_mul, List.drop_zero] at hsub
  have hvl : (news.take (m * z)).length = m * z := by
    have := hsub.len; rw [this]; simp; rw [Nat.min_eq_left hms]
  have hfirst : (Builtin.firstCells inf.size m (.slice ao src.length c)).run P w = .ok (news.take (m * z)).toArray w := by
    cases ao with
    | none =>
      have : m = 0 := by have := (hao rfl).1; subst this; simpa using hms
      subst this
      simp [Builtin.firstCells]
    | some ad =>
      refine run_firstCells_some (P := P) w inf.size m ad src.length c _ (by rw [hvl, hsz]) fun j u hj => hnews ad rfl j u ?_
      rw [List.getElem?_take] at hj; split at hj
      · exact hj
      · cases hj
  have exec : ∀ (a : Option Addr) (cap : Nat) (w' : World), ac.eval x = .slice a n cap → ((∀ ad, a = some ad → (storeCells ad (news.take (m * z))).run P w = .ok () w') ∧ (a = none → w' = w)) →
      (execOp ac.eval o).run P w = .ok (.value (.int .i64 (m : Nat))) w' := by
    intro a cap w' ha hst
    generalize ac.eval = ρ at *
    have hmin : Nat.min src.length n = m := hm
    cases a with
    | none =>
      have := hst.2 rfl; subst this
      simp [execOp, ho, resolve, invoke, builtin, Builtin.copy_, run_underlying hu, ha, hvy, Builtin.lenOf, sizeOf, typeInfo, hi, hmin, hfirst, goInt]
    | some ad =>
      have := hst.1 ad rfl
      simp [execOp, ho, resolve, invoke, builtin, Builtin.copy_, run_underlying hu, ha, hvy, Builtin.lenOf, sizeOf, typeInfo, hi, hmin, hfirst, this, goInt]
  have hsf := srcFlat_spec hh hy (hv y)
  have hfl : (blk.flat && srcFlat h (ev y)) = true → Noref (blk.es.take i ++ src.take m ++ blk.es.drop (i + m)) := by
    intro hf e' he'
    simp only [Bool.and_eq_true] at hf
    rcases List.mem_append.1 he' with hm' | hm'
    · rcases List.mem_append.1 hm' with hm' | hm'
      · exact hh.flat b blk hb hf.1 e' (List.mem_of_mem_take hm')
      · exact hsf hf.2 e' (List.mem_of_mem_take hm')
    · exact hh.flat b blk hb hf.1 e' (List.mem_of_mem_drop hm')
  have same : m = 0 → blk.es.take i ++ src.take m ++ blk.es.drop (i + m) = blk.es := by intro h; subst h; simp
  unfold Oper.wp
  rcases h0.sl_inv with ⟨hn0, a, he⟩ | ⟨r, z', cap, hφ, hnc, hrw, he⟩
  · have hm0 : m = 0 := by omega
    rw [exec a 0 w (by rw [he, hn0]) ⟨fun ad _ => by rw [hm0]; simp [storeCells], fun _ => rfl⟩]
    refine k _ w φ ⟨Keep.refl _ w, fun _ _ => rfl, fun b' hb' => hn b' (by simpa using hb'), fun b' r' z' hb' h1 => ?_, fun b1 b2 r' z1 z2 hb1 hb2 h1 h2 => ?_, .imm _ _ (.int _ _), fun b' blk' hmm => by simp only [List.mem_singleton, Prod.mk.injEq] at hmm; obtain ⟨_, rfl⟩ := hmm; exact hfl, fun blk' hmm => by simp at hmm, fun b' blk' hmm => ?_, fun k' blk' hk => by simp at hk⟩
    · rw [hn b' hb'] at h1; cases h1
    · rw [hn b1 hb1] at h1; cases h1
    · simp only [List.mem_singleton, Prod.mk.injEq] at hmm
      obtain ⟨rfl, rfl⟩ := hmm
      rw [same hm0]
      rcases hh.blk b' blk hb with hl | ⟨r, cs, T, h1, h2, h3, h4⟩
      · exact .inl hl
      · refine .inr ⟨r, cs, T, h1, h2, h3, fun i e he => ?_⟩
        obtain ⟨g1, g2⟩ := h4 i e he
        refine ⟨g1, fun j c hj => ?_⟩
        obtain ⟨g3, u, g4, g5⟩ := g2 j c hj
        exact ⟨g3, u, g4, g5.mono (fun _ _ h => h) (fun _ h => .inl h) (fun _ _ => rfl) (fun _ => Nat.le_refl _)⟩
  · obtain ⟨hz2, cs, T, hr, hsz', hrow'⟩ := hh.row hb hφ
    have hz3 : z' = z := by omega
    subst hz3
    have hle : (i + m) * z' ≤ blk.es.length * z' := Nat.mul_le_mul_right z' (by omega)
    have hle' := hle
    rw [Nat.add_mul] at hle'
    have hones : ∀ u ∈ news.take (m * z'), u.oneCell' = true := hsub.one hpos
    have hst := run_storeCells_at P r (i * z') T (news.take (m * z')) 0 cs w hr (by rw [hvl]; omega) hones
    simp only [Nat.add_zero] at hst
    rw [exec _ cap _ he ⟨fun ad had => by cases had; exact hst, fun h => by cases h⟩]
    have hlenU : (cs.toList.take (blk.es.length * z')).length = blk.es.length * z' := by simp; omega
    have h1 := hrow'.sub 0 i (by omega)
    have h2 := hrow'.sub (i + m) (blk.es.length - (i + m)) (by omega)
    simp only [Nat.zero_mul, List.drop_zero] at h1
    have htk : (blk.es.drop (i + m)).take (blk.es.length - (i + m)) = blk.es.drop (i + m) := List.take_of_length_le (by simp)
    rw [htk] at h2
    have hall := (h1.append hsub).append h2
    have hcs : cs.toList.take (i * z') ++ news.take (m * z') ++ cs.toList.drop (i * z' + (news.take (m * z')).length) =
        ((cs.toList.take (blk.es.length * z')).take (i * z') ++ news.take (m * z') ++ ((cs.toList.take (blk.es.length * z')).drop ((i + m) * z')).take ((blk.es.length - (i + m)) * z')) ++ cs.toList.drop (blk.es.length * z') := by
      rw [hvl, ← Nat.add_mul]
      have e1 : (cs.toList.take (blk.es.length * z')).take (i * z') = cs.toList.take (i * z') := by rw [List.take_take]; congr 1; omega
      have e2 : ((cs.toList.take (blk.es.length * z')).drop ((i + m) * z')).take ((blk.es.length - (i + m)) * z') = (cs.toList.take (blk.es.length * z')).drop ((i + m) * z') := by
        apply List.take_of_length_le; rw [List.length_drop, hlenU, Nat.sub_mul]; exact Nat.le_refl _
      rw [e1, e2]
      have e3 := drop_split cs.toList ((i + m) * z') (blk.es.length * z') hle
      rw [e3]; simp only [List.append_assoc]
    refine k _ _ φ (Eff.write (blk' := { blk with es := blk.es.take i ++ src.take m ++ blk.es.drop (i + m), flat := blk.flat && srcFlat h (ev y) }) hA hn hb hw hφ hz hr ?_ (.imm _ _ (.int _ _)) hfl ?_ fun q e he => ?_)
    · simp only [List.size_toArray, List.length_append, List.length_take, List.length_drop, Array.length_toList] at hvl ⊢; rw [hvl]; omega
    · simp only [List.length_append, List.length_take, List.length_drop, List.size_toArray, Array.length_toList] at hvl ⊢
      rw [hvl]
      have : (min i blk.es.length + min m src.length + (blk.es.length - (i + m))) = blk.es.length := by omega
      rw [this]; omega
    · obtain ⟨g1, g2⟩ := hall.cell q e he
      refine ⟨g1, fun j c hj => ?_⟩
      obtain ⟨g3, u, g4, g5⟩ := g2 j c hj
      refine ⟨g3, u, ?_, g5⟩
      rw [hcs, List.getElem?_toArray, List.getElem?_append_left (List.getElem?_eq_some_iff.1 g4).1]
      exact g4

end Go.AX

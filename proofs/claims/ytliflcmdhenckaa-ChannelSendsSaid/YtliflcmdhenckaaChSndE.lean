import Derived.Test.YtliflcmdhenckaaChSndp
import Derived.Test.YtliflcmdhenckaaAxRd
import Derived.KernelRfl
/-! ChannelSends' contract. -/
open Go Go.AX Go.Proofs
set_option maxRecDepth 100000
set_option maxHeartbeats 1000000
set_option linter.unusedVariables false
set_option linter.unusedSimpArgs false
namespace Go.Proofs.Ytliflcmdhenckaa
theorem sendZ_len (c : List Fr) (x : Fr) : (sendZ c x).length ≤ 6 := by
  unfold sendZ
  split
  · simp
  · split
    · simp; omega
    · omega
theorem delZ_len (c : List Fr) (i : Int) : (delZ c i).2.1.length ≤ 6 := by
  unfold delZ
  split
  · rename_i h
    have := hasZ_true h
    simp; omega
  · simp
theorem dblZ_len (c : List Fr) (i : Int) : (dblZ c i).1.length ≤ 6 := by
  unfold dblZ
  split
  · exact sendZ_len _ _
  · simp

noncomputable def ix7 (L : List Int) (k : Nat) (raw : List Fr) (i : Int) (f : Fr) (kk : Nat) : Q7 :=
  ⟨L, raw, i, f, kk, k, 0, 0, [], 0, fr0, 0, (delZ raw i).1, (delZ raw i).2.1, (delZ raw i).2.2, sendZ raw f, (dblZ raw i).1, (dblZ raw i).2⟩

theorem sends_ct (L : List Int) (raw : List Fr) (i : Int) (f : Fr) : CT Try.prog 7 [] [.lst (frL raw), frA f, .int .i64 i, lstI L] [] (.bool true) := by
  have hb : Try.f7.body = some (bodyOf Try.f7) := by kernel_rfl
  refine CT.path mix Try.func7 hb (Nat.le_of_ble_eq_true rfl) (snd_0 (ix7 L 0 raw i f 0) known_ct ?_)
  refine T.loop (fun q : Nat × List Fr × Int × Fr × Nat => lo7 (ix7 L q.1 q.2.1 q.2.2.1 q.2.2.2.1 q.2.2.2.2)) (fun q => q.1 ≤ 2 ∧ q.2.2.2.2 ≤ 1000 * q.1) (fun q => 3 - q.1) (0, raw, i, f, 0) ⟨by simp, by simp⟩ ?_
  rintro ⟨k, raw, i, f, kk⟩ ⟨hk, hkk⟩
  simp only at hk hkk
  match k, hk with
  | 0, _ =>
    refine T.path mix (sndr_1 (ix7 L 0 raw i f kk) (by simp [ix7]) (by simp [ix7]) (del_ct raw i) (rdel_ct raw i) (send_ct raw f) (rsend_ct raw f) (same_ct _ (Nat.le_trans (sendZ_len _ _) (by omega))) (by simp) (by simp) (same_ct _ (Nat.le_trans (delZ_len _ _) (by omega)))
      (lose_ct raw i) (rlose_ct raw i) (dbl_ct raw i) (rdbl_ct raw i) (by simp) (same_ct _ (Nat.le_trans (dblZ_len _ _) (by omega))) ?_)
    intro st hst
    exact ⟨(1, raw, i, f, kk), hst, ⟨by simp, by simp only; omega⟩, by simp⟩
  | 1, _ =>
    have r1 := nextZ_rng L kk 8 (by omega) (by omega)
    obtain ⟨n, hn⟩ : ∃ n : Nat, nextZ L kk 8 = (n : Int) := ⟨(nextZ L kk 8).toNat, by omega⟩
    have c1 := next_ct L kk 8 (by omega)
    rw [hn] at c1 r1
    have c2 := frames_ct L (kk + 1) n (by omega) (by omega)
    have b2 := frsX_le L (kk + 1) n (by omega)
    generalize (frsX L (kk + 1) n).2 = m1 at c2 b2
    generalize (frsX L (kk + 1) n).1 = c at c2
    obtain ⟨b3, c3⟩ := frmX_ct L m1 (by omega)
    generalize (frmX L m1).2 = m2 at b3 c3
    generalize (frmX L m1).1 = y at c3
    have c4 := next_ct L m2 8 (by omega)
    generalize nextZ L m2 8 = v2 at c4
    generalize hi : IntKind.i64.wrap (v2 - 1) = i' 
    refine T.path mix (sndr_0 ⟨L, raw, i, f, kk, (1 : Nat), n, m1, c, m2, y, v2, (delZ c i').1, (delZ c i').2.1, (delZ c i').2.2, sendZ c y, (dblZ c i').1, (dblZ c i').2⟩ (by simp) (by simp) c1 c2 c3 c4 (by rw [hi]; exact del_ct c i') (by rw [hi]; exact rdel_ct c i') (send_ct c y) (rsend_ct c y) (same_ct _ (Nat.le_trans (sendZ_len _ _) (by omega))) (by simp) (by simp) (same_ct _ (Nat.le_trans (delZ_len _ _) (by omega)))
      (by rw [hi]; exact lose_ct c i') (by rw [hi]; exact rlose_ct c i') (by rw [hi]; exact dbl_ct c i') (by rw [hi]; exact rdbl_ct c i') (by simp) (same_ct _ (Nat.le_trans (dblZ_len _ _) (by omega))) ?_)
    intro st hst
    rw [hi] at hst
    exact ⟨(2, c, i', y, m2 + 1), hst, ⟨by simp, by simp only; omega⟩, by simp⟩
  | 2, _ => exact T.out mix (sndx_0 (ix7 L 2 raw i f kk) (by simp [ix7]))

theorem frame_of {n : Nat} {p : List AV} (h : Sh Try.prog (n + 1) 33 p) : ∃ f : Fr, .agg p = frA f := by
  obtain ⟨_, hs, rfl⟩ := h.structD Try.underlying33
  obtain ⟨_, _, rfl, g1, hs⟩ := hs.consD
  obtain ⟨_, _, rfl, g2, hs⟩ := hs.consD
  obtain ⟨_, _, rfl, g3, hs⟩ := hs.consD
  obtain ⟨_, _, rfl, g4, hs⟩ := hs.consD
  obtain ⟨_, _, rfl, g5, hs⟩ := hs.consD
  obtain rfl := hs.nilD
  obtain ⟨a, _, rfl⟩ := g1.intD Try.underlying3
  obtain ⟨b, _, rfl⟩ := g2.intD Try.underlying3
  obtain ⟨c, _, rfl⟩ := g3.intD Try.underlying31
  obtain ⟨d, _, rfl⟩ := g4.intD Try.underlying3
  obtain ⟨e, _, rfl⟩ := g5.intD Try.underlying3
  exact ⟨⟨a, b, c, d, e⟩, rfl⟩

theorem frameV {n : Nat} {a : AV} (h : ShV Try.prog (n + 1) 33 a) : ∃ f : Fr, a = frA f := by
  obtain ⟨ys, hs, rfl⟩ := h.agD (by unfold isAg; rw [Try.underlying33])
  exact frame_of hs

theorem framesV {n : Nat} {es : List AV} (h : ∀ x ∈ es, ShV Try.prog (n + 1) 33 x) : ∃ c : List Fr, es = frL c := by
  induction es with
  | nil => exact ⟨[], rfl⟩
  | cons x es ih =>
    obtain ⟨L, rfl⟩ := ih fun y hy => h y (List.mem_cons_of_mem _ hy)
    obtain ⟨f, rfl⟩ := frameV (h x (by simp))
    exact ⟨f :: L, rfl⟩

theorem intsV {n : Nat} {es : List AV} (h : ∀ x ∈ es, ShV Try.prog n 3 x) : ∃ L : List Int, es = L.map (AV.int .i64) := by
  induction es with
  | nil => exact ⟨[], rfl⟩
  | cons x es ih =>
    obtain ⟨L, rfl⟩ := ih fun y hy => h y (List.mem_cons_of_mem _ hy)
    obtain ⟨i, _, rfl⟩ := (h x (by simp)).intD Try.underlying3
    exact ⟨i :: L, rfl⟩

theorem channelSends_row (avs : List AV) (h : ShVs Try.prog 4 Try.f7.params.toList avs) : CT Try.prog 7 [] avs [] (.bool true) := by
  rw [Try.params7] at h
  obtain ⟨a, _, rfl, ka, h⟩ := h.consD
  obtain ⟨b, _, rfl, kb, h⟩ := h.consD
  obtain ⟨c, _, rfl, kc, h⟩ := h.consD
  obtain ⟨d, _, rfl, kd, h⟩ := h.consD
  obtain rfl := h.nilD
  obtain ⟨es, _, he, rfl⟩ := ka.sliceD Try.underlying27
  obtain ⟨raw, rfl⟩ := framesV he
  obtain ⟨f, rfl⟩ := frameV kb
  obtain ⟨i, _, rfl⟩ := kc.intD Try.underlying3
  obtain ⟨ls, _, hl, rfl⟩ := kd.sliceD Try.underlying22
  obtain ⟨L, rfl⟩ := intsV hl
  exact sends_ct L raw i f
#print axioms channelSends_row
end Go.Proofs.Ytliflcmdhenckaa

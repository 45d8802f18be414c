import Derived.Test.YtoofpaocoogbjaaPl4p
import Derived.Test.YtoofpaocoogbjaaAxRd
import Derived.KernelRfl
/-! PlantPrints' contract. -/
open Go Go.AX Go.Proofs
set_option maxRecDepth 100000
set_option maxHeartbeats 1000000
set_option linter.unusedVariables false
set_option linter.unusedSimpArgs false
namespace Go.Proofs.Ytoofpaocoogbjaa
theorem known_ct : CT Try.prog 13 [] [] [] (.bool true) := by
  have h := clash_ct [bb0, bb2] (by simp)
  have f0 : footZ bb0 = [0, 1] := by simp [footZ, bb0]
  have f2 : footZ bb2 = [1] := by simp [footZ, bb2]
  have ov : ovB [bb0, bb2] 0 1 = true := by
    unfold ovB
    simp only [List.getD_cons_zero, List.getD_cons_succ, f0, f2]
    simp [ovZ, inZ, fnd]
  have hc : clsN [bb0, bb2] 0 2 = some (0, 1) := by
    simp [clsN, clsI, fnd, ov]
  have hc : clsA (clsN [bb0, bb2] 0 [bb0, bb2].length) = .tup [.int .i64 0, .int .i64 1, .bool true] := by
    rw [show [bb0, bb2].length = 2 from rfl, hc]; rfl
  rw [hc] at h
  have p := putOk_ct [bb0, bb1] 1 1 (by simp) (by simp) rfl rfl
  have f := foot_ct bb0
  rw [f0] at f
  refine CT.path mix Try.func13 (show Try.f13.body = some (bodyOf Try.f13) by kernel_rfl) (Nat.zero_le _) (kno_0 () p ?_ h f (sameInts_ct [0, 1] (by simp)))
  intro blk hb e he c hc
  simp only [List.mem_singleton] at hb
  subst hb
  simp only [bdL, List.map_cons, List.map_nil, List.mem_cons, List.not_mem_nil, or_false] at he
  rcases he with rfl | rfl <;> simp only [bdA, AV.cells, List.mem_cons, List.not_mem_nil, or_false] at hc <;> rcases hc with rfl | rfl | rfl | rfl <;> rfl

noncomputable abbrev B3 : Code := loopC (bodyOf Try.f3) 0
noncomputable def qq (L : List Int) (raw : List Bd) (i : Int) (kk : Nat) (k : Int) (j : Nat) (m : Nat) : Q3 := ⟨L, raw, i, kk, k, j, 0, 0, false, bd0, [], m, 0⟩

/-- The last loop of a round. -/
theorem cm_run (L : List Int) (raw : List Bd) (i : Int) (kk : Nat) (h0 : raw.length ≤ 1000) {R : St → Prop} {post : Exit → St → Prop}
    (hR : ∀ st, Ren 0 st (lo3 (qq L raw (IntKind.i64.wrap (i + 1)) kk 0 0 0)) → R st) :
    T Try.prog 0 (.loop (loopC B3 1)) (lc3 (qq L raw i kk 0 0 0)) (TK Try.prog 0 (andThen R post) (loopK B3 1)) := by
  have hl := bdL_len raw
  refine T.loop (fun j : Nat => lc3 (qq L raw i kk 0 j 0)) (fun j => j ≤ raw.length) (fun j => raw.length + 1 - j) 0 (Nat.zero_le _) ?_
  intro j hj
  by_cases h : j < raw.length
  · refine T.path mix (cmr_0 ⟨L, raw, i, kk, 0, j, 0, 0, false, raw.getD j bd0, footZ (raw.getD j bd0), 0, 0⟩ (by simp only [iN, hl]; simpa using h) (by simp [iN]) (bdL_get h) (foot_ct _) (rfoot_ct _) (sameInts_ct _ (footZ_len _)) ?_)
    intro st hst
    rw [wrapN j (by omega)] at hst
    exact ⟨j + 1, hst, h, by omega⟩
  · exact T.out mix (cmx_0 (qq L raw i kk 0 j 0) (by simp only [qq, iN, hl]; simpa using h) hR)

theorem prints_ct (L : List Int) (raw : List Bd) : CT Try.prog 3 [] [.lst (bdL raw), lI L] [] (.bool true) := by
  have hb : Try.f3.body = some (bodyOf Try.f3) := by kernel_rfl
  refine CT.path mix Try.func3 hb (Nat.le_of_ble_eq_true rfl) (law_0 (qq L raw 0 0 0 0 0) known_ct ?_)
  refine T.loop (fun s : Nat × List Bd × Nat => lo3 (qq L s.2.1 (s.1 : Nat) s.2.2 0 0 0)) (fun s => s.1 ≤ 2 ∧ s.2.2 ≤ 1000 * s.1) (fun s => 3 - s.1) (0, raw, 0) ⟨by simp, by simp⟩ ?_
  rintro ⟨i, raw, kk⟩ ⟨hi, hkk⟩
  simp only at hi hkk
  have hl := bdL_len raw
  match i, hi with
  | 0, _ =>
    by_cases h20 : 20 < raw.length
    · refine T.path mix (lawm_0 (qq L raw (0 : Nat) kk 0 0 0) (by simp [qq]) (by simp [qq]) (by simp only [qq, iN, hl]; simp; omega) ?_)
      intro st hst
      exact ⟨(1, raw, kk), hst, ⟨by simp, by simp only; omega⟩, by simp⟩
    · obtain ⟨a, b, o, hc⟩ := clsA_ex (clsN raw 0 raw.length)
      have c1 := clash_ct raw (by omega)
      have c2 := rclash_ct raw (by omega)
      rw [hc] at c1 c2
      refine T.path mix (law0_0 ⟨L, raw, (0 : Nat), kk, 0, 0, a, b, o, bd0, [], 0, 0⟩ (by simp) (by simp) (by simp only [iN, hl]; simp; omega) c1 c2 (by simp) (by simp) (by simp) ?_)
      exact cm_run L raw (0 : Nat) kk (by omega) fun st hst => ⟨(1, raw, kk), hst, ⟨by simp, by simp only; omega⟩, by simp⟩
  | 1, _ =>
    have r1 := nextZ_rng L kk 6 (by omega) (by omega)
    have n1 := next_ct L kk 6 (by omega)
    obtain ⟨n, hn⟩ : ∃ n : Nat, nextZ L kk 6 = (n : Int) := ⟨(nextZ L kk 6).toNat, by omega⟩
    rw [hn] at r1 n1
    refine T.path mix (law1_0 ⟨L, raw, (1 : Nat), kk, 0, 0, 0, 0, false, bd0, [], 0, n⟩ (by simp) (by simp) n1 ?_)
    have fin : ∀ (raw : List Bd) (kk' : Nat), raw.length ≤ 1000 → kk' ≤ 2000 → T Try.prog 0 (.loop (loopC B3 1)) (lc3 (qq L raw (1 : Nat) kk' 0 0 0)) (TK Try.prog 0 (andThen (fun st' => ∃ j : Nat × List Bd × Nat, Ren 0 st' (lo3 (qq L j.2.1 (j.1 : Nat) j.2.2 0 0 0)) ∧ (j.1 ≤ 2 ∧ j.2.2 ≤ 1000 * j.1) ∧ 3 - j.1 < 3 - 1) (TK Try.prog 0 (Fin Try.prog Try.f3 0 [] (.bool true)) (loopK (bodyOf Try.f3) 0))) (loopK B3 1)) :=
      fun raw kk' h1 h2 => cm_run L raw (1 : Nat) kk' h1 fun st hst => ⟨(2, raw, kk'), hst, ⟨by simp, by simp only; omega⟩, by simp⟩
    -- the bodies are made
    refine T.loop (fun s : Nat × List Bd × Nat => match s.1 with | 0 => la3 (qq L [] (1 : Nat) s.2.2 (n : Nat) 0 0) | j + 1 => lb3 (qq L s.2.1 (1 : Nat) s.2.2 ((n - (j + 1) : Nat) : Int) 0 s.2.1.length)) (fun s => s.1 ≤ n ∧ s.2.1.length = s.1 ∧ s.2.2 ≤ kk + 1 + 5 * s.1) (fun s => n + 1 - s.1) (0, [], kk + 1) ⟨Nat.zero_le _, rfl, by simp only; omega⟩ ?_
    rintro ⟨j, raw, kb⟩ ⟨hj, hlen, hkb⟩
    simp only at hj hlen hkb
    obtain ⟨b5, bc⟩ := bodyX_ct L kb 9 (by omega)
    cases j with
    | zero =>
      obtain rfl : raw = [] := List.eq_nil_of_length_eq_zero hlen
      by_cases h : 0 < n
      · refine T.path mix (bu0_0 ⟨L, [], (1 : Nat), kb, (n : Nat), 0, 0, 0, false, (bodyX L kb 9).1, [], (bodyX L kb 9).2, 0⟩ (by simp; omega) bc (by simp) (by simp) (by simp) ?_)
        intro st hst
        refine ⟨(1, [(bodyX L kb 9).1], (bodyX L kb 9).2), ?_, ⟨by simp only; omega, rfl, by simp only; omega⟩, by simp only; omega⟩
        have e : IntKind.i64.wrap ((n : Int) - 1) = ((n - 1 : Nat) : Int) := by rw [wrapJ _ (by omega) (by omega)]; omega
        simp only at hst
        rw [e] at hst
        exact hst
      · obtain ⟨a, b, o, hc⟩ := clsA_ex (clsN [] 0 ([] : List Bd).length)
        have c1 := clash_ct [] (by simp)
        have c2 := rclash_ct [] (by simp)
        rw [hc] at c1 c2
        refine T.out mix (bux_0 ⟨L, [], (1 : Nat), kb, (n : Nat), 0, a, b, o, bd0, [], 0, 0⟩ (by simp; omega) (c1.nilArgs rfl) (c2.nilArgs rfl) (by simp) (by simp) (by simp) (T.nil ?_))
        exact fin [] kb (by simp) (by omega)
    | succ j =>
      have hl := bdL_len raw
      by_cases h : j + 1 < n
      · refine T.path mix (bur_0 ⟨L, raw, (1 : Nat), kb, ((n - (j + 1) : Nat) : Int), (bodyX L kb 9).2, 0, 0, false, (bodyX L kb 9).1, [], raw.length, 0⟩ (by simp; omega) bc hl (by simp) (by simp; omega) (by simp; omega) ?_)
        intro st hst
        refine ⟨(j + 2, raw ++ [(bodyX L kb 9).1], (bodyX L kb 9).2), ?_, ⟨by simp only; omega, by simp; omega, by simp only; omega⟩, by simp only; omega⟩
        have e : IntKind.i64.wrap (((n - (j + 1) : Nat) : Int) - 1) = ((n - (j + 2) : Nat) : Int) := by rw [wrapJ _ (by omega) (by omega)]; omega
        have e2 : ∀ y : AV, (bdL raw).length + [y].length = (raw ++ [(bodyX L kb 9).1]).length := by intro y; simp [hl]
        simp only at hst
        rw [e, e2] at hst
        show Ren 0 st (lb3 (qq L (raw ++ [(bodyX L kb 9).1]) (1 : Nat) (bodyX L kb 9).2 ((n - (j + 2) : Nat) : Int) 0 (raw ++ [(bodyX L kb 9).1]).length))
        unfold lb3 qq
        simp only [show bdL (raw ++ [(bodyX L kb 9).1]) = bdL raw ++ [bdA (bodyX L kb 9).1] by simp [bdL]]
        exact hst
      · obtain ⟨a, b, o, hc⟩ := clsA_ex (clsN raw 0 raw.length)
        have c1 := clash_ct raw (by omega)
        have c2 := rclash_ct raw (by omega)
        rw [hc] at c1 c2
        refine T.out mix (buy_0 ⟨L, raw, (1 : Nat), kb, ((n - (j + 1) : Nat) : Int), 0, a, b, o, bd0, [], raw.length, 0⟩ (by simp; omega) (by simp [iN]; omega) hl.symm c1 c2 (by simp) (by simp) (by simp) ?_)
        exact fin raw kb (by omega) (by omega)
  | 2, _ => exact T.out mix (lawx_0 (qq L raw (2 : Nat) kk 0 0 0) (by simp [qq]))

theorem bodyV {n : Nat} {a : AV} (h : ShV Try.prog (n + 1) 30 a) : ∃ x : Bd, a = bdA x := by
  obtain ⟨_, hs, rfl⟩ := h.structD Try.underlying30
  obtain ⟨_, _, rfl, g1, hs⟩ := hs.consD
  obtain ⟨_, _, rfl, g2, hs⟩ := hs.consD
  obtain ⟨_, _, rfl, g3, hs⟩ := hs.consD
  obtain ⟨_, _, rfl, g4, hs⟩ := hs.consD
  obtain rfl := hs.nilD
  obtain ⟨a, _, rfl⟩ := g1.intD Try.underlying3
  obtain ⟨b, _, rfl⟩ := g2.intD Try.underlying3
  obtain ⟨c, rfl⟩ := g3.boolD Try.underlying4
  obtain ⟨d, rfl⟩ := g4.boolD Try.underlying4
  exact ⟨⟨a, b, c, d⟩, rfl⟩
theorem bodiesV {n : Nat} {es : List AV} (h : ∀ x ∈ es, ShV Try.prog (n + 1) 30 x) : ∃ c : List Bd, es = bdL c := by
  induction es with
  | nil => exact ⟨[], rfl⟩
  | cons x es ih =>
    obtain ⟨L, rfl⟩ := ih fun y hy => h y (List.mem_cons_of_mem _ hy)
    obtain ⟨f, rfl⟩ := bodyV (h x (by simp))
    exact ⟨f :: L, rfl⟩
theorem intsV {n : Nat} {es : List AV} (h : ∀ x ∈ es, ShV Try.prog n 3 x) : ∃ L : List Int, es = L.map (AV.int .i64) := by
  induction es with
  | nil => exact ⟨[], rfl⟩
  | cons x es ih =>
    obtain ⟨L, rfl⟩ := ih fun y hy => h y (List.mem_cons_of_mem _ hy)
    obtain ⟨i, _, rfl⟩ := (h x (by simp)).intD Try.underlying3
    exact ⟨i :: L, rfl⟩

theorem plantPrints_row (avs : List AV) (h : ShVs Try.prog 4 Try.f3.params.toList avs) : CT Try.prog 3 [] avs [] (.bool true) := by
  rw [Try.params3] at h
  obtain ⟨a, _, rfl, ka, h⟩ := h.consD
  obtain ⟨d, _, rfl, kd, h⟩ := h.consD
  obtain rfl := h.nilD
  obtain ⟨es, _, he, rfl⟩ := ka.sliceD Try.underlying22
  obtain ⟨raw, rfl⟩ := bodiesV he
  obtain ⟨ls, _, hl, rfl⟩ := kd.sliceD Try.underlying23
  obtain ⟨L, rfl⟩ := intsV hl
  exact prints_ct L raw
#print axioms plantPrints_row
end Go.Proofs.Ytoofpaocoogbjaa

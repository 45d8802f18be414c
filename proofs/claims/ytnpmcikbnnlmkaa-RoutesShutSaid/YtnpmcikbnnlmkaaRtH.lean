import Derived.Test.YtnpmcikbnnlmkaaRtG
import Derived.KernelRfl
/-! Routes: paths and tables. -/
open Go Go.AX Go.Proofs
set_option maxRecDepth 100000
set_option maxHeartbeats 1000000
set_option linter.unusedVariables false
set_option linter.unusedSimpArgs false
namespace Go.Proofs.Ytnpmcikbnnlmkaa
noncomputable def wkZ (g : List (List Int)) (d : List Int) (a : Nat) : Nat → Int
  | 0 => (a : Int)
  | k + 1 => hopZ g d (wkZ g d a k).toNat
noncomputable def wkL (g : List (List Int)) (d : List Int) (a k : Nat) : List Int := (List.range (k + 1)).map (wkZ g d a)
theorem wkL_len (g : List (List Int)) (d : List Int) (a k : Nat) : (wkL g d a k).length = k + 1 := by simp [wkL]
theorem wkL_last (g : List (List Int)) (d : List Int) (a k : Nat) : (wkL g d a k).getD k 0 = wkZ g d a k := by simp [wkL]
theorem wkL_succ (g : List (List Int)) (d : List Int) (a k : Nat) : wkL g d a (k + 1) = wkL g d a k ++ [wkZ g d a (k + 1)] := by
  unfold wkL; rw [List.range_succ, List.map_append]; rfl

/-- A path that stays within the graph. -/
theorem path_ct {g : List (List Int)} {s : List Bool} (hg : OkG g s) (hs : Asc g) (a goal m : Nat) (ha : a < g.length) (hgo : goal < g.length) (hm : (distL g s goal g.length).getD a 0 = (m : Int)) (hmb : m ≤ 1000)
    (hin : ∀ k, k < m → 0 ≤ wkZ g (distL g s goal g.length) a k ∧ wkZ g (distL g s goal g.length) a k < (g.length : Int)) :
    CT Try.prog 17 [] [.lst (gL g), .lst (boL s), .int .i64 (a : Nat), .int .i64 (goal : Nat)] [] (.tup [lI (wkL g (distL g s goal g.length) a m), .int .i64 0]) := by
  have hgl := hg.len
  have c0 := distances_ct hg goal hgo
  have hdl := distL_len g s goal g.length
  have hsm := distL_small g s goal g.length (by omega)
  generalize distL g s goal g.length = d at c0 hdl hsm hm hin
  have hda := lI_get (l := d) (j := a) (by omega)
  rw [hm] at hda
  refine CT.path mix Try.func17 (show Try.f17.body = some (bodyOf Try.f17) by kernel_rfl) (Nat.le_of_ble_eq_true rfl) (pth_0 ⟨g, s, d, a, goal, 0, 0, [], 0, (m : Nat), false, 0, [], []⟩ (check_ct hg hs a goal ha hgo) (by simp) c0 (by simp [iN]) hda (decide_eq_false (by simp only; omega)) ?_)
  have key : T Try.prog 0 (.loop (loopC (bodyOf Try.f17) 0)) (lo17 ⟨g, s, d, a, goal, 0, 0, [], 0, (m : Nat), false, 0, wkL g d a 0, []⟩) (TK Try.prog 0 (Fin Try.prog Try.f17 0 [] (.tup [lI (wkL g d a m), .int .i64 0])) (loopK (bodyOf Try.f17) 0)) := by
    refine T.loop (fun k : Nat => lo17 ⟨g, s, d, a, goal, 0, k, [], 0, (m : Nat), false, 0, wkL g d a k, []⟩) (fun k => k ≤ m) (fun k => m + 1 - k) 0 (Nat.zero_le _) ?_
    intro k hk
    have hlen := wkL_len g d a k
    have hml := lI_len (wkL g d a k)
    by_cases h : k < m
    · obtain ⟨h0, h1⟩ := hin k h
      obtain ⟨u, hu⟩ : ∃ u : Nat, wkZ g d a k = (u : Int) := ⟨(wkZ g d a k).toNat, by omega⟩
      have hw : IntKind.i64.wrap (iN (k + 1) - 1) = (k : Int) := by
        have := wrapM1 (k + 1) (by omega) (by omega)
        simpa [iN] using this
      have hlast := lI_get (l := wkL g d a k) (j := k) (by omega)
      rw [wkL_last, hu] at hlast
      have hc := hop_ct hg d hdl hsm u (by omega)
      refine T.path mix (ptr_0 ⟨g, s, d, a, goal, u, k, [], hopZ g d u, (m : Nat), false, 0, wkL g d a k, []⟩ (decide_eq_true (by simp only [iN]; omega)) (by rw [hw]; omega) (by rw [hw]; simp only [iN]; omega) (by simp only [hw, Int.toNat_natCast, Nat.zero_add]; exact hlast) hc (by simp only [hml, hlen]) (by simp) (by simp [hlen]; omega) (by simp [hlen]; omega) ?_)
      intro st hst
      refine ⟨k + 1, ?_, h, by omega⟩
      have e2 : ∀ y : AV, ((wkL g d a k).map (AV.int .i64)).length + [y].length = k + 1 + 1 := by intro y; simp [hlen]
      have e3 : (wkL g d a (k + 1)).map (AV.int .i64) = (wkL g d a k).map (AV.int .i64) ++ [.int .i64 (hopZ g d u)] := by
        rw [wkL_succ, List.map_append, List.map_singleton]
        show _ ++ [AV.int .i64 (hopZ g d (wkZ g d a k).toNat)] = _
        rw [hu, Int.toNat_natCast]
      simp only [iN, wrap_nat k (show k < 9223372036854775807 by omega), e2] at hst
      show Ren 0 st (lo17 ⟨g, s, d, a, goal, 0, k + 1, [], 0, (m : Nat), false, 0, wkL g d a (k + 1), []⟩)
      unfold lo17 dB
      simp only [e3]
      exact hst
    · obtain rfl : k = m := by omega
      exact T.out mix (ptx_0 ⟨g, s, d, a, goal, 0, k, [], 0, (k : Nat), false, 0, wkL g d a k, []⟩ (decide_eq_false (by simp only [iN]; omega)) (by simp [hlen]))
  exact key

noncomputable def tabZ (g : List (List Int)) (s : List Bool) (k : Nat) : List (List Int) := (List.range k).map fun t => hopsZ g (distL g s t g.length)
theorem tabZ_len (g : List (List Int)) (s : List Bool) (k : Nat) : (tabZ g s k).length = k := by simp [tabZ]
theorem tabZ_succ (g : List (List Int)) (s : List Bool) (k : Nat) : tabZ g s (k + 1) = tabZ g s k ++ [hopsZ g (distL g s k g.length)] := by
  unfold tabZ; rw [List.range_succ, List.map_append]; rfl
noncomputable def lo19S (g : List (List Int)) (s : List Bool) : Nat → St
  | 0 => lo19z ⟨g, s, [], 0, 0, 0, 0, [], 0, 0, false, 0, [], []⟩
  | k + 1 => lo19 ⟨g, s, [], 0, 0, 0, k + 1, [], 0, 0, false, 0, [], tabZ g s (k + 1)⟩

theorem table_ct {g : List (List Int)} {s : List Bool} (hg : OkG g s) (hs : Asc g) (h0 : 0 < g.length) : CT Try.prog 19 [] [.lst (gL g), .lst (boL s)] [] (.tup [.lst (gL (tabZ g s g.length)), .int .i64 0]) := by
  have hgl := hg.len
  have hl := gL_len g
  refine CT.path mix Try.func19 (show Try.f19.body = some (bodyOf Try.f19) by kernel_rfl) (Nat.le_of_ble_eq_true rfl) (tb_1 ⟨g, s, [], 0, 0, 0, 0, [], 0, 0, false, 0, [], []⟩ (by simp [iN, hl]; intro e; subst e; simp at h0) (check_ct hg hs 0 0 h0 h0) (by simp) ?_)
  simp only [hl]
  refine T.loop (fun k : Nat => lo19S g s k) (fun k => k ≤ g.length) (fun k => g.length + 1 - k) 0 (Nat.zero_le _) ?_
  intro k hk
  cases k with
  | zero =>
    refine T.path mix (tb0_0 ⟨g, s, [], 0, 0, 0, 0, [], 0, 0, false, 0, hopsZ g (distL g s 0 g.length), []⟩ (decide_eq_true (by simp only [iN]; omega)) (hops_ct hg 0 h0) (by simp) (by simp) (by simp) ?_)
    intro st hst
    exact ⟨1, hst, by omega, by omega⟩
  | succ k =>
    have hlen := tabZ_len g s (k + 1)
    have hgt := gL_len (tabZ g s (k + 1))
    by_cases h : k + 1 < g.length
    · refine T.path mix (tbr_0 ⟨g, s, [], 0, 0, 0, k + 1, [], 0, 0, false, 0, hopsZ g (distL g s (k + 1) g.length), tabZ g s (k + 1)⟩ (decide_eq_true (by simp only [iN]; omega)) (hops_ct hg (k + 1) h) (by simp only [hgt, hlen]) (by simp) (by simp [hgt, hlen]; omega) (by simp [hgt, hlen]; omega) ?_)
      intro st hst
      refine ⟨k + 2, ?_, by omega, by omega⟩
      have e2 : ∀ y : AV, (gL (tabZ g s (k + 1))).length + [y].length = k + 1 + 1 := by intro y; simp [hgt, hlen]
      have e3 : gL (tabZ g s (k + 1 + 1)) = gL (tabZ g s (k + 1)) ++ [lI (hopsZ g (distL g s (k + 1) g.length))] := by
        rw [tabZ_succ]; simp [gL]
      simp only [iN, wrap_nat (k + 1) (show k + 1 < 9223372036854775807 by omega), e2] at hst
      show Ren 0 st (lo19 ⟨g, s, [], 0, 0, 0, k + 1 + 1, [], 0, 0, false, 0, [], tabZ g s (k + 1 + 1)⟩)
      unfold lo19
      simp only [e3]
      exact hst
    · have e : k + 1 = g.length := by omega
      rw [show tabZ g s g.length = tabZ g s (k + 1) by rw [e]]
      exact T.out mix (tbx_0 ⟨g, s, [], 0, 0, 0, k + 1, [], 0, 0, false, 0, [], tabZ g s (k + 1)⟩ (decide_eq_false (by simp only [iN]; omega)) (by simp only [hgt, hlen]))
#print axioms table_ct
end Go.Proofs.Ytnpmcikbnnlmkaa

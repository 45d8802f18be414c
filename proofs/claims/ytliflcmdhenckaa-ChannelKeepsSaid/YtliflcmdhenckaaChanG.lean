import Derived.Test.YtliflcmdhenckaaChanF
import Derived.KernelRfl
/-! The list of frames. -/
open Go Go.AX Go.Proofs
set_option maxRecDepth 100000
set_option maxHeartbeats 1000000
set_option linter.unusedVariables false
set_option linter.unusedSimpArgs false
namespace Go.Proofs.Ytliflcmdhenckaa
theorem wrapJ (x : Int) (h0 : 0 ≤ x) (h1 : x < 9223372036854775808) : IntKind.i64.wrap x = x := by
  have e1 : (2 : Int) ^ IntKind.i64.bits = 18446744073709551616 := by decide
  have e2 : (2 : Int) ^ (IntKind.i64.bits - 1) = 9223372036854775808 := by decide
  have e3 : IntKind.i64.signed = true := by decide
  simp only [IntKind.wrap, e1, e2, e3, Bool.true_and, decide_eq_true_eq]
  split <;> omega

theorem cutZ_rng (v n : Int) (h1 : 1 ≤ n) (h2 : n ≤ 4611686018427387904) : 0 ≤ cutZ v n ∧ cutZ v n < n := by
  unfold cutZ
  split
  · omega
  · have ha := Int.tmod_lt_of_pos v (show 0 < n by omega)
    have hb := Int.lt_tmod_of_pos v (show 0 < n by omega)
    split
    · rw [wrapJ _ (by omega) (by omega)]; omega
    · omega

theorem nextZ_rng (L : List Int) (k : Nat) (n : Int) (h1 : 1 ≤ n) (h2 : n ≤ 4611686018427387904) : 0 ≤ nextZ L k n ∧ nextZ L k n < n := cutZ_rng _ n h1 h2

noncomputable def frmX (L : List Int) (k : Nat) : Fr × Nat := if h : k < 4611686018427387904 then Classical.choose (frame_ex L k h) else (fr0, k)
theorem frmX_ct (L : List Int) (k : Nat) (h : k < 4611686018427387904) : (frmX L k).2 ≤ k + 8 ∧ CT Try.prog 27 [some (tapeB L k)] [.ptr 0 0 0] [some (tapeB L (frmX L k).2)] (frA (frmX L k).1) := by
  unfold frmX
  rw [dif_pos h]
  exact Classical.choose_spec (frame_ex L k h)

noncomputable def frsX (L : List Int) (k : Nat) : Nat → List Fr × Nat
  | 0 => ([], k)
  | n + 1 => ((frsX L k n).1 ++ [(frmX L (frsX L k n).2).1], (frmX L (frsX L k n).2).2)

theorem frsX_le (L : List Int) (k n : Nat) (h : k + 8 * n < 4611686018427387904) : (frsX L k n).2 ≤ k + 8 * n := by
  induction n with
  | zero => exact Nat.le_refl _
  | succ n ih =>
    have := ih (by omega)
    have := (frmX_ct L (frsX L k n).2 (by omega)).1
    simp only [frsX]
    omega

theorem frsX_len (L : List Int) (k n : Nat) : (frsX L k n).1.length = n := by
  induction n with
  | zero => rfl
  | succ n ih => simp [frsX, ih]

noncomputable def lo9S (L : List Int) (k n : Nat) : Nat → St
  | 0 => lo9z L k n 0 [] fr0 0
  | i + 1 => lo9 L (frsX L k (i + 1)).2 n (i + 1) (frsX L k (i + 1)).1 fr0 0

theorem frames_ct (L : List Int) (k n : Nat) (hn1 : n ≤ 1000) (hk : k < 1000000000000) : CT Try.prog 9 [some (tapeB L k)] [.ptr 0 0 0, .int .i64 (n : Nat)] [some (tapeB L (frsX L k n).2)] (.lst (frL (frsX L k n).1)) := by
  have hb : Try.f9.body = some (bodyOf Try.f9) := by kernel_rfl
  have hn : [AV.ptr 0 0 0, .int .i64 (n : Nat)].length ≤ Try.f9.ntmps := Nat.le_of_ble_eq_true rfl
  cases n with
  | zero =>
    refine CT.pathW mix Try.func9 hb hn (frs_0 L k 0 0 [] fr0 0 ?_) (res := .nils) rfl
    refine T.loop (fun i : Nat => lo9z L k 0 0 [] fr0 0) (fun i => True) (fun i => 0) 0 trivial ?_
    intro i _
    exact T.out mix (frsz_0 L k 0 0 [] fr0 0 (by simp [iN]))
  | succ n =>
    refine CT.path mix Try.func9 hb hn (frs_0 L k (n + 1) 0 [] fr0 0 ?_)
    refine T.loop (fun i : Nat => lo9S L k (n + 1) i) (fun i => i ≤ n + 1) (fun i => n + 2 - i) 0 (Nat.zero_le _) ?_
    intro i hi
    cases i with
    | zero =>
      have hc := (frmX_ct L k (by omega)).2
      refine T.path mix (frs0_0 L k (n + 1) 0 [] (frmX L k).1 (frmX L k).2 (by simp [iN]) hc (by simp) (by simp) (by simp) ?_)
      intro st hst
      exact ⟨1, hst, by omega, by omega⟩
    | succ i =>
      have hle := frsX_le L k (i + 1) (by omega)
      have hlen := frsX_len L k (i + 1)
      have hl := frL_len (frsX L k (i + 1)).1
      have hc := (frmX_ct L (frsX L k (i + 1)).2 (by omega)).2
      by_cases h : i + 1 < n + 1
      · refine T.path mix (frsr_0 L (frsX L k (i + 1)).2 (n + 1) (i + 1) (frsX L k (i + 1)).1 (frmX L (frsX L k (i + 1)).2).1 (frmX L (frsX L k (i + 1)).2).2 (by simp [iN]; omega) hc (by omega) (by simp) (by simp; omega) (by simp; omega) ?_)
        intro st hst
        refine ⟨i + 2, ?_, by omega, by omega⟩
        have e1 : ∀ x : AV, (frL (frsX L k (i + 1)).1).length + [x].length = i + 1 + 1 := by intro x; simp; omega
        have e2 : lo9S L k (n + 1) (i + 2) = lo9 L (frmX L (frsX L k (i + 1)).2).2 (n + 1) (i + 2) ((frsX L k (i + 1)).1 ++ [(frmX L (frsX L k (i + 1)).2).1]) fr0 0 := rfl
        rw [e2]
        unfold lo9
        rw [frL_append]
        simp only [iN, wrap_nat (i + 1) (by omega), e1] at hst
        exact hst
      · obtain rfl : i = n := by omega
        exact T.out mix (frsx_0 L (frsX L k (i + 1)).2 (i + 1) (i + 1) (frsX L k (i + 1)).1 fr0 0 (by simp [iN]) (by omega))
#print axioms frames_ct
end Go.Proofs.Ytliflcmdhenckaa

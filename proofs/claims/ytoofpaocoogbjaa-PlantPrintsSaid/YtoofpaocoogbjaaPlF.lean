import Derived.Test.YtoofpaocoogbjaaPl2p
import Derived.KernelRfl
/-! Plant: Clash. -/
open Go Go.AX Go.Proofs
set_option maxRecDepth 100000
set_option maxHeartbeats 1000000
set_option linter.unusedVariables false
set_option linter.unusedSimpArgs false
namespace Go.Proofs.Ytoofpaocoogbjaa
theorem bdL_len (c : List Bd) : (bdL c).length = c.length := by simp [bdL]
def bd0 : Bd := ⟨0, 0, false, false⟩
theorem bdL_get {c : List Bd} {j : Nat} (h : j < c.length) : (bdL c)[j]? = some (bdA (c.getD j bd0)) := by
  unfold bdL
  rw [List.getElem?_map, List.getD_eq_getElem?_getD, List.getElem?_eq_getElem h]; rfl

noncomputable def ovB (c : List Bd) (i k : Nat) : Bool := ovZ (footZ (c.getD i bd0)) (footZ (c.getD k bd0))
noncomputable def clsI (c : List Bd) (i : Nat) : Option Nat := fnd (ovB c i) (i + 1) (c.length - (i + 1))
noncomputable def clsN (c : List Bd) : Nat → Nat → Option (Nat × Nat)
  | _, 0 => none
  | i, n + 1 => match clsI c i with
    | some k => some (i, k)
    | none => clsN c (i + 1) n
def clsA (o : Option (Nat × Nat)) : AV := match o with
  | some (i, k) => .tup [.int .i64 (iN i), .int .i64 (iN k), .bool true]
  | none => .tup [.int .i64 0, .int .i64 0, .bool false]
theorem clsN_step {c : List Bd} {i k : Nat} (h : i < k) : clsN c i (k - i) = (match clsI c i with | some k' => some (i, k') | none => clsN c (i + 1) (k - (i + 1))) := by
  rw [show k - i = (k - (i + 1)) + 1 by omega, clsN]
theorem clsN_end {c : List Bd} {i k : Nat} (h : ¬ i < k) : clsN c i (k - i) = none := by
  rw [show k - i = 0 by omega, clsN]

theorem wrapN (j : Nat) (h : j < 1000000) : IntKind.i64.wrap (iN j + 1) = ((j + 1 : Nat) : Int) := wrap_nat j (by omega)
theorem Pass.tk {m : Nat} {post fin : Exit → St → Prop} {k : List Kt} (h : Pass post fin) : Pass (TK Try.prog m post k) fin := fun st hf => TK.ret (h st hf) k

/-- The inner loop of Clash: the rest of the search for a partner of 'i'. -/
theorem clash_in (c : List Bd) (i : Nat) (hc : c.length ≤ 100000) (hi : i < c.length) {R : St → Prop} {post : Exit → St → Prop}
    (hy : ∀ k, clsI c i = some k → Pass post (Fin Try.prog Try.f16 0 [] (clsA (some (i, k)))))
    (hn : clsI c i = none → ∀ st, Ren 0 st (lo16 ⟨c, i + 1, 0, 0, 0, bd0, bd0, [], [], false, 0, 0⟩) → R st) :
    T Try.prog 0 (.loop (loopC (loopC (bodyOf Try.f16) 0) 0)) (li16 ⟨c, i, i + 1, 0, 0, c.getD i bd0, bd0, [], [], false, 0, 0⟩) (TK Try.prog 0 (andThen R post) (loopK (loopC (bodyOf Try.f16) 0) 0)) := by
  have hl := bdL_len c
  generalize hr : clsI c i = r at hy hn
  refine T.loop (fun k : Nat => li16 ⟨c, i, k, 0, 0, c.getD i bd0, bd0, [], [], false, 0, 0⟩) (fun k => k ≤ c.length ∧ fnd (ovB c i) k (c.length - k) = r) (fun k => c.length + 1 - k) (i + 1) ⟨hi, hr⟩ ?_
  rintro k ⟨hk, hf⟩
  by_cases h : k < c.length
  · rw [fnd_step h] at hf
    have f1 := foot_ct (c.getD i bd0)
    have f2 := foot_ct (c.getD k bd0)
    have f3 := containsF_ct (footZ (c.getD i bd0)) (footZ (c.getD k bd0)) (footZ_len _) (footZ_len _)
    by_cases he : ovB c i k = true
    · simp only [he] at hf
      subst hf
      exact T.out mix (cby_0 ⟨c, i, k, 0, 0, c.getD i bd0, c.getD k bd0, footZ (c.getD i bd0), footZ (c.getD k bd0), ovB c i k, 0, 0⟩ (by simp [iN]; omega) (by simp [iN]) (bdL_get h) f2 f1 f3 he (hy k rfl))
    · have he := Bool.eq_false_iff.2 he
      simp only [he] at hf
      refine T.path mix (cbr_0 ⟨c, i, k, 0, 0, c.getD i bd0, c.getD k bd0, footZ (c.getD i bd0), footZ (c.getD k bd0), ovB c i k, 0, 0⟩ (by simp [iN]; omega) (by simp [iN]) (bdL_get h) f2 f1 f3 he ?_)
      intro st hst
      rw [wrapN k (by omega)] at hst
      exact ⟨k + 1, hst, ⟨h, hf⟩, by omega⟩
  · rw [fnd_end h] at hf
    subst hf
    refine T.out mix (cbx_0 ⟨c, i, k, 0, 0, c.getD i bd0, bd0, [], [], false, 0, 0⟩ (by simp [iN]; omega) ?_)
    intro st hst
    rw [wrapN i (by omega)] at hst
    exact hn rfl st hst

theorem clash_ct (c : List Bd) (hc : c.length ≤ 100000) : CT Try.prog 16 [] [.lst (bdL c)] [] (clsA (clsN c 0 c.length)) := by
  have hl := bdL_len c
  refine CT.path mix Try.func16 (show Try.f16.body = some (bodyOf Try.f16) by kernel_rfl) (Nat.le_of_ble_eq_true rfl) (ca_0 ⟨c, 0, 0, 0, 0, bd0, bd0, [], [], false, 0, 0⟩ ?_)
  simp only [hl]
  generalize hr : clsN c 0 c.length = r
  refine T.loop (fun i : Nat => lo16 ⟨c, i, 0, 0, 0, bd0, bd0, [], [], false, 0, 0⟩) (fun i => i ≤ c.length ∧ clsN c i (c.length - i) = r) (fun i => c.length + 1 - i) 0 ⟨Nat.zero_le _, hr⟩ ?_
  rintro i ⟨hi, hf⟩
  by_cases h : i < c.length
  · rw [clsN_step h] at hf
    refine T.path mix (cai_0 ⟨c, i, 0, 0, 0, c.getD i bd0, bd0, [], [], false, 0, 0⟩ (by simp [iN]; omega) (by simp [iN]) (bdL_get h) ?_)
    simp only [wrapN i (show i < 1000000 by omega)]
    refine clash_in c i hc h (fun k hk => ?_) (fun hk st hst => ?_)
    · rw [hk] at hf
      subst hf
      exact Pass.tk (Pass.refl _)
    · rw [hk] at hf
      exact ⟨i + 1, hst, ⟨h, hf⟩, by omega⟩
  · rw [clsN_end h] at hf
    subst hf
    exact T.out mix (cax_0 ⟨c, i, 0, 0, 0, bd0, bd0, [], [], false, 0, 0⟩ (by simp [iN]; omega))

noncomputable abbrev B17 : Code := loopC (bodyOf Try.f17) 0
noncomputable def pq (c : List Bd) (i k a b : Nat) : QC := ⟨c, i, k, a, b, c.getD i bd0, c.getD k bd0, footZ (c.getD i bd0), footZ (c.getD k bd0), false, (footZ (c.getD i bd0)).getD a 0, (footZ (c.getD k bd0)).getD b 0⟩

theorem r4_run (c : List Bd) (i k a : Nat) (ha : a < (footZ (c.getD i bd0)).length) {R : St → Prop} {post : Exit → St → Prop}
    (hy : inZ (footZ (c.getD k bd0)) ((footZ (c.getD i bd0)).getD a 0) = true → Pass post (Fin Try.prog Try.f17 0 [] (clsA (some (i, k)))))
    (hn : inZ (footZ (c.getD k bd0)) ((footZ (c.getD i bd0)).getD a 0) = false → ∀ st, Ren 0 st (l173 (pq c i k (a + 1) 0)) → R st) :
    T Try.prog 0 (.loop (loopC (loopC (loopC B17 0) 0) 0)) (l174 (pq c i k a 0)) (TK Try.prog 0 (andThen R post) (loopK (loopC (loopC B17 0) 0) 0)) := by
  have hL := footZ_len (c.getD i bd0)
  have hO := footZ_len (c.getD k bd0)
  unfold inZ at hy hn
  have h1 := lI_get ha
  generalize hr : fnd (fun j => (footZ (c.getD i bd0)).getD a 0 == (footZ (c.getD k bd0)).getD j 0) 0 (footZ (c.getD k bd0)).length = r at hy hn
  refine T.loop (fun b : Nat => l174 (pq c i k a b)) (fun b => b ≤ (footZ (c.getD k bd0)).length ∧ fnd (fun j => (footZ (c.getD i bd0)).getD a 0 == (footZ (c.getD k bd0)).getD j 0) b ((footZ (c.getD k bd0)).length - b) = r) (fun b => (footZ (c.getD k bd0)).length + 1 - b) 0 ⟨Nat.zero_le _, hr⟩ ?_
  rintro b ⟨hb, hf⟩
  have hll := lI_len (footZ (c.getD k bd0))
  by_cases h : b < (footZ (c.getD k bd0)).length
  · rw [fnd_step h] at hf
    by_cases he : ((footZ (c.getD i bd0)).getD a 0 == (footZ (c.getD k bd0)).getD b 0) = true
    · simp only [he] at hf
      subst hf
      exact T.out mix (r4y_0 (pq c i k a b) (by simp only [pq, iN, hll]; simpa using h) (by simp [iN]) h1 (by simp [iN]) (lI_get h) he (hy rfl))
    · have he := Bool.eq_false_iff.2 he
      simp only [he] at hf
      refine T.path mix (r4r_0 (pq c i k a b) (by simp only [pq, iN, hll]; simpa using h) (by simp [iN]) h1 (by simp [iN]) (lI_get h) he ?_)
      intro st hst
      simp only [pq] at hst
      rw [wrap_nat b (by omega)] at hst
      exact ⟨b + 1, hst, ⟨h, hf⟩, by omega⟩
  · rw [fnd_end h] at hf
    subst hf
    refine T.out mix (r4x_0 (pq c i k a b) (by simp only [pq, iN, hll]; simpa using h) ?_)
    intro st hst
    simp only [pq] at hst
    rw [wrap_nat a (by omega)] at hst
    exact hn rfl st hst

theorem r3_run (c : List Bd) (i k : Nat) (hk : k < 1000000) {R : St → Prop} {post : Exit → St → Prop}
    (hy : ovB c i k = true → Pass post (Fin Try.prog Try.f17 0 [] (clsA (some (i, k)))))
    (hn : ovB c i k = false → ∀ st, Ren 0 st (l172 (pq c i (k + 1) 0 0)) → R st) :
    T Try.prog 0 (.loop (loopC (loopC B17 0) 0)) (l173 (pq c i k 0 0)) (TK Try.prog 0 (andThen R post) (loopK (loopC B17 0) 0)) := by
  have hL := footZ_len (c.getD i bd0)
  unfold ovB ovZ at hy hn
  generalize hr : fnd (fun j => inZ (footZ (c.getD k bd0)) ((footZ (c.getD i bd0)).getD j 0)) 0 (footZ (c.getD i bd0)).length = r at hy hn
  refine T.loop (fun a : Nat => l173 (pq c i k a 0)) (fun a => a ≤ (footZ (c.getD i bd0)).length ∧ fnd (fun j => inZ (footZ (c.getD k bd0)) ((footZ (c.getD i bd0)).getD j 0)) a ((footZ (c.getD i bd0)).length - a) = r) (fun a => (footZ (c.getD i bd0)).length + 1 - a) 0 ⟨Nat.zero_le _, hr⟩ ?_
  rintro a ⟨ha, hf⟩
  have hll := lI_len (footZ (c.getD i bd0))
  by_cases h : a < (footZ (c.getD i bd0)).length
  · rw [fnd_step h] at hf
    refine T.path mix (r3i_0 (pq c i k a 0) (by simp only [pq, iN, hll]; simpa using h) ?_)
    refine r4_run c i k a h (fun he => ?_) (fun he st hst => ?_)
    · simp only [he] at hf
      subst hf
      exact Pass.tk (hy rfl)
    · simp only [he] at hf
      exact ⟨a + 1, hst, ⟨h, hf⟩, by omega⟩
  · rw [fnd_end h] at hf
    subst hf
    refine T.out mix (r3x_0 (pq c i k a 0) (by simp only [pq, iN, hll]; simpa using h) ?_)
    intro st hst
    simp only [pq] at hst
    rw [wrapN k (by omega)] at hst
    exact hn rfl st hst

theorem r2_run (c : List Bd) (i : Nat) (hc : c.length ≤ 100000) (hi : i < c.length) {R : St → Prop} {post : Exit → St → Prop}
    (hy : ∀ k, clsI c i = some k → Pass post (Fin Try.prog Try.f17 0 [] (clsA (some (i, k)))))
    (hn : clsI c i = none → ∀ st, Ren 0 st (l171 (pq c (i + 1) 0 0 0)) → R st) :
    T Try.prog 0 (.loop (loopC B17 0)) (l172 (pq c i (i + 1) 0 0)) (TK Try.prog 0 (andThen R post) (loopK B17 0)) := by
  have hl := bdL_len c
  generalize hr : clsI c i = r at hy hn
  refine T.loop (fun k : Nat => l172 (pq c i k 0 0)) (fun k => k ≤ c.length ∧ fnd (ovB c i) k (c.length - k) = r) (fun k => c.length + 1 - k) (i + 1) ⟨hi, hr⟩ ?_
  rintro k ⟨hk, hf⟩
  by_cases h : k < c.length
  · rw [fnd_step h] at hf
    refine T.path mix (r2i_0 (pq c i k 0 0) (by simp only [pq, iN, hl]; simpa using h) (by simp [iN]) (bdL_get hi) (rfoot_ct _) (by simp [iN]) (bdL_get h) (rfoot_ct _) ?_)
    refine r3_run c i k (by omega) (fun he => ?_) (fun he st hst => ?_)
    · simp only [he] at hf
      subst hf
      exact Pass.tk (hy k rfl)
    · simp only [he] at hf
      exact ⟨k + 1, hst, ⟨h, hf⟩, by omega⟩
  · rw [fnd_end h] at hf
    subst hf
    refine T.out mix (r2x_0 (pq c i k 0 0) (by simp only [pq, iN, hl]; simpa using h) ?_)
    intro st hst
    simp only [pq] at hst
    rw [wrapN i (by omega)] at hst
    exact hn rfl st hst

theorem rclash_ct (c : List Bd) (hc : c.length ≤ 100000) : CT Try.prog 17 [] [.lst (bdL c)] [] (clsA (clsN c 0 c.length)) := by
  have hl := bdL_len c
  refine CT.path mix Try.func17 (show Try.f17.body = some (bodyOf Try.f17) by kernel_rfl) (Nat.le_of_ble_eq_true rfl) (r1_0 (pq c 0 0 0 0) ?_)
  generalize hr : clsN c 0 c.length = r
  refine T.loop (fun i : Nat => l171 (pq c i 0 0 0)) (fun i => i ≤ c.length ∧ clsN c i (c.length - i) = r) (fun i => c.length + 1 - i) 0 ⟨Nat.zero_le _, hr⟩ ?_
  rintro i ⟨hi, hf⟩
  by_cases h : i < c.length
  · rw [clsN_step h] at hf
    refine T.path mix (r1i_0 (pq c i 0 0 0) (by simp only [pq, iN, hl]; simpa using h) ?_)
    simp only [pq, wrapN i (show i < 1000000 by omega)]
    refine r2_run c i hc h (fun k hk => ?_) (fun hk st hst => ?_)
    · rw [hk] at hf
      subst hf
      exact Pass.tk (Pass.refl _)
    · rw [hk] at hf
      exact ⟨i + 1, hst, ⟨h, hf⟩, by omega⟩
  · rw [clsN_end h] at hf
    subst hf
    exact T.out mix (r1x_0 (pq c i 0 0 0) (by simp only [pq, iN, hl]; simpa using h))
#print axioms rclash_ct
end Go.Proofs.Ytoofpaocoogbjaa

import Derived.Test.YtnpmcikbnnlmkaaRtF
import Derived.KernelRfl
/-! Routes: hops. -/
open Go Go.AX Go.Proofs
set_option maxRecDepth 100000
set_option maxHeartbeats 1000000
set_option linter.unusedVariables false
set_option linter.unusedSimpArgs false
namespace Go.Proofs.Ytnpmcikbnnlmkaa
/-- The first number from 's' on, of 'n', with a property. -/
def fnd (p : Nat → Bool) : Nat → Nat → Option Nat
  | _, 0 => none
  | s, n + 1 => match p s with
    | true => some s
    | false => fnd p (s + 1) n
theorem fnd_step {p : Nat → Bool} {s k : Nat} (h : s < k) : fnd p s (k - s) = (match p s with | true => some s | false => fnd p (s + 1) (k - (s + 1))) := by
  rw [show k - s = (k - (s + 1)) + 1 by omega, fnd]
theorem fnd_end {p : Nat → Bool} {s k : Nat} (h : ¬ s < k) : fnd p s (k - s) = none := by
  rw [show k - s = 0 by omega, fnd]

def hopP (g : List (List Int)) (d : List Int) (v i : Nat) : Bool := decide (0 < d.getD v 0) && (d.getD ((g.getD v []).getD i 0).toNat 0 == d.getD v 0 - 1)
def hopR (r : List Int) (o : Option Nat) : Int := match o with
  | some i => r.getD i 0
  | none => -1
def hopZ (g : List (List Int)) (d : List Int) (v : Nat) : Int := hopR (g.getD v []) (fnd (hopP g d v) 0 (g.getD v []).length)

def Small (d : List Int) : Prop := ∀ x ∈ d, x ≤ 1000
theorem Small.get {d : List Int} (h : Small d) {v : Nat} (hv : v < d.length) : d.getD v 0 ≤ 1000 := by
  rw [List.getD_eq_getElem?_getD, List.getElem?_eq_getElem hv]
  exact h _ (List.getElem_mem hv)
theorem Small.set {d : List Int} (h : Small d) (v : Nat) (x : Int) (hx : x ≤ 1000) : Small (d.set v x) := by
  intro y hy
  rcases List.mem_or_eq_of_mem_set hy with hy | rfl
  · exact h y hy
  · exact hx
theorem foldl_inv {β : Type} {Q : List Int → Prop} {f : List Int → β → List Int} : ∀ (l : List β) (d : List Int), Q d → (∀ d x, x ∈ l → Q d → Q (f d x)) → Q (l.foldl f d) := by
  intro l
  induction l with
  | nil => intro d h _; exact h
  | cons x l ih => intro d h hf; exact ih _ (hf d x (by simp) h) fun d y hy => hf d y (List.mem_cons_of_mem _ hy)
theorem distL_small (g : List (List Int)) (s : List Bool) (goal N : Nat) (hN : N ≤ 900) : Small (distL g s goal N) := by
  have h0 : Small (List.replicate g.length (-1)) := by
    intro x hx; rw [(List.mem_replicate.1 hx).2]; omega
  unfold distL
  split
  · exact h0
  · refine foldl_inv _ _ (h0.set _ _ (by omega)) fun d far hfar hd => ?_
    unfold roundL
    refine foldl_inv _ _ hd fun d v _ hd => ?_
    unfold vertF
    split
    · exact hd
    · split
      · exact hd
      · refine foldl_inv _ _ hd fun d w _ hd => ?_
        unfold edgeF
        split
        · exact hd.set _ _ (by have := List.mem_range.1 hfar; omega)
        · exact hd

def qh (g : List (List Int)) (d : List Int) (v i : Nat) (r : List Int) : QK := ⟨g, [], d, v, 0, 0, i, r, 0, 0, false, 0, [], []⟩

theorem hop_ct {g : List (List Int)} {s : List Bool} (hg : OkG g s) (d : List Int) (hd : d.length = g.length) (hsm : Small d) (v : Nat) (hv : v < g.length) : CT Try.prog 33 [] [.lst (gL g), lI d, .int .i64 (v : Nat)] [] (.int .i64 (hopZ g d v)) := by
  have hr1 := (hg.row v hv).1
  have hrow := gL_get hv
  have hget := fun i => row_get hg hv (i := i)
  have hdv := hsm.get (v := v) (by omega)
  have hv1 := lI_get (l := d) (j := v) (by omega)
  unfold hopZ
  have hP : ∀ i, hopP g d v i = (decide (0 < d.getD v 0) && (d.getD ((g.getD v []).getD i 0).toNat 0 == d.getD v 0 - 1)) := fun i => rfl
  generalize hopP g d v = pp at hP
  generalize g.getD v [] = r at hr1 hrow hget hP
  refine CT.path mix Try.func33 (show Try.f33.body = some (bodyOf Try.f33) by kernel_rfl) (Nat.le_of_ble_eq_true rfl) (hp_0 (qh g d v 0 r) (by simp [iN]) hrow ?_)
  simp only [qh, lI_len]
  generalize hrr : fnd pp 0 r.length = res
  refine T.loop (fun i : Nat => lo33 (qh g d v i r)) (fun i => i ≤ r.length ∧ fnd pp i (r.length - i) = res) (fun i => r.length + 1 - i) 0 ⟨Nat.zero_le _, hrr⟩ ?_
  rintro i ⟨hi, hf⟩
  by_cases h : i < r.length
  · rw [fnd_step h] at hf
    obtain ⟨w, hw, hw1, hw2⟩ := hget i h
    have hg1 := lI_get h
    rw [hw] at hg1
    have hw3 := lI_get (l := d) (j := w) (by omega)
    have hpi := hP i
    rw [hw, Int.toNat_natCast] at hpi
    have next : fnd pp (i + 1) (r.length - (i + 1)) = res → ∀ st, Ren 0 st (lo33 (qh g d v (i + 1) r)) → ∃ j, Ren 0 st (lo33 (qh g d v j r)) ∧ (j ≤ r.length ∧ fnd pp j (r.length - j) = res) ∧ r.length + 1 - j < r.length + 1 - i := fun hf st hst => ⟨i + 1, hst, ⟨h, hf⟩, by omega⟩
    by_cases h0 : 0 < d.getD v 0
    · obtain ⟨m, hm⟩ : ∃ m : Nat, d.getD v 0 = (m : Int) := ⟨(d.getD v 0).toNat, by omega⟩
      have hwr : IntKind.i64.wrap (d.getD v 0 - 1) = d.getD v 0 - 1 := by rw [hm, wrapM1 m (by omega) (by omega)]; omega
      by_cases he : (d.getD w 0 == d.getD v 0 - 1) = true
      · have hpt : pp i = true := by rw [hpi, he, decide_eq_true h0]; rfl
        simp only [hpt] at hf
        subst hf
        show T Try.prog 0 _ _ (andThen _ (TK Try.prog 0 (Fin Try.prog Try.f33 0 [] (.int .i64 (r.getD i 0))) _))
        rw [hw]
        exact T.out mix (hpr_0 ⟨g, [], d, v, w, 0, i, r, d.getD v 0, d.getD w 0, false, 0, [], []⟩ (decide_eq_true (by simp only [iN]; omega)) (by simp [iN]) hrow (by simp [iN]) hg1 hv1 (decide_eq_true h0) (by simp [iN]) hw3 (by simp only [hwr]; exact he))
      · have he := Bool.eq_false_iff.2 he
        have hpt : pp i = false := by rw [hpi, he, Bool.and_false]
        simp only [hpt] at hf
        refine T.path mix (hpr_1 ⟨g, [], d, v, w, 0, i, r, d.getD v 0, d.getD w 0, false, 0, [], []⟩ (decide_eq_true (by simp only [iN]; omega)) (by simp [iN]) hrow (by simp [iN]) hg1 hv1 (decide_eq_true h0) (by simp [iN]) hw3 (by simp only [hwr]; exact he) ?_)
        intro st hst
        simp only [iN, wrap_nat i (show i < 9223372036854775807 by omega)] at hst
        exact next hf st hst
    · have hpt : pp i = false := by rw [hpi, decide_eq_false h0, Bool.false_and]
      simp only [hpt] at hf
      refine T.path mix (hpr_2 ⟨g, [], d, v, w, 0, i, r, d.getD v 0, 0, false, 0, [], []⟩ (decide_eq_true (by simp only [iN]; omega)) (by simp [iN]) hrow (by simp [iN]) hg1 hv1 (decide_eq_false h0) ?_)
      intro st hst
      simp only [iN, wrap_nat i (show i < 9223372036854775807 by omega)] at hst
      exact next hf st hst
  · rw [fnd_end h] at hf
    subst hf
    exact T.out mix (hpx_0 (qh g d v i r) (decide_eq_false (by simp only [iN, qh]; omega)))

def hopsZ (g : List (List Int)) (d : List Int) : List Int := (List.range g.length).map (hopZ g d)
def fillH (g : List (List Int)) (d : List Int) (j : Nat) : List Int := (List.range g.length).map fun t => if t < j then hopZ g d t else 0
theorem fillH_len (g : List (List Int)) (d : List Int) (j : Nat) : (fillH g d j).length = g.length := by simp [fillH]
theorem fillH_0 (g : List (List Int)) (d : List Int) : List.replicate g.length (AV.int .i64 0) = (fillH g d 0).map (AV.int .i64) := by
  apply List.ext_getElem
  · simp [fillH]
  · intro i h1 h2; simp [fillH]
theorem fillH_n (g : List (List Int)) (d : List Int) : fillH g d g.length = hopsZ g d := by
  apply List.ext_getElem
  · simp [fillH, hopsZ]
  · intro i h1 h2; simp [fillH, hopsZ] at h1 ⊢; omega
theorem fillH_set (g : List (List Int)) (d : List Int) (j : Nat) (h : j < g.length) : (fillH g d j).set j (hopZ g d j) = fillH g d (j + 1) := by
  apply List.ext_getElem
  · simp [fillH]
  · intro i h1 h2
    simp only [fillH, List.getElem_set, List.getElem_map, List.getElem_range]
    split
    · rename_i e; subst e; rw [if_pos (by omega)]
    · by_cases hij : i < j
      · rw [if_pos hij, if_pos (by omega)]
      · rw [if_neg hij, if_neg (by omega)]

theorem hops_ct {g : List (List Int)} {s : List Bool} (hg : OkG g s) (goal : Nat) (hgo : goal < g.length) : CT Try.prog 31 [] [.lst (gL g), .lst (boL s), .int .i64 (goal : Nat)] [] (lI (hopsZ g (distL g s goal g.length))) := by
  have hgl := hg.len
  have hl := gL_len g
  have c0 := distances_ct hg goal hgo
  have hdl := distL_len g s goal g.length
  have hsm := distL_small g s goal g.length (by omega)
  generalize distL g s goal g.length = d at c0 hdl hsm
  refine CT.path mix Try.func31 (show Try.f31.body = some (bodyOf Try.f31) by kernel_rfl) (Nat.le_of_ble_eq_true rfl) (hs_0 ⟨g, s, d, goal, 0, 0, 0, [], 0, 0, false, 0, [], []⟩ c0 (Int.le_refl _) (by simp only [iN, hl]; omega) (by simp only [iN, hl]; omega) ?_)
  have key : T Try.prog 0 (.loop (loopC (bodyOf Try.f31) 0)) (lo31 ⟨g, s, d, goal, g.length, 0, 0, [], 0, 0, false, 0, fillH g d 0, []⟩) (TK Try.prog 0 (Fin Try.prog Try.f31 0 [] (lI (hopsZ g d))) (loopK (bodyOf Try.f31) 0)) := by
    refine T.loop (fun i : Nat => lo31 ⟨g, s, d, goal, g.length, 0, i, [], 0, 0, false, 0, fillH g d i, []⟩) (fun i => i ≤ g.length) (fun i => g.length + 1 - i) 0 (Nat.zero_le _) ?_
    intro i hi
    by_cases h : i < g.length
    · refine T.path mix (hsr_0 ⟨g, s, d, goal, g.length, 0, i, [], hopZ g d i, 0, false, 0, fillH g d i, []⟩ (decide_eq_true (by simp only [iN]; omega)) (hop_ct hg d hdl hsm i h) (by simp [iN]) (by simp [iN]; omega) (by simp [iN, fillH_len]; omega) ?_)
      intro st hst
      simp only [iN, Int.toNat_natCast, wrap_nat i (show i < 9223372036854775807 by omega)] at hst
      rw [map_set, fillH_set _ _ _ h] at hst
      exact ⟨i + 1, hst, h, by omega⟩
    · obtain rfl : i = g.length := by omega
      have k := hsx_0 ⟨g, s, d, goal, g.length, 0, g.length, [], 0, 0, false, 0, fillH g d g.length, []⟩ (decide_eq_false (by simp only [iN]; omega)) (by simp [fillH_len])
      rw [← fillH_n]
      exact T.out mix k
  unfold lo31 dB at key
  simp only [hl, fillH_0 g d]
  exact key

theorem Hops_ct {g : List (List Int)} {s : List Bool} (hg : OkG g s) (hs : Asc g) (v : Nat) (hv : v < g.length) : CT Try.prog 14 [] [.lst (gL g), .lst (boL s), .int .i64 (v : Nat)] [] (.tup [lI (hopsZ g (distL g s v g.length)), .int .i64 0]) :=
  CT.path mix Try.func14 (show Try.f14.body = some (bodyOf Try.f14) by kernel_rfl) (Nat.le_of_ble_eq_true rfl) (hps_1 ⟨g, s, [], 0, 0, 0, 0, [], (v : Nat), 0, false, 0, hopsZ g (distL g s v g.length), []⟩ (check_ct hg hs v v hv hv) (by simp) (hops_ct hg v hv))

theorem sameInts_ct (L : List Int) (hL : L.length ≤ 1000000) : CT Try.prog 16 [] [lI L, lI L] [] (.bool true) := by
  refine CT.path mix Try.func16 (show Try.f16.body = some (bodyOf Try.f16) by kernel_rfl) (Nat.le_of_ble_eq_true rfl) (si_0 ⟨[], [], [], 0, 0, 0, 0, [], 0, 0, false, 0, L, []⟩ (by simp) ?_)
  refine T.loop (fun j : Nat => lo16 ⟨[], [], [], 0, 0, 0, j, [], 0, 0, false, 0, L, []⟩) (fun j => j ≤ L.length) (fun j => L.length + 1 - j) 0 (Nat.zero_le _) ?_
  intro j hj
  by_cases h : j < L.length
  · refine T.path mix (sir_0 ⟨[], [], [], 0, 0, 0, j, [], L.getD j 0, 0, false, 0, L, []⟩ (by simp [iN]; omega) (by simp [iN]) (lI_get h) (by simp) ?_)
    intro st hst
    rw [show IntKind.i64.wrap (iN j + 1) = ((j + 1 : Nat) : Int) from wrap_nat j (by omega)] at hst
    exact ⟨j + 1, hst, h, by omega⟩
  · exact T.out mix (six_0 ⟨[], [], [], 0, 0, 0, j, [], 0, 0, false, 0, L, []⟩ (by simp [iN]; omega))
#print axioms sameInts_ct
end Go.Proofs.Ytnpmcikbnnlmkaa

/- Parts of the proof: RtG, RtH, Rt3p, RtK, Rt4p, RtL, RtM, RtX, Rt5p, RtT. -/
import Derived.KernelRfl
import Derived.Test.YtnpmcikbnnlmkaaProg
import Derived.Test.YtnpmcikbnnlmkaaRoutesWalksM3
/-! Routes: hops. -/
open Go Go.AX Go.Proofs
set_option maxRecDepth 100000
set_option maxHeartbeats 1000000
set_option linter.unusedVariables false
set_option linter.unusedSimpArgs false
namespace Go.Proofs.Ytnpmcikbnnlmkaa
/-- The first number from 's' on, of 'n', with a property. -/
def fnd (p : Nat → Bool) : Nat → Nat → Option Nat
  | _, 0 => none
  | s, n + 1 => match p s with
    | true => some s
    | false => fnd p (s + 1) n
theorem fnd_step {p : Nat → Bool} {s k : Nat} (h : s < k) : fnd p s (k - s) = (match p s with | true => some s | false => fnd p (s + 1) (k - (s + 1))) := by
  rw [show k - s = (k - (s + 1)) + 1 by omega, fnd]
theorem fnd_end {p : Nat → Bool} {s k : Nat} (h : ¬ s < k) : fnd p s (k - s) = none := by
  rw [show k - s = 0 by omega, fnd]

def hopP (g : List (List Int)) (d : List Int) (v i : Nat) : Bool := decide (0 < d.getD v 0) && (d.getD ((g.getD v []).getD i 0).toNat 0 == d.getD v 0 - 1)
def hopR (r : List Int) (o : Option Nat) : Int := match o with
  | some i => r.getD i 0
  | none => -1
def hopZ (g : List (List Int)) (d : List Int) (v : Nat) : Int := hopR (g.getD v []) (fnd (hopP g d v) 0 (g.getD v []).length)

def Small (d : List Int) : Prop := ∀ x ∈ d, x ≤ 1000
theorem Small.get {d : List Int} (h : Small d) {v : Nat} (hv : v < d.length) : d.getD v 0 ≤ 1000 := by
  rw [List.getD_eq_getElem?_getD, List.getElem?_eq_getElem hv]
  exact h _ (List.getElem_mem hv)
theorem Small.set {d : List Int} (h : Small d) (v : Nat) (x : Int) (hx : x ≤ 1000) : Small (d.set v x) := by
  intro y hy
  rcases List.mem_or_eq_of_mem_set hy with hy | rfl
  · exact h y hy
  · exact hx
theorem foldl_inv {β : Type} {Q : List Int → Prop} {f : List Int → β → List Int} : ∀ (l : List β) (d : List Int), Q d → (∀ d x, x ∈ l → Q d → Q (f d x)) → Q (l.foldl f d) := by
  intro l
  induction l with
  | nil => intro d h _; exact h
  | cons x l ih => intro d h hf; exact ih _ (hf d x (by simp) h) fun d y hy => hf d y (List.mem_cons_of_mem _ hy)
theorem distL_small (g : List (List Int)) (s : List Bool) (goal N : Nat) (hN : N ≤ 900) : Small (distL g s goal N) := by
  have h0 : Small (List.replicate g.length (-1)) := by
    intro x hx; rw [(List.mem_replicate.1 hx).2]; omega
  unfold distL
  split
  · exact h0
  · refine foldl_inv _ _ (h0.set _ _ (by omega)) fun d far hfar hd => ?_
    unfold roundL
    refine foldl_inv _ _ hd fun d v _ hd => ?_
    unfold vertF
    split
    · exact hd
    · split
      · exact hd
      · refine foldl_inv _ _ hd fun d w _ hd => ?_
        unfold edgeF
        split
        · exact hd.set _ _ (by have := List.mem_range.1 hfar; omega)
        · exact hd

def qh (g : List (List Int)) (d : List Int) (v i : Nat) (r : List Int) : QK := ⟨g, [], d, v, 0, 0, i, r, 0, 0, false, 0, [], []⟩

theorem hop_ct {g : List (List Int)} {s : List Bool} (hg : OkG g s) (d : List Int) (hd : d.length = g.length) (hsm : Small d) (v : Nat) (hv : v < g.length) : CT Try.prog 33 [] [.lst (gL g), lI d, .int .i64 (v : Nat)] [] (.int .i64 (hopZ g d v)) := by
  have hr1 := (hg.row v hv).1
  have hrow := gL_get hv
  have hget := fun i => row_get hg hv (i := i)
  have hdv := hsm.get (v := v) (by omega)
  have hv1 := lI_get (l := d) (j := v) (by omega)
  unfold hopZ
  have hP : ∀ i, hopP g d v i = (decide (0 < d.getD v 0) && (d.getD ((g.getD v []).getD i 0).toNat 0 == d.getD v 0 - 1)) := fun i => rfl
  generalize hopP g d v = pp at hP
  generalize g.getD v [] = r at hr1 hrow hget hP
  refine CT.path mix Try.func33 (show Try.f33.body = some (bodyOf Try.f33) by kernel_rfl) (Nat.le_of_ble_eq_true rfl) (hp_0 (qh g d v 0 r) (by simp [iN]) hrow ?_)
  simp only [qh, lI_len]
  generalize hrr : fnd pp 0 r.length = res
  refine T.loop (fun i : Nat => lo33 (qh g d v i r)) (fun i => i ≤ r.length ∧ fnd pp i (r.length - i) = res) (fun i => r.length + 1 - i) 0 ⟨Nat.zero_le _, hrr⟩ ?_
  rintro i ⟨hi, hf⟩
  by_cases h : i < r.length
  · rw [fnd_step h] at hf
    obtain ⟨w, hw, hw1, hw2⟩ := hget i h
    have hg1 := lI_get h
    rw [hw] at hg1
    have hw3 := lI_get (l := d) (j := w) (by omega)
    have hpi := hP i
    rw [hw, Int.toNat_natCast] at hpi
    have next : fnd pp (i + 1) (r.length - (i + 1)) = res → ∀ st, Ren 0 st (lo33 (qh g d v (i + 1) r)) → ∃ j, Ren 0 st (lo33 (qh g d v j r)) ∧ (j ≤ r.length ∧ fnd pp j (r.length - j) = res) ∧ r.length + 1 - j < r.length + 1 - i := fun hf st hst => ⟨i + 1, hst, ⟨h, hf⟩, by omega⟩
    by_cases h0 : 0 < d.getD v 0
    · obtain ⟨m, hm⟩ : ∃ m : Nat, d.getD v 0 = (m : Int) := ⟨(d.getD v 0).toNat, by omega⟩
      have hwr : IntKind.i64.wrap (d.getD v 0 - 1) = d.getD v 0 - 1 := by rw [hm, wrapM1 m (by omega) (by omega)]; omega
      by_cases he : (d.getD w 0 == d.getD v 0 - 1) = true
      · have hpt : pp i = true := by rw [hpi, he, decide_eq_true h0]; rfl
        simp only [hpt] at hf
        subst hf
        show T Try.prog 0 _ _ (andThen _ (TK Try.prog 0 (Fin Try.prog Try.f33 0 [] (.int .i64 (r.getD i 0))) _))
        rw [hw]
        exact T.out mix (hpr_0 ⟨g, [], d, v, w, 0, i, r, d.getD v 0, d.getD w 0, false, 0, [], []⟩ (decide_eq_true (by simp only [iN]; omega)) (by simp [iN]) hrow (by simp [iN]) hg1 hv1 (decide_eq_true h0) (by simp [iN]) hw3 (by simp only [hwr]; exact he))
      · have he := Bool.eq_false_iff.2 he
        have hpt : pp i = false := by rw [hpi, he, Bool.and_false]
        simp only [hpt] at hf
        refine T.path mix (hpr_1 ⟨g, [], d, v, w, 0, i, r, d.getD v 0, d.getD w 0, false, 0, [], []⟩ (decide_eq_true (by simp only [iN]; omega)) (by simp [iN]) hrow (by simp [iN]) hg1 hv1 (decide_eq_true h0) (by simp [iN]) hw3 (by simp only [hwr]; exact he) ?_)
        intro st hst
        simp only [iN, wrap_nat i (show i < 9223372036854775807 by omega)] at hst
        exact next hf st hst
    · have hpt : pp i = false := by rw [hpi, decide_eq_false h0, Bool.false_and]
      simp only [hpt] at hf
      refine T.path mix (hpr_2 ⟨g, [], d, v, w, 0, i, r, d.getD v 0, 0, false, 0, [], []⟩ (decide_eq_true (by simp only [iN]; omega)) (by simp [iN]) hrow (by simp [iN]) hg1 hv1 (decide_eq_false h0) ?_)
      intro st hst
      simp only [iN, wrap_nat i (show i < 9223372036854775807 by omega)] at hst
      exact next hf st hst
  · rw [fnd_end h] at hf
    subst hf
    exact T.out mix (hpx_0 (qh g d v i r) (decide_eq_false (by simp only [iN, qh]; omega)))

def hopsZ (g : List (List Int)) (d : List Int) : List Int := (List.range g.length).map (hopZ g d)
def fillH (g : List (List Int)) (d : List Int) (j : Nat) : List Int := (List.range g.length).map fun t => if t < j then hopZ g d t else 0
theorem fillH_len (g : List (List Int)) (d : List Int) (j : Nat) : (fillH g d j).length = g.length := by simp [fillH]
theorem fillH_0 (g : List (List Int)) (d : List Int) : List.replicate g.length (AV.int .i64 0) = (fillH g d 0).map (AV.int .i64) := by
  apply List.ext_getElem
  · simp [fillH]
  · intro i h1 h2; simp [fillH]
theorem fillH_n (g : List (List Int)) (d : List Int) : fillH g d g.length = hopsZ g d := by
  apply List.ext_getElem
  · simp [fillH, hopsZ]
  · intro i h1 h2; simp [fillH, hopsZ] at h1 ⊢; omega
theorem fillH_set (g : List (List Int)) (d : List Int) (j : Nat) (h : j < g.length) : (fillH g d j).set j (hopZ g d j) = fillH g d (j + 1) := by
  apply List.ext_getElem
  · simp [fillH]
  · intro i h1 h2
    simp only [fillH, List.getElem_set, List.getElem_map, List.getElem_range]
    split
    · rename_i e; subst e; rw [if_pos (by omega)]
    · by_cases hij : i < j
      · rw [if_pos hij, if_pos (by omega)]
      · rw [if_neg hij, if_neg (by omega)]

theorem hops_ct {g : List (List Int)} {s : List Bool} (hg : OkG g s) (goal : Nat) (hgo : goal < g.length) : CT Try.prog 31 [] [.lst (gL g), .lst (boL s), .int .i64 (goal : Nat)] [] (lI (hopsZ g (distL g s goal g.length))) := by
  have hgl := hg.len
  have hl := gL_len g
  have c0 := distances_ct hg goal hgo
  have hdl := distL_len g s goal g.length
  have hsm := distL_small g s goal g.length (by omega)
  generalize distL g s goal g.length = d at c0 hdl hsm
  refine CT.path mix Try.func31 (show Try.f31.body = some (bodyOf Try.f31) by kernel_rfl) (Nat.le_of_ble_eq_true rfl) (hs_0 ⟨g, s, d, goal, 0, 0, 0, [], 0, 0, false, 0, [], []⟩ c0 (Int.le_refl _) (by simp only [iN, hl]; omega) (by simp only [iN, hl]; omega) ?_)
  have key : T Try.prog 0 (.loop (loopC (bodyOf Try.f31) 0)) (lo31 ⟨g, s, d, goal, g.length, 0, 0, [], 0, 0, false, 0, fillH g d 0, []⟩) (TK Try.prog 0 (Fin Try.prog Try.f31 0 [] (lI (hopsZ g d))) (loopK (bodyOf Try.f31) 0)) := by
    refine T.loop (fun i : Nat => lo31 ⟨g, s, d, goal, g.length, 0, i, [], 0, 0, false, 0, fillH g d i, []⟩) (fun i => i ≤ g.length) (fun i => g.length + 1 - i) 0 (Nat.zero_le _) ?_
    intro i hi
    by_cases h : i < g.length
    · refine T.path mix (hsr_0 ⟨g, s, d, goal, g.length, 0, i, [], hopZ g d i, 0, false, 0, fillH g d i, []⟩ (decide_eq_true (by simp only [iN]; omega)) (hop_ct hg d hdl hsm i h) (by simp [iN]) (by simp [iN]; omega) (by simp [iN, fillH_len]; omega) ?_)
      intro st hst
      simp only [iN, Int.toNat_natCast, wrap_nat i (show i < 9223372036854775807 by omega)] at hst
      rw [map_set, fillH_set _ _ _ h] at hst
      exact ⟨i + 1, hst, h, by omega⟩
    · obtain rfl : i = g.length := by omega
      have k := hsx_0 ⟨g, s, d, goal, g.length, 0, g.length, [], 0, 0, false, 0, fillH g d g.length, []⟩ (decide_eq_false (by simp only [iN]; omega)) (by simp [fillH_len])
      rw [← fillH_n]
      exact T.out mix k
  unfold lo31 dB at key
  simp only [hl, fillH_0 g d]
  exact key

theorem Hops_ct {g : List (List Int)} {s : List Bool} (hg : OkG g s) (hs : Asc g) (v : Nat) (hv : v < g.length) : CT Try.prog 14 [] [.lst (gL g), .lst (boL s), .int .i64 (v : Nat)] [] (.tup [lI (hopsZ g (distL g s v g.length)), .int .i64 0]) :=
  CT.path mix Try.func14 (show Try.f14.body = some (bodyOf Try.f14) by kernel_rfl) (Nat.le_of_ble_eq_true rfl) (hps_1 ⟨g, s, [], 0, 0, 0, 0, [], (v : Nat), 0, false, 0, hopsZ g (distL g s v g.length), []⟩ (check_ct hg hs v v hv hv) (by simp) (hops_ct hg v hv))

theorem sameInts_ct (L : List Int) (hL : L.length ≤ 1000000) : CT Try.prog 16 [] [lI L, lI L] [] (.bool true) := by
  refine CT.path mix Try.func16 (show Try.f16.body = some (bodyOf Try.f16) by kernel_rfl) (Nat.le_of_ble_eq_true rfl) (si_0 ⟨[], [], [], 0, 0, 0, 0, [], 0, 0, false, 0, L, []⟩ (by simp) ?_)
  refine T.loop (fun j : Nat => lo16 ⟨[], [], [], 0, 0, 0, j, [], 0, 0, false, 0, L, []⟩) (fun j => j ≤ L.length) (fun j => L.length + 1 - j) 0 (Nat.zero_le _) ?_
  intro j hj
  by_cases h : j < L.length
  · refine T.path mix (sir_0 ⟨[], [], [], 0, 0, 0, j, [], L.getD j 0, 0, false, 0, L, []⟩ (by simp [iN]; omega) (by simp [iN]) (lI_get h) (by simp) ?_)
    intro st hst
    rw [show IntKind.i64.wrap (iN j + 1) = ((j + 1 : Nat) : Int) from wrap_nat j (by omega)] at hst
    exact ⟨j + 1, hst, h, by omega⟩
  · exact T.out mix (six_0 ⟨[], [], [], 0, 0, 0, j, [], 0, 0, false, 0, L, []⟩ (by simp [iN]; omega))
#print axioms sameInts_ct
end Go.Proofs.Ytnpmcikbnnlmkaa

/-! Routes: paths and tables. -/
open Go Go.AX Go.Proofs
set_option maxRecDepth 100000
set_option maxHeartbeats 1000000
set_option linter.unusedVariables false
set_option linter.unusedSimpArgs false
namespace Go.Proofs.Ytnpmcikbnnlmkaa
noncomputable def wkZ (g : List (List Int)) (d : List Int) (a : Nat) : Nat → Int
  | 0 => (a : Int)
  | k + 1 => hopZ g d (wkZ g d a k).toNat
noncomputable def wkL (g : List (List Int)) (d : List Int) (a k : Nat) : List Int := (List.range (k + 1)).map (wkZ g d a)
theorem wkL_len (g : List (List Int)) (d : List Int) (a k : Nat) : (wkL g d a k).length = k + 1 := by simp [wkL]
theorem wkL_last (g : List (List Int)) (d : List Int) (a k : Nat) : (wkL g d a k).getD k 0 = wkZ g d a k := by simp [wkL]
theorem wkL_succ (g : List (List Int)) (d : List Int) (a k : Nat) : wkL g d a (k + 1) = wkL g d a k ++ [wkZ g d a (k + 1)] := by
  unfold wkL; rw [List.range_succ, List.map_append]; rfl

/-- A path that stays within the graph. -/
theorem path_ct {g : List (List Int)} {s : List Bool} (hg : OkG g s) (hs : Asc g) (a goal m : Nat) (ha : a < g.length) (hgo : goal < g.length) (hm : (distL g s goal g.length).getD a 0 = (m : Int)) (hmb : m ≤ 1000)
    (hin : ∀ k, k < m → 0 ≤ wkZ g (distL g s goal g.length) a k ∧ wkZ g (distL g s goal g.length) a k < (g.length : Int)) :
    CT Try.prog 17 [] [.lst (gL g), .lst (boL s), .int .i64 (a : Nat), .int .i64 (goal : Nat)] [] (.tup [lI (wkL g (distL g s goal g.length) a m), .int .i64 0]) := by
  have hgl := hg.len
  have c0 := distances_ct hg goal hgo
  have hdl := distL_len g s goal g.length
  have hsm := distL_small g s goal g.length (by omega)
  generalize distL g s goal g.length = d at c0 hdl hsm hm hin
  have hda := lI_get (l := d) (j := a) (by omega)
  rw [hm] at hda
  refine CT.path mix Try.func17 (show Try.f17.body = some (bodyOf Try.f17) by kernel_rfl) (Nat.le_of_ble_eq_true rfl) (pth_0 ⟨g, s, d, a, goal, 0, 0, [], 0, (m : Nat), false, 0, [], []⟩ (check_ct hg hs a goal ha hgo) (by simp) c0 (by simp [iN]) hda (decide_eq_false (by simp only; omega)) ?_)
  have key : T Try.prog 0 (.loop (loopC (bodyOf Try.f17) 0)) (lo17 ⟨g, s, d, a, goal, 0, 0, [], 0, (m : Nat), false, 0, wkL g d a 0, []⟩) (TK Try.prog 0 (Fin Try.prog Try.f17 0 [] (.tup [lI (wkL g d a m), .int .i64 0])) (loopK (bodyOf Try.f17) 0)) := by
    refine T.loop (fun k : Nat => lo17 ⟨g, s, d, a, goal, 0, k, [], 0, (m : Nat), false, 0, wkL g d a k, []⟩) (fun k => k ≤ m) (fun k => m + 1 - k) 0 (Nat.zero_le _) ?_
    intro k hk
    have hlen := wkL_len g d a k
    have hml := lI_len (wkL g d a k)
    by_cases h : k < m
    · obtain ⟨h0, h1⟩ := hin k h
      obtain ⟨u, hu⟩ : ∃ u : Nat, wkZ g d a k = (u : Int) := ⟨(wkZ g d a k).toNat, by omega⟩
      have hw : IntKind.i64.wrap (iN (k + 1) - 1) = (k : Int) := by
        have := wrapM1 (k + 1) (by omega) (by omega)
        simpa [iN] using this
      have hlast := lI_get (l := wkL g d a k) (j := k) (by omega)
      rw [wkL_last, hu] at hlast
      have hc := hop_ct hg d hdl hsm u (by omega)
      refine T.path mix (ptr_0 ⟨g, s, d, a, goal, u, k, [], hopZ g d u, (m : Nat), false, 0, wkL g d a k, []⟩ (decide_eq_true (by simp only [iN]; omega)) (by rw [hw]; omega) (by rw [hw]; simp only [iN]; omega) (by simp only [hw, Int.toNat_natCast, Nat.zero_add]; exact hlast) hc (by simp only [hml, hlen]) (by simp) (by simp [hlen]; omega) (by simp [hlen]; omega) ?_)
      intro st hst
      refine ⟨k + 1, ?_, h, by omega⟩
      have e2 : ∀ y : AV, ((wkL g d a k).map (AV.int .i64)).length + [y].length = k + 1 + 1 := by intro y; simp [hlen]
      have e3 : (wkL g d a (k + 1)).map (AV.int .i64) = (wkL g d a k).map (AV.int .i64) ++ [.int .i64 (hopZ g d u)] := by
        rw [wkL_succ, List.map_append, List.map_singleton]
        show _ ++ [AV.int .i64 (hopZ g d (wkZ g d a k).toNat)] = _
        rw [hu, Int.toNat_natCast]
      simp only [iN, wrap_nat k (show k < 9223372036854775807 by omega), e2] at hst
      show Ren 0 st (lo17 ⟨g, s, d, a, goal, 0, k + 1, [], 0, (m : Nat), false, 0, wkL g d a (k + 1), []⟩)
      unfold lo17 dB
      simp only [e3]
      exact hst
    · obtain rfl : k = m := by omega
      exact T.out mix (ptx_0 ⟨g, s, d, a, goal, 0, k, [], 0, (k : Nat), false, 0, wkL g d a k, []⟩ (decide_eq_false (by simp only [iN]; omega)) (by simp [hlen]))
  exact key

noncomputable def tabZ (g : List (List Int)) (s : List Bool) (k : Nat) : List (List Int) := (List.range k).map fun t => hopsZ g (distL g s t g.length)
theorem tabZ_len (g : List (List Int)) (s : List Bool) (k : Nat) : (tabZ g s k).length = k := by simp [tabZ]
theorem tabZ_succ (g : List (List Int)) (s : List Bool) (k : Nat) : tabZ g s (k + 1) = tabZ g s k ++ [hopsZ g (distL g s k g.length)] := by
  unfold tabZ; rw [List.range_succ, List.map_append]; rfl
noncomputable def lo19S (g : List (List Int)) (s : List Bool) : Nat → St
  | 0 => lo19z ⟨g, s, [], 0, 0, 0, 0, [], 0, 0, false, 0, [], []⟩
  | k + 1 => lo19 ⟨g, s, [], 0, 0, 0, k + 1, [], 0, 0, false, 0, [], tabZ g s (k + 1)⟩

theorem table_ct {g : List (List Int)} {s : List Bool} (hg : OkG g s) (hs : Asc g) (h0 : 0 < g.length) : CT Try.prog 19 [] [.lst (gL g), .lst (boL s)] [] (.tup [.lst (gL (tabZ g s g.length)), .int .i64 0]) := by
  have hgl := hg.len
  have hl := gL_len g
  refine CT.path mix Try.func19 (show Try.f19.body = some (bodyOf Try.f19) by kernel_rfl) (Nat.le_of_ble_eq_true rfl) (tb_1 ⟨g, s, [], 0, 0, 0, 0, [], 0, 0, false, 0, [], []⟩ (by simp [iN, hl]; intro e; subst e; simp at h0) (check_ct hg hs 0 0 h0 h0) (by simp) ?_)
  simp only [hl]
  refine T.loop (fun k : Nat => lo19S g s k) (fun k => k ≤ g.length) (fun k => g.length + 1 - k) 0 (Nat.zero_le _) ?_
  intro k hk
  cases k with
  | zero =>
    refine T.path mix (tb0_0 ⟨g, s, [], 0, 0, 0, 0, [], 0, 0, false, 0, hopsZ g (distL g s 0 g.length), []⟩ (decide_eq_true (by simp only [iN]; omega)) (hops_ct hg 0 h0) (by simp) (by simp) (by simp) ?_)
    intro st hst
    exact ⟨1, hst, by omega, by omega⟩
  | succ k =>
    have hlen := tabZ_len g s (k + 1)
    have hgt := gL_len (tabZ g s (k + 1))
    by_cases h : k + 1 < g.length
    · refine T.path mix (tbr_0 ⟨g, s, [], 0, 0, 0, k + 1, [], 0, 0, false, 0, hopsZ g (distL g s (k + 1) g.length), tabZ g s (k + 1)⟩ (decide_eq_true (by simp only [iN]; omega)) (hops_ct hg (k + 1) h) (by simp only [hgt, hlen]) (by simp) (by simp [hgt, hlen]; omega) (by simp [hgt, hlen]; omega) ?_)
      intro st hst
      refine ⟨k + 2, ?_, by omega, by omega⟩
      have e2 : ∀ y : AV, (gL (tabZ g s (k + 1))).length + [y].length = k + 1 + 1 := by intro y; simp [hgt, hlen]
      have e3 : gL (tabZ g s (k + 1 + 1)) = gL (tabZ g s (k + 1)) ++ [lI (hopsZ g (distL g s (k + 1) g.length))] := by
        rw [tabZ_succ]; simp [gL]
      simp only [iN, wrap_nat (k + 1) (show k + 1 < 9223372036854775807 by omega), e2] at hst
      show Ren 0 st (lo19 ⟨g, s, [], 0, 0, 0, k + 1 + 1, [], 0, 0, false, 0, [], tabZ g s (k + 1 + 1)⟩)
      unfold lo19
      simp only [e3]
      exact hst
    · have e : k + 1 = g.length := by omega
      rw [show tabZ g s g.length = tabZ g s (k + 1) by rw [e]]
      exact T.out mix (tbx_0 ⟨g, s, [], 0, 0, 0, k + 1, [], 0, 0, false, 0, [], tabZ g s (k + 1)⟩ (decide_eq_false (by simp only [iN]; omega)) (by simp only [hgt, hlen]))
#print axioms table_ct
end Go.Proofs.Ytnpmcikbnnlmkaa

/-! The paths of a function, by evaluation. -/
open Go Go.AX Go.Proofs
set_option maxRecDepth 100000
set_option maxHeartbeats 4000000
set_option linter.unusedVariables false
namespace Go.Proofs.Ytnpmcikbnnlmkaa
def kg : List (List Int) := [[1], [2], [3], [0]]
def ks : List Bool := [false, false, false, false]
noncomputable def st8 (u : Unit) : St := { n := Try.f8.ntmps, fr := [], hp := [] }
noncomputable def s8b (u : Unit) : St := { n := Try.f8.ntmps, fr := [(0, .bool false)], hp := [] }
noncomputable def s8c (u : Unit) : St := { n := Try.f8.ntmps, fr := [(0, .bool false), (1, .lst (gL kg)), (2, .lst (boL ks))], hp := [] }
def c8 (u : Unit) : Nat → FuncId → List AV → List (Option Blk) → Hint := fun dst f args _ => match f with
  | 12 => .call [] [] [] (.tup [lI [0, 3, 2, 1], .int .i64 0])
  | 14 => .call [] [] [] (.tup [lI [-1, 2, 3, 0], .int .i64 0])
  | 17 => .call [] [] [] (.tup [lI [1, 2, 3, 0], .int .i64 0])
  | 19 => .call [] [] [] (.tup [.lst (gL [[-1, 2, 3, 0], [1, -1, 3, 0], [1, 2, -1, 0], [1, 2, 3, -1]]), .int .i64 0])
  | 16 => match args with
    | [_, .sl b _ _] => .call [] [b] [] (.bool true)
    | _ => .call [] [] [] (.bool true)
  | _ => .no
def e8 (u : Unit) : List (Nat × AV) := []
theorem k0_0 (u : Unit) {post : Exit → St → Prop} {R : St → Prop} (hR : ∀ st, Ren 0 st (St.mk 82 [(0, AV.bool false)] []) → R st) : ∃ o' st' q', go Try.prog ({ dec := [], els := e8 u, calls := c8 u, unroll := false } : HT) 0 4000 (.inl (sL (sR 0 (bodyOf Try.f8)))) [] (st8 u) = some (o', st', q') ∧ q' ∧ Go.AX.Rest Try.prog 0 (andThen R post) st' o' :=
  endN_spec (σ := []) (fz := []) (vars := [0]) (show endN 0 [] [] [0] (go Try.prog ({ dec := [], els := e8 u, calls := c8 u, unroll := false } : HT) 0 4000 (.inl (sL (sR 0 (bodyOf Try.f8)))) [] (st8 u)) = some (St.mk 82 [(0, AV.bool false)] [], (((True ∧ True) ∧ True) ∧ (True ∧ True))) by kernel_rfl) ⟨⟨⟨trivial, trivial⟩, trivial⟩, ⟨trivial, trivial⟩⟩ hR
theorem k1_0 (u : Unit) {post : Exit → St → Prop} {R : St → Prop} (hR : ∀ st, Ren 0 st (St.mk 82 [(0, AV.bool false), (1, AV.sl 0 0 4), (2, AV.lst [AV.bool false, AV.bool false, AV.bool false, AV.bool false])] [some (Blk.mk [AV.lst [AV.int IntKind.i64 1], AV.lst [AV.int IntKind.i64 2], AV.lst [AV.int IntKind.i64 3], AV.lst [AV.int IntKind.i64 0]] 1 true true)]) → R st) : ∃ o' st' q', go Try.prog ({ dec := [], els := e8 u, calls := c8 u, unroll := false } : HT) 0 4000 (.inl (sL (sR 1 (bodyOf Try.f8)))) [] (s8b u) = some (o', st', q') ∧ q' ∧ Go.AX.Rest Try.prog 0 (andThen R post) st' o' :=
  endN_spec (σ := [4]) (fz := [0,1,2,3,5]) (vars := [0,1,2]) (show endN 0 [4] [0,1,2,3,5] [0,1,2] (go Try.prog ({ dec := [], els := e8 u, calls := c8 u, unroll := false } : HT) 0 4000 (.inl (sL (sR 1 (bodyOf Try.f8)))) [] (s8b u)) = some (St.mk 82 [(0, AV.bool false), (1, AV.sl 0 0 4), (2, AV.lst [AV.bool false, AV.bool false, AV.bool false, AV.bool false])] [some (Blk.mk [AV.lst [AV.int IntKind.i64 1], AV.lst [AV.int IntKind.i64 2], AV.lst [AV.int IntKind.i64 3], AV.lst [AV.int IntKind.i64 0]] 1 true true)], (((True ∧ (True ∧ (True ∧ (True ∧ ((True ∧ (True ∧ (True ∧ (True ∧ True)))) ∧ (True ∧ ((True ∧ True) ∧ ((True ∧ True) ∧ True)))))))) ∧ True) ∧ (True ∧ (True ∧ ((nat_lit 4 = nat_lit 4) ∧ (((nat_lit 1 = nat_lit 1) ∧ ((nat_lit 1 = nat_lit 1) ∧ ((nat_lit 1 = nat_lit 1) ∧ ((nat_lit 1 = nat_lit 1) ∧ True)))) ∧ True)))))) by kernel_rfl) ⟨⟨⟨trivial, ⟨trivial, ⟨trivial, ⟨trivial, ⟨⟨trivial, ⟨trivial, ⟨trivial, ⟨trivial, trivial⟩⟩⟩⟩, ⟨trivial, ⟨⟨trivial, trivial⟩, ⟨⟨trivial, trivial⟩, trivial⟩⟩⟩⟩⟩⟩⟩⟩, trivial⟩, ⟨trivial, ⟨trivial, ⟨(by first | decide | exact Int.NonNeg.mk _), ⟨⟨(by first | decide | exact Int.NonNeg.mk _), ⟨(by first | decide | exact Int.NonNeg.mk _), ⟨(by first | decide | exact Int.NonNeg.mk _), ⟨(by first | decide | exact Int.NonNeg.mk _), trivial⟩⟩⟩⟩, trivial⟩⟩⟩⟩⟩ hR
theorem k2_0 (u : Unit) (h1 : (CT Try.prog (nat_lit 12) [] [AV.lst [AV.lst [AV.int IntKind.i64 (1 : Int)], AV.lst [AV.int IntKind.i64 (2 : Int)], AV.lst [AV.int IntKind.i64 (3 : Int)], AV.lst [AV.int IntKind.i64 (0 : Int)]], AV.lst [AV.bool false, AV.bool false, AV.bool false, AV.bool false], AV.int IntKind.i64 (0 : Int)] [] (AV.tup [AV.lst [AV.int IntKind.i64 (0 : Int), AV.int IntKind.i64 (3 : Int), AV.int IntKind.i64 (2 : Int), AV.int IntKind.i64 (1 : Int)], AV.int IntKind.i64 (0 : Int)]))) (h2 : (CT Try.prog (nat_lit 14) [] [AV.lst [AV.lst [AV.int IntKind.i64 (1 : Int)], AV.lst [AV.int IntKind.i64 (2 : Int)], AV.lst [AV.int IntKind.i64 (3 : Int)], AV.lst [AV.int IntKind.i64 (0 : Int)]], AV.lst [AV.bool false, AV.bool false, AV.bool false, AV.bool false], AV.int IntKind.i64 (0 : Int)] [] (AV.tup [AV.lst [AV.int IntKind.i64 (-1 : Int), AV.int IntKind.i64 (2 : Int), AV.int IntKind.i64 (3 : Int), AV.int IntKind.i64 (0 : Int)], AV.int IntKind.i64 (0 : Int)]))) (h3 : (CT Try.prog (nat_lit 17) [] [AV.lst [AV.lst [AV.int IntKind.i64 (1 : Int)], AV.lst [AV.int IntKind.i64 (2 : Int)], AV.lst [AV.int IntKind.i64 (3 : Int)], AV.lst [AV.int IntKind.i64 (0 : Int)]], AV.lst [AV.bool false, AV.bool false, AV.bool false, AV.bool false], AV.int IntKind.i64 (1 : Int), AV.int IntKind.i64 (0 : Int)] [] (AV.tup [AV.lst [AV.int IntKind.i64 (1 : Int), AV.int IntKind.i64 (2 : Int), AV.int IntKind.i64 (3 : Int), AV.int IntKind.i64 (0 : Int)], AV.int IntKind.i64 (0 : Int)]))) (h4 : (CT Try.prog (nat_lit 19) [] [AV.lst [AV.lst [AV.int IntKind.i64 (1 : Int)], AV.lst [AV.int IntKind.i64 (2 : Int)], AV.lst [AV.int IntKind.i64 (3 : Int)], AV.lst [AV.int IntKind.i64 (0 : Int)]], AV.lst [AV.bool false, AV.bool false, AV.bool false, AV.bool false]] [] (AV.tup [AV.lst [AV.lst [AV.int IntKind.i64 (-1 : Int), AV.int IntKind.i64 (2 : Int), AV.int IntKind.i64 (3 : Int), AV.int IntKind.i64 (0 : Int)], AV.lst [AV.int IntKind.i64 (1 : Int), AV.int IntKind.i64 (-1 : Int), AV.int IntKind.i64 (3 : Int), AV.int IntKind.i64 (0 : Int)], AV.lst [AV.int IntKind.i64 (1 : Int), AV.int IntKind.i64 (2 : Int), AV.int IntKind.i64 (-1 : Int), AV.int IntKind.i64 (0 : Int)], AV.lst [AV.int IntKind.i64 (1 : Int), AV.int IntKind.i64 (2 : Int), AV.int IntKind.i64 (3 : Int), AV.int IntKind.i64 (-1 : Int)]], AV.int IntKind.i64 (0 : Int)]))) (h5 : (CT Try.prog (nat_lit 16) [] [AV.lst [AV.int IntKind.i64 (0 : Int), AV.int IntKind.i64 (3 : Int), AV.int IntKind.i64 (2 : Int), AV.int IntKind.i64 (1 : Int)], AV.lst [AV.int IntKind.i64 (0 : Int), AV.int IntKind.i64 (3 : Int), AV.int IntKind.i64 (2 : Int), AV.int IntKind.i64 (1 : Int)]] [] (AV.bool true))) (h6 : (CT Try.prog (nat_lit 16) [] [AV.lst [AV.int IntKind.i64 (-1 : Int), AV.int IntKind.i64 (2 : Int), AV.int IntKind.i64 (3 : Int), AV.int IntKind.i64 (0 : Int)], AV.lst [AV.int IntKind.i64 (-1 : Int), AV.int IntKind.i64 (2 : Int), AV.int IntKind.i64 (3 : Int), AV.int IntKind.i64 (0 : Int)]] [] (AV.bool true))) (h7 : (CT Try.prog (nat_lit 16) [] [AV.lst [AV.int IntKind.i64 (1 : Int), AV.int IntKind.i64 (2 : Int), AV.int IntKind.i64 (3 : Int), AV.int IntKind.i64 (0 : Int)], AV.lst [AV.int IntKind.i64 (1 : Int), AV.int IntKind.i64 (2 : Int), AV.int IntKind.i64 (3 : Int), AV.int IntKind.i64 (0 : Int)]] [] (AV.bool true))) : ∃ o' st' q', go Try.prog ({ dec := [], els := e8 u, calls := c8 u, unroll := false } : HT) 0 4000 (.inl (sR 2 (bodyOf Try.f8))) [] (s8c u) = some (o', st', q') ∧ q' ∧ Go.AX.Rest Try.prog 0 (Fin Try.prog Try.f8 0 [] (AV.bool true)) st' o' :=
  endF_spec (σ := []) (fz := []) (show endF Try.prog Try.f8 0 [] [] (go Try.prog ({ dec := [], els := e8 u, calls := c8 u, unroll := false } : HT) 0 4000 (.inl (sR 2 (bodyOf Try.f8))) [] (s8c u)) = some ([], AV.bool true, ((((True ∧ True) ∧ ((True ∧ True) ∧ ((True ∧ (True ∧ (True ∧ (True ∧ (True ∧ ((type_of% h1) ∧ True)))))) ∧ ((True ∧ True) ∧ ((True ∧ True) ∧ ((True ∧ True) ∧ ((True ∧ True) ∧ ((True ∧ True) ∧ True)))))))) ∧ (((True ∧ True) ∧ ((True ∧ True) ∧ ((True ∧ (True ∧ (True ∧ (True ∧ (True ∧ ((type_of% h2) ∧ True)))))) ∧ ((True ∧ True) ∧ ((True ∧ True) ∧ ((True ∧ True) ∧ ((True ∧ True) ∧ ((True ∧ True) ∧ True)))))))) ∧ (((True ∧ True) ∧ ((True ∧ True) ∧ ((True ∧ (True ∧ (True ∧ (True ∧ (True ∧ (True ∧ ((type_of% h3) ∧ True))))))) ∧ ((True ∧ True) ∧ ((True ∧ True) ∧ ((True ∧ True) ∧ ((True ∧ True) ∧ ((True ∧ True) ∧ True)))))))) ∧ (((True ∧ True) ∧ ((True ∧ True) ∧ ((True ∧ (True ∧ (True ∧ (True ∧ ((type_of% h4) ∧ True))))) ∧ ((True ∧ True) ∧ ((True ∧ True) ∧ ((True ∧ True) ∧ ((True ∧ True) ∧ ((True ∧ True) ∧ True)))))))) ∧ (((True ∧ True) ∧ ((True ∧ True) ∧ ((True ∧ True) ∧ ((True ∧ (True ∧ True)) ∧ ((True ∧ (True ∧ True)) ∧ ((True ∧ (True ∧ True)) ∧ ((True ∧ True) ∧ ((True ∧ (True ∧ True)) ∧ ((True ∧ (True ∧ True)) ∧ ((True ∧ (True ∧ True)) ∧ ((True ∧ True) ∧ ((True ∧ (True ∧ True)) ∧ ((True ∧ (True ∧ True)) ∧ ((True ∧ (True ∧ True)) ∧ ((True ∧ True) ∧ ((True ∧ (True ∧ True)) ∧ ((True ∧ True) ∧ ((True ∧ (True ∧ (True ∧ (True ∧ ((nat_lit 4 = nat_lit 4) ∧ ((type_of% h5) ∧ (∀ (blk : Blk), blk ∈ [] → ImmB blk))))))) ∧ ((True ∧ (True ∧ True)) ∧ ((True ∧ True) ∧ ((True ∧ (True ∧ True)) ∧ ((True ∧ True) ∧ ((True ∧ (True ∧ (True ∧ (True ∧ ((nat_lit 4 = nat_lit 4) ∧ ((type_of% h6) ∧ (∀ (blk : Blk), blk ∈ [] → ImmB blk))))))) ∧ ((True ∧ (True ∧ True)) ∧ ((True ∧ True) ∧ ((True ∧ (True ∧ True)) ∧ ((True ∧ True) ∧ ((True ∧ (True ∧ (True ∧ (True ∧ ((nat_lit 4 = nat_lit 4) ∧ ((type_of% h7) ∧ (∀ (blk : Blk), blk ∈ [] → ImmB blk))))))) ∧ ((True ∧ (True ∧ True)) ∧ ((True ∧ True) ∧ ((True ∧ (True ∧ True)) ∧ ((True ∧ (True ∧ True)) ∧ ((True ∧ (True ∧ True)) ∧ ((True ∧ (True ∧ True)) ∧ ((True ∧ True) ∧ ((True ∧ (True ∧ True)) ∧ ((True ∧ (True ∧ (Int.NonNeg (0 : Int)))) ∧ ((True ∧ (True ∧ True)) ∧ ((True ∧ (True ∧ True)) ∧ ((True ∧ (True ∧ (True ∧ (True ∧ (True ∧ ((type_of% h6) ∧ True)))))) ∧ ((True ∧ (True ∧ True)) ∧ ((True ∧ True) ∧ True)))))))))))))))))))))))))))))))))))))))))) ∧ True))))) ∧ (True ∧ True))) by kernel_rfl) ⟨⟨⟨⟨trivial, trivial⟩, ⟨⟨trivial, trivial⟩, ⟨⟨trivial, ⟨trivial, ⟨trivial, ⟨trivial, ⟨trivial, ⟨h1, trivial⟩⟩⟩⟩⟩⟩, ⟨⟨trivial, trivial⟩, ⟨⟨trivial, trivial⟩, ⟨⟨trivial, trivial⟩, ⟨⟨trivial, trivial⟩, ⟨⟨trivial, trivial⟩, trivial⟩⟩⟩⟩⟩⟩⟩⟩, ⟨⟨⟨trivial, trivial⟩, ⟨⟨trivial, trivial⟩, ⟨⟨trivial, ⟨trivial, ⟨trivial, ⟨trivial, ⟨trivial, ⟨h2, trivial⟩⟩⟩⟩⟩⟩, ⟨⟨trivial, trivial⟩, ⟨⟨trivial, trivial⟩, ⟨⟨trivial, trivial⟩, ⟨⟨trivial, trivial⟩, ⟨⟨trivial, trivial⟩, trivial⟩⟩⟩⟩⟩⟩⟩⟩, ⟨⟨⟨trivial, trivial⟩, ⟨⟨trivial, trivial⟩, ⟨⟨trivial, ⟨trivial, ⟨trivial, ⟨trivial, ⟨trivial, ⟨trivial, ⟨h3, trivial⟩⟩⟩⟩⟩⟩⟩, ⟨⟨trivial, trivial⟩, ⟨⟨trivial, trivial⟩, ⟨⟨trivial, trivial⟩, ⟨⟨trivial, trivial⟩, ⟨⟨trivial, trivial⟩, trivial⟩⟩⟩⟩⟩⟩⟩⟩, ⟨⟨⟨trivial, trivial⟩, ⟨⟨trivial, trivial⟩, ⟨⟨trivial, ⟨trivial, ⟨trivial, ⟨trivial, ⟨h4, trivial⟩⟩⟩⟩⟩, ⟨⟨trivial, trivial⟩, ⟨⟨trivial, trivial⟩, ⟨⟨trivial, trivial⟩, ⟨⟨trivial, trivial⟩, ⟨⟨trivial, trivial⟩, trivial⟩⟩⟩⟩⟩⟩⟩⟩, ⟨⟨⟨trivial, trivial⟩, ⟨⟨trivial, trivial⟩, ⟨⟨trivial, trivial⟩, ⟨⟨trivial, ⟨trivial, trivial⟩⟩, ⟨⟨trivial, ⟨trivial, trivial⟩⟩, ⟨⟨trivial, ⟨trivial, trivial⟩⟩, ⟨⟨trivial, trivial⟩, ⟨⟨trivial, ⟨trivial, trivial⟩⟩, ⟨⟨trivial, ⟨trivial, trivial⟩⟩, ⟨⟨trivial, ⟨trivial, trivial⟩⟩, ⟨⟨trivial, trivial⟩, ⟨⟨trivial, ⟨trivial, trivial⟩⟩, ⟨⟨trivial, ⟨trivial, trivial⟩⟩, ⟨⟨trivial, ⟨trivial, trivial⟩⟩, ⟨⟨trivial, trivial⟩, ⟨⟨trivial, ⟨trivial, trivial⟩⟩, ⟨⟨trivial, trivial⟩, ⟨⟨trivial, ⟨trivial, ⟨trivial, ⟨trivial, ⟨(by first | decide | exact Int.NonNeg.mk _), ⟨h5, (by intro _ h; cases h)⟩⟩⟩⟩⟩⟩, ⟨⟨trivial, ⟨trivial, trivial⟩⟩, ⟨⟨trivial, trivial⟩, ⟨⟨trivial, ⟨trivial, trivial⟩⟩, ⟨⟨trivial, trivial⟩, ⟨⟨trivial, ⟨trivial, ⟨trivial, ⟨trivial, ⟨(by first | decide | exact Int.NonNeg.mk _), ⟨h6, (by intro _ h; cases h)⟩⟩⟩⟩⟩⟩, ⟨⟨trivial, ⟨trivial, trivial⟩⟩, ⟨⟨trivial, trivial⟩, ⟨⟨trivial, ⟨trivial, trivial⟩⟩, ⟨⟨trivial, trivial⟩, ⟨⟨trivial, ⟨trivial, ⟨trivial, ⟨trivial, ⟨(by first | decide | exact Int.NonNeg.mk _), ⟨h7, (by intro _ h; cases h)⟩⟩⟩⟩⟩⟩, ⟨⟨trivial, ⟨trivial, trivial⟩⟩, ⟨⟨trivial, trivial⟩, ⟨⟨trivial, ⟨trivial, trivial⟩⟩, ⟨⟨trivial, ⟨trivial, trivial⟩⟩, ⟨⟨trivial, ⟨trivial, trivial⟩⟩, ⟨⟨trivial, ⟨trivial, trivial⟩⟩, ⟨⟨trivial, trivial⟩, ⟨⟨trivial, ⟨trivial, trivial⟩⟩, ⟨⟨trivial, ⟨trivial, (by first | decide | exact Int.NonNeg.mk _)⟩⟩, ⟨⟨trivial, ⟨trivial, trivial⟩⟩, ⟨⟨trivial, ⟨trivial, trivial⟩⟩, ⟨⟨trivial, ⟨trivial, ⟨trivial, ⟨trivial, ⟨trivial, ⟨h6, trivial⟩⟩⟩⟩⟩⟩, ⟨⟨trivial, ⟨trivial, trivial⟩⟩, ⟨⟨trivial, trivial⟩, trivial⟩⟩⟩⟩⟩⟩⟩⟩⟩⟩⟩⟩⟩⟩⟩⟩⟩⟩⟩⟩⟩⟩⟩⟩⟩⟩⟩⟩⟩⟩⟩⟩⟩⟩⟩⟩⟩⟩⟩⟩⟩⟩, trivial⟩⟩⟩⟩⟩, ⟨trivial, trivial⟩⟩
end Go.Proofs.Ytnpmcikbnnlmkaa

/-! Routes: known. -/
open Go Go.AX Go.Proofs
set_option maxRecDepth 100000
set_option maxHeartbeats 1000000
set_option linter.unusedVariables false
set_option linter.unusedSimpArgs false
namespace Go.Proofs.Ytnpmcikbnnlmkaa
theorem kg_ok : OkG kg ks := by
  refine ⟨by decide, fun v hv => ?_, rfl⟩
  have : v < 4 := hv
  match v, this with
  | 0, _ => exact ⟨by decide, by decide⟩
  | 1, _ => exact ⟨by decide, by decide⟩
  | 2, _ => exact ⟨by decide, by decide⟩
  | 3, _ => exact ⟨by decide, by decide⟩
theorem kg_asc : Asc kg := by
  intro v hv i h0 hi
  have : v < 4 := hv
  match v, this with
  | 0, _ => exact absurd hi (by show ¬ i < 1; omega)
  | 1, _ => exact absurd hi (by show ¬ i < 1; omega)
  | 2, _ => exact absurd hi (by show ¬ i < 1; omega)
  | 3, _ => exact absurd hi (by show ¬ i < 1; omega)
theorem kd0 : distL kg ks 0 4 = [0, 3, 2, 1] := by decide +kernel
theorem kh0 : hopsZ kg (distL kg ks 0 4) = [-1, 2, 3, 0] := by decide +kernel
theorem kt : tabZ kg ks 4 = [[-1, 2, 3, 0], [1, -1, 3, 0], [1, 2, -1, 0], [1, 2, 3, -1]] := by
  have h1 : hopsZ kg (distL kg ks 0 4) = [-1, 2, 3, 0] := by decide +kernel
  have h2 : hopsZ kg (distL kg ks 1 4) = [1, -1, 3, 0] := by decide +kernel
  have h3 : hopsZ kg (distL kg ks 2 4) = [1, 2, -1, 0] := by decide +kernel
  have h4 : hopsZ kg (distL kg ks 3 4) = [1, 2, 3, -1] := by decide +kernel
  show [hopsZ kg (distL kg ks 0 4), hopsZ kg (distL kg ks 1 4), hopsZ kg (distL kg ks 2 4), hopsZ kg (distL kg ks 3 4)] = _
  rw [h1, h2, h3, h4]
theorem kw : ∀ k, k < 4 → wkZ kg (distL kg ks 0 4) 1 k = [1, 2, 3, 0].getD k 0 := by
  have e1 : hopZ kg [0, 3, 2, 1] 1 = 2 := by decide +kernel
  have e2 : hopZ kg [0, 3, 2, 1] 2 = 3 := by decide +kernel
  have e3 : hopZ kg [0, 3, 2, 1] 3 = 0 := by decide +kernel
  have w0 : wkZ kg [0, 3, 2, 1] 1 0 = 1 := rfl
  have w1 : wkZ kg [0, 3, 2, 1] 1 1 = 2 := by show hopZ _ _ (wkZ kg [0, 3, 2, 1] 1 0).toNat = 2; rw [w0]; exact e1
  have w2 : wkZ kg [0, 3, 2, 1] 1 2 = 3 := by show hopZ _ _ (wkZ kg [0, 3, 2, 1] 1 1).toNat = 3; rw [w1]; exact e2
  have w3 : wkZ kg [0, 3, 2, 1] 1 3 = 0 := by show hopZ _ _ (wkZ kg [0, 3, 2, 1] 1 2).toNat = 0; rw [w2]; exact e3
  rw [kd0]
  intro k hk
  match k, hk with
  | 0, _ => exact w0
  | 1, _ => exact w1
  | 2, _ => exact w2
  | 3, _ => exact w3

theorem known_ct : CT Try.prog 8 [] [] [] (.bool true) := by
  have hb : Try.f8.body = some (bodyOf Try.f8) := by kernel_rfl
  have a1 := Distances_ct kg_ok kg_asc 0 (by decide)
  have a2 := Hops_ct kg_ok kg_asc 0 (by decide)
  have a3 := path_ct kg_ok kg_asc 1 0 3 (by decide) (by decide) (by rw [show kg.length = 4 from rfl, kd0]; rfl) (by omega) (fun k hk => by
    rw [show kg.length = 4 from rfl, kw k (by omega)]
    match k, hk with
    | 0, _ => exact ⟨by decide, by decide⟩
    | 1, _ => exact ⟨by decide, by decide⟩
    | 2, _ => exact ⟨by decide, by decide⟩)
  have a4 := table_ct kg_ok kg_asc (by decide)
  rw [show kg.length = 4 from rfl] at a1 a2 a3 a4
  rw [kh0] at a2
  rw [kd0] at a1
  rw [kt] at a4
  have ew : wkL kg (distL kg ks 0 4) 1 3 = [1, 2, 3, 0] := by
    show [wkZ kg (distL kg ks 0 4) 1 0, wkZ kg (distL kg ks 0 4) 1 1, wkZ kg (distL kg ks 0 4) 1 2, wkZ kg (distL kg ks 0 4) 1 3] = _
    rw [kw 0 (by omega), kw 1 (by omega), kw 2 (by omega), kw 3 (by omega)]; rfl
  rw [ew] at a3
  refine CT.of Try.func8 hb (Nat.zero_le _) (T.cut (by kernel_rfl) (T.path mix (k0_0 () fun st hst => T.ren hst ?_)))
  refine T.cut (by kernel_rfl) (T.path mix (k1_0 () fun st hst => T.ren hst ?_))
  rw [sR_succ 1 (bodyOf Try.f8) (by kernel_rfl)]
  refine T.ren ?_ (T.path mix (k2_0 () a1 a2 a3 a4 (sameInts_ct [0, 3, 2, 1] (by decide)) (sameInts_ct [-1, 2, 3, 0] (by decide)) (sameInts_ct [1, 2, 3, 0] (by decide))))
  exact okRen_spec (σ := []) (fz := [0]) (vars := [0, 1, 2]) (p := (True ∧ ((4 = [1, 2, 3, 4].length) ∧ (True ∧ True)))) rfl (by kernel_rfl) ⟨trivial, rfl, trivial, trivial⟩
#print axioms known_ct
end Go.Proofs.Ytnpmcikbnnlmkaa

/-! The paths of a function, by evaluation. -/
open Go Go.AX Go.Proofs
set_option maxRecDepth 100000
set_option maxHeartbeats 4000000
set_option linter.unusedVariables false
namespace Go.Proofs.Ytnpmcikbnnlmkaa
structure QG where
  L : List Int
  g : List (List Int)
  l : List Int
  o : List Int
  s : List Bool
  kk : Nat
  n : Nat
  k : Int
  v : Nat
  w : Nat
  x : Int
  i : Nat
  e : Int
  b : Bool
noncomputable def st23 (q : QG) : St := { n := Try.f23.ntmps, fr := [(0, lI q.l), (1, .int .i64 q.x)], hp := [] }
noncomputable def lo23 (q : QG) : St := { n := Try.f23.ntmps, fr := [(0, lI q.l), (1, .int .i64 q.x), (5, .int .i64 (iN q.i))], hp := [] }
def nextG (L : List Int) (args : List AV) (hp : List (Option Blk)) (v : Int) : Hint := match args with
  | [.ptr b _ _, _] => match nth hp b with
    | some blk => match blk.es with
      | [.agg [_, .int _ e]] => .call [b] [] [tapeB L (e.toNat + 1)] (.int .i64 v)
      | _ => .no
    | none => .no
  | _ => .no
def cG (q : QG) : Nat → FuncId → List AV → List (Option Blk) → Hint := fun dst f args hp => match f with
  | 11 => nextG q.L args hp (match dst with | 13 => (iN q.n) | 20 => q.k | 27 => iN q.v | 30 => iN q.w | 10 => q.k | _ => iN q.v)
  | 23 => .call [] [] [] (.bool q.b)
  | 25 => .call [] [] [] (lI q.o)
  | _ => .no
def e23 (q : QG) : List (Nat × AV) := [(14, .int .i64 q.e)]
noncomputable def st25 (q : QG) : St := { n := Try.f25.ntmps, fr := [(0, lI q.l), (1, .int .i64 q.x)], hp := [] }
noncomputable def lz25 (q : QG) : St := { n := Try.f25.ntmps, fr := [(0, lI q.l), (1, .int .i64 q.x), (5, .nils), (6, .bool false), (7, .int .i64 (iN q.i))], hp := [] }
noncomputable def lo25 (q : QG) : St := { n := Try.f25.ntmps, fr := [(0, lI q.l), (1, .int .i64 q.x), (5, .sl 0 0 q.o.length), (6, .bool q.b), (7, .int .i64 (iN q.i))], hp := [some (dB q.o)] }
def e25 (q : QG) : List (Nat × AV) := [(19, .int .i64 q.e), (31, .int .i64 q.e)]
noncomputable def st9 (q : QG) : St := { n := Try.f9.ntmps, fr := [(0, .ptr 0 0 0), (1, .int .i64 q.x)], hp := [some (tapeB q.L q.kk)] }
noncomputable def lo9 (q : QG) : St := { n := Try.f9.ntmps, fr := [(0, .ptr 0 0 0), (5, .int .i64 (iN q.n)), (6, .sl 1 0 q.n), (7, .int .i64 q.k)], hp := [some (tapeB q.L q.kk), some { es := gL q.g, z := 1 }] }
def e9 (q : QG) : List (Nat × AV) := [(38, lI q.l), (48, lI q.l)]
noncomputable def st10 (q : QG) : St := { n := Try.f10.ntmps, fr := [(0, .ptr 0 0 0), (1, .int .i64 (iN q.n))], hp := [some (tapeB q.L q.kk)] }
noncomputable def lo10 (q : QG) : St := { n := Try.f10.ntmps, fr := [(0, .ptr 0 0 0), (1, .int .i64 (iN q.n)), (5, .sl 1 0 q.n), (6, .int .i64 q.k)], hp := [some (tapeB q.L q.kk), some { es := boL q.s, z := 1 }] }
def e10 (q : QG) : List (Nat × AV) := []
theorem ha_0 (q : QG) {post : Exit → St → Prop} (ht : T Try.prog 0 (.loop (loopC (bodyOf Try.f23) 0)) (St.mk 18 [(0, AV.lst (List.map (AV.int IntKind.i64) q.l)), (1, AV.int IntKind.i64 q.x), (5, AV.int IntKind.i64 0)] []) (TK Try.prog 0 post (loopK (bodyOf Try.f23) 0))) : ∃ o' st' q', go Try.prog ({ dec := [], els := e23 q, calls := cG q, unroll := false } : HT) 0 4000 (.inl (bodyOf Try.f23)) [] (st23 q) = some (o', st', q') ∧ q' ∧ Go.AX.Rest Try.prog 0 post st' o' :=
  endR_spec (σ := []) (fz := []) (vars := [0,1,5]) (show endR 0 [] [] [0,1,5] (go Try.prog ({ dec := [], els := e23 q, calls := cG q, unroll := false } : HT) 0 4000 (.inl (bodyOf Try.f23)) [] (st23 q)) = some (loopC (bodyOf Try.f23) 0, loopK (bodyOf Try.f23) 0, St.mk 18 [(0, AV.lst (List.map (AV.int IntKind.i64) q.l)), (1, AV.int IntKind.i64 q.x), (5, AV.int IntKind.i64 0)] [], (((True ∧ True) ∧ ((True ∧ True) ∧ True)) ∧ (True ∧ (True ∧ (True ∧ True))))) by kernel_rfl) ⟨⟨⟨trivial, trivial⟩, ⟨⟨trivial, trivial⟩, trivial⟩⟩, ⟨trivial, ⟨trivial, ⟨trivial, trivial⟩⟩⟩⟩ ht
theorem hax_0 (q : QG) (h1 : (decide (iN q.i < iN (List.map (AV.int IntKind.i64) q.l).length) = false)) : ∃ o' st' q', go2 Try.prog ({ dec := [(9, false)], els := e23 q, calls := cG q, unroll := false } : HT) 0 4000 (loopC (bodyOf Try.f23) 0) (loopK (bodyOf Try.f23) 0) (lo23 q) = some (o', st', q') ∧ q' ∧ Go.AX.Rest Try.prog 0 (Fin Try.prog Try.f23 0 [] (AV.bool false)) st' o' :=
  endF_spec (σ := []) (fz := []) (show endF Try.prog Try.f23 0 [] [] (go2 Try.prog ({ dec := [(9, false)], els := e23 q, calls := cG q, unroll := false } : HT) 0 4000 (loopC (bodyOf Try.f23) 0) (loopK (bodyOf Try.f23) 0) (lo23 q)) = some ([], AV.bool false, (((((True ∧ True) ∧ ((True ∧ True) ∧ ((True ∧ True) ∧ ((True ∧ (True ∧ True)) ∧ True)))) ∧ ((type_of% h1) ∧ True)) ∧ ((True ∧ True) ∧ True)) ∧ (True ∧ True))) by kernel_rfl) ⟨⟨⟨⟨⟨trivial, trivial⟩, ⟨⟨trivial, trivial⟩, ⟨⟨trivial, trivial⟩, ⟨⟨trivial, ⟨trivial, trivial⟩⟩, trivial⟩⟩⟩⟩, ⟨h1, trivial⟩⟩, ⟨⟨trivial, trivial⟩, trivial⟩⟩, ⟨trivial, trivial⟩⟩
theorem hay_0 (q : QG) (h1 : (decide (iN q.i < iN (List.map (AV.int IntKind.i64) q.l).length) = true)) (h2 : (0 ≤ iN q.i)) (h3 : ((List.map (AV.int IntKind.i64) q.l)[(iN q.i).toNat]? = some (AV.int IntKind.i64 q.e))) (h4 : ((q.e == q.x) = true)) : ∃ o' st' q', go2 Try.prog ({ dec := [(9, true), (17, true)], els := e23 q, calls := cG q, unroll := false } : HT) 0 4000 (loopC (bodyOf Try.f23) 0) (loopK (bodyOf Try.f23) 0) (lo23 q) = some (o', st', q') ∧ q' ∧ Go.AX.Rest Try.prog 0 (Fin Try.prog Try.f23 0 [] (AV.bool true)) st' o' :=
  endF_spec (σ := []) (fz := []) (show endF Try.prog Try.f23 0 [] [] (go2 Try.prog ({ dec := [(9, true), (17, true)], els := e23 q, calls := cG q, unroll := false } : HT) 0 4000 (loopC (bodyOf Try.f23) 0) (loopK (bodyOf Try.f23) 0) (lo23 q)) = some ([], AV.bool true, (((((True ∧ True) ∧ ((True ∧ True) ∧ ((True ∧ True) ∧ ((True ∧ (True ∧ True)) ∧ True)))) ∧ ((type_of% h1) ∧ (((True ∧ True) ∧ ((True ∧ True) ∧ ((True ∧ (True ∧ ((type_of% h2) ∧ (type_of% h3)))) ∧ ((True ∧ True) ∧ ((True ∧ True) ∧ ((True ∧ (True ∧ True)) ∧ True)))))) ∧ ((type_of% h4) ∧ ((True ∧ True) ∧ True))))) ∧ True) ∧ (True ∧ True))) by kernel_rfl) ⟨⟨⟨⟨⟨trivial, trivial⟩, ⟨⟨trivial, trivial⟩, ⟨⟨trivial, trivial⟩, ⟨⟨trivial, ⟨trivial, trivial⟩⟩, trivial⟩⟩⟩⟩, ⟨h1, ⟨⟨⟨trivial, trivial⟩, ⟨⟨trivial, trivial⟩, ⟨⟨trivial, ⟨trivial, ⟨h2, h3⟩⟩⟩, ⟨⟨trivial, trivial⟩, ⟨⟨trivial, trivial⟩, ⟨⟨trivial, ⟨trivial, trivial⟩⟩, trivial⟩⟩⟩⟩⟩⟩, ⟨h4, ⟨⟨trivial, trivial⟩, trivial⟩⟩⟩⟩⟩, trivial⟩, ⟨trivial, trivial⟩⟩
theorem har_0 (q : QG) (h1 : (decide (iN q.i < iN (List.map (AV.int IntKind.i64) q.l).length) = true)) (h2 : (0 ≤ iN q.i)) (h3 : ((List.map (AV.int IntKind.i64) q.l)[(iN q.i).toNat]? = some (AV.int IntKind.i64 q.e))) (h4 : ((q.e == q.x) = false)) {post : Exit → St → Prop} {R : St → Prop} (hR : ∀ st, Ren 0 st (St.mk 18 [(0, AV.lst (List.map (AV.int IntKind.i64) q.l)), (1, AV.int IntKind.i64 q.x), (5, AV.int IntKind.i64 (IntKind.i64.wrap (iN q.i + 1)))] []) → R st) : ∃ o' st' q', go Try.prog ({ dec := [(9, true), (17, false)], els := e23 q, calls := cG q, unroll := false } : HT) 0 4000 (.inl (loopC (bodyOf Try.f23) 0)) [] (lo23 q) = some (o', st', q') ∧ q' ∧ Go.AX.Rest Try.prog 0 (andThen R post) st' o' :=
  endN_spec (σ := []) (fz := []) (vars := [0,1,5]) (show endN 0 [] [] [0,1,5] (go Try.prog ({ dec := [(9, true), (17, false)], els := e23 q, calls := cG q, unroll := false } : HT) 0 4000 (.inl (loopC (bodyOf Try.f23) 0)) [] (lo23 q)) = some (St.mk 18 [(0, AV.lst (List.map (AV.int IntKind.i64) q.l)), (1, AV.int IntKind.i64 q.x), (5, AV.int IntKind.i64 (IntKind.i64.wrap (iN q.i + 1)))] [], ((((True ∧ True) ∧ ((True ∧ True) ∧ ((True ∧ True) ∧ ((True ∧ (True ∧ True)) ∧ True)))) ∧ ((type_of% h1) ∧ (((True ∧ True) ∧ ((True ∧ True) ∧ ((True ∧ (True ∧ ((type_of% h2) ∧ (type_of% h3)))) ∧ ((True ∧ True) ∧ ((True ∧ True) ∧ ((True ∧ (True ∧ True)) ∧ True)))))) ∧ ((type_of% h4) ∧ (((True ∧ True) ∧ ((True ∧ True) ∧ ((True ∧ True) ∧ True))) ∧ True))))) ∧ (True ∧ (True ∧ (True ∧ True))))) by kernel_rfl) ⟨⟨⟨⟨trivial, trivial⟩, ⟨⟨trivial, trivial⟩, ⟨⟨trivial, trivial⟩, ⟨⟨trivial, ⟨trivial, trivial⟩⟩, trivial⟩⟩⟩⟩, ⟨h1, ⟨⟨⟨trivial, trivial⟩, ⟨⟨trivial, trivial⟩, ⟨⟨trivial, ⟨trivial, ⟨h2, h3⟩⟩⟩, ⟨⟨trivial, trivial⟩, ⟨⟨trivial, trivial⟩, ⟨⟨trivial, ⟨trivial, trivial⟩⟩, trivial⟩⟩⟩⟩⟩⟩, ⟨h4, ⟨⟨⟨trivial, trivial⟩, ⟨⟨trivial, trivial⟩, ⟨⟨trivial, trivial⟩, trivial⟩⟩⟩, trivial⟩⟩⟩⟩⟩, ⟨trivial, ⟨trivial, ⟨trivial, trivial⟩⟩⟩⟩ hR
theorem in_0 (q : QG) {post : Exit → St → Prop} (ht : T Try.prog 0 (.loop (loopC (bodyOf Try.f25) 0)) (St.mk 42 [(0, AV.lst (List.map (AV.int IntKind.i64) q.l)), (1, AV.int IntKind.i64 q.x), (5, AV.nils), (6, AV.bool false), (7, AV.int IntKind.i64 0)] []) (TK Try.prog 0 post (loopK (bodyOf Try.f25) 0))) : ∃ o' st' q', go Try.prog ({ dec := [], els := e25 q, calls := cG q, unroll := false } : HT) 0 4000 (.inl (bodyOf Try.f25)) [] (st25 q) = some (o', st', q') ∧ q' ∧ Go.AX.Rest Try.prog 0 post st' o' :=
  endR_spec (σ := []) (fz := []) (vars := [0,1,5,6,7]) (show endR 0 [] [] [0,1,5,6,7] (go Try.prog ({ dec := [], els := e25 q, calls := cG q, unroll := false } : HT) 0 4000 (.inl (bodyOf Try.f25)) [] (st25 q)) = some (loopC (bodyOf Try.f25) 0, loopK (bodyOf Try.f25) 0, St.mk 42 [(0, AV.lst (List.map (AV.int IntKind.i64) q.l)), (1, AV.int IntKind.i64 q.x), (5, AV.nils), (6, AV.bool false), (7, AV.int IntKind.i64 0)] [], (((True ∧ True) ∧ ((True ∧ True) ∧ ((True ∧ True) ∧ ((True ∧ True) ∧ True)))) ∧ (True ∧ (True ∧ (True ∧ (True ∧ (True ∧ True))))))) by kernel_rfl) ⟨⟨⟨trivial, trivial⟩, ⟨⟨trivial, trivial⟩, ⟨⟨trivial, trivial⟩, ⟨⟨trivial, trivial⟩, trivial⟩⟩⟩⟩, ⟨trivial, ⟨trivial, ⟨trivial, ⟨trivial, ⟨trivial, trivial⟩⟩⟩⟩⟩⟩ ht
theorem inzx_0 (q : QG) (h1 : (decide (iN q.i < iN (List.map (AV.int IntKind.i64) q.l).length) = false)) (h2 : (1 ≤ [AV.int IntKind.i64 q.x].length)) (h3 : ([AV.int IntKind.i64 q.x].length ≤ 9223372036854775807)) (h4 : ([AV.int IntKind.i64 q.x].length * 8 ≤ 140737488355328)) : ∃ o' st' q', go2 Try.prog ({ dec := [(11, false)], els := e25 q, calls := cG q, unroll := false } : HT) 0 4000 (loopC (bodyOf Try.f25) 0) (loopK (bodyOf Try.f25) 0) (lz25 q) = some (o', st', q') ∧ q' ∧ Go.AX.Rest Try.prog 0 (Fin Try.prog Try.f25 0 [] (AV.lst [AV.int IntKind.i64 q.x])) st' o' :=
  endF_spec (σ := []) (fz := [0,1,2,3]) (show endF Try.prog Try.f25 0 [] [0,1,2,3] (go2 Try.prog ({ dec := [(11, false)], els := e25 q, calls := cG q, unroll := false } : HT) 0 4000 (loopC (bodyOf Try.f25) 0) (loopK (bodyOf Try.f25) 0) (lz25 q)) = some ([], AV.lst [AV.int IntKind.i64 q.x], (((((True ∧ True) ∧ ((True ∧ True) ∧ ((True ∧ True) ∧ ((True ∧ (True ∧ True)) ∧ True)))) ∧ ((type_of% h1) ∧ True)) ∧ (((True ∧ True) ∧ ((True ∧ True) ∧ True)) ∧ (True ∧ (((True ∧ True) ∧ ((True ∧ True) ∧ ((True ∧ True) ∧ ((True ∧ (True ∧ (((nat_lit 1 = nat_lit 1) ∧ (type_of% h2)) ∧ ((type_of% h3) ∧ (type_of% h4))))) ∧ ((True ∧ True) ∧ True))))) ∧ (((True ∧ True) ∧ ((True ∧ True) ∧ True)) ∧ True))))) ∧ (([AV.int IntKind.i64 q.x].length = [AV.int IntKind.i64 q.x].length) ∧ True))) by kernel_rfl) ⟨⟨⟨⟨⟨trivial, trivial⟩, ⟨⟨trivial, trivial⟩, ⟨⟨trivial, trivial⟩, ⟨⟨trivial, ⟨trivial, trivial⟩⟩, trivial⟩⟩⟩⟩, ⟨h1, trivial⟩⟩, ⟨⟨⟨trivial, trivial⟩, ⟨⟨trivial, trivial⟩, trivial⟩⟩, ⟨trivial, ⟨⟨⟨trivial, trivial⟩, ⟨⟨trivial, trivial⟩, ⟨⟨trivial, trivial⟩, ⟨⟨trivial, ⟨trivial, ⟨⟨(by first | decide | exact Int.NonNeg.mk _), h2⟩, ⟨h3, h4⟩⟩⟩⟩, ⟨⟨trivial, trivial⟩, trivial⟩⟩⟩⟩⟩, ⟨⟨⟨trivial, trivial⟩, ⟨⟨trivial, trivial⟩, trivial⟩⟩, trivial⟩⟩⟩⟩⟩, ⟨rfl, trivial⟩⟩
theorem inza_0 (q : QG) (h1 : (decide (iN q.i < iN (List.map (AV.int IntKind.i64) q.l).length) = true)) (h2 : (0 ≤ iN q.i)) (h3 : ((List.map (AV.int IntKind.i64) q.l)[(iN q.i).toNat]? = some (AV.int IntKind.i64 q.e))) (h4 : (decide (q.x < q.e) = true)) (h5 : (1 ≤ [AV.int IntKind.i64 q.x].length)) (h6 : ([AV.int IntKind.i64 q.x].length ≤ 9223372036854775807)) (h7 : ([AV.int IntKind.i64 q.x].length * 8 ≤ 140737488355328)) (h8 : (1 ≤ [AV.int IntKind.i64 q.e].length)) (h9 : ([AV.int IntKind.i64 q.x].length + [AV.int IntKind.i64 q.e].length ≤ 9223372036854775807)) (h10 : (([AV.int IntKind.i64 q.x].length + [AV.int IntKind.i64 q.e].length) * 8 ≤ 140737488355328)) {post : Exit → St → Prop} {R : St → Prop} (hR : ∀ st, Ren 0 st (St.mk 42 [(0, AV.lst (List.map (AV.int IntKind.i64) q.l)), (1, AV.int IntKind.i64 q.x), (5, AV.sl 0 0 ([AV.int IntKind.i64 q.x].length + [AV.int IntKind.i64 q.e].length)), (6, AV.bool true), (7, AV.int IntKind.i64 (IntKind.i64.wrap (iN q.i + 1)))] [some (Blk.mk [AV.int IntKind.i64 q.x, AV.int IntKind.i64 q.e] 1 true true)]) → R st) : ∃ o' st' q', go Try.prog ({ dec := [(11, true), (22, true)], els := e25 q, calls := cG q, unroll := false } : HT) 0 4000 (.inl (loopC (bodyOf Try.f25) 0)) [] (lz25 q) = some (o', st', q') ∧ q' ∧ Go.AX.Rest Try.prog 0 (andThen R post) st' o' :=
  endN_spec (σ := [3]) (fz := []) (vars := [0,1,5,6,7]) (show endN 0 [3] [] [0,1,5,6,7] (go Try.prog ({ dec := [(11, true), (22, true)], els := e25 q, calls := cG q, unroll := false } : HT) 0 4000 (.inl (loopC (bodyOf Try.f25) 0)) [] (lz25 q)) = some (St.mk 42 [(0, AV.lst (List.map (AV.int IntKind.i64) q.l)), (1, AV.int IntKind.i64 q.x), (5, AV.sl 0 0 ([AV.int IntKind.i64 q.x].length + [AV.int IntKind.i64 q.e].length)), (6, AV.bool true), (7, AV.int IntKind.i64 (IntKind.i64.wrap (iN q.i + 1)))] [some (Blk.mk [AV.int IntKind.i64 q.x, AV.int IntKind.i64 q.e] 1 true true)], ((((True ∧ True) ∧ ((True ∧ True) ∧ ((True ∧ True) ∧ ((True ∧ (True ∧ True)) ∧ True)))) ∧ ((type_of% h1) ∧ (((True ∧ True) ∧ ((True ∧ True) ∧ ((True ∧ True) ∧ ((True ∧ (True ∧ True)) ∧ ((True ∧ (True ∧ True)) ∧ ((True ∧ (True ∧ (True ∧ ((type_of% h2) ∧ (type_of% h3))))) ∧ ((True ∧ (True ∧ True)) ∧ ((True ∧ (True ∧ True)) ∧ ((True ∧ (True ∧ (True ∧ True))) ∧ ((True ∧ ((type_of% h4) ∧ True)) ∧ True)))))))))) ∧ (True ∧ (((True ∧ True) ∧ ((True ∧ True) ∧ ((True ∧ True) ∧ ((True ∧ (True ∧ (((nat_lit 1 = nat_lit 1) ∧ (type_of% h5)) ∧ ((type_of% h6) ∧ (type_of% h7))))) ∧ ((True ∧ True) ∧ (True ∧ True)))))) ∧ (((True ∧ True) ∧ ((True ∧ True) ∧ ((True ∧ True) ∧ ((True ∧ (True ∧ ((type_of% h2) ∧ (type_of% h3)))) ∧ ((True ∧ True) ∧ ((True ∧ True) ∧ ((True ∧ (True ∧ (([AV.int IntKind.i64 q.x].length = [AV.int IntKind.i64 q.x].length) ∧ (((nat_lit 1 = nat_lit 1) ∧ (type_of% h8)) ∧ ((type_of% h9) ∧ (type_of% h10)))))) ∧ ((True ∧ True) ∧ True)))))))) ∧ (((True ∧ True) ∧ ((True ∧ True) ∧ ((True ∧ True) ∧ True))) ∧ True))))))) ∧ (True ∧ (True ∧ (True ∧ (True ∧ (True ∧ (True ∧ True)))))))) by kernel_rfl) ⟨⟨⟨⟨trivial, trivial⟩, ⟨⟨trivial, trivial⟩, ⟨⟨trivial, trivial⟩, ⟨⟨trivial, ⟨trivial, trivial⟩⟩, trivial⟩⟩⟩⟩, ⟨h1, ⟨⟨⟨trivial, trivial⟩, ⟨⟨trivial, trivial⟩, ⟨⟨trivial, trivial⟩, ⟨⟨trivial, ⟨trivial, trivial⟩⟩, ⟨⟨trivial, ⟨trivial, trivial⟩⟩, ⟨⟨trivial, ⟨trivial, ⟨trivial, ⟨h2, h3⟩⟩⟩⟩, ⟨⟨trivial, ⟨trivial, trivial⟩⟩, ⟨⟨trivial, ⟨trivial, trivial⟩⟩, ⟨⟨trivial, ⟨trivial, ⟨trivial, trivial⟩⟩⟩, ⟨⟨trivial, ⟨h4, trivial⟩⟩, trivial⟩⟩⟩⟩⟩⟩⟩⟩⟩⟩, ⟨trivial, ⟨⟨⟨trivial, trivial⟩, ⟨⟨trivial, trivial⟩, ⟨⟨trivial, trivial⟩, ⟨⟨trivial, ⟨trivial, ⟨⟨(by first | decide | exact Int.NonNeg.mk _), h5⟩, ⟨h6, h7⟩⟩⟩⟩, ⟨⟨trivial, trivial⟩, ⟨trivial, trivial⟩⟩⟩⟩⟩⟩, ⟨⟨⟨trivial, trivial⟩, ⟨⟨trivial, trivial⟩, ⟨⟨trivial, trivial⟩, ⟨⟨trivial, ⟨trivial, ⟨h2, h3⟩⟩⟩, ⟨⟨trivial, trivial⟩, ⟨⟨trivial, trivial⟩, ⟨⟨trivial, ⟨trivial, ⟨rfl, ⟨⟨(by first | decide | exact Int.NonNeg.mk _), h8⟩, ⟨h9, h10⟩⟩⟩⟩⟩, ⟨⟨trivial, trivial⟩, trivial⟩⟩⟩⟩⟩⟩⟩⟩, ⟨⟨⟨trivial, trivial⟩, ⟨⟨trivial, trivial⟩, ⟨⟨trivial, trivial⟩, trivial⟩⟩⟩, trivial⟩⟩⟩⟩⟩⟩⟩, ⟨trivial, ⟨trivial, ⟨trivial, ⟨trivial, ⟨trivial, ⟨trivial, trivial⟩⟩⟩⟩⟩⟩⟩ hR
theorem inzb_0 (q : QG) (h1 : (decide (iN q.i < iN (List.map (AV.int IntKind.i64) q.l).length) = true)) (h2 : (0 ≤ iN q.i)) (h3 : ((List.map (AV.int IntKind.i64) q.l)[(iN q.i).toNat]? = some (AV.int IntKind.i64 q.e))) (h4 : (decide (q.x < q.e) = false)) (h5 : (1 ≤ [AV.int IntKind.i64 q.e].length)) (h6 : ([AV.int IntKind.i64 q.e].length ≤ 9223372036854775807)) (h7 : ([AV.int IntKind.i64 q.e].length * 8 ≤ 140737488355328)) {post : Exit → St → Prop} {R : St → Prop} (hR : ∀ st, Ren 0 st (St.mk 42 [(0, AV.lst (List.map (AV.int IntKind.i64) q.l)), (1, AV.int IntKind.i64 q.x), (5, AV.sl 0 0 [AV.int IntKind.i64 q.e].length), (6, AV.bool false), (7, AV.int IntKind.i64 (IntKind.i64.wrap (iN q.i + 1)))] [some (Blk.mk [AV.int IntKind.i64 q.e] 1 true true)]) → R st) : ∃ o' st' q', go Try.prog ({ dec := [(11, true), (22, false)], els := e25 q, calls := cG q, unroll := false } : HT) 0 4000 (.inl (loopC (bodyOf Try.f25) 0)) [] (lz25 q) = some (o', st', q') ∧ q' ∧ Go.AX.Rest Try.prog 0 (andThen R post) st' o' :=
  endN_spec (σ := [1]) (fz := []) (vars := [0,1,5,6,7]) (show endN 0 [1] [] [0,1,5,6,7] (go Try.prog ({ dec := [(11, true), (22, false)], els := e25 q, calls := cG q, unroll := false } : HT) 0 4000 (.inl (loopC (bodyOf Try.f25) 0)) [] (lz25 q)) = some (St.mk 42 [(0, AV.lst (List.map (AV.int IntKind.i64) q.l)), (1, AV.int IntKind.i64 q.x), (5, AV.sl 0 0 [AV.int IntKind.i64 q.e].length), (6, AV.bool false), (7, AV.int IntKind.i64 (IntKind.i64.wrap (iN q.i + 1)))] [some (Blk.mk [AV.int IntKind.i64 q.e] 1 true true)], ((((True ∧ True) ∧ ((True ∧ True) ∧ ((True ∧ True) ∧ ((True ∧ (True ∧ True)) ∧ True)))) ∧ ((type_of% h1) ∧ (((True ∧ True) ∧ ((True ∧ True) ∧ ((True ∧ True) ∧ ((True ∧ (True ∧ True)) ∧ ((True ∧ (True ∧ True)) ∧ ((True ∧ (True ∧ (True ∧ ((type_of% h2) ∧ (type_of% h3))))) ∧ ((True ∧ (True ∧ True)) ∧ ((True ∧ (True ∧ True)) ∧ ((True ∧ (True ∧ (True ∧ True))) ∧ ((True ∧ ((type_of% h4) ∧ True)) ∧ True)))))))))) ∧ (True ∧ (((True ∧ True) ∧ ((True ∧ True) ∧ ((True ∧ True) ∧ ((True ∧ (True ∧ ((type_of% h2) ∧ (type_of% h3)))) ∧ ((True ∧ True) ∧ ((True ∧ True) ∧ ((True ∧ (True ∧ (((nat_lit 1 = nat_lit 1) ∧ (type_of% h5)) ∧ ((type_of% h6) ∧ (type_of% h7))))) ∧ ((True ∧ True) ∧ True)))))))) ∧ (((True ∧ True) ∧ ((True ∧ True) ∧ ((True ∧ True) ∧ True))) ∧ True)))))) ∧ (True ∧ (True ∧ (True ∧ (True ∧ (True ∧ (True ∧ True)))))))) by kernel_rfl) ⟨⟨⟨⟨trivial, trivial⟩, ⟨⟨trivial, trivial⟩, ⟨⟨trivial, trivial⟩, ⟨⟨trivial, ⟨trivial, trivial⟩⟩, trivial⟩⟩⟩⟩, ⟨h1, ⟨⟨⟨trivial, trivial⟩, ⟨⟨trivial, trivial⟩, ⟨⟨trivial, trivial⟩, ⟨⟨trivial, ⟨trivial, trivial⟩⟩, ⟨⟨trivial, ⟨trivial, trivial⟩⟩, ⟨⟨trivial, ⟨trivial, ⟨trivial, ⟨h2, h3⟩⟩⟩⟩, ⟨⟨trivial, ⟨trivial, trivial⟩⟩, ⟨⟨trivial, ⟨trivial, trivial⟩⟩, ⟨⟨trivial, ⟨trivial, ⟨trivial, trivial⟩⟩⟩, ⟨⟨trivial, ⟨h4, trivial⟩⟩, trivial⟩⟩⟩⟩⟩⟩⟩⟩⟩⟩, ⟨trivial, ⟨⟨⟨trivial, trivial⟩, ⟨⟨trivial, trivial⟩, ⟨⟨trivial, trivial⟩, ⟨⟨trivial, ⟨trivial, ⟨h2, h3⟩⟩⟩, ⟨⟨trivial, trivial⟩, ⟨⟨trivial, trivial⟩, ⟨⟨trivial, ⟨trivial, ⟨⟨(by first | decide | exact Int.NonNeg.mk _), h5⟩, ⟨h6, h7⟩⟩⟩⟩, ⟨⟨trivial, trivial⟩, trivial⟩⟩⟩⟩⟩⟩⟩⟩, ⟨⟨⟨trivial, trivial⟩, ⟨⟨trivial, trivial⟩, ⟨⟨trivial, trivial⟩, trivial⟩⟩⟩, trivial⟩⟩⟩⟩⟩⟩, ⟨trivial, ⟨trivial, ⟨trivial, ⟨trivial, ⟨trivial, ⟨trivial, trivial⟩⟩⟩⟩⟩⟩⟩ hR
theorem inox_0 (q : QG) (h1 : (decide (iN q.i < iN (List.map (AV.int IntKind.i64) q.l).length) = false)) (h2 : ((!q.b) = true)) (h3 : ((List.map (AV.int IntKind.i64) q.o).length = q.o.length)) (h4 : (1 ≤ [AV.int IntKind.i64 q.x].length)) (h5 : ((List.map (AV.int IntKind.i64) q.o).length + [AV.int IntKind.i64 q.x].length ≤ 9223372036854775807)) (h6 : (((List.map (AV.int IntKind.i64) q.o).length + [AV.int IntKind.i64 q.x].length) * 8 ≤ 140737488355328)) (h7 : ((List.map (AV.int IntKind.i64) q.o).length + [AV.int IntKind.i64 q.x].length = (List.map (AV.int IntKind.i64) q.o ++ [AV.int IntKind.i64 q.x]).length)) : ∃ o' st' q', go2 Try.prog ({ dec := [(11, false), (36, true)], els := e25 q, calls := cG q, unroll := false } : HT) 0 4000 (loopC (bodyOf Try.f25) 0) (loopK (bodyOf Try.f25) 0) (lo25 q) = some (o', st', q') ∧ q' ∧ Go.AX.Rest Try.prog 0 (Fin Try.prog Try.f25 0 [] (AV.lst (List.map (AV.int IntKind.i64) q.o ++ [AV.int IntKind.i64 q.x]))) st' o' :=
  endF_spec (σ := []) (fz := [0,1,2,3]) (show endF Try.prog Try.f25 0 [] [0,1,2,3] (go2 Try.prog ({ dec := [(11, false), (36, true)], els := e25 q, calls := cG q, unroll := false } : HT) 0 4000 (loopC (bodyOf Try.f25) 0) (loopK (bodyOf Try.f25) 0) (lo25 q)) = some ([], AV.lst (List.map (AV.int IntKind.i64) q.o ++ [AV.int IntKind.i64 q.x]), (((((True ∧ True) ∧ ((True ∧ True) ∧ ((True ∧ True) ∧ ((True ∧ (True ∧ True)) ∧ True)))) ∧ ((type_of% h1) ∧ True)) ∧ (((True ∧ True) ∧ ((True ∧ True) ∧ True)) ∧ ((type_of% h2) ∧ (((True ∧ True) ∧ ((True ∧ True) ∧ ((True ∧ True) ∧ ((True ∧ (True ∧ ((type_of% h3) ∧ (((nat_lit 1 = nat_lit 1) ∧ (type_of% h4)) ∧ ((type_of% h5) ∧ (type_of% h6)))))) ∧ ((True ∧ True) ∧ True))))) ∧ (((True ∧ True) ∧ ((True ∧ True) ∧ True)) ∧ True))))) ∧ ((type_of% h7) ∧ True))) by kernel_rfl) ⟨⟨⟨⟨⟨trivial, trivial⟩, ⟨⟨trivial, trivial⟩, ⟨⟨trivial, trivial⟩, ⟨⟨trivial, ⟨trivial, trivial⟩⟩, trivial⟩⟩⟩⟩, ⟨h1, trivial⟩⟩, ⟨⟨⟨trivial, trivial⟩, ⟨⟨trivial, trivial⟩, trivial⟩⟩, ⟨h2, ⟨⟨⟨trivial, trivial⟩, ⟨⟨trivial, trivial⟩, ⟨⟨trivial, trivial⟩, ⟨⟨trivial, ⟨trivial, ⟨h3, ⟨⟨(by first | decide | exact Int.NonNeg.mk _), h4⟩, ⟨h5, h6⟩⟩⟩⟩⟩, ⟨⟨trivial, trivial⟩, trivial⟩⟩⟩⟩⟩, ⟨⟨⟨trivial, trivial⟩, ⟨⟨trivial, trivial⟩, trivial⟩⟩, trivial⟩⟩⟩⟩⟩, ⟨h7, trivial⟩⟩
theorem inox_1 (q : QG) (h1 : (decide (iN q.i < iN (List.map (AV.int IntKind.i64) q.l).length) = false)) (h2 : ((!q.b) = false)) (h3 : (q.o.length = (List.map (AV.int IntKind.i64) q.o).length)) : ∃ o' st' q', go2 Try.prog ({ dec := [(11, false), (36, false)], els := e25 q, calls := cG q, unroll := false } : HT) 0 4000 (loopC (bodyOf Try.f25) 0) (loopK (bodyOf Try.f25) 0) (lo25 q) = some (o', st', q') ∧ q' ∧ Go.AX.Rest Try.prog 0 (Fin Try.prog Try.f25 0 [] (AV.lst (List.map (AV.int IntKind.i64) q.o))) st' o' :=
  endF_spec (σ := []) (fz := [0,1,2,3]) (show endF Try.prog Try.f25 0 [] [0,1,2,3] (go2 Try.prog ({ dec := [(11, false), (36, false)], els := e25 q, calls := cG q, unroll := false } : HT) 0 4000 (loopC (bodyOf Try.f25) 0) (loopK (bodyOf Try.f25) 0) (lo25 q)) = some ([], AV.lst (List.map (AV.int IntKind.i64) q.o), (((((True ∧ True) ∧ ((True ∧ True) ∧ ((True ∧ True) ∧ ((True ∧ (True ∧ True)) ∧ True)))) ∧ ((type_of% h1) ∧ True)) ∧ (((True ∧ True) ∧ ((True ∧ True) ∧ True)) ∧ ((type_of% h2) ∧ (((True ∧ True) ∧ ((True ∧ True) ∧ True)) ∧ True)))) ∧ ((type_of% h3) ∧ True))) by kernel_rfl) ⟨⟨⟨⟨⟨trivial, trivial⟩, ⟨⟨trivial, trivial⟩, ⟨⟨trivial, trivial⟩, ⟨⟨trivial, ⟨trivial, trivial⟩⟩, trivial⟩⟩⟩⟩, ⟨h1, trivial⟩⟩, ⟨⟨⟨trivial, trivial⟩, ⟨⟨trivial, trivial⟩, trivial⟩⟩, ⟨h2, ⟨⟨⟨trivial, trivial⟩, ⟨⟨trivial, trivial⟩, trivial⟩⟩, trivial⟩⟩⟩⟩, ⟨h3, trivial⟩⟩
theorem inod_0 (q : QG) (h1 : (decide (iN q.i < iN (List.map (AV.int IntKind.i64) q.l).length) = true)) (h2 : ((!q.b) = false)) (h3 : (0 ≤ iN q.i)) (h4 : ((List.map (AV.int IntKind.i64) q.l)[(iN q.i).toNat]? = some (AV.int IntKind.i64 q.e))) (h5 : ((List.map (AV.int IntKind.i64) q.o).length = q.o.length)) (h6 : (1 ≤ [AV.int IntKind.i64 q.e].length)) (h7 : ((List.map (AV.int IntKind.i64) q.o).length + [AV.int IntKind.i64 q.e].length ≤ 9223372036854775807)) (h8 : (((List.map (AV.int IntKind.i64) q.o).length + [AV.int IntKind.i64 q.e].length) * 8 ≤ 140737488355328)) {post : Exit → St → Prop} {R : St → Prop} (hR : ∀ st, Ren 0 st (St.mk 42 [(0, AV.lst (List.map (AV.int IntKind.i64) q.l)), (1, AV.int IntKind.i64 q.x), (5, AV.sl 0 0 ((List.map (AV.int IntKind.i64) q.o).length + [AV.int IntKind.i64 q.e].length)), (6, AV.bool q.b), (7, AV.int IntKind.i64 (IntKind.i64.wrap (iN q.i + 1)))] [some (Blk.mk (List.map (AV.int IntKind.i64) q.o ++ [AV.int IntKind.i64 q.e]) 1 true true)]) → R st) : ∃ o' st' q', go Try.prog ({ dec := [(11, true), (15, false), (16, false), (23, false)], els := e25 q, calls := cG q, unroll := false } : HT) 0 4000 (.inl (loopC (bodyOf Try.f25) 0)) [] (lo25 q) = some (o', st', q') ∧ q' ∧ Go.AX.Rest Try.prog 0 (andThen R post) st' o' :=
  endN_spec (σ := [2]) (fz := []) (vars := [0,1,5,6,7]) (show endN 0 [2] [] [0,1,5,6,7] (go Try.prog ({ dec := [(11, true), (15, false), (16, false), (23, false)], els := e25 q, calls := cG q, unroll := false } : HT) 0 4000 (.inl (loopC (bodyOf Try.f25) 0)) [] (lo25 q)) = some (St.mk 42 [(0, AV.lst (List.map (AV.int IntKind.i64) q.l)), (1, AV.int IntKind.i64 q.x), (5, AV.sl 0 0 ((List.map (AV.int IntKind.i64) q.o).length + [AV.int IntKind.i64 q.e].length)), (6, AV.bool q.b), (7, AV.int IntKind.i64 (IntKind.i64.wrap (iN q.i + 1)))] [some (Blk.mk (List.map (AV.int IntKind.i64) q.o ++ [AV.int IntKind.i64 q.e]) 1 true true)], ((((True ∧ True) ∧ ((True ∧ True) ∧ ((True ∧ True) ∧ ((True ∧ (True ∧ True)) ∧ True)))) ∧ ((type_of% h1) ∧ (((True ∧ True) ∧ ((True ∧ True) ∧ (((type_of% h2) ∧ True) ∧ ((false = false) ∧ ((false = false) ∧ ((false = false) ∧ ((false = false) ∧ ((false = false) ∧ ((false = false) ∧ (((false = false) ∧ (True ∧ True)) ∧ True)))))))))) ∧ ((false = false) ∧ (((True ∧ True) ∧ ((True ∧ True) ∧ ((True ∧ True) ∧ ((True ∧ (True ∧ ((type_of% h3) ∧ (type_of% h4)))) ∧ ((True ∧ True) ∧ ((True ∧ True) ∧ ((True ∧ (True ∧ ((type_of% h5) ∧ (((nat_lit 1 = nat_lit 1) ∧ (type_of% h6)) ∧ ((type_of% h7) ∧ (type_of% h8)))))) ∧ ((True ∧ True) ∧ True)))))))) ∧ (((True ∧ True) ∧ ((True ∧ True) ∧ ((True ∧ True) ∧ True))) ∧ True)))))) ∧ (True ∧ (True ∧ (True ∧ (True ∧ (True ∧ (True ∧ True)))))))) by kernel_rfl) ⟨⟨⟨⟨trivial, trivial⟩, ⟨⟨trivial, trivial⟩, ⟨⟨trivial, trivial⟩, ⟨⟨trivial, ⟨trivial, trivial⟩⟩, trivial⟩⟩⟩⟩, ⟨h1, ⟨⟨⟨trivial, trivial⟩, ⟨⟨trivial, trivial⟩, ⟨⟨h2, trivial⟩, ⟨(by first | decide | exact Int.NonNeg.mk _), ⟨(by first | decide | exact Int.NonNeg.mk _), ⟨(by first | decide | exact Int.NonNeg.mk _), ⟨(by first | decide | exact Int.NonNeg.mk _), ⟨(by first | decide | exact Int.NonNeg.mk _), ⟨(by first | decide | exact Int.NonNeg.mk _), ⟨⟨(by first | decide | exact Int.NonNeg.mk _), ⟨trivial, trivial⟩⟩, trivial⟩⟩⟩⟩⟩⟩⟩⟩⟩⟩, ⟨(by first | decide | exact Int.NonNeg.mk _), ⟨⟨⟨trivial, trivial⟩, ⟨⟨trivial, trivial⟩, ⟨⟨trivial, trivial⟩, ⟨⟨trivial, ⟨trivial, ⟨h3, h4⟩⟩⟩, ⟨⟨trivial, trivial⟩, ⟨⟨trivial, trivial⟩, ⟨⟨trivial, ⟨trivial, ⟨h5, ⟨⟨(by first | decide | exact Int.NonNeg.mk _), h6⟩, ⟨h7, h8⟩⟩⟩⟩⟩, ⟨⟨trivial, trivial⟩, trivial⟩⟩⟩⟩⟩⟩⟩⟩, ⟨⟨⟨trivial, trivial⟩, ⟨⟨trivial, trivial⟩, ⟨⟨trivial, trivial⟩, trivial⟩⟩⟩, trivial⟩⟩⟩⟩⟩⟩, ⟨trivial, ⟨trivial, ⟨trivial, ⟨trivial, ⟨trivial, ⟨trivial, trivial⟩⟩⟩⟩⟩⟩⟩ hR
theorem inoa_0 (q : QG) (h1 : (decide (iN q.i < iN (List.map (AV.int IntKind.i64) q.l).length) = true)) (h2 : ((!q.b) = true)) (h3 : (0 ≤ iN q.i)) (h4 : ((List.map (AV.int IntKind.i64) q.l)[(iN q.i).toNat]? = some (AV.int IntKind.i64 q.e))) (h5 : (decide (q.x < q.e) = true)) (h6 : ((List.map (AV.int IntKind.i64) q.o).length = q.o.length)) (h7 : (1 ≤ [AV.int IntKind.i64 q.x].length)) (h8 : ((List.map (AV.int IntKind.i64) q.o).length + [AV.int IntKind.i64 q.x].length ≤ 9223372036854775807)) (h9 : (((List.map (AV.int IntKind.i64) q.o).length + [AV.int IntKind.i64 q.x].length) * 8 ≤ 140737488355328)) (h10 : ((List.map (AV.int IntKind.i64) q.o ++ [AV.int IntKind.i64 q.x]).length = (List.map (AV.int IntKind.i64) q.o).length + [AV.int IntKind.i64 q.x].length)) (h11 : (1 ≤ [AV.int IntKind.i64 q.e].length)) (h12 : ((List.map (AV.int IntKind.i64) q.o ++ [AV.int IntKind.i64 q.x]).length + [AV.int IntKind.i64 q.e].length ≤ 9223372036854775807)) (h13 : (((List.map (AV.int IntKind.i64) q.o ++ [AV.int IntKind.i64 q.x]).length + [AV.int IntKind.i64 q.e].length) * 8 ≤ 140737488355328)) {post : Exit → St → Prop} {R : St → Prop} (hR : ∀ st, Ren 0 st (St.mk 42 [(0, AV.lst (List.map (AV.int IntKind.i64) q.l)), (1, AV.int IntKind.i64 q.x), (5, AV.sl 0 0 ((List.map (AV.int IntKind.i64) q.o ++ [AV.int IntKind.i64 q.x]).length + [AV.int IntKind.i64 q.e].length)), (6, AV.bool true), (7, AV.int IntKind.i64 (IntKind.i64.wrap (iN q.i + 1)))] [some (Blk.mk (List.map (AV.int IntKind.i64) q.o ++ [AV.int IntKind.i64 q.x] ++ [AV.int IntKind.i64 q.e]) 1 true true)]) → R st) : ∃ o' st' q', go Try.prog ({ dec := [(11, true), (15, true), (16, true), (22, true), (23, true)], els := e25 q, calls := cG q, unroll := false } : HT) 0 4000 (.inl (loopC (bodyOf Try.f25) 0)) [] (lo25 q) = some (o', st', q') ∧ q' ∧ Go.AX.Rest Try.prog 0 (andThen R post) st' o' :=
  endN_spec (σ := [4]) (fz := []) (vars := [0,1,5,6,7]) (show endN 0 [4] [] [0,1,5,6,7] (go Try.prog ({ dec := [(11, true), (15, true), (16, true), (22, true), (23, true)], els := e25 q, calls := cG q, unroll := false } : HT) 0 4000 (.inl (loopC (bodyOf Try.f25) 0)) [] (lo25 q)) = some (St.mk 42 [(0, AV.lst (List.map (AV.int IntKind.i64) q.l)), (1, AV.int IntKind.i64 q.x), (5, AV.sl 0 0 ((List.map (AV.int IntKind.i64) q.o ++ [AV.int IntKind.i64 q.x]).length + [AV.int IntKind.i64 q.e].length)), (6, AV.bool true), (7, AV.int IntKind.i64 (IntKind.i64.wrap (iN q.i + 1)))] [some (Blk.mk (List.map (AV.int IntKind.i64) q.o ++ [AV.int IntKind.i64 q.x] ++ [AV.int IntKind.i64 q.e]) 1 true true)], ((((True ∧ True) ∧ ((True ∧ True) ∧ ((True ∧ True) ∧ ((True ∧ (True ∧ True)) ∧ True)))) ∧ ((type_of% h1) ∧ (((True ∧ True) ∧ ((True ∧ True) ∧ (((type_of% h2) ∧ True) ∧ (((true = true) ∧ (True ∧ True)) ∧ (((true = true) ∧ (True ∧ True)) ∧ (((true = true) ∧ (True ∧ (True ∧ ((type_of% h3) ∧ (type_of% h4))))) ∧ (((true = true) ∧ (True ∧ True)) ∧ (((true = true) ∧ (True ∧ True)) ∧ (((true = true) ∧ (True ∧ (True ∧ True))) ∧ (((true = true) ∧ ((type_of% h5) ∧ True)) ∧ True)))))))))) ∧ ((true = true) ∧ (((True ∧ True) ∧ ((True ∧ True) ∧ ((True ∧ True) ∧ ((True ∧ (True ∧ ((type_of% h6) ∧ (((nat_lit 1 = nat_lit 1) ∧ (type_of% h7)) ∧ ((type_of% h8) ∧ (type_of% h9)))))) ∧ ((True ∧ True) ∧ (True ∧ True)))))) ∧ (((True ∧ True) ∧ ((True ∧ True) ∧ ((True ∧ True) ∧ ((True ∧ (True ∧ ((type_of% h3) ∧ (type_of% h4)))) ∧ ((True ∧ True) ∧ ((True ∧ True) ∧ ((True ∧ (True ∧ ((type_of% h10) ∧ (((nat_lit 1 = nat_lit 1) ∧ (type_of% h11)) ∧ ((type_of% h12) ∧ (type_of% h13)))))) ∧ ((True ∧ True) ∧ True)))))))) ∧ (((True ∧ True) ∧ ((True ∧ True) ∧ ((True ∧ True) ∧ True))) ∧ True))))))) ∧ (True ∧ (True ∧ (True ∧ (True ∧ (True ∧ (True ∧ True)))))))) by kernel_rfl) ⟨⟨⟨⟨trivial, trivial⟩, ⟨⟨trivial, trivial⟩, ⟨⟨trivial, trivial⟩, ⟨⟨trivial, ⟨trivial, trivial⟩⟩, trivial⟩⟩⟩⟩, ⟨h1, ⟨⟨⟨trivial, trivial⟩, ⟨⟨trivial, trivial⟩, ⟨⟨h2, trivial⟩, ⟨⟨(by first | decide | exact Int.NonNeg.mk _), ⟨trivial, trivial⟩⟩, ⟨⟨(by first | decide | exact Int.NonNeg.mk _), ⟨trivial, trivial⟩⟩, ⟨⟨(by first | decide | exact Int.NonNeg.mk _), ⟨trivial, ⟨trivial, ⟨h3, h4⟩⟩⟩⟩, ⟨⟨(by first | decide | exact Int.NonNeg.mk _), ⟨trivial, trivial⟩⟩, ⟨⟨(by first | decide | exact Int.NonNeg.mk _), ⟨trivial, trivial⟩⟩, ⟨⟨(by first | decide | exact Int.NonNeg.mk _), ⟨trivial, ⟨trivial, trivial⟩⟩⟩, ⟨⟨(by first | decide | exact Int.NonNeg.mk _), ⟨h5, trivial⟩⟩, trivial⟩⟩⟩⟩⟩⟩⟩⟩⟩⟩, ⟨(by first | decide | exact Int.NonNeg.mk _), ⟨⟨⟨trivial, trivial⟩, ⟨⟨trivial, trivial⟩, ⟨⟨trivial, trivial⟩, ⟨⟨trivial, ⟨trivial, ⟨h6, ⟨⟨(by first | decide | exact Int.NonNeg.mk _), h7⟩, ⟨h8, h9⟩⟩⟩⟩⟩, ⟨⟨trivial, trivial⟩, ⟨trivial, trivial⟩⟩⟩⟩⟩⟩, ⟨⟨⟨trivial, trivial⟩, ⟨⟨trivial, trivial⟩, ⟨⟨trivial, trivial⟩, ⟨⟨trivial, ⟨trivial, ⟨h3, h4⟩⟩⟩, ⟨⟨trivial, trivial⟩, ⟨⟨trivial, trivial⟩, ⟨⟨trivial, ⟨trivial, ⟨h10, ⟨⟨(by first | decide | exact Int.NonNeg.mk _), h11⟩, ⟨h12, h13⟩⟩⟩⟩⟩, ⟨⟨trivial, trivial⟩, trivial⟩⟩⟩⟩⟩⟩⟩⟩, ⟨⟨⟨trivial, trivial⟩, ⟨⟨trivial, trivial⟩, ⟨⟨trivial, trivial⟩, trivial⟩⟩⟩, trivial⟩⟩⟩⟩⟩⟩⟩, ⟨trivial, ⟨trivial, ⟨trivial, ⟨trivial, ⟨trivial, ⟨trivial, trivial⟩⟩⟩⟩⟩⟩⟩ hR
theorem inob_0 (q : QG) (h1 : (decide (iN q.i < iN (List.map (AV.int IntKind.i64) q.l).length) = true)) (h2 : ((!q.b) = true)) (h3 : (0 ≤ iN q.i)) (h4 : ((List.map (AV.int IntKind.i64) q.l)[(iN q.i).toNat]? = some (AV.int IntKind.i64 q.e))) (h5 : (decide (q.x < q.e) = false)) (h6 : ((List.map (AV.int IntKind.i64) q.o).length = q.o.length)) (h7 : (1 ≤ [AV.int IntKind.i64 q.e].length)) (h8 : ((List.map (AV.int IntKind.i64) q.o).length + [AV.int IntKind.i64 q.e].length ≤ 9223372036854775807)) (h9 : (((List.map (AV.int IntKind.i64) q.o).length + [AV.int IntKind.i64 q.e].length) * 8 ≤ 140737488355328)) {post : Exit → St → Prop} {R : St → Prop} (hR : ∀ st, Ren 0 st (St.mk 42 [(0, AV.lst (List.map (AV.int IntKind.i64) q.l)), (1, AV.int IntKind.i64 q.x), (5, AV.sl 0 0 ((List.map (AV.int IntKind.i64) q.o).length + [AV.int IntKind.i64 q.e].length)), (6, AV.bool q.b), (7, AV.int IntKind.i64 (IntKind.i64.wrap (iN q.i + 1)))] [some (Blk.mk (List.map (AV.int IntKind.i64) q.o ++ [AV.int IntKind.i64 q.e]) 1 true true)]) → R st) : ∃ o' st' q', go Try.prog ({ dec := [(11, true), (15, true), (16, true), (22, false), (23, false)], els := e25 q, calls := cG q, unroll := false } : HT) 0 4000 (.inl (loopC (bodyOf Try.f25) 0)) [] (lo25 q) = some (o', st', q') ∧ q' ∧ Go.AX.Rest Try.prog 0 (andThen R post) st' o' :=
  endN_spec (σ := [2]) (fz := []) (vars := [0,1,5,6,7]) (show endN 0 [2] [] [0,1,5,6,7] (go Try.prog ({ dec := [(11, true), (15, true), (16, true), (22, false), (23, false)], els := e25 q, calls := cG q, unroll := false } : HT) 0 4000 (.inl (loopC (bodyOf Try.f25) 0)) [] (lo25 q)) = some (St.mk 42 [(0, AV.lst (List.map (AV.int IntKind.i64) q.l)), (1, AV.int IntKind.i64 q.x), (5, AV.sl 0 0 ((List.map (AV.int IntKind.i64) q.o).length + [AV.int IntKind.i64 q.e].length)), (6, AV.bool q.b), (7, AV.int IntKind.i64 (IntKind.i64.wrap (iN q.i + 1)))] [some (Blk.mk (List.map (AV.int IntKind.i64) q.o ++ [AV.int IntKind.i64 q.e]) 1 true true)], ((((True ∧ True) ∧ ((True ∧ True) ∧ ((True ∧ True) ∧ ((True ∧ (True ∧ True)) ∧ True)))) ∧ ((type_of% h1) ∧ (((True ∧ True) ∧ ((True ∧ True) ∧ (((type_of% h2) ∧ True) ∧ (((true = true) ∧ (True ∧ True)) ∧ (((true = true) ∧ (True ∧ True)) ∧ (((true = true) ∧ (True ∧ (True ∧ ((type_of% h3) ∧ (type_of% h4))))) ∧ (((true = true) ∧ (True ∧ True)) ∧ (((true = true) ∧ (True ∧ True)) ∧ (((true = true) ∧ (True ∧ (True ∧ True))) ∧ (((true = true) ∧ ((type_of% h5) ∧ True)) ∧ True)))))))))) ∧ ((false = false) ∧ (((True ∧ True) ∧ ((True ∧ True) ∧ ((True ∧ True) ∧ ((True ∧ (True ∧ ((type_of% h3) ∧ (type_of% h4)))) ∧ ((True ∧ True) ∧ ((True ∧ True) ∧ ((True ∧ (True ∧ ((type_of% h6) ∧ (((nat_lit 1 = nat_lit 1) ∧ (type_of% h7)) ∧ ((type_of% h8) ∧ (type_of% h9)))))) ∧ ((True ∧ True) ∧ True)))))))) ∧ (((True ∧ True) ∧ ((True ∧ True) ∧ ((True ∧ True) ∧ True))) ∧ True)))))) ∧ (True ∧ (True ∧ (True ∧ (True ∧ (True ∧ (True ∧ True)))))))) by kernel_rfl) ⟨⟨⟨⟨trivial, trivial⟩, ⟨⟨trivial, trivial⟩, ⟨⟨trivial, trivial⟩, ⟨⟨trivial, ⟨trivial, trivial⟩⟩, trivial⟩⟩⟩⟩, ⟨h1, ⟨⟨⟨trivial, trivial⟩, ⟨⟨trivial, trivial⟩, ⟨⟨h2, trivial⟩, ⟨⟨(by first | decide | exact Int.NonNeg.mk _), ⟨trivial, trivial⟩⟩, ⟨⟨(by first | decide | exact Int.NonNeg.mk _), ⟨trivial, trivial⟩⟩, ⟨⟨(by first | decide | exact Int.NonNeg.mk _), ⟨trivial, ⟨trivial, ⟨h3, h4⟩⟩⟩⟩, ⟨⟨(by first | decide | exact Int.NonNeg.mk _), ⟨trivial, trivial⟩⟩, ⟨⟨(by first | decide | exact Int.NonNeg.mk _), ⟨trivial, trivial⟩⟩, ⟨⟨(by first | decide | exact Int.NonNeg.mk _), ⟨trivial, ⟨trivial, trivial⟩⟩⟩, ⟨⟨(by first | decide | exact Int.NonNeg.mk _), ⟨h5, trivial⟩⟩, trivial⟩⟩⟩⟩⟩⟩⟩⟩⟩⟩, ⟨(by first | decide | exact Int.NonNeg.mk _), ⟨⟨⟨trivial, trivial⟩, ⟨⟨trivial, trivial⟩, ⟨⟨trivial, trivial⟩, ⟨⟨trivial, ⟨trivial, ⟨h3, h4⟩⟩⟩, ⟨⟨trivial, trivial⟩, ⟨⟨trivial, trivial⟩, ⟨⟨trivial, ⟨trivial, ⟨h6, ⟨⟨(by first | decide | exact Int.NonNeg.mk _), h7⟩, ⟨h8, h9⟩⟩⟩⟩⟩, ⟨⟨trivial, trivial⟩, trivial⟩⟩⟩⟩⟩⟩⟩⟩, ⟨⟨⟨trivial, trivial⟩, ⟨⟨trivial, trivial⟩, ⟨⟨trivial, trivial⟩, trivial⟩⟩⟩, trivial⟩⟩⟩⟩⟩⟩, ⟨trivial, ⟨trivial, ⟨trivial, ⟨trivial, ⟨trivial, ⟨trivial, trivial⟩⟩⟩⟩⟩⟩⟩ hR
theorem gr_0 (q : QG) (h1 : (CT Try.prog 11 [some (Blk.mk [AV.agg [AV.lst (List.map (AV.int IntKind.i64) q.L), AV.int IntKind.i64 (iN q.kk)]] 2 true true)] [AV.ptr 0 0 0, AV.int IntKind.i64 (IntKind.i64.wrap (q.x + 1))] [some (Blk.mk [AV.agg [AV.lst (List.map (AV.int IntKind.i64) q.L), AV.int IntKind.i64 (iN (q.kk + 1))]] 2 true true)] (AV.int IntKind.i64 (iN q.n)))) (h2 : (0 ≤ iN q.n)) (h3 : (iN q.n ≤ iN q.n)) (h4 : (24 * iN q.n ≤ 281474976710656)) (h5 : (iN q.n ≤ 9223372036854775807)) (h6 : (CT Try.prog 11 [some (Blk.mk [AV.agg [AV.lst (List.map (AV.int IntKind.i64) q.L), AV.int IntKind.i64 (iN (q.kk + 1))]] 2 true true)] [AV.ptr 0 0 0, AV.int IntKind.i64 (IntKind.i64.wrap (IntKind.i64.wrap (3 * iN q.n) + 1))] [some (Blk.mk [AV.agg [AV.lst (List.map (AV.int IntKind.i64) q.L), AV.int IntKind.i64 (iN (q.kk + 1 + 1))]] 2 true true)] (AV.int IntKind.i64 q.k))) {post : Exit → St → Prop} (ht : T Try.prog 1 (.loop (loopC (bodyOf Try.f9) 0)) (St.mk 53 [(0, AV.ptr 0 0 0), (5, AV.int IntKind.i64 (iN q.n)), (6, AV.sl 1 0 (iN q.n).toNat), (7, AV.int IntKind.i64 q.k)] [some (Blk.mk [AV.agg [AV.lst (List.map (AV.int IntKind.i64) q.L), AV.int IntKind.i64 (iN (q.kk + 1 + 1))]] 2 true true), some (Blk.mk (List.replicate (iN q.n).toNat AV.nils) 1 true true)]) (TK Try.prog 1 post (loopK (bodyOf Try.f9) 0))) : ∃ o' st' q', go Try.prog ({ dec := [], els := e9 q, calls := cG q, unroll := false } : HT) 1 4000 (.inl (bodyOf Try.f9)) [] (st9 q) = some (o', st', q') ∧ q' ∧ Go.AX.Rest Try.prog 1 post st' o' :=
  endR_spec (σ := [0,1]) (fz := []) (vars := [0,5,6,7]) (show endR 1 [0,1] [] [0,5,6,7] (go Try.prog ({ dec := [], els := e9 q, calls := cG q, unroll := false } : HT) 1 4000 (.inl (bodyOf Try.f9)) [] (st9 q)) = some (loopC (bodyOf Try.f9) 0, loopK (bodyOf Try.f9) 0, St.mk 53 [(0, AV.ptr 0 0 0), (5, AV.int IntKind.i64 (iN q.n)), (6, AV.sl 1 0 (iN q.n).toNat), (7, AV.int IntKind.i64 q.k)] [some (Blk.mk [AV.agg [AV.lst (List.map (AV.int IntKind.i64) q.L), AV.int IntKind.i64 (iN (q.kk + 1 + 1))]] 2 true true), some (Blk.mk (List.replicate (iN q.n).toNat AV.nils) 1 true true)], (((True ∧ True) ∧ (((True ∧ True) ∧ ((True ∧ True) ∧ ((True ∧ True) ∧ ((True ∧ (True ∧ (True ∧ (True ∧ (True ∧ ((type_of% h1) ∧ True)))))) ∧ ((True ∧ True) ∧ True))))) ∧ (((True ∧ True) ∧ ((True ∧ (True ∧ ((type_of% h2) ∧ ((type_of% h3) ∧ ((type_of% h4) ∧ (type_of% h5)))))) ∧ ((True ∧ True) ∧ True))) ∧ (((True ∧ True) ∧ ((True ∧ True) ∧ ((True ∧ True) ∧ ((True ∧ True) ∧ ((True ∧ (True ∧ (True ∧ (True ∧ (True ∧ ((type_of% h6) ∧ True)))))) ∧ ((True ∧ True) ∧ True)))))) ∧ True)))) ∧ (True ∧ (True ∧ (True ∧ (True ∧ (True ∧ (True ∧ True)))))))) by kernel_rfl) ⟨⟨⟨trivial, trivial⟩, ⟨⟨⟨trivial, trivial⟩, ⟨⟨trivial, trivial⟩, ⟨⟨trivial, trivial⟩, ⟨⟨trivial, ⟨trivial, ⟨trivial, ⟨trivial, ⟨trivial, ⟨h1, trivial⟩⟩⟩⟩⟩⟩, ⟨⟨trivial, trivial⟩, trivial⟩⟩⟩⟩⟩, ⟨⟨⟨trivial, trivial⟩, ⟨⟨trivial, ⟨trivial, ⟨h2, ⟨h3, ⟨h4, h5⟩⟩⟩⟩⟩, ⟨⟨trivial, trivial⟩, trivial⟩⟩⟩, ⟨⟨⟨trivial, trivial⟩, ⟨⟨trivial, trivial⟩, ⟨⟨trivial, trivial⟩, ⟨⟨trivial, trivial⟩, ⟨⟨trivial, ⟨trivial, ⟨trivial, ⟨trivial, ⟨trivial, ⟨h6, trivial⟩⟩⟩⟩⟩⟩, ⟨⟨trivial, trivial⟩, trivial⟩⟩⟩⟩⟩⟩, trivial⟩⟩⟩⟩, ⟨trivial, ⟨trivial, ⟨trivial, ⟨trivial, ⟨trivial, ⟨trivial, trivial⟩⟩⟩⟩⟩⟩⟩ ht
theorem grx_0 (q : QG) (h1 : (decide (0 < q.k) = false)) (h2 : (q.n = (gL q.g).length)) : ∃ o' st' q', go2 Try.prog ({ dec := [(22, false)], els := e9 q, calls := cG q, unroll := false } : HT) 1 4000 (loopC (bodyOf Try.f9) 0) (loopK (bodyOf Try.f9) 0) (lo9 q) = some (o', st', q') ∧ q' ∧ Go.AX.Rest Try.prog 1 (Fin Try.prog Try.f9 1 [some (Blk.mk [AV.agg [AV.lst (List.map (AV.int IntKind.i64) q.L), AV.int IntKind.i64 (iN q.kk)]] 2 true true)] (AV.lst (gL q.g))) st' o' :=
  endF_spec (σ := [0]) (fz := [1]) (show endF Try.prog Try.f9 1 [0] [1] (go2 Try.prog ({ dec := [(22, false)], els := e9 q, calls := cG q, unroll := false } : HT) 1 4000 (loopC (bodyOf Try.f9) 0) (loopK (bodyOf Try.f9) 0) (lo9 q)) = some ([some (Blk.mk [AV.agg [AV.lst (List.map (AV.int IntKind.i64) q.L), AV.int IntKind.i64 (iN q.kk)]] 2 true true)], AV.lst (gL q.g), (((((True ∧ True) ∧ ((True ∧ True) ∧ True)) ∧ ((type_of% h1) ∧ True)) ∧ (((True ∧ True) ∧ ((True ∧ True) ∧ True)) ∧ True)) ∧ ((type_of% h2) ∧ (True ∧ True)))) by kernel_rfl) ⟨⟨⟨⟨⟨trivial, trivial⟩, ⟨⟨trivial, trivial⟩, trivial⟩⟩, ⟨h1, trivial⟩⟩, ⟨⟨⟨trivial, trivial⟩, ⟨⟨trivial, trivial⟩, trivial⟩⟩, trivial⟩⟩, ⟨h2, ⟨trivial, trivial⟩⟩⟩
theorem grr_0 (q : QG) (h1 : (decide (0 < q.k) = true)) (h2 : (CT Try.prog 11 [some (Blk.mk [AV.agg [AV.lst (List.map (AV.int IntKind.i64) q.L), AV.int IntKind.i64 (iN q.kk)]] 2 true true)] [AV.ptr 0 0 0, AV.int IntKind.i64 (iN q.n)] [some (Blk.mk [AV.agg [AV.lst (List.map (AV.int IntKind.i64) q.L), AV.int IntKind.i64 (iN (q.kk + 1))]] 2 true true)] (AV.int IntKind.i64 (iN q.v)))) (h3 : (CT Try.prog 11 [some (Blk.mk [AV.agg [AV.lst (List.map (AV.int IntKind.i64) q.L), AV.int IntKind.i64 (iN (q.kk + 1))]] 2 true true)] [AV.ptr 0 0 0, AV.int IntKind.i64 (iN q.n)] [some (Blk.mk [AV.agg [AV.lst (List.map (AV.int IntKind.i64) q.L), AV.int IntKind.i64 (iN (q.kk + 1 + 1))]] 2 true true)] (AV.int IntKind.i64 (iN q.w)))) (h4 : ((iN q.v != iN q.w) = true)) (h5 : (0 ≤ iN q.v)) (h6 : (iN q.v < iN q.n)) (h7 : ((gL q.g)[0 + (iN q.v).toNat]? = some (AV.lst (List.map (AV.int IntKind.i64) q.l)))) (h8 : (CT Try.prog 23 [] [AV.lst (List.map (AV.int IntKind.i64) q.l), AV.int IntKind.i64 (iN q.w)] [] (AV.bool q.b))) (h9 : ((!q.b) = true)) (h10 : (CT Try.prog 25 [] [AV.lst (List.map (AV.int IntKind.i64) q.l), AV.int IntKind.i64 (iN q.w)] [] (AV.lst (List.map (AV.int IntKind.i64) q.o)))) (h11 : ((0 + (iN q.v).toNat).succ.le (gL q.g).length)) {post : Exit → St → Prop} {R : St → Prop} (hR : ∀ st, Ren 1 st (St.mk 53 [(0, AV.ptr 0 0 0), (5, AV.int IntKind.i64 (iN q.n)), (6, AV.sl 1 0 q.n), (7, AV.int IntKind.i64 (IntKind.i64.wrap (q.k - 1)))] [some (Blk.mk [AV.agg [AV.lst (List.map (AV.int IntKind.i64) q.L), AV.int IntKind.i64 (iN (q.kk + 1 + 1))]] 2 true true), some (Blk.mk ((gL q.g).set (0 + (iN q.v).toNat) (AV.lst (List.map (AV.int IntKind.i64) q.o))) 1 true true)]) → R st) : ∃ o' st' q', go Try.prog ({ dec := [(22, true), (34, true), (42, true)], els := e9 q, calls := cG q, unroll := false } : HT) 1 4000 (.inl (loopC (bodyOf Try.f9) 0)) [] (lo9 q) = some (o', st', q') ∧ q' ∧ Go.AX.Rest Try.prog 1 (andThen R post) st' o' :=
  endN_spec (σ := [0,1]) (fz := []) (vars := [0,5,6,7]) (show endN 1 [0,1] [] [0,5,6,7] (go Try.prog ({ dec := [(22, true), (34, true), (42, true)], els := e9 q, calls := cG q, unroll := false } : HT) 1 4000 (.inl (loopC (bodyOf Try.f9) 0)) [] (lo9 q)) = some (St.mk 53 [(0, AV.ptr 0 0 0), (5, AV.int IntKind.i64 (iN q.n)), (6, AV.sl 1 0 q.n), (7, AV.int IntKind.i64 (IntKind.i64.wrap (q.k - 1)))] [some (Blk.mk [AV.agg [AV.lst (List.map (AV.int IntKind.i64) q.L), AV.int IntKind.i64 (iN (q.kk + 1 + 1))]] 2 true true), some (Blk.mk ((gL q.g).set (0 + (iN q.v).toNat) (AV.lst (List.map (AV.int IntKind.i64) q.o))) 1 true true)], ((((True ∧ True) ∧ ((True ∧ True) ∧ True)) ∧ ((type_of% h1) ∧ (((True ∧ True) ∧ ((True ∧ True) ∧ ((True ∧ (True ∧ (True ∧ (True ∧ (True ∧ ((type_of% h2) ∧ True)))))) ∧ ((True ∧ True) ∧ ((True ∧ True) ∧ ((True ∧ (True ∧ (True ∧ (True ∧ (True ∧ ((type_of% h3) ∧ True)))))) ∧ ((True ∧ True) ∧ ((True ∧ True) ∧ True)))))))) ∧ (((True ∧ True) ∧ ((True ∧ True) ∧ ((True ∧ (True ∧ True)) ∧ ((True ∧ True) ∧ (((type_of% h4) ∧ (True ∧ True)) ∧ (((type_of% h4) ∧ (True ∧ True)) ∧ (((type_of% h4) ∧ (True ∧ (True ∧ ((type_of% h5) ∧ (type_of% h6))))) ∧ (((type_of% h4) ∧ (True ∧ (type_of% h7))) ∧ (((type_of% h4) ∧ (True ∧ True)) ∧ (((type_of% h4) ∧ (True ∧ (True ∧ (True ∧ (True ∧ ((type_of% h8) ∧ True)))))) ∧ (((type_of% h4) ∧ (True ∧ True)) ∧ (((type_of% h4) ∧ (True ∧ True)) ∧ True)))))))))))) ∧ ((type_of% h9) ∧ (((True ∧ True) ∧ ((True ∧ True) ∧ ((True ∧ True) ∧ ((True ∧ True) ∧ ((True ∧ (True ∧ ((type_of% h5) ∧ (type_of% h6)))) ∧ ((True ∧ (type_of% h7)) ∧ ((True ∧ True) ∧ ((True ∧ (True ∧ (True ∧ (True ∧ ((type_of% h10) ∧ True))))) ∧ ((True ∧ (True ∧ ((type_of% h5) ∧ (type_of% h6)))) ∧ ((True ∧ (True ∧ (type_of% h11))) ∧ True)))))))))) ∧ (((True ∧ True) ∧ ((True ∧ True) ∧ ((True ∧ True) ∧ True))) ∧ True))))))) ∧ (True ∧ (True ∧ (True ∧ (True ∧ (True ∧ (True ∧ True)))))))) by kernel_rfl) ⟨⟨⟨⟨trivial, trivial⟩, ⟨⟨trivial, trivial⟩, trivial⟩⟩, ⟨h1, ⟨⟨⟨trivial, trivial⟩, ⟨⟨trivial, trivial⟩, ⟨⟨trivial, ⟨trivial, ⟨trivial, ⟨trivial, ⟨trivial, ⟨h2, trivial⟩⟩⟩⟩⟩⟩, ⟨⟨trivial, trivial⟩, ⟨⟨trivial, trivial⟩, ⟨⟨trivial, ⟨trivial, ⟨trivial, ⟨trivial, ⟨trivial, ⟨h3, trivial⟩⟩⟩⟩⟩⟩, ⟨⟨trivial, trivial⟩, ⟨⟨trivial, trivial⟩, trivial⟩⟩⟩⟩⟩⟩⟩⟩, ⟨⟨⟨trivial, trivial⟩, ⟨⟨trivial, trivial⟩, ⟨⟨trivial, ⟨trivial, trivial⟩⟩, ⟨⟨trivial, trivial⟩, ⟨⟨h4, ⟨trivial, trivial⟩⟩, ⟨⟨h4, ⟨trivial, trivial⟩⟩, ⟨⟨h4, ⟨trivial, ⟨trivial, ⟨h5, h6⟩⟩⟩⟩, ⟨⟨h4, ⟨trivial, h7⟩⟩, ⟨⟨h4, ⟨trivial, trivial⟩⟩, ⟨⟨h4, ⟨trivial, ⟨trivial, ⟨trivial, ⟨trivial, ⟨h8, trivial⟩⟩⟩⟩⟩⟩, ⟨⟨h4, ⟨trivial, trivial⟩⟩, ⟨⟨h4, ⟨trivial, trivial⟩⟩, trivial⟩⟩⟩⟩⟩⟩⟩⟩⟩⟩⟩⟩, ⟨h9, ⟨⟨⟨trivial, trivial⟩, ⟨⟨trivial, trivial⟩, ⟨⟨trivial, trivial⟩, ⟨⟨trivial, trivial⟩, ⟨⟨trivial, ⟨trivial, ⟨h5, h6⟩⟩⟩, ⟨⟨trivial, h7⟩, ⟨⟨trivial, trivial⟩, ⟨⟨trivial, ⟨trivial, ⟨trivial, ⟨trivial, ⟨h10, trivial⟩⟩⟩⟩⟩, ⟨⟨trivial, ⟨trivial, ⟨h5, h6⟩⟩⟩, ⟨⟨trivial, ⟨trivial, h11⟩⟩, trivial⟩⟩⟩⟩⟩⟩⟩⟩⟩⟩, ⟨⟨⟨trivial, trivial⟩, ⟨⟨trivial, trivial⟩, ⟨⟨trivial, trivial⟩, trivial⟩⟩⟩, trivial⟩⟩⟩⟩⟩⟩⟩, ⟨trivial, ⟨trivial, ⟨trivial, ⟨trivial, ⟨trivial, ⟨trivial, trivial⟩⟩⟩⟩⟩⟩⟩ hR
theorem grr_1 (q : QG) (h1 : (decide (0 < q.k) = true)) (h2 : (CT Try.prog 11 [some (Blk.mk [AV.agg [AV.lst (List.map (AV.int IntKind.i64) q.L), AV.int IntKind.i64 (iN q.kk)]] 2 true true)] [AV.ptr 0 0 0, AV.int IntKind.i64 (iN q.n)] [some (Blk.mk [AV.agg [AV.lst (List.map (AV.int IntKind.i64) q.L), AV.int IntKind.i64 (iN (q.kk + 1))]] 2 true true)] (AV.int IntKind.i64 (iN q.v)))) (h3 : (CT Try.prog 11 [some (Blk.mk [AV.agg [AV.lst (List.map (AV.int IntKind.i64) q.L), AV.int IntKind.i64 (iN (q.kk + 1))]] 2 true true)] [AV.ptr 0 0 0, AV.int IntKind.i64 (iN q.n)] [some (Blk.mk [AV.agg [AV.lst (List.map (AV.int IntKind.i64) q.L), AV.int IntKind.i64 (iN (q.kk + 1 + 1))]] 2 true true)] (AV.int IntKind.i64 (iN q.w)))) (h4 : ((iN q.v != iN q.w) = true)) (h5 : (0 ≤ iN q.v)) (h6 : (iN q.v < iN q.n)) (h7 : ((gL q.g)[0 + (iN q.v).toNat]? = some (AV.lst (List.map (AV.int IntKind.i64) q.l)))) (h8 : (CT Try.prog 23 [] [AV.lst (List.map (AV.int IntKind.i64) q.l), AV.int IntKind.i64 (iN q.w)] [] (AV.bool q.b))) (h9 : ((!q.b) = false)) {post : Exit → St → Prop} {R : St → Prop} (hR : ∀ st, Ren 1 st (St.mk 53 [(0, AV.ptr 0 0 0), (5, AV.int IntKind.i64 (iN q.n)), (6, AV.sl 1 0 q.n), (7, AV.int IntKind.i64 (IntKind.i64.wrap (q.k - 1)))] [some (Blk.mk [AV.agg [AV.lst (List.map (AV.int IntKind.i64) q.L), AV.int IntKind.i64 (iN (q.kk + 1 + 1))]] 2 true true), some (Blk.mk (gL q.g) 1 true true)]) → R st) : ∃ o' st' q', go Try.prog ({ dec := [(22, true), (34, true), (42, false)], els := e9 q, calls := cG q, unroll := false } : HT) 1 4000 (.inl (loopC (bodyOf Try.f9) 0)) [] (lo9 q) = some (o', st', q') ∧ q' ∧ Go.AX.Rest Try.prog 1 (andThen R post) st' o' :=
  endN_spec (σ := [0,1]) (fz := []) (vars := [0,5,6,7]) (show endN 1 [0,1] [] [0,5,6,7] (go Try.prog ({ dec := [(22, true), (34, true), (42, false)], els := e9 q, calls := cG q, unroll := false } : HT) 1 4000 (.inl (loopC (bodyOf Try.f9) 0)) [] (lo9 q)) = some (St.mk 53 [(0, AV.ptr 0 0 0), (5, AV.int IntKind.i64 (iN q.n)), (6, AV.sl 1 0 q.n), (7, AV.int IntKind.i64 (IntKind.i64.wrap (q.k - 1)))] [some (Blk.mk [AV.agg [AV.lst (List.map (AV.int IntKind.i64) q.L), AV.int IntKind.i64 (iN (q.kk + 1 + 1))]] 2 true true), some (Blk.mk (gL q.g) 1 true true)], ((((True ∧ True) ∧ ((True ∧ True) ∧ True)) ∧ ((type_of% h1) ∧ (((True ∧ True) ∧ ((True ∧ True) ∧ ((True ∧ (True ∧ (True ∧ (True ∧ (True ∧ ((type_of% h2) ∧ True)))))) ∧ ((True ∧ True) ∧ ((True ∧ True) ∧ ((True ∧ (True ∧ (True ∧ (True ∧ (True ∧ ((type_of% h3) ∧ True)))))) ∧ ((True ∧ True) ∧ ((True ∧ True) ∧ True)))))))) ∧ (((True ∧ True) ∧ ((True ∧ True) ∧ ((True ∧ (True ∧ True)) ∧ ((True ∧ True) ∧ (((type_of% h4) ∧ (True ∧ True)) ∧ (((type_of% h4) ∧ (True ∧ True)) ∧ (((type_of% h4) ∧ (True ∧ (True ∧ ((type_of% h5) ∧ (type_of% h6))))) ∧ (((type_of% h4) ∧ (True ∧ (type_of% h7))) ∧ (((type_of% h4) ∧ (True ∧ True)) ∧ (((type_of% h4) ∧ (True ∧ (True ∧ (True ∧ (True ∧ ((type_of% h8) ∧ True)))))) ∧ (((type_of% h4) ∧ (True ∧ True)) ∧ (((type_of% h4) ∧ (True ∧ True)) ∧ True)))))))))))) ∧ ((type_of% h9) ∧ (((True ∧ True) ∧ ((True ∧ True) ∧ ((True ∧ True) ∧ True))) ∧ True)))))) ∧ (True ∧ (True ∧ (True ∧ (True ∧ (True ∧ (True ∧ True)))))))) by kernel_rfl) ⟨⟨⟨⟨trivial, trivial⟩, ⟨⟨trivial, trivial⟩, trivial⟩⟩, ⟨h1, ⟨⟨⟨trivial, trivial⟩, ⟨⟨trivial, trivial⟩, ⟨⟨trivial, ⟨trivial, ⟨trivial, ⟨trivial, ⟨trivial, ⟨h2, trivial⟩⟩⟩⟩⟩⟩, ⟨⟨trivial, trivial⟩, ⟨⟨trivial, trivial⟩, ⟨⟨trivial, ⟨trivial, ⟨trivial, ⟨trivial, ⟨trivial, ⟨h3, trivial⟩⟩⟩⟩⟩⟩, ⟨⟨trivial, trivial⟩, ⟨⟨trivial, trivial⟩, trivial⟩⟩⟩⟩⟩⟩⟩⟩, ⟨⟨⟨trivial, trivial⟩, ⟨⟨trivial, trivial⟩, ⟨⟨trivial, ⟨trivial, trivial⟩⟩, ⟨⟨trivial, trivial⟩, ⟨⟨h4, ⟨trivial, trivial⟩⟩, ⟨⟨h4, ⟨trivial, trivial⟩⟩, ⟨⟨h4, ⟨trivial, ⟨trivial, ⟨h5, h6⟩⟩⟩⟩, ⟨⟨h4, ⟨trivial, h7⟩⟩, ⟨⟨h4, ⟨trivial, trivial⟩⟩, ⟨⟨h4, ⟨trivial, ⟨trivial, ⟨trivial, ⟨trivial, ⟨h8, trivial⟩⟩⟩⟩⟩⟩, ⟨⟨h4, ⟨trivial, trivial⟩⟩, ⟨⟨h4, ⟨trivial, trivial⟩⟩, trivial⟩⟩⟩⟩⟩⟩⟩⟩⟩⟩⟩⟩, ⟨h9, ⟨⟨⟨trivial, trivial⟩, ⟨⟨trivial, trivial⟩, ⟨⟨trivial, trivial⟩, trivial⟩⟩⟩, trivial⟩⟩⟩⟩⟩⟩, ⟨trivial, ⟨trivial, ⟨trivial, ⟨trivial, ⟨trivial, ⟨trivial, trivial⟩⟩⟩⟩⟩⟩⟩ hR
theorem grr_2 (q : QG) (h1 : (decide (0 < q.k) = true)) (h2 : (CT Try.prog 11 [some (Blk.mk [AV.agg [AV.lst (List.map (AV.int IntKind.i64) q.L), AV.int IntKind.i64 (iN q.kk)]] 2 true true)] [AV.ptr 0 0 0, AV.int IntKind.i64 (iN q.n)] [some (Blk.mk [AV.agg [AV.lst (List.map (AV.int IntKind.i64) q.L), AV.int IntKind.i64 (iN (q.kk + 1))]] 2 true true)] (AV.int IntKind.i64 (iN q.v)))) (h3 : (CT Try.prog 11 [some (Blk.mk [AV.agg [AV.lst (List.map (AV.int IntKind.i64) q.L), AV.int IntKind.i64 (iN (q.kk + 1))]] 2 true true)] [AV.ptr 0 0 0, AV.int IntKind.i64 (iN q.n)] [some (Blk.mk [AV.agg [AV.lst (List.map (AV.int IntKind.i64) q.L), AV.int IntKind.i64 (iN (q.kk + 1 + 1))]] 2 true true)] (AV.int IntKind.i64 (iN q.w)))) (h4 : ((iN q.v != iN q.w) = false)) {post : Exit → St → Prop} {R : St → Prop} (hR : ∀ st, Ren 1 st (St.mk 53 [(0, AV.ptr 0 0 0), (5, AV.int IntKind.i64 (iN q.n)), (6, AV.sl 1 0 q.n), (7, AV.int IntKind.i64 (IntKind.i64.wrap (q.k - 1)))] [some (Blk.mk [AV.agg [AV.lst (List.map (AV.int IntKind.i64) q.L), AV.int IntKind.i64 (iN (q.kk + 1 + 1))]] 2 true true), some (Blk.mk (gL q.g) 1 true true)]) → R st) : ∃ o' st' q', go Try.prog ({ dec := [(22, true), (34, false)], els := e9 q, calls := cG q, unroll := false } : HT) 1 4000 (.inl (loopC (bodyOf Try.f9) 0)) [] (lo9 q) = some (o', st', q') ∧ q' ∧ Go.AX.Rest Try.prog 1 (andThen R post) st' o' :=
  endN_spec (σ := [0,1]) (fz := []) (vars := [0,5,6,7]) (show endN 1 [0,1] [] [0,5,6,7] (go Try.prog ({ dec := [(22, true), (34, false)], els := e9 q, calls := cG q, unroll := false } : HT) 1 4000 (.inl (loopC (bodyOf Try.f9) 0)) [] (lo9 q)) = some (St.mk 53 [(0, AV.ptr 0 0 0), (5, AV.int IntKind.i64 (iN q.n)), (6, AV.sl 1 0 q.n), (7, AV.int IntKind.i64 (IntKind.i64.wrap (q.k - 1)))] [some (Blk.mk [AV.agg [AV.lst (List.map (AV.int IntKind.i64) q.L), AV.int IntKind.i64 (iN (q.kk + 1 + 1))]] 2 true true), some (Blk.mk (gL q.g) 1 true true)], ((((True ∧ True) ∧ ((True ∧ True) ∧ True)) ∧ ((type_of% h1) ∧ (((True ∧ True) ∧ ((True ∧ True) ∧ ((True ∧ (True ∧ (True ∧ (True ∧ (True ∧ ((type_of% h2) ∧ True)))))) ∧ ((True ∧ True) ∧ ((True ∧ True) ∧ ((True ∧ (True ∧ (True ∧ (True ∧ (True ∧ ((type_of% h3) ∧ True)))))) ∧ ((True ∧ True) ∧ ((True ∧ True) ∧ True)))))))) ∧ (((True ∧ True) ∧ ((True ∧ True) ∧ ((True ∧ (True ∧ True)) ∧ ((True ∧ True) ∧ ((type_of% h4) ∧ ((type_of% h4) ∧ ((type_of% h4) ∧ ((type_of% h4) ∧ ((type_of% h4) ∧ ((type_of% h4) ∧ ((type_of% h4) ∧ (((type_of% h4) ∧ (True ∧ True)) ∧ True)))))))))))) ∧ (True ∧ (((True ∧ True) ∧ ((True ∧ True) ∧ ((True ∧ True) ∧ True))) ∧ True)))))) ∧ (True ∧ (True ∧ (True ∧ (True ∧ (True ∧ (True ∧ True)))))))) by kernel_rfl) ⟨⟨⟨⟨trivial, trivial⟩, ⟨⟨trivial, trivial⟩, trivial⟩⟩, ⟨h1, ⟨⟨⟨trivial, trivial⟩, ⟨⟨trivial, trivial⟩, ⟨⟨trivial, ⟨trivial, ⟨trivial, ⟨trivial, ⟨trivial, ⟨h2, trivial⟩⟩⟩⟩⟩⟩, ⟨⟨trivial, trivial⟩, ⟨⟨trivial, trivial⟩, ⟨⟨trivial, ⟨trivial, ⟨trivial, ⟨trivial, ⟨trivial, ⟨h3, trivial⟩⟩⟩⟩⟩⟩, ⟨⟨trivial, trivial⟩, ⟨⟨trivial, trivial⟩, trivial⟩⟩⟩⟩⟩⟩⟩⟩, ⟨⟨⟨trivial, trivial⟩, ⟨⟨trivial, trivial⟩, ⟨⟨trivial, ⟨trivial, trivial⟩⟩, ⟨⟨trivial, trivial⟩, ⟨h4, ⟨h4, ⟨h4, ⟨h4, ⟨h4, ⟨h4, ⟨h4, ⟨⟨h4, ⟨trivial, trivial⟩⟩, trivial⟩⟩⟩⟩⟩⟩⟩⟩⟩⟩⟩⟩, ⟨trivial, ⟨⟨⟨trivial, trivial⟩, ⟨⟨trivial, trivial⟩, ⟨⟨trivial, trivial⟩, trivial⟩⟩⟩, trivial⟩⟩⟩⟩⟩⟩, ⟨trivial, ⟨trivial, ⟨trivial, ⟨trivial, ⟨trivial, ⟨trivial, trivial⟩⟩⟩⟩⟩⟩⟩ hR
theorem sh_0 (q : QG) (h1 : (0 ≤ iN q.n)) (h2 : (iN q.n ≤ iN q.n)) (h3 : (1 * iN q.n ≤ 281474976710656)) (h4 : (iN q.n ≤ 9223372036854775807)) (h5 : (CT Try.prog 11 [some (Blk.mk [AV.agg [AV.lst (List.map (AV.int IntKind.i64) q.L), AV.int IntKind.i64 (iN q.kk)]] 2 true true)] [AV.ptr 0 0 0, AV.int IntKind.i64 3] [some (Blk.mk [AV.agg [AV.lst (List.map (AV.int IntKind.i64) q.L), AV.int IntKind.i64 (iN (q.kk + 1))]] 2 true true)] (AV.int IntKind.i64 q.k))) {post : Exit → St → Prop} (ht : T Try.prog 1 (.loop (loopC (bodyOf Try.f10) 0)) (St.mk 25 [(0, AV.ptr 0 0 0), (1, AV.int IntKind.i64 (iN q.n)), (5, AV.sl 1 0 (iN q.n).toNat), (6, AV.int IntKind.i64 q.k)] [some (Blk.mk [AV.agg [AV.lst (List.map (AV.int IntKind.i64) q.L), AV.int IntKind.i64 (iN (q.kk + 1))]] 2 true true), some (Blk.mk (List.replicate (iN q.n).toNat (AV.bool false)) 1 true true)]) (TK Try.prog 1 post (loopK (bodyOf Try.f10) 0))) : ∃ o' st' q', go Try.prog ({ dec := [], els := e10 q, calls := cG q, unroll := false } : HT) 1 4000 (.inl (bodyOf Try.f10)) [] (st10 q) = some (o', st', q') ∧ q' ∧ Go.AX.Rest Try.prog 1 post st' o' :=
  endR_spec (σ := [0,1]) (fz := []) (vars := [0,1,5,6]) (show endR 1 [0,1] [] [0,1,5,6] (go Try.prog ({ dec := [], els := e10 q, calls := cG q, unroll := false } : HT) 1 4000 (.inl (bodyOf Try.f10)) [] (st10 q)) = some (loopC (bodyOf Try.f10) 0, loopK (bodyOf Try.f10) 0, St.mk 25 [(0, AV.ptr 0 0 0), (1, AV.int IntKind.i64 (iN q.n)), (5, AV.sl 1 0 (iN q.n).toNat), (6, AV.int IntKind.i64 q.k)] [some (Blk.mk [AV.agg [AV.lst (List.map (AV.int IntKind.i64) q.L), AV.int IntKind.i64 (iN (q.kk + 1))]] 2 true true), some (Blk.mk (List.replicate (iN q.n).toNat (AV.bool false)) 1 true true)], (((True ∧ True) ∧ (((True ∧ True) ∧ ((True ∧ (True ∧ ((type_of% h1) ∧ ((type_of% h2) ∧ ((type_of% h3) ∧ (type_of% h4)))))) ∧ ((True ∧ True) ∧ True))) ∧ (((True ∧ True) ∧ ((True ∧ (True ∧ (True ∧ (True ∧ ((type_of% h5) ∧ True))))) ∧ ((True ∧ True) ∧ True))) ∧ True))) ∧ (True ∧ (True ∧ (True ∧ (True ∧ (True ∧ (True ∧ True)))))))) by kernel_rfl) ⟨⟨⟨trivial, trivial⟩, ⟨⟨⟨trivial, trivial⟩, ⟨⟨trivial, ⟨trivial, ⟨h1, ⟨h2, ⟨h3, h4⟩⟩⟩⟩⟩, ⟨⟨trivial, trivial⟩, trivial⟩⟩⟩, ⟨⟨⟨trivial, trivial⟩, ⟨⟨trivial, ⟨trivial, ⟨trivial, ⟨trivial, ⟨h5, trivial⟩⟩⟩⟩⟩, ⟨⟨trivial, trivial⟩, trivial⟩⟩⟩, trivial⟩⟩⟩, ⟨trivial, ⟨trivial, ⟨trivial, ⟨trivial, ⟨trivial, ⟨trivial, trivial⟩⟩⟩⟩⟩⟩⟩ ht
theorem shx_0 (q : QG) (h1 : (decide (0 < q.k) = true)) (h2 : (decide (0 < iN q.n) = false)) (h3 : (q.n = (boL q.s).length)) : ∃ o' st' q', go2 Try.prog ({ dec := [(16, false), (13, true)], els := e10 q, calls := cG q, unroll := false } : HT) 1 4000 (loopC (bodyOf Try.f10) 0) (loopK (bodyOf Try.f10) 0) (lo10 q) = some (o', st', q') ∧ q' ∧ Go.AX.Rest Try.prog 1 (Fin Try.prog Try.f10 1 [some (Blk.mk [AV.agg [AV.lst (List.map (AV.int IntKind.i64) q.L), AV.int IntKind.i64 (iN q.kk)]] 2 true true)] (AV.lst (boL q.s))) st' o' :=
  endF_spec (σ := [0]) (fz := [1]) (show endF Try.prog Try.f10 1 [0] [1] (go2 Try.prog ({ dec := [(16, false), (13, true)], els := e10 q, calls := cG q, unroll := false } : HT) 1 4000 (loopC (bodyOf Try.f10) 0) (loopK (bodyOf Try.f10) 0) (lo10 q)) = some ([some (Blk.mk [AV.agg [AV.lst (List.map (AV.int IntKind.i64) q.L), AV.int IntKind.i64 (iN q.kk)]] 2 true true)], AV.lst (boL q.s), (((((True ∧ True) ∧ ((True ∧ True) ∧ ((True ∧ True) ∧ (((type_of% h1) ∧ (True ∧ True)) ∧ (((type_of% h1) ∧ (True ∧ True)) ∧ (((type_of% h1) ∧ (True ∧ True)) ∧ True)))))) ∧ ((type_of% h2) ∧ True)) ∧ (((True ∧ True) ∧ ((True ∧ True) ∧ True)) ∧ True)) ∧ ((type_of% h3) ∧ (True ∧ True)))) by kernel_rfl) ⟨⟨⟨⟨⟨trivial, trivial⟩, ⟨⟨trivial, trivial⟩, ⟨⟨trivial, trivial⟩, ⟨⟨h1, ⟨trivial, trivial⟩⟩, ⟨⟨h1, ⟨trivial, trivial⟩⟩, ⟨⟨h1, ⟨trivial, trivial⟩⟩, trivial⟩⟩⟩⟩⟩⟩, ⟨h2, trivial⟩⟩, ⟨⟨⟨trivial, trivial⟩, ⟨⟨trivial, trivial⟩, trivial⟩⟩, trivial⟩⟩, ⟨h3, ⟨trivial, trivial⟩⟩⟩
theorem shx_1 (q : QG) (h1 : (decide (0 < q.k) = false)) (h2 : (q.n = (boL q.s).length)) : ∃ o' st' q', go2 Try.prog ({ dec := [(16, false), (13, false)], els := e10 q, calls := cG q, unroll := false } : HT) 1 4000 (loopC (bodyOf Try.f10) 0) (loopK (bodyOf Try.f10) 0) (lo10 q) = some (o', st', q') ∧ q' ∧ Go.AX.Rest Try.prog 1 (Fin Try.prog Try.f10 1 [some (Blk.mk [AV.agg [AV.lst (List.map (AV.int IntKind.i64) q.L), AV.int IntKind.i64 (iN q.kk)]] 2 true true)] (AV.lst (boL q.s))) st' o' :=
  endF_spec (σ := [0]) (fz := [1]) (show endF Try.prog Try.f10 1 [0] [1] (go2 Try.prog ({ dec := [(16, false), (13, false)], els := e10 q, calls := cG q, unroll := false } : HT) 1 4000 (loopC (bodyOf Try.f10) 0) (loopK (bodyOf Try.f10) 0) (lo10 q)) = some ([some (Blk.mk [AV.agg [AV.lst (List.map (AV.int IntKind.i64) q.L), AV.int IntKind.i64 (iN q.kk)]] 2 true true)], AV.lst (boL q.s), (((((True ∧ True) ∧ ((True ∧ True) ∧ ((True ∧ True) ∧ ((type_of% h1) ∧ ((type_of% h1) ∧ (((type_of% h1) ∧ (True ∧ True)) ∧ True)))))) ∧ ((false = false) ∧ True)) ∧ (((True ∧ True) ∧ ((True ∧ True) ∧ True)) ∧ True)) ∧ ((type_of% h2) ∧ (True ∧ True)))) by kernel_rfl) ⟨⟨⟨⟨⟨trivial, trivial⟩, ⟨⟨trivial, trivial⟩, ⟨⟨trivial, trivial⟩, ⟨h1, ⟨h1, ⟨⟨h1, ⟨trivial, trivial⟩⟩, trivial⟩⟩⟩⟩⟩⟩, ⟨(by first | decide | exact Int.NonNeg.mk _), trivial⟩⟩, ⟨⟨⟨trivial, trivial⟩, ⟨⟨trivial, trivial⟩, trivial⟩⟩, trivial⟩⟩, ⟨h2, ⟨trivial, trivial⟩⟩⟩
theorem shr_0 (q : QG) (h1 : (decide (0 < q.k) = true)) (h2 : (decide (0 < iN q.n) = true)) (h3 : (CT Try.prog 11 [some (Blk.mk [AV.agg [AV.lst (List.map (AV.int IntKind.i64) q.L), AV.int IntKind.i64 (iN q.kk)]] 2 true true)] [AV.ptr 0 0 0, AV.int IntKind.i64 (iN q.n)] [some (Blk.mk [AV.agg [AV.lst (List.map (AV.int IntKind.i64) q.L), AV.int IntKind.i64 (iN (q.kk + 1))]] 2 true true)] (AV.int IntKind.i64 (iN q.v)))) (h4 : (0 ≤ iN q.v)) (h5 : (iN q.v < iN q.n)) (h6 : ((0 + (iN q.v).toNat).succ.le (boL q.s).length)) {post : Exit → St → Prop} {R : St → Prop} (hR : ∀ st, Ren 1 st (St.mk 25 [(0, AV.ptr 0 0 0), (1, AV.int IntKind.i64 (iN q.n)), (5, AV.sl 1 0 q.n), (6, AV.int IntKind.i64 (IntKind.i64.wrap (q.k - 1)))] [some (Blk.mk [AV.agg [AV.lst (List.map (AV.int IntKind.i64) q.L), AV.int IntKind.i64 (iN (q.kk + 1))]] 2 true true), some (Blk.mk ((boL q.s).set (0 + (iN q.v).toNat) (AV.bool true)) 1 true true)]) → R st) : ∃ o' st' q', go Try.prog ({ dec := [(13, true), (16, true)], els := e10 q, calls := cG q, unroll := false } : HT) 1 4000 (.inl (loopC (bodyOf Try.f10) 0)) [] (lo10 q) = some (o', st', q') ∧ q' ∧ Go.AX.Rest Try.prog 1 (andThen R post) st' o' :=
  endN_spec (σ := [0,1]) (fz := []) (vars := [0,1,5,6]) (show endN 1 [0,1] [] [0,1,5,6] (go Try.prog ({ dec := [(13, true), (16, true)], els := e10 q, calls := cG q, unroll := false } : HT) 1 4000 (.inl (loopC (bodyOf Try.f10) 0)) [] (lo10 q)) = some (St.mk 25 [(0, AV.ptr 0 0 0), (1, AV.int IntKind.i64 (iN q.n)), (5, AV.sl 1 0 q.n), (6, AV.int IntKind.i64 (IntKind.i64.wrap (q.k - 1)))] [some (Blk.mk [AV.agg [AV.lst (List.map (AV.int IntKind.i64) q.L), AV.int IntKind.i64 (iN (q.kk + 1))]] 2 true true), some (Blk.mk ((boL q.s).set (0 + (iN q.v).toNat) (AV.bool true)) 1 true true)], ((((True ∧ True) ∧ ((True ∧ True) ∧ ((True ∧ True) ∧ (((type_of% h1) ∧ (True ∧ True)) ∧ (((type_of% h1) ∧ (True ∧ True)) ∧ (((type_of% h1) ∧ (True ∧ True)) ∧ True)))))) ∧ ((type_of% h2) ∧ (((True ∧ True) ∧ ((True ∧ True) ∧ ((True ∧ True) ∧ ((True ∧ (True ∧ (True ∧ (True ∧ (True ∧ ((type_of% h3) ∧ True)))))) ∧ ((True ∧ (True ∧ ((type_of% h4) ∧ (type_of% h5)))) ∧ ((True ∧ (type_of% h6)) ∧ True)))))) ∧ (((True ∧ True) ∧ ((True ∧ True) ∧ ((True ∧ True) ∧ True))) ∧ True)))) ∧ (True ∧ (True ∧ (True ∧ (True ∧ (True ∧ (True ∧ True)))))))) by kernel_rfl) ⟨⟨⟨⟨trivial, trivial⟩, ⟨⟨trivial, trivial⟩, ⟨⟨trivial, trivial⟩, ⟨⟨h1, ⟨trivial, trivial⟩⟩, ⟨⟨h1, ⟨trivial, trivial⟩⟩, ⟨⟨h1, ⟨trivial, trivial⟩⟩, trivial⟩⟩⟩⟩⟩⟩, ⟨h2, ⟨⟨⟨trivial, trivial⟩, ⟨⟨trivial, trivial⟩, ⟨⟨trivial, trivial⟩, ⟨⟨trivial, ⟨trivial, ⟨trivial, ⟨trivial, ⟨trivial, ⟨h3, trivial⟩⟩⟩⟩⟩⟩, ⟨⟨trivial, ⟨trivial, ⟨h4, h5⟩⟩⟩, ⟨⟨trivial, h6⟩, trivial⟩⟩⟩⟩⟩⟩, ⟨⟨⟨trivial, trivial⟩, ⟨⟨trivial, trivial⟩, ⟨⟨trivial, trivial⟩, trivial⟩⟩⟩, trivial⟩⟩⟩⟩, ⟨trivial, ⟨trivial, ⟨trivial, ⟨trivial, ⟨trivial, ⟨trivial, trivial⟩⟩⟩⟩⟩⟩⟩ hR
end Go.Proofs.Ytnpmcikbnnlmkaa

/-! Has and Insert. -/
open Go Go.AX Go.Proofs
set_option maxRecDepth 100000
set_option maxHeartbeats 1000000
set_option linter.unusedVariables false
set_option linter.unusedSimpArgs false
namespace Go.Proofs.Ytnpmcikbnnlmkaa
theorem fnd_none {p : Nat → Bool} : ∀ {n s : Nat}, fnd p s n = none → ∀ i, s ≤ i → i < s + n → p i = false := by
  intro n
  induction n with
  | zero => intro s _ i h1 h2; omega
  | succ n ih =>
    intro s h i h1 h2
    rw [fnd] at h
    cases hp : p s with
    | true => rw [hp] at h; cases h
    | false =>
      rw [hp] at h
      by_cases e : i = s
      · rw [e]; exact hp
      · exact ih h i (by omega) (by omega)

noncomputable def hasZ (l : List Int) (x : Int) : Bool := (fnd (fun i => l.getD i 0 == x) 0 l.length).isSome
theorem hasZ_false {l : List Int} {x : Int} (h : hasZ l x = false) : x ∉ l := by
  intro hm
  unfold hasZ at h
  have hn : fnd (fun i => l.getD i 0 == x) 0 l.length = none := by simpa using h
  obtain ⟨i, hi, rfl⟩ := List.mem_iff_getElem.1 hm
  have := fnd_none hn i (Nat.zero_le _) (by omega)
  rw [List.getD_eq_getElem?_getD, List.getElem?_eq_getElem hi] at this
  simp at this

theorem has_ct (l : List Int) (x : Int) (hl : l.length ≤ 1000000) : CT Try.prog 23 [] [lI l, .int .i64 x] [] (.bool (hasZ l x)) := by
  have hll := lI_len l
  refine CT.path mix Try.func23 (show Try.f23.body = some (bodyOf Try.f23) by kernel_rfl) (Nat.le_of_ble_eq_true rfl) (ha_0 ⟨[], [], l, [], [], 0, 0, 0, 0, 0, x, 0, 0, false⟩ ?_)
  unfold hasZ
  generalize hr : fnd (fun i => l.getD i 0 == x) 0 l.length = r
  refine T.loop (fun i : Nat => lo23 ⟨[], [], l, [], [], 0, 0, 0, 0, 0, x, i, 0, false⟩) (fun i => i ≤ l.length ∧ fnd (fun i => l.getD i 0 == x) i (l.length - i) = r) (fun i => l.length + 1 - i) 0 ⟨Nat.zero_le _, hr⟩ ?_
  rintro i ⟨hi, hf⟩
  by_cases h : i < l.length
  · rw [fnd_step h] at hf
    by_cases he : (l.getD i 0 == x) = true
    · simp only [he] at hf
      subst hf
      exact T.out mix (hay_0 ⟨[], [], l, [], [], 0, 0, 0, 0, 0, x, i, l.getD i 0, false⟩ (decide_eq_true (by simp only [iN, hll]; omega)) (by simp [iN]) (lI_get h) he)
    · have he := Bool.eq_false_iff.2 he
      simp only [he] at hf
      refine T.path mix (har_0 ⟨[], [], l, [], [], 0, 0, 0, 0, 0, x, i, l.getD i 0, false⟩ (decide_eq_true (by simp only [iN, hll]; omega)) (by simp [iN]) (lI_get h) he ?_)
      intro st hst
      simp only [iN, wrap_nat i (show i < 9223372036854775807 by omega)] at hst
      exact ⟨i + 1, hst, ⟨h, hf⟩, by omega⟩
  · rw [fnd_end h] at hf
    subst hf
    exact T.out mix (hax_0 ⟨[], [], l, [], [], 0, 0, 0, 0, 0, x, i, 0, false⟩ (decide_eq_false (by simp only [iN, hll]; omega)))

def insB (x : Int) : List Int → List Int
  | [] => [x]
  | a :: r => if x < a then x :: a :: r else a :: insB x r

noncomputable def inS (l : List Int) (x : Int) (y : Nat × List Int × Bool) : St := match y.2.1 with
  | [] => lz25 ⟨[], [], l, [], [], 0, 0, 0, 0, 0, x, y.1, 0, false⟩
  | _ => lo25 ⟨[], [], l, y.2.1, [], 0, 0, 0, 0, 0, x, y.1, 0, y.2.2⟩

theorem ins_ct (l : List Int) (x : Int) (hl : l.length ≤ 1000000) : CT Try.prog 25 [] [lI l, .int .i64 x] [] (lI (insB x l)) := by
  have hll := lI_len l
  refine CT.path mix Try.func25 (show Try.f25.body = some (bodyOf Try.f25) by kernel_rfl) (Nat.le_of_ble_eq_true rfl) (in_0 ⟨[], [], l, [], [], 0, 0, 0, 0, 0, x, 0, 0, false⟩ ?_)
  generalize hres : insB x l = res
  refine T.loop (fun y : Nat × List Int × Bool => inS l x y) (fun y => y.1 ≤ l.length ∧ y.2.1.length ≤ y.1 + 1 ∧ (y.2.2 = false → y.2.1 = l.take y.1 ∧ res = y.2.1 ++ insB x (l.drop y.1)) ∧ (y.2.2 = true → res = y.2.1 ++ l.drop y.1 ∧ y.2.1 ≠ [])) (fun y => l.length + 1 - y.1) (0, [], false)
    ⟨Nat.zero_le _, by simp, fun _ => ⟨by simp, by simp [hres]⟩, fun h => by cases h⟩ ?_
  rintro ⟨i, o, b⟩ ⟨hi, ho, hF, hT⟩
  simp only at hi ho hF hT
  have step : ∀ (h : i < l.length), l.drop i = l.getD i 0 :: l.drop (i + 1) ∧ l.take (i + 1) = l.take i ++ [l.getD i 0] := by
    intro h
    have e : l.getD i 0 = l[i] := by rw [List.getD_eq_getElem?_getD, List.getElem?_eq_getElem h]; rfl
    rw [e]
    exact ⟨List.drop_eq_getElem_cons h, by rw [List.take_add_one, List.getElem?_eq_getElem h]; rfl⟩
  have hw : IntKind.i64.wrap (iN i + 1) = ((i + 1 : Nat) : Int) := wrap_nat i (by omega)
  have lenE : ∀ (u : List Int) (y : AV), (u.map (AV.int .i64)).length + [y].length = u.length + 1 := by intro u y; simp
  cases ho' : o with
  | nil =>
    subst ho'
    cases hb : b with
    | true => exact absurd rfl (hT hb).2
    | false =>
      subst hb
      obtain ⟨h1, h2⟩ := hF rfl
      simp only [List.nil_append] at h2
      by_cases h : i < l.length
      · obtain ⟨e1, e2⟩ := step h
        by_cases hx : x < l.getD i 0
        · refine T.path mix (inza_0 ⟨[], [], l, [], [], 0, 0, 0, 0, 0, x, i, l.getD i 0, false⟩ (decide_eq_true (by simp only [iN, hll]; omega)) (by simp [iN]) (lI_get h) (decide_eq_true hx) (by simp) (by simp) (by simp) (by simp) (by simp) (by simp) ?_)
          intro st hst
          rw [hw] at hst
          refine ⟨(i + 1, [x, l.getD i 0], true), hst, ⟨h, by simp only [List.length_cons, List.length_nil]; omega, fun h => (by cases h), fun _ => ⟨?_, by simp⟩⟩, by simp only; omega⟩
          rw [h2, e1, insB, if_pos hx]; rfl
        · refine T.path mix (inzb_0 ⟨[], [], l, [], [], 0, 0, 0, 0, 0, x, i, l.getD i 0, false⟩ (decide_eq_true (by simp only [iN, hll]; omega)) (by simp [iN]) (lI_get h) (decide_eq_false hx) (by simp) (by simp) (by simp) ?_)
          intro st hst
          rw [hw] at hst
          refine ⟨(i + 1, [l.getD i 0], false), hst, ⟨h, by simp only [List.length_cons, List.length_nil]; omega, fun _ => ⟨by rw [e2, ← h1]; rfl, ?_⟩, fun h => by cases h⟩, by simp only; omega⟩
          rw [h2, e1, insB, if_neg hx]; rfl
      · have e : l.drop i = [] := List.drop_of_length_le (by omega)
        rw [e] at h2
        rw [h2]
        exact T.out mix (inzx_0 ⟨[], [], l, [], [], 0, 0, 0, 0, 0, x, i, 0, false⟩ (decide_eq_false (by simp only [iN, hll]; omega)) (by simp) (by simp) (by simp))
  | cons o0 o1 =>
    rw [← ho']
    have hS : inS l x (i, o, b) = lo25 ⟨[], [], l, o, [], 0, 0, 0, 0, 0, x, i, 0, b⟩ := by rw [ho']; rfl
    have next : ∀ (o' : List Int) (b' : Bool) (st : St), o' ≠ [] → Ren 0 st (lo25 ⟨[], [], l, o', [], 0, 0, 0, 0, 0, x, i + 1, 0, b'⟩) → Ren 0 st (inS l x (i + 1, o', b')) := by
      intro o' b' st hne hst
      cases o' with
      | nil => exact absurd rfl hne
      | cons _ _ => exact hst
    show T Try.prog 0 _ (inS l x (i, o, b)) _
    rw [hS]
    by_cases h : i < l.length
    · obtain ⟨e1, e2⟩ := step h
      cases hb : b with
      | true =>
        subst hb
        obtain ⟨h1, h2⟩ := hT rfl
        refine T.path mix (inod_0 ⟨[], [], l, o, [], 0, 0, 0, 0, 0, x, i, l.getD i 0, true⟩ (decide_eq_true (by simp only [iN, hll]; omega)) rfl (by simp [iN]) (lI_get h) (by simp) (by simp) (by simp; omega) (by simp; omega) ?_)
        intro st hst
        rw [hw, lenE] at hst
        refine ⟨(i + 1, o ++ [l.getD i 0], true), next _ _ _ (by simp) ?_, ⟨h, by simp only [List.length_append, List.length_cons, List.length_nil]; omega, fun h => (by cases h), fun _ => ⟨by rw [h1, e1]; simp, by simp⟩⟩, by simp only; omega⟩
        unfold lo25 dB
        simp only [List.map_append, List.length_append, List.length_cons, List.length_nil, Nat.zero_add, List.map_cons, List.map_nil]
        exact hst
      | false =>
        subst hb
        obtain ⟨h1, h2⟩ := hF rfl
        by_cases hx : x < l.getD i 0
        · refine T.path mix (inoa_0 ⟨[], [], l, o, [], 0, 0, 0, 0, 0, x, i, l.getD i 0, false⟩ (decide_eq_true (by simp only [iN, hll]; omega)) rfl (by simp [iN]) (lI_get h) (decide_eq_true hx) (by simp) (by simp) (by simp; omega) (by simp; omega) (by simp) (by simp) (by simp; omega) (by simp; omega) ?_)
          intro st hst
          rw [hw] at hst
          have hlen2 : o.length ≤ i := by rw [h1]; simp; omega
          refine ⟨(i + 1, o ++ [x, l.getD i 0], true), next _ _ _ (by simp) ?_, ⟨h, by simp only [List.length_append, List.length_cons, List.length_nil]; omega, fun h => (by cases h), fun _ => ⟨by rw [h2, e1, insB, if_pos hx]; simp, by simp⟩⟩, by simp only; omega⟩
          have e5 : (o.map (AV.int .i64) ++ [AV.int .i64 x]).length + [AV.int .i64 (l.getD i 0)].length = (o ++ [x, l.getD i 0]).length := by simp
          simp only at hst
          rw [e5] at hst
          unfold lo25 dB
          simp only [List.map_append, List.map_cons, List.map_nil]
          rw [List.append_assoc] at hst
          exact hst
        · refine T.path mix (inob_0 ⟨[], [], l, o, [], 0, 0, 0, 0, 0, x, i, l.getD i 0, false⟩ (decide_eq_true (by simp only [iN, hll]; omega)) rfl (by simp [iN]) (lI_get h) (decide_eq_false hx) (by simp) (by simp) (by simp; omega) (by simp; omega) ?_)
          intro st hst
          rw [hw, lenE] at hst
          refine ⟨(i + 1, o ++ [l.getD i 0], false), next _ _ _ (by simp) ?_, ⟨h, by simp only [List.length_append, List.length_cons, List.length_nil]; omega, fun _ => ⟨by rw [e2, ← h1], by rw [h2, e1, insB, if_neg hx]; simp⟩, fun h => by cases h⟩, by simp only; omega⟩
          unfold lo25 dB
          simp only [List.map_append, List.length_append, List.length_cons, List.length_nil, Nat.zero_add, List.map_cons, List.map_nil]
          exact hst
    · have e : l.drop i = [] := List.drop_of_length_le (by omega)
      cases hb : b with
      | true =>
        subst hb
        obtain ⟨h1, _⟩ := hT rfl
        rw [e, List.append_nil] at h1
        rw [h1]
        exact T.out mix (inox_1 ⟨[], [], l, o, [], 0, 0, 0, 0, 0, x, i, 0, true⟩ (decide_eq_false (by simp only [iN, hll]; omega)) rfl (by simp))
      | false =>
        subst hb
        obtain ⟨_, h2⟩ := hF rfl
        rw [e] at h2
        rw [show lI res = .lst (o.map (AV.int .i64) ++ [AV.int .i64 x]) by rw [h2]; simp [lI, insB]]
        exact T.out mix (inox_0 ⟨[], [], l, o, [], 0, 0, 0, 0, 0, x, i, 0, false⟩ (decide_eq_false (by simp only [iN, hll]; omega)) rfl (by simp) (by simp) (by simp; omega) (by simp; omega) (by simp))
#print axioms ins_ct
end Go.Proofs.Ytnpmcikbnnlmkaa

/-! The made graphs. -/
open Go Go.AX Go.Proofs
set_option maxRecDepth 100000
set_option maxHeartbeats 1000000
set_option linter.unusedVariables false
set_option linter.unusedSimpArgs false
namespace Go.Proofs.Ytnpmcikbnnlmkaa
theorem wrapS (z : Int) (h0 : -1000000 ≤ z) (h1 : z ≤ 1000000) : IntKind.i64.wrap z = z := by
  have e1 : (2 : Int) ^ IntKind.i64.bits = 18446744073709551616 := by decide
  have e2 : (2 : Int) ^ (IntKind.i64.bits - 1) = 9223372036854775808 := by decide
  have e3 : IntKind.i64.signed = true := by decide
  simp only [IntKind.wrap, e1, e2, e3, Bool.true_and, decide_eq_true_eq]
  split <;> omega
theorem nextZ_rng (L : List Int) (k : Nat) (n : Int) (h1 : 1 ≤ n) (h2 : n ≤ 100000) : 0 ≤ nextZ L k n ∧ nextZ L k n < n := by
  unfold nextZ cutZ
  split
  · omega
  · have ha := Int.tmod_lt_of_pos (rawZ L k) (show 0 < n by omega)
    have hb := Int.lt_tmod_of_pos (rawZ L k) (show 0 < n by omega)
    split
    · rw [wrapS _ (by omega) (by omega)]; omega
    · omega

theorem mem_insB {x y : Int} : ∀ {l : List Int}, y ∈ insB x l ↔ y = x ∨ y ∈ l := by
  intro l
  induction l with
  | nil => simp [insB]
  | cons a r ih =>
    rw [insB]
    split
    · simp
    · simp only [List.mem_cons, ih]
      constructor
      · rintro (h | h | h)
        · exact .inr (.inl h)
        · exact .inl h
        · exact .inr (.inr h)
      · rintro (h | h | h)
        · exact .inr (.inl h)
        · exact .inl h
        · exact .inr (.inr h)
theorem insB_asc {x : Int} : ∀ {l : List Int}, l.Pairwise (· < ·) → x ∉ l → (insB x l).Pairwise (· < ·) := by
  intro l
  induction l with
  | nil => intro _ _; simp [insB]
  | cons a r ih =>
    intro h hx
    rw [List.pairwise_cons] at h
    rw [insB]
    have hxa : x ≠ a := fun e => hx (by simp [e])
    split
    · rename_i hlt
      refine List.pairwise_cons.2 ⟨fun y hy => ?_, List.pairwise_cons.2 h⟩
      rcases List.mem_cons.1 hy with rfl | hy
      · exact hlt
      · exact Int.lt_trans hlt (h.1 y hy)
    · rename_i hge
      refine List.pairwise_cons.2 ⟨fun y hy => ?_, ih h.2 fun hm => hx (List.mem_cons_of_mem _ hm)⟩
      rcases mem_insB.1 hy with rfl | hy
      · omega
      · exact h.1 y hy
theorem insB_len (x : Int) : ∀ (l : List Int), (insB x l).length = l.length + 1 := by
  intro l
  induction l with
  | nil => rfl
  | cons a r ih => rw [insB]; split <;> simp [ih]

/-- What the graphs are that are made. -/
structure GI (n m : Nat) (g : List (List Int)) : Prop where
  len : g.length = n
  row : ∀ v, v < n → (g.getD v []).length ≤ m ∧ (g.getD v []).Pairwise (· < ·) ∧ ∀ w ∈ g.getD v [], 0 ≤ w ∧ w < (n : Int) ∧ w ≠ (v : Int)

noncomputable def stp (L : List Int) (n : Nat) (y : List (List Int) × Nat) : List (List Int) × Nat :=
  if (nextZ L y.2 n).toNat = (nextZ L (y.2 + 1) n).toNat then (y.1, y.2 + 2)
  else if hasZ (y.1.getD (nextZ L y.2 n).toNat []) (nextZ L (y.2 + 1) n) = true then (y.1, y.2 + 2)
  else (y.1.set (nextZ L y.2 n).toNat (insB (nextZ L (y.2 + 1) n) (y.1.getD (nextZ L y.2 n).toNat [])), y.2 + 2)
noncomputable def grS (L : List Int) (n : Nat) (y : List (List Int) × Nat) : Nat → List (List Int) × Nat
  | 0 => y
  | j + 1 => stp L n (grS L n y j)

theorem stp_kk (L : List Int) (n : Nat) (y : List (List Int) × Nat) : (stp L n y).2 = y.2 + 2 := by
  unfold stp; split
  · rfl
  · split <;> rfl
theorem grS_kk (L : List Int) (n : Nat) (y : List (List Int) × Nat) (j : Nat) : (grS L n y j).2 = y.2 + 2 * j := by
  induction j with
  | zero => rfl
  | succ j ih => rw [grS, stp_kk, ih]; omega

theorem stp_inv {L : List Int} {n m : Nat} (hn : 1 ≤ n) (hn2 : n ≤ 1000) {y : List (List Int) × Nat} (h : GI n m y.1) : GI n (m + 1) (stp L n y).1 := by
  have keep : GI n (m + 1) y.1 := ⟨h.len, fun v hv => ⟨Nat.le_succ_of_le (h.row v hv).1, (h.row v hv).2⟩⟩
  have r1 := nextZ_rng L y.2 n (by omega) (by omega)
  have r2 := nextZ_rng L (y.2 + 1) n (by omega) (by omega)
  unfold stp
  generalize nextZ L y.2 n = a at r1
  generalize nextZ L (y.2 + 1) n = w at r2
  split
  · exact keep
  · rename_i hne
    split
    · exact keep
    · rename_i hh
      have hh := Bool.eq_false_iff.2 hh
      have hav : a.toNat < n := by omega
      refine ⟨by simp [h.len], fun v hv => ?_⟩
      have e : (y.1.set a.toNat (insB w (y.1.getD a.toNat []))).getD v [] = if a.toNat = v then insB w (y.1.getD a.toNat []) else y.1.getD v [] := by
        rw [List.getD_eq_getElem?_getD, List.getElem?_set]
        split
        · rename_i e; subst e; rw [if_pos (by rw [h.len]; exact hav)]; rfl
        · rw [List.getD_eq_getElem?_getD]
      rw [e]
      split
      · rename_i e2
        obtain ⟨g1, g2, g3⟩ := h.row a.toNat hav
        refine ⟨by rw [insB_len]; omega, insB_asc g2 (hasZ_false hh), fun x hx => ?_⟩
        rcases mem_insB.1 hx with rfl | hx
        · exact ⟨r2.1, r2.2, by omega⟩
        · have := g3 x hx; exact ⟨this.1, this.2.1, by omega⟩
      · exact (keep.row v hv)

theorem grS_inv {L : List Int} {n : Nat} (hn : 1 ≤ n) (hn2 : n ≤ 1000) (kk : Nat) (j : Nat) : GI n j (grS L n (List.replicate n [], kk) j).1 := by
  induction j with
  | zero =>
    refine ⟨by simp [grS], fun v hv => ?_⟩
    have : (List.replicate n ([] : List Int)).getD v [] = [] := by simp [List.getD_eq_getElem?_getD, hv]
    show ((List.replicate n ([] : List Int)).getD v []).length ≤ 0 ∧ _
    rw [show (grS L n (List.replicate n [], kk) 0).1 = List.replicate n [] from rfl, this]
    simp
  | succ j ih => exact stp_inv hn hn2 ih

theorem GI.ok {n m : Nat} {g : List (List Int)} (h : GI n m g) (hn : n ≤ 24) (hm : m ≤ 1000) {s : List Bool} (hs : s.length = n) : OkG g s ∧ Asc g := by
  refine ⟨⟨by rw [h.len]; exact hn, fun v hv => ?_, by rw [hs, h.len]⟩, fun v hv i h0 hi => ?_⟩
  · rw [h.len] at hv ⊢
    obtain ⟨g1, _, g3⟩ := h.row v hv
    exact ⟨by omega, g3⟩
  · rw [h.len] at hv
    obtain ⟨_, g2, _⟩ := h.row v hv
    generalize g.getD v [] = r at g2 hi
    have := List.pairwise_iff_getElem.1 g2 (i - 1) i (by omega) hi (by omega)
    rw [List.getD_eq_getElem?_getD, List.getElem?_eq_getElem (by omega), List.getD_eq_getElem?_getD, List.getElem?_eq_getElem hi]
    exact this

theorem gL_set (g : List (List Int)) (v : Nat) (r : List Int) : (gL g).set (0 + v) (lI r) = gL (g.set v r) := by rw [Nat.zero_add]; unfold gL; rw [List.map_set]
theorem gL_get0 {g : List (List Int)} {v : Nat} (h : v < g.length) : (gL g)[0 + v]? = some (lI (g.getD v [])) := by rw [Nat.zero_add]; exact gL_get h

theorem graph_ex (L : List Int) (kk most : Nat) (hm : most ≤ 20) (hk : kk ≤ 1000000) : ∃ (g : List (List Int)) (kk' n : Nat), n ≤ most ∧ GI n 100 g ∧ kk' ≤ kk + 200 ∧ CT Try.prog 9 [some (tapeB L kk)] [.ptr 0 0 0, .int .i64 (most : Nat)] [some (tapeB L kk')] (.lst (gL g)) := by
  have r1 := nextZ_rng L kk ((most : Int) + 1) (by omega) (by omega)
  have n1 := next_ct L kk ((most : Int) + 1) (by omega)
  obtain ⟨n, hn⟩ : ∃ n : Nat, nextZ L kk ((most : Int) + 1) = (n : Int) := ⟨(nextZ L kk ((most : Int) + 1)).toNat, by omega⟩
  rw [hn] at n1 r1
  have r2 := nextZ_rng L (kk + 1) (3 * (n : Int) + 1) (by omega) (by omega)
  have n2 := next_ct L (kk + 1) (3 * (n : Int) + 1) (by omega)
  obtain ⟨m, hmm⟩ : ∃ m : Nat, nextZ L (kk + 1) (3 * (n : Int) + 1) = (m : Int) := ⟨(nextZ L (kk + 1) (3 * (n : Int) + 1)).toNat, by omega⟩
  rw [hmm] at n2 r2
  have hkk := grS_kk L n (List.replicate n [], kk + 2)
  have hinv : ∀ j, j ≤ m → GI n j (grS L n (List.replicate n [], kk + 2) j).1 := by
    intro j hj
    by_cases h1 : 1 ≤ n
    · exact grS_inv h1 (by omega) _ j
    · obtain rfl : j = 0 := by omega
      obtain rfl : n = 0 := by omega
      exact ⟨rfl, fun v hv => by omega⟩
  refine ⟨(grS L n (List.replicate n [], kk + 2) m).1, (grS L n (List.replicate n [], kk + 2) m).2, n, by omega, ?_, by rw [hkk]; simp only; omega, ?_⟩
  · have := hinv m (Nat.le_refl _)
    exact ⟨this.len, fun v hv => ⟨by have := (this.row v hv).1; omega, (this.row v hv).2⟩⟩
  refine CT.path mix Try.func9 (show Try.f9.body = some (bodyOf Try.f9) by kernel_rfl) (Nat.le_of_ble_eq_true rfl) (gr_0 ⟨L, [], [], [], [], kk, n, (m : Nat), 0, 0, (most : Nat), 0, 0, false⟩ (by simp only [wrapS ((most : Int) + 1) (by omega) (by omega)]; exact n1) (by simp [iN]) (by simp) (by simp only [iN]; omega) (by simp only [iN]; omega)
    (by simp only [iN, wrapS (3 * (n : Int)) (by omega) (by omega), wrapS (3 * (n : Int) + 1) (by omega) (by omega)]; exact n2) (T.nilH ?_))
  have key : T Try.prog 1 (.loop (loopC (bodyOf Try.f9) 0)) (lo9 ⟨L, (grS L n (List.replicate n [], kk + 2) 0).1, [], [], [], (grS L n (List.replicate n [], kk + 2) 0).2, n, ((m - 0 : Nat) : Int), 0, 0, 0, 0, 0, false⟩) (TK Try.prog 1 (Fin Try.prog Try.f9 1 [some (tapeB L (grS L n (List.replicate n [], kk + 2) m).2)] (.lst (gL (grS L n (List.replicate n [], kk + 2) m).1))) (loopK (bodyOf Try.f9) 0)) := by
    refine T.loop (fun j : Nat => lo9 ⟨L, (grS L n (List.replicate n [], kk + 2) j).1, [], [], [], (grS L n (List.replicate n [], kk + 2) j).2, n, ((m - j : Nat) : Int), 0, 0, 0, 0, 0, false⟩) (fun j => j ≤ m) (fun j => m + 1 - j) 0 (Nat.zero_le _) ?_
    intro j hj
    have hj2 := hinv j hj
    have hkj := hkk j
    simp only at hkj
    by_cases h : j < m
    · have hn1 : 1 ≤ n := by omega
      have e : grS L n (List.replicate n [], kk + 2) (j + 1) = stp L n (grS L n (List.replicate n [], kk + 2) j) := rfl
      have ek : IntKind.i64.wrap (((m - j : Nat) : Int) - 1) = ((m - (j + 1) : Nat) : Int) := by rw [wrapS _ (by omega) (by omega)]; omega
      generalize hy : grS L n (List.replicate n [], kk + 2) j = y at hj2 hkj e
      have q1 := nextZ_rng L y.2 n (by omega) (by omega)
      have q2 := nextZ_rng L (y.2 + 1) n (by omega) (by omega)
      have m1 := next_ct L y.2 n (by omega)
      have m2 := next_ct L (y.2 + 1) n (by omega)
      unfold stp at e
      obtain ⟨v, hv⟩ : ∃ v : Nat, nextZ L y.2 n = (v : Int) := ⟨(nextZ L y.2 n).toNat, by omega⟩
      obtain ⟨w, hw⟩ : ∃ w : Nat, nextZ L (y.2 + 1) n = (w : Int) := ⟨(nextZ L (y.2 + 1) n).toNat, by omega⟩
      rw [hv] at q1 m1 e
      rw [hw] at q2 m2 e
      simp only [Int.toNat_natCast] at e
      have hvg : v < y.1.length := by rw [hj2.len]; omega
      have hlen := (hj2.row v (by omega)).1
      have hrow := gL_get0 hvg
      have hc := has_ct (y.1.getD v []) (w : Int) (by omega)
      have ic := ins_ct (y.1.getD v []) (w : Int) (by omega)
      have next : ∀ (g' : List (List Int)) (st : St), grS L n (List.replicate n [], kk + 2) (j + 1) = (g', y.2 + 2) → Ren 1 st (lo9 ⟨L, g', [], [], [], y.2 + 2, n, ((m - (j + 1) : Nat) : Int), 0, 0, 0, 0, 0, false⟩) → ∃ j', Ren 1 st (lo9 ⟨L, (grS L n (List.replicate n [], kk + 2) j').1, [], [], [], (grS L n (List.replicate n [], kk + 2) j').2, n, ((m - j' : Nat) : Int), 0, 0, 0, 0, 0, false⟩) ∧ j' ≤ m ∧ m + 1 - j' < m + 1 - j := by
        intro g' st eg hst
        refine ⟨j + 1, ?_, h, by omega⟩
        rw [eg]; exact hst
      by_cases hvw : v = w
      · rw [if_pos hvw] at e
        refine T.path mix (grr_2 ⟨L, y.1, [], [], [], y.2, n, ((m - j : Nat) : Int), v, w, 0, 0, 0, false⟩ (decide_eq_true (by simp only; omega)) m1 m2 (by simp [iN, hvw]) ?_)
        intro st hst
        simp only [ek] at hst
        exact next _ st e hst
      · rw [if_neg hvw] at e
        by_cases hh : hasZ (y.1.getD v []) (w : Int) = true
        · rw [if_pos hh] at e
          rw [hh] at hc
          refine T.path mix (grr_1 ⟨L, y.1, y.1.getD v [], [], [], y.2, n, ((m - j : Nat) : Int), v, w, 0, 0, 0, true⟩ (decide_eq_true (by simp only; omega)) m1 m2 (by simp [iN]; omega) (by simp [iN]) (by simp [iN]; omega) hrow hc rfl ?_)
          intro st hst
          simp only [ek] at hst
          exact next _ st e hst
        · rw [if_neg hh] at e
          rw [Bool.eq_false_iff.2 hh] at hc
          refine T.path mix (grr_0 ⟨L, y.1, y.1.getD v [], insB (w : Int) (y.1.getD v []), [], y.2, n, ((m - j : Nat) : Int), v, w, 0, 0, 0, false⟩ (decide_eq_true (by simp only; omega)) m1 m2 (by simp [iN]; omega) (by simp [iN]) (by simp [iN]; omega) hrow hc rfl ic (by simp [iN, gL_len]; omega) ?_)
          intro st hst
          simp only [ek, iN, Int.toNat_natCast] at hst
          have hs2 := gL_set y.1 v (insB (w : Int) (y.1.getD v []))
          unfold lI at hs2
          rw [hs2] at hst
          exact next _ st e hst
    · obtain rfl : j = m := by omega
      exact T.out mix (grx_0 ⟨L, (grS L n (List.replicate n [], kk + 2) j).1, [], [], [], (grS L n (List.replicate n [], kk + 2) j).2, n, ((j - j : Nat) : Int), 0, 0, 0, 0, 0, false⟩ (decide_eq_false (by simp only; omega)) (by simp only [gL_len, hj2.len]))
  have e0 : (List.replicate n AV.nils).map wkE = gL (List.replicate n []) := by simp [gL, wkE, wk1, lI]
  unfold lo9 at key
  simp only [grS, Nat.sub_zero, ← e0] at key
  exact key
theorem boL_set (s : List Bool) (v : Nat) (b : Bool) : (boL s).set (0 + v) (.bool b) = boL (s.set v b) := by rw [Nat.zero_add]; unfold boL; rw [List.map_set]
noncomputable def shS (L : List Int) (n : Nat) (y : List Bool × Nat) : Nat → List Bool × Nat
  | 0 => y
  | j + 1 => ((shS L n y j).1.set (nextZ L (shS L n y j).2 n).toNat true, (shS L n y j).2 + 1)
theorem shS_kk (L : List Int) (n : Nat) (y : List Bool × Nat) (j : Nat) : (shS L n y j).2 = y.2 + j := by
  induction j with
  | zero => rfl
  | succ j ih => rw [shS, ih]; simp only; omega
theorem shS_len (L : List Int) (n : Nat) (y : List Bool × Nat) (j : Nat) : (shS L n y j).1.length = y.1.length := by
  induction j with
  | zero => rfl
  | succ j ih => rw [shS]; simp [ih]

theorem shut_ex (L : List Int) (kk n : Nat) (hn : n ≤ 1000) (hk : kk ≤ 1000000) : ∃ (s : List Bool) (kk' : Nat), s.length = n ∧ kk' ≤ kk + 10 ∧ CT Try.prog 10 [some (tapeB L kk)] [.ptr 0 0 0, .int .i64 (n : Nat)] [some (tapeB L kk')] (.lst (boL s)) := by
  have r1 := nextZ_rng L kk 3 (by omega) (by omega)
  have n1 := next_ct L kk 3 (by omega)
  obtain ⟨m, hmm⟩ : ∃ m : Nat, nextZ L kk 3 = (m : Int) := ⟨(nextZ L kk 3).toNat, by omega⟩
  rw [hmm] at n1 r1
  have hkk := shS_kk L n (List.replicate n false, kk + 1)
  have hln := shS_len L n (List.replicate n false, kk + 1)
  have e0 : List.replicate n (AV.bool false) = boL (List.replicate n false) := by simp [boL]
  by_cases h0 : n = 0
  · subst h0
    refine ⟨[], kk + 1, rfl, by omega, ?_⟩
    refine CT.path mix Try.func10 (show Try.f10.body = some (bodyOf Try.f10) by kernel_rfl) (Nat.le_of_ble_eq_true rfl) (sh_0 ⟨L, [], [], [], [], kk, 0, (m : Nat), 0, 0, 0, 0, 0, false⟩ (by simp [iN]) (by simp) (by simp only [iN]; omega) (by simp only [iN]; omega) n1 ?_)
    refine T.loop (fun j : Nat => lo10 ⟨L, [], [], [], [], kk + 1, 0, (m : Nat), 0, 0, 0, 0, 0, false⟩) (fun j => True) (fun j => 0) 0 trivial ?_
    intro j _
    by_cases hm : 0 < m
    · exact T.out mix (shx_0 ⟨L, [], [], [], [], kk + 1, 0, (m : Nat), 0, 0, 0, 0, 0, false⟩ (decide_eq_true (by simp only; omega)) (by simp [iN]) rfl)
    · exact T.out mix (shx_1 ⟨L, [], [], [], [], kk + 1, 0, (m : Nat), 0, 0, 0, 0, 0, false⟩ (decide_eq_false (by simp only; omega)) rfl)
  refine ⟨(shS L n (List.replicate n false, kk + 1) m).1, (shS L n (List.replicate n false, kk + 1) m).2, by rw [hln]; simp, by rw [hkk]; simp only; omega, ?_⟩
  refine CT.path mix Try.func10 (show Try.f10.body = some (bodyOf Try.f10) by kernel_rfl) (Nat.le_of_ble_eq_true rfl) (sh_0 ⟨L, [], [], [], [], kk, n, (m : Nat), 0, 0, 0, 0, 0, false⟩ (by simp [iN]) (by simp) (by simp only [iN]; omega) (by simp only [iN]; omega) n1 ?_)
  have key : T Try.prog 1 (.loop (loopC (bodyOf Try.f10) 0)) (lo10 ⟨L, [], [], [], (shS L n (List.replicate n false, kk + 1) 0).1, (shS L n (List.replicate n false, kk + 1) 0).2, n, ((m - 0 : Nat) : Int), 0, 0, 0, 0, 0, false⟩) (TK Try.prog 1 (Fin Try.prog Try.f10 1 [some (tapeB L (shS L n (List.replicate n false, kk + 1) m).2)] (.lst (boL (shS L n (List.replicate n false, kk + 1) m).1))) (loopK (bodyOf Try.f10) 0)) := by
    refine T.loop (fun j : Nat => lo10 ⟨L, [], [], [], (shS L n (List.replicate n false, kk + 1) j).1, (shS L n (List.replicate n false, kk + 1) j).2, n, ((m - j : Nat) : Int), 0, 0, 0, 0, 0, false⟩) (fun j => j ≤ m) (fun j => m + 1 - j) 0 (Nat.zero_le _) ?_
    intro j hj
    have hkj := hkk j
    have hlj := hln j
    simp only [List.length_replicate] at hkj hlj
    by_cases h : j < m
    · have ek : IntKind.i64.wrap (((m - j : Nat) : Int) - 1) = ((m - (j + 1) : Nat) : Int) := by rw [wrapS _ (by omega) (by omega)]; omega
      have e : shS L n (List.replicate n false, kk + 1) (j + 1) = ((shS L n (List.replicate n false, kk + 1) j).1.set (nextZ L (shS L n (List.replicate n false, kk + 1) j).2 n).toNat true, (shS L n (List.replicate n false, kk + 1) j).2 + 1) := rfl
      generalize shS L n (List.replicate n false, kk + 1) j = y at hkj hlj e
      have q1 := nextZ_rng L y.2 n (by omega) (by omega)
      have m1 := next_ct L y.2 n (by omega)
      obtain ⟨v, hv⟩ : ∃ v : Nat, nextZ L y.2 n = (v : Int) := ⟨(nextZ L y.2 n).toNat, by omega⟩
      rw [hv] at q1 m1 e
      simp only [Int.toNat_natCast] at e
      have hbl := boL_len y.1
      refine T.path mix (shr_0 ⟨L, [], [], [], y.1, y.2, n, ((m - j : Nat) : Int), v, 0, 0, 0, 0, false⟩ (decide_eq_true (by simp only; omega)) (by simp [iN]; omega) m1 (by simp [iN]) (by simp [iN]; omega) (by simp [iN, boL_len]; omega) ?_)
      intro st hst
      refine ⟨j + 1, ?_, h, by omega⟩
      simp only [ek, iN, Int.toNat_natCast] at hst
      rw [boL_set] at hst
      rw [e]; exact hst
    · obtain rfl : j = m := by omega
      exact T.out mix (shx_1 ⟨L, [], [], [], (shS L n (List.replicate n false, kk + 1) j).1, (shS L n (List.replicate n false, kk + 1) j).2, n, ((j - j : Nat) : Int), 0, 0, 0, 0, 0, false⟩ (decide_eq_false (by simp only; omega)) (by simp only [boL_len, hlj]))
  unfold lo10 at key
  simp only [shS, Nat.sub_zero, ← e0] at key
  exact key
#print axioms graph_ex
#print axioms shut_ex
end Go.Proofs.Ytnpmcikbnnlmkaa

/-! What the distances are. -/
open Go Go.AX Go.Proofs
set_option maxRecDepth 100000
set_option maxHeartbeats 1000000
set_option linter.unusedVariables false
set_option linter.unusedSimpArgs false
namespace Go.Proofs.Ytnpmcikbnnlmkaa
theorem getD_set (d : List Int) (v u : Nat) (x : Int) (hv : v < d.length) : (d.set v x).getD u 0 = if v = u then x else d.getD u 0 := by
  rw [List.getD_eq_getElem?_getD, List.getElem?_set, List.getD_eq_getElem?_getD]
  split
  · first | rfl | (rw [if_pos hv]; rfl)
  · rfl

theorem edges_eq (v far : Nat) : ∀ (r : List Int) (d : List Int), v < d.length → (∀ w ∈ r, w.toNat ≠ v) →
    edgesL r v far d = if (r.any fun w => d.getD w.toNat 0 == (far : Int)) = true then d.set v ((far + 1 : Nat) : Int) else d := by
  intro r
  induction r with
  | nil => intro d _ _; simp [edgesL]
  | cons w r ih =>
    intro d hv hr
    have hw := hr w (by simp)
    have hr' := fun x hx => hr x (List.mem_cons_of_mem _ hx)
    show edgesL r v far (edgeF v far d w) = _
    have key : ∀ d' : List Int, (∀ u, u ≠ v → d'.getD u 0 = d.getD u 0) → (r.any fun w => d'.getD w.toNat 0 == (far : Int)) = (r.any fun w => d.getD w.toNat 0 == (far : Int)) := by
      intro d' h
      rw [Bool.eq_iff_iff, List.any_eq_true, List.any_eq_true]
      constructor
      · rintro ⟨x, hx, he⟩; exact ⟨x, hx, by rw [← h _ (hr' x hx)]; exact he⟩
      · rintro ⟨x, hx, he⟩; exact ⟨x, hx, by rw [h _ (hr' x hx)]; exact he⟩
    rw [ih _ (by rw [edgeF_len]; exact hv) hr', List.any_cons]
    unfold edgeF
    by_cases he : (d.getD w.toNat 0 == (far : Int)) = true
    · rw [if_pos he, he, Bool.true_or, if_pos rfl, List.set_set]
      split <;> rfl
    · rw [if_neg he, Bool.eq_false_iff.2 he, Bool.false_or]

/-- What a round makes of a vertex. -/
def rdV (g : List (List Int)) (s : List Bool) (d : List Int) (far v : Nat) : Int :=
  if s.getD v false = true then d.getD v 0 else if 0 ≤ d.getD v 0 then d.getD v 0 else if ((g.getD v []).any fun w => d.getD w.toNat 0 == (far : Int)) = true then ((far + 1 : Nat) : Int) else d.getD v 0

theorem round_get {g : List (List Int)} {s : List Bool} (hg : OkG g s) (d : List Int) (hd : d.length = g.length) (far : Nat) : ∀ v, v < g.length → (roundL g s d far).getD v 0 = rdV g s d far v := by
  have key : ∀ j, j ≤ g.length → ∀ v, v < g.length → ((List.range j).foldl (vertF g s far) d).getD v 0 = if v < j then rdV g s d far v else d.getD v 0 := by
    intro j
    induction j with
    | zero => intro _ v _; rw [if_neg (by omega)]; rfl
    | succ j ih =>
      intro hj v hv
      have ih := ih (by omega)
      rw [range_fold]
      have hlen : ((List.range j).foldl (vertF g s far) d).length = g.length := by rw [foldl_len (vertF_len g s far), hd]
      generalize (List.range j).foldl (vertF g s far) d = e at ih hlen
      have hej : e.getD j 0 = d.getD j 0 := by rw [ih j (by omega), if_neg (by omega)]
      have hw : ∀ w ∈ g.getD j [], w.toNat ≠ j := fun w hw => by have := (hg.row j (by omega)).2 w hw; omega
      have hany : ((g.getD j []).any fun w => e.getD w.toNat 0 == (far : Int)) = ((g.getD j []).any fun w => d.getD w.toNat 0 == (far : Int)) := by
        have pt : ∀ w ∈ g.getD j [], (e.getD w.toNat 0 == (far : Int)) = (d.getD w.toNat 0 == (far : Int)) := by
          intro w hwm
          have := (hg.row j (by omega)).2 w hwm
          rw [ih w.toNat (by omega)]
          split
          · unfold rdV
            split
            · rfl
            · split
              · rfl
              · split
                · rw [Bool.eq_iff_iff, beq_iff_eq, beq_iff_eq]; constructor <;> intro h <;> omega
                · rfl
          · rfl
        rw [Bool.eq_iff_iff, List.any_eq_true, List.any_eq_true]
        constructor
        · rintro ⟨x, hx, he⟩; exact ⟨x, hx, by rw [← pt x hx]; exact he⟩
        · rintro ⟨x, hx, he⟩; exact ⟨x, hx, by rw [pt x hx]; exact he⟩
      have hv1 : (vertF g s far e j).getD v 0 = if v = j then rdV g s d far j else e.getD v 0 := by
        unfold vertF rdV
        rw [hej]
        by_cases h1 : s.getD j false = true
        · rw [if_pos h1, if_pos h1]; split
          · rename_i h; subst h; exact hej
          · rfl
        · rw [if_neg h1, if_neg h1]
          by_cases h2 : 0 ≤ d.getD j 0
          · rw [decide_eq_true h2, if_pos rfl, if_pos h2]; split
            · rename_i h; subst h; exact hej
            · rfl
          · rw [if_neg (by simpa using h2), if_neg h2, edges_eq j far _ e (by omega) hw, hany]
            by_cases h3 : ((g.getD j []).any fun w => d.getD w.toNat 0 == (far : Int)) = true
            · rw [if_pos h3, if_pos h3, getD_set e j v _ (by omega)]
              by_cases h4 : v = j
              · rw [if_pos h4.symm, if_pos h4]
              · rw [if_neg fun h => h4 h.symm, if_neg h4]
            · rw [if_neg h3, if_neg h3]; split
              · rename_i h; subst h; exact hej
              · rfl
      rw [hv1]
      by_cases h : v = j
      · subst h; rw [if_pos rfl, if_pos (by omega)]
      · rw [if_neg h, ih v hv]
        by_cases h2 : v < j
        · rw [if_pos h2, if_pos (by omega)]
        · rw [if_neg h2, if_neg (by omega)]
  intro v hv
  rw [roundL, key g.length (Nat.le_refl _) v hv, if_pos hv]

/-- What holds after 'k' rounds. -/
structure Lev (g : List (List Int)) (s : List Bool) (goal k : Nat) (d : List Int) : Prop where
  len : d.length = g.length
  zero : d.getD goal 0 = 0
  bnd : ∀ v, v < g.length → -1 ≤ d.getD v 0 ∧ d.getD v 0 ≤ k
  back : ∀ v, v < g.length → 0 ≤ d.getD v 0 → v = goal ∨ (s.getD v false = false ∧ ∃ w ∈ g.getD v [], 0 ≤ d.getD w.toNat 0 ∧ d.getD v 0 = d.getD w.toNat 0 + 1)
  fwd : ∀ v, v < g.length → s.getD v false = false → ∀ w ∈ g.getD v [], 0 ≤ d.getD w.toNat 0 → d.getD w.toNat 0 < k → 0 ≤ d.getD v 0 ∧ d.getD v 0 ≤ d.getD w.toNat 0 + 1

theorem Lev.step {g : List (List Int)} {s : List Bool} (hg : OkG g s) {goal k : Nat} {d : List Int} (hgo : goal < g.length) (h : Lev g s goal k d) : Lev g s goal (k + 1) (roundL g s d k) := by
  have rg := round_get hg d h.len k
  have same : ∀ v, v < g.length → 0 ≤ d.getD v 0 → rdV g s d k v = d.getD v 0 := by
    intro v hv h0; unfold rdV
    by_cases h1 : s.getD v false = true
    · rw [if_pos h1]
    · rw [if_neg h1, if_pos h0]
  have inr : ∀ v, v < g.length → ∀ w ∈ g.getD v [], w.toNat < g.length := fun v hv w hw => by have := (hg.row v hv).2 w hw; omega
  have cases' : ∀ v, v < g.length → rdV g s d k v = d.getD v 0 ∨ (s.getD v false = false ∧ d.getD v 0 < 0 ∧ rdV g s d k v = ((k + 1 : Nat) : Int) ∧ ∃ w ∈ g.getD v [], d.getD w.toNat 0 = (k : Int)) := by
    intro v hv
    unfold rdV
    by_cases h1 : s.getD v false = true
    · rw [if_pos h1]; exact .inl rfl
    · rw [if_neg h1]
      by_cases h2 : 0 ≤ d.getD v 0
      · rw [if_pos h2]; exact .inl rfl
      · rw [if_neg h2]
        by_cases h3 : ((g.getD v []).any fun w => d.getD w.toNat 0 == (k : Int)) = true
        · rw [if_pos h3]
          obtain ⟨w, hw, he⟩ := List.any_eq_true.1 h3
          exact .inr ⟨Bool.eq_false_iff.2 h1, by omega, rfl, w, hw, by simpa using he⟩
        · rw [if_neg h3]; exact .inl rfl
  refine ⟨by rw [roundL_len, h.len], ?_, fun v hv => ?_, fun v hv h0 => ?_, fun v hv hs w hw h0 hk => ?_⟩
  · rw [rg goal hgo, same goal hgo (by rw [h.zero]; omega), h.zero]
  · rw [rg v hv]
    have := h.bnd v hv
    rcases cases' v hv with e | ⟨_, _, e, _⟩ <;> rw [e] <;> omega
  · rw [rg v hv] at h0 ⊢
    rcases cases' v hv with e | ⟨e1, e2, e3, w, hw, e4⟩
    · rw [e] at h0 ⊢
      rcases h.back v hv h0 with hgl | ⟨h1, w, hw, h2, h3⟩
      · exact .inl hgl
      · refine .inr ⟨h1, w, hw, ?_⟩
        rw [rg _ (inr v hv w hw), same _ (inr v hv w hw) h2]
        exact ⟨h2, h3⟩
    · refine .inr ⟨e1, w, hw, ?_⟩
      rw [rg _ (inr v hv w hw), same _ (inr v hv w hw) (by omega), e3, e4]
      exact ⟨by omega, by omega⟩
  · have hwr := inr v hv w hw
    rw [rg _ hwr] at h0 hk ⊢
    rw [rg v hv]
    have hbv := h.bnd v hv
    have hbw := h.bnd _ hwr
    rcases cases' _ hwr with e | ⟨_, _, e, _⟩
    · rw [e] at h0 hk ⊢
      by_cases hlt : d.getD w.toNat 0 < k
      · obtain ⟨g1, g2⟩ := h.fwd v hv hs w hw h0 hlt
        rw [same v hv g1]; exact ⟨g1, g2⟩
      · have hwk : d.getD w.toNat 0 = (k : Int) := by omega
        by_cases hv0 : 0 ≤ d.getD v 0
        · rw [same v hv hv0]; exact ⟨hv0, by omega⟩
        · unfold rdV
          rw [if_neg (by rw [hs]; simp), if_neg hv0, if_pos (List.any_eq_true.2 ⟨w, hw, by simpa using hwk⟩)]
          exact ⟨by omega, by omega⟩
    · rw [e] at hk; omega

theorem Lev.start {g : List (List Int)} {s : List Bool} (hg : OkG g s) {goal : Nat} (hgo : goal < g.length) : Lev g s goal 0 (dist0 g goal) := by
  have rep : ∀ v, v < g.length → (List.replicate g.length (-1 : Int)).getD v 0 = -1 := by
    intro v hv; simp [List.getD_eq_getElem?_getD, hv]
  have e : ∀ v, v < g.length → (dist0 g goal).getD v 0 = if goal = v then 0 else -1 := by
    intro v hv
    unfold dist0
    rw [getD_set _ _ _ _ (by simpa using hgo), rep v hv]
  refine ⟨dist0_len g goal, by rw [e goal hgo, if_pos rfl], fun v hv => ?_, fun v hv h0 => ?_, fun v hv hs w hw h0 hk => ?_⟩
  · rw [e v hv]; split <;> omega
  · rw [e v hv] at h0
    split at h0
    · rename_i h; exact .inl h.symm
    · omega
  · omega

theorem Lev.run {g : List (List Int)} {s : List Bool} (hg : OkG g s) {goal : Nat} (hgo : goal < g.length) : ∀ k, Lev g s goal k ((List.range k).foldl (roundL g s) (dist0 g goal)) := by
  intro k
  induction k with
  | zero => exact Lev.start hg hgo
  | succ k ih => rw [range_fold]; exact ih.step hg hgo

theorem nodup_len : ∀ {l d : List Int}, l.Nodup → (∀ x ∈ l, x ∈ d) → l.length ≤ d.length := by
  intro l
  induction l with
  | nil => intro d _ _; simp
  | cons a l ih =>
    intro d hn hs
    rw [List.nodup_cons] at hn
    have ha := hs a (by simp)
    have := ih (d := d.erase a) hn.2 fun x hx => (List.mem_erase_of_ne (fun e => hn.1 (by rw [← e]; exact hx))).2 (hs x (List.mem_cons_of_mem _ hx))
    rw [List.length_erase_of_mem ha] at this
    have : 0 < d.length := List.length_pos_of_mem ha
    simp only [List.length_cons]; omega

/-- No level is as high as there are vertices. -/
theorem Lev.top {g : List (List Int)} {s : List Bool} (hg : OkG g s) {goal k : Nat} {d : List Int} (h : Lev g s goal k d) {v : Nat} (hv : v < g.length) : d.getD v 0 < g.length := by
  rcases Int.lt_or_le (d.getD v 0) 0 with hneg | hpos
  · omega
  obtain ⟨m, hm⟩ : ∃ m : Nat, d.getD v 0 = (m : Int) := ⟨(d.getD v 0).toNat, by omega⟩
  have occ : ∀ j, j ≤ m → ∃ u, u < g.length ∧ d.getD u 0 = ((m - j : Nat) : Int) := by
    intro j
    induction j with
    | zero => intro _; exact ⟨v, hv, by rw [hm]; rfl⟩
    | succ j ih =>
      intro hj
      obtain ⟨u, hu, he⟩ := ih (by omega)
      rcases h.back u hu (by omega) with rfl | ⟨_, w, hw, h1, h2⟩
      · rw [h.zero] at he; omega
      · have := (hg.row u hu).2 w hw
        exact ⟨w.toNat, by omega, by omega⟩
  have sub : ∀ x ∈ (List.range (m + 1)).map (fun j : Nat => (j : Int)), x ∈ d := by
    intro x hx
    obtain ⟨j, hj, rfl⟩ := List.mem_map.1 hx
    have hj := List.mem_range.1 hj
    obtain ⟨u, hu, he⟩ := occ (m - j) (by omega)
    rw [show m - (m - j) = j by omega] at he
    rw [← he, List.getD_eq_getElem?_getD, List.getElem?_eq_getElem (by rw [h.len]; exact hu)]
    exact List.getElem_mem _
  have nd : ((List.range (m + 1)).map (fun j : Nat => (j : Int))).Nodup := by
    refine List.pairwise_map.2 ((List.nodup_range (n := m + 1)).imp fun hne e => hne (Int.ofNat_inj.1 e))
  have := nodup_len nd sub
  simp only [List.length_map, List.length_range, h.len] at this
  omega

/-- What the distances are. -/
structure Dst (g : List (List Int)) (s : List Bool) (goal : Nat) (d : List Int) : Prop where
  len : d.length = g.length
  shut : s.getD goal false = true → ∀ v, v < g.length → d.getD v 0 = -1
  zero : s.getD goal false = false → d.getD goal 0 = 0
  bnd : ∀ v, v < g.length → -1 ≤ d.getD v 0 ∧ d.getD v 0 < g.length
  back : ∀ v, v < g.length → 0 ≤ d.getD v 0 → v = goal ∨ (s.getD v false = false ∧ ∃ w ∈ g.getD v [], 0 ≤ d.getD w.toNat 0 ∧ d.getD v 0 = d.getD w.toNat 0 + 1)
  fwd : ∀ v, v < g.length → s.getD v false = false → ∀ w ∈ g.getD v [], 0 ≤ d.getD w.toNat 0 → 0 ≤ d.getD v 0 ∧ d.getD v 0 ≤ d.getD w.toNat 0 + 1

theorem dst_ok {g : List (List Int)} {s : List Bool} (hg : OkG g s) {goal : Nat} (hgo : goal < g.length) : Dst g s goal (distL g s goal g.length) := by
  have hl := distL_len g s goal g.length
  by_cases hs : s.getD goal false = true
  · have e : distL g s goal g.length = List.replicate g.length (-1) := by unfold distL; rw [if_pos hs]
    rw [e] at hl ⊢
    have rep : ∀ v, v < g.length → (List.replicate g.length (-1 : Int)).getD v 0 = -1 := by
      intro v hv; simp [List.getD_eq_getElem?_getD, hv]
    refine ⟨hl, fun _ => rep, fun h => by (rw [hs] at h; cases h), fun v hv => by rw [rep v hv]; omega, fun v hv h0 => by (rw [rep v hv] at h0; omega), fun v hv _ w hw h0 => ?_⟩
    have := (hg.row v hv).2 w hw
    rw [rep _ (by omega)] at h0; omega
  · have e : distL g s goal g.length = (List.range g.length).foldl (roundL g s) (dist0 g goal) := by unfold distL; rw [if_neg hs]
    rw [e] at hl ⊢
    have h := Lev.run hg hgo g.length
    exact ⟨h.len, fun h' => absurd h' hs, fun _ => h.zero, fun v hv => ⟨(h.bnd v hv).1, h.top hg hv⟩, h.back, fun v hv h1 w hw h0 => h.fwd v hv h1 w hw h0 (h.top hg (by have := (hg.row v hv).2 w hw; omega))⟩
#print axioms dst_ok
end Go.Proofs.Ytnpmcikbnnlmkaa

/-! The paths of a function, by evaluation. -/
open Go Go.AX Go.Proofs
set_option maxRecDepth 100000
set_option maxHeartbeats 4000000
set_option linter.unusedVariables false
namespace Go.Proofs.Ytnpmcikbnnlmkaa
structure QT where
  L : List Int
  g : List (List Int)
  s : List Bool
  goal : Nat
  d : List Int
  v : Nat
  k : Nat
  r : List Int
  w : Nat
  b : Bool
  sb : Bool
  x : Int
  y : Int
  m1 : Nat
  m2 : Nat
noncomputable def st4 (q : QT) : St := { n := Try.f4.ntmps, fr := [(0, lI q.L)], hp := [] }
noncomputable def lo4 (q : QT) : St := { n := Try.f4.ntmps, fr := [(4, .lst (gL q.g)), (5, .lst (boL q.s)), (6, .int .i64 (iN q.goal))], hp := [] }
noncomputable def la4 (q : QT) : St := { n := Try.f4.ntmps, fr := [(4, .lst (gL q.g)), (5, .lst (boL q.s)), (6, .int .i64 (iN q.goal)), (7, lI q.d), (9, .int .i64 (iN q.v))], hp := [] }
noncomputable def lb4 (q : QT) : St := { n := Try.f4.ntmps, fr := [(4, .lst (gL q.g)), (5, .lst (boL q.s)), (6, .int .i64 (iN q.goal)), (7, lI q.d), (9, .int .i64 (iN q.v)), (10, .bool q.b), (11, .int .i64 (iN q.k))], hp := [] }
def cT (q : QT) : Nat → FuncId → List AV → List (Option Blk) → Hint := fun dst f args hp => match f with
  | 8 => .call [] [] [] (.bool true)
  | 9 => match args with
    | [.ptr b _ _, _] => .call [b] [] [tapeB q.L q.m1] (.lst (gL q.g))
    | _ => .no
  | 10 => match args with
    | [.ptr b _ _, _] => .call [b] [] [tapeB q.L q.m2] (.lst (boL q.s))
    | _ => .no
  | 12 => .call [] [] [] (.tup [lI q.d, .int .i64 0])
  | _ => .no
def e4 (q : QT) : List (Nat × AV) := [(49, .bool q.sb), (53, .int .i64 q.x), (70, .int .i64 q.x), (77, lI q.r), (85, lI q.r), (88, .int .i64 (iN q.w)), (92, .bool q.sb), (97, .int .i64 q.y), (103, .int .i64 q.x), (109, .int .i64 q.x), (113, .int .i64 q.y), (122, .int .i64 q.x), (126, .int .i64 q.y)]
theorem tri_0 (q : QT) (h1 : (CT Try.prog (nat_lit 8) [] [] [] (AV.bool true))) (h2 : (CT Try.prog 9 [some (Blk.mk [AV.agg [AV.lst (List.map (AV.int IntKind.i64) q.L), AV.int IntKind.i64 0]] [AV.lst (List.map (AV.int IntKind.i64) q.L), AV.int IntKind.i64 0].length true true)] [AV.ptr 0 0 0, AV.int IntKind.i64 9] [some (Blk.mk [AV.agg [AV.lst (List.map (AV.int IntKind.i64) q.L), AV.int IntKind.i64 (iN q.m1)]] 2 true true)] (AV.lst (gL q.g)))) (h3 : (CT Try.prog 10 [some (Blk.mk [AV.agg [AV.lst (List.map (AV.int IntKind.i64) q.L), AV.int IntKind.i64 (iN q.m1)]] 2 true true)] [AV.ptr 0 0 0, AV.int IntKind.i64 (iN (gL q.g).length)] [some (Blk.mk [AV.agg [AV.lst (List.map (AV.int IntKind.i64) q.L), AV.int IntKind.i64 (iN q.m2)]] 2 true true)] (AV.lst (boL q.s)))) {post : Exit → St → Prop} (ht : T Try.prog 0 (.loop (loopC (bodyOf Try.f4) 0)) (St.mk 133 [(4, AV.lst (gL q.g)), (5, AV.lst (boL q.s)), (6, AV.int IntKind.i64 0)] []) (TK Try.prog 0 post (loopK (bodyOf Try.f4) 0))) : ∃ o' st' q', go Try.prog ({ dec := [], els := e4 q, calls := cT q, unroll := false } : HT) 0 4000 (.inl (bodyOf Try.f4)) [] (st4 q) = some (o', st', q') ∧ q' ∧ Go.AX.Rest Try.prog 0 post st' o' :=
  endR_spec (σ := []) (fz := []) (vars := [4,5,6]) (show endR 0 [] [] [4,5,6] (go Try.prog ({ dec := [], els := e4 q, calls := cT q, unroll := false } : HT) 0 4000 (.inl (bodyOf Try.f4)) [] (st4 q)) = some (loopC (bodyOf Try.f4) 0, loopK (bodyOf Try.f4) 0, St.mk 133 [(4, AV.lst (gL q.g)), (5, AV.lst (boL q.s)), (6, AV.int IntKind.i64 0)] [], (((True ∧ True) ∧ ((((type_of% h1) ∧ True) ∧ ((True ∧ True) ∧ True)) ∧ (True ∧ (((True ∧ True) ∧ ((True ∧ True) ∧ ((True ∧ True) ∧ ((True ∧ True) ∧ True)))) ∧ (((True ∧ True) ∧ ((True ∧ (True ∧ (True ∧ (True ∧ ((type_of% h2) ∧ True))))) ∧ ((True ∧ True) ∧ True))) ∧ (((True ∧ True) ∧ ((True ∧ True) ∧ ((True ∧ True) ∧ ((True ∧ (True ∧ (True ∧ (True ∧ (True ∧ ((type_of% h3) ∧ True)))))) ∧ ((True ∧ True) ∧ True))))) ∧ ((True ∧ True) ∧ True))))))) ∧ (True ∧ (True ∧ (True ∧ True))))) by kernel_rfl) ⟨⟨⟨trivial, trivial⟩, ⟨⟨⟨h1, trivial⟩, ⟨⟨trivial, trivial⟩, trivial⟩⟩, ⟨trivial, ⟨⟨⟨trivial, trivial⟩, ⟨⟨trivial, trivial⟩, ⟨⟨trivial, trivial⟩, ⟨⟨trivial, trivial⟩, trivial⟩⟩⟩⟩, ⟨⟨⟨trivial, trivial⟩, ⟨⟨trivial, ⟨trivial, ⟨trivial, ⟨trivial, ⟨h2, trivial⟩⟩⟩⟩⟩, ⟨⟨trivial, trivial⟩, trivial⟩⟩⟩, ⟨⟨⟨trivial, trivial⟩, ⟨⟨trivial, trivial⟩, ⟨⟨trivial, trivial⟩, ⟨⟨trivial, ⟨trivial, ⟨trivial, ⟨trivial, ⟨trivial, ⟨h3, trivial⟩⟩⟩⟩⟩⟩, ⟨⟨trivial, trivial⟩, trivial⟩⟩⟩⟩⟩, ⟨⟨trivial, trivial⟩, trivial⟩⟩⟩⟩⟩⟩⟩, ⟨trivial, ⟨trivial, ⟨trivial, trivial⟩⟩⟩⟩ ht
theorem trix_0 (q : QT) (h1 : (decide (iN q.goal < iN (gL q.g).length) = false)) : ∃ o' st' q', go2 Try.prog ({ dec := [(27, false)], els := e4 q, calls := cT q, unroll := false } : HT) 0 4000 (loopC (bodyOf Try.f4) 0) (loopK (bodyOf Try.f4) 0) (lo4 q) = some (o', st', q') ∧ q' ∧ Go.AX.Rest Try.prog 0 (Fin Try.prog Try.f4 0 [] (AV.bool true)) st' o' :=
  endF_spec (σ := []) (fz := []) (show endF Try.prog Try.f4 0 [] [] (go2 Try.prog ({ dec := [(27, false)], els := e4 q, calls := cT q, unroll := false } : HT) 0 4000 (loopC (bodyOf Try.f4) 0) (loopK (bodyOf Try.f4) 0) (lo4 q)) = some ([], AV.bool true, (((((True ∧ True) ∧ ((True ∧ True) ∧ ((True ∧ True) ∧ ((True ∧ (True ∧ True)) ∧ True)))) ∧ ((type_of% h1) ∧ True)) ∧ ((True ∧ True) ∧ True)) ∧ (True ∧ True))) by kernel_rfl) ⟨⟨⟨⟨⟨trivial, trivial⟩, ⟨⟨trivial, trivial⟩, ⟨⟨trivial, trivial⟩, ⟨⟨trivial, ⟨trivial, trivial⟩⟩, trivial⟩⟩⟩⟩, ⟨h1, trivial⟩⟩, ⟨⟨trivial, trivial⟩, trivial⟩⟩, ⟨trivial, trivial⟩⟩
theorem trir_0 (q : QT) (h1 : (decide (iN q.goal < iN (gL q.g).length) = true)) (h2 : (CT Try.prog 12 [] [AV.lst (gL q.g), AV.lst (boL q.s), AV.int IntKind.i64 (iN q.goal)] [] (AV.tup [AV.lst (List.map (AV.int IntKind.i64) q.d), AV.int IntKind.i64 0]))) (h3 : ((iN (List.map (AV.int IntKind.i64) q.d).length != iN (gL q.g).length) = false)) (h4 : (0 ≤ iN q.goal)) (h5 : ((boL q.s)[(iN q.goal).toNat]? = some (AV.bool q.sb))) (h6 : ((List.map (AV.int IntKind.i64) q.d)[(iN q.goal).toNat]? = some (AV.int IntKind.i64 q.x))) (h7 : ((!q.sb == (q.x != 0)) = false)) {post : Exit → St → Prop} (ht : T Try.prog 0 (.loop (loopC (loopC (bodyOf Try.f4) 0) 0)) (St.mk 133 [(4, AV.lst (gL q.g)), (5, AV.lst (boL q.s)), (6, AV.int IntKind.i64 (iN q.goal)), (7, AV.lst (List.map (AV.int IntKind.i64) q.d)), (9, AV.int IntKind.i64 0)] []) (TK Try.prog 0 post (loopK (loopC (bodyOf Try.f4) 0) 0))) : ∃ o' st' q', go Try.prog ({ dec := [(27, true), (46, false), (57, false)], els := e4 q, calls := cT q, unroll := false } : HT) 0 4000 (.inl (loopC (bodyOf Try.f4) 0)) [] (lo4 q) = some (o', st', q') ∧ q' ∧ Go.AX.Rest Try.prog 0 post st' o' :=
  endR_spec (σ := []) (fz := []) (vars := [4,5,6,7,9]) (show endR 0 [] [] [4,5,6,7,9] (go Try.prog ({ dec := [(27, true), (46, false), (57, false)], els := e4 q, calls := cT q, unroll := false } : HT) 0 4000 (.inl (loopC (bodyOf Try.f4) 0)) [] (lo4 q)) = some (loopC (loopC (bodyOf Try.f4) 0) 0, loopK (loopC (bodyOf Try.f4) 0) 0, St.mk 133 [(4, AV.lst (gL q.g)), (5, AV.lst (boL q.s)), (6, AV.int IntKind.i64 (iN q.goal)), (7, AV.lst (List.map (AV.int IntKind.i64) q.d)), (9, AV.int IntKind.i64 0)] [], ((((True ∧ True) ∧ ((True ∧ True) ∧ ((True ∧ True) ∧ ((True ∧ (True ∧ True)) ∧ True)))) ∧ ((type_of% h1) ∧ (((True ∧ True) ∧ ((True ∧ True) ∧ ((True ∧ True) ∧ ((True ∧ (True ∧ (True ∧ (True ∧ (True ∧ (True ∧ ((type_of% h2) ∧ True))))))) ∧ ((True ∧ True) ∧ ((True ∧ True) ∧ ((True ∧ True) ∧ ((True ∧ True) ∧ ((True ∧ True) ∧ True))))))))) ∧ (((True ∧ True) ∧ ((True ∧ True) ∧ ((True ∧ True) ∧ ((True ∧ (True ∧ True)) ∧ ((True ∧ (True ∧ True)) ∧ ((True ∧ (True ∧ True)) ∧ ((True ∧ (True ∧ True)) ∧ ((True ∧ (True ∧ (True ∧ True))) ∧ ((True ∧ (True ∧ True)) ∧ ((True ∧ True) ∧ (((type_of% h3) ∧ (True ∧ True)) ∧ (((type_of% h3) ∧ (True ∧ True)) ∧ (((type_of% h3) ∧ (True ∧ (True ∧ ((type_of% h4) ∧ (type_of% h5))))) ∧ (((type_of% h3) ∧ (True ∧ True)) ∧ (((type_of% h3) ∧ (True ∧ True)) ∧ (((type_of% h3) ∧ (True ∧ True)) ∧ (((type_of% h3) ∧ (True ∧ (True ∧ ((type_of% h4) ∧ (type_of% h6))))) ∧ (((type_of% h3) ∧ (True ∧ True)) ∧ (((type_of% h3) ∧ (True ∧ True)) ∧ (((type_of% h3) ∧ (True ∧ (True ∧ True))) ∧ (((type_of% h3) ∧ (True ∧ True)) ∧ True))))))))))))))))))))) ∧ ((type_of% h7) ∧ ((True ∧ True) ∧ True)))))) ∧ (True ∧ (True ∧ (True ∧ (True ∧ (True ∧ True))))))) by kernel_rfl) ⟨⟨⟨⟨trivial, trivial⟩, ⟨⟨trivial, trivial⟩, ⟨⟨trivial, trivial⟩, ⟨⟨trivial, ⟨trivial, trivial⟩⟩, trivial⟩⟩⟩⟩, ⟨h1, ⟨⟨⟨trivial, trivial⟩, ⟨⟨trivial, trivial⟩, ⟨⟨trivial, trivial⟩, ⟨⟨trivial, ⟨trivial, ⟨trivial, ⟨trivial, ⟨trivial, ⟨trivial, ⟨h2, trivial⟩⟩⟩⟩⟩⟩⟩, ⟨⟨trivial, trivial⟩, ⟨⟨trivial, trivial⟩, ⟨⟨trivial, trivial⟩, ⟨⟨trivial, trivial⟩, ⟨⟨trivial, trivial⟩, trivial⟩⟩⟩⟩⟩⟩⟩⟩⟩, ⟨⟨⟨trivial, trivial⟩, ⟨⟨trivial, trivial⟩, ⟨⟨trivial, trivial⟩, ⟨⟨trivial, ⟨trivial, trivial⟩⟩, ⟨⟨trivial, ⟨trivial, trivial⟩⟩, ⟨⟨trivial, ⟨trivial, trivial⟩⟩, ⟨⟨trivial, ⟨trivial, trivial⟩⟩, ⟨⟨trivial, ⟨trivial, ⟨trivial, trivial⟩⟩⟩, ⟨⟨trivial, ⟨trivial, trivial⟩⟩, ⟨⟨trivial, trivial⟩, ⟨⟨h3, ⟨trivial, trivial⟩⟩, ⟨⟨h3, ⟨trivial, trivial⟩⟩, ⟨⟨h3, ⟨trivial, ⟨trivial, ⟨h4, h5⟩⟩⟩⟩, ⟨⟨h3, ⟨trivial, trivial⟩⟩, ⟨⟨h3, ⟨trivial, trivial⟩⟩, ⟨⟨h3, ⟨trivial, trivial⟩⟩, ⟨⟨h3, ⟨trivial, ⟨trivial, ⟨h4, h6⟩⟩⟩⟩, ⟨⟨h3, ⟨trivial, trivial⟩⟩, ⟨⟨h3, ⟨trivial, trivial⟩⟩, ⟨⟨h3, ⟨trivial, ⟨trivial, trivial⟩⟩⟩, ⟨⟨h3, ⟨trivial, trivial⟩⟩, trivial⟩⟩⟩⟩⟩⟩⟩⟩⟩⟩⟩⟩⟩⟩⟩⟩⟩⟩⟩⟩⟩, ⟨h7, ⟨⟨trivial, trivial⟩, trivial⟩⟩⟩⟩⟩⟩, ⟨trivial, ⟨trivial, ⟨trivial, ⟨trivial, ⟨trivial, trivial⟩⟩⟩⟩⟩⟩ ht
theorem triax_0 (q : QT) (h1 : (decide (iN q.v < iN (gL q.g).length) = false)) {post : Exit → St → Prop} {R : St → Prop} (hR : ∀ st, Ren 0 st (St.mk 133 [(4, AV.lst (gL q.g)), (5, AV.lst (boL q.s)), (6, AV.int IntKind.i64 (IntKind.i64.wrap (iN q.goal + 1)))] []) → R st) : ∃ o' st' q', go2 Try.prog ({ dec := [(61, false)], els := e4 q, calls := cT q, unroll := false } : HT) 0 4000 (loopC (loopC (bodyOf Try.f4) 0) 0) (loopK (loopC (bodyOf Try.f4) 0) 0) (la4 q) = some (o', st', q') ∧ q' ∧ Go.AX.Rest Try.prog 0 (andThen R post) st' o' :=
  endN_spec (σ := []) (fz := []) (vars := [4,5,6]) (show endN 0 [] [] [4,5,6] (go2 Try.prog ({ dec := [(61, false)], els := e4 q, calls := cT q, unroll := false } : HT) 0 4000 (loopC (loopC (bodyOf Try.f4) 0) 0) (loopK (loopC (bodyOf Try.f4) 0) 0) (la4 q)) = some (St.mk 133 [(4, AV.lst (gL q.g)), (5, AV.lst (boL q.s)), (6, AV.int IntKind.i64 (IntKind.i64.wrap (iN q.goal + 1)))] [], (((((True ∧ True) ∧ ((True ∧ True) ∧ ((True ∧ True) ∧ ((True ∧ (True ∧ True)) ∧ True)))) ∧ ((type_of% h1) ∧ True)) ∧ (((True ∧ True) ∧ ((True ∧ True) ∧ ((True ∧ True) ∧ True))) ∧ True)) ∧ (True ∧ (True ∧ (True ∧ True))))) by kernel_rfl) ⟨⟨⟨⟨⟨trivial, trivial⟩, ⟨⟨trivial, trivial⟩, ⟨⟨trivial, trivial⟩, ⟨⟨trivial, ⟨trivial, trivial⟩⟩, trivial⟩⟩⟩⟩, ⟨h1, trivial⟩⟩, ⟨⟨⟨trivial, trivial⟩, ⟨⟨trivial, trivial⟩, ⟨⟨trivial, trivial⟩, trivial⟩⟩⟩, trivial⟩⟩, ⟨trivial, ⟨trivial, ⟨trivial, trivial⟩⟩⟩⟩ hR
theorem triar_0 (q : QT) (h1 : (decide (iN q.v < iN (gL q.g).length) = true)) (h2 : ((iN q.v == iN q.goal) = true)) {post : Exit → St → Prop} (ht : T Try.prog 0 (.loop (loopC (loopC (loopC (bodyOf Try.f4) 0) 0) 0)) (St.mk 133 [(4, AV.lst (gL q.g)), (5, AV.lst (boL q.s)), (6, AV.int IntKind.i64 (iN q.goal)), (7, AV.lst (List.map (AV.int IntKind.i64) q.d)), (9, AV.int IntKind.i64 (iN q.v)), (10, AV.bool true), (11, AV.int IntKind.i64 0)] []) (TK Try.prog 0 post (loopK (loopC (loopC (bodyOf Try.f4) 0) 0) 0))) : ∃ o' st' q', go Try.prog ({ dec := [(61, true), (67, true)], els := e4 q, calls := cT q, unroll := false } : HT) 0 4000 (.inl (loopC (loopC (bodyOf Try.f4) 0) 0)) [] (la4 q) = some (o', st', q') ∧ q' ∧ Go.AX.Rest Try.prog 0 post st' o' :=
  endR_spec (σ := []) (fz := []) (vars := [4,5,6,7,9,10,11]) (show endR 0 [] [] [4,5,6,7,9,10,11] (go Try.prog ({ dec := [(61, true), (67, true)], els := e4 q, calls := cT q, unroll := false } : HT) 0 4000 (.inl (loopC (loopC (bodyOf Try.f4) 0) 0)) [] (la4 q)) = some (loopC (loopC (loopC (bodyOf Try.f4) 0) 0) 0, loopK (loopC (loopC (bodyOf Try.f4) 0) 0) 0, St.mk 133 [(4, AV.lst (gL q.g)), (5, AV.lst (boL q.s)), (6, AV.int IntKind.i64 (iN q.goal)), (7, AV.lst (List.map (AV.int IntKind.i64) q.d)), (9, AV.int IntKind.i64 (iN q.v)), (10, AV.bool true), (11, AV.int IntKind.i64 0)] [], ((((True ∧ True) ∧ ((True ∧ True) ∧ ((True ∧ True) ∧ ((True ∧ (True ∧ True)) ∧ True)))) ∧ ((type_of% h1) ∧ (((True ∧ True) ∧ ((True ∧ True) ∧ ((True ∧ (True ∧ True)) ∧ ((True ∧ True) ∧ ((type_of% h2) ∧ ((type_of% h2) ∧ ((type_of% h2) ∧ ((type_of% h2) ∧ ((type_of% h2) ∧ (((type_of% h2) ∧ (True ∧ True)) ∧ ((True ∧ True) ∧ True))))))))))) ∧ ((True ∧ True) ∧ True)))) ∧ (True ∧ (True ∧ (True ∧ (True ∧ (True ∧ (True ∧ (True ∧ True))))))))) by kernel_rfl) ⟨⟨⟨⟨trivial, trivial⟩, ⟨⟨trivial, trivial⟩, ⟨⟨trivial, trivial⟩, ⟨⟨trivial, ⟨trivial, trivial⟩⟩, trivial⟩⟩⟩⟩, ⟨h1, ⟨⟨⟨trivial, trivial⟩, ⟨⟨trivial, trivial⟩, ⟨⟨trivial, ⟨trivial, trivial⟩⟩, ⟨⟨trivial, trivial⟩, ⟨h2, ⟨h2, ⟨h2, ⟨h2, ⟨h2, ⟨⟨h2, ⟨trivial, trivial⟩⟩, ⟨⟨trivial, trivial⟩, trivial⟩⟩⟩⟩⟩⟩⟩⟩⟩⟩⟩, ⟨⟨trivial, trivial⟩, trivial⟩⟩⟩⟩, ⟨trivial, ⟨trivial, ⟨trivial, ⟨trivial, ⟨trivial, ⟨trivial, ⟨trivial, trivial⟩⟩⟩⟩⟩⟩⟩⟩ ht
theorem triar_1 (q : QT) (h1 : (decide (iN q.v < iN (gL q.g).length) = true)) (h2 : ((iN q.v == iN q.goal) = false)) (h3 : (0 ≤ iN q.v)) (h4 : ((List.map (AV.int IntKind.i64) q.d)[(iN q.v).toNat]? = some (AV.int IntKind.i64 q.x))) {post : Exit → St → Prop} (ht : T Try.prog 0 (.loop (loopC (loopC (loopC (bodyOf Try.f4) 0) 0) 0)) (St.mk 133 [(4, AV.lst (gL q.g)), (5, AV.lst (boL q.s)), (6, AV.int IntKind.i64 (iN q.goal)), (7, AV.lst (List.map (AV.int IntKind.i64) q.d)), (9, AV.int IntKind.i64 (iN q.v)), (10, AV.bool (decide (q.x < 0))), (11, AV.int IntKind.i64 0)] []) (TK Try.prog 0 post (loopK (loopC (loopC (bodyOf Try.f4) 0) 0) 0))) : ∃ o' st' q', go Try.prog ({ dec := [(61, true), (67, false)], els := e4 q, calls := cT q, unroll := false } : HT) 0 4000 (.inl (loopC (loopC (bodyOf Try.f4) 0) 0)) [] (la4 q) = some (o', st', q') ∧ q' ∧ Go.AX.Rest Try.prog 0 post st' o' :=
  endR_spec (σ := []) (fz := []) (vars := [4,5,6,7,9,10,11]) (show endR 0 [] [] [4,5,6,7,9,10,11] (go Try.prog ({ dec := [(61, true), (67, false)], els := e4 q, calls := cT q, unroll := false } : HT) 0 4000 (.inl (loopC (loopC (bodyOf Try.f4) 0) 0)) [] (la4 q)) = some (loopC (loopC (loopC (bodyOf Try.f4) 0) 0) 0, loopK (loopC (loopC (bodyOf Try.f4) 0) 0) 0, St.mk 133 [(4, AV.lst (gL q.g)), (5, AV.lst (boL q.s)), (6, AV.int IntKind.i64 (iN q.goal)), (7, AV.lst (List.map (AV.int IntKind.i64) q.d)), (9, AV.int IntKind.i64 (iN q.v)), (10, AV.bool (decide (q.x < 0))), (11, AV.int IntKind.i64 0)] [], ((((True ∧ True) ∧ ((True ∧ True) ∧ ((True ∧ True) ∧ ((True ∧ (True ∧ True)) ∧ True)))) ∧ ((type_of% h1) ∧ (((True ∧ True) ∧ ((True ∧ True) ∧ ((True ∧ (True ∧ True)) ∧ ((True ∧ True) ∧ (((type_of% h2) ∧ (True ∧ True)) ∧ (((type_of% h2) ∧ (True ∧ True)) ∧ (((type_of% h2) ∧ (True ∧ (True ∧ ((type_of% h3) ∧ (type_of% h4))))) ∧ (((type_of% h2) ∧ (True ∧ True)) ∧ (((type_of% h2) ∧ (True ∧ True)) ∧ (((type_of% h2) ∧ (True ∧ True)) ∧ ((True ∧ True) ∧ True))))))))))) ∧ ((True ∧ True) ∧ True)))) ∧ (True ∧ (True ∧ (True ∧ (True ∧ (True ∧ (True ∧ (True ∧ True))))))))) by kernel_rfl) ⟨⟨⟨⟨trivial, trivial⟩, ⟨⟨trivial, trivial⟩, ⟨⟨trivial, trivial⟩, ⟨⟨trivial, ⟨trivial, trivial⟩⟩, trivial⟩⟩⟩⟩, ⟨h1, ⟨⟨⟨trivial, trivial⟩, ⟨⟨trivial, trivial⟩, ⟨⟨trivial, ⟨trivial, trivial⟩⟩, ⟨⟨trivial, trivial⟩, ⟨⟨h2, ⟨trivial, trivial⟩⟩, ⟨⟨h2, ⟨trivial, trivial⟩⟩, ⟨⟨h2, ⟨trivial, ⟨trivial, ⟨h3, h4⟩⟩⟩⟩, ⟨⟨h2, ⟨trivial, trivial⟩⟩, ⟨⟨h2, ⟨trivial, trivial⟩⟩, ⟨⟨h2, ⟨trivial, trivial⟩⟩, ⟨⟨trivial, trivial⟩, trivial⟩⟩⟩⟩⟩⟩⟩⟩⟩⟩⟩, ⟨⟨trivial, trivial⟩, trivial⟩⟩⟩⟩, ⟨trivial, ⟨trivial, ⟨trivial, ⟨trivial, ⟨trivial, ⟨trivial, ⟨trivial, trivial⟩⟩⟩⟩⟩⟩⟩⟩ ht
theorem tribx_0 (q : QT) (h1 : (0 ≤ iN q.v)) (h2 : ((gL q.g)[(iN q.v).toNat]? = some (AV.lst (List.map (AV.int IntKind.i64) q.r)))) (h3 : (decide (iN q.k < iN (List.map (AV.int IntKind.i64) q.r).length) = false)) (h4 : ((!q.b) = false)) {post : Exit → St → Prop} {R : St → Prop} (hR : ∀ st, Ren 0 st (St.mk 133 [(4, AV.lst (gL q.g)), (5, AV.lst (boL q.s)), (6, AV.int IntKind.i64 (iN q.goal)), (7, AV.lst (List.map (AV.int IntKind.i64) q.d)), (9, AV.int IntKind.i64 (IntKind.i64.wrap (iN q.v + 1)))] []) → R st) : ∃ o' st' q', go2 Try.prog ({ dec := [(80, false), (132, false)], els := e4 q, calls := cT q, unroll := false } : HT) 0 4000 (loopC (loopC (loopC (bodyOf Try.f4) 0) 0) 0) (loopK (loopC (loopC (bodyOf Try.f4) 0) 0) 0) (lb4 q) = some (o', st', q') ∧ q' ∧ Go.AX.Rest Try.prog 0 (andThen R post) st' o' :=
  endN_spec (σ := []) (fz := []) (vars := [4,5,6,7,9]) (show endN 0 [] [] [4,5,6,7,9] (go2 Try.prog ({ dec := [(80, false), (132, false)], els := e4 q, calls := cT q, unroll := false } : HT) 0 4000 (loopC (loopC (loopC (bodyOf Try.f4) 0) 0) 0) (loopK (loopC (loopC (bodyOf Try.f4) 0) 0) 0) (lb4 q)) = some (St.mk 133 [(4, AV.lst (gL q.g)), (5, AV.lst (boL q.s)), (6, AV.int IntKind.i64 (iN q.goal)), (7, AV.lst (List.map (AV.int IntKind.i64) q.d)), (9, AV.int IntKind.i64 (IntKind.i64.wrap (iN q.v + 1)))] [], (((((True ∧ True) ∧ ((True ∧ True) ∧ ((True ∧ True) ∧ ((True ∧ (True ∧ ((type_of% h1) ∧ (type_of% h2)))) ∧ ((True ∧ True) ∧ ((True ∧ True) ∧ ((True ∧ (True ∧ True)) ∧ True))))))) ∧ ((type_of% h3) ∧ True)) ∧ (((True ∧ True) ∧ ((True ∧ True) ∧ True)) ∧ ((type_of% h4) ∧ (((True ∧ True) ∧ ((True ∧ True) ∧ ((True ∧ True) ∧ True))) ∧ True)))) ∧ (True ∧ (True ∧ (True ∧ (True ∧ (True ∧ True))))))) by kernel_rfl) ⟨⟨⟨⟨⟨trivial, trivial⟩, ⟨⟨trivial, trivial⟩, ⟨⟨trivial, trivial⟩, ⟨⟨trivial, ⟨trivial, ⟨h1, h2⟩⟩⟩, ⟨⟨trivial, trivial⟩, ⟨⟨trivial, trivial⟩, ⟨⟨trivial, ⟨trivial, trivial⟩⟩, trivial⟩⟩⟩⟩⟩⟩⟩, ⟨h3, trivial⟩⟩, ⟨⟨⟨trivial, trivial⟩, ⟨⟨trivial, trivial⟩, trivial⟩⟩, ⟨h4, ⟨⟨⟨trivial, trivial⟩, ⟨⟨trivial, trivial⟩, ⟨⟨trivial, trivial⟩, trivial⟩⟩⟩, trivial⟩⟩⟩⟩, ⟨trivial, ⟨trivial, ⟨trivial, ⟨trivial, ⟨trivial, trivial⟩⟩⟩⟩⟩⟩ hR
theorem tribc_0 (q : QT) (h1 : (0 ≤ iN q.v)) (h2 : ((gL q.g)[(iN q.v).toNat]? = some (AV.lst (List.map (AV.int IntKind.i64) q.r)))) (h3 : (decide (iN q.k < iN (List.map (AV.int IntKind.i64) q.r).length) = true)) (h4 : (0 ≤ iN q.k)) (h5 : ((List.map (AV.int IntKind.i64) q.r)[(iN q.k).toNat]? = some (AV.int IntKind.i64 (iN q.w)))) (h6 : ((boL q.s)[(iN q.v).toNat]? = some (AV.bool q.sb))) (h7 : (q.sb = true)) {post : Exit → St → Prop} {R : St → Prop} (hR : ∀ st, Ren 0 st (St.mk 133 [(4, AV.lst (gL q.g)), (5, AV.lst (boL q.s)), (6, AV.int IntKind.i64 (iN q.goal)), (7, AV.lst (List.map (AV.int IntKind.i64) q.d)), (9, AV.int IntKind.i64 (iN q.v)), (10, AV.bool q.b), (11, AV.int IntKind.i64 (IntKind.i64.wrap (iN q.k + 1)))] []) → R st) : ∃ o' st' q', go Try.prog ({ dec := [(80, true), (100, true), (94, true)], els := e4 q, calls := cT q, unroll := false } : HT) 0 4000 (.inl (loopC (loopC (loopC (bodyOf Try.f4) 0) 0) 0)) [] (lb4 q) = some (o', st', q') ∧ q' ∧ Go.AX.Rest Try.prog 0 (andThen R post) st' o' :=
  endN_spec (σ := []) (fz := []) (vars := [4,5,6,7,9,10,11]) (show endN 0 [] [] [4,5,6,7,9,10,11] (go Try.prog ({ dec := [(80, true), (100, true), (94, true)], els := e4 q, calls := cT q, unroll := false } : HT) 0 4000 (.inl (loopC (loopC (loopC (bodyOf Try.f4) 0) 0) 0)) [] (lb4 q)) = some (St.mk 133 [(4, AV.lst (gL q.g)), (5, AV.lst (boL q.s)), (6, AV.int IntKind.i64 (iN q.goal)), (7, AV.lst (List.map (AV.int IntKind.i64) q.d)), (9, AV.int IntKind.i64 (iN q.v)), (10, AV.bool q.b), (11, AV.int IntKind.i64 (IntKind.i64.wrap (iN q.k + 1)))] [], ((((True ∧ True) ∧ ((True ∧ True) ∧ ((True ∧ True) ∧ ((True ∧ (True ∧ ((type_of% h1) ∧ (type_of% h2)))) ∧ ((True ∧ True) ∧ ((True ∧ True) ∧ ((True ∧ (True ∧ True)) ∧ True))))))) ∧ ((type_of% h3) ∧ (((True ∧ True) ∧ ((True ∧ True) ∧ ((True ∧ (True ∧ ((type_of% h1) ∧ (type_of% h2)))) ∧ ((True ∧ True) ∧ ((True ∧ True) ∧ ((True ∧ (True ∧ ((type_of% h4) ∧ (type_of% h5)))) ∧ ((True ∧ True) ∧ ((True ∧ True) ∧ True)))))))) ∧ (((True ∧ True) ∧ ((True ∧ True) ∧ ((True ∧ (True ∧ ((type_of% h1) ∧ (type_of% h6)))) ∧ ((True ∧ True) ∧ ((True ∧ True) ∧ ((type_of% h7) ∧ ((type_of% h7) ∧ ((type_of% h7) ∧ ((type_of% h7) ∧ ((type_of% h7) ∧ (((type_of% h7) ∧ (True ∧ True)) ∧ True))))))))))) ∧ ((true = true) ∧ (((True ∧ True) ∧ ((True ∧ True) ∧ ((True ∧ True) ∧ True))) ∧ True)))))) ∧ (True ∧ (True ∧ (True ∧ (True ∧ (True ∧ (True ∧ (True ∧ True))))))))) by kernel_rfl) ⟨⟨⟨⟨trivial, trivial⟩, ⟨⟨trivial, trivial⟩, ⟨⟨trivial, trivial⟩, ⟨⟨trivial, ⟨trivial, ⟨h1, h2⟩⟩⟩, ⟨⟨trivial, trivial⟩, ⟨⟨trivial, trivial⟩, ⟨⟨trivial, ⟨trivial, trivial⟩⟩, trivial⟩⟩⟩⟩⟩⟩⟩, ⟨h3, ⟨⟨⟨trivial, trivial⟩, ⟨⟨trivial, trivial⟩, ⟨⟨trivial, ⟨trivial, ⟨h1, h2⟩⟩⟩, ⟨⟨trivial, trivial⟩, ⟨⟨trivial, trivial⟩, ⟨⟨trivial, ⟨trivial, ⟨h4, h5⟩⟩⟩, ⟨⟨trivial, trivial⟩, ⟨⟨trivial, trivial⟩, trivial⟩⟩⟩⟩⟩⟩⟩⟩, ⟨⟨⟨trivial, trivial⟩, ⟨⟨trivial, trivial⟩, ⟨⟨trivial, ⟨trivial, ⟨h1, h6⟩⟩⟩, ⟨⟨trivial, trivial⟩, ⟨⟨trivial, trivial⟩, ⟨h7, ⟨h7, ⟨h7, ⟨h7, ⟨h7, ⟨⟨h7, ⟨trivial, trivial⟩⟩, trivial⟩⟩⟩⟩⟩⟩⟩⟩⟩⟩⟩, ⟨(by first | decide | exact Int.NonNeg.mk _), ⟨⟨⟨trivial, trivial⟩, ⟨⟨trivial, trivial⟩, ⟨⟨trivial, trivial⟩, trivial⟩⟩⟩, trivial⟩⟩⟩⟩⟩⟩, ⟨trivial, ⟨trivial, ⟨trivial, ⟨trivial, ⟨trivial, ⟨trivial, ⟨trivial, trivial⟩⟩⟩⟩⟩⟩⟩⟩ hR
theorem tribc_1 (q : QT) (h1 : (0 ≤ iN q.v)) (h2 : ((gL q.g)[(iN q.v).toNat]? = some (AV.lst (List.map (AV.int IntKind.i64) q.r)))) (h3 : (decide (iN q.k < iN (List.map (AV.int IntKind.i64) q.r).length) = true)) (h4 : (0 ≤ iN q.k)) (h5 : ((List.map (AV.int IntKind.i64) q.r)[(iN q.k).toNat]? = some (AV.int IntKind.i64 (iN q.w)))) (h6 : ((boL q.s)[(iN q.v).toNat]? = some (AV.bool q.sb))) (h7 : (q.sb = false)) (h8 : (0 ≤ iN q.w)) (h9 : ((List.map (AV.int IntKind.i64) q.d)[(iN q.w).toNat]? = some (AV.int IntKind.i64 q.y))) (h10 : (decide (q.y < 0) = true)) {post : Exit → St → Prop} {R : St → Prop} (hR : ∀ st, Ren 0 st (St.mk 133 [(4, AV.lst (gL q.g)), (5, AV.lst (boL q.s)), (6, AV.int IntKind.i64 (iN q.goal)), (7, AV.lst (List.map (AV.int IntKind.i64) q.d)), (9, AV.int IntKind.i64 (iN q.v)), (10, AV.bool q.b), (11, AV.int IntKind.i64 (IntKind.i64.wrap (iN q.k + 1)))] []) → R st) : ∃ o' st' q', go Try.prog ({ dec := [(80, true), (100, true), (94, false)], els := e4 q, calls := cT q, unroll := false } : HT) 0 4000 (.inl (loopC (loopC (loopC (bodyOf Try.f4) 0) 0) 0)) [] (lb4 q) = some (o', st', q') ∧ q' ∧ Go.AX.Rest Try.prog 0 (andThen R post) st' o' :=
  endN_spec (σ := []) (fz := []) (vars := [4,5,6,7,9,10,11]) (show endN 0 [] [] [4,5,6,7,9,10,11] (go Try.prog ({ dec := [(80, true), (100, true), (94, false)], els := e4 q, calls := cT q, unroll := false } : HT) 0 4000 (.inl (loopC (loopC (loopC (bodyOf Try.f4) 0) 0) 0)) [] (lb4 q)) = some (St.mk 133 [(4, AV.lst (gL q.g)), (5, AV.lst (boL q.s)), (6, AV.int IntKind.i64 (iN q.goal)), (7, AV.lst (List.map (AV.int IntKind.i64) q.d)), (9, AV.int IntKind.i64 (iN q.v)), (10, AV.bool q.b), (11, AV.int IntKind.i64 (IntKind.i64.wrap (iN q.k + 1)))] [], ((((True ∧ True) ∧ ((True ∧ True) ∧ ((True ∧ True) ∧ ((True ∧ (True ∧ ((type_of% h1) ∧ (type_of% h2)))) ∧ ((True ∧ True) ∧ ((True ∧ True) ∧ ((True ∧ (True ∧ True)) ∧ True))))))) ∧ ((type_of% h3) ∧ (((True ∧ True) ∧ ((True ∧ True) ∧ ((True ∧ (True ∧ ((type_of% h1) ∧ (type_of% h2)))) ∧ ((True ∧ True) ∧ ((True ∧ True) ∧ ((True ∧ (True ∧ ((type_of% h4) ∧ (type_of% h5)))) ∧ ((True ∧ True) ∧ ((True ∧ True) ∧ True)))))))) ∧ (((True ∧ True) ∧ ((True ∧ True) ∧ ((True ∧ (True ∧ ((type_of% h1) ∧ (type_of% h6)))) ∧ ((True ∧ True) ∧ ((True ∧ True) ∧ (((type_of% h7) ∧ (True ∧ True)) ∧ (((type_of% h7) ∧ (True ∧ True)) ∧ (((type_of% h7) ∧ (True ∧ (True ∧ ((type_of% h8) ∧ (type_of% h9))))) ∧ (((type_of% h7) ∧ (True ∧ True)) ∧ (((type_of% h7) ∧ (True ∧ True)) ∧ (((type_of% h7) ∧ (True ∧ True)) ∧ True))))))))))) ∧ ((type_of% h10) ∧ (((True ∧ True) ∧ ((True ∧ True) ∧ ((True ∧ True) ∧ True))) ∧ True)))))) ∧ (True ∧ (True ∧ (True ∧ (True ∧ (True ∧ (True ∧ (True ∧ True))))))))) by kernel_rfl) ⟨⟨⟨⟨trivial, trivial⟩, ⟨⟨trivial, trivial⟩, ⟨⟨trivial, trivial⟩, ⟨⟨trivial, ⟨trivial, ⟨h1, h2⟩⟩⟩, ⟨⟨trivial, trivial⟩, ⟨⟨trivial, trivial⟩, ⟨⟨trivial, ⟨trivial, trivial⟩⟩, trivial⟩⟩⟩⟩⟩⟩⟩, ⟨h3, ⟨⟨⟨trivial, trivial⟩, ⟨⟨trivial, trivial⟩, ⟨⟨trivial, ⟨trivial, ⟨h1, h2⟩⟩⟩, ⟨⟨trivial, trivial⟩, ⟨⟨trivial, trivial⟩, ⟨⟨trivial, ⟨trivial, ⟨h4, h5⟩⟩⟩, ⟨⟨trivial, trivial⟩, ⟨⟨trivial, trivial⟩, trivial⟩⟩⟩⟩⟩⟩⟩⟩, ⟨⟨⟨trivial, trivial⟩, ⟨⟨trivial, trivial⟩, ⟨⟨trivial, ⟨trivial, ⟨h1, h6⟩⟩⟩, ⟨⟨trivial, trivial⟩, ⟨⟨trivial, trivial⟩, ⟨⟨h7, ⟨trivial, trivial⟩⟩, ⟨⟨h7, ⟨trivial, trivial⟩⟩, ⟨⟨h7, ⟨trivial, ⟨trivial, ⟨h8, h9⟩⟩⟩⟩, ⟨⟨h7, ⟨trivial, trivial⟩⟩, ⟨⟨h7, ⟨trivial, trivial⟩⟩, ⟨⟨h7, ⟨trivial, trivial⟩⟩, trivial⟩⟩⟩⟩⟩⟩⟩⟩⟩⟩⟩, ⟨h10, ⟨⟨⟨trivial, trivial⟩, ⟨⟨trivial, trivial⟩, ⟨⟨trivial, trivial⟩, trivial⟩⟩⟩, trivial⟩⟩⟩⟩⟩⟩, ⟨trivial, ⟨trivial, ⟨trivial, ⟨trivial, ⟨trivial, ⟨trivial, ⟨trivial, trivial⟩⟩⟩⟩⟩⟩⟩⟩ hR
theorem tribr_0 (q : QT) (h1 : (0 ≤ iN q.v)) (h2 : ((gL q.g)[(iN q.v).toNat]? = some (AV.lst (List.map (AV.int IntKind.i64) q.r)))) (h3 : (decide (iN q.k < iN (List.map (AV.int IntKind.i64) q.r).length) = true)) (h4 : (0 ≤ iN q.k)) (h5 : ((List.map (AV.int IntKind.i64) q.r)[(iN q.k).toNat]? = some (AV.int IntKind.i64 (iN q.w)))) (h6 : ((boL q.s)[(iN q.v).toNat]? = some (AV.bool q.sb))) (h7 : (q.sb = false)) (h8 : (0 ≤ iN q.w)) (h9 : ((List.map (AV.int IntKind.i64) q.d)[(iN q.w).toNat]? = some (AV.int IntKind.i64 q.y))) (h10 : (decide (q.y < 0) = false)) (h11 : ((List.map (AV.int IntKind.i64) q.d)[(iN q.v).toNat]? = some (AV.int IntKind.i64 q.x))) (h12 : (decide (q.x < 0) = false)) (h13 : (decide (IntKind.i64.wrap (q.y + 1) < q.x) = false)) (h14 : (q.b = true)) {post : Exit → St → Prop} {R : St → Prop} (hR : ∀ st, Ren 0 st (St.mk 133 [(4, AV.lst (gL q.g)), (5, AV.lst (boL q.s)), (6, AV.int IntKind.i64 (iN q.goal)), (7, AV.lst (List.map (AV.int IntKind.i64) q.d)), (9, AV.int IntKind.i64 (iN q.v)), (10, AV.bool true), (11, AV.int IntKind.i64 (IntKind.i64.wrap (iN q.k + 1)))] []) → R st) : ∃ o' st' q', go Try.prog ({ dec := [(80, true), (94, false), (100, false), (105, false), (106, false), (116, false), (117, false), (119, true)], els := e4 q, calls := cT q, unroll := false } : HT) 0 4000 (.inl (loopC (loopC (loopC (bodyOf Try.f4) 0) 0) 0)) [] (lb4 q) = some (o', st', q') ∧ q' ∧ Go.AX.Rest Try.prog 0 (andThen R post) st' o' :=
  endN_spec (σ := []) (fz := []) (vars := [4,5,6,7,9,10,11]) (show endN 0 [] [] [4,5,6,7,9,10,11] (go Try.prog ({ dec := [(80, true), (94, false), (100, false), (105, false), (106, false), (116, false), (117, false), (119, true)], els := e4 q, calls := cT q, unroll := false } : HT) 0 4000 (.inl (loopC (loopC (loopC (bodyOf Try.f4) 0) 0) 0)) [] (lb4 q)) = some (St.mk 133 [(4, AV.lst (gL q.g)), (5, AV.lst (boL q.s)), (6, AV.int IntKind.i64 (iN q.goal)), (7, AV.lst (List.map (AV.int IntKind.i64) q.d)), (9, AV.int IntKind.i64 (iN q.v)), (10, AV.bool true), (11, AV.int IntKind.i64 (IntKind.i64.wrap (iN q.k + 1)))] [], ((((True ∧ True) ∧ ((True ∧ True) ∧ ((True ∧ True) ∧ ((True ∧ (True ∧ ((type_of% h1) ∧ (type_of% h2)))) ∧ ((True ∧ True) ∧ ((True ∧ True) ∧ ((True ∧ (True ∧ True)) ∧ True))))))) ∧ ((type_of% h3) ∧ (((True ∧ True) ∧ ((True ∧ True) ∧ ((True ∧ (True ∧ ((type_of% h1) ∧ (type_of% h2)))) ∧ ((True ∧ True) ∧ ((True ∧ True) ∧ ((True ∧ (True ∧ ((type_of% h4) ∧ (type_of% h5)))) ∧ ((True ∧ True) ∧ ((True ∧ True) ∧ True)))))))) ∧ (((True ∧ True) ∧ ((True ∧ True) ∧ ((True ∧ (True ∧ ((type_of% h1) ∧ (type_of% h6)))) ∧ ((True ∧ True) ∧ ((True ∧ True) ∧ (((type_of% h7) ∧ (True ∧ True)) ∧ (((type_of% h7) ∧ (True ∧ True)) ∧ (((type_of% h7) ∧ (True ∧ (True ∧ ((type_of% h8) ∧ (type_of% h9))))) ∧ (((type_of% h7) ∧ (True ∧ True)) ∧ (((type_of% h7) ∧ (True ∧ True)) ∧ (((type_of% h7) ∧ (True ∧ True)) ∧ True))))))))))) ∧ ((type_of% h10) ∧ (((True ∧ True) ∧ ((True ∧ True) ∧ ((True ∧ (True ∧ ((type_of% h1) ∧ (type_of% h11)))) ∧ ((True ∧ True) ∧ ((True ∧ True) ∧ (((type_of% h12) ∧ True) ∧ (((false = false) ∧ (True ∧ True)) ∧ (((false = false) ∧ (True ∧ True)) ∧ (((false = false) ∧ (True ∧ (True ∧ ((type_of% h1) ∧ (type_of% h11))))) ∧ (((false = false) ∧ (True ∧ True)) ∧ (((false = false) ∧ (True ∧ True)) ∧ (((false = false) ∧ (True ∧ True)) ∧ (((false = false) ∧ (True ∧ (True ∧ ((type_of% h8) ∧ (type_of% h9))))) ∧ (((false = false) ∧ (True ∧ True)) ∧ (((false = false) ∧ (True ∧ True)) ∧ (((false = false) ∧ (True ∧ (True ∧ True))) ∧ (((false = false) ∧ ((type_of% h13) ∧ True)) ∧ True))))))))))))))))) ∧ ((false = false) ∧ (((True ∧ True) ∧ ((True ∧ True) ∧ ((type_of% h14) ∧ ((type_of% h14) ∧ ((type_of% h14) ∧ ((type_of% h14) ∧ ((type_of% h14) ∧ ((type_of% h14) ∧ ((type_of% h14) ∧ ((type_of% h14) ∧ ((type_of% h14) ∧ ((type_of% h14) ∧ (((type_of% h14) ∧ (True ∧ True)) ∧ ((True ∧ True) ∧ True)))))))))))))) ∧ (((True ∧ True) ∧ ((True ∧ True) ∧ ((True ∧ True) ∧ True))) ∧ True))))))))) ∧ (True ∧ (True ∧ (True ∧ (True ∧ (True ∧ (True ∧ (True ∧ True))))))))) by kernel_rfl) ⟨⟨⟨⟨trivial, trivial⟩, ⟨⟨trivial, trivial⟩, ⟨⟨trivial, trivial⟩, ⟨⟨trivial, ⟨trivial, ⟨h1, h2⟩⟩⟩, ⟨⟨trivial, trivial⟩, ⟨⟨trivial, trivial⟩, ⟨⟨trivial, ⟨trivial, trivial⟩⟩, trivial⟩⟩⟩⟩⟩⟩⟩, ⟨h3, ⟨⟨⟨trivial, trivial⟩, ⟨⟨trivial, trivial⟩, ⟨⟨trivial, ⟨trivial, ⟨h1, h2⟩⟩⟩, ⟨⟨trivial, trivial⟩, ⟨⟨trivial, trivial⟩, ⟨⟨trivial, ⟨trivial, ⟨h4, h5⟩⟩⟩, ⟨⟨trivial, trivial⟩, ⟨⟨trivial, trivial⟩, trivial⟩⟩⟩⟩⟩⟩⟩⟩, ⟨⟨⟨trivial, trivial⟩, ⟨⟨trivial, trivial⟩, ⟨⟨trivial, ⟨trivial, ⟨h1, h6⟩⟩⟩, ⟨⟨trivial, trivial⟩, ⟨⟨trivial, trivial⟩, ⟨⟨h7, ⟨trivial, trivial⟩⟩, ⟨⟨h7, ⟨trivial, trivial⟩⟩, ⟨⟨h7, ⟨trivial, ⟨trivial, ⟨h8, h9⟩⟩⟩⟩, ⟨⟨h7, ⟨trivial, trivial⟩⟩, ⟨⟨h7, ⟨trivial, trivial⟩⟩, ⟨⟨h7, ⟨trivial, trivial⟩⟩, trivial⟩⟩⟩⟩⟩⟩⟩⟩⟩⟩⟩, ⟨h10, ⟨⟨⟨trivial, trivial⟩, ⟨⟨trivial, trivial⟩, ⟨⟨trivial, ⟨trivial, ⟨h1, h11⟩⟩⟩, ⟨⟨trivial, trivial⟩, ⟨⟨trivial, trivial⟩, ⟨⟨h12, trivial⟩, ⟨⟨(by first | decide | exact Int.NonNeg.mk _), ⟨trivial, trivial⟩⟩, ⟨⟨(by first | decide | exact Int.NonNeg.mk _), ⟨trivial, trivial⟩⟩, ⟨⟨(by first | decide | exact Int.NonNeg.mk _), ⟨trivial, ⟨trivial, ⟨h1, h11⟩⟩⟩⟩, ⟨⟨(by first | decide | exact Int.NonNeg.mk _), ⟨trivial, trivial⟩⟩, ⟨⟨(by first | decide | exact Int.NonNeg.mk _), ⟨trivial, trivial⟩⟩, ⟨⟨(by first | decide | exact Int.NonNeg.mk _), ⟨trivial, trivial⟩⟩, ⟨⟨(by first | decide | exact Int.NonNeg.mk _), ⟨trivial, ⟨trivial, ⟨h8, h9⟩⟩⟩⟩, ⟨⟨(by first | decide | exact Int.NonNeg.mk _), ⟨trivial, trivial⟩⟩, ⟨⟨(by first | decide | exact Int.NonNeg.mk _), ⟨trivial, trivial⟩⟩, ⟨⟨(by first | decide | exact Int.NonNeg.mk _), ⟨trivial, ⟨trivial, trivial⟩⟩⟩, ⟨⟨(by first | decide | exact Int.NonNeg.mk _), ⟨h13, trivial⟩⟩, trivial⟩⟩⟩⟩⟩⟩⟩⟩⟩⟩⟩⟩⟩⟩⟩⟩⟩, ⟨(by first | decide | exact Int.NonNeg.mk _), ⟨⟨⟨trivial, trivial⟩, ⟨⟨trivial, trivial⟩, ⟨h14, ⟨h14, ⟨h14, ⟨h14, ⟨h14, ⟨h14, ⟨h14, ⟨h14, ⟨h14, ⟨h14, ⟨⟨h14, ⟨trivial, trivial⟩⟩, ⟨⟨trivial, trivial⟩, trivial⟩⟩⟩⟩⟩⟩⟩⟩⟩⟩⟩⟩⟩⟩, ⟨⟨⟨trivial, trivial⟩, ⟨⟨trivial, trivial⟩, ⟨⟨trivial, trivial⟩, trivial⟩⟩⟩, trivial⟩⟩⟩⟩⟩⟩⟩⟩⟩, ⟨trivial, ⟨trivial, ⟨trivial, ⟨trivial, ⟨trivial, ⟨trivial, ⟨trivial, trivial⟩⟩⟩⟩⟩⟩⟩⟩ hR
theorem tribr_1 (q : QT) (h1 : (0 ≤ iN q.v)) (h2 : ((gL q.g)[(iN q.v).toNat]? = some (AV.lst (List.map (AV.int IntKind.i64) q.r)))) (h3 : (decide (iN q.k < iN (List.map (AV.int IntKind.i64) q.r).length) = true)) (h4 : (0 ≤ iN q.k)) (h5 : ((List.map (AV.int IntKind.i64) q.r)[(iN q.k).toNat]? = some (AV.int IntKind.i64 (iN q.w)))) (h6 : ((boL q.s)[(iN q.v).toNat]? = some (AV.bool q.sb))) (h7 : (q.sb = false)) (h8 : (0 ≤ iN q.w)) (h9 : ((List.map (AV.int IntKind.i64) q.d)[(iN q.w).toNat]? = some (AV.int IntKind.i64 q.y))) (h10 : (decide (q.y < 0) = false)) (h11 : ((List.map (AV.int IntKind.i64) q.d)[(iN q.v).toNat]? = some (AV.int IntKind.i64 q.x))) (h12 : (decide (q.x < 0) = false)) (h13 : (decide (IntKind.i64.wrap (q.y + 1) < q.x) = false)) (h14 : (q.b = false)) {post : Exit → St → Prop} {R : St → Prop} (hR : ∀ st, Ren 0 st (St.mk 133 [(4, AV.lst (gL q.g)), (5, AV.lst (boL q.s)), (6, AV.int IntKind.i64 (iN q.goal)), (7, AV.lst (List.map (AV.int IntKind.i64) q.d)), (9, AV.int IntKind.i64 (iN q.v)), (10, AV.bool (q.x == IntKind.i64.wrap (q.y + 1))), (11, AV.int IntKind.i64 (IntKind.i64.wrap (iN q.k + 1)))] []) → R st) : ∃ o' st' q', go Try.prog ({ dec := [(80, true), (94, false), (100, false), (105, false), (106, false), (116, false), (117, false), (119, false)], els := e4 q, calls := cT q, unroll := false } : HT) 0 4000 (.inl (loopC (loopC (loopC (bodyOf Try.f4) 0) 0) 0)) [] (lb4 q) = some (o', st', q') ∧ q' ∧ Go.AX.Rest Try.prog 0 (andThen R post) st' o' :=
  endN_spec (σ := []) (fz := []) (vars := [4,5,6,7,9,10,11]) (show endN 0 [] [] [4,5,6,7,9,10,11] (go Try.prog ({ dec := [(80, true), (94, false), (100, false), (105, false), (106, false), (116, false), (117, false), (119, false)], els := e4 q, calls := cT q, unroll := false } : HT) 0 4000 (.inl (loopC (loopC (loopC (bodyOf Try.f4) 0) 0) 0)) [] (lb4 q)) = some (St.mk 133 [(4, AV.lst (gL q.g)), (5, AV.lst (boL q.s)), (6, AV.int IntKind.i64 (iN q.goal)), (7, AV.lst (List.map (AV.int IntKind.i64) q.d)), (9, AV.int IntKind.i64 (iN q.v)), (10, AV.bool (q.x == IntKind.i64.wrap (q.y + 1))), (11, AV.int IntKind.i64 (IntKind.i64.wrap (iN q.k + 1)))] [], ((((True ∧ True) ∧ ((True ∧ True) ∧ ((True ∧ True) ∧ ((True ∧ (True ∧ ((type_of% h1) ∧ (type_of% h2)))) ∧ ((True ∧ True) ∧ ((True ∧ True) ∧ ((True ∧ (True ∧ True)) ∧ True))))))) ∧ ((type_of% h3) ∧ (((True ∧ True) ∧ ((True ∧ True) ∧ ((True ∧ (True ∧ ((type_of% h1) ∧ (type_of% h2)))) ∧ ((True ∧ True) ∧ ((True ∧ True) ∧ ((True ∧ (True ∧ ((type_of% h4) ∧ (type_of% h5)))) ∧ ((True ∧ True) ∧ ((True ∧ True) ∧ True)))))))) ∧ (((True ∧ True) ∧ ((True ∧ True) ∧ ((True ∧ (True ∧ ((type_of% h1) ∧ (type_of% h6)))) ∧ ((True ∧ True) ∧ ((True ∧ True) ∧ (((type_of% h7) ∧ (True ∧ True)) ∧ (((type_of% h7) ∧ (True ∧ True)) ∧ (((type_of% h7) ∧ (True ∧ (True ∧ ((type_of% h8) ∧ (type_of% h9))))) ∧ (((type_of% h7) ∧ (True ∧ True)) ∧ (((type_of% h7) ∧ (True ∧ True)) ∧ (((type_of% h7) ∧ (True ∧ True)) ∧ True))))))))))) ∧ ((type_of% h10) ∧ (((True ∧ True) ∧ ((True ∧ True) ∧ ((True ∧ (True ∧ ((type_of% h1) ∧ (type_of% h11)))) ∧ ((True ∧ True) ∧ ((True ∧ True) ∧ (((type_of% h12) ∧ True) ∧ (((false = false) ∧ (True ∧ True)) ∧ (((false = false) ∧ (True ∧ True)) ∧ (((false = false) ∧ (True ∧ (True ∧ ((type_of% h1) ∧ (type_of% h11))))) ∧ (((false = false) ∧ (True ∧ True)) ∧ (((false = false) ∧ (True ∧ True)) ∧ (((false = false) ∧ (True ∧ True)) ∧ (((false = false) ∧ (True ∧ (True ∧ ((type_of% h8) ∧ (type_of% h9))))) ∧ (((false = false) ∧ (True ∧ True)) ∧ (((false = false) ∧ (True ∧ True)) ∧ (((false = false) ∧ (True ∧ (True ∧ True))) ∧ (((false = false) ∧ ((type_of% h13) ∧ True)) ∧ True))))))))))))))))) ∧ ((false = false) ∧ (((True ∧ True) ∧ ((True ∧ True) ∧ (((type_of% h14) ∧ (True ∧ True)) ∧ (((type_of% h14) ∧ (True ∧ True)) ∧ (((type_of% h14) ∧ (True ∧ (True ∧ ((type_of% h1) ∧ (type_of% h11))))) ∧ (((type_of% h14) ∧ (True ∧ True)) ∧ (((type_of% h14) ∧ (True ∧ True)) ∧ (((type_of% h14) ∧ (True ∧ True)) ∧ (((type_of% h14) ∧ (True ∧ (True ∧ ((type_of% h8) ∧ (type_of% h9))))) ∧ (((type_of% h14) ∧ (True ∧ True)) ∧ (((type_of% h14) ∧ (True ∧ True)) ∧ (((type_of% h14) ∧ (True ∧ (True ∧ True))) ∧ (((type_of% h14) ∧ (True ∧ True)) ∧ ((True ∧ True) ∧ True)))))))))))))) ∧ (((True ∧ True) ∧ ((True ∧ True) ∧ ((True ∧ True) ∧ True))) ∧ True))))))))) ∧ (True ∧ (True ∧ (True ∧ (True ∧ (True ∧ (True ∧ (True ∧ True))))))))) by kernel_rfl) ⟨⟨⟨⟨trivial, trivial⟩, ⟨⟨trivial, trivial⟩, ⟨⟨trivial, trivial⟩, ⟨⟨trivial, ⟨trivial, ⟨h1, h2⟩⟩⟩, ⟨⟨trivial, trivial⟩, ⟨⟨trivial, trivial⟩, ⟨⟨trivial, ⟨trivial, trivial⟩⟩, trivial⟩⟩⟩⟩⟩⟩⟩, ⟨h3, ⟨⟨⟨trivial, trivial⟩, ⟨⟨trivial, trivial⟩, ⟨⟨trivial, ⟨trivial, ⟨h1, h2⟩⟩⟩, ⟨⟨trivial, trivial⟩, ⟨⟨trivial, trivial⟩, ⟨⟨trivial, ⟨trivial, ⟨h4, h5⟩⟩⟩, ⟨⟨trivial, trivial⟩, ⟨⟨trivial, trivial⟩, trivial⟩⟩⟩⟩⟩⟩⟩⟩, ⟨⟨⟨trivial, trivial⟩, ⟨⟨trivial, trivial⟩, ⟨⟨trivial, ⟨trivial, ⟨h1, h6⟩⟩⟩, ⟨⟨trivial, trivial⟩, ⟨⟨trivial, trivial⟩, ⟨⟨h7, ⟨trivial, trivial⟩⟩, ⟨⟨h7, ⟨trivial, trivial⟩⟩, ⟨⟨h7, ⟨trivial, ⟨trivial, ⟨h8, h9⟩⟩⟩⟩, ⟨⟨h7, ⟨trivial, trivial⟩⟩, ⟨⟨h7, ⟨trivial, trivial⟩⟩, ⟨⟨h7, ⟨trivial, trivial⟩⟩, trivial⟩⟩⟩⟩⟩⟩⟩⟩⟩⟩⟩, ⟨h10, ⟨⟨⟨trivial, trivial⟩, ⟨⟨trivial, trivial⟩, ⟨⟨trivial, ⟨trivial, ⟨h1, h11⟩⟩⟩, ⟨⟨trivial, trivial⟩, ⟨⟨trivial, trivial⟩, ⟨⟨h12, trivial⟩, ⟨⟨(by first | decide | exact Int.NonNeg.mk _), ⟨trivial, trivial⟩⟩, ⟨⟨(by first | decide | exact Int.NonNeg.mk _), ⟨trivial, trivial⟩⟩, ⟨⟨(by first | decide | exact Int.NonNeg.mk _), ⟨trivial, ⟨trivial, ⟨h1, h11⟩⟩⟩⟩, ⟨⟨(by first | decide | exact Int.NonNeg.mk _), ⟨trivial, trivial⟩⟩, ⟨⟨(by first | decide | exact Int.NonNeg.mk _), ⟨trivial, trivial⟩⟩, ⟨⟨(by first | decide | exact Int.NonNeg.mk _), ⟨trivial, trivial⟩⟩, ⟨⟨(by first | decide | exact Int.NonNeg.mk _), ⟨trivial, ⟨trivial, ⟨h8, h9⟩⟩⟩⟩, ⟨⟨(by first | decide | exact Int.NonNeg.mk _), ⟨trivial, trivial⟩⟩, ⟨⟨(by first | decide | exact Int.NonNeg.mk _), ⟨trivial, trivial⟩⟩, ⟨⟨(by first | decide | exact Int.NonNeg.mk _), ⟨trivial, ⟨trivial, trivial⟩⟩⟩, ⟨⟨(by first | decide | exact Int.NonNeg.mk _), ⟨h13, trivial⟩⟩, trivial⟩⟩⟩⟩⟩⟩⟩⟩⟩⟩⟩⟩⟩⟩⟩⟩⟩, ⟨(by first | decide | exact Int.NonNeg.mk _), ⟨⟨⟨trivial, trivial⟩, ⟨⟨trivial, trivial⟩, ⟨⟨h14, ⟨trivial, trivial⟩⟩, ⟨⟨h14, ⟨trivial, trivial⟩⟩, ⟨⟨h14, ⟨trivial, ⟨trivial, ⟨h1, h11⟩⟩⟩⟩, ⟨⟨h14, ⟨trivial, trivial⟩⟩, ⟨⟨h14, ⟨trivial, trivial⟩⟩, ⟨⟨h14, ⟨trivial, trivial⟩⟩, ⟨⟨h14, ⟨trivial, ⟨trivial, ⟨h8, h9⟩⟩⟩⟩, ⟨⟨h14, ⟨trivial, trivial⟩⟩, ⟨⟨h14, ⟨trivial, trivial⟩⟩, ⟨⟨h14, ⟨trivial, ⟨trivial, trivial⟩⟩⟩, ⟨⟨h14, ⟨trivial, trivial⟩⟩, ⟨⟨trivial, trivial⟩, trivial⟩⟩⟩⟩⟩⟩⟩⟩⟩⟩⟩⟩⟩⟩, ⟨⟨⟨trivial, trivial⟩, ⟨⟨trivial, trivial⟩, ⟨⟨trivial, trivial⟩, trivial⟩⟩⟩, trivial⟩⟩⟩⟩⟩⟩⟩⟩⟩, ⟨trivial, ⟨trivial, ⟨trivial, ⟨trivial, ⟨trivial, ⟨trivial, ⟨trivial, trivial⟩⟩⟩⟩⟩⟩⟩⟩ hR
end Go.Proofs.Ytnpmcikbnnlmkaa

/-! RoutesTriangle's contract. -/
open Go Go.AX Go.Proofs
set_option maxRecDepth 100000
set_option maxHeartbeats 1000000
set_option linter.unusedVariables false
set_option linter.unusedSimpArgs false
namespace Go.Proofs.Ytnpmcikbnnlmkaa
theorem wrapY (y : Int) (h0 : 0 ≤ y) (h1 : y ≤ 1000) : IntKind.i64.wrap (y + 1) = y + 1 := wrapS _ (by omega) (by omega)

/-- Through one of the edges of 'v' the distance is one less. -/
def Good (s : List Bool) (d : List Int) (v : Nat) (w : Int) : Prop := s.getD v false = false ∧ 0 ≤ d.getD w.toNat 0 ∧ d.getD v 0 = d.getD w.toNat 0 + 1

noncomputable def qt (g : List (List Int)) (s : List Bool) (goal : Nat) (d : List Int) (v k : Nat) (b : Bool) : QT := ⟨[], g, s, goal, d, v, k, [], 0, b, false, 0, 0, 0, 0⟩

theorem trib_run {g : List (List Int)} {s : List Bool} (hg : OkG g s) {goal : Nat} {d : List Int} (hD : Dst g s goal d) (v : Nat) (hv : v < g.length) (b0 : Bool) (hb : b0 = true ∨ ∃ w ∈ g.getD v [], Good s d v w) {R : St → Prop} {post : Exit → St → Prop}
    (hR : ∀ st, Ren 0 st (la4 (qt g s goal d (v + 1) 0 false)) → R st) :
    T Try.prog 0 (.loop (loopC (loopC (loopC (bodyOf Try.f4) 0) 0) 0)) (lb4 (qt g s goal d v 0 b0)) (TK Try.prog 0 (andThen R post) (loopK (loopC (loopC (bodyOf Try.f4) 0) 0) 0)) := by
  have hgl := hg.len
  have hr1 := (hg.row v hv).1
  have hrow := gL_get hv
  have hget := fun i => row_get hg hv (i := i)
  have hfwd := hD.fwd v hv
  have hbv := hD.bnd v hv
  have hsv := boL_get (s := s) (v := v) (by rw [hg.sh]; exact hv)
  have hdv := lI_get (l := d) (j := v) (by rw [hD.len]; exact hv)
  generalize g.getD v [] = r at hb hr1 hrow hget hfwd
  have hrl := lI_len r
  refine T.loop (fun y : Nat × Bool => lb4 (qt g s goal d v y.1 y.2)) (fun y => y.1 ≤ r.length ∧ (y.2 = true ∨ ∃ w ∈ r.drop y.1, Good s d v w)) (fun y => r.length + 1 - y.1) (0, b0) ⟨Nat.zero_le _, by simpa using hb⟩ ?_
  rintro ⟨k, b⟩ ⟨hk, hb⟩
  simp only at hk hb
  by_cases h : k < r.length
  · obtain ⟨w, hw, hw1, hw2⟩ := hget k h
    have hdrop : r.drop k = (w : Int) :: r.drop (k + 1) := by
      rw [← hw, List.getD_eq_getElem?_getD, List.getElem?_eq_getElem h]
      exact List.drop_eq_getElem_cons h
    have hwm : (w : Int) ∈ r := by
      have := List.mem_cons_self (a := (w : Int)) (l := r.drop (k + 1))
      rw [← hdrop] at this
      exact List.mem_of_mem_drop this
    have hg1 := lI_get h
    rw [hw] at hg1
    have hdw := lI_get (l := d) (j := w) (by rw [hD.len]; exact hw1)
    have hbw := hD.bnd w hw1
    have dk : decide (iN k < iN (r.map (AV.int .i64)).length) = true := decide_eq_true (by simp only [iN, hrl]; omega)
    have wk : IntKind.i64.wrap (iN k + 1) = ((k + 1 : Nat) : Int) := wrap_nat k (by omega)
    have next : ∀ (b' : Bool) (st : St), (b' = true ∨ ∃ w ∈ r.drop (k + 1), Good s d v w) → Ren 0 st (lb4 (qt g s goal d v (k + 1) b')) → ∃ j : Nat × Bool, Ren 0 st (lb4 (qt g s goal d v j.1 j.2)) ∧ (j.1 ≤ r.length ∧ (j.2 = true ∨ ∃ w ∈ r.drop j.1, Good s d v w)) ∧ r.length + 1 - j.1 < r.length + 1 - k :=
      fun b' st h1 hst => ⟨(k + 1, b'), hst, ⟨h, h1⟩, by simp only; omega⟩
    have skip : ¬ Good s d v (w : Int) → b = true ∨ ∃ w ∈ r.drop (k + 1), Good s d v w := by
      intro hn
      rcases hb with hb | ⟨x, hx, hgd⟩
      · exact .inl hb
      · rw [hdrop] at hx
        rcases List.mem_cons.1 hx with rfl | hx
        · exact absurd hgd hn
        · exact .inr ⟨x, hx, hgd⟩
    by_cases hs : s.getD v false = true
    · refine T.path mix (tribc_0 ⟨[], g, s, goal, d, v, k, r, w, b, s.getD v false, 0, 0, 0, 0⟩ (by simp [iN]) hrow dk (by simp [iN]) hg1 hsv hs ?_)
      intro st hst
      simp only [wk] at hst
      exact next b st (skip fun hgd => by rw [hgd.1] at hs; cases hs) hst
    · have hs := Bool.eq_false_iff.2 hs
      by_cases hy : d.getD w 0 < 0
      · refine T.path mix (tribc_1 ⟨[], g, s, goal, d, v, k, r, w, b, s.getD v false, 0, d.getD w 0, 0, 0⟩ (by simp [iN]) hrow dk (by simp [iN]) hg1 hsv hs (by simp [iN]) hdw (decide_eq_true hy) ?_)
        intro st hst
        simp only [wk] at hst
        exact next b st (skip fun hgd => by have := hgd.2.1; rw [Int.toNat_natCast] at this; omega) hst
      · obtain ⟨f1, f2⟩ := hfwd hs (w : Int) hwm (by rw [Int.toNat_natCast]; omega)
        rw [Int.toNat_natCast] at f2
        have wy := wrapY (d.getD w 0) (by omega) (by omega)
        by_cases hbt : b = true
        · refine T.path mix (tribr_0 ⟨[], g, s, goal, d, v, k, r, w, b, s.getD v false, d.getD v 0, d.getD w 0, 0, 0⟩ (by simp [iN]) hrow dk (by simp [iN]) hg1 hsv hs (by simp [iN]) hdw (decide_eq_false hy) hdv (decide_eq_false (by simp only; omega)) (decide_eq_false (by simp only [wy]; omega)) hbt ?_)
          intro st hst
          simp only [wk] at hst
          exact next true st (.inl rfl) hst
        · have hbf := Bool.eq_false_iff.2 hbt
          refine T.path mix (tribr_1 ⟨[], g, s, goal, d, v, k, r, w, b, s.getD v false, d.getD v 0, d.getD w 0, 0, 0⟩ (by simp [iN]) hrow dk (by simp [iN]) hg1 hsv hs (by simp [iN]) hdw (decide_eq_false hy) hdv (decide_eq_false (by simp only; omega)) (decide_eq_false (by simp only [wy]; omega)) hbf ?_)
          intro st hst
          simp only [wk, wy] at hst
          by_cases he : (d.getD v 0 == d.getD w 0 + 1) = true
          · exact next _ st (.inl he) hst
          · refine next _ st ?_ hst
            rcases skip fun hgd => he (by have := hgd.2.2; rw [Int.toNat_natCast] at this; simpa using this) with h1 | h1
            · exact absurd h1 hbt
            · exact .inr h1
  · have e : r.drop k = [] := List.drop_of_length_le (by omega)
    have hbt : b = true := by
      rcases hb with hb | ⟨x, hx, _⟩
      · exact hb
      · rw [e] at hx; cases hx
    subst hbt
    refine T.out mix (tribx_0 ⟨[], g, s, goal, d, v, k, r, 0, true, false, 0, 0, 0, 0⟩ (by simp [iN]) hrow (decide_eq_false (by simp only [iN, hrl]; omega)) rfl ?_)
    intro st hst
    simp only [iN, wrap_nat v (show v < 9223372036854775807 by omega)] at hst
    exact hR st hst

theorem tria_run {g : List (List Int)} {s : List Bool} (hg : OkG g s) {goal : Nat} (hgo : goal < g.length) {d : List Int} (hD : Dst g s goal d) {R : St → Prop} {post : Exit → St → Prop}
    (hR : ∀ st, Ren 0 st (lo4 (qt g s (goal + 1) [] 0 0 false)) → R st) :
    T Try.prog 0 (.loop (loopC (loopC (bodyOf Try.f4) 0) 0)) (la4 (qt g s goal d 0 0 false)) (TK Try.prog 0 (andThen R post) (loopK (loopC (bodyOf Try.f4) 0) 0)) := by
  have hgl := hg.len
  have hl := gL_len g
  refine T.loop (fun v : Nat => la4 (qt g s goal d v 0 false)) (fun v => v ≤ g.length) (fun v => g.length + 1 - v) 0 (Nat.zero_le _) ?_
  intro v hv
  by_cases h : v < g.length
  · by_cases hvg : v = goal
    · refine T.path mix (triar_0 (qt g s goal d v 0 false) (decide_eq_true (by simp only [iN, qt, hl]; omega)) (by simp [iN, qt, hvg]) ?_)
      exact trib_run hg hD v h true (.inl rfl) fun st hst => ⟨v + 1, hst, h, by omega⟩
    · have hdv := lI_get (l := d) (j := v) (by rw [hD.len]; exact h)
      refine T.path mix (triar_1 ⟨[], g, s, goal, d, v, 0, [], 0, false, false, d.getD v 0, 0, 0, 0⟩ (decide_eq_true (by simp only [iN, hl]; omega)) (by simp [iN]; omega) (by simp [iN]) hdv ?_)
      refine trib_run hg hD v h (decide (d.getD v 0 < 0)) ?_ fun st hst => ⟨v + 1, hst, h, by omega⟩
      by_cases h0 : d.getD v 0 < 0
      · exact .inl (decide_eq_true h0)
      · rcases hD.back v h (by omega) with e | ⟨h1, w, hw, h2, h3⟩
        · exact absurd e hvg
        · exact .inr ⟨w, hw, h1, h2, h3⟩
  · refine T.out mix (triax_0 (qt g s goal d v 0 false) (decide_eq_false (by simp only [iN, qt, hl]; omega)) ?_)
    intro st hst
    simp only [iN, qt, wrap_nat goal (show goal < 9223372036854775807 by omega)] at hst
    exact hR st hst

theorem triangle_ct (L : List Int) : CT Try.prog 4 [] [lI L] [] (.bool true) := by
  obtain ⟨g, kk, n, hn, hgi, hkk, c1⟩ := graph_ex L 0 9 (by omega) (by omega)
  obtain ⟨s, kk2, hs, hkk2, c2⟩ := shut_ex L kk n (by omega) (by omega)
  obtain ⟨hg, ha⟩ := hgi.ok (by omega) (by omega) hs
  have hgn := hgi.len
  have hl := gL_len g
  refine CT.path mix Try.func4 (show Try.f4.body = some (bodyOf Try.f4) by kernel_rfl) (Nat.le_of_ble_eq_true rfl) (tri_0 ⟨L, g, s, 0, [], 0, 0, [], 0, false, false, 0, 0, kk, kk2⟩ known_ct c1 (by simp only [iN, hl, hgn]; exact c2) ?_)
  refine T.loop (fun goal : Nat => lo4 (qt g s goal [] 0 0 false)) (fun goal => goal ≤ g.length) (fun goal => g.length + 1 - goal) 0 (Nat.zero_le _) ?_
  intro goal hgo
  by_cases h : goal < g.length
  · have c3 := Distances_ct hg ha goal h
    have hD := dst_ok hg h
    generalize distL g s goal g.length = d at c3 hD
    have hsg := boL_get (s := s) (v := goal) (by rw [hg.sh]; exact h)
    have hdg := lI_get (l := d) (j := goal) (by rw [hD.len]; exact h)
    refine T.path mix (trir_0 ⟨L, g, s, goal, d, 0, 0, [], 0, false, s.getD goal false, d.getD goal 0, 0, 0, 0⟩ (decide_eq_true (by simp only [iN, hl]; omega)) c3 (by simp [iN, hl, hD.len]) (by simp [iN]) hsg hdg ?_ ?_)
    · by_cases hs : s.getD goal false = true
      · rw [hs, hD.shut hs goal h]; rfl
      · have hs := Bool.eq_false_iff.2 hs
        rw [hs, hD.zero hs]; rfl
    · exact tria_run hg h hD fun st hst => ⟨goal + 1, hst, h, by omega⟩
  · exact T.out mix (trix_0 (qt g s goal [] 0 0 false) (decide_eq_false (by simp only [iN, qt, hl]; omega)))

theorem intsV {n : Nat} {es : List AV} (h : ∀ x ∈ es, ShV Try.prog n 3 x) : ∃ L : List Int, es = L.map (AV.int .i64) := by
  induction es with
  | nil => exact ⟨[], rfl⟩
  | cons x es ih =>
    obtain ⟨L, rfl⟩ := ih fun y hy => h y (List.mem_cons_of_mem _ hy)
    obtain ⟨i, _, rfl⟩ := (h x (by simp)).intD Try.underlying3
    exact ⟨i :: L, rfl⟩
theorem routesTriangle_row (avs : List AV) (h : ShVs Try.prog 4 Try.f4.params.toList avs) : CT Try.prog 4 [] avs [] (.bool true) := by
  rw [Try.params4] at h
  obtain ⟨a, _, rfl, ka, h⟩ := h.consD
  obtain rfl := h.nilD
  obtain ⟨ls, _, hl, rfl⟩ := ka.sliceD Try.underlying25
  obtain ⟨L, rfl⟩ := intsV hl
  exact triangle_ct L
#print axioms routesTriangle_row
end Go.Proofs.Ytnpmcikbnnlmkaa


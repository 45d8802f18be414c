import Derived.Test.YtnpmcikbnnlmkaaRt5p
import Derived.KernelRfl
/-! RoutesTriangle's contract. -/
open Go Go.AX Go.Proofs
set_option maxRecDepth 100000
set_option maxHeartbeats 1000000
set_option linter.unusedVariables false
set_option linter.unusedSimpArgs false
namespace Go.Proofs.Ytnpmcikbnnlmkaa
theorem wrapY (y : Int) (h0 : 0 ≤ y) (h1 : y ≤ 1000) : IntKind.i64.wrap (y + 1) = y + 1 := wrapS _ (by omega) (by omega)

/-- Through one of the edges of 'v' the distance is one less. -/
def Good (s : List Bool) (d : List Int) (v : Nat) (w : Int) : Prop := s.getD v false = false ∧ 0 ≤ d.getD w.toNat 0 ∧ d.getD v 0 = d.getD w.toNat 0 + 1

noncomputable def qt (g : List (List Int)) (s : List Bool) (goal : Nat) (d : List Int) (v k : Nat) (b : Bool) : QT := ⟨[], g, s, goal, d, v, k, [], 0, b, false, 0, 0, 0, 0⟩

theorem trib_run {g : List (List Int)} {s : List Bool} (hg : OkG g s) {goal : Nat} {d : List Int} (hD : Dst g s goal d) (v : Nat) (hv : v < g.length) (b0 : Bool) (hb : b0 = true ∨ ∃ w ∈ g.getD v [], Good s d v w) {R : St → Prop} {post : Exit → St → Prop}
    (hR : ∀ st, Ren 0 st (la4 (qt g s goal d (v + 1) 0 false)) → R st) :
    T Try.prog 0 (.loop (loopC (loopC (loopC (bodyOf Try.f4) 0) 0) 0)) (lb4 (qt g s goal d v 0 b0)) (TK Try.prog 0 (andThen R post) (loopK (loopC (loopC (bodyOf Try.f4) 0) 0) 0)) := by
  have hgl := hg.len
  have hr1 := (hg.row v hv).1
  have hrow := gL_get hv
  have hget := fun i => row_get hg hv (i := i)
  have hfwd := hD.fwd v hv
  have hbv := hD.bnd v hv
  have hsv := boL_get (s := s) (v := v) (by rw [hg.sh]; exact hv)
  have hdv := lI_get (l := d) (j := v) (by rw [hD.len]; exact hv)
  generalize g.getD v [] = r at hb hr1 hrow hget hfwd
  have hrl := lI_len r
  refine T.loop (fun y : Nat × Bool => lb4 (qt g s goal d v y.1 y.2)) (fun y => y.1 ≤ r.length ∧ (y.2 = true ∨ ∃ w ∈ r.drop y.1, Good s d v w)) (fun y => r.length + 1 - y.1) (0, b0) ⟨Nat.zero_le _, by simpa using hb⟩ ?_
  rintro ⟨k, b⟩ ⟨hk, hb⟩
  simp only at hk hb
  by_cases h : k < r.length
  · obtain ⟨w, hw, hw1, hw2⟩ := hget k h
    have hdrop : r.drop k = (w : Int) :: r.drop (k + 1) := by
      rw [← hw, List.getD_eq_getElem?_getD, List.getElem?_eq_getElem h]
      exact List.drop_eq_getElem_cons h
    have hwm : (w : Int) ∈ r := by
      have := List.mem_cons_self (a := (w : Int)) (l := r.drop (k + 1))
      rw [← hdrop] at this
      exact List.mem_of_mem_drop this
    have hg1 := lI_get h
    rw [hw] at hg1
    have hdw := lI_get (l := d) (j := w) (by rw [hD.len]; exact hw1)
    have hbw := hD.bnd w hw1
    have dk : decide (iN k < iN (r.map (AV.int .i64)).length) = true := decide_eq_true (by simp only [iN, hrl]; omega)
    have wk : IntKind.i64.wrap (iN k + 1) = ((k + 1 : Nat) : Int) := wrap_nat k (by omega)
    have next : ∀ (b' : Bool) (st : St), (b' = true ∨ ∃ w ∈ r.drop (k + 1), Good s d v w) → Ren 0 st (lb4 (qt g s goal d v (k + 1) b')) → ∃ j : Nat × Bool, Ren 0 st (lb4 (qt g s goal d v j.1 j.2)) ∧ (j.1 ≤ r.length ∧ (j.2 = true ∨ ∃ w ∈ r.drop j.1, Good s d v w)) ∧ r.length + 1 - j.1 < r.length + 1 - k :=
      fun b' st h1 hst => ⟨(k + 1, b'), hst, ⟨h, h1⟩, by simp only; omega⟩
    have skip : ¬ Good s d v (w : Int) → b = true ∨ ∃ w ∈ r.drop (k + 1), Good s d v w := by
      intro hn
      rcases hb with hb | ⟨x, hx, hgd⟩
      · exact .inl hb
      · rw [hdrop] at hx
        rcases List.mem_cons.1 hx with rfl | hx
        · exact absurd hgd hn
        · exact .inr ⟨x, hx, hgd⟩
    by_cases hs : s.getD v false = true
    · refine T.path mix (tribc_0 ⟨[], g, s, goal, d, v, k, r, w, b, s.getD v false, 0, 0, 0, 0⟩ (by simp [iN]) hrow dk (by simp [iN]) hg1 hsv hs ?_)
      intro st hst
      simp only [wk] at hst
      exact next b st (skip fun hgd => by rw [hgd.1] at hs; cases hs) hst
    · have hs := Bool.eq_false_iff.2 hs
      by_cases hy : d.getD w 0 < 0
      · refine T.path mix (tribc_1 ⟨[], g, s, goal, d, v, k, r, w, b, s.getD v false, 0, d.getD w 0, 0, 0⟩ (by simp [iN]) hrow dk (by simp [iN]) hg1 hsv hs (by simp [iN]) hdw (decide_eq_true hy) ?_)
        intro st hst
        simp only [wk] at hst
        exact next b st (skip fun hgd => by have := hgd.2.1; rw [Int.toNat_natCast] at this; omega) hst
      · obtain ⟨f1, f2⟩ := hfwd hs (w : Int) hwm (by rw [Int.toNat_natCast]; omega)
        rw [Int.toNat_natCast] at f2
        have wy := wrapY (d.getD w 0) (by omega) (by omega)
        by_cases hbt : b = true
        · refine T.path mix (tribr_0 ⟨[], g, s, goal, d, v, k, r, w, b, s.getD v false, d.getD v 0, d.getD w 0, 0, 0⟩ (by simp [iN]) hrow dk (by simp [iN]) hg1 hsv hs (by simp [iN]) hdw (decide_eq_false hy) hdv (decide_eq_false (by simp only; omega)) (decide_eq_false (by simp only [wy]; omega)) hbt ?_)
          intro st hst
          simp only [wk] at hst
          exact next true st (.inl rfl) hst
        · have hbf := Bool.eq_false_iff.2 hbt
          refine T.path mix (tribr_1 ⟨[], g, s, goal, d, v, k, r, w, b, s.getD v false, d.getD v 0, d.getD w 0, 0, 0⟩ (by simp [iN]) hrow dk (by simp [iN]) hg1 hsv hs (by simp [iN]) hdw (decide_eq_false hy) hdv (decide_eq_false (by simp only; omega)) (decide_eq_false (by simp only [wy]; omega)) hbf ?_)
          intro st hst
          simp only [wk, wy] at hst
          by_cases he : (d.getD v 0 == d.getD w 0 + 1) = true
          · exact next _ st (.inl he) hst
          · refine next _ st ?_ hst
            rcases skip fun hgd => he (by have := hgd.2.2; rw [Int.toNat_natCast] at this; simpa using this) with h1 | h1
            · exact absurd h1 hbt
            · exact .inr h1
  · have e : r.drop k = [] := List.drop_of_length_le (by omega)
    have hbt : b = true := by
      rcases hb with hb | ⟨x, hx, _⟩
      · exact hb
      · rw [e] at hx; cases hx
    subst hbt
    refine T.out mix (tribx_0 ⟨[], g, s, goal, d, v, k, r, 0, true, false, 0, 0, 0, 0⟩ (by simp [iN]) hrow (decide_eq_false (by simp only [iN, hrl]; omega)) rfl ?_)
    intro st hst
    simp only [iN, wrap_nat v (show v < 9223372036854775807 by omega)] at hst
    exact hR st hst

theorem tria_run {g : List (List Int)} {s : List Bool} (hg : OkG g s) {goal : Nat} (hgo : goal < g.length) {d : List Int} (hD : Dst g s goal d) {R : St → Prop} {post : Exit → St → Prop}
    (hR : ∀ st, Ren 0 st (lo4 (qt g s (goal + 1) [] 0 0 false)) → R st) :
    T Try.prog 0 (.loop (loopC (loopC (bodyOf Try.f4) 0) 0)) (la4 (qt g s goal d 0 0 false)) (TK Try.prog 0 (andThen R post) (loopK (loopC (bodyOf Try.f4) 0) 0)) := by
  have hgl := hg.len
  have hl := gL_len g
  refine T.loop (fun v : Nat => la4 (qt g s goal d v 0 false)) (fun v => v ≤ g.length) (fun v => g.length + 1 - v) 0 (Nat.zero_le _) ?_
  intro v hv
  by_cases h : v < g.length
  · by_cases hvg : v = goal
    · refine T.path mix (triar_0 (qt g s goal d v 0 false) (decide_eq_true (by simp only [iN, qt, hl]; omega)) (by simp [iN, qt, hvg]) ?_)
      exact trib_run hg hD v h true (.inl rfl) fun st hst => ⟨v + 1, hst, h, by omega⟩
    · have hdv := lI_get (l := d) (j := v) (by rw [hD.len]; exact h)
      refine T.path mix (triar_1 ⟨[], g, s, goal, d, v, 0, [], 0, false, false, d.getD v 0, 0, 0, 0⟩ (decide_eq_true (by simp only [iN, hl]; omega)) (by simp [iN]; omega) (by simp [iN]) hdv ?_)
      refine trib_run hg hD v h (decide (d.getD v 0 < 0)) ?_ fun st hst => ⟨v + 1, hst, h, by omega⟩
      by_cases h0 : d.getD v 0 < 0
      · exact .inl (decide_eq_true h0)
      · rcases hD.back v h (by omega) with e | ⟨h1, w, hw, h2, h3⟩
        · exact absurd e hvg
        · exact .inr ⟨w, hw, h1, h2, h3⟩
  · refine T.out mix (triax_0 (qt g s goal d v 0 false) (decide_eq_false (by simp only [iN, qt, hl]; omega)) ?_)
    intro st hst
    simp only [iN, qt, wrap_nat goal (show goal < 9223372036854775807 by omega)] at hst
    exact hR st hst

theorem triangle_ct (L : List Int) : CT Try.prog 4 [] [lI L] [] (.bool true) := by
  obtain ⟨g, kk, n, hn, hgi, hkk, c1⟩ := graph_ex L 0 9 (by omega) (by omega)
  obtain ⟨s, kk2, hs, hkk2, c2⟩ := shut_ex L kk n (by omega) (by omega)
  obtain ⟨hg, ha⟩ := hgi.ok (by omega) (by omega) hs
  have hgn := hgi.len
  have hl := gL_len g
  refine CT.path mix Try.func4 (show Try.f4.body = some (bodyOf Try.f4) by kernel_rfl) (Nat.le_of_ble_eq_true rfl) (tri_0 ⟨L, g, s, 0, [], 0, 0, [], 0, false, false, 0, 0, kk, kk2⟩ known_ct c1 (by simp only [iN, hl, hgn]; exact c2) ?_)
  refine T.loop (fun goal : Nat => lo4 (qt g s goal [] 0 0 false)) (fun goal => goal ≤ g.length) (fun goal => g.length + 1 - goal) 0 (Nat.zero_le _) ?_
  intro goal hgo
  by_cases h : goal < g.length
  · have c3 := Distances_ct hg ha goal h
    have hD := dst_ok hg h
    generalize distL g s goal g.length = d at c3 hD
    have hsg := boL_get (s := s) (v := goal) (by rw [hg.sh]; exact h)
    have hdg := lI_get (l := d) (j := goal) (by rw [hD.len]; exact h)
    refine T.path mix (trir_0 ⟨L, g, s, goal, d, 0, 0, [], 0, false, s.getD goal false, d.getD goal 0, 0, 0, 0⟩ (decide_eq_true (by simp only [iN, hl]; omega)) c3 (by simp [iN, hl, hD.len]) (by simp [iN]) hsg hdg ?_ ?_)
    · by_cases hs : s.getD goal false = true
      · rw [hs, hD.shut hs goal h]; rfl
      · have hs := Bool.eq_false_iff.2 hs
        rw [hs, hD.zero hs]; rfl
    · exact tria_run hg h hD fun st hst => ⟨goal + 1, hst, h, by omega⟩
  · exact T.out mix (trix_0 (qt g s goal [] 0 0 false) (decide_eq_false (by simp only [iN, qt, hl]; omega)))

theorem intsV {n : Nat} {es : List AV} (h : ∀ x ∈ es, ShV Try.prog n 3 x) : ∃ L : List Int, es = L.map (AV.int .i64) := by
  induction es with
  | nil => exact ⟨[], rfl⟩
  | cons x es ih =>
    obtain ⟨L, rfl⟩ := ih fun y hy => h y (List.mem_cons_of_mem _ hy)
    obtain ⟨i, _, rfl⟩ := (h x (by simp)).intD Try.underlying3
    exact ⟨i :: L, rfl⟩
theorem routesTriangle_row (avs : List AV) (h : ShVs Try.prog 4 Try.f4.params.toList avs) : CT Try.prog 4 [] avs [] (.bool true) := by
  rw [Try.params4] at h
  obtain ⟨a, _, rfl, ka, h⟩ := h.consD
  obtain rfl := h.nilD
  obtain ⟨ls, _, hl, rfl⟩ := ka.sliceD Try.underlying25
  obtain ⟨L, rfl⟩ := intsV hl
  exact triangle_ct L
#print axioms routesTriangle_row
end Go.Proofs.Ytnpmcikbnnlmkaa

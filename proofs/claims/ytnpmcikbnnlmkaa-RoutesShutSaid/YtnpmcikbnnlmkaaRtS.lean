import Derived.Test.YtnpmcikbnnlmkaaRt6p
import Derived.KernelRfl
/-! RoutesShut's contract. -/
open Go Go.AX Go.Proofs
set_option maxRecDepth 100000
set_option maxHeartbeats 1000000
set_option linter.unusedVariables false
set_option linter.unusedSimpArgs false
namespace Go.Proofs.Ytnpmcikbnnlmkaa
/-- Shutting more makes no distance smaller. -/
theorem shut_mono {g : List (List Int)} {s m : List Bool} (hg : OkG g s) {goal : Nat} (hgo : goal < g.length) {d e : List Int} (hd : Dst g s goal d) (he : Dst g m goal e) (hm : ∀ v, m.getD v false = false → s.getD v false = false) :
    ∀ (k : Nat) (v : Nat), v < g.length → e.getD v 0 = (k : Int) → 0 ≤ d.getD v 0 ∧ d.getD v 0 ≤ e.getD v 0 := by
  have goalCase : ∀ k : Nat, e.getD goal 0 = (k : Int) → d.getD goal 0 = 0 := by
    intro k hk
    have hmg : m.getD goal false = false := by
      cases h : m.getD goal false with
      | false => rfl
      | true => have := he.shut h goal hgo; omega
    exact hd.zero (hm goal hmg)
  intro k
  induction k with
  | zero =>
    intro v hv hk
    rcases he.back v hv (by omega) with rfl | ⟨h1, w, hw, h2, h3⟩
    · rw [goalCase 0 hk]; omega
    · omega
  | succ k ih =>
    intro v hv hk
    rcases he.back v hv (by omega) with rfl | ⟨h1, w, hw, h2, h3⟩
    · rw [goalCase _ hk]; omega
    · have hw1 := (hg.row v hv).2 w hw
      obtain ⟨i1, i2⟩ := ih w.toNat (by omega) (by omega)
      obtain ⟨f1, f2⟩ := hd.fwd v hv (hm v h1) w hw i1
      exact ⟨f1, by omega⟩

theorem getD_setB (s : List Bool) (a v : Nat) (h : (s.set a true).getD v false = false) : s.getD v false = false := by
  rw [List.getD_eq_getElem?_getD, List.getElem?_set] at h
  rw [List.getD_eq_getElem?_getD]
  split at h
  · split at h
    · simp at h
    · rename_i e hlt
      rw [List.getElem?_eq_none (by omega)]; rfl
  · exact h

theorem shut_ct (L : List Int) : CT Try.prog 5 [] [lI L] [] (.bool true) := by
  have hb : Try.f5.body = some (bodyOf Try.f5) := by kernel_rfl
  obtain ⟨g, kk, n, hn, hgi, hkk, c1⟩ := graph_ex L 0 9 (by omega) (by omega)
  obtain ⟨s, kk2, hs, hkk2, c2⟩ := shut_ex L kk n (by omega) (by omega)
  obtain ⟨hg, ha⟩ := hgi.ok (by omega) (by omega) hs
  have hgn := hgi.len
  have hl := gL_len g
  have hbl := boL_len s
  by_cases h0 : g.length = 0
  · exact CT.path mix Try.func5 hb (Nat.le_of_ble_eq_true rfl) (sz_0 ⟨L, g, s, 0, [], 0, 0, [], 0, false, false, 0, 0, kk, kk2⟩ known_ct c1 (by simp [iN, hl, h0]))
  have r1 := nextZ_rng L kk2 n (by omega) (by omega)
  have n1 := next_ct L kk2 n (by omega)
  obtain ⟨a, hza⟩ : ∃ a : Nat, nextZ L kk2 n = (a : Int) := ⟨(nextZ L kk2 n).toNat, by omega⟩
  rw [hza] at r1 n1
  have r2 := nextZ_rng L (kk2 + 1) n (by omega) (by omega)
  have n2 := next_ct L (kk2 + 1) n (by omega)
  obtain ⟨goal, hzg⟩ : ∃ b : Nat, nextZ L (kk2 + 1) n = (b : Int) := ⟨(nextZ L (kk2 + 1) n).toNat, by omega⟩
  rw [hzg] at r2 n2
  have hgo : goal < g.length := by omega
  have hgm : OkG g (s.set a true) := ⟨hg.len, hg.row, by rw [List.length_set]; exact hg.sh⟩
  have d1 := Distances_ct hg ha goal hgo
  have d2 := Distances_ct hgm ha goal hgo
  have D1 := dst_ok hg hgo
  have D2 := dst_ok hgm hgo
  generalize distL g s goal g.length = d at d1 D1
  generalize distL g (s.set a true) goal g.length = e at d2 D2
  have mono := shut_mono hg hgo D1 D2 fun v => getD_setB s a v
  have hA : ∀ st5 : St, st5 = lo5 ⟨L, g, s, goal, d, a, 0, e, 0, false, false, 0, 0, kk, kk2⟩ → T Try.prog 0 (.loop (loopC (bodyOf Try.f5) 0)) st5 (TK Try.prog 0 (Fin Try.prog Try.f5 0 [] (.bool true)) (loopK (bodyOf Try.f5) 0)) := by
    rintro _ rfl
    refine T.loop (fun v : Nat => lo5 ⟨L, g, s, goal, d, a, v, e, 0, false, false, 0, 0, kk, kk2⟩) (fun v => v ≤ g.length) (fun v => g.length + 1 - v) 0 (Nat.zero_le _) ?_
    intro v hv
    by_cases h : v < g.length
    · have x1 := lI_get (l := d) (j := v) (by rw [D1.len]; exact h)
      have y1 := lI_get (l := e) (j := v) (by rw [D2.len]; exact h)
      have dk : decide (iN v < iN (gL g).length) = true := decide_eq_true (by simp only [iN, hl]; omega)
      have wv : IntKind.i64.wrap (iN v + 1) = ((v + 1 : Nat) : Int) := wrap_nat v (by omega)
      by_cases hy : 0 ≤ e.getD v 0
      · obtain ⟨m1, m2⟩ := mono (e.getD v 0).toNat v h (by omega)
        refine T.path mix (sr_0 ⟨L, g, s, goal, d, a, v, e, 0, false, false, d.getD v 0, e.getD v 0, kk, kk2⟩ dk (by simp [iN]) y1 (decide_eq_true hy) x1 (decide_eq_false (by simp only; omega)) (decide_eq_false (by simp only; omega)) ?_)
        intro st hst
        simp only [wv] at hst
        exact ⟨v + 1, hst, h, by omega⟩
      · refine T.path mix (sr_1 ⟨L, g, s, goal, d, a, v, e, 0, false, false, d.getD v 0, e.getD v 0, kk, kk2⟩ dk (by simp [iN]) y1 (decide_eq_false hy) ?_)
        intro st hst
        simp only [wv] at hst
        exact ⟨v + 1, hst, h, by omega⟩
    · exact T.out mix (sx_0 ⟨L, g, s, goal, d, a, v, e, 0, false, false, 0, 0, kk, kk2⟩ (decide_eq_false (by simp only [iN, hl]; omega)))
  refine CT.of Try.func5 hb (Nat.le_of_ble_eq_true rfl) (T.cut (by kernel_rfl) (T.path mix (s0_0 ⟨L, g, s, goal, d, a, 0, e, 0, false, false, 0, 0, kk, kk2⟩ fun st hst => T.ren hst ?_)))
  refine T.cut (by kernel_rfl) (T.path mix (s1_0 ⟨L, g, s, goal, d, a, 0, e, 0, false, false, 0, 0, kk, kk2⟩ known_ct fun st hst => T.ren hst ?_))
  rw [sR_succ 1 (bodyOf Try.f5) (by kernel_rfl)]
  refine T.cut (by kernel_rfl) (T.path mix (s2_0 ⟨L, g, s, goal, d, a, 0, e, 0, false, false, 0, 0, kk, kk2⟩ fun st hst => T.ren hst ?_))
  rw [sR_succ 2 (bodyOf Try.f5) (by kernel_rfl)]
  refine T.cut (by kernel_rfl) (T.path mix (s3_0 ⟨L, g, s, goal, d, a, 0, e, 0, false, false, 0, 0, kk, kk2⟩ c1 fun st hst => T.ren hst ?_))
  rw [sR_succ 3 (bodyOf Try.f5) (by kernel_rfl)]
  refine T.cut (by kernel_rfl) (T.path mix (s4_0 ⟨L, g, s, goal, d, a, 0, e, 0, false, false, 0, 0, kk, kk2⟩ (by simp only [iN, hl]; simpa using h0) fun st hst => T.ren hst ?_))
  rw [sR_succ 4 (bodyOf Try.f5) (by kernel_rfl)]
  refine T.cut (by kernel_rfl) (T.path mix (s5_0 ⟨L, g, s, goal, d, a, 0, e, 0, false, false, 0, 0, kk, kk2⟩ (by simp only [iN, hl, hgn]; exact c2) fun st hst => T.ren hst ?_))
  rw [sR_succ 5 (bodyOf Try.f5) (by kernel_rfl)]
  refine T.cut (by kernel_rfl) (T.path mix (s6_0 ⟨L, g, s, goal, d, a, 0, e, 0, false, false, 0, 0, kk, kk2⟩ (fun x hx => ?_) (by simp only [hbl]; omega) (by simp only [hbl]; omega) fun st hst => T.ren hst ?_))
  · obtain ⟨b, _, rfl⟩ := List.mem_map.1 hx
    rfl
  rw [sR_succ 6 (bodyOf Try.f5) (by kernel_rfl)]
  refine T.cut (by kernel_rfl) (T.path mix (s7_0 ⟨L, g, s, goal, d, a, 0, e, 0, false, false, 0, 0, kk, kk2⟩ (by simp only [iN, hl, hgn]; exact n1) (by simp [iN]) (by simp only [iN, hbl]; omega) (by simp [iN, hbl]; omega) (by simp) fun st hst => T.ren hst ?_))
  rw [sR_succ 7 (bodyOf Try.f5) (by kernel_rfl)]
  have hset : (boL s).set (0 + a) (.bool true) = boL (s.set a true) := boL_set s a true
  simp only [iN, Int.toNat_natCast, hset]
  refine T.path mix (s8_0 ⟨L, g, s, goal, d, a, 0, e, 0, false, false, 0, 0, kk, kk2⟩ (by simp only [iN, hl, hgn]; exact n2) d1 d2 (by simp [iN, hl, D1.len]) (by simp [iN, hl, D2.len]) ?_)
  rw [show loopC (sR 8 (bodyOf Try.f5)) 0 = loopC (bodyOf Try.f5) 0 by kernel_rfl, show loopK (sR 8 (bodyOf Try.f5)) 0 = loopK (bodyOf Try.f5) 0 by kernel_rfl]
  exact hA _ rfl

theorem intsU {n : Nat} {es : List AV} (h : ∀ x ∈ es, ShV Try.prog n 3 x) : ∃ L : List Int, es = L.map (AV.int .i64) := by
  induction es with
  | nil => exact ⟨[], rfl⟩
  | cons x es ih =>
    obtain ⟨L, rfl⟩ := ih fun y hy => h y (List.mem_cons_of_mem _ hy)
    obtain ⟨i, _, rfl⟩ := (h x (by simp)).intD Try.underlying3
    exact ⟨i :: L, rfl⟩
theorem routesShut_row (avs : List AV) (h : ShVs Try.prog 4 Try.f5.params.toList avs) : CT Try.prog 5 [] avs [] (.bool true) := by
  rw [Try.params5] at h
  obtain ⟨a, _, rfl, ka, h⟩ := h.consD
  obtain rfl := h.nilD
  obtain ⟨ls, _, hl, rfl⟩ := ka.sliceD Try.underlying25
  obtain ⟨L, rfl⟩ := intsU hl
  exact shut_ct L
#print axioms routesShut_row
end Go.Proofs.Ytnpmcikbnnlmkaa

import Derived.Test.YtnpmcikbnnlmkaaRtL
import Derived.KernelRfl
/-! The made graphs. -/
open Go Go.AX Go.Proofs
set_option maxRecDepth 100000
set_option maxHeartbeats 1000000
set_option linter.unusedVariables false
set_option linter.unusedSimpArgs false
namespace Go.Proofs.Ytnpmcikbnnlmkaa
theorem wrapS (z : Int) (h0 : -1000000 ≤ z) (h1 : z ≤ 1000000) : IntKind.i64.wrap z = z := by
  have e1 : (2 : Int) ^ IntKind.i64.bits = 18446744073709551616 := by decide
  have e2 : (2 : Int) ^ (IntKind.i64.bits - 1) = 9223372036854775808 := by decide
  have e3 : IntKind.i64.signed = true := by decide
  simp only [IntKind.wrap, e1, e2, e3, Bool.true_and, decide_eq_true_eq]
  split <;> omega
theorem nextZ_rng (L : List Int) (k : Nat) (n : Int) (h1 : 1 ≤ n) (h2 : n ≤ 100000) : 0 ≤ nextZ L k n ∧ nextZ L k n < n := by
  unfold nextZ cutZ
  split
  · omega
  · have ha := Int.tmod_lt_of_pos (rawZ L k) (show 0 < n by omega)
    have hb := Int.lt_tmod_of_pos (rawZ L k) (show 0 < n by omega)
    split
    · rw [wrapS _ (by omega) (by omega)]; omega
    · omega

theorem mem_insB {x y : Int} : ∀ {l : List Int}, y ∈ insB x l ↔ y = x ∨ y ∈ l := by
  intro l
  induction l with
  | nil => simp [insB]
  | cons a r ih =>
    rw [insB]
    split
    · simp
    · simp only [List.mem_cons, ih]
      constructor
      · rintro (h | h | h)
        · exact .inr (.inl h)
        · exact .inl h
        · exact .inr (.inr h)
      · rintro (h | h | h)
        · exact .inr (.inl h)
        · exact .inl h
        · exact .inr (.inr h)
theorem insB_asc {x : Int} : ∀ {l : List Int}, l.Pairwise (· < ·) → x ∉ l → (insB x l).Pairwise (· < ·) := by
  intro l
  induction l with
  | nil => intro _ _; simp [insB]
  | cons a r ih =>
    intro h hx
    rw [List.pairwise_cons] at h
    rw [insB]
    have hxa : x ≠ a := fun e => hx (by simp [e])
    split
    · rename_i hlt
      refine List.pairwise_cons.2 ⟨fun y hy => ?_, List.pairwise_cons.2 h⟩
      rcases List.mem_cons.1 hy with rfl | hy
      · exact hlt
      · exact Int.lt_trans hlt (h.1 y hy)
    · rename_i hge
      refine List.pairwise_cons.2 ⟨fun y hy => ?_, ih h.2 fun hm => hx (List.mem_cons_of_mem _ hm)⟩
      rcases mem_insB.1 hy with rfl | hy
      · omega
      · exact h.1 y hy
theorem insB_len (x : Int) : ∀ (l : List Int), (insB x l).length = l.length + 1 := by
  intro l
  induction l with
  | nil => rfl
  | cons a r ih => rw [insB]; split <;> simp [ih]

/-- What the graphs are that are made. -/
structure GI (n m : Nat) (g : List (List Int)) : Prop where
  len : g.length = n
  row : ∀ v, v < n → (g.getD v []).length ≤ m ∧ (g.getD v []).Pairwise (· < ·) ∧ ∀ w ∈ g.getD v [], 0 ≤ w ∧ w < (n : Int) ∧ w ≠ (v : Int)

noncomputable def stp (L : List Int) (n : Nat) (y : List (List Int) × Nat) : List (List Int) × Nat :=
  if (nextZ L y.2 n).toNat = (nextZ L (y.2 + 1) n).toNat then (y.1, y.2 + 2)
  else if hasZ (y.1.getD (nextZ L y.2 n).toNat []) (nextZ L (y.2 + 1) n) = true then (y.1, y.2 + 2)
  else (y.1.set (nextZ L y.2 n).toNat (insB (nextZ L (y.2 + 1) n) (y.1.getD (nextZ L y.2 n).toNat [])), y.2 + 2)
noncomputable def grS (L : List Int) (n : Nat) (y : List (List Int) × Nat) : Nat → List (List Int) × Nat
  | 0 => y
  | j + 1 => stp L n (grS L n y j)

theorem stp_kk (L : List Int) (n : Nat) (y : List (List Int) × Nat) : (stp L n y).2 = y.2 + 2 := by
  unfold stp; split
  · rfl
  · split <;> rfl
theorem grS_kk (L : List Int) (n : Nat) (y : List (List Int) × Nat) (j : Nat) : (grS L n y j).2 = y.2 + 2 * j := by
  induction j with
  | zero => rfl
  | succ j ih => rw [grS, stp_kk, ih]; omega

theorem stp_inv {L : List Int} {n m : Nat} (hn : 1 ≤ n) (hn2 : n ≤ 1000) {y : List (List Int) × Nat} (h : GI n m y.1) : GI n (m + 1) (stp L n y).1 := by
  have keep : GI n (m + 1) y.1 := ⟨h.len, fun v hv => ⟨Nat.le_succ_of_le (h.row v hv).1, (h.row v hv).2⟩⟩
  have r1 := nextZ_rng L y.2 n (by omega) (by omega)
  have r2 := nextZ_rng L (y.2 + 1) n (by omega) (by omega)
  unfold stp
  generalize nextZ L y.2 n = a at r1
  generalize nextZ L (y.2 + 1) n = w at r2
  split
  · exact keep
  · rename_i hne
    split
    · exact keep
    · rename_i hh
      have hh := Bool.eq_false_iff.2 hh
      have hav : a.toNat < n := by omega
      refine ⟨by simp [h.len], fun v hv => ?_⟩
      have e : (y.1.set a.toNat (insB w (y.1.getD a.toNat []))).getD v [] = if a.toNat = v then insB w (y.1.getD a.toNat []) else y.1.getD v [] := by
        rw [List.getD_eq_getElem?_getD, List.getElem?_set]
        split
        · rename_i e; subst e; rw [if_pos (by rw [h.len]; exact hav)]; rfl
        · rw [List.getD_eq_getElem?_getD]
      rw [e]
      split
      · rename_i e2
        obtain ⟨g1, g2, g3⟩ := h.row a.toNat hav
        refine ⟨by rw [insB_len]; omega, insB_asc g2 (hasZ_false hh), fun x hx => ?_⟩
        rcases mem_insB.1 hx with rfl | hx
        · exact ⟨r2.1, r2.2, by omega⟩
        · have := g3 x hx; exact ⟨this.1, this.2.1, by omega⟩
      · exact (keep.row v hv)

theorem grS_inv {L : List Int} {n : Nat} (hn : 1 ≤ n) (hn2 : n ≤ 1000) (kk : Nat) (j : Nat) : GI n j (grS L n (List.replicate n [], kk) j).1 := by
  induction j with
  | zero =>
    refine ⟨by simp [grS], fun v hv => ?_⟩
    have : (List.replicate n ([] : List Int)).getD v [] = [] := by simp [List.getD_eq_getElem?_getD, hv]
    show ((List.replicate n ([] : List Int)).getD v []).length ≤ 0 ∧ _
    rw [show (grS L n (List.replicate n [], kk) 0).1 = List.replicate n [] from rfl, this]
    simp
  | succ j ih => exact stp_inv hn hn2 ih

theorem GI.ok {n m : Nat} {g : List (List Int)} (h : GI n m g) (hn : n ≤ 24) (hm : m ≤ 1000) {s : List Bool} (hs : s.length = n) : OkG g s ∧ Asc g := by
  refine ⟨⟨by rw [h.len]; exact hn, fun v hv => ?_, by rw [hs, h.len]⟩, fun v hv i h0 hi => ?_⟩
  · rw [h.len] at hv ⊢
    obtain ⟨g1, _, g3⟩ := h.row v hv
    exact ⟨by omega, g3⟩
  · rw [h.len] at hv
    obtain ⟨_, g2, _⟩ := h.row v hv
    generalize g.getD v [] = r at g2 hi
    have := List.pairwise_iff_getElem.1 g2 (i - 1) i (by omega) hi (by omega)
    rw [List.getD_eq_getElem?_getD, List.getElem?_eq_getElem (by omega), List.getD_eq_getElem?_getD, List.getElem?_eq_getElem hi]
    exact this

theorem gL_set (g : List (List Int)) (v : Nat) (r : List Int) : (gL g).set (0 + v) (lI r) = gL (g.set v r) := by rw [Nat.zero_add]; unfold gL; rw [List.map_set]
theorem gL_get0 {g : List (List Int)} {v : Nat} (h : v < g.length) : (gL g)[0 + v]? = some (lI (g.getD v [])) := by rw [Nat.zero_add]; exact gL_get h

theorem graph_ex (L : List Int) (kk most : Nat) (hm : most ≤ 20) (hk : kk ≤ 1000000) : ∃ (g : List (List Int)) (kk' n : Nat), n ≤ most ∧ GI n 100 g ∧ kk' ≤ kk + 200 ∧ CT Try.prog 9 [some (tapeB L kk)] [.ptr 0 0 0, .int .i64 (most : Nat)] [some (tapeB L kk')] (.lst (gL g)) := by
  have r1 := nextZ_rng L kk ((most : Int) + 1) (by omega) (by omega)
  have n1 := next_ct L kk ((most : Int) + 1) (by omega)
  obtain ⟨n, hn⟩ : ∃ n : Nat, nextZ L kk ((most : Int) + 1) = (n : Int) := ⟨(nextZ L kk ((most : Int) + 1)).toNat, by omega⟩
  rw [hn] at n1 r1
  have r2 := nextZ_rng L (kk + 1) (3 * (n : Int) + 1) (by omega) (by omega)
  have n2 := next_ct L (kk + 1) (3 * (n : Int) + 1) (by omega)
  obtain ⟨m, hmm⟩ : ∃ m : Nat, nextZ L (kk + 1) (3 * (n : Int) + 1) = (m : Int) := ⟨(nextZ L (kk + 1) (3 * (n : Int) + 1)).toNat, by omega⟩
  rw [hmm] at n2 r2
  have hkk := grS_kk L n (List.replicate n [], kk + 2)
  have hinv : ∀ j, j ≤ m → GI n j (grS L n (List.replicate n [], kk + 2) j).1 := by
    intro j hj
    by_cases h1 : 1 ≤ n
    · exact grS_inv h1 (by omega) _ j
    · obtain rfl : j = 0 := by omega
      obtain rfl : n = 0 := by omega
      exact ⟨rfl, fun v hv => by omega⟩
  refine ⟨(grS L n (List.replicate n [], kk + 2) m).1, (grS L n (List.replicate n [], kk + 2) m).2, n, by omega, ?_, by rw [hkk]; simp only; omega, ?_⟩
  · have := hinv m (Nat.le_refl _)
    exact ⟨this.len, fun v hv => ⟨by have := (this.row v hv).1; omega, (this.row v hv).2⟩⟩
  refine CT.path mix Try.func9 (show Try.f9.body = some (bodyOf Try.f9) by kernel_rfl) (Nat.le_of_ble_eq_true rfl) (gr_0 ⟨L, [], [], [], [], kk, n, (m : Nat), 0, 0, (most : Nat), 0, 0, false⟩ (by simp only [wrapS ((most : Int) + 1) (by omega) (by omega)]; exact n1) (by simp [iN]) (by simp) (by simp only [iN]; omega) (by simp only [iN]; omega)
    (by simp only [iN, wrapS (3 * (n : Int)) (by omega) (by omega), wrapS (3 * (n : Int) + 1) (by omega) (by omega)]; exact n2) (T.nilH ?_))
  have key : T Try.prog 1 (.loop (loopC (bodyOf Try.f9) 0)) (lo9 ⟨L, (grS L n (List.replicate n [], kk + 2) 0).1, [], [], [], (grS L n (List.replicate n [], kk + 2) 0).2, n, ((m - 0 : Nat) : Int), 0, 0, 0, 0, 0, false⟩) (TK Try.prog 1 (Fin Try.prog Try.f9 1 [some (tapeB L (grS L n (List.replicate n [], kk + 2) m).2)] (.lst (gL (grS L n (List.replicate n [], kk + 2) m).1))) (loopK (bodyOf Try.f9) 0)) := by
    refine T.loop (fun j : Nat => lo9 ⟨L, (grS L n (List.replicate n [], kk + 2) j).1, [], [], [], (grS L n (List.replicate n [], kk + 2) j).2, n, ((m - j : Nat) : Int), 0, 0, 0, 0, 0, false⟩) (fun j => j ≤ m) (fun j => m + 1 - j) 0 (Nat.zero_le _) ?_
    intro j hj
    have hj2 := hinv j hj
    have hkj := hkk j
    simp only at hkj
    by_cases h : j < m
    · have hn1 : 1 ≤ n := by omega
      have e : grS L n (List.replicate n [], kk + 2) (j + 1) = stp L n (grS L n (List.replicate n [], kk + 2) j) := rfl
      have ek : IntKind.i64.wrap (((m - j : Nat) : Int) - 1) = ((m - (j + 1) : Nat) : Int) := by rw [wrapS _ (by omega) (by omega)]; omega
      generalize hy : grS L n (List.replicate n [], kk + 2) j = y at hj2 hkj e
      have q1 := nextZ_rng L y.2 n (by omega) (by omega)
      have q2 := nextZ_rng L (y.2 + 1) n (by omega) (by omega)
      have m1 := next_ct L y.2 n (by omega)
      have m2 := next_ct L (y.2 + 1) n (by omega)
      unfold stp at e
      obtain ⟨v, hv⟩ : ∃ v : Nat, nextZ L y.2 n = (v : Int) := ⟨(nextZ L y.2 n).toNat, by omega⟩
      obtain ⟨w, hw⟩ : ∃ w : Nat, nextZ L (y.2 + 1) n = (w : Int) := ⟨(nextZ L (y.2 + 1) n).toNat, by omega⟩
      rw [hv] at q1 m1 e
      rw [hw] at q2 m2 e
      simp only [Int.toNat_natCast] at e
      have hvg : v < y.1.length := by rw [hj2.len]; omega
      have hlen := (hj2.row v (by omega)).1
      have hrow := gL_get0 hvg
      have hc := has_ct (y.1.getD v []) (w : Int) (by omega)
      have ic := ins_ct (y.1.getD v []) (w : Int) (by omega)
      have next : ∀ (g' : List (List Int)) (st : St), grS L n (List.replicate n [], kk + 2) (j + 1) = (g', y.2 + 2) → Ren 1 st (lo9 ⟨L, g', [], [], [], y.2 + 2, n, ((m - (j + 1) : Nat) : Int), 0, 0, 0, 0, 0, false⟩) → ∃ j', Ren 1 st (lo9 ⟨L, (grS L n (List.replicate n [], kk + 2) j').1, [], [], [], (grS L n (List.replicate n [], kk + 2) j').2, n, ((m - j' : Nat) : Int), 0, 0, 0, 0, 0, false⟩) ∧ j' ≤ m ∧ m + 1 - j' < m + 1 - j := by
        intro g' st eg hst
        refine ⟨j + 1, ?_, h, by omega⟩
        rw [eg]; exact hst
      by_cases hvw : v = w
      · rw [if_pos hvw] at e
        refine T.path mix (grr_2 ⟨L, y.1, [], [], [], y.2, n, ((m - j : Nat) : Int), v, w, 0, 0, 0, false⟩ (decide_eq_true (by simp only; omega)) m1 m2 (by simp [iN, hvw]) ?_)
        intro st hst
        simp only [ek] at hst
        exact next _ st e hst
      · rw [if_neg hvw] at e
        by_cases hh : hasZ (y.1.getD v []) (w : Int) = true
        · rw [if_pos hh] at e
          rw [hh] at hc
          refine T.path mix (grr_1 ⟨L, y.1, y.1.getD v [], [], [], y.2, n, ((m - j : Nat) : Int), v, w, 0, 0, 0, true⟩ (decide_eq_true (by simp only; omega)) m1 m2 (by simp [iN]; omega) (by simp [iN]) (by simp [iN]; omega) hrow hc rfl ?_)
          intro st hst
          simp only [ek] at hst
          exact next _ st e hst
        · rw [if_neg hh] at e
          rw [Bool.eq_false_iff.2 hh] at hc
          refine T.path mix (grr_0 ⟨L, y.1, y.1.getD v [], insB (w : Int) (y.1.getD v []), [], y.2, n, ((m - j : Nat) : Int), v, w, 0, 0, 0, false⟩ (decide_eq_true (by simp only; omega)) m1 m2 (by simp [iN]; omega) (by simp [iN]) (by simp [iN]; omega) hrow hc rfl ic (by simp [iN, gL_len]; omega) ?_)
          intro st hst
          simp only [ek, iN, Int.toNat_natCast] at hst
          have hs2 := gL_set y.1 v (insB (w : Int) (y.1.getD v []))
          unfold lI at hs2
          rw [hs2] at hst
          exact next _ st e hst
    · obtain rfl : j = m := by omega
      exact T.out mix (grx_0 ⟨L, (grS L n (List.replicate n [], kk + 2) j).1, [], [], [], (grS L n (List.replicate n [], kk + 2) j).2, n, ((j - j : Nat) : Int), 0, 0, 0, 0, 0, false⟩ (decide_eq_false (by simp only; omega)) (by simp only [gL_len, hj2.len]))
  have e0 : (List.replicate n AV.nils).map wkE = gL (List.replicate n []) := by simp [gL, wkE, wk1, lI]
  unfold lo9 at key
  simp only [grS, Nat.sub_zero, ← e0] at key
  exact key
theorem boL_set (s : List Bool) (v : Nat) (b : Bool) : (boL s).set (0 + v) (.bool b) = boL (s.set v b) := by rw [Nat.zero_add]; unfold boL; rw [List.map_set]
noncomputable def shS (L : List Int) (n : Nat) (y : List Bool × Nat) : Nat → List Bool × Nat
  | 0 => y
  | j + 1 => ((shS L n y j).1.set (nextZ L (shS L n y j).2 n).toNat true, (shS L n y j).2 + 1)
theorem shS_kk (L : List Int) (n : Nat) (y : List Bool × Nat) (j : Nat) : (shS L n y j).2 = y.2 + j := by
  induction j with
  | zero => rfl
  | succ j ih => rw [shS, ih]; simp only; omega
theorem shS_len (L : List Int) (n : Nat) (y : List Bool × Nat) (j : Nat) : (shS L n y j).1.length = y.1.length := by
  induction j with
  | zero => rfl
  | succ j ih => rw [shS]; simp [ih]

theorem shut_ex (L : List Int) (kk n : Nat) (hn : n ≤ 1000) (hk : kk ≤ 1000000) : ∃ (s : List Bool) (kk' : Nat), s.length = n ∧ kk' ≤ kk + 10 ∧ CT Try.prog 10 [some (tapeB L kk)] [.ptr 0 0 0, .int .i64 (n : Nat)] [some (tapeB L kk')] (.lst (boL s)) := by
  have r1 := nextZ_rng L kk 3 (by omega) (by omega)
  have n1 := next_ct L kk 3 (by omega)
  obtain ⟨m, hmm⟩ : ∃ m : Nat, nextZ L kk 3 = (m : Int) := ⟨(nextZ L kk 3).toNat, by omega⟩
  rw [hmm] at n1 r1
  have hkk := shS_kk L n (List.replicate n false, kk + 1)
  have hln := shS_len L n (List.replicate n false, kk + 1)
  have e0 : List.replicate n (AV.bool false) = boL (List.replicate n false) := by simp [boL]
  by_cases h0 : n = 0
  · subst h0
    refine ⟨[], kk + 1, rfl, by omega, ?_⟩
    refine CT.path mix Try.func10 (show Try.f10.body = some (bodyOf Try.f10) by kernel_rfl) (Nat.le_of_ble_eq_true rfl) (sh_0 ⟨L, [], [], [], [], kk, 0, (m : Nat), 0, 0, 0, 0, 0, false⟩ (by simp [iN]) (by simp) (by simp only [iN]; omega) (by simp only [iN]; omega) n1 ?_)
    refine T.loop (fun j : Nat => lo10 ⟨L, [], [], [], [], kk + 1, 0, (m : Nat), 0, 0, 0, 0, 0, false⟩) (fun j => True) (fun j => 0) 0 trivial ?_
    intro j _
    by_cases hm : 0 < m
    · exact T.out mix (shx_0 ⟨L, [], [], [], [], kk + 1, 0, (m : Nat), 0, 0, 0, 0, 0, false⟩ (decide_eq_true (by simp only; omega)) (by simp [iN]) rfl)
    · exact T.out mix (shx_1 ⟨L, [], [], [], [], kk + 1, 0, (m : Nat), 0, 0, 0, 0, 0, false⟩ (decide_eq_false (by simp only; omega)) rfl)
  refine ⟨(shS L n (List.replicate n false, kk + 1) m).1, (shS L n (List.replicate n false, kk + 1) m).2, by rw [hln]; simp, by rw [hkk]; simp only; omega, ?_⟩
  refine CT.path mix Try.func10 (show Try.f10.body = some (bodyOf Try.f10) by kernel_rfl) (Nat.le_of_ble_eq_true rfl) (sh_0 ⟨L, [], [], [], [], kk, n, (m : Nat), 0, 0, 0, 0, 0, false⟩ (by simp [iN]) (by simp) (by simp only [iN]; omega) (by simp only [iN]; omega) n1 ?_)
  have key : T Try.prog 1 (.loop (loopC (bodyOf Try.f10) 0)) (lo10 ⟨L, [], [], [], (shS L n (List.replicate n false, kk + 1) 0).1, (shS L n (List.replicate n false, kk + 1) 0).2, n, ((m - 0 : Nat) : Int), 0, 0, 0, 0, 0, false⟩) (TK Try.prog 1 (Fin Try.prog Try.f10 1 [some (tapeB L (shS L n (List.replicate n false, kk + 1) m).2)] (.lst (boL (shS L n (List.replicate n false, kk + 1) m).1))) (loopK (bodyOf Try.f10) 0)) := by
    refine T.loop (fun j : Nat => lo10 ⟨L, [], [], [], (shS L n (List.replicate n false, kk + 1) j).1, (shS L n (List.replicate n false, kk + 1) j).2, n, ((m - j : Nat) : Int), 0, 0, 0, 0, 0, false⟩) (fun j => j ≤ m) (fun j => m + 1 - j) 0 (Nat.zero_le _) ?_
    intro j hj
    have hkj := hkk j
    have hlj := hln j
    simp only [List.length_replicate] at hkj hlj
    by_cases h : j < m
    · have ek : IntKind.i64.wrap (((m - j : Nat) : Int) - 1) = ((m - (j + 1) : Nat) : Int) := by rw [wrapS _ (by omega) (by omega)]; omega
      have e : shS L n (List.replicate n false, kk + 1) (j + 1) = ((shS L n (List.replicate n false, kk + 1) j).1.set (nextZ L (shS L n (List.replicate n false, kk + 1) j).2 n).toNat true, (shS L n (List.replicate n false, kk + 1) j).2 + 1) := rfl
      generalize shS L n (List.replicate n false, kk + 1) j = y at hkj hlj e
      have q1 := nextZ_rng L y.2 n (by omega) (by omega)
      have m1 := next_ct L y.2 n (by omega)
      obtain ⟨v, hv⟩ : ∃ v : Nat, nextZ L y.2 n = (v : Int) := ⟨(nextZ L y.2 n).toNat, by omega⟩
      rw [hv] at q1 m1 e
      simp only [Int.toNat_natCast] at e
      have hbl := boL_len y.1
      refine T.path mix (shr_0 ⟨L, [], [], [], y.1, y.2, n, ((m - j : Nat) : Int), v, 0, 0, 0, 0, false⟩ (decide_eq_true (by simp only; omega)) (by simp [iN]; omega) m1 (by simp [iN]) (by simp [iN]; omega) (by simp [iN, boL_len]; omega) ?_)
      intro st hst
      refine ⟨j + 1, ?_, h, by omega⟩
      simp only [ek, iN, Int.toNat_natCast] at hst
      rw [boL_set] at hst
      rw [e]; exact hst
    · obtain rfl : j = m := by omega
      exact T.out mix (shx_1 ⟨L, [], [], [], (shS L n (List.replicate n false, kk + 1) j).1, (shS L n (List.replicate n false, kk + 1) j).2, n, ((j - j : Nat) : Int), 0, 0, 0, 0, 0, false⟩ (decide_eq_false (by simp only; omega)) (by simp only [boL_len, hlj]))
  unfold lo10 at key
  simp only [shS, Nat.sub_zero, ← e0] at key
  exact key
#print axioms graph_ex
#print axioms shut_ex
end Go.Proofs.Ytnpmcikbnnlmkaa

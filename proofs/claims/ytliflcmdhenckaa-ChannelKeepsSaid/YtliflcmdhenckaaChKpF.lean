import Derived.Test.YtliflcmdhenckaaChKpE
import Derived.KernelRfl
/-! ChannelKeeps' contract. -/
open Go Go.AX Go.Proofs
set_option maxRecDepth 100000
set_option maxHeartbeats 1000000
set_option linter.unusedVariables false
set_option linter.unusedSimpArgs false
namespace Go.Proofs.Ytliflcmdhenckaa
theorem sendZ_len' (c : List Fr) (x : Fr) : (sendZ c x).length ≤ 6 := by
  unfold sendZ
  split
  · simp
  · split
    · simp; omega
    · omega
theorem delZ_len' (c : List Fr) (i : Int) : (delZ c i).2.1.length ≤ 6 := by
  unfold delZ
  split
  · rename_i h
    have := hasZ_true h
    simp; omega
  · simp
theorem dblZ_len' (c : List Fr) (i : Int) : (dblZ c i).1.length ≤ 6 := by
  unfold dblZ
  split
  · exact sendZ_len' _ _
  · simp

theorem eqF_comm (x y : Fr) : eqF x y = eqF y x := by
  unfold eqF
  simp only [Bool.and_true]
  rw [Bool.eq_iff_iff]
  simp only [Bool.and_eq_true, beq_iff_eq]
  constructor <;> (rintro ⟨a, b, c, d, e⟩; exact ⟨a.symm, b.symm, c.symm, d.symm, e.symm⟩)

theorem cntF_append (c d : List Fr) (y : Fr) : cntF (c ++ d) y = cntF c y + cntF d y := by simp [cntF]
theorem cntF_one (x y : Fr) : cntF [x] y = if eqF y x then 1 else 0 := by
  rw [eqF_comm y x]
  unfold cntF
  simp only [List.filter_cons, List.filter_nil]
  split <;> rfl

theorem send_Dl (c : List Fr) (x : Fr) (h : c.length ≤ 6) : Dl c (sendZ c x) x := by
  intro y
  unfold sendZ
  rw [if_neg (by omega)]
  split
  · rw [cntF_append, cntF_one]
    simp only [List.length_append, List.length_singleton]
    split <;> omega
  · split <;> omega

theorem del_Dl (c : List Fr) (n : Nat) (h : n < c.length) : Dl c (c.take n ++ c.drop (n + 1)) (c.getD n fr0) := by
  intro y
  have e : c = c.take n ++ ([c.getD n fr0] ++ c.drop (n + 1)) := by
    rw [List.getD_eq_getElem?_getD, List.getElem?_eq_getElem h, Option.getD_some]
    simp
  have k : cntF c y = cntF (c.take n) y + (cntF [c.getD n fr0] y + cntF (c.drop (n + 1)) y) := by
    rw [← cntF_append, ← cntF_append, ← e]
  rw [cntF_append, k, cntF_one]
  simp only [List.length_append, List.length_take, List.length_drop]
  split <;> omega

noncomputable def qO (L : List Int) (all : List Fr) (k kk : Nat) (c : List Fr) : Q4 := ⟨L, kk, all, cntL all c, c, k, 0, 0, [], 0, fr0, fr0, 0, false⟩

theorem keeps_ct (L : List Int) : CT Try.prog 4 [] [lstI L] [] (.bool true) := by
  have hb : Try.f4.body = some (bodyOf Try.f4) := by kernel_rfl
  have c1 := frames_ct L 0 3 (by omega) (by omega)
  have ha := frsX_len L 0 3
  have b1 := frsX_le L 0 3 (by omega)
  generalize (frsX L 0 3).2 = kk0 at c1 b1
  generalize (frsX L 0 3).1 = all at c1 ha
  refine CT.path mix Try.func4 hb (Nat.le_of_ble_eq_true rfl) (kin_0 (qO L all 0 kk0 []) known_ct c1 (T.nil ?_))
  have e0 : cntL all [] = [0, 0, 0] := by simp [cntL, cntF, range3]
  have key : T Try.prog 0 (.loop (loopC (bodyOf Try.f4) 0)) (lo4 (qO L all 0 kk0 [])) (TK Try.prog 0 (Fin Try.prog Try.f4 0 [] (.bool true)) (loopK (bodyOf Try.f4) 0)) := by
    refine T.loop (fun s : Nat × Nat × List Fr => lo4 (qO L all s.1 s.2.1 s.2.2)) (fun s => s.1 ≤ 30 ∧ s.2.1 ≤ 100 + 3 * s.1 ∧ s.2.2.length ≤ 6) (fun s => 31 - s.1) (0, kk0, []) ⟨by simp, by simp; omega, by simp⟩ ?_
    rintro ⟨k, kk, c⟩ ⟨hk, hkk, hc⟩
    simp only at hk hkk hc
    have hl := frL_len c
    by_cases h : k < 30
    · have wk : IntKind.i64.wrap (iN k + 1) = ((k + 1 : Nat) : Int) := wrap_nat k (by omega)
      have d1 : decide (iN k < 30) = true := by simp [iN]; omega
      have r1 := nextZ_rng L kk 6 (by omega) (by omega)
      have n1 := next_ct L kk 6 (by omega)
      generalize nextZ L kk 6 = i at r1 n1
      have r2 := nextZ_rng L (kk + 1) 4 (by omega) (by omega)
      have n2 := next_ct L (kk + 1) 4 (by omega)
      generalize hop : nextZ L (kk + 1) 4 = o at r2 n2
      have r3 := nextZ_rng L (kk + 1 + 1) 3 (by omega) (by omega)
      have n3 := next_ct L (kk + 1 + 1) 3 (by omega)
      generalize nextZ L (kk + 1 + 1) 3 = f at r3 n3
      obtain ⟨g, rfl⟩ : ∃ g : Nat, f = (g : Int) := ⟨f.toNat, by omega⟩
      have hg : g < 3 := by omega
      have hx := getD3 ha hg
      have s1 := send_ct c (all.getD g fr0)
      have s2 := send_Dl c (all.getD g fr0) hc
      have s3 := sendZ_len' c (all.getD g fr0)
      have hh : hasZ c i = decide (i < (c.length : Int)) := by
        unfold hasZ
        rw [decide_eq_true hc, decide_eq_true r1.1]; rfl
      rcases (show o = 0 ∨ o = 1 ∨ o = 2 ∨ o = 3 by omega) with rfl | rfl | rfl | rfl
      · refine T.path mix (k0_0 ⟨L, kk, all, cntL all c, c, k, i, (g : Int), sendZ c (all.getD g fr0), 0, all.getD g fr0, fr0, 0, false⟩ d1 n1 n2 n3 (by simp) hx s1 ?_)
        have := la_run ⟨L, kk + 1 + 1 + 1, all, [], c, k, i, (g : Int), sendZ c (all.getD g fr0), 0, all.getD g fr0, fr0, 0, false⟩ ha (by simp) hx s2 hc s3 (ld_run _ _ ha h s3 fun st hst => ?_) (post := andThen (fun st' => ∃ j : Nat × Nat × List Fr, Ren 0 st' (lo4 (qO L all j.1 j.2.1 j.2.2)) ∧ (j.1 ≤ 30 ∧ j.2.1 ≤ 100 + 3 * j.1 ∧ j.2.2.length ≤ 6) ∧ 31 - j.1 < 31 - k) (TK Try.prog 0 (Fin Try.prog Try.f4 0 [] (.bool true)) (loopK (bodyOf Try.f4) 0)))
        · unfold qJ at this
          rw [balL_0] at this
          exact this
        · exact ⟨(k + 1, kk + 1 + 1 + 1, sendZ c (all.getD g fr0)), hst, ⟨by simp only; omega, by simp only; omega, s3⟩, by simp only; omega⟩
      · refine T.path mix (k1_0 ⟨L, kk, all, cntL all c, c, k, i, (g : Int), sendZ c (all.getD g fr0), 0, all.getD g fr0, fr0, 0, false⟩ d1 n1 n2 n3 (by simp) hx s1 ?_)
        have := la_run ⟨L, kk + 1 + 1 + 1, all, [], c, k, i, (g : Int), sendZ c (all.getD g fr0), 0, all.getD g fr0, fr0, 0, false⟩ ha (by simp) hx s2 hc s3 (ld_run _ _ ha h s3 fun st hst => ?_) (post := andThen (fun st' => ∃ j : Nat × Nat × List Fr, Ren 0 st' (lo4 (qO L all j.1 j.2.1 j.2.2)) ∧ (j.1 ≤ 30 ∧ j.2.1 ≤ 100 + 3 * j.1 ∧ j.2.2.length ≤ 6) ∧ 31 - j.1 < 31 - k) (TK Try.prog 0 (Fin Try.prog Try.f4 0 [] (.bool true)) (loopK (bodyOf Try.f4) 0)))
        · unfold qJ at this
          rw [balL_0] at this
          exact this
        · exact ⟨(k + 1, kk + 1 + 1 + 1, sendZ c (all.getD g fr0)), hst, ⟨by simp only; omega, by simp only; omega, s3⟩, by simp only; omega⟩
      · have t1 := del_ct c i
        unfold delZ at t1
        by_cases hi : i < (c.length : Int)
        · have hi' : hasZ c i = true := by rw [hh]; simpa using hi
          rw [if_pos hi'] at t1
          obtain ⟨z, rfl⟩ : ∃ z : Nat, i = (z : Int) := ⟨i.toNat, by omega⟩
          rw [Int.toNat_natCast] at t1
          have hz : z < c.length := by omega
          have dd := del_Dl c z hz
          have e3 : ((c.take z ++ c.drop (z + 1)).length : Int) = c.length - 1 := by simp; omega
          generalize c.take z ++ c.drop (z + 1) = n at t1 dd e3
          refine T.path mix (k2y_0 ⟨L, kk, all, cntL all c, c, k, (z : Int), 0, n, 0, c.getD z fr0, fr0, 0, true⟩ d1 n1 n2 t1 (by simp [iN]; omega) rfl ?_)
          have := lb_run ⟨L, kk + 1 + 1, all, [], c, k, (z : Int), 0, n, 0, c.getD z fr0, fr0, 0, true⟩ ha dd e3 hc (by simp only; omega) (ld_run _ _ ha h (by simp only; omega) fun st hst => ?_) (post := andThen (fun st' => ∃ j : Nat × Nat × List Fr, Ren 0 st' (lo4 (qO L all j.1 j.2.1 j.2.2)) ∧ (j.1 ≤ 30 ∧ j.2.1 ≤ 100 + 3 * j.1 ∧ j.2.2.length ≤ 6) ∧ 31 - j.1 < 31 - k) (TK Try.prog 0 (Fin Try.prog Try.f4 0 [] (.bool true)) (loopK (bodyOf Try.f4) 0)))
          · unfold qJ at this
            rw [balL_0] at this
            exact this
          · exact ⟨(k + 1, kk + 1 + 1, n), hst, ⟨by simp only; omega, by simp only; omega, by simp only; omega⟩, by simp only; omega⟩
        · have hi' : ¬ hasZ c i = true := by rw [hh]; simpa using hi
          rw [if_neg hi'] at t1
          refine T.path mix (k2n_0 ⟨L, kk, all, cntL all c, c, k, i, 0, [], 0, fr0, fr0, 0, false⟩ d1 n1 n2 t1 (by simp [iN]; omega) rfl ?_)
          intro st hst
          simp only at hst
          rw [wk] at hst
          exact ⟨(k + 1, kk + 1 + 1, c), hst, ⟨by simp only; omega, by simp only; omega, hc⟩, by simp only; omega⟩
      · have t1 := dbl_ct c i
        unfold dblZ at t1
        by_cases hi : i < (c.length : Int)
        · have hi' : hasZ c i = true := by rw [hh]; simpa using hi
          rw [if_pos hi'] at t1
          have hx := get_has hi'
          have dd := send_Dl c (c.getD i.toNat fr0) hc
          have e3 := sendZ_len' c (c.getD i.toNat fr0)
          generalize c.getD i.toNat fr0 = x at t1 hx dd e3
          refine T.path mix (k3y_0 ⟨L, kk, all, cntL all c, c, k, i, 0, sendZ c x, 0, x, fr0, 0, true⟩ d1 n1 n2 t1 (by simp [iN]; omega) rfl ?_)
          have := lc_run ⟨L, kk + 1 + 1, all, [], c, k, i, 0, sendZ c x, 0, x, fr0, 0, true⟩ ha r1.1 hx dd hc e3 (ld_run _ _ ha h e3 fun st hst => ?_) (post := andThen (fun st' => ∃ j : Nat × Nat × List Fr, Ren 0 st' (lo4 (qO L all j.1 j.2.1 j.2.2)) ∧ (j.1 ≤ 30 ∧ j.2.1 ≤ 100 + 3 * j.1 ∧ j.2.2.length ≤ 6) ∧ 31 - j.1 < 31 - k) (TK Try.prog 0 (Fin Try.prog Try.f4 0 [] (.bool true)) (loopK (bodyOf Try.f4) 0)))
          · unfold qJ at this
            rw [balL_0] at this
            exact this
          · exact ⟨(k + 1, kk + 1 + 1, sendZ c x), hst, ⟨by simp only; omega, by simp only; omega, e3⟩, by simp only; omega⟩
        · have hi' : ¬ hasZ c i = true := by rw [hh]; simpa using hi
          rw [if_neg hi'] at t1
          refine T.path mix (k3n_0 ⟨L, kk, all, cntL all c, c, k, i, 0, [], 0, fr0, fr0, 0, false⟩ d1 n1 n2 t1 (by simp [iN]; omega) rfl ?_)
          intro st hst
          simp only at hst
          rw [wk] at hst
          exact ⟨(k + 1, kk + 1 + 1, c), hst, ⟨by simp only; omega, by simp only; omega, hc⟩, by simp only; omega⟩
    · exact T.out mix (kx_0 (qO L all k kk c) (decide_eq_false (by show ¬ ((k : Nat) : Int) < 30; omega)))
  unfold lo4 qO balB at key
  simp only [e0] at key
  exact key

theorem intsW {n : Nat} {es : List AV} (h : ∀ x ∈ es, ShV Try.prog n 3 x) : ∃ L : List Int, es = L.map (AV.int .i64) := by
  induction es with
  | nil => exact ⟨[], rfl⟩
  | cons x es ih =>
    obtain ⟨L, rfl⟩ := ih fun y hy => h y (List.mem_cons_of_mem _ hy)
    obtain ⟨i, _, rfl⟩ := (h x (by simp)).intD Try.underlying3
    exact ⟨i :: L, rfl⟩

theorem channelKeeps_row (avs : List AV) (h : ShVs Try.prog 3 Try.f4.params.toList avs) : CT Try.prog 4 [] avs [] (.bool true) := by
  rw [Try.params4] at h
  obtain ⟨a, _, rfl, ka, h⟩ := h.consD
  obtain rfl := h.nilD
  obtain ⟨ls, _, hl, rfl⟩ := ka.sliceD Try.underlying22
  obtain ⟨L, rfl⟩ := intsW hl
  exact keeps_ct L
#print axioms channelKeeps_row
end Go.Proofs.Ytliflcmdhenckaa

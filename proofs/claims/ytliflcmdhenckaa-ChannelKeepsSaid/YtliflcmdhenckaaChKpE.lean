import Derived.Test.YtliflcmdhenckaaChKpp
import Derived.Test.YtliflcmdhenckaaAxRd
import Derived.KernelRfl
/-! ChannelKeeps: the inner loops. -/
open Go Go.AX Go.Proofs
set_option maxRecDepth 100000
set_option maxHeartbeats 1000000
set_option linter.unusedVariables false
set_option linter.unusedSimpArgs false
namespace Go.Proofs.Ytliflcmdhenckaa
noncomputable def cntL (all c : List Fr) : List Int := (List.range 3).map fun t => (cntF c (all.getD t fr0) : Int)
noncomputable def balL (all c n : List Fr) (j : Nat) : List Int := (List.range 3).map fun t => if t < j then (cntF n (all.getD t fr0) : Int) else (cntF c (all.getD t fr0) : Int)

theorem range3 : List.range 3 = [0, 1, 2] := rfl
theorem balL_0 (all c n : List Fr) : balL all c n 0 = cntL all c := by simp [balL, cntL]
theorem balL_3 (all c n : List Fr) : balL all c n 3 = cntL all n := by simp [balL, cntL, range3]
theorem balL_len (all c n : List Fr) (j : Nat) : (balL all c n j).length = 3 := by simp [balL]
theorem balL_get (all c n : List Fr) (j : Nat) (h : j < 3) : (balL all c n j)[j]? = some (cntF c (all.getD j fr0) : Int) := by
  simp [balL, h]
theorem balL_set (all c n : List Fr) (j : Nat) (h : j < 3) (v : Int) (hv : v = cntF n (all.getD j fr0)) : (balL all c n j).set j v = balL all c n (j + 1) := by
  subst hv
  match j, h with
  | 0, _ => simp [balL, range3]
  | 1, _ => simp [balL, range3]
  | 2, _ => simp [balL, range3]
theorem balL_keep (all c n : List Fr) (j : Nat) (h : j < 3) (hv : cntF n (all.getD j fr0) = cntF c (all.getD j fr0)) : balL all c n j = balL all c n (j + 1) := by
  rw [← balL_set all c n j h _ rfl, hv]
  match j, h with
  | 0, _ => simp [balL, range3]
  | 1, _ => simp [balL, range3]
  | 2, _ => simp [balL, range3]

noncomputable def qJ (q : Q4) (j : Nat) : Q4 := ⟨q.L, q.kk, q.all, balL q.all q.c q.n j, q.c, q.k, q.i, q.f, q.n, j, q.x, q.all.getD j fr0, (cntF q.c (q.all.getD j fr0) : Nat), q.b⟩
noncomputable def qD (q : Q4) (c : List Fr) (j : Nat) : Q4 := ⟨q.L, q.kk, q.all, cntL q.all c, c, q.k, q.i, q.f, q.n, j, q.x, q.all.getD j fr0, (cntF c (q.all.getD j fr0) : Nat), q.b⟩
noncomputable abbrev B4 : Code := loopC (bodyOf Try.f4) 0

theorem cntF_le (c : List Fr) (y : Fr) : cntF c y ≤ c.length := List.length_filter_le _ _
theorem getD3 {all : List Fr} (ha : all.length = 3) {j : Nat} (h : j < 3) : (frL all)[j]? = some (frA (all.getD j fr0)) := by
  refine frL_get all _ _ ?_
  rw [List.getD_eq_getElem?_getD, List.getElem?_eq_getElem (by omega)]; rfl
theorem mapI_get {l : List Int} {j : Nat} {v : Int} (h : l[j]? = some v) : (l.map (AV.int .i64))[0 + j]? = some (.int .i64 v) := by
  rw [Nat.zero_add, List.getElem?_map, h]; rfl

/-- What a step does to the counts. -/
def Dl (c n : List Fr) (x : Fr) : Prop := ∀ y, (cntF n y : Int) = cntF c y + (if eqF y x then (n.length : Int) - c.length else 0)

theorem wrapS (z : Int) (h0 : -1000 ≤ z) (h1 : z ≤ 1000) : IntKind.i64.wrap z = z := by
  have e1 : (2 : Int) ^ IntKind.i64.bits = 18446744073709551616 := by decide
  have e2 : (2 : Int) ^ (IntKind.i64.bits - 1) = 9223372036854775808 := by decide
  have e3 : IntKind.i64.signed = true := by decide
  simp only [IntKind.wrap, e1, e2, e3, Bool.true_and, decide_eq_true_eq]
  split <;> omega

theorem la_run (q : Q4) (ha : q.all.length = 3) (hf : 0 ≤ q.f) (hx : (frL q.all)[q.f.toNat]? = some (frA q.x)) (D : Dl q.c q.n q.x) (hc : q.c.length ≤ 6) (hn : q.n.length ≤ 6) {post : Exit → St → Prop}
    (hp : T Try.prog 0 (.loop (loopC B4 3)) (ld4 (qD q q.n 0)) (TK Try.prog 0 post (loopK B4 3))) : T Try.prog 0 (.loop (loopC B4 0)) (la4 (qJ q 0)) (TK Try.prog 0 post (loopK B4 0)) := by
  have hlc := frL_len q.c
  have hln := frL_len q.n
  refine T.loop (fun j : Nat => la4 (qJ q j)) (fun j => j ≤ 3) (fun j => 4 - j) 0 (by omega) ?_
  intro j hj
  have wj : IntKind.i64.wrap (iN j + 1) = ((j + 1 : Nat) : Int) := wrap_nat j (by omega)
  by_cases h : j < 3
  · have hDj := D (q.all.getD j fr0)
    have l1 := cntF_le q.c (q.all.getD j fr0)
    have l2 := cntF_le q.n (q.all.getD j fr0)
    by_cases he : eqF (q.all.getD j fr0) q.x = true
    · rw [if_pos he] at hDj
      refine T.path mix (kar_0 (qJ q j) (by simp [iN, qJ]; omega) (by simp [iN]) (getD3 ha h) hf hx he (by simp [iN, qJ]; omega) (mapI_get (balL_get _ _ _ j h)) (by simp [qJ, balL_len, iN]; omega) ?_)
      intro st hst
      refine ⟨j + 1, ?_, h, by omega⟩
      have e : (balL q.all q.c q.n j).set j (IntKind.i64.wrap ((cntF q.c (q.all.getD j fr0) : Int) + IntKind.i64.wrap (iN (frL q.n).length - iN (frL q.c).length))) = balL q.all q.c q.n (j + 1) := by
        refine balL_set _ _ _ j h _ ?_
        rw [hlc, hln]
        simp only [iN]
        rw [wrapS ((q.n.length : Int) - (q.c.length : Int)) (by omega) (by omega), wrapS _ (by omega) (by omega)]
        omega
      simp only [qJ, iN, Int.toNat_natCast, Nat.zero_add, ← List.map_set] at hst
      simp only [iN] at e wj
      rw [e, wj] at hst
      exact hst
    · rw [if_neg he] at hDj
      refine T.path mix (kar_1 (qJ q j) (by simp [iN, qJ]; omega) (by simp [iN]) (getD3 ha h) hf hx (Bool.eq_false_iff.2 he) ?_)
      intro st hst
      refine ⟨j + 1, ?_, h, by omega⟩
      have e := balL_keep q.all q.c q.n j h (by omega)
      simp only [qJ] at hst
      rw [e, wj] at hst
      exact hst
  · obtain rfl : j = 3 := by omega
    refine T.out mix (kax_0 (qJ q 3) (by simp [iN, qJ]) (by simp [iN, qJ]; omega) ?_)
    simp only [qJ, balL_3]
    exact hp

theorem lb_run (q : Q4) (ha : q.all.length = 3) (D : Dl q.c q.n q.x) (hm : (q.n.length : Int) = q.c.length - 1) (hc : q.c.length ≤ 6) (hn : q.n.length ≤ 6) {post : Exit → St → Prop}
    (hp : T Try.prog 0 (.loop (loopC B4 3)) (ld4 (qD q q.n 0)) (TK Try.prog 0 post (loopK B4 3))) : T Try.prog 0 (.loop (loopC B4 1)) (lb4 (qJ q 0)) (TK Try.prog 0 post (loopK B4 1)) := by
  have hlc := frL_len q.c
  have hln := frL_len q.n
  refine T.loop (fun j : Nat => lb4 (qJ q j)) (fun j => j ≤ 3) (fun j => 4 - j) 0 (by omega) ?_
  intro j hj
  have wj : IntKind.i64.wrap (iN j + 1) = ((j + 1 : Nat) : Int) := wrap_nat j (by omega)
  by_cases h : j < 3
  · have hDj := D (q.all.getD j fr0)
    have l1 := cntF_le q.c (q.all.getD j fr0)
    have l2 := cntF_le q.n (q.all.getD j fr0)
    by_cases he : eqF (q.all.getD j fr0) q.x = true
    · rw [if_pos he] at hDj
      refine T.path mix (kbr_0 (qJ q j) (by simp [iN, qJ]; omega) (by simp [iN]) (getD3 ha h) he (by simp [iN, qJ]; omega) (mapI_get (balL_get _ _ _ j h)) (by simp [qJ, balL_len, iN]; omega) ?_)
      intro st hst
      refine ⟨j + 1, ?_, h, by omega⟩
      have e : (balL q.all q.c q.n j).set j (IntKind.i64.wrap ((cntF q.c (q.all.getD j fr0) : Int) - 1)) = balL q.all q.c q.n (j + 1) := by
        refine balL_set _ _ _ j h _ ?_
        rw [wrapS _ (by omega) (by omega)]
        omega
      simp only [qJ, iN, Int.toNat_natCast, Nat.zero_add, ← List.map_set] at hst
      simp only [iN] at e wj
      rw [e, wj] at hst
      exact hst
    · rw [if_neg he] at hDj
      refine T.path mix (kbr_1 (qJ q j) (by simp [iN, qJ]; omega) (by simp [iN]) (getD3 ha h) (Bool.eq_false_iff.2 he) ?_)
      intro st hst
      refine ⟨j + 1, ?_, h, by omega⟩
      have e := balL_keep q.all q.c q.n j h (by omega)
      simp only [qJ] at hst
      rw [e, wj] at hst
      exact hst
  · obtain rfl : j = 3 := by omega
    refine T.out mix (kbx_0 (qJ q 3) (by simp [iN, qJ]) (by simp [iN, qJ]; omega) ?_)
    simp only [qJ, balL_3]
    exact hp

theorem lc_run (q : Q4) (ha : q.all.length = 3) (hf : 0 ≤ q.i) (hx : (frL q.c)[q.i.toNat]? = some (frA q.x)) (D : Dl q.c q.n q.x) (hc : q.c.length ≤ 6) (hn : q.n.length ≤ 6) {post : Exit → St → Prop}
    (hp : T Try.prog 0 (.loop (loopC B4 3)) (ld4 (qD q q.n 0)) (TK Try.prog 0 post (loopK B4 3))) : T Try.prog 0 (.loop (loopC B4 2)) (lc4 (qJ q 0)) (TK Try.prog 0 post (loopK B4 2)) := by
  have hlc := frL_len q.c
  have hln := frL_len q.n
  refine T.loop (fun j : Nat => lc4 (qJ q j)) (fun j => j ≤ 3) (fun j => 4 - j) 0 (by omega) ?_
  intro j hj
  have wj : IntKind.i64.wrap (iN j + 1) = ((j + 1 : Nat) : Int) := wrap_nat j (by omega)
  by_cases h : j < 3
  · have hDj := D (q.all.getD j fr0)
    have l1 := cntF_le q.c (q.all.getD j fr0)
    have l2 := cntF_le q.n (q.all.getD j fr0)
    by_cases he : eqF (q.all.getD j fr0) q.x = true
    · rw [if_pos he] at hDj
      refine T.path mix (kcr_0 (qJ q j) (by simp [iN, qJ]; omega) (by simp [iN]) (getD3 ha h) hf hx he (by simp [iN, qJ]; omega) (mapI_get (balL_get _ _ _ j h)) (by simp [qJ, balL_len, iN]; omega) ?_)
      intro st hst
      refine ⟨j + 1, ?_, h, by omega⟩
      have e : (balL q.all q.c q.n j).set j (IntKind.i64.wrap ((cntF q.c (q.all.getD j fr0) : Int) + IntKind.i64.wrap (iN (frL q.n).length - iN (frL q.c).length))) = balL q.all q.c q.n (j + 1) := by
        refine balL_set _ _ _ j h _ ?_
        rw [hlc, hln]
        simp only [iN]
        rw [wrapS ((q.n.length : Int) - (q.c.length : Int)) (by omega) (by omega), wrapS _ (by omega) (by omega)]
        omega
      simp only [qJ, iN, Int.toNat_natCast, Nat.zero_add, ← List.map_set] at hst
      simp only [iN] at e wj
      rw [e, wj] at hst
      exact hst
    · rw [if_neg he] at hDj
      refine T.path mix (kcr_1 (qJ q j) (by simp [iN, qJ]; omega) (by simp [iN]) (getD3 ha h) hf hx (Bool.eq_false_iff.2 he) ?_)
      intro st hst
      refine ⟨j + 1, ?_, h, by omega⟩
      have e := balL_keep q.all q.c q.n j h (by omega)
      simp only [qJ] at hst
      rw [e, wj] at hst
      exact hst
  · obtain rfl : j = 3 := by omega
    refine T.out mix (kcx_0 (qJ q 3) (by simp [iN, qJ]) (by simp [iN, qJ]; omega) ?_)
    simp only [qJ, balL_3]
    exact hp

theorem ld_run (q : Q4) (c : List Fr) (ha : q.all.length = 3) (hk : q.k < 30) (hc : c.length ≤ 6) {R : St → Prop} {post : Exit → St → Prop} (hR : ∀ st, Ren 0 st (lo4 { qD q c 0 with k := q.k + 1 }) → R st) :
    T Try.prog 0 (.loop (loopC B4 3)) (ld4 (qD q c 0)) (TK Try.prog 0 (andThen R post) (loopK B4 3)) := by
  refine T.loop (fun j : Nat => ld4 (qD q c j)) (fun j => j ≤ 3) (fun j => 4 - j) 0 (by omega) ?_
  intro j hj
  have wj : IntKind.i64.wrap (iN j + 1) = ((j + 1 : Nat) : Int) := wrap_nat j (by omega)
  by_cases h : j < 3
  · refine T.path mix (kdr_0 (qD q c j) (by simp [iN, qD]; omega) (by simp [iN]) (getD3 ha h) (count_ct c _ (by omega)) (by simp [iN, qD]; omega) (mapI_get ?_) (by simp) ?_)
    · simp [qD, cntL, h]
    · intro st hst
      simp only [qD] at hst
      rw [wj] at hst
      exact ⟨j + 1, hst, h, by omega⟩
  · obtain rfl : j = 3 := by omega
    refine T.out mix (kdx_0 (qD q c 3) (by simp [iN, qD]) ?_)
    intro st hst
    refine hR st ?_
    simp only [qD] at hst
    rw [show IntKind.i64.wrap (iN q.k + 1) = ((q.k + 1 : Nat) : Int) from wrap_nat q.k (by omega)] at hst
    exact hst
end Go.Proofs.Ytliflcmdhenckaa

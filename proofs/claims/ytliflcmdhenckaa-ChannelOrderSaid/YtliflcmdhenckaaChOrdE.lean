import Derived.Test.YtliflcmdhenckaaChOrdp
import Derived.Test.YtliflcmdhenckaaAxRd
import Derived.KernelRfl
/-! ChannelOrder's contract. -/
open Go Go.AX Go.Proofs
set_option maxRecDepth 100000
set_option maxHeartbeats 1000000
set_option linter.unusedVariables false
set_option linter.unusedSimpArgs false
namespace Go.Proofs.Ytliflcmdhenckaa
theorem order_ct (L : List Int) (i : Int) : CT Try.prog 3 [] [lstI L, .int .i64 i] [] (.bool true) := by
  have hb : Try.f3.body = some (bodyOf Try.f3) := by kernel_rfl
  have r1 := nextZ_rng L 0 6 (by omega) (by omega)
  obtain ⟨n, hn⟩ : ∃ n : Nat, nextZ L 0 6 = (n : Int) := ⟨(nextZ L 0 6).toNat, by omega⟩
  have c1 := next_ct L 0 6 (by omega)
  rw [hn] at c1 r1
  have hw : IntKind.i64.wrap (1 + (n : Int)) = ((n + 1 : Nat) : Int) := by rw [show (1 : Int) + (n : Int) = (n : Int) + 1 by omega, wrap_nat n (by omega)]
  have c2 := frames_ct L 1 (n + 1) (by omega) (by omega)
  have hlen := frsX_len L 1 (n + 1)
  generalize hm : (frsX L 1 (n + 1)).2 = m at c2
  generalize hc : (frsX L 1 (n + 1)).1 = c at c2 hlen
  have hl := frL_len c
  have r2 := cutZ_rng i ((frL c).length : Nat) (by omega) (by omega)
  have c3 := cut_ct i ((frL c).length : Nat)
  generalize hk : cutZ i ((frL c).length : Nat) = k at r2 c3
  have hh : hasZ c k = true := by simp [hasZ]; omega
  have c4 := del_ct c k
  have c5 := lose_ct c k
  have hx := get_has hh
  unfold loseA at c5
  unfold delZ at c4 c5
  rw [if_pos hh] at c4 c5
  obtain ⟨q, hq⟩ : ∃ q : Nat, k = (q : Int) := ⟨k.toNat, by omega⟩
  subst hq
  rw [Int.toNat_natCast] at c4 c5 hx
  have hd : (c.take q ++ c.drop (q + 1)).length = n := by simp; omega
  have hg : ∀ j, j < n → (c.take q ++ c.drop (q + 1))[j]? = (if j < q then c[j]? else c[j + 1]?) := by
    intro j hj
    rw [List.getElem?_append]
    simp only [List.length_take, List.getElem?_take, List.getElem?_drop]
    split
    · rw [if_pos (by omega), if_pos (by omega)]
    · rw [if_neg (by omega)]; congr 1; omega
  generalize hdd : c.take q ++ c.drop (q + 1) = d at c4 c5 hd hg
  have hdl := frL_len d
  have e1 : IntKind.i64.wrap ((frL c).length - 1) = (n : Int) := by
    rw [hl, hlen, show ((n + 1 : Nat) : Int) - 1 = (n : Int) by omega]; exact wrapJ _ (by omega) (by omega)
  have hy : ∀ (l : List Fr) (j : Nat), j < l.length → l[j]? = some (l.getD j fr0) := by
    intro l j h; rw [List.getD_eq_getElem?_getD, List.getElem?_eq_getElem h]; rfl
  refine CT.path mix Try.func3 hb (Nat.le_of_ble_eq_true rfl) (ord_0 L i n q m c d _ 0 fr0 known_ct c1 (by rw [hw]; exact c2) c3 c4 c5 r2.1 hx (by simp) (by simp only [iN]; rw [e1]; simp; omega) (same_ct d (by omega)) ?_)
  refine T.loop (fun j : Nat => lo3 L i n q m c d fr0 j fr0) (fun j => j ≤ n) (fun j => n + 1 - j) 0 (Nat.zero_le _) ?_
  intro j hj
  by_cases h : j < n
  · have hwj : IntKind.i64.wrap (iN j + 1) = ((j + 1 : Nat) : Int) := wrap_nat j (by omega)
    have g1 := hg j h
    have g2 := hy d j (by omega)
    by_cases hq : j < q
    · rw [if_pos hq, g2] at g1
      refine T.path mix (ordr_1 L i n q m c d fr0 j (d.getD j fr0) (by simp [iN]; omega) (by simp [iN]; omega) (by simp [iN]) (frL_get d _ _ g2) (frL_get c _ _ g1.symm) (by simp) ?_)
      intro st hst
      rw [hwj] at hst
      exact ⟨j + 1, hst, h, by omega⟩
    · rw [if_neg hq, g2] at g1
      refine T.path mix (ordr_0 L i n q m c d fr0 j (d.getD j fr0) (by simp [iN]; omega) (by simp [iN]; omega) (by simp [iN]) (frL_get d _ _ g2) (by rw [hwj]; omega) (by rw [hwj]; exact frL_get c _ _ g1.symm) (by simp) ?_)
      intro st hst
      rw [hwj] at hst
      exact ⟨j + 1, hst, h, by omega⟩
  · exact T.out mix (ordx_0 L i n q m c d fr0 j fr0 (by simp [iN]; omega))

theorem ints_of {n : Nat} {es : List AV} (h : ∀ x ∈ es, ShV Try.prog n 3 x) : ∃ L : List Int, es = L.map (AV.int .i64) := by
  induction es with
  | nil => exact ⟨[], rfl⟩
  | cons x es ih =>
    obtain ⟨L, rfl⟩ := ih fun y hy => h y (List.mem_cons_of_mem _ hy)
    obtain ⟨i, _, rfl⟩ := (h x (by simp)).intD Try.underlying3
    exact ⟨i :: L, rfl⟩

theorem channelOrder_row (avs : List AV) (h : ShVs Try.prog 3 Try.f3.params.toList avs) : CT Try.prog 3 [] avs [] (.bool true) := by
  rw [Try.params3] at h
  obtain ⟨a, _, rfl, ka, h⟩ := h.consD
  obtain ⟨b, _, rfl, kb, h⟩ := h.consD
  obtain rfl := h.nilD
  obtain ⟨es, _, he, rfl⟩ := ka.sliceD Try.underlying22
  obtain ⟨i, _, rfl⟩ := kb.intD Try.underlying3
  obtain ⟨L, rfl⟩ := ints_of he
  exact order_ct L i
#print axioms channelOrder_row
end Go.Proofs.Ytliflcmdhenckaa

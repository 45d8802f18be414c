import Derived.Test.YtliflcmdhenckaaChan2p
import Derived.KernelRfl
/-! Contracts of the channel's other functions. -/
open Go Go.AX Go.Proofs
set_option maxRecDepth 100000
set_option maxHeartbeats 1000000
set_option linter.unusedVariables false
set_option linter.unusedSimpArgs false
namespace Go.Proofs.Ytliflcmdhenckaa
noncomputable def loseA (c : List Fr) (i : Int) : AV := .tup [.lst (frL (delZ c i).2.1), .bool (delZ c i).2.2]
theorem lose_ct (c : List Fr) (i : Int) : CT Try.prog 13 [] [.lst (frL c), .int .i64 i] [] (loseA c i) :=
  CT.pathS mix Try.func13 (show Try.f13.body = some (bodyOf Try.f13) by kernel_rfl) (Nat.le_of_ble_eq_true rfl) (lose_0 c i (delZ c i).1 (delZ c i).2.1 (delZ c i).2.2 (del_ct c i)) rfl
theorem rlose_ct (c : List Fr) (i : Int) : CT Try.prog 30 [] [.lst (frL c), .int .i64 i] [] (loseA c i) :=
  CT.pathS mix Try.func30 (show Try.f30.body = some (bodyOf Try.f30) by kernel_rfl) (Nat.le_of_ble_eq_true rfl) (rlose_0 c i (delZ c i).1 (delZ c i).2.1 (delZ c i).2.2 (rdel_ct c i)) rfl

noncomputable def dblZ (c : List Fr) (i : Int) : List Fr × Bool := if hasZ c i then (sendZ c (c.getD i.toNat fr0), true) else ([], false)
def dblA (y : List Fr × Bool) : AV := .tup [.lst (frL y.1), .bool y.2]
theorem get_has {c : List Fr} {i : Int} (h : hasZ c i = true) : (frL c)[i.toNat]? = some (frA (c.getD i.toNat fr0)) := by
  obtain ⟨g1, g2, g3⟩ := hasZ_true h
  refine frL_get c _ _ ?_
  rw [List.getD_eq_getElem?_getD, List.getElem?_eq_getElem (by omega)]; rfl

theorem dbl_ct (c : List Fr) (i : Int) : CT Try.prog 16 [] [.lst (frL c), .int .i64 i] [] (dblA (dblZ c i)) := by
  unfold dblZ
  by_cases h : hasZ c i = true
  · rw [if_pos h]
    have hh := has_ct c i
    rw [h] at hh
    exact CT.pathS mix Try.func16 (show Try.f16.body = some (bodyOf Try.f16) by kernel_rfl) (Nat.le_of_ble_eq_true rfl) (dbl_1 c i (c.getD i.toNat fr0) (sendZ c (c.getD i.toNat fr0)) true hh rfl (hasZ_true h).2.1 (get_has h) (send_ct c _)) rfl
  · rw [if_neg h]
    have h' : hasZ c i = false := by simpa using h
    have hh := has_ct c i
    rw [h'] at hh
    exact CT.pathW mix Try.func16 (show Try.f16.body = some (bodyOf Try.f16) by kernel_rfl) (Nat.le_of_ble_eq_true rfl) (dbl_0 c i fr0 [] false hh rfl) rfl

theorem rdbl_ct (c : List Fr) (i : Int) : CT Try.prog 31 [] [.lst (frL c), .int .i64 i] [] (dblA (dblZ c i)) := by
  unfold dblZ
  by_cases h : hasZ c i = true
  · rw [if_pos h]
    have hh := rhas_ct c i
    rw [h] at hh
    exact CT.pathS mix Try.func31 (show Try.f31.body = some (bodyOf Try.f31) by kernel_rfl) (Nat.le_of_ble_eq_true rfl) (rdbl_1 c i (c.getD i.toNat fr0) (sendZ c (c.getD i.toNat fr0)) true hh rfl (hasZ_true h).2.1 (get_has h) (rsend_ct c _)) rfl
  · rw [if_neg h]
    have h' : hasZ c i = false := by simpa using h
    have hh := rhas_ct c i
    rw [h'] at hh
    exact CT.pathW mix Try.func31 (show Try.f31.body = some (bodyOf Try.f31) by kernel_rfl) (Nat.le_of_ble_eq_true rfl) (rdbl_0 c i fr0 [] false hh rfl) rfl

theorem same_ct (c : List Fr) (hc : c.length ≤ 1000000) : CT Try.prog 14 [] [.lst (frL c), .lst (frL c)] [] (.bool true) := by
  have hl := frL_len c
  refine CT.path mix Try.func14 (show Try.f14.body = some (bodyOf Try.f14) by kernel_rfl) (Nat.le_of_ble_eq_true rfl) (same_0 c 0 fr0 (by simp) ?_)
  refine T.loop (fun i : Nat => lo14 c i fr0) (fun i => i ≤ c.length) (fun i => c.length + 1 - i) 0 (Nat.zero_le _) ?_
  intro i hi
  by_cases h : i < c.length
  · have hx : c[i]? = some (c.getD i fr0) := by rw [List.getD_eq_getElem?_getD, List.getElem?_eq_getElem h]; rfl
    refine T.path mix (samr_0 c i (c.getD i fr0) (by simp [iN]; omega) (by simp [iN]) (frL_get c _ _ hx) (by simp) ?_)
    intro st hst
    simp only [iN, wrap_nat i (by omega)] at hst
    exact ⟨i + 1, hst, h, by omega⟩
  · exact T.out mix (samx_0 c i fr0 (by simp [iN]; omega))

def eqF (x y : Fr) : Bool := x.k == y.k && (x.r == y.r && (x.q == y.q && (x.c == y.c && (x.f == y.f && true))))
def cntF (c : List Fr) (y : Fr) : Nat := (c.filter (eqF · y)).length

theorem cntF_take (c : List Fr) (y : Fr) (i : Nat) (h : i < c.length) : cntF (c.take (i + 1)) y = cntF (c.take i) y + (if eqF (c.getD i fr0) y then 1 else 0) := by
  unfold cntF
  rw [List.take_add_one, List.filter_append, List.length_append]
  rw [List.getElem?_eq_getElem h]
  have : c.getD i fr0 = c[i] := by rw [List.getD_eq_getElem?_getD, List.getElem?_eq_getElem h]; rfl
  rw [this]
  simp only [Option.toList_some, List.filter_cons, List.filter_nil]
  split <;> rfl

theorem count_ct (c : List Fr) (y : Fr) (hc : c.length ≤ 1000000) : CT Try.prog 17 [] [.lst (frL c), frA y] [] (.int .i64 (cntF c y : Nat)) := by
  have hl := frL_len c
  refine CT.path mix Try.func17 (show Try.f17.body = some (bodyOf Try.f17) by kernel_rfl) (Nat.le_of_ble_eq_true rfl) (cnt_0 c y 0 0 fr0 ?_)
  refine T.loop (fun i : Nat => lo17 c y i (cntF (c.take i) y) fr0) (fun i => i ≤ c.length) (fun i => c.length + 1 - i) 0 (Nat.zero_le _) ?_
  intro i hi
  have hm : cntF (c.take i) y ≤ c.length := Nat.le_trans (List.length_filter_le _ _) (by simp; omega)
  by_cases h : i < c.length
  · have hx : c[i]? = some (c.getD i fr0) := by rw [List.getD_eq_getElem?_getD, List.getElem?_eq_getElem h]; rfl
    have ht := cntF_take c y i h
    by_cases he : eqF (c.getD i fr0) y = true
    · refine T.path mix (cntr_0 c y i (cntF (c.take i) y) (c.getD i fr0) (by simp [iN]; omega) (by simp [iN]) (frL_get c _ _ hx) he ?_)
      intro st hst
      rw [if_pos he] at ht
      simp only [iN, wrap_nat i (by omega), wrap_nat _ (show cntF (c.take i) y < 9223372036854775807 by omega), ← ht] at hst
      exact ⟨i + 1, hst, h, by omega⟩
    · refine T.path mix (cntr_1 c y i (cntF (c.take i) y) (c.getD i fr0) (by simp [iN]; omega) (by simp [iN]) (frL_get c _ _ hx) (Bool.eq_false_iff.2 he) ?_)
      intro st hst
      have ht' : cntF (c.take (i + 1)) y = cntF (c.take i) y := by rw [ht, if_neg he]; rfl
      simp only [iN, wrap_nat i (by omega)] at hst
      rw [← ht'] at hst
      exact ⟨i + 1, hst, h, by omega⟩
  · have he : c.take i = c := List.take_of_length_le (by omega)
    have := cntx_0 c y i (cntF (c.take i) y) fr0 (by simp [iN]; omega)
    rw [he] at this ⊢
    exact T.out mix this

theorem known_ct : CT Try.prog 8 [] [] [] (.bool true) :=
  CT.path mix Try.func8 (show Try.f8.body = some (bodyOf Try.f8) by kernel_rfl) (Nat.zero_le _) (kno_0 () ((send_ct [] p1).nilArgs rfl) (send_ct [p1] p2) (del_ct [p1, p2] 1))

theorem frame_ex (L : List Int) (k : Nat) (hk : k < 4611686018427387904) : ∃ y : Fr × Nat, y.2 ≤ k + 8 ∧ CT Try.prog 27 [some (tapeB L k)] [.ptr 0 0 0] [some (tapeB L y.2)] (frA y.1) := by
  have hb : Try.f27.body = some (bodyOf Try.f27) := by kernel_rfl
  have hn : [AV.ptr 0 0 0].length ≤ Try.f27.ntmps := Nat.le_of_ble_eq_true rfl
  have n0 := next_ct L k 3 (by omega)
  have n1 := next_ct L (k + 1) 8 (by omega)
  have n2 := next_ct L (k + 1 + 1) 5 (by omega)
  have n3 := next_ct L (k + 1 + 1 + 1) 48 (by omega)
  have n4 := next_ct L (k + 1 + 1 + 1 + 1) 8 (by omega)
  have n5 := fun n => next_ct L (k + 1 + 1 + 1 + 1 + 1) n (by omega)
  have n6 := fun n => next_ct L (k + 1 + 1 + 1 + 1 + 1 + 1) n (by omega)
  by_cases h5 : nextZ L (k + 1 + 1 + 1 + 1) 8 = 0
  · by_cases h1 : IntKind.i64.wrap (1 + nextZ L k 3) = 1
    · exact ⟨(⟨_, _, _, _, _⟩, _), Nat.le_of_ble_eq_true (by simp), CT.path mix Try.func27 hb hn (frm_0 L k _ _ _ _ _ _ _ n0 n1 n2 n3 n4 (by simpa using h5) (n5 3) (by simpa using h1) (n6 2))⟩
    · by_cases h2 : IntKind.i64.wrap (1 + nextZ L k 3) = 2
      · exact ⟨(⟨_, _, _, _, _⟩, _), Nat.le_of_ble_eq_true (by simp), CT.path mix Try.func27 hb hn (frm_1 L k _ _ _ _ _ _ _ n0 n1 n2 n3 n4 (by simpa using h5) (n5 3) (by simpa using h1) (by simpa using h2) (n6 2))⟩
      · exact ⟨(⟨_, _, _, _, _⟩, _), Nat.le_of_ble_eq_true (by simp), CT.path mix Try.func27 hb hn (frm_2 L k _ _ _ _ _ _ _ n0 n1 n2 n3 n4 (by simpa using h5) (n5 3) (by simpa using h1) (by simpa using h2) (n6 3))⟩
  · by_cases h1 : IntKind.i64.wrap (1 + nextZ L k 3) = 1
    · exact ⟨(⟨_, _, _, _, _⟩, _), Nat.le_of_ble_eq_true (by simp), CT.path mix Try.func27 hb hn (frm_3 L k _ _ _ _ _ 0 _ n0 n1 n2 n3 n4 (by simpa using h5) (by simpa using h1) (n5 2))⟩
    · by_cases h2 : IntKind.i64.wrap (1 + nextZ L k 3) = 2
      · exact ⟨(⟨_, _, _, _, _⟩, _), Nat.le_of_ble_eq_true (by simp), CT.path mix Try.func27 hb hn (frm_4 L k _ _ _ _ _ 0 _ n0 n1 n2 n3 n4 (by simpa using h5) (by simpa using h1) (by simpa using h2) (n5 2))⟩
      · exact ⟨(⟨_, _, _, _, _⟩, _), Nat.le_of_ble_eq_true (by simp), CT.path mix Try.func27 hb hn (frm_5 L k _ _ _ _ _ 0 _ n0 n1 n2 n3 n4 (by simpa using h5) (by simpa using h1) (by simpa using h2) (n5 3))⟩
end Go.Proofs.Ytliflcmdhenckaa

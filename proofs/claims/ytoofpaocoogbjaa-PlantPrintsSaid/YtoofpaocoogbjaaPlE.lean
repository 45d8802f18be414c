import Derived.Test.YtoofpaocoogbjaaPl1p
import Derived.KernelRfl
/-! Plant: the leaves. -/
open Go Go.AX Go.Proofs
set_option maxRecDepth 100000
set_option maxHeartbeats 1000000
set_option linter.unusedVariables false
set_option linter.unusedSimpArgs false
namespace Go.Proofs.Ytoofpaocoogbjaa
/-- The first number from 's' on, of 'n', with a property. -/
def fnd (p : Nat → Bool) : Nat → Nat → Option Nat
  | _, 0 => none
  | s, n + 1 => match p s with
    | true => some s
    | false => fnd p (s + 1) n

theorem fnd_step {p : Nat → Bool} {s k : Nat} (h : s < k) : fnd p s (k - s) = (match p s with | true => some s | false => fnd p (s + 1) (k - (s + 1))) := by
  rw [show k - s = (k - (s + 1)) + 1 by omega, fnd]
theorem fnd_end {p : Nat → Bool} {s k : Nat} (h : ¬ s < k) : fnd p s (k - s) = none := by
  rw [show k - s = 0 by omega, fnd]

def resI (o : Option Nat) : Int := match o with
  | some j => (j : Int)
  | none => -1
theorem resI_pos (o : Option Nat) : decide (0 ≤ resI o) = o.isSome := by
  cases o <;> simp [resI]

noncomputable def inZ (O : List Int) (x : Int) : Bool := (fnd (fun j => x == O.getD j 0) 0 O.length).isSome
noncomputable def ovZ (L O : List Int) : Bool := (fnd (fun j => inZ O (L.getD j 0)) 0 L.length).isSome

theorem lI_len (l : List Int) : (l.map (AV.int .i64)).length = l.length := by simp
theorem lI_get {l : List Int} {j : Nat} (h : j < l.length) : (l.map (AV.int .i64))[j]? = some (.int .i64 (l.getD j 0)) := by
  rw [List.getElem?_map, List.getD_eq_getElem?_getD, List.getElem?_eq_getElem h]; rfl

theorem wrapJ (x : Int) (h0 : 0 ≤ x) (h1 : x < 9223372036854775808) : IntKind.i64.wrap x = x := by
  have e1 : (2 : Int) ^ IntKind.i64.bits = 18446744073709551616 := by decide
  have e2 : (2 : Int) ^ (IntKind.i64.bits - 1) = 9223372036854775808 := by decide
  have e3 : IntKind.i64.signed = true := by decide
  simp only [IntKind.wrap, e1, e2, e3, Bool.true_and, decide_eq_true_eq]
  split <;> omega

theorem index_ct (L : List Int) (v : Int) (hL : L.length ≤ 1000000) : CT Try.prog 100 [] [lI L, .int .i64 v] [] (.int .i64 (resI (fnd (fun j => v == L.getD j 0) 0 L.length))) := by
  refine CT.path mix Try.func100 (show Try.f100.body = some (bodyOf Try.f100) by kernel_rfl) (Nat.le_of_ble_eq_true rfl) (ix_0 ⟨L, [], v, 0, 0, false⟩ ?_)
  rw [lI_len]
  generalize hr : fnd (fun j => v == L.getD j 0) 0 L.length = r
  refine T.loop (fun j : Nat => lo100 ⟨L, [], v, j, 0, false⟩) (fun j => j ≤ L.length ∧ fnd (fun j => v == L.getD j 0) j (L.length - j) = r) (fun j => L.length + 1 - j) 0 ⟨Nat.zero_le _, hr⟩ ?_
  rintro j ⟨hj, hf⟩
  by_cases h : j < L.length
  · rw [fnd_step h] at hf
    by_cases he : (v == L.getD j 0) = true
    · simp only [he] at hf
      subst hf
      exact T.out mix (ixy_0 ⟨L, [], v, j, L.getD j 0, false⟩ (by simp [iN]; omega) (by simp [iN]) (lI_get h) he)
    · have he := Bool.eq_false_iff.2 he
      simp only [he] at hf
      refine T.path mix (ixr_0 ⟨L, [], v, j, L.getD j 0, false⟩ (by simp [iN]; omega) (by simp [iN]) (lI_get h) he ?_)
      intro st hst
      rw [show IntKind.i64.wrap (iN j + 1) = ((j + 1 : Nat) : Int) from wrap_nat j (by omega)] at hst
      exact ⟨j + 1, hst, ⟨h, hf⟩, by omega⟩
  · rw [fnd_end h] at hf
    subst hf
    exact T.out mix (ixx_0 ⟨L, [], v, j, 0, false⟩ (by simp [iN]; omega))

theorem contains_ct (L : List Int) (v : Int) (hL : L.length ≤ 1000000) : CT Try.prog 58 [] [lI L, .int .i64 v] [] (.bool (inZ L v)) :=
  CT.pathS mix Try.func58 (show Try.f58.body = some (bodyOf Try.f58) by kernel_rfl) (Nat.le_of_ble_eq_true rfl) (con_0 ⟨L, [], v, 0, _, false⟩ (index_ct L v hL)) (congrArg AV.bool (resI_pos _))

theorem closure_ct (O : List Int) (v : Int) (hO : O.length ≤ 1000000) : CT Try.prog 57 [some (oB O)] [.int .i64 v, .ptr 0 0 0] [some (oB O)] (.bool (inZ O v)) :=
  CT.path mix Try.func57 (show Try.f57.body = some (bodyOf Try.f57) by kernel_rfl) (Nat.le_of_ble_eq_true rfl) (clo_0 ⟨[], O, v, 0, 0, inZ O v⟩ (contains_ct O v hO))

theorem indexF_ct (L O : List Int) (hL : L.length ≤ 1000000) (hO : O.length ≤ 1000000) : CT Try.prog 99 [some (oB O)] [lI L, .fn 57 [.ptr 0 0 0]] [some (oB O)] (.int .i64 (resI (fnd (fun j => inZ O (L.getD j 0)) 0 L.length))) := by
  refine CT.path mix Try.func99 (show Try.f99.body = some (bodyOf Try.f99) by kernel_rfl) (Nat.le_of_ble_eq_true rfl) (if_0 ⟨L, O, 0, 0, 0, false⟩ ?_)
  rw [lI_len]
  generalize hr : fnd (fun j => inZ O (L.getD j 0)) 0 L.length = r
  refine T.loop (fun j : Nat => lo99 ⟨L, O, 0, j, 0, false⟩) (fun j => j ≤ L.length ∧ fnd (fun j => inZ O (L.getD j 0)) j (L.length - j) = r) (fun j => L.length + 1 - j) 0 ⟨Nat.zero_le _, hr⟩ ?_
  rintro j ⟨hj, hf⟩
  by_cases h : j < L.length
  · rw [fnd_step h] at hf
    have hc := closure_ct O (L.getD j 0) hO
    by_cases he : inZ O (L.getD j 0) = true
    · simp only [he] at hf
      subst hf
      exact T.out mix (ify_0 ⟨L, O, L.getD j 0, j, 0, inZ O (L.getD j 0)⟩ (by simp [iN]; omega) (by simp [iN]) (lI_get h) hc he)
    · have he := Bool.eq_false_iff.2 he
      simp only [he] at hf
      refine T.path mix (ifr_0 ⟨L, O, L.getD j 0, j, 0, inZ O (L.getD j 0)⟩ (by simp [iN]; omega) (by simp [iN]) (lI_get h) hc he ?_)
      intro st hst
      rw [show IntKind.i64.wrap (iN j + 1) = ((j + 1 : Nat) : Int) from wrap_nat j (by omega)] at hst
      exact ⟨j + 1, hst, ⟨h, hf⟩, by omega⟩
  · rw [fnd_end h] at hf
    subst hf
    exact T.out mix (ifx_0 ⟨L, O, 0, j, 0, false⟩ (by simp [iN]; omega))

theorem containsF_ct (L O : List Int) (hL : L.length ≤ 1000000) (hO : O.length ≤ 1000000) : CT Try.prog 56 [some (oB O)] [lI L, .fn 57 [.ptr 0 0 0]] [some (oB O)] (.bool (ovZ L O)) :=
  CT.pathS mix Try.func56 (show Try.f56.body = some (bodyOf Try.f56) by kernel_rfl) (Nat.le_of_ble_eq_true rfl) (cf_0 ⟨L, O, 0, 0, _, false⟩ (indexF_ct L O hL hO)) (congrArg AV.bool (resI_pos _))

theorem sameInts_ct (L : List Int) (hL : L.length ≤ 1000000) : CT Try.prog 18 [] [lI L, lI L] [] (.bool true) := by
  refine CT.path mix Try.func18 (show Try.f18.body = some (bodyOf Try.f18) by kernel_rfl) (Nat.le_of_ble_eq_true rfl) (si_0 ⟨L, [], 0, 0, 0, false⟩ (by simp) ?_)
  refine T.loop (fun j : Nat => lo18 ⟨L, [], 0, j, 0, false⟩) (fun j => j ≤ L.length) (fun j => L.length + 1 - j) 0 (Nat.zero_le _) ?_
  intro j hj
  by_cases h : j < L.length
  · refine T.path mix (sir_0 ⟨L, [], L.getD j 0, j, 0, false⟩ (by simp [iN]; omega) (by simp [iN]) (lI_get h) (by simp) ?_)
    intro st hst
    rw [show IntKind.i64.wrap (iN j + 1) = ((j + 1 : Nat) : Int) from wrap_nat j (by omega)] at hst
    exact ⟨j + 1, hst, h, by omega⟩
  · exact T.out mix (six_0 ⟨L, [], 0, j, 0, false⟩ (by simp [iN]; omega))

theorem onF_ct (x : Bd) : CT Try.prog 59 [] [bdA x] [] (.bool (onF x)) :=
  CT.path mix Try.func59 (show Try.f59.body = some (bodyOf Try.f59) by kernel_rfl) (Nat.le_of_ble_eq_true rfl) (onf_0 x)

theorem inT_ct (x : Bd) : CT Try.prog 60 [] [bdA x] [] (.bool (inT x)) := by
  by_cases h : onF x = true
  · exact CT.pathS mix Try.func60 (show Try.f60.body = some (bodyOf Try.f60) by kernel_rfl) (Nat.le_of_ble_eq_true rfl) (intr_0 x (onF_ct x) h) (by simp [inT, h])
  · have h := Bool.eq_false_iff.2 h
    exact CT.pathS mix Try.func60 (show Try.f60.body = some (bodyOf Try.f60) by kernel_rfl) (Nat.le_of_ble_eq_true rfl) (intr_1 x (onF_ct x) h) (by simp [inT, h])

noncomputable def footZ (x : Bd) : List Int := if x.c = -1 then [] else if x.t = -1 then [x.c] else if x.t = x.c then [x.c] else [if x.t < x.c then x.t else x.c, if x.c < x.t then x.t else x.c]
theorem footZ_len (x : Bd) : (footZ x).length ≤ 1000000 := by
  unfold footZ
  repeat' split
  all_goals simp

theorem foot_ct (x : Bd) : CT Try.prog 19 [] [bdA x] [] (lI (footZ x)) := by
  have hb : Try.f19.body = some (bodyOf Try.f19) := by kernel_rfl
  have hn : [bdA x].length ≤ Try.f19.ntmps := Nat.le_of_ble_eq_true rfl
  have o := onF_ct x
  have i := inT_ct x
  unfold footZ
  by_cases h1 : x.c = -1
  · rw [if_pos h1]
    exact CT.pathW mix Try.func19 hb hn (foot_0 x o (by simp [onF, h1])) rfl
  · have ho : onF x = true := by simpa [onF] using h1
    rw [if_neg h1]
    by_cases h2 : x.t = -1
    · rw [if_pos h2]
      exact CT.pathW mix Try.func19 hb hn (foot_1 x o (by simp [ho]) i (by simp [inT, h2]) rfl) rfl
    · have hi : inT x = true := by simp [inT, ho, h2]
      rw [if_neg h2]
      by_cases h3 : x.t = x.c
      · rw [if_pos h3]
        exact CT.pathW mix Try.func19 hb hn (foot_2 x o (by simp [ho]) i (by simp [hi]) (by simpa using h3) rfl) rfl
      · rw [if_neg h3]
        exact CT.pathW mix Try.func19 hb hn (foot_3 x o (by simp [ho]) i (by simp [hi]) (by simpa using h3) rfl) rfl

theorem rfoot_ct (x : Bd) : CT Try.prog 20 [] [bdA x] [] (lI (footZ x)) := by
  have hb : Try.f20.body = some (bodyOf Try.f20) := by kernel_rfl
  have hn : [bdA x].length ≤ Try.f20.ntmps := Nat.le_of_ble_eq_true rfl
  unfold footZ
  by_cases h1 : x.c = -1
  · rw [if_pos h1]
    exact CT.pathW mix Try.func20 hb hn (rfoot_0 x (by simpa using h1)) rfl
  · rw [if_neg h1]
    by_cases h2 : x.t = -1
    · rw [if_pos h2]
      exact CT.pathW mix Try.func20 hb hn (rfoot_1 x (by simpa using h1) (by simpa using h2) rfl) rfl
    · rw [if_neg h2]
      by_cases h3 : x.t = x.c
      · rw [if_pos h3]
        exact CT.pathW mix Try.func20 hb hn (rfoot_2 x (by simpa using h1) (by simpa using h2) (by simpa using h3) rfl) rfl
      · rw [if_neg h3]
        exact CT.pathW mix Try.func20 hb hn (rfoot_3 x (by simpa using h1) (by simpa using h2) (by simpa using h3) rfl) rfl
#print axioms rfoot_ct
end Go.Proofs.Ytoofpaocoogbjaa

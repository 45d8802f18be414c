import Derived.Test.YtnpmcikbnnlmkaaRt4p
import Derived.KernelRfl
/-! Has and Insert. -/
open Go Go.AX Go.Proofs
set_option maxRecDepth 100000
set_option maxHeartbeats 1000000
set_option linter.unusedVariables false
set_option linter.unusedSimpArgs false
namespace Go.Proofs.Ytnpmcikbnnlmkaa
theorem fnd_none {p : Nat → Bool} : ∀ {n s : Nat}, fnd p s n = none → ∀ i, s ≤ i → i < s + n → p i = false := by
  intro n
  induction n with
  | zero => intro s _ i h1 h2; omega
  | succ n ih =>
    intro s h i h1 h2
    rw [fnd] at h
    cases hp : p s with
    | true => rw [hp] at h; cases h
    | false =>
      rw [hp] at h
      by_cases e : i = s
      · rw [e]; exact hp
      · exact ih h i (by omega) (by omega)

noncomputable def hasZ (l : List Int) (x : Int) : Bool := (fnd (fun i => l.getD i 0 == x) 0 l.length).isSome
theorem hasZ_false {l : List Int} {x : Int} (h : hasZ l x = false) : x ∉ l := by
  intro hm
  unfold hasZ at h
  have hn : fnd (fun i => l.getD i 0 == x) 0 l.length = none := by simpa using h
  obtain ⟨i, hi, rfl⟩ := List.mem_iff_getElem.1 hm
  have := fnd_none hn i (Nat.zero_le _) (by omega)
  rw [List.getD_eq_getElem?_getD, List.getElem?_eq_getElem hi] at this
  simp at this

theorem has_ct (l : List Int) (x : Int) (hl : l.length ≤ 1000000) : CT Try.prog 23 [] [lI l, .int .i64 x] [] (.bool (hasZ l x)) := by
  have hll := lI_len l
  refine CT.path mix Try.func23 (show Try.f23.body = some (bodyOf Try.f23) by kernel_rfl) (Nat.le_of_ble_eq_true rfl) (ha_0 ⟨[], [], l, [], [], 0, 0, 0, 0, 0, x, 0, 0, false⟩ ?_)
  unfold hasZ
  generalize hr : fnd (fun i => l.getD i 0 == x) 0 l.length = r
  refine T.loop (fun i : Nat => lo23 ⟨[], [], l, [], [], 0, 0, 0, 0, 0, x, i, 0, false⟩) (fun i => i ≤ l.length ∧ fnd (fun i => l.getD i 0 == x) i (l.length - i) = r) (fun i => l.length + 1 - i) 0 ⟨Nat.zero_le _, hr⟩ ?_
  rintro i ⟨hi, hf⟩
  by_cases h : i < l.length
  · rw [fnd_step h] at hf
    by_cases he : (l.getD i 0 == x) = true
    · simp only [he] at hf
      subst hf
      exact T.out mix (hay_0 ⟨[], [], l, [], [], 0, 0, 0, 0, 0, x, i, l.getD i 0, false⟩ (decide_eq_true (by simp only [iN, hll]; omega)) (by simp [iN]) (lI_get h) he)
    · have he := Bool.eq_false_iff.2 he
      simp only [he] at hf
      refine T.path mix (har_0 ⟨[], [], l, [], [], 0, 0, 0, 0, 0, x, i, l.getD i 0, false⟩ (decide_eq_true (by simp only [iN, hll]; omega)) (by simp [iN]) (lI_get h) he ?_)
      intro st hst
      simp only [iN, wrap_nat i (show i < 9223372036854775807 by omega)] at hst
      exact ⟨i + 1, hst, ⟨h, hf⟩, by omega⟩
  · rw [fnd_end h] at hf
    subst hf
    exact T.out mix (hax_0 ⟨[], [], l, [], [], 0, 0, 0, 0, 0, x, i, 0, false⟩ (decide_eq_false (by simp only [iN, hll]; omega)))

def insB (x : Int) : List Int → List Int
  | [] => [x]
  | a :: r => if x < a then x :: a :: r else a :: insB x r

noncomputable def inS (l : List Int) (x : Int) (y : Nat × List Int × Bool) : St := match y.2.1 with
  | [] => lz25 ⟨[], [], l, [], [], 0, 0, 0, 0, 0, x, y.1, 0, false⟩
  | _ => lo25 ⟨[], [], l, y.2.1, [], 0, 0, 0, 0, 0, x, y.1, 0, y.2.2⟩

theorem ins_ct (l : List Int) (x : Int) (hl : l.length ≤ 1000000) : CT Try.prog 25 [] [lI l, .int .i64 x] [] (lI (insB x l)) := by
  have hll := lI_len l
  refine CT.path mix Try.func25 (show Try.f25.body = some (bodyOf Try.f25) by kernel_rfl) (Nat.le_of_ble_eq_true rfl) (in_0 ⟨[], [], l, [], [], 0, 0, 0, 0, 0, x, 0, 0, false⟩ ?_)
  generalize hres : insB x l = res
  refine T.loop (fun y : Nat × List Int × Bool => inS l x y) (fun y => y.1 ≤ l.length ∧ y.2.1.length ≤ y.1 + 1 ∧ (y.2.2 = false → y.2.1 = l.take y.1 ∧ res = y.2.1 ++ insB x (l.drop y.1)) ∧ (y.2.2 = true → res = y.2.1 ++ l.drop y.1 ∧ y.2.1 ≠ [])) (fun y => l.length + 1 - y.1) (0, [], false)
    ⟨Nat.zero_le _, by simp, fun _ => ⟨by simp, by simp [hres]⟩, fun h => by cases h⟩ ?_
  rintro ⟨i, o, b⟩ ⟨hi, ho, hF, hT⟩
  simp only at hi ho hF hT
  have step : ∀ (h : i < l.length), l.drop i = l.getD i 0 :: l.drop (i + 1) ∧ l.take (i + 1) = l.take i ++ [l.getD i 0] := by
    intro h
    have e : l.getD i 0 = l[i] := by rw [List.getD_eq_getElem?_getD, List.getElem?_eq_getElem h]; rfl
    rw [e]
    exact ⟨List.drop_eq_getElem_cons h, by rw [List.take_add_one, List.getElem?_eq_getElem h]; rfl⟩
  have hw : IntKind.i64.wrap (iN i + 1) = ((i + 1 : Nat) : Int) := wrap_nat i (by omega)
  have lenE : ∀ (u : List Int) (y : AV), (u.map (AV.int .i64)).length + [y].length = u.length + 1 := by intro u y; simp
  cases ho' : o with
  | nil =>
    subst ho'
    cases hb : b with
    | true => exact absurd rfl (hT hb).2
    | false =>
      subst hb
      obtain ⟨h1, h2⟩ := hF rfl
      simp only [List.nil_append] at h2
      by_cases h : i < l.length
      · obtain ⟨e1, e2⟩ := step h
        by_cases hx : x < l.getD i 0
        · refine T.path mix (inza_0 ⟨[], [], l, [], [], 0, 0, 0, 0, 0, x, i, l.getD i 0, false⟩ (decide_eq_true (by simp only [iN, hll]; omega)) (by simp [iN]) (lI_get h) (decide_eq_true hx) (by simp) (by simp) (by simp) (by simp) (by simp) (by simp) ?_)
          intro st hst
          rw [hw] at hst
          refine ⟨(i + 1, [x, l.getD i 0], true), hst, ⟨h, by simp only [List.length_cons, List.length_nil]; omega, fun h => (by cases h), fun _ => ⟨?_, by simp⟩⟩, by simp only; omega⟩
          rw [h2, e1, insB, if_pos hx]; rfl
        · refine T.path mix (inzb_0 ⟨[], [], l, [], [], 0, 0, 0, 0, 0, x, i, l.getD i 0, false⟩ (decide_eq_true (by simp only [iN, hll]; omega)) (by simp [iN]) (lI_get h) (decide_eq_false hx) (by simp) (by simp) (by simp) ?_)
          intro st hst
          rw [hw] at hst
          refine ⟨(i + 1, [l.getD i 0], false), hst, ⟨h, by simp only [List.length_cons, List.length_nil]; omega, fun _ => ⟨by rw [e2, ← h1]; rfl, ?_⟩, fun h => by cases h⟩, by simp only; omega⟩
          rw [h2, e1, insB, if_neg hx]; rfl
      · have e : l.drop i = [] := List.drop_of_length_le (by omega)
        rw [e] at h2
        rw [h2]
        exact T.out mix (inzx_0 ⟨[], [], l, [], [], 0, 0, 0, 0, 0, x, i, 0, false⟩ (decide_eq_false (by simp only [iN, hll]; omega)) (by simp) (by simp) (by simp))
  | cons o0 o1 =>
    rw [← ho']
    have hS : inS l x (i, o, b) = lo25 ⟨[], [], l, o, [], 0, 0, 0, 0, 0, x, i, 0, b⟩ := by rw [ho']; rfl
    have next : ∀ (o' : List Int) (b' : Bool) (st : St), o' ≠ [] → Ren 0 st (lo25 ⟨[], [], l, o', [], 0, 0, 0, 0, 0, x, i + 1, 0, b'⟩) → Ren 0 st (inS l x (i + 1, o', b')) := by
      intro o' b' st hne hst
      cases o' with
      | nil => exact absurd rfl hne
      | cons _ _ => exact hst
    show T Try.prog 0 _ (inS l x (i, o, b)) _
    rw [hS]
    by_cases h : i < l.length
    · obtain ⟨e1, e2⟩ := step h
      cases hb : b with
      | true =>
        subst hb
        obtain ⟨h1, h2⟩ := hT rfl
        refine T.path mix (inod_0 ⟨[], [], l, o, [], 0, 0, 0, 0, 0, x, i, l.getD i 0, true⟩ (decide_eq_true (by simp only [iN, hll]; omega)) rfl (by simp [iN]) (lI_get h) (by simp) (by simp) (by simp; omega) (by simp; omega) ?_)
        intro st hst
        rw [hw, lenE] at hst
        refine ⟨(i + 1, o ++ [l.getD i 0], true), next _ _ _ (by simp) ?_, ⟨h, by simp only [List.length_append, List.length_cons, List.length_nil]; omega, fun h => (by cases h), fun _ => ⟨by rw [h1, e1]; simp, by simp⟩⟩, by simp only; omega⟩
        unfold lo25 dB
        simp only [List.map_append, List.length_append, List.length_cons, List.length_nil, Nat.zero_add, List.map_cons, List.map_nil]
        exact hst
      | false =>
        subst hb
        obtain ⟨h1, h2⟩ := hF rfl
        by_cases hx : x < l.getD i 0
        · refine T.path mix (inoa_0 ⟨[], [], l, o, [], 0, 0, 0, 0, 0, x, i, l.getD i 0, false⟩ (decide_eq_true (by simp only [iN, hll]; omega)) rfl (by simp [iN]) (lI_get h) (decide_eq_true hx) (by simp) (by simp) (by simp; omega) (by simp; omega) (by simp) (by simp) (by simp; omega) (by simp; omega) ?_)
          intro st hst
          rw [hw] at hst
          have hlen2 : o.length ≤ i := by rw [h1]; simp; omega
          refine ⟨(i + 1, o ++ [x, l.getD i 0], true), next _ _ _ (by simp) ?_, ⟨h, by simp only [List.length_append, List.length_cons, List.length_nil]; omega, fun h => (by cases h), fun _ => ⟨by rw [h2, e1, insB, if_pos hx]; simp, by simp⟩⟩, by simp only; omega⟩
          have e5 : (o.map (AV.int .i64) ++ [AV.int .i64 x]).length + [AV.int .i64 (l.getD i 0)].length = (o ++ [x, l.getD i 0]).length := by simp
          simp only at hst
          rw [e5] at hst
          unfold lo25 dB
          simp only [List.map_append, List.map_cons, List.map_nil]
          rw [List.append_assoc] at hst
          exact hst
        · refine T.path mix (inob_0 ⟨[], [], l, o, [], 0, 0, 0, 0, 0, x, i, l.getD i 0, false⟩ (decide_eq_true (by simp only [iN, hll]; omega)) rfl (by simp [iN]) (lI_get h) (decide_eq_false hx) (by simp) (by simp) (by simp; omega) (by simp; omega) ?_)
          intro st hst
          rw [hw, lenE] at hst
          refine ⟨(i + 1, o ++ [l.getD i 0], false), next _ _ _ (by simp) ?_, ⟨h, by simp only [List.length_append, List.length_cons, List.length_nil]; omega, fun _ => ⟨by rw [e2, ← h1], by rw [h2, e1, insB, if_neg hx]; simp⟩, fun h => by cases h⟩, by simp only; omega⟩
          unfold lo25 dB
          simp only [List.map_append, List.length_append, List.length_cons, List.length_nil, Nat.zero_add, List.map_cons, List.map_nil]
          exact hst
    · have e : l.drop i = [] := List.drop_of_length_le (by omega)
      cases hb : b with
      | true =>
        subst hb
        obtain ⟨h1, _⟩ := hT rfl
        rw [e, List.append_nil] at h1
        rw [h1]
        exact T.out mix (inox_1 ⟨[], [], l, o, [], 0, 0, 0, 0, 0, x, i, 0, true⟩ (decide_eq_false (by simp only [iN, hll]; omega)) rfl (by simp))
      | false =>
        subst hb
        obtain ⟨_, h2⟩ := hF rfl
        rw [e] at h2
        rw [show lI res = .lst (o.map (AV.int .i64) ++ [AV.int .i64 x]) by rw [h2]; simp [lI, insB]]
        exact T.out mix (inox_0 ⟨[], [], l, o, [], 0, 0, 0, 0, 0, x, i, 0, false⟩ (decide_eq_false (by simp only [iN, hll]; omega)) rfl (by simp) (by simp) (by simp; omega) (by simp; omega) (by simp))
#print axioms ins_ct
end Go.Proofs.Ytnpmcikbnnlmkaa

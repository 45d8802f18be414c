/- Parts of the proof: RtL, RtM, RtX, Rt5p, RtT, Rt6p, RtS, Rt7p, RtN, RtO, Rt8p, RtP, RtR, RtQ, Rt11p, RtA, Rt13p, RtC, RtD, Rt9p, RtU, Gi1p, GiA, GiB, CmD, Cm2m, CmB. -/
import Derived.KernelRfl
import Derived.Test.YtcgegbmnpjfjlaaProg
import Derived.Test.YtcgegbmnpjfjlaaGirthNoneM3
open Go Go.AX Go.Proofs
set_option maxRecDepth 100000
set_option linter.unusedVariables false
set_option linter.unusedSimpArgs false
namespace Go.Proofs.Ytcgegbmnpjfjlaa
theorem fnd_none {p : Nat → Bool} : ∀ {n s : Nat}, fnd p s n = none → ∀ i, s ≤ i → i < s + n → p i = false := by
  intro n
  induction n with
  | zero => intro s _ i h1 h2; omega
  | succ n ih =>
    intro s h i h1 h2
    rw [fnd] at h
    cases hp : p s with
    | true => rw [hp] at h; cases h
    | false =>
      rw [hp] at h
      by_cases e : i = s
      · rw [e]; exact hp
      · exact ih h i (by omega) (by omega)
noncomputable def hasZ (l : List Int) (x : Int) : Bool := (fnd (fun i => l.getD i 0 == x) 0 l.length).isSome
theorem hasZ_false {l : List Int} {x : Int} (h : hasZ l x = false) : x ∉ l := by
  intro hm
  unfold hasZ at h
  have hn : fnd (fun i => l.getD i 0 == x) 0 l.length = none := by simpa using h
  obtain ⟨i, hi, rfl⟩ := List.mem_iff_getElem.1 hm
  have := fnd_none hn i (Nat.zero_le _) (by omega)
  rw [List.getD_eq_getElem?_getD, List.getElem?_eq_getElem hi] at this
  simp at this
theorem has_ct (l : List Int) (x : Int) (hl : l.length ≤ 1000000) : CT Try.prog 13 [] [lI l, .int .i64 x] [] (.bool (hasZ l x)) := by
  have hll := lI_len l
  refine CT.path mix Try.func13 (show Try.f13.body = some (bodyOf Try.f13) by kernel_rfl) (Nat.le_of_ble_eq_true rfl) (ha_0 ⟨[], [], l, [], [], 0, 0, 0, 0, 0, x, 0, 0, false⟩ ?_)
  unfold hasZ
  generalize hr : fnd (fun i => l.getD i 0 == x) 0 l.length = r
  refine T.loop (fun i : Nat => lo23 ⟨[], [], l, [], [], 0, 0, 0, 0, 0, x, i, 0, false⟩) (fun i => i ≤ l.length ∧ fnd (fun i => l.getD i 0 == x) i (l.length - i) = r) (fun i => l.length + 1 - i) 0 ⟨Nat.zero_le _, hr⟩ ?_
  rintro i ⟨hi, hf⟩
  by_cases h : i < l.length
  · rw [fnd_step h] at hf
    by_cases he : (l.getD i 0 == x) = true
    · simp only [he] at hf
      subst hf
      exact T.out mix (hay_0 ⟨[], [], l, [], [], 0, 0, 0, 0, 0, x, i, l.getD i 0, false⟩ (decide_eq_true (by simp only [iN, hll]; omega)) (by simp [iN]) (lI_get h) he)
    · have he := Bool.eq_false_iff.2 he
      simp only [he] at hf
      refine T.path mix (har_0 ⟨[], [], l, [], [], 0, 0, 0, 0, 0, x, i, l.getD i 0, false⟩ (decide_eq_true (by simp only [iN, hll]; omega)) (by simp [iN]) (lI_get h) he ?_)
      intro st hst
      simp only [iN, wrap_nat i (show i < 9223372036854775807 by omega)] at hst
      exact ⟨i + 1, hst, ⟨h, hf⟩, by omega⟩
  · rw [fnd_end h] at hf
    subst hf
    exact T.out mix (hax_0 ⟨[], [], l, [], [], 0, 0, 0, 0, 0, x, i, 0, false⟩ (decide_eq_false (by simp only [iN, hll]; omega)))
def insB (x : Int) : List Int → List Int
  | [] => [x]
  | a :: r => if x < a then x :: a :: r else a :: insB x r
noncomputable def inS (l : List Int) (x : Int) (y : Nat × List Int × Bool) : St := match y.2.1 with
  | [] => lz25 ⟨[], [], l, [], [], 0, 0, 0, 0, 0, x, y.1, 0, false⟩
  | _ => lo25 ⟨[], [], l, y.2.1, [], 0, 0, 0, 0, 0, x, y.1, 0, y.2.2⟩
theorem ins_ct (l : List Int) (x : Int) (hl : l.length ≤ 1000000) : CT Try.prog 14 [] [lI l, .int .i64 x] [] (lI (insB x l)) := by
  have hll := lI_len l
  refine CT.path mix Try.func14 (show Try.f14.body = some (bodyOf Try.f14) by kernel_rfl) (Nat.le_of_ble_eq_true rfl) (in_0 ⟨[], [], l, [], [], 0, 0, 0, 0, 0, x, 0, 0, false⟩ ?_)
  generalize hres : insB x l = res
  refine T.loop (fun y : Nat × List Int × Bool => inS l x y) (fun y => y.1 ≤ l.length ∧ y.2.1.length ≤ y.1 + 1 ∧ (y.2.2 = false → y.2.1 = l.take y.1 ∧ res = y.2.1 ++ insB x (l.drop y.1)) ∧ (y.2.2 = true → res = y.2.1 ++ l.drop y.1 ∧ y.2.1 ≠ [])) (fun y => l.length + 1 - y.1) (0, [], false)
    ⟨Nat.zero_le _, by simp, fun _ => ⟨by simp, by simp [hres]⟩, fun h => by cases h⟩ ?_
  rintro ⟨i, o, b⟩ ⟨hi, ho, hF, hT⟩
  simp only at hi ho hF hT
  have step : ∀ (h : i < l.length), l.drop i = l.getD i 0 :: l.drop (i + 1) ∧ l.take (i + 1) = l.take i ++ [l.getD i 0] := by
    intro h
    have e : l.getD i 0 = l[i] := by rw [List.getD_eq_getElem?_getD, List.getElem?_eq_getElem h]; rfl
    rw [e]
    exact ⟨List.drop_eq_getElem_cons h, by rw [List.take_add_one, List.getElem?_eq_getElem h]; rfl⟩
  have hw : IntKind.i64.wrap (iN i + 1) = ((i + 1 : Nat) : Int) := wrap_nat i (by omega)
  have lenE : ∀ (u : List Int) (y : AV), (u.map (AV.int .i64)).length + [y].length = u.length + 1 := by intro u y; simp
  cases ho' : o with
  | nil =>
    subst ho'
    cases hb : b with
    | true => exact absurd rfl (hT hb).2
    | false =>
      subst hb
      obtain ⟨h1, h2⟩ := hF rfl
      simp only [List.nil_append] at h2
      by_cases h : i < l.length
      · obtain ⟨e1, e2⟩ := step h
        by_cases hx : x < l.getD i 0
        · refine T.path mix (inza_0 ⟨[], [], l, [], [], 0, 0, 0, 0, 0, x, i, l.getD i 0, false⟩ (decide_eq_true (by simp only [iN, hll]; omega)) (by simp [iN]) (lI_get h) (decide_eq_true hx) (by simp) (by simp) (by simp) (by simp) (by simp) (by simp) ?_)
          intro st hst
          rw [hw] at hst
          refine ⟨(i + 1, [x, l.getD i 0], true), hst, ⟨h, by simp only [List.length_cons, List.length_nil]; omega, fun h => (by cases h), fun _ => ⟨?_, by simp⟩⟩, by simp only; omega⟩
          rw [h2, e1, insB, if_pos hx]; rfl
        · refine T.path mix (inzb_0 ⟨[], [], l, [], [], 0, 0, 0, 0, 0, x, i, l.getD i 0, false⟩ (decide_eq_true (by simp only [iN, hll]; omega)) (by simp [iN]) (lI_get h) (decide_eq_false hx) (by simp) (by simp) (by simp) ?_)
          intro st hst
          rw [hw] at hst
          refine ⟨(i + 1, [l.getD i 0], false), hst, ⟨h, by simp only [List.length_cons, List.length_nil]; omega, fun _ => ⟨by rw [e2, ← h1]; rfl, ?_⟩, fun h => by cases h⟩, by simp only; omega⟩
          rw [h2, e1, insB, if_neg hx]; rfl
      · have e : l.drop i = [] := List.drop_of_length_le (by omega)
        rw [e] at h2
        rw [h2]
        exact T.out mix (inzx_0 ⟨[], [], l, [], [], 0, 0, 0, 0, 0, x, i, 0, false⟩ (decide_eq_false (by simp only [iN, hll]; omega)) (by simp) (by simp) (by simp))
  | cons o0 o1 =>
    rw [← ho']
    have hS : inS l x (i, o, b) = lo25 ⟨[], [], l, o, [], 0, 0, 0, 0, 0, x, i, 0, b⟩ := by rw [ho']; rfl
    have next : ∀ (o' : List Int) (b' : Bool) (st : St), o' ≠ [] → Ren 0 st (lo25 ⟨[], [], l, o', [], 0, 0, 0, 0, 0, x, i + 1, 0, b'⟩) → Ren 0 st (inS l x (i + 1, o', b')) := by
      intro o' b' st hne hst
      cases o' with
      | nil => exact absurd rfl hne
      | cons _ _ => exact hst
    show T Try.prog 0 _ (inS l x (i, o, b)) _
    rw [hS]
    by_cases h : i < l.length
    · obtain ⟨e1, e2⟩ := step h
      cases hb : b with
      | true =>
        subst hb
        obtain ⟨h1, h2⟩ := hT rfl
        refine T.path mix (inod_0 ⟨[], [], l, o, [], 0, 0, 0, 0, 0, x, i, l.getD i 0, true⟩ (decide_eq_true (by simp only [iN, hll]; omega)) rfl (by simp [iN]) (lI_get h) (by simp) (by simp) (by simp; omega) (by simp; omega) ?_)
        intro st hst
        rw [hw, lenE] at hst
        refine ⟨(i + 1, o ++ [l.getD i 0], true), next _ _ _ (by simp) ?_, ⟨h, by simp only [List.length_append, List.length_cons, List.length_nil]; omega, fun h => (by cases h), fun _ => ⟨by rw [h1, e1]; simp, by simp⟩⟩, by simp only; omega⟩
        unfold lo25 dB
        simp only [List.map_append, List.length_append, List.length_cons, List.length_nil, Nat.zero_add, List.map_cons, List.map_nil]
        exact hst
      | false =>
        subst hb
        obtain ⟨h1, h2⟩ := hF rfl
        by_cases hx : x < l.getD i 0
        · refine T.path mix (inoa_0 ⟨[], [], l, o, [], 0, 0, 0, 0, 0, x, i, l.getD i 0, false⟩ (decide_eq_true (by simp only [iN, hll]; omega)) rfl (by simp [iN]) (lI_get h) (decide_eq_true hx) (by simp) (by simp) (by simp; omega) (by simp; omega) (by simp) (by simp) (by simp; omega) (by simp; omega) ?_)
          intro st hst
          rw [hw] at hst
          have hlen2 : o.length ≤ i := by rw [h1]; simp; omega
          refine ⟨(i + 1, o ++ [x, l.getD i 0], true), next _ _ _ (by simp) ?_, ⟨h, by simp only [List.length_append, List.length_cons, List.length_nil]; omega, fun h => (by cases h), fun _ => ⟨by rw [h2, e1, insB, if_pos hx]; simp, by simp⟩⟩, by simp only; omega⟩
          have e5 : (o.map (AV.int .i64) ++ [AV.int .i64 x]).length + [AV.int .i64 (l.getD i 0)].length = (o ++ [x, l.getD i 0]).length := by simp
          simp only at hst
          rw [e5] at hst
          unfold lo25 dB
          simp only [List.map_append, List.map_cons, List.map_nil]
          rw [List.append_assoc] at hst
          exact hst
        · refine T.path mix (inob_0 ⟨[], [], l, o, [], 0, 0, 0, 0, 0, x, i, l.getD i 0, false⟩ (decide_eq_true (by simp only [iN, hll]; omega)) rfl (by simp [iN]) (lI_get h) (decide_eq_false hx) (by simp) (by simp) (by simp; omega) (by simp; omega) ?_)
          intro st hst
          rw [hw, lenE] at hst
          refine ⟨(i + 1, o ++ [l.getD i 0], false), next _ _ _ (by simp) ?_, ⟨h, by simp only [List.length_append, List.length_cons, List.length_nil]; omega, fun _ => ⟨by rw [e2, ← h1], by rw [h2, e1, insB, if_neg hx]; simp⟩, fun h => by cases h⟩, by simp only; omega⟩
          unfold lo25 dB
          simp only [List.map_append, List.length_append, List.length_cons, List.length_nil, Nat.zero_add, List.map_cons, List.map_nil]
          exact hst
    · have e : l.drop i = [] := List.drop_of_length_le (by omega)
      cases hb : b with
      | true =>
        subst hb
        obtain ⟨h1, _⟩ := hT rfl
        rw [e, List.append_nil] at h1
        rw [h1]
        exact T.out mix (inox_1 ⟨[], [], l, o, [], 0, 0, 0, 0, 0, x, i, 0, true⟩ (decide_eq_false (by simp only [iN, hll]; omega)) rfl (by simp))
      | false =>
        subst hb
        obtain ⟨_, h2⟩ := hF rfl
        rw [e] at h2
        rw [show lI res = .lst (o.map (AV.int .i64) ++ [AV.int .i64 x]) by rw [h2]; simp [lI, insB]]
        exact T.out mix (inox_0 ⟨[], [], l, o, [], 0, 0, 0, 0, 0, x, i, 0, false⟩ (decide_eq_false (by simp only [iN, hll]; omega)) rfl (by simp) (by simp) (by simp; omega) (by simp; omega) (by simp))
theorem wrapS (z : Int) (h0 : -1000000 ≤ z) (h1 : z ≤ 1000000) : IntKind.i64.wrap z = z := by
  have e1 : (2 : Int) ^ IntKind.i64.bits = 18446744073709551616 := by decide
  have e2 : (2 : Int) ^ (IntKind.i64.bits - 1) = 9223372036854775808 := by decide
  have e3 : IntKind.i64.signed = true := by decide
  simp only [IntKind.wrap, e1, e2, e3, Bool.true_and, decide_eq_true_eq]
  split <;> omega
theorem nextZ_rng (L : List Int) (k : Nat) (n : Int) (h1 : 1 ≤ n) (h2 : n ≤ 100000) : 0 ≤ nextZ L k n ∧ nextZ L k n < n := by
  unfold nextZ cutZ
  split
  · omega
  · have ha := Int.tmod_lt_of_pos (rawZ L k) (show 0 < n by omega)
    have hb := Int.lt_tmod_of_pos (rawZ L k) (show 0 < n by omega)
    split
    · rw [wrapS _ (by omega) (by omega)]; omega
    · omega
theorem mem_insB {x y : Int} : ∀ {l : List Int}, y ∈ insB x l ↔ y = x ∨ y ∈ l := by
  intro l
  induction l with
  | nil => simp [insB]
  | cons a r ih =>
    rw [insB]
    split
    · simp
    · simp only [List.mem_cons, ih]
      constructor
      · rintro (h | h | h)
        · exact .inr (.inl h)
        · exact .inl h
        · exact .inr (.inr h)
      · rintro (h | h | h)
        · exact .inr (.inl h)
        · exact .inl h
        · exact .inr (.inr h)
theorem insB_asc {x : Int} : ∀ {l : List Int}, l.Pairwise (· < ·) → x ∉ l → (insB x l).Pairwise (· < ·) := by
  intro l
  induction l with
  | nil => intro _ _; simp [insB]
  | cons a r ih =>
    intro h hx
    rw [List.pairwise_cons] at h
    rw [insB]
    have hxa : x ≠ a := fun e => hx (by simp [e])
    split
    · rename_i hlt
      refine List.pairwise_cons.2 ⟨fun y hy => ?_, List.pairwise_cons.2 h⟩
      rcases List.mem_cons.1 hy with rfl | hy
      · exact hlt
      · exact Int.lt_trans hlt (h.1 y hy)
    · rename_i hge
      refine List.pairwise_cons.2 ⟨fun y hy => ?_, ih h.2 fun hm => hx (List.mem_cons_of_mem _ hm)⟩
      rcases mem_insB.1 hy with rfl | hy
      · omega
      · exact h.1 y hy
theorem insB_len (x : Int) : ∀ (l : List Int), (insB x l).length = l.length + 1 := by
  intro l
  induction l with
  | nil => rfl
  | cons a r ih => rw [insB]; split <;> simp [ih]
structure GI (n m : Nat) (g : List (List Int)) : Prop where
  len : g.length = n
  row : ∀ v, v < n → (g.getD v []).length ≤ m ∧ (g.getD v []).Pairwise (· < ·) ∧ ∀ w ∈ g.getD v [], 0 ≤ w ∧ w < (n : Int) ∧ w ≠ (v : Int)
noncomputable def stp (L : List Int) (n : Nat) (y : List (List Int) × Nat) : List (List Int) × Nat :=
  if (nextZ L y.2 n).toNat = (nextZ L (y.2 + 1) n).toNat then (y.1, y.2 + 2)
  else if hasZ (y.1.getD (nextZ L y.2 n).toNat []) (nextZ L (y.2 + 1) n) = true then (y.1, y.2 + 2)
  else (y.1.set (nextZ L y.2 n).toNat (insB (nextZ L (y.2 + 1) n) (y.1.getD (nextZ L y.2 n).toNat [])), y.2 + 2)
noncomputable def grS (L : List Int) (n : Nat) (y : List (List Int) × Nat) : Nat → List (List Int) × Nat
  | 0 => y
  | j + 1 => stp L n (grS L n y j)
theorem stp_kk (L : List Int) (n : Nat) (y : List (List Int) × Nat) : (stp L n y).2 = y.2 + 2 := by
  unfold stp; split
  · rfl
  · split <;> rfl
theorem grS_kk (L : List Int) (n : Nat) (y : List (List Int) × Nat) (j : Nat) : (grS L n y j).2 = y.2 + 2 * j := by
  induction j with
  | zero => rfl
  | succ j ih => rw [grS, stp_kk, ih]; omega
theorem stp_inv {L : List Int} {n m : Nat} (hn : 1 ≤ n) (hn2 : n ≤ 1000) {y : List (List Int) × Nat} (h : GI n m y.1) : GI n (m + 1) (stp L n y).1 := by
  have keep : GI n (m + 1) y.1 := ⟨h.len, fun v hv => ⟨Nat.le_succ_of_le (h.row v hv).1, (h.row v hv).2⟩⟩
  have r1 := nextZ_rng L y.2 n (by omega) (by omega)
  have r2 := nextZ_rng L (y.2 + 1) n (by omega) (by omega)
  unfold stp
  generalize nextZ L y.2 n = a at r1
  generalize nextZ L (y.2 + 1) n = w at r2
  split
  · exact keep
  · rename_i hne
    split
    · exact keep
    · rename_i hh
      have hh := Bool.eq_false_iff.2 hh
      have hav : a.toNat < n := by omega
      refine ⟨by simp [h.len], fun v hv => ?_⟩
      have e : (y.1.set a.toNat (insB w (y.1.getD a.toNat []))).getD v [] = if a.toNat = v then insB w (y.1.getD a.toNat []) else y.1.getD v [] := by
        rw [List.getD_eq_getElem?_getD, List.getElem?_set]
        split
        · rename_i e; subst e; rw [if_pos (by rw [h.len]; exact hav)]; rfl
        · rw [List.getD_eq_getElem?_getD]
      rw [e]
      split
      · rename_i e2
        obtain ⟨g1, g2, g3⟩ := h.row a.toNat hav
        refine ⟨by rw [insB_len]; omega, insB_asc g2 (hasZ_false hh), fun x hx => ?_⟩
        rcases mem_insB.1 hx with rfl | hx
        · exact ⟨r2.1, r2.2, by omega⟩
        · have := g3 x hx; exact ⟨this.1, this.2.1, by omega⟩
      · exact (keep.row v hv)
theorem grS_inv {L : List Int} {n : Nat} (hn : 1 ≤ n) (hn2 : n ≤ 1000) (kk : Nat) (j : Nat) : GI n j (grS L n (List.replicate n [], kk) j).1 := by
  induction j with
  | zero =>
    refine ⟨by simp [grS], fun v hv => ?_⟩
    have : (List.replicate n ([] : List Int)).getD v [] = [] := by simp [List.getD_eq_getElem?_getD, hv]
    show ((List.replicate n ([] : List Int)).getD v []).length ≤ 0 ∧ _
    rw [show (grS L n (List.replicate n [], kk) 0).1 = List.replicate n [] from rfl, this]
    simp
  | succ j ih => exact stp_inv hn hn2 ih
theorem GI.ok {n m : Nat} {g : List (List Int)} (h : GI n m g) (hn : n ≤ 24) (hm : m ≤ 1000) {s : List Bool} (hs : s.length = n) : OkG g s ∧ Asc g := by
  refine ⟨⟨by rw [h.len]; exact hn, fun v hv => ?_, by rw [hs, h.len]⟩, fun v hv i h0 hi => ?_⟩
  · rw [h.len] at hv ⊢
    obtain ⟨g1, _, g3⟩ := h.row v hv
    exact ⟨by omega, g3⟩
  · rw [h.len] at hv
    obtain ⟨_, g2, _⟩ := h.row v hv
    generalize g.getD v [] = r at g2 hi
    have := List.pairwise_iff_getElem.1 g2 (i - 1) i (by omega) hi (by omega)
    rw [List.getD_eq_getElem?_getD, List.getElem?_eq_getElem (by omega), List.getD_eq_getElem?_getD, List.getElem?_eq_getElem hi]
    exact this
theorem gL_set (g : List (List Int)) (v : Nat) (r : List Int) : (gL g).set (0 + v) (lI r) = gL (g.set v r) := by rw [Nat.zero_add]; unfold gL; rw [List.map_set]
theorem gL_get0 {g : List (List Int)} {v : Nat} (h : v < g.length) : (gL g)[0 + v]? = some (lI (g.getD v [])) := by rw [Nat.zero_add]; exact gL_get h
theorem graph_ex (L : List Int) (kk most : Nat) (hm : most ≤ 20) (hk : kk ≤ 1000000) : ∃ (g : List (List Int)) (kk' n : Nat), n ≤ most ∧ GI n 100 g ∧ kk' ≤ kk + 200 ∧ CT Try.prog 5 [some (tapeB L kk)] [.ptr 0 0 0, .int .i64 (most : Nat)] [some (tapeB L kk')] (.lst (gL g)) := by
  have r1 := nextZ_rng L kk ((most : Int) + 1) (by omega) (by omega)
  have n1 := next_ct L kk ((most : Int) + 1) (by omega)
  obtain ⟨n, hn⟩ : ∃ n : Nat, nextZ L kk ((most : Int) + 1) = (n : Int) := ⟨(nextZ L kk ((most : Int) + 1)).toNat, by omega⟩
  rw [hn] at n1 r1
  have r2 := nextZ_rng L (kk + 1) (3 * (n : Int) + 1) (by omega) (by omega)
  have n2 := next_ct L (kk + 1) (3 * (n : Int) + 1) (by omega)
  obtain ⟨m, hmm⟩ : ∃ m : Nat, nextZ L (kk + 1) (3 * (n : Int) + 1) = (m : Int) := ⟨(nextZ L (kk + 1) (3 * (n : Int) + 1)).toNat, by omega⟩
  rw [hmm] at n2 r2
  have hkk := grS_kk L n (List.replicate n [], kk + 2)
  have hinv : ∀ j, j ≤ m → GI n j (grS L n (List.replicate n [], kk + 2) j).1 := by
    intro j hj
    by_cases h1 : 1 ≤ n
    · exact grS_inv h1 (by omega) _ j
    · obtain rfl : j = 0 := by omega
      obtain rfl : n = 0 := by omega
      exact ⟨rfl, fun v hv => by omega⟩
  refine ⟨(grS L n (List.replicate n [], kk + 2) m).1, (grS L n (List.replicate n [], kk + 2) m).2, n, by omega, ?_, by rw [hkk]; simp only; omega, ?_⟩
  · have := hinv m (Nat.le_refl _)
    exact ⟨this.len, fun v hv => ⟨by have := (this.row v hv).1; omega, (this.row v hv).2⟩⟩
  refine CT.path mix Try.func5 (show Try.f5.body = some (bodyOf Try.f5) by kernel_rfl) (Nat.le_of_ble_eq_true rfl) (gr_0 ⟨L, [], [], [], [], kk, n, (m : Nat), 0, 0, (most : Nat), 0, 0, false⟩ (by simp only [wrapS ((most : Int) + 1) (by omega) (by omega)]; exact n1) (by simp [iN]) (by simp) (by simp only [iN]; omega) (by simp only [iN]; omega)
    (by simp only [iN, wrapS (3 * (n : Int)) (by omega) (by omega), wrapS (3 * (n : Int) + 1) (by omega) (by omega)]; exact n2) (T.nilH ?_))
  have key : T Try.prog 1 (.loop (loopC (bodyOf Try.f5) 0)) (lo9 ⟨L, (grS L n (List.replicate n [], kk + 2) 0).1, [], [], [], (grS L n (List.replicate n [], kk + 2) 0).2, n, ((m - 0 : Nat) : Int), 0, 0, 0, 0, 0, false⟩) (TK Try.prog 1 (Fin Try.prog Try.f5 1 [some (tapeB L (grS L n (List.replicate n [], kk + 2) m).2)] (.lst (gL (grS L n (List.replicate n [], kk + 2) m).1))) (loopK (bodyOf Try.f5) 0)) := by
    refine T.loop (fun j : Nat => lo9 ⟨L, (grS L n (List.replicate n [], kk + 2) j).1, [], [], [], (grS L n (List.replicate n [], kk + 2) j).2, n, ((m - j : Nat) : Int), 0, 0, 0, 0, 0, false⟩) (fun j => j ≤ m) (fun j => m + 1 - j) 0 (Nat.zero_le _) ?_
    intro j hj
    have hj2 := hinv j hj
    have hkj := hkk j
    simp only at hkj
    by_cases h : j < m
    · have hn1 : 1 ≤ n := by omega
      have e : grS L n (List.replicate n [], kk + 2) (j + 1) = stp L n (grS L n (List.replicate n [], kk + 2) j) := rfl
      have ek : IntKind.i64.wrap (((m - j : Nat) : Int) - 1) = ((m - (j + 1) : Nat) : Int) := by rw [wrapS _ (by omega) (by omega)]; omega
      generalize hy : grS L n (List.replicate n [], kk + 2) j = y at hj2 hkj e
      have q1 := nextZ_rng L y.2 n (by omega) (by omega)
      have q2 := nextZ_rng L (y.2 + 1) n (by omega) (by omega)
      have m1 := next_ct L y.2 n (by omega)
      have m2 := next_ct L (y.2 + 1) n (by omega)
      unfold stp at e
      obtain ⟨v, hv⟩ : ∃ v : Nat, nextZ L y.2 n = (v : Int) := ⟨(nextZ L y.2 n).toNat, by omega⟩
      obtain ⟨w, hw⟩ : ∃ w : Nat, nextZ L (y.2 + 1) n = (w : Int) := ⟨(nextZ L (y.2 + 1) n).toNat, by omega⟩
      rw [hv] at q1 m1 e
      rw [hw] at q2 m2 e
      simp only [Int.toNat_natCast] at e
      have hvg : v < y.1.length := by rw [hj2.len]; omega
      have hlen := (hj2.row v (by omega)).1
      have hrow := gL_get0 hvg
      have hc := has_ct (y.1.getD v []) (w : Int) (by omega)
      have ic := ins_ct (y.1.getD v []) (w : Int) (by omega)
      have next : ∀ (g' : List (List Int)) (st : St), grS L n (List.replicate n [], kk + 2) (j + 1) = (g', y.2 + 2) → Ren 1 st (lo9 ⟨L, g', [], [], [], y.2 + 2, n, ((m - (j + 1) : Nat) : Int), 0, 0, 0, 0, 0, false⟩) → ∃ j', Ren 1 st (lo9 ⟨L, (grS L n (List.replicate n [], kk + 2) j').1, [], [], [], (grS L n (List.replicate n [], kk + 2) j').2, n, ((m - j' : Nat) : Int), 0, 0, 0, 0, 0, false⟩) ∧ j' ≤ m ∧ m + 1 - j' < m + 1 - j := by
        intro g' st eg hst
        refine ⟨j + 1, ?_, h, by omega⟩
        rw [eg]; exact hst
      by_cases hvw : v = w
      · rw [if_pos hvw] at e
        refine T.path mix (grr_2 ⟨L, y.1, [], [], [], y.2, n, ((m - j : Nat) : Int), v, w, 0, 0, 0, false⟩ (decide_eq_true (by simp only; omega)) m1 m2 (by simp [iN, hvw]) ?_)
        intro st hst
        simp only [ek] at hst
        exact next _ st e hst
      · rw [if_neg hvw] at e
        by_cases hh : hasZ (y.1.getD v []) (w : Int) = true
        · rw [if_pos hh] at e
          rw [hh] at hc
          refine T.path mix (grr_1 ⟨L, y.1, y.1.getD v [], [], [], y.2, n, ((m - j : Nat) : Int), v, w, 0, 0, 0, true⟩ (decide_eq_true (by simp only; omega)) m1 m2 (by simp [iN]; omega) (by simp [iN]) (by simp [iN]; omega) hrow hc rfl ?_)
          intro st hst
          simp only [ek] at hst
          exact next _ st e hst
        · rw [if_neg hh] at e
          rw [Bool.eq_false_iff.2 hh] at hc
          refine T.path mix (grr_0 ⟨L, y.1, y.1.getD v [], insB (w : Int) (y.1.getD v []), [], y.2, n, ((m - j : Nat) : Int), v, w, 0, 0, 0, false⟩ (decide_eq_true (by simp only; omega)) m1 m2 (by simp [iN]; omega) (by simp [iN]) (by simp [iN]; omega) hrow hc rfl ic (by simp [iN, gL_len]; omega) ?_)
          intro st hst
          simp only [ek, iN, Int.toNat_natCast] at hst
          have hs2 := gL_set y.1 v (insB (w : Int) (y.1.getD v []))
          unfold lI at hs2
          rw [hs2] at hst
          exact next _ st e hst
    · obtain rfl : j = m := by omega
      exact T.out mix (grx_0 ⟨L, (grS L n (List.replicate n [], kk + 2) j).1, [], [], [], (grS L n (List.replicate n [], kk + 2) j).2, n, ((j - j : Nat) : Int), 0, 0, 0, 0, 0, false⟩ (decide_eq_false (by simp only; omega)) (by simp only [gL_len, hj2.len]))
  have e0 : (List.replicate n AV.nils).map wkE = gL (List.replicate n []) := by simp [gL, wkE, wk1, lI]
  unfold lo9 at key
  simp only [grS, Nat.sub_zero, ← e0] at key
  exact key
theorem boL_set (s : List Bool) (v : Nat) (b : Bool) : (boL s).set (0 + v) (.bool b) = boL (s.set v b) := by rw [Nat.zero_add]; unfold boL; rw [List.map_set]
noncomputable def shS (L : List Int) (n : Nat) (y : List Bool × Nat) : Nat → List Bool × Nat
  | 0 => y
  | j + 1 => ((shS L n y j).1.set (nextZ L (shS L n y j).2 n).toNat true, (shS L n y j).2 + 1)
theorem shS_kk (L : List Int) (n : Nat) (y : List Bool × Nat) (j : Nat) : (shS L n y j).2 = y.2 + j := by
  induction j with
  | zero => rfl
  | succ j ih => rw [shS, ih]; simp only; omega
theorem shS_len (L : List Int) (n : Nat) (y : List Bool × Nat) (j : Nat) : (shS L n y j).1.length = y.1.length := by
  induction j with
  | zero => rfl
  | succ j ih => rw [shS]; simp [ih]
theorem shut_ex (L : List Int) (kk n : Nat) (hn : n ≤ 1000) (hk : kk ≤ 1000000) : ∃ (s : List Bool) (kk' : Nat), s.length = n ∧ kk' ≤ kk + 10 ∧ CT Try.prog 6 [some (tapeB L kk)] [.ptr 0 0 0, .int .i64 (n : Nat)] [some (tapeB L kk')] (.lst (boL s)) := by
  have r1 := nextZ_rng L kk 3 (by omega) (by omega)
  have n1 := next_ct L kk 3 (by omega)
  obtain ⟨m, hmm⟩ : ∃ m : Nat, nextZ L kk 3 = (m : Int) := ⟨(nextZ L kk 3).toNat, by omega⟩
  rw [hmm] at n1 r1
  have hkk := shS_kk L n (List.replicate n false, kk + 1)
  have hln := shS_len L n (List.replicate n false, kk + 1)
  have e0 : List.replicate n (AV.bool false) = boL (List.replicate n false) := by simp [boL]
  by_cases h0 : n = 0
  · subst h0
    refine ⟨[], kk + 1, rfl, by omega, ?_⟩
    refine CT.path mix Try.func6 (show Try.f6.body = some (bodyOf Try.f6) by kernel_rfl) (Nat.le_of_ble_eq_true rfl) (sh_0 ⟨L, [], [], [], [], kk, 0, (m : Nat), 0, 0, 0, 0, 0, false⟩ (by simp [iN]) (by simp) (by simp only [iN]; omega) (by simp only [iN]; omega) n1 ?_)
    refine T.loop (fun j : Nat => lo10 ⟨L, [], [], [], [], kk + 1, 0, (m : Nat), 0, 0, 0, 0, 0, false⟩) (fun j => True) (fun j => 0) 0 trivial ?_
    intro j _
    by_cases hm : 0 < m
    · exact T.out mix (shx_0 ⟨L, [], [], [], [], kk + 1, 0, (m : Nat), 0, 0, 0, 0, 0, false⟩ (decide_eq_true (by simp only; omega)) (by simp [iN]) rfl)
    · exact T.out mix (shx_1 ⟨L, [], [], [], [], kk + 1, 0, (m : Nat), 0, 0, 0, 0, 0, false⟩ (decide_eq_false (by simp only; omega)) rfl)
  refine ⟨(shS L n (List.replicate n false, kk + 1) m).1, (shS L n (List.replicate n false, kk + 1) m).2, by rw [hln]; simp, by rw [hkk]; simp only; omega, ?_⟩
  refine CT.path mix Try.func6 (show Try.f6.body = some (bodyOf Try.f6) by kernel_rfl) (Nat.le_of_ble_eq_true rfl) (sh_0 ⟨L, [], [], [], [], kk, n, (m : Nat), 0, 0, 0, 0, 0, false⟩ (by simp [iN]) (by simp) (by simp only [iN]; omega) (by simp only [iN]; omega) n1 ?_)
  have key : T Try.prog 1 (.loop (loopC (bodyOf Try.f6) 0)) (lo10 ⟨L, [], [], [], (shS L n (List.replicate n false, kk + 1) 0).1, (shS L n (List.replicate n false, kk + 1) 0).2, n, ((m - 0 : Nat) : Int), 0, 0, 0, 0, 0, false⟩) (TK Try.prog 1 (Fin Try.prog Try.f6 1 [some (tapeB L (shS L n (List.replicate n false, kk + 1) m).2)] (.lst (boL (shS L n (List.replicate n false, kk + 1) m).1))) (loopK (bodyOf Try.f6) 0)) := by
    refine T.loop (fun j : Nat => lo10 ⟨L, [], [], [], (shS L n (List.replicate n false, kk + 1) j).1, (shS L n (List.replicate n false, kk + 1) j).2, n, ((m - j : Nat) : Int), 0, 0, 0, 0, 0, false⟩) (fun j => j ≤ m) (fun j => m + 1 - j) 0 (Nat.zero_le _) ?_
    intro j hj
    have hkj := hkk j
    have hlj := hln j
    simp only [List.length_replicate] at hkj hlj
    by_cases h : j < m
    · have ek : IntKind.i64.wrap (((m - j : Nat) : Int) - 1) = ((m - (j + 1) : Nat) : Int) := by rw [wrapS _ (by omega) (by omega)]; omega
      have e : shS L n (List.replicate n false, kk + 1) (j + 1) = ((shS L n (List.replicate n false, kk + 1) j).1.set (nextZ L (shS L n (List.replicate n false, kk + 1) j).2 n).toNat true, (shS L n (List.replicate n false, kk + 1) j).2 + 1) := rfl
      generalize shS L n (List.replicate n false, kk + 1) j = y at hkj hlj e
      have q1 := nextZ_rng L y.2 n (by omega) (by omega)
      have m1 := next_ct L y.2 n (by omega)
      obtain ⟨v, hv⟩ : ∃ v : Nat, nextZ L y.2 n = (v : Int) := ⟨(nextZ L y.2 n).toNat, by omega⟩
      rw [hv] at q1 m1 e
      simp only [Int.toNat_natCast] at e
      have hbl := boL_len y.1
      refine T.path mix (shr_0 ⟨L, [], [], [], y.1, y.2, n, ((m - j : Nat) : Int), v, 0, 0, 0, 0, false⟩ (decide_eq_true (by simp only; omega)) (by simp [iN]; omega) m1 (by simp [iN]) (by simp [iN]; omega) (by simp [iN, boL_len]; omega) ?_)
      intro st hst
      refine ⟨j + 1, ?_, h, by omega⟩
      simp only [ek, iN, Int.toNat_natCast] at hst
      rw [boL_set] at hst
      rw [e]; exact hst
    · obtain rfl : j = m := by omega
      exact T.out mix (shx_1 ⟨L, [], [], [], (shS L n (List.replicate n false, kk + 1) j).1, (shS L n (List.replicate n false, kk + 1) j).2, n, ((j - j : Nat) : Int), 0, 0, 0, 0, 0, false⟩ (decide_eq_false (by simp only; omega)) (by simp only [boL_len, hlj]))
  unfold lo10 at key
  simp only [shS, Nat.sub_zero, ← e0] at key
  exact key
theorem getD_set (d : List Int) (v u : Nat) (x : Int) (hv : v < d.length) : (d.set v x).getD u 0 = if v = u then x else d.getD u 0 := by
  rw [List.getD_eq_getElem?_getD, List.getElem?_set, List.getD_eq_getElem?_getD]
  split
  · first | rfl | (rw [if_pos hv]; rfl)
  · rfl
theorem edges_eq (v far : Nat) : ∀ (r : List Int) (d : List Int), v < d.length → (∀ w ∈ r, w.toNat ≠ v) →
    edgesL r v far d = if (r.any fun w => d.getD w.toNat 0 == (far : Int)) = true then d.set v ((far + 1 : Nat) : Int) else d := by
  intro r
  induction r with
  | nil => intro d _ _; simp [edgesL]
  | cons w r ih =>
    intro d hv hr
    have hw := hr w (by simp)
    have hr' := fun x hx => hr x (List.mem_cons_of_mem _ hx)
    show edgesL r v far (edgeF v far d w) = _
    have key : ∀ d' : List Int, (∀ u, u ≠ v → d'.getD u 0 = d.getD u 0) → (r.any fun w => d'.getD w.toNat 0 == (far : Int)) = (r.any fun w => d.getD w.toNat 0 == (far : Int)) := by
      intro d' h
      rw [Bool.eq_iff_iff, List.any_eq_true, List.any_eq_true]
      constructor
      · rintro ⟨x, hx, he⟩; exact ⟨x, hx, by rw [← h _ (hr' x hx)]; exact he⟩
      · rintro ⟨x, hx, he⟩; exact ⟨x, hx, by rw [h _ (hr' x hx)]; exact he⟩
    rw [ih _ (by rw [edgeF_len]; exact hv) hr', List.any_cons]
    unfold edgeF
    by_cases he : (d.getD w.toNat 0 == (far : Int)) = true
    · rw [if_pos he, he, Bool.true_or, if_pos rfl, List.set_set]
      split <;> rfl
    · rw [if_neg he, Bool.eq_false_iff.2 he, Bool.false_or]
def rdV (g : List (List Int)) (s : List Bool) (d : List Int) (far v : Nat) : Int :=
  if s.getD v false = true then d.getD v 0 else if 0 ≤ d.getD v 0 then d.getD v 0 else if ((g.getD v []).any fun w => d.getD w.toNat 0 == (far : Int)) = true then ((far + 1 : Nat) : Int) else d.getD v 0
theorem round_get {g : List (List Int)} {s : List Bool} (hg : OkG g s) (d : List Int) (hd : d.length = g.length) (far : Nat) : ∀ v, v < g.length → (roundL g s d far).getD v 0 = rdV g s d far v := by
  have key : ∀ j, j ≤ g.length → ∀ v, v < g.length → ((List.range j).foldl (vertF g s far) d).getD v 0 = if v < j then rdV g s d far v else d.getD v 0 := by
    intro j
    induction j with
    | zero => intro _ v _; rw [if_neg (by omega)]; rfl
    | succ j ih =>
      intro hj v hv
      have ih := ih (by omega)
      rw [range_fold]
      have hlen : ((List.range j).foldl (vertF g s far) d).length = g.length := by rw [foldl_len (vertF_len g s far), hd]
      generalize (List.range j).foldl (vertF g s far) d = e at ih hlen
      have hej : e.getD j 0 = d.getD j 0 := by rw [ih j (by omega), if_neg (by omega)]
      have hw : ∀ w ∈ g.getD j [], w.toNat ≠ j := fun w hw => by have := (hg.row j (by omega)).2 w hw; omega
      have hany : ((g.getD j []).any fun w => e.getD w.toNat 0 == (far : Int)) = ((g.getD j []).any fun w => d.getD w.toNat 0 == (far : Int)) := by
        have pt : ∀ w ∈ g.getD j [], (e.getD w.toNat 0 == (far : Int)) = (d.getD w.toNat 0 == (far : Int)) := by
          intro w hwm
          have := (hg.row j (by omega)).2 w hwm
          rw [ih w.toNat (by omega)]
          split
          · unfold rdV
            split
            · rfl
            · split
              · rfl
              · split
                · rw [Bool.eq_iff_iff, beq_iff_eq, beq_iff_eq]; constructor <;> intro h <;> omega
                · rfl
          · rfl
        rw [Bool.eq_iff_iff, List.any_eq_true, List.any_eq_true]
        constructor
        · rintro ⟨x, hx, he⟩; exact ⟨x, hx, by rw [← pt x hx]; exact he⟩
        · rintro ⟨x, hx, he⟩; exact ⟨x, hx, by rw [pt x hx]; exact he⟩
      have hv1 : (vertF g s far e j).getD v 0 = if v = j then rdV g s d far j else e.getD v 0 := by
        unfold vertF rdV
        rw [hej]
        by_cases h1 : s.getD j false = true
        · rw [if_pos h1, if_pos h1]; split
          · rename_i h; subst h; exact hej
          · rfl
        · rw [if_neg h1, if_neg h1]
          by_cases h2 : 0 ≤ d.getD j 0
          · rw [decide_eq_true h2, if_pos rfl, if_pos h2]; split
            · rename_i h; subst h; exact hej
            · rfl
          · rw [if_neg (by simpa using h2), if_neg h2, edges_eq j far _ e (by omega) hw, hany]
            by_cases h3 : ((g.getD j []).any fun w => d.getD w.toNat 0 == (far : Int)) = true
            · rw [if_pos h3, if_pos h3, getD_set e j v _ (by omega)]
              by_cases h4 : v = j
              · rw [if_pos h4.symm, if_pos h4]
              · rw [if_neg fun h => h4 h.symm, if_neg h4]
            · rw [if_neg h3, if_neg h3]; split
              · rename_i h; subst h; exact hej
              · rfl
      rw [hv1]
      by_cases h : v = j
      · subst h; rw [if_pos rfl, if_pos (by omega)]
      · rw [if_neg h, ih v hv]
        by_cases h2 : v < j
        · rw [if_pos h2, if_pos (by omega)]
        · rw [if_neg h2, if_neg (by omega)]
  intro v hv
  rw [roundL, key g.length (Nat.le_refl _) v hv, if_pos hv]
structure Lev (g : List (List Int)) (s : List Bool) (goal k : Nat) (d : List Int) : Prop where
  len : d.length = g.length
  zero : d.getD goal 0 = 0
  bnd : ∀ v, v < g.length → -1 ≤ d.getD v 0 ∧ d.getD v 0 ≤ k
  back : ∀ v, v < g.length → 0 ≤ d.getD v 0 → v = goal ∨ (s.getD v false = false ∧ ∃ w ∈ g.getD v [], 0 ≤ d.getD w.toNat 0 ∧ d.getD v 0 = d.getD w.toNat 0 + 1)
  fwd : ∀ v, v < g.length → s.getD v false = false → ∀ w ∈ g.getD v [], 0 ≤ d.getD w.toNat 0 → d.getD w.toNat 0 < k → 0 ≤ d.getD v 0 ∧ d.getD v 0 ≤ d.getD w.toNat 0 + 1
theorem Lev.step {g : List (List Int)} {s : List Bool} (hg : OkG g s) {goal k : Nat} {d : List Int} (hgo : goal < g.length) (h : Lev g s goal k d) : Lev g s goal (k + 1) (roundL g s d k) := by
  have rg := round_get hg d h.len k
  have same : ∀ v, v < g.length → 0 ≤ d.getD v 0 → rdV g s d k v = d.getD v 0 := by
    intro v hv h0; unfold rdV
    by_cases h1 : s.getD v false = true
    · rw [if_pos h1]
    · rw [if_neg h1, if_pos h0]
  have inr : ∀ v, v < g.length → ∀ w ∈ g.getD v [], w.toNat < g.length := fun v hv w hw => by have := (hg.row v hv).2 w hw; omega
  have cases' : ∀ v, v < g.length → rdV g s d k v = d.getD v 0 ∨ (s.getD v false = false ∧ d.getD v 0 < 0 ∧ rdV g s d k v = ((k + 1 : Nat) : Int) ∧ ∃ w ∈ g.getD v [], d.getD w.toNat 0 = (k : Int)) := by
    intro v hv
    unfold rdV
    by_cases h1 : s.getD v false = true
    · rw [if_pos h1]; exact .inl rfl
    · rw [if_neg h1]
      by_cases h2 : 0 ≤ d.getD v 0
      · rw [if_pos h2]; exact .inl rfl
      · rw [if_neg h2]
        by_cases h3 : ((g.getD v []).any fun w => d.getD w.toNat 0 == (k : Int)) = true
        · rw [if_pos h3]
          obtain ⟨w, hw, he⟩ := List.any_eq_true.1 h3
          exact .inr ⟨Bool.eq_false_iff.2 h1, by omega, rfl, w, hw, by simpa using he⟩
        · rw [if_neg h3]; exact .inl rfl
  refine ⟨by rw [roundL_len, h.len], ?_, fun v hv => ?_, fun v hv h0 => ?_, fun v hv hs w hw h0 hk => ?_⟩
  · rw [rg goal hgo, same goal hgo (by rw [h.zero]; omega), h.zero]
  · rw [rg v hv]
    have := h.bnd v hv
    rcases cases' v hv with e | ⟨_, _, e, _⟩ <;> rw [e] <;> omega
  · rw [rg v hv] at h0 ⊢
    rcases cases' v hv with e | ⟨e1, e2, e3, w, hw, e4⟩
    · rw [e] at h0 ⊢
      rcases h.back v hv h0 with hgl | ⟨h1, w, hw, h2, h3⟩
      · exact .inl hgl
      · refine .inr ⟨h1, w, hw, ?_⟩
        rw [rg _ (inr v hv w hw), same _ (inr v hv w hw) h2]
        exact ⟨h2, h3⟩
    · refine .inr ⟨e1, w, hw, ?_⟩
      rw [rg _ (inr v hv w hw), same _ (inr v hv w hw) (by omega), e3, e4]
      exact ⟨by omega, by omega⟩
  · have hwr := inr v hv w hw
    rw [rg _ hwr] at h0 hk ⊢
    rw [rg v hv]
    have hbv := h.bnd v hv
    have hbw := h.bnd _ hwr
    rcases cases' _ hwr with e | ⟨_, _, e, _⟩
    · rw [e] at h0 hk ⊢
      by_cases hlt : d.getD w.toNat 0 < k
      · obtain ⟨g1, g2⟩ := h.fwd v hv hs w hw h0 hlt
        rw [same v hv g1]; exact ⟨g1, g2⟩
      · have hwk : d.getD w.toNat 0 = (k : Int) := by omega
        by_cases hv0 : 0 ≤ d.getD v 0
        · rw [same v hv hv0]; exact ⟨hv0, by omega⟩
        · unfold rdV
          rw [if_neg (by rw [hs]; simp), if_neg hv0, if_pos (List.any_eq_true.2 ⟨w, hw, by simpa using hwk⟩)]
          exact ⟨by omega, by omega⟩
    · rw [e] at hk; omega
theorem Lev.start {g : List (List Int)} {s : List Bool} (hg : OkG g s) {goal : Nat} (hgo : goal < g.length) : Lev g s goal 0 (dist0 g goal) := by
  have rep : ∀ v, v < g.length → (List.replicate g.length (-1 : Int)).getD v 0 = -1 := by
    intro v hv; simp [List.getD_eq_getElem?_getD, hv]
  have e : ∀ v, v < g.length → (dist0 g goal).getD v 0 = if goal = v then 0 else -1 := by
    intro v hv
    unfold dist0
    rw [getD_set _ _ _ _ (by simpa using hgo), rep v hv]
  refine ⟨dist0_len g goal, by rw [e goal hgo, if_pos rfl], fun v hv => ?_, fun v hv h0 => ?_, fun v hv hs w hw h0 hk => ?_⟩
  · rw [e v hv]; split <;> omega
  · rw [e v hv] at h0
    split at h0
    · rename_i h; exact .inl h.symm
    · omega
  · omega
theorem Lev.run {g : List (List Int)} {s : List Bool} (hg : OkG g s) {goal : Nat} (hgo : goal < g.length) : ∀ k, Lev g s goal k ((List.range k).foldl (roundL g s) (dist0 g goal)) := by
  intro k
  induction k with
  | zero => exact Lev.start hg hgo
  | succ k ih => rw [range_fold]; exact ih.step hg hgo
theorem nodup_len : ∀ {l d : List Int}, l.Nodup → (∀ x ∈ l, x ∈ d) → l.length ≤ d.length := by
  intro l
  induction l with
  | nil => intro d _ _; simp
  | cons a l ih =>
    intro d hn hs
    rw [List.nodup_cons] at hn
    have ha := hs a (by simp)
    have := ih (d := d.erase a) hn.2 fun x hx => (List.mem_erase_of_ne (fun e => hn.1 (by rw [← e]; exact hx))).2 (hs x (List.mem_cons_of_mem _ hx))
    rw [List.length_erase_of_mem ha] at this
    have : 0 < d.length := List.length_pos_of_mem ha
    simp only [List.length_cons]; omega
theorem Lev.top {g : List (List Int)} {s : List Bool} (hg : OkG g s) {goal k : Nat} {d : List Int} (h : Lev g s goal k d) {v : Nat} (hv : v < g.length) : d.getD v 0 < g.length := by
  rcases Int.lt_or_le (d.getD v 0) 0 with hneg | hpos
  · omega
  obtain ⟨m, hm⟩ : ∃ m : Nat, d.getD v 0 = (m : Int) := ⟨(d.getD v 0).toNat, by omega⟩
  have occ : ∀ j, j ≤ m → ∃ u, u < g.length ∧ d.getD u 0 = ((m - j : Nat) : Int) := by
    intro j
    induction j with
    | zero => intro _; exact ⟨v, hv, by rw [hm]; rfl⟩
    | succ j ih =>
      intro hj
      obtain ⟨u, hu, he⟩ := ih (by omega)
      rcases h.back u hu (by omega) with rfl | ⟨_, w, hw, h1, h2⟩
      · rw [h.zero] at he; omega
      · have := (hg.row u hu).2 w hw
        exact ⟨w.toNat, by omega, by omega⟩
  have sub : ∀ x ∈ (List.range (m + 1)).map (fun j : Nat => (j : Int)), x ∈ d := by
    intro x hx
    obtain ⟨j, hj, rfl⟩ := List.mem_map.1 hx
    have hj := List.mem_range.1 hj
    obtain ⟨u, hu, he⟩ := occ (m - j) (by omega)
    rw [show m - (m - j) = j by omega] at he
    rw [← he, List.getD_eq_getElem?_getD, List.getElem?_eq_getElem (by rw [h.len]; exact hu)]
    exact List.getElem_mem _
  have nd : ((List.range (m + 1)).map (fun j : Nat => (j : Int))).Nodup := by
    refine List.pairwise_map.2 ((List.nodup_range (n := m + 1)).imp fun hne e => hne (Int.ofNat_inj.1 e))
  have := nodup_len nd sub
  simp only [List.length_map, List.length_range, h.len] at this
  omega
structure Dst (g : List (List Int)) (s : List Bool) (goal : Nat) (d : List Int) : Prop where
  len : d.length = g.length
  shut : s.getD goal false = true → ∀ v, v < g.length → d.getD v 0 = -1
  zero : s.getD goal false = false → d.getD goal 0 = 0
  bnd : ∀ v, v < g.length → -1 ≤ d.getD v 0 ∧ d.getD v 0 < g.length
  back : ∀ v, v < g.length → 0 ≤ d.getD v 0 → v = goal ∨ (s.getD v false = false ∧ ∃ w ∈ g.getD v [], 0 ≤ d.getD w.toNat 0 ∧ d.getD v 0 = d.getD w.toNat 0 + 1)
  fwd : ∀ v, v < g.length → s.getD v false = false → ∀ w ∈ g.getD v [], 0 ≤ d.getD w.toNat 0 → 0 ≤ d.getD v 0 ∧ d.getD v 0 ≤ d.getD w.toNat 0 + 1
theorem dst_ok {g : List (List Int)} {s : List Bool} (hg : OkG g s) {goal : Nat} (hgo : goal < g.length) : Dst g s goal (distL g s goal g.length) := by
  have hl := distL_len g s goal g.length
  by_cases hs : s.getD goal false = true
  · have e : distL g s goal g.length = List.replicate g.length (-1) := by unfold distL; rw [if_pos hs]
    rw [e] at hl ⊢
    have rep : ∀ v, v < g.length → (List.replicate g.length (-1 : Int)).getD v 0 = -1 := by
      intro v hv; simp [List.getD_eq_getElem?_getD, hv]
    refine ⟨hl, fun _ => rep, fun h => by (rw [hs] at h; cases h), fun v hv => by rw [rep v hv]; omega, fun v hv h0 => by (rw [rep v hv] at h0; omega), fun v hv _ w hw h0 => ?_⟩
    have := (hg.row v hv).2 w hw
    rw [rep _ (by omega)] at h0; omega
  · have e : distL g s goal g.length = (List.range g.length).foldl (roundL g s) (dist0 g goal) := by unfold distL; rw [if_neg hs]
    rw [e] at hl ⊢
    have h := Lev.run hg hgo g.length
    exact ⟨h.len, fun h' => absurd h' hs, fun _ => h.zero, fun v hv => ⟨(h.bnd v hv).1, h.top hg hv⟩, h.back, fun v hv h1 w hw h0 => h.fwd v hv h1 w hw h0 (h.top hg (by have := (hg.row v hv).2 w hw; omega))⟩
end Go.Proofs.Ytcgegbmnpjfjlaa
set_option maxHeartbeats 4000000
namespace Go.Proofs.Ytcgegbmnpjfjlaa
structure QT where
  L : List Int
  g : List (List Int)
  s : List Bool
  goal : Nat
  d : List Int
  v : Nat
  k : Nat
  r : List Int
  w : Nat
  b : Bool
  sb : Bool
  x : Int
  y : Int
  m1 : Nat
  m2 : Nat
def e4 (q : QT) : List (Nat × AV) := [(49, .bool q.sb), (53, .int .i64 q.x), (70, .int .i64 q.x), (77, lI q.r), (85, lI q.r), (88, .int .i64 (iN q.w)), (92, .bool q.sb), (97, .int .i64 q.y), (103, .int .i64 q.x), (109, .int .i64 q.x), (113, .int .i64 q.y), (122, .int .i64 q.x), (126, .int .i64 q.y)]
def e5 (q : QT) : List (Nat × AV) := [(81, .int .i64 q.y), (87, .int .i64 q.x), (93, .int .i64 q.y), (97, .int .i64 q.x)]
def badE (r : List Int) (n v i : Nat) : Bool := decide (r.getD i 0 < 0) || (decide ((n : Int) ≤ r.getD i 0) || (r.getD i 0 == (v : Int) || (decide (0 < i) && decide (r.getD i 0 ≤ r.getD (i - 1) 0))))
def badR (g : List (List Int)) (v : Nat) : Bool := (fnd (badE (g.getD v []) g.length v) 0 (g.getD v []).length).isSome
def badG (g : List (List Int)) : Bool := (fnd (badR g) 0 g.length).isSome
def Rows (g : List (List Int)) : Prop := ∀ v, v < g.length → (g.getD v []).length ≤ 9223372036854775807
noncomputable def chk4 (g : List (List Int)) (s : List Bool) : Int := if 24 < g.length then 20 else if badG g = true then 20 else if s.length ≠ g.length then 19 else 0
theorem Lev.occ {g : List (List Int)} {s : List Bool} (hg : OkG g s) {goal k : Nat} {d : List Int} (h : Lev g s goal k d) {v m : Nat} (hv : v < g.length) (hm : d.getD v 0 = (m : Int)) : ∀ j, j ≤ m → ((m - j : Nat) : Int) ∈ d := by
  have occ : ∀ j, j ≤ m → ∃ u, u < g.length ∧ d.getD u 0 = ((m - j : Nat) : Int) := by
    intro j
    induction j with
    | zero => intro _; exact ⟨v, hv, by rw [hm]; rfl⟩
    | succ j ih =>
      intro hj
      obtain ⟨u, hu, he⟩ := ih (by omega)
      rcases h.back u hu (by omega) with rfl | ⟨_, w, hw, h1, h2⟩
      · rw [h.zero] at he; omega
      · have := (hg.row u hu).2 w hw
        exact ⟨w.toNat, by omega, by omega⟩
  intro j hj
  obtain ⟨u, hu, he⟩ := occ j hj
  rw [← he, List.getD_eq_getElem?_getD, List.getElem?_eq_getElem (by rw [h.len]; exact hu)]
  exact List.getElem_mem _
theorem fnd_false {p : Nat → Bool} : ∀ {n s : Nat}, (∀ i, s ≤ i → i < s + n → p i = false) → fnd p s n = none := by
  intro n
  induction n with
  | zero => intro s _; rfl
  | succ n ih => intro s h; rw [fnd, h s (Nat.le_refl _) (by omega)]; exact ih fun i h1 h2 => h i (by omega) (by omega)
theorem fnd_some {p : Nat → Bool} : ∀ {n s j : Nat}, fnd p s n = some j → p j = true ∧ s ≤ j ∧ j < s + n := by
  intro n
  induction n with
  | zero => intro s j h; cases h
  | succ n ih =>
    intro s j h
    rw [fnd] at h
    cases hp : p s with
    | true => rw [hp] at h; cases h; exact ⟨hp, Nat.le_refl _, by omega⟩
    | false => rw [hp] at h; obtain ⟨a, b, c⟩ := ih h; exact ⟨a, by omega, by omega⟩
theorem hop_ok {g : List (List Int)} {s : List Bool} (hg : OkG g s) {goal : Nat} {d : List Int} (hD : Dst g s goal d) {u : Nat} (hu : u < g.length) (h0 : 0 < d.getD u 0) (hgd : s.getD goal false = false) : 0 ≤ hopZ g d u ∧ hopZ g d u < (g.length : Int) ∧ d.getD (hopZ g d u).toNat 0 = d.getD u 0 - 1 := by
  unfold hopZ
  cases hf : fnd (hopP g d u) 0 (g.getD u []).length with
  | some i =>
    obtain ⟨a, _, b⟩ := fnd_some hf
    obtain ⟨w, hw, hw1, _⟩ := row_get hg hu (i := i) (by omega)
    unfold hopP at a
    simp only [Bool.and_eq_true, decide_eq_true_eq, beq_iff_eq] at a
    show 0 ≤ (g.getD u []).getD i 0 ∧ (g.getD u []).getD i 0 < (g.length : Int) ∧ d.getD ((g.getD u []).getD i 0).toNat 0 = _
    exact ⟨by omega, by omega, a.2⟩
  | none =>
    exfalso
    rcases hD.back u hu (by omega) with rfl | ⟨_, w, hw, h1, h2⟩
    · rw [hD.zero hgd] at h0; omega
    · obtain ⟨i, hi, rfl⟩ := List.mem_iff_getElem.1 hw
      have hn := fnd_none hf i (Nat.zero_le _) (by omega)
      have e : (g.getD u []).getD i 0 = (g.getD u [])[i] := by rw [List.getD_eq_getElem?_getD (l := g.getD u []), List.getElem?_eq_getElem hi]; rfl
      unfold hopP at hn
      rw [e, decide_eq_true h0, Bool.true_and] at hn
      have : d.getD ((g.getD u [])[i]).toNat 0 = d.getD u 0 - 1 := by omega
      rw [this] at hn
      simp at hn
theorem wk_ok {g : List (List Int)} {s : List Bool} (hg : OkG g s) {goal : Nat} (hgo : goal < g.length) {d : List Int} (hD : Dst g s goal d) {a m : Nat} (ha : a < g.length) (hm : d.getD a 0 = (m : Int)) (hgd : s.getD goal false = false) :
    ∀ k, k ≤ m → 0 ≤ wkZ g d a k ∧ wkZ g d a k < (g.length : Int) ∧ d.getD (wkZ g d a k).toNat 0 = ((m - k : Nat) : Int) := by
  intro k
  induction k with
  | zero => intro _; exact ⟨by simp [wkZ], by simp only [wkZ]; omega, by simp only [wkZ, Int.toNat_natCast]; rw [hm]; rfl⟩
  | succ k ih =>
    intro hk
    obtain ⟨h1, h2, h3⟩ := ih (by omega)
    obtain ⟨g1, g2, g3⟩ := hop_ok hg hD (u := (wkZ g d a k).toNat) (by omega) (by omega) hgd
    exact ⟨g1, g2, by rw [wkZ, g3, h3]; omega⟩
theorem zero_goal {g : List (List Int)} {s : List Bool} {goal : Nat} {d : List Int} (hD : Dst g s goal d) {v : Nat} (hv : v < g.length) (h0 : d.getD v 0 = 0) : v = goal := by
  rcases hD.back v hv (by omega) with e | ⟨_, w, _, h1, h2⟩
  · exact e
  · omega
structure QZ where
  g : List (List Int)
  s : List Bool
  v : Nat
  m : Nat → Bool
  o : List Int
  u : Nat
  r : List Int
  i : Nat
  w : Nat
  sb : Bool
  mb : Bool
  k : Nat
  a : Nat
  x : Int
  y : Int
  d : List Int
  p : List Int
def cZ (q : QZ) : Nat → FuncId → List AV → List (Option Blk) → Hint := fun dst f args hp => match f with
  | 15 => .call [] [] [] (.int .i64 0)
  | 21 => .call [] [] [] (lI q.d)
  | 16 => .call [] [] [] (lI q.p)
  | _ => .no
noncomputable def st38 (q : QZ) : St := { n := Try.f15.ntmps, fr := [(0, .lst (gL q.g)), (1, .lst (boL q.s))], hp := [] }
noncomputable def la38 (q : QZ) : St := { n := Try.f15.ntmps, fr := [(0, .lst (gL q.g)), (1, .lst (boL q.s)), (13, .lst (gL q.g)), (14, .int .i64 (iN q.g.length)), (15, .int .i64 (iN q.a))], hp := [] }
noncomputable def lb38 (q : QZ) : St := { n := Try.f15.ntmps, fr := [(0, .lst (gL q.g)), (1, .lst (boL q.s)), (5, .int .i64 (iN q.a)), (7, .int .i64 q.x), (13, .lst (gL q.g)), (14, .int .i64 (iN q.g.length)), (15, .int .i64 (iN q.a)), (20, lI q.r), (21, .int .i64 (iN q.r.length)), (22, .int .i64 (iN q.i))], hp := [] }
def e38 (q : QZ) : List (Nat × AV) := [(18, lI q.r), (24, .int .i64 (iN q.w))]
theorem gc_0 (q : QZ) (h1 : (decide (24 < iN (gL q.g).length) = false)) {post : Exit → St → Prop} (ht : T Try.prog 0 (.loop (loopC (bodyOf Try.f15) 0)) (St.mk 48 [(0, AV.lst (gL q.g)), (1, AV.lst (boL q.s)), (13, AV.lst (gL q.g)), (14, iv (iN (gL q.g).length)), (15, iv 0)] []) (TK Try.prog 0 post (loopK (bodyOf Try.f15) 0))) : GoP Try.prog (hU [24] (e38 q) (cZ q)) 0 (bodyOf Try.f15) (st38 q) post :=
  endR_spec (σ := []) (fz := []) (vars := [0,1,13,14,15]) (by kernel_rfl) (aj (u2 (aj (u2 (u2 s2)) (aj h1 (al (u2 (u2 t2)))))) t6) ht
theorem gcx_0 (q : QZ) (h1 : (decide (iN q.a < iN q.g.length) = false)) (h2 : ((iN (boL q.s).length != iN (gL q.g).length) = false)) : GoO Try.prog (hU [32, 94] (e38 q) (cZ q)) 0 (loopC (bodyOf Try.f15) 0) (loopK (bodyOf Try.f15) 0) (la38 q) (Fin Try.prog Try.f15 0 [] (iv 0)) :=
  endF_spec (σ := []) (fz := []) (by kernel_rfl) (aj (aj (aj (al t3) (al h1)) (aj (u2 (u2 (u2 (u2 (al t3))))) (aj h2 s2))) t2)
theorem gca_0 (q : QZ) (h1 : (decide (iN q.a < iN q.g.length) = true)) (h2 : (0 ≤ iN q.a)) (h3 : ((gL q.g)[(iN q.a).toNat]? = some (AV.lst (List.map (iv) q.r)))) {post : Exit → St → Prop} (ht : T Try.prog 0 (.loop (loopC (loopC (bodyOf Try.f15) 0) 0)) (St.mk 48 [(0, AV.lst (gL q.g)), (1, AV.lst (boL q.s)), (5, iv (iN q.a)), (7, iv (-1)), (13, AV.lst (gL q.g)), (14, iv (iN q.g.length)), (15, iv (iN q.a)), (20, AV.lst (List.map (iv) q.r)), (21, iv (iN (List.map (iv) q.r).length)), (22, iv 0)] []) (TK Try.prog 0 post (loopK (loopC (bodyOf Try.f15) 0) 0))) : GoP Try.prog (hU [33] (e38 q) (cZ q)) 0 (loopC (bodyOf Try.f15) 0) (la38 q) post :=
  endR_spec (σ := []) (fz := []) (vars := [0,1,5,7,13,14,15,20,21,22]) (by kernel_rfl) (aj (aj (al t3) (aj h1 (aj (u2 (aj (k2 (aj h2 h3)) (u2 (u2 s2)))) (u2 (al (u2 (u2 t2))))))) (k2 t9)) ht
theorem gcbx_0 (q : QZ) (h1 : (decide (iN q.i < iN q.r.length) = false)) {post : Exit → St → Prop} {R : St → Prop} (hR : ∀ st, Ren 0 st (St.mk 48 [(0, AV.lst (gL q.g)), (1, AV.lst (boL q.s)), (13, AV.lst (gL q.g)), (14, iv (iN q.g.length)), (15, iv (IntKind.i64.wrap (iN q.a + 1)))] []) → R st) : GoO Try.prog (hU [46] (e38 q) (cZ q)) 0 (loopC (loopC (bodyOf Try.f15) 0) 0) (loopK (loopC (bodyOf Try.f15) 0) 0) (lb38 q) (andThen R post) :=
  endN_spec (σ := []) (fz := []) (vars := [0,1,13,14,15]) (by kernel_rfl) (aj (aj (aj (al t3) (al h1)) (al (u2 s2))) t6) hR
theorem gcbr_0 (q : QZ) (h1 : (decide (iN q.i < iN q.r.length) = true)) (h2 : (0 ≤ iN q.i)) (h3 : ((List.map (iv) q.r)[(iN q.i).toNat]? = some (iv (iN q.w)))) (h4 : (decide (iN q.w ≤ q.x) = false)) (h5 : (decide (iN (gL q.g).length ≤ iN q.w) = false)) (h6 : ((iN q.w == iN q.a) = false)) {post : Exit → St → Prop} {R : St → Prop} (hR : ∀ st, Ren 0 st (St.mk 48 [(0, AV.lst (gL q.g)), (1, AV.lst (boL q.s)), (5, iv (iN q.a)), (7, iv (iN q.w)), (13, AV.lst (gL q.g)), (14, iv (iN q.g.length)), (15, iv (iN q.a)), (20, AV.lst (List.map (iv) q.r)), (21, iv (iN q.r.length)), (22, iv (IntKind.i64.wrap (iN q.i + 1)))] []) → R st) : GoP Try.prog (hU [47, 56, 66, 76] (e38 q) (cZ q)) 0 (loopC (loopC (bodyOf Try.f15) 0) 0) (lb38 q) (andThen R post) :=
  endN_spec (σ := []) (fz := []) (vars := [0,1,5,7,13,14,15,20,21,22]) (by kernel_rfl) (aj (aj (al t3) (aj h1 (aj (aj (k2 (aj h2 h3)) (u2 s2)) (aj (u2 (u2 (aj t3 (aj (al h4) (aj t3 (aj t3 (aj t3 (aj t4 (aj (ak (al h5)) (u2 (aj t3 (aj t3 (aj t4 (al (ak (al h6)))))))))))))))) (ak (aj (u2 s2) (al (u2 s2)))))))) (k2 t9)) hR
def upd (m : Nat → Bool) (w : Nat) : Nat → Bool := fun i => if i = w then true else m i
def cnt (m : Nat → Bool) : Nat → Nat
  | 0 => 0
  | n + 1 => cnt m n + if m n = true then 0 else 1
theorem cnt_upd_ge (m : Nat → Bool) (w : Nat) : ∀ n, n ≤ w → cnt (upd m w) n = cnt m n := by
  intro n
  induction n with
  | zero => intro _; rfl
  | succ n ih => intro h; rw [cnt, cnt, ih (by omega)]; simp [upd, show n ≠ w by omega]
theorem cnt_upd (m : Nat → Bool) (w : Nat) (hm : m w = false) : ∀ n, w < n → cnt (upd m w) n + 1 = cnt m n := by
  intro n
  induction n with
  | zero => intro h; omega
  | succ n ih =>
    intro h
    rw [cnt, cnt]
    by_cases e : n = w
    · subst e; rw [cnt_upd_ge m n n (Nat.le_refl _), hm]; simp [upd]
    · have := ih (by omega)
      simp only [upd, e, if_false] at this ⊢
      omega
theorem cnt_le (m : Nat → Bool) : ∀ n, cnt m n ≤ n := by
  intro n
  induction n with
  | zero => exact Nat.le_refl _
  | succ n ih => rw [cnt]; split <;> omega
def Clo (g : List (List Int)) (s : List Bool) (C : Nat → Prop) : Prop := ∀ u, u < g.length → C u → ∀ w ∈ g.getD u [], s.getD w.toNat false = false → C w.toNat
def Rch (g : List (List Int)) (s : List Bool) (v u : Nat) : Prop := s.getD v false = false ∧ ∀ C : Nat → Prop, C v → Clo g s C → C u
theorem Rch.step {g : List (List Int)} {s : List Bool} {v u : Nat} (h : Rch g s v u) (hu : u < g.length) {w : Int} (hw : w ∈ g.getD u []) (ho : s.getD w.toNat false = false) : Rch g s v w.toNat :=
  ⟨h.1, fun C hv hc => hc u hu (h.2 C hv hc) w hw ho⟩
theorem Rch.refl {g : List (List Int)} {s : List Bool} {v : Nat} (h : s.getD v false = false) : Rch g s v v := ⟨h, fun _ hv _ => hv⟩
theorem Rch.lt {g : List (List Int)} {s : List Bool} (hg : OkG g s) {v u : Nat} (hv : v < g.length) (h : Rch g s v u) : u < g.length :=
  h.2 (· < g.length) hv fun x hx _ w hw _ => by have := (hg.row x hx).2 w hw; omega
def qz (g : List (List Int)) (s : List Bool) (v : Nat) (m : Nat → Bool) (o : List Int) (r : List Int) (i a : Nat) (x : Int) : QZ := ⟨g, s, v, m, o, 0, r, i, 0, false, false, o.length, a, x, 0, [], []⟩
def lastZ (r : List Int) (i : Nat) : Int := if i = 0 then -1 else r.getD (i - 1) 0
theorem lastZ_lt {r : List Int} {i : Nat} (h : i < r.length) (h0 : ∀ j, j < r.length → 0 ≤ r.getD j 0) (hs : ∀ i, 0 < i → i < r.length → r.getD (i - 1) 0 < r.getD i 0) : lastZ r i < r.getD i 0 := by
  unfold lastZ
  split
  · have := h0 i h; omega
  · exact hs i (by omega) h
theorem lastZ_succ {r : List Int} {i : Nat} : lastZ r (i + 1) = r.getD i 0 := by unfold lastZ; simp
theorem gcb_run {g : List (List Int)} {s : List Bool} (hg : OkG g s) (hs : Asc g) (a : Nat) (ha : a < g.length) {R : St → Prop} {post : Exit → St → Prop}
    (hR : ∀ st, Ren 0 st (la38 (qz g s 0 (fun _ => false) [] [] 0 (a + 1) 0)) → R st) :
    T Try.prog 0 (.loop (loopC (loopC (bodyOf Try.f15) 0) 0)) (lb38 (qz g s 0 (fun _ => false) [] (g.getD a []) 0 a (-1))) (TK Try.prog 0 (andThen R post) (loopK (loopC (bodyOf Try.f15) 0) 0)) := by
  have hgl := hg.len
  have hl := gL_len g
  have hr1 := (hg.row a ha).1
  have hget := fun i => row_get hg ha (i := i)
  have hsr := hs a ha
  generalize g.getD a [] = r at hr1 hget hsr
  refine T.loop (fun i : Nat => lb38 (qz g s 0 (fun _ => false) [] r i a (lastZ r i))) (fun i => i ≤ r.length) (fun i => r.length + 1 - i) 0 (Nat.zero_le _) ?_
  intro i hi
  by_cases h : i < r.length
  · obtain ⟨x, hx, hx1, hx2⟩ := hget i h
    have hg1 := lI_get h
    have hlt := lastZ_lt h (fun j hj => by obtain ⟨y, hy, _⟩ := hget j hj; omega) hsr
    rw [hx] at hg1 hlt
    refine T.path mix (gcbr_0 ⟨g, s, 0, fun _ => false, [], 0, r, i, x, false, false, 0, a, lastZ r i, 0, [], []⟩ (decide_eq_true (by simp only [iN]; omega)) (by simp [iN]) hg1 (decide_eq_false (by simp only [iN]; omega)) (decide_eq_false (by simp only [iN, hl]; omega)) (by simp [iN]; omega) ?_)
    intro st hst
    simp only [iN, wrap_nat i (show i < 9223372036854775807 by omega)] at hst
    refine ⟨i + 1, ?_, h, by omega⟩
    rw [lastZ_succ, hx]
    exact hst
  · refine T.out mix (gcbx_0 (qz g s 0 (fun _ => false) [] r i a (lastZ r i)) (decide_eq_false (by simp only [iN, qz]; omega)) ?_)
    intro st hst
    simp only [iN, qz, wrap_nat a (show a < 9223372036854775807 by omega)] at hst
    exact hR st hst
theorem gcheck_ct {g : List (List Int)} {s : List Bool} (hg : OkG g s) (hs : Asc g) : CT Try.prog 15 [] [.lst (gL g), .lst (boL s)] [] (.int .i64 0) := by
  have hgl := hg.len
  have hl := gL_len g
  have hbl := boL_len s
  have hsl := hg.sh
  refine CT.path mix Try.func15 (show Try.f15.body = some (bodyOf Try.f15) by kernel_rfl) (Nat.le_of_ble_eq_true rfl) (gc_0 (qz g s 0 (fun _ => false) [] [] 0 0 0) (decide_eq_false (by simp only [iN, qz, hl]; omega)) ?_)
  simp only [qz, hl]
  refine T.loop (fun a : Nat => la38 (qz g s 0 (fun _ => false) [] [] 0 a 0)) (fun a => a ≤ g.length) (fun a => g.length + 1 - a) 0 (Nat.zero_le _) ?_
  intro a ha
  by_cases h : a < g.length
  · refine T.path mix (gca_0 (qz g s 0 (fun _ => false) [] (g.getD a []) 0 a 0) (decide_eq_true (by simp only [iN, qz]; omega)) (by simp [iN]) (gL_get h) ?_)
    simp only [qz, lI_len]
    exact gcb_run hg hs a h fun st hst => ⟨a + 1, hst, h, by omega⟩
  · exact T.out mix (gcx_0 (qz g s 0 (fun _ => false) [] [] 0 a 0) (decide_eq_false (by simp only [iN, qz]; omega)) (by simp [iN, qz, hl, hbl, hsl]))
def ClosedAt (g : List (List Int)) (s : List Bool) (m : Nat → Bool) (u : Nat) : Prop := ∀ w ∈ g.getD u [], s.getD w.toNat false = false → m w.toNat = true
theorem ClosedAt.upd {g : List (List Int)} {s : List Bool} {m : Nat → Bool} {u : Nat} (h : ClosedAt g s m u) (w : Nat) : ClosedAt g s (upd m w) u := fun x hx ho => by unfold Go.Proofs.Ytcgegbmnpjfjlaa.upd; rw [h x hx ho]; simp
structure QB where
  g : List (List Int)
  s : List Bool
  goal : Nat
  n : Nat
  d : List Int
  o : List Int
  w : Nat
  v : Nat
  r : List Int
  i : Nat
  u : Nat
  x : Int
  y : Int
  bz : Int
  sb : Bool
  p : List Int
def cB (q : QB) : Nat → FuncId → List AV → List (Option Blk) → Hint := fun dst f args hp => match f with
  | 15 => .call [] [] [] (.int .i64 0)
  | 21 => .call [] [] [] (lI q.d)
  | 16 => .call [] [] [] (lI q.p)
  | _ => .no
noncomputable def st42 (q : QB) : St := { n := Try.f21.ntmps, fr := [(0, .lst (gL q.g)), (1, .lst (boL q.s)), (2, .int .i64 (iN q.goal))], hp := [] }
noncomputable def lf42 (q : QB) : St := { n := Try.f21.ntmps, fr := [(0, .lst (gL q.g)), (1, .lst (boL q.s)), (2, .int .i64 (iN q.goal)), (7, .sl 0 0 q.n), (19, .int .i64 (iN q.n)), (20, .int .i64 (iN q.i))], hp := [some (dB q.d)] }
noncomputable def lo42 (q : QB) : St := { n := Try.f21.ntmps, fr := [(0, .lst (gL q.g)), (1, .lst (boL q.s)), (7, .sl 0 0 q.n), (9, lI q.o)], hp := [some (dB q.d)] }
noncomputable def la42 (q : QB) : St := { n := Try.f21.ntmps, fr := [(0, .lst (gL q.g)), (1, .lst (boL q.s)), (7, .sl 0 0 q.n), (9, .lstc (q.o.map (AV.int .i64))), (10, .int .i64 (iN q.w)), (44, .lst (gL q.g)), (45, .int .i64 (iN q.n)), (46, .int .i64 (iN q.v))], hp := [some (dB q.d)] }
noncomputable def lb42 (q : QB) : St := { n := Try.f21.ntmps, fr := [(0, .lst (gL q.g)), (1, .lst (boL q.s)), (7, .sl 0 0 q.n), (9, .sl 1 0 q.o.length), (10, .int .i64 (iN q.w)), (44, .lst (gL q.g)), (45, .int .i64 (iN q.n)), (46, .int .i64 (iN q.v))], hp := [some (dB q.d), some (dB q.o)] }
noncomputable def lc42 (q : QB) : St := { n := Try.f21.ntmps, fr := [(0, .lst (gL q.g)), (1, .lst (boL q.s)), (7, .sl 0 0 q.n), (9, .lstc (q.o.map (AV.int .i64))), (10, .int .i64 (iN q.w)), (11, .int .i64 (iN q.v)), (44, .lst (gL q.g)), (45, .int .i64 (iN q.n)), (46, .int .i64 (iN q.v)), (62, lI q.r), (63, .int .i64 (iN q.r.length)), (64, .int .i64 (iN q.i))], hp := [some (dB q.d)] }
noncomputable def ld42 (q : QB) : St := { n := Try.f21.ntmps, fr := [(0, .lst (gL q.g)), (1, .lst (boL q.s)), (7, .sl 0 0 q.n), (9, .sl 1 0 q.o.length), (10, .int .i64 (iN q.w)), (11, .int .i64 (iN q.v)), (44, .lst (gL q.g)), (45, .int .i64 (iN q.n)), (46, .int .i64 (iN q.v)), (62, lI q.r), (63, .int .i64 (iN q.r.length)), (64, .int .i64 (iN q.i))], hp := [some (dB q.d), some (dB q.o)] }
def e42 (q : QB) : List (Nat × AV) := [(36, .int .i64 (iN q.w)), (49, lI q.r), (54, .int .i64 q.x), (59, .bool q.sb), (66, .int .i64 (iN q.u)), (76, .int .i64 q.x)]
noncomputable def st39 (q : QB) : St := { n := Try.f16.ntmps, fr := [(0, .lst (gL q.g)), (1, .lst (boL q.s)), (2, .int .i64 (iN q.goal))], hp := [] }
noncomputable def lo39 (q : QB) : St := { n := Try.f16.ntmps, fr := [(0, .lst (gL q.g)), (2, .int .i64 (iN q.goal)), (7, lI q.d), (8, .sl 0 0 q.p.length), (9, .int .i64 (iN q.v))], hp := [some (dB q.p)] }
noncomputable def li39 (q : QB) : St := { n := Try.f16.ntmps, fr := [(0, .lst (gL q.g)), (2, .int .i64 (iN q.goal)), (7, lI q.d), (8, .sl 0 0 q.p.length), (10, .int .i64 q.bz), (27, lI q.r), (28, .int .i64 (iN q.r.length)), (29, .int .i64 (iN q.i))], hp := [some (dB q.p)] }
def e39 (q : QB) : List (Nat × AV) := [(15, .bool q.sb), (26, lI q.r), (31, .int .i64 (iN q.u)), (35, .int .i64 q.x), (44, .int .i64 q.x), (48, .int .i64 q.y)]
noncomputable def st24 (q : QB) : St := { n := Try.f9.ntmps, fr := [(0, .lst (gL q.g)), (1, .lst (boL q.s)), (2, .int .i64 (iN q.goal))], hp := [] }
def e24 (q : QB) : List (Nat × AV) := []
theorem bi_0 (q : QB) (h1 : (iN (gL q.g).length ≤ iN (gL q.g).length)) (h2 : (8 * iN (gL q.g).length ≤ 281474976710656)) (h3 : (iN (gL q.g).length ≤ 9223372036854775807)) {post : Exit → St → Prop} (ht : T Try.prog 0 (.loop (loopC (bodyOf Try.f21) 0)) (St.mk 86 [(0, AV.lst (gL q.g)), (1, AV.lst (boL q.s)), (2, iv (iN q.goal)), (7, AV.sl 0 0 (gL q.g).length), (19, iv (iN (gL q.g).length)), (20, iv 0)] [some (Blk.mk (List.replicate (gL q.g).length (iv 0)) 1 true true none)]) (TK Try.prog 0 post (loopK (bodyOf Try.f21) 0))) : GoP Try.prog (hU [] (e42 q) (cB q)) 0 (bodyOf Try.f21) (st42 q) post :=
  endR_spec (σ := [0]) (fz := []) (vars := [0,1,2,7,19,20]) (by kernel_rfl) (aj (u2 (aj (u2 (u2 (aj (k2 (aj (show (0 ≤ iN (gL q.g).length) from (Int.natCast_nonneg _)) (aj h1 (aj h2 h3)))) s2))) (al (u2 (u2 t2))))) t8) ht
theorem bfr_0 (q : QB) (h1 : (decide (iN q.i < iN q.n) = true)) (h2 : (0 ≤ iN q.i)) (h3 : (iN q.i < iN q.n)) (h4 : ((0 + (iN q.i).toNat).succ.le (List.map (iv) q.d).length)) {post : Exit → St → Prop} {R : St → Prop} (hR : ∀ st, Ren 0 st (St.mk 86 [(0, AV.lst (gL q.g)), (1, AV.lst (boL q.s)), (2, iv (iN q.goal)), (7, AV.sl 0 0 q.n), (19, iv (iN q.n)), (20, iv (IntKind.i64.wrap (iN q.i + 1)))] [some (Blk.mk ((List.map (iv) q.d).set (0 + (iN q.i).toNat) (iv (-1))) 1 true true none)]) → R st) : GoP Try.prog (hU [43] (e42 q) (cB q)) 0 (loopC (bodyOf Try.f21) 0) (lf42 q) (andThen R post) :=
  endN_spec (σ := [0]) (fz := []) (vars := [0,1,2,7,19,20]) (by kernel_rfl) (aj (aj (al t3) (aj h1 (aj (u2 s2) (aj (u2 (u2 (aj (k2 (aj h2 h3)) (al (ak h4))))) (al (u2 s2)))))) t8) hR
theorem bfx_0 (q : QB) (h1 : (decide (iN q.i < iN q.n) = false)) (h2 : (0 ≤ iN q.goal)) (h3 : (iN q.goal < iN q.n)) (h4 : ((0 + (iN q.goal).toNat).succ.le (List.map (iv) q.d).length)) (h5 : (1 = [iv (iN q.goal)].length)) {post : Exit → St → Prop} (ht : T Try.prog 0 (.loop (loopC (bodyOf Try.f21) 1)) (St.mk 86 [(0, AV.lst (gL q.g)), (1, AV.lst (boL q.s)), (7, AV.sl 0 0 q.n), (9, AV.lst [iv (iN q.goal)])] [some (Blk.mk ((List.map (iv) q.d).set (0 + (iN q.goal).toNat) (iv 0)) 1 true true none)]) (TK Try.prog 0 post (loopK (bodyOf Try.f21) 1))) : GoO Try.prog (hU [42] (e42 q) (cB q)) 0 (loopC (bodyOf Try.f21) 0) (loopK (bodyOf Try.f21) 0) (lf42 q) post :=
  endR_spec (σ := [0]) (fz := [1]) (vars := [0,1,7,9]) (by kernel_rfl) (aj (aj (aj (al t3) (al h1)) (aj (u2 (u2 (aj (k2 (aj h2 h3)) (al (ak h4))))) (al (u2 (u2 s2))))) (k3 (aj h5 t2))) ht
theorem bo_0 (q : QB) (h1 : (decide (0 < iN (List.map (iv) q.o).length) = true)) (h2 : ((List.map (iv) q.o)[Int.toNat 0]? = some (iv (iN q.w)))) (h3 : (∀ (e : AV), e ∈ List.map (iv) q.o → e.cells.length = 1)) (h4 : (1 ≤ iN (List.map (iv) q.o).length)) (h5 : (iN (List.map (iv) q.o).length ≤ iN (List.map (iv) q.o).length)) {post : Exit → St → Prop} (ht : T Try.prog 0 (.loop (loopC (loopC (bodyOf Try.f21) 1) 0)) (St.mk 86 [(0, AV.lst (gL q.g)), (1, AV.lst (boL q.s)), (7, AV.sl 0 0 q.n), (9, AV.lstc (List.take ((List.map (iv) q.o).length - Int.toNat 1) (List.drop (Int.toNat 1) (List.map (iv) q.o)))), (10, iv (iN q.w)), (44, AV.lst (gL q.g)), (45, iv (iN (gL q.g).length)), (46, iv 0)] [some (Blk.mk (List.map (iv) q.d) 1 true true none)]) (TK Try.prog 0 post (loopK (loopC (bodyOf Try.f21) 1) 0))) : GoP Try.prog (hU [69] (e42 q) (cB q)) 0 (loopC (bodyOf Try.f21) 1) (lo42 q) post :=
  endR_spec (σ := [0]) (fz := []) (vars := [0,1,7,9,10,44,45,46]) (by kernel_rfl) (aj (aj (u2 (u2 s2)) (aj h1 (aj (u2 (aj (ak (aj (show ((0 : Int) ≤ (0 : Int)) by first | exact Nat.le_of_ble_eq_true rfl | decide) h2)) (u2 s2))) (aj (u2 (u2 (u2 (u2 (u2 (aj (k3 (aj h3 (aj (show ((0 : Int) ≤ (1 : Int)) by first | exact Nat.le_of_ble_eq_true rfl | decide) (aj h4 (aj (show (iN (List.map (AV.int IntKind.i64) q.o).length = iN (List.map (AV.int IntKind.i64) q.o).length) from rfl) h5))))) s2)))))) (al (u2 (u2 t2))))))) (ak t9)) ht
theorem box_0 (q : QB) (h1 : (decide (0 < iN (List.map (iv) q.o).length) = false)) (h2 : (q.n = (List.map (iv) q.d).length)) : GoO Try.prog (hU [68] (e42 q) (cB q)) 0 (loopC (bodyOf Try.f21) 1) (loopK (bodyOf Try.f21) 1) (lo42 q) (Fin Try.prog Try.f21 0 [] (AV.lst (List.map (iv) q.d))) :=
  endF_spec (σ := []) (fz := [0]) (by kernel_rfl) (aj (aj (aj (u2 (u2 s2)) (al h1)) (al (u2 s2))) (al h2))
theorem bax_0 (q : QB) (h1 : (decide (iN q.v < iN q.n) = false)) {post : Exit → St → Prop} {R : St → Prop} (hR : ∀ st, Ren 0 st (St.mk 86 [(0, AV.lst (gL q.g)), (1, AV.lst (boL q.s)), (7, AV.sl 0 0 q.n), (9, AV.lstc (List.map (iv) q.o))] [some (Blk.mk (List.map (iv) q.d) 1 true true none)]) → R st) : GoO Try.prog (hU [94] (e42 q) (cB q)) 0 (loopC (loopC (bodyOf Try.f21) 1) 0) (loopK (loopC (bodyOf Try.f21) 1) 0) (la42 q) (andThen R post) :=
  endN_spec (σ := [0]) (fz := []) (vars := [0,1,7,9]) (by kernel_rfl) (aj (al (aj (al t3) (al h1))) t6) hR
theorem bbx_0 (q : QB) (h1 : (decide (iN q.v < iN q.n) = false)) (h2 : (q.o.length = (List.map (iv) q.o).length)) {post : Exit → St → Prop} {R : St → Prop} (hR : ∀ st, Ren 0 st (St.mk 86 [(0, AV.lst (gL q.g)), (1, AV.lst (boL q.s)), (7, AV.sl 0 0 q.n), (9, AV.lst (List.map (iv) q.o))] [some (Blk.mk (List.map (iv) q.d) 1 true true none)]) → R st) : GoO Try.prog (hU [94] (e42 q) (cB q)) 0 (loopC (loopC (bodyOf Try.f21) 1) 0) (loopK (loopC (bodyOf Try.f21) 1) 0) (lb42 q) (andThen R post) :=
  endN_spec (σ := [0]) (fz := [1]) (vars := [0,1,7,9]) (by kernel_rfl) (aj (al (aj (al t3) (al h1))) (k3 (aj h2 t2))) hR
theorem bas_0 (q : QB) (h1 : (decide (iN q.v < iN q.n) = true)) (h2 : (0 ≤ iN q.v)) (h3 : ((gL q.g)[(iN q.v).toNat]? = some (AV.lst (List.map (iv) q.r)))) (h4 : (iN q.v < iN q.n)) (h5 : ((List.map (iv) q.d)[0 + (iN q.v).toNat]? = some (iv q.x))) (h6 : (decide (0 ≤ q.x) = true)) {post : Exit → St → Prop} {R : St → Prop} (hR : ∀ st, Ren 0 st (St.mk 86 [(0, AV.lst (gL q.g)), (1, AV.lst (boL q.s)), (7, AV.sl 0 0 q.n), (9, AV.lstc (List.map (iv) q.o)), (10, iv (iN q.w)), (44, AV.lst (gL q.g)), (45, iv (iN q.n)), (46, iv (IntKind.i64.wrap (iN q.v + 1)))] [some (Blk.mk (List.map (iv) q.d) 1 true true none)]) → R st) : GoP Try.prog (hU [95, 123, 113] (e42 q) (cB q)) 0 (loopC (loopC (bodyOf Try.f21) 1) 0) (la42 q) (andThen R post) :=
  endN_spec (σ := [0]) (fz := []) (vars := [0,1,7,9,10,44,45,46]) (by kernel_rfl) (aj (aj (al t3) (aj h1 (aj (u2 (aj (k2 (aj h2 h3)) (u2 (u2 s2)))) (aj (u2 (u2 (aj (k2 (aj h2 h4)) (aj (ak h5) (u2 (u2 (aj h6 (aj h6 (aj h6 (aj h6 (al (aj h6 t2)))))))))))) (aj (show (true = true) by first | decide | exact Int.NonNeg.mk _) (al (u2 s2))))))) (ak t9)) hR
theorem bas_1 (q : QB) (h1 : (decide (iN q.v < iN q.n) = true)) (h2 : (0 ≤ iN q.v)) (h3 : ((gL q.g)[(iN q.v).toNat]? = some (AV.lst (List.map (iv) q.r)))) (h4 : (iN q.v < iN q.n)) (h5 : ((List.map (iv) q.d)[0 + (iN q.v).toNat]? = some (iv q.x))) (h6 : (decide (0 ≤ q.x) = false)) (h7 : ((boL q.s)[(iN q.v).toNat]? = some (AV.bool q.sb))) (h8 : (q.sb = true)) {post : Exit → St → Prop} {R : St → Prop} (hR : ∀ st, Ren 0 st (St.mk 86 [(0, AV.lst (gL q.g)), (1, AV.lst (boL q.s)), (7, AV.sl 0 0 q.n), (9, AV.lstc (List.map (iv) q.o)), (10, iv (iN q.w)), (44, AV.lst (gL q.g)), (45, iv (iN q.n)), (46, iv (IntKind.i64.wrap (iN q.v + 1)))] [some (Blk.mk (List.map (iv) q.d) 1 true true none)]) → R st) : GoP Try.prog (hU [95, 123, 112] (e42 q) (cB q)) 0 (loopC (loopC (bodyOf Try.f21) 1) 0) (la42 q) (andThen R post) :=
  endN_spec (σ := [0]) (fz := []) (vars := [0,1,7,9,10,44,45,46]) (by kernel_rfl) (aj (aj (al t3) (aj h1 (aj (u2 (aj (k2 (aj h2 h3)) (u2 (u2 s2)))) (aj (u2 (u2 (aj (k2 (aj h2 h4)) (aj (ak h5) (u2 (u2 (ag h6 (ag h6 (aj (aj h6 (k2 (aj h2 h7))) (ag h6 (al (aj h6 t2)))))))))))) (aj h8 (al (u2 s2))))))) (ak t9)) hR
theorem bbs_0 (q : QB) (h1 : (decide (iN q.v < iN q.n) = true)) (h2 : (0 ≤ iN q.v)) (h3 : ((gL q.g)[(iN q.v).toNat]? = some (AV.lst (List.map (iv) q.r)))) (h4 : (iN q.v < iN q.n)) (h5 : ((List.map (iv) q.d)[0 + (iN q.v).toNat]? = some (iv q.x))) (h6 : (decide (0 ≤ q.x) = true)) {post : Exit → St → Prop} {R : St → Prop} (hR : ∀ st, Ren 0 st (St.mk 86 [(0, AV.lst (gL q.g)), (1, AV.lst (boL q.s)), (7, AV.sl 0 0 q.n), (9, AV.sl 1 0 q.o.length), (10, iv (iN q.w)), (44, AV.lst (gL q.g)), (45, iv (iN q.n)), (46, iv (IntKind.i64.wrap (iN q.v + 1)))] [some (Blk.mk (List.map (iv) q.d) 1 true true none), some (Blk.mk (List.map (iv) q.o) 1 true true none)]) → R st) : GoP Try.prog (hU [95, 123, 113] (e42 q) (cB q)) 0 (loopC (loopC (bodyOf Try.f21) 1) 0) (lb42 q) (andThen R post) :=
  endN_spec (σ := [0, 1]) (fz := []) (vars := [0,1,7,9,10,44,45,46]) (by kernel_rfl) (aj (aj (al t3) (aj h1 (aj (u2 (aj (k2 (aj h2 h3)) (u2 (u2 s2)))) (aj (u2 (u2 (aj (k2 (aj h2 h4)) (aj (ak h5) (u2 (u2 (aj h6 (aj h6 (aj h6 (aj h6 (al (aj h6 t2)))))))))))) (aj (show (true = true) by first | decide | exact Int.NonNeg.mk _) (al (u2 s2))))))) (k2 t9)) hR
theorem bbs_1 (q : QB) (h1 : (decide (iN q.v < iN q.n) = true)) (h2 : (0 ≤ iN q.v)) (h3 : ((gL q.g)[(iN q.v).toNat]? = some (AV.lst (List.map (iv) q.r)))) (h4 : (iN q.v < iN q.n)) (h5 : ((List.map (iv) q.d)[0 + (iN q.v).toNat]? = some (iv q.x))) (h6 : (decide (0 ≤ q.x) = false)) (h7 : ((boL q.s)[(iN q.v).toNat]? = some (AV.bool q.sb))) (h8 : (q.sb = true)) {post : Exit → St → Prop} {R : St → Prop} (hR : ∀ st, Ren 0 st (St.mk 86 [(0, AV.lst (gL q.g)), (1, AV.lst (boL q.s)), (7, AV.sl 0 0 q.n), (9, AV.sl 1 0 q.o.length), (10, iv (iN q.w)), (44, AV.lst (gL q.g)), (45, iv (iN q.n)), (46, iv (IntKind.i64.wrap (iN q.v + 1)))] [some (Blk.mk (List.map (iv) q.d) 1 true true none), some (Blk.mk (List.map (iv) q.o) 1 true true none)]) → R st) : GoP Try.prog (hU [95, 123, 112] (e42 q) (cB q)) 0 (loopC (loopC (bodyOf Try.f21) 1) 0) (lb42 q) (andThen R post) :=
  endN_spec (σ := [0, 1]) (fz := []) (vars := [0,1,7,9,10,44,45,46]) (by kernel_rfl) (aj (aj (al t3) (aj h1 (aj (u2 (aj (k2 (aj h2 h3)) (u2 (u2 s2)))) (aj (u2 (u2 (aj (k2 (aj h2 h4)) (aj (ak h5) (u2 (u2 (ag h6 (ag h6 (aj (aj h6 (k2 (aj h2 h7))) (ag h6 (al (aj h6 t2)))))))))))) (aj h8 (al (u2 s2))))))) (k2 t9)) hR
theorem bai_0 (q : QB) (h1 : (decide (iN q.v < iN q.n) = true)) (h2 : (0 ≤ iN q.v)) (h3 : ((gL q.g)[(iN q.v).toNat]? = some (AV.lst (List.map (iv) q.r)))) (h4 : (iN q.v < iN q.n)) (h5 : ((List.map (iv) q.d)[0 + (iN q.v).toNat]? = some (iv q.x))) (h6 : (decide (0 ≤ q.x) = false)) (h7 : ((boL q.s)[(iN q.v).toNat]? = some (AV.bool q.sb))) (h8 : (q.sb = false)) {post : Exit → St → Prop} (ht : T Try.prog 0 (.loop (loopC (loopC (loopC (bodyOf Try.f21) 1) 0) 0)) (St.mk 86 [(0, AV.lst (gL q.g)), (1, AV.lst (boL q.s)), (7, AV.sl 0 0 q.n), (9, AV.lstc (List.map (iv) q.o)), (10, iv (iN q.w)), (11, iv (iN q.v)), (44, AV.lst (gL q.g)), (45, iv (iN q.n)), (46, iv (iN q.v)), (62, AV.lst (List.map (iv) q.r)), (63, iv (iN (List.map (iv) q.r).length)), (64, iv 0)] [some (Blk.mk (List.map (iv) q.d) 1 true true none)]) (TK Try.prog 0 post (loopK (loopC (loopC (bodyOf Try.f21) 1) 0) 0))) : GoP Try.prog (hU [95, 110, 120] (e42 q) (cB q)) 0 (loopC (loopC (bodyOf Try.f21) 1) 0) (la42 q) post :=
  endR_spec (σ := [0]) (fz := []) (vars := [0,1,7,9,10,11,44,45,46,62,63,64]) (by kernel_rfl) (aj (aj (al t3) (aj h1 (aj (u2 (aj (k2 (aj h2 h3)) (u2 (u2 s2)))) (aj (u2 (u2 (aj (k2 (aj h2 h4)) (aj (ak h5) (u2 (aj (al h6) (aj t3 (aj t3 (aj (k3 (aj h2 h7)) (aj t3 (al (ak (al h8))))))))))))) (ak (al (u2 (u2 t2)))))))) (k5 t9)) ht
theorem bbi_0 (q : QB) (h1 : (decide (iN q.v < iN q.n) = true)) (h2 : (0 ≤ iN q.v)) (h3 : ((gL q.g)[(iN q.v).toNat]? = some (AV.lst (List.map (iv) q.r)))) (h4 : (iN q.v < iN q.n)) (h5 : ((List.map (iv) q.d)[0 + (iN q.v).toNat]? = some (iv q.x))) (h6 : (decide (0 ≤ q.x) = false)) (h7 : ((boL q.s)[(iN q.v).toNat]? = some (AV.bool q.sb))) (h8 : (q.sb = false)) {post : Exit → St → Prop} (ht : T Try.prog 0 (.loop (loopC (loopC (loopC (bodyOf Try.f21) 1) 0) 0)) (St.mk 86 [(0, AV.lst (gL q.g)), (1, AV.lst (boL q.s)), (7, AV.sl 0 0 q.n), (9, AV.sl 1 0 q.o.length), (10, iv (iN q.w)), (11, iv (iN q.v)), (44, AV.lst (gL q.g)), (45, iv (iN q.n)), (46, iv (iN q.v)), (62, AV.lst (List.map (iv) q.r)), (63, iv (iN (List.map (iv) q.r).length)), (64, iv 0)] [some (Blk.mk (List.map (iv) q.d) 1 true true none), some (Blk.mk (List.map (iv) q.o) 1 true true none)]) (TK Try.prog 0 post (loopK (loopC (loopC (bodyOf Try.f21) 1) 0) 0))) : GoP Try.prog (hU [95, 110, 120] (e42 q) (cB q)) 0 (loopC (loopC (bodyOf Try.f21) 1) 0) (lb42 q) post :=
  endR_spec (σ := [0, 1]) (fz := []) (vars := [0,1,7,9,10,11,44,45,46,62,63,64]) (by kernel_rfl) (aj (aj (al t3) (aj h1 (aj (u2 (aj (k2 (aj h2 h3)) (u2 (u2 s2)))) (aj (u2 (u2 (aj (k2 (aj h2 h4)) (aj (ak h5) (u2 (aj (al h6) (aj t3 (aj t3 (aj (k3 (aj h2 h7)) (aj t3 (al (ak (al h8))))))))))))) (ak (al (u2 (u2 t2)))))))) (ak (k5 t9))) ht
theorem bcx_0 (q : QB) (h1 : (decide (iN q.i < iN q.r.length) = false)) {post : Exit → St → Prop} {R : St → Prop} (hR : ∀ st, Ren 0 st (St.mk 86 [(0, AV.lst (gL q.g)), (1, AV.lst (boL q.s)), (7, AV.sl 0 0 q.n), (9, AV.lstc (List.map (iv) q.o)), (10, iv (iN q.w)), (44, AV.lst (gL q.g)), (45, iv (iN q.n)), (46, iv (IntKind.i64.wrap (iN q.v + 1)))] [some (Blk.mk (List.map (iv) q.d) 1 true true none)]) → R st) : GoO Try.prog (hU [130] (e42 q) (cB q)) 0 (loopC (loopC (loopC (bodyOf Try.f21) 1) 0) 0) (loopK (loopC (loopC (bodyOf Try.f21) 1) 0) 0) (lc42 q) (andThen R post) :=
  endN_spec (σ := [0]) (fz := []) (vars := [0,1,7,9,10,44,45,46]) (by kernel_rfl) (aj (aj (aj (al t3) (al h1)) (al (u2 s2))) (ak t9)) hR
theorem bdx_0 (q : QB) (h1 : (decide (iN q.i < iN q.r.length) = false)) {post : Exit → St → Prop} {R : St → Prop} (hR : ∀ st, Ren 0 st (St.mk 86 [(0, AV.lst (gL q.g)), (1, AV.lst (boL q.s)), (7, AV.sl 0 0 q.n), (9, AV.sl 1 0 q.o.length), (10, iv (iN q.w)), (44, AV.lst (gL q.g)), (45, iv (iN q.n)), (46, iv (IntKind.i64.wrap (iN q.v + 1)))] [some (Blk.mk (List.map (iv) q.d) 1 true true none), some (Blk.mk (List.map (iv) q.o) 1 true true none)]) → R st) : GoO Try.prog (hU [130] (e42 q) (cB q)) 0 (loopC (loopC (loopC (bodyOf Try.f21) 1) 0) 0) (loopK (loopC (loopC (bodyOf Try.f21) 1) 0) 0) (ld42 q) (andThen R post) :=
  endN_spec (σ := [0, 1]) (fz := []) (vars := [0,1,7,9,10,44,45,46]) (by kernel_rfl) (aj (aj (aj (al t3) (al h1)) (al (u2 s2))) (k2 t9)) hR
theorem bcn_0 (q : QB) (h1 : (decide (iN q.i < iN q.r.length) = true)) (h2 : (0 ≤ iN q.i)) (h3 : ((List.map (iv) q.r)[(iN q.i).toNat]? = some (iv (iN q.u)))) (h4 : ((iN q.u == iN q.w) = false)) {post : Exit → St → Prop} {R : St → Prop} (hR : ∀ st, Ren 0 st (St.mk 86 [(0, AV.lst (gL q.g)), (1, AV.lst (boL q.s)), (7, AV.sl 0 0 q.n), (9, AV.lstc (List.map (iv) q.o)), (10, iv (iN q.w)), (11, iv (iN q.v)), (44, AV.lst (gL q.g)), (45, iv (iN q.n)), (46, iv (iN q.v)), (62, AV.lst (List.map (iv) q.r)), (63, iv (iN q.r.length)), (64, iv (IntKind.i64.wrap (iN q.i + 1)))] [some (Blk.mk (List.map (iv) q.d) 1 true true none)]) → R st) : GoP Try.prog (hU [131, 140] (e42 q) (cB q)) 0 (loopC (loopC (loopC (bodyOf Try.f21) 1) 0) 0) (lc42 q) (andThen R post) :=
  endN_spec (σ := [0]) (fz := []) (vars := [0,1,7,9,10,11,44,45,46,62,63,64]) (by kernel_rfl) (aj (aj (al t3) (aj h1 (aj (aj (k2 (aj h2 h3)) (u2 s2)) (aj (u2 (u2 (al t3))) (aj h4 (al (u2 s2))))))) (k5 t9)) hR
theorem bdn_0 (q : QB) (h1 : (decide (iN q.i < iN q.r.length) = true)) (h2 : (0 ≤ iN q.i)) (h3 : ((List.map (iv) q.r)[(iN q.i).toNat]? = some (iv (iN q.u)))) (h4 : ((iN q.u == iN q.w) = false)) {post : Exit → St → Prop} {R : St → Prop} (hR : ∀ st, Ren 0 st (St.mk 86 [(0, AV.lst (gL q.g)), (1, AV.lst (boL q.s)), (7, AV.sl 0 0 q.n), (9, AV.sl 1 0 q.o.length), (10, iv (iN q.w)), (11, iv (iN q.v)), (44, AV.lst (gL q.g)), (45, iv (iN q.n)), (46, iv (iN q.v)), (62, AV.lst (List.map (iv) q.r)), (63, iv (iN q.r.length)), (64, iv (IntKind.i64.wrap (iN q.i + 1)))] [some (Blk.mk (List.map (iv) q.d) 1 true true none), some (Blk.mk (List.map (iv) q.o) 1 true true none)]) → R st) : GoP Try.prog (hU [131, 140] (e42 q) (cB q)) 0 (loopC (loopC (loopC (bodyOf Try.f21) 1) 0) 0) (ld42 q) (andThen R post) :=
  endN_spec (σ := [0, 1]) (fz := []) (vars := [0,1,7,9,10,11,44,45,46,62,63,64]) (by kernel_rfl) (aj (aj (al t3) (aj h1 (aj (aj (k2 (aj h2 h3)) (u2 s2)) (aj (u2 (u2 (al t3))) (aj h4 (al (u2 s2))))))) (ak (k5 t9))) hR
theorem bcm_0 (q : QB) (h1 : (decide (iN q.i < iN q.r.length) = true)) (h2 : (0 ≤ iN q.i)) (h3 : ((List.map (iv) q.r)[(iN q.i).toNat]? = some (iv (iN q.u)))) (h4 : ((iN q.u == iN q.w) = true)) (h5 : (0 ≤ iN q.w)) (h6 : (iN q.w < iN q.n)) (h7 : ((List.map (iv) q.d)[0 + (iN q.w).toNat]? = some (iv q.x))) (h8 : (0 ≤ iN q.v)) (h9 : (iN q.v < iN q.n)) (h10 : ((0 + (iN q.v).toNat).succ.le (List.map (iv) q.d).length)) (h11 : (∀ (e : AV), e ∈ List.map (iv) q.o → e.cells.length = 1)) (h12 : (1 ≤ [iv (iN q.v)].length)) (h13 : (0 < [iv (iN q.v)].length)) (h14 : ((List.map (iv) q.o).length + [iv (iN q.v)].length ≤ 9223372036854775807)) (h15 : (((List.map (iv) q.o).length + [iv (iN q.v)].length) * 8 ≤ 140737488355328)) {post : Exit → St → Prop} {R : St → Prop} (hR : ∀ st, Ren 0 st (St.mk 86 [(0, AV.lst (gL q.g)), (1, AV.lst (boL q.s)), (7, AV.sl 0 0 q.n), (9, AV.sl 1 0 ((List.map (iv) q.o).length + [iv (iN q.v)].length)), (10, iv (iN q.w)), (11, iv (iN q.v)), (44, AV.lst (gL q.g)), (45, iv (iN q.n)), (46, iv (iN q.v)), (62, AV.lst (List.map (iv) q.r)), (63, iv (iN q.r.length)), (64, iv (IntKind.i64.wrap (iN q.i + 1)))] [some (Blk.mk ((List.map (iv) q.d).set (0 + (iN q.v).toNat) (iv (IntKind.i64.wrap (q.x + 1)))) 1 true true none), some (Blk.mk (List.map (iv) q.o ++ [iv (iN q.v)]) 1 true true none)]) → R st) : GoP Try.prog (hU [131, 141] (e42 q) (cB q)) 0 (loopC (loopC (loopC (bodyOf Try.f21) 1) 0) 0) (lc42 q) (andThen R post) :=
  endN_spec (σ := [0, 2]) (fz := []) (vars := [0,1,7,9,10,11,44,45,46,62,63,64]) (by kernel_rfl) (aj (aj (al t3) (aj h1 (aj (aj (k2 (aj h2 h3)) (u2 s2)) (aj (u2 (u2 (al t3))) (aj h4 (aj (u2 (u2 (u2 (u2 (aj (k2 (aj h5 h6)) (aj (ak h7) (u2 (aj (k2 (aj h8 h9)) (al (k2 h10)))))))))) (aj (u2 (u2 (u2 (aj (k2 (aj h11 (aj (aj (show (nat_lit 1 = nat_lit 1) by first | decide | exact Int.NonNeg.mk _) h12) (aj h13 (aj h14 h15))))) s2)))) (al (u2 s2))))))))) (ak (k5 t9))) hR
theorem bdm_0 (q : QB) (h1 : (decide (iN q.i < iN q.r.length) = true)) (h2 : (0 ≤ iN q.i)) (h3 : ((List.map (iv) q.r)[(iN q.i).toNat]? = some (iv (iN q.u)))) (h4 : ((iN q.u == iN q.w) = true)) (h5 : (0 ≤ iN q.w)) (h6 : (iN q.w < iN q.n)) (h7 : ((List.map (iv) q.d)[0 + (iN q.w).toNat]? = some (iv q.x))) (h8 : (0 ≤ iN q.v)) (h9 : (iN q.v < iN q.n)) (h10 : ((0 + (iN q.v).toNat).succ.le (List.map (iv) q.d).length)) (h11 : ((List.map (iv) q.o).length = q.o.length)) (h12 : (1 ≤ [iv (iN q.v)].length)) (h13 : ((List.map (iv) q.o).length + [iv (iN q.v)].length ≤ 9223372036854775807)) (h14 : (((List.map (iv) q.o).length + [iv (iN q.v)].length) * 8 ≤ 140737488355328)) {post : Exit → St → Prop} {R : St → Prop} (hR : ∀ st, Ren 0 st (St.mk 86 [(0, AV.lst (gL q.g)), (1, AV.lst (boL q.s)), (7, AV.sl 0 0 q.n), (9, AV.sl 1 0 ((List.map (iv) q.o).length + [iv (iN q.v)].length)), (10, iv (iN q.w)), (11, iv (iN q.v)), (44, AV.lst (gL q.g)), (45, iv (iN q.n)), (46, iv (iN q.v)), (62, AV.lst (List.map (iv) q.r)), (63, iv (iN q.r.length)), (64, iv (IntKind.i64.wrap (iN q.i + 1)))] [some (Blk.mk ((List.map (iv) q.d).set (0 + (iN q.v).toNat) (iv (IntKind.i64.wrap (q.x + 1)))) 1 true true none), some (Blk.mk (List.map (iv) q.o ++ [iv (iN q.v)]) 1 true true none)]) → R st) : GoP Try.prog (hU [131, 141] (e42 q) (cB q)) 0 (loopC (loopC (loopC (bodyOf Try.f21) 1) 0) 0) (ld42 q) (andThen R post) :=
  endN_spec (σ := [0, 3]) (fz := []) (vars := [0,1,7,9,10,11,44,45,46,62,63,64]) (by kernel_rfl) (aj (aj (al t3) (aj h1 (aj (aj (k2 (aj h2 h3)) (u2 s2)) (aj (u2 (u2 (al t3))) (aj h4 (aj (u2 (u2 (u2 (u2 (aj (k2 (aj h5 h6)) (aj (ak h7) (u2 (aj (k2 (aj h8 h9)) (al (k2 h10)))))))))) (aj (u2 (u2 (u2 (aj (k2 (aj h11 (aj (aj (show (nat_lit 1 = nat_lit 1) by first | decide | exact Int.NonNeg.mk _) h12) (aj h13 h14)))) s2)))) (al (u2 s2))))))))) (ak (k5 t9))) hR
theorem th_0 (q : QB) (h1 : (0 ≤ iN q.goal)) (h2 : ((boL q.s)[(iN q.goal).toNat]? = some (AV.bool q.sb))) (h3 : (q.sb = true)) : GoP Try.prog (hU [33] (e39 q) (cB q)) 0 (bodyOf Try.f16) (st39 q) (Fin Try.prog Try.f16 0 [] (AV.nils)) :=
  endF_spec (σ := []) (fz := []) (by kernel_rfl) (aj (u2 (aj (u2 (u2 (aj (k2 (aj h1 h2)) s2))) (aj h3 s2))) t2)
theorem tn_0 (q : QB) (h1 : (0 ≤ iN q.goal)) (h2 : ((boL q.s)[(iN q.goal).toNat]? = some (AV.bool q.sb))) (h3 : (q.sb = false)) (h4 : (CT Try.prog 21 [] [AV.lst (gL q.g), AV.lst (boL q.s), iv (iN q.goal)] [] (AV.lst (List.map (iv) q.d)))) {post : Exit → St → Prop} (ht : T Try.prog 0 (.loop (loopC (bodyOf Try.f16) 0)) (St.mk 68 [(0, AV.lst (gL q.g)), (2, iv (iN q.goal)), (7, AV.lst (List.map (iv) q.d)), (8, AV.sl 0 0 1), (9, iv (iN q.goal))] [some (Blk.mk [iv (iN q.goal)] 1 true true none)]) (TK Try.prog 0 post (loopK (bodyOf Try.f16) 0))) : GoP Try.prog (hU [32] (e39 q) (cB q)) 0 (bodyOf Try.f16) (st39 q) post :=
  endR_spec (σ := [0]) (fz := []) (vars := [0,2,7,8,9]) (by kernel_rfl) (aj (u2 (aj (u2 (u2 (aj (k2 (aj h1 h2)) s2))) (aj h3 (aj (u2 (u2 (u2 (aj (ak (k5 (al h4))) s2)))) (al (u2 (u2 (u2 (u2 s2))))))))) t7) ht
theorem to_0 (q : QB) (h1 : (0 ≤ iN q.v)) (h2 : ((gL q.g)[(iN q.v).toNat]? = some (AV.lst (List.map (iv) q.r)))) {post : Exit → St → Prop} (ht : T Try.prog 0 (.loop (loopC (loopC (bodyOf Try.f16) 0) 0)) (St.mk 68 [(0, AV.lst (gL q.g)), (2, iv (iN q.goal)), (7, AV.lst (List.map (iv) q.d)), (8, AV.sl 0 0 q.p.length), (10, iv (-1)), (27, AV.lst (List.map (iv) q.r)), (28, iv (iN (List.map (iv) q.r).length)), (29, iv 0)] [some (Blk.mk (List.map (iv) q.p) 1 true true none)]) (TK Try.prog 0 post (loopK (loopC (bodyOf Try.f16) 0) 0))) : GoP Try.prog (hU [] (e39 q) (cB q)) 0 (loopC (bodyOf Try.f16) 0) (lo39 q) post :=
  endR_spec (σ := [0]) (fz := []) (vars := [0,2,7,8,10,27,28,29]) (by kernel_rfl) (aj (u2 (al (u2 (u2 (aj (k2 (aj h1 h2)) (u2 (u2 t2))))))) (ak t9)) ht
theorem tea_0 (q : QB) (h1 : (decide (iN q.i < iN q.r.length) = false)) (h2 : (decide (q.bz < 0) = true)) {post : Exit → St → Prop} (hP : Pass post (Fin Try.prog Try.f16 0 [] (AV.nils))) : GoO Try.prog (hU [60, 115] (e39 q) (cB q)) 0 (loopC (loopC (bodyOf Try.f16) 0) 0) (loopK (loopC (bodyOf Try.f16) 0) 0) (li39 q) post :=
  endT_spec (σ := []) (fz := []) (by kernel_rfl) (aj (aj (aj (al t3) (al h1)) (aj (u2 (u2 (al (al h2)))) (ak s2))) t2) hP
theorem teb_0 (q : QB) (h1 : (decide (iN q.i < iN q.r.length) = false)) (h2 : (decide (q.bz < 0) = false)) (h3 : ((q.bz == iN q.goal) = true)) (h4 : (q.p.length = (List.map (iv) q.p).length)) {post : Exit → St → Prop} (hP : Pass post (Fin Try.prog Try.f16 0 [] (AV.lst (List.map (iv) q.p)))) : GoO Try.prog (hU [60, 114, 123] (e39 q) (cB q)) 0 (loopC (loopC (bodyOf Try.f16) 0) 0) (loopK (loopC (bodyOf Try.f16) 0) 0) (li39 q) post :=
  endT_spec (σ := []) (fz := [0]) (by kernel_rfl) (aj (aj (aj (al t3) (al h1)) (aj (u2 (u2 (al (al h2)))) (ak (aj (u2 (u2 (aj t3 (al (al h3))))) (ak (al (u2 s2))))))) (al h4)) hP
theorem tec_0 (q : QB) (h1 : (decide (iN q.i < iN q.r.length) = false)) (h2 : (decide (q.bz < 0) = false)) (h3 : ((q.bz == iN q.goal) = false)) (h4 : ((List.map (iv) q.p).length = q.p.length)) (h5 : (1 ≤ [iv q.bz].length)) (h6 : ((List.map (iv) q.p).length + [iv q.bz].length ≤ 9223372036854775807)) (h7 : (((List.map (iv) q.p).length + [iv q.bz].length) * 8 ≤ 140737488355328)) {post : Exit → St → Prop} {R : St → Prop} (hR : ∀ st, Ren 0 st (St.mk 68 [(0, AV.lst (gL q.g)), (2, iv (iN q.goal)), (7, AV.lst (List.map (iv) q.d)), (8, AV.sl 0 0 ((List.map (iv) q.p).length + [iv q.bz].length)), (9, iv q.bz)] [some (Blk.mk (List.map (iv) q.p ++ [iv q.bz]) 1 true true none)]) → R st) : GoO Try.prog (hU [60, 114, 122] (e39 q) (cB q)) 0 (loopC (loopC (bodyOf Try.f16) 0) 0) (loopK (loopC (bodyOf Try.f16) 0) 0) (li39 q) (andThen R post) :=
  endN_spec (σ := [2]) (fz := []) (vars := [0,2,7,8,9]) (by kernel_rfl) (aj (aj (aj (al t3) (al h1)) (aj (u2 (u2 (al (al h2)))) (ak (aj (u2 (u2 (aj t3 (al (al h3))))) (ak (al (u2 (u2 (u2 (aj (k2 (aj h4 (aj (aj (show (nat_lit 1 = nat_lit 1) by first | decide | exact Int.NonNeg.mk _) h5) (aj h6 h7)))) (u2 (u2 s2)))))))))))) t7) hR
theorem tis_0 (q : QB) (h1 : (decide (iN q.i < iN q.r.length) = true)) (h2 : (0 ≤ iN q.i)) (h3 : ((List.map (iv) q.r)[(iN q.i).toNat]? = some (iv (iN q.u)))) (h4 : (0 ≤ iN q.u)) (h5 : ((List.map (iv) q.d)[(iN q.u).toNat]? = some (iv q.x))) (h6 : (decide (0 ≤ q.x) = false)) {post : Exit → St → Prop} {R : St → Prop} (hR : ∀ st, Ren 0 st (St.mk 68 [(0, AV.lst (gL q.g)), (2, iv (iN q.goal)), (7, AV.lst (List.map (iv) q.d)), (8, AV.sl 0 0 q.p.length), (10, iv q.bz), (27, AV.lst (List.map (iv) q.r)), (28, iv (iN q.r.length)), (29, iv (IntKind.i64.wrap (iN q.i + 1)))] [some (Blk.mk (List.map (iv) q.p) 1 true true none)]) → R st) : GoP Try.prog (hU [61, 74] (e39 q) (cB q)) 0 (loopC (loopC (bodyOf Try.f16) 0) 0) (li39 q) (andThen R post) :=
  endN_spec (σ := [0]) (fz := []) (vars := [0,2,7,8,10,27,28,29]) (by kernel_rfl) (aj (aj (al t3) (aj h1 (aj (aj (k2 (aj h2 h3)) (u2 s2)) (aj (u2 (u2 (aj (k2 (aj h4 h5)) (u2 (u2 (aj (al h6) (k3 (k5 (k5 (al t3)))))))))) (ak (al (u2 s2))))))) (ak t9)) hR
theorem tit_0 (q : QB) (h1 : (decide (iN q.i < iN q.r.length) = true)) (h2 : (0 ≤ iN q.i)) (h3 : ((List.map (iv) q.r)[(iN q.i).toNat]? = some (iv (iN q.u)))) (h4 : (0 ≤ iN q.u)) (h5 : ((List.map (iv) q.d)[(iN q.u).toNat]? = some (iv q.x))) (h6 : (decide (0 ≤ q.x) = true)) (h7 : (decide (q.bz < 0) = true)) {post : Exit → St → Prop} {R : St → Prop} (hR : ∀ st, Ren 0 st (St.mk 68 [(0, AV.lst (gL q.g)), (2, iv (iN q.goal)), (7, AV.lst (List.map (iv) q.d)), (8, AV.sl 0 0 q.p.length), (10, iv (iN q.u)), (27, AV.lst (List.map (iv) q.r)), (28, iv (iN q.r.length)), (29, iv (IntKind.i64.wrap (iN q.i + 1)))] [some (Blk.mk (List.map (iv) q.p) 1 true true none)]) → R st) : GoP Try.prog (hU [61, 75, 81] (e39 q) (cB q)) 0 (loopC (loopC (bodyOf Try.f16) 0) 0) (li39 q) (andThen R post) :=
  endN_spec (σ := [0]) (fz := []) (vars := [0,2,7,8,10,27,28,29]) (by kernel_rfl) (aj (aj (al t3) (aj h1 (aj (aj (k2 (aj h2 h3)) (u2 s2)) (aj (u2 (u2 (aj (k2 (aj h4 h5)) (u2 (u2 (aj (al h6) (aj t3 (aj t3 (aj (ak (al h7)) (ak (k3 (k5 (aj t4 (al t3)))))))))))))) (ak (aj (u2 s2) (al (u2 s2)))))))) (ak t9)) hR
theorem tiu_0 (q : QB) (h1 : (decide (iN q.i < iN q.r.length) = true)) (h2 : (0 ≤ iN q.i)) (h3 : ((List.map (iv) q.r)[(iN q.i).toNat]? = some (iv (iN q.u)))) (h4 : (0 ≤ iN q.u)) (h5 : ((List.map (iv) q.d)[(iN q.u).toNat]? = some (iv q.x))) (h6 : (decide (0 ≤ q.x) = true)) (h7 : (decide (q.bz < 0) = false)) (h8 : (0 ≤ q.bz)) (h9 : ((List.map (iv) q.d)[q.bz.toNat]? = some (iv q.y))) (h10 : (decide (q.x < q.y) = true)) {post : Exit → St → Prop} {R : St → Prop} (hR : ∀ st, Ren 0 st (St.mk 68 [(0, AV.lst (gL q.g)), (2, iv (iN q.goal)), (7, AV.lst (List.map (iv) q.d)), (8, AV.sl 0 0 q.p.length), (10, iv (iN q.u)), (27, AV.lst (List.map (iv) q.r)), (28, iv (iN q.r.length)), (29, iv (IntKind.i64.wrap (iN q.i + 1)))] [some (Blk.mk (List.map (iv) q.p) 1 true true none)]) → R st) : GoP Try.prog (hU [61, 75, 80, 105] (e39 q) (cB q)) 0 (loopC (loopC (bodyOf Try.f16) 0) 0) (li39 q) (andThen R post) :=
  endN_spec (σ := [0]) (fz := []) (vars := [0,2,7,8,10,27,28,29]) (by kernel_rfl) (aj (aj (al t3) (aj h1 (aj (aj (k2 (aj h2 h3)) (u2 s2)) (aj (u2 (u2 (aj (k2 (aj h4 h5)) (u2 (u2 (aj (al h6) (aj t3 (aj t3 (aj (ak (al h7)) (aj t3 (aj t3 (aj (k3 (aj h4 h5)) (aj t3 (aj t3 (aj t3 (aj (k3 (aj h8 h9)) (aj t3 (aj t4 (aj t4 (al t3)))))))))))))))))))) (aj h10 (aj (u2 s2) (al (u2 s2)))))))) (ak t9)) hR
theorem tiu_1 (q : QB) (h1 : (decide (iN q.i < iN q.r.length) = true)) (h2 : (0 ≤ iN q.i)) (h3 : ((List.map (iv) q.r)[(iN q.i).toNat]? = some (iv (iN q.u)))) (h4 : (0 ≤ iN q.u)) (h5 : ((List.map (iv) q.d)[(iN q.u).toNat]? = some (iv q.x))) (h6 : (decide (0 ≤ q.x) = true)) (h7 : (decide (q.bz < 0) = false)) (h8 : (0 ≤ q.bz)) (h9 : ((List.map (iv) q.d)[q.bz.toNat]? = some (iv q.y))) (h10 : (decide (q.x < q.y) = false)) {post : Exit → St → Prop} {R : St → Prop} (hR : ∀ st, Ren 0 st (St.mk 68 [(0, AV.lst (gL q.g)), (2, iv (iN q.goal)), (7, AV.lst (List.map (iv) q.d)), (8, AV.sl 0 0 q.p.length), (10, iv q.bz), (27, AV.lst (List.map (iv) q.r)), (28, iv (iN q.r.length)), (29, iv (IntKind.i64.wrap (iN q.i + 1)))] [some (Blk.mk (List.map (iv) q.p) 1 true true none)]) → R st) : GoP Try.prog (hU [61, 75, 80, 104] (e39 q) (cB q)) 0 (loopC (loopC (bodyOf Try.f16) 0) 0) (li39 q) (andThen R post) :=
  endN_spec (σ := [0]) (fz := []) (vars := [0,2,7,8,10,27,28,29]) (by kernel_rfl) (aj (aj (al t3) (aj h1 (aj (aj (k2 (aj h2 h3)) (u2 s2)) (aj (u2 (u2 (aj (k2 (aj h4 h5)) (u2 (u2 (aj (al h6) (aj t3 (aj t3 (aj (ak (al h7)) (aj t3 (aj t3 (aj (k3 (aj h4 h5)) (aj t3 (aj t3 (aj t3 (aj (k3 (aj h8 h9)) (aj t3 (aj t4 (aj t4 (al t3)))))))))))))))))))) (aj h10 (al (u2 s2))))))) (ak t9)) hR
theorem tw_0 (q : QB) (h1 : (CT Try.prog 15 [] [AV.lst (gL q.g), AV.lst (boL q.s)] [] (iv 0))) (h2 : (decide (iN (gL q.g).length ≤ iN q.goal) = false)) (h3 : (CT Try.prog 16 [] [AV.lst (gL q.g), AV.lst (boL q.s), iv (iN q.goal)] [] (AV.lst (List.map (iv) q.p)))) : GoP Try.prog (hU [36, 46] (e24 q) (cB q)) 0 (bodyOf Try.f9) (st24 q) (Fin Try.prog Try.f9 0 [] (AV.tup [iv (iN (List.map (iv) q.p).length), AV.lst (List.map (iv) q.p), iv 0])) :=
  endF_spec (σ := []) (fz := []) (by kernel_rfl) (aj (aj t4 (aj (u2 (u2 (aj (ak (k3 (al h1))) s2))) (aj (u2 s2) (ak (aj (u2 (u2 (aj (al (show (false = false) by first | decide | exact Int.NonNeg.mk _)) (aj t3 (aj t3 (aj t3 (aj t4 (al (ak (al h2)))))))))) (ak (aj (u2 (u2 (u2 (aj (ak (k5 (al h3))) s2)))) (al (u2 (u2 (u2 (u2 (u2 t2))))))))))))) (al t4))
def cntD (d : List Int) (n : Nat) : Nat := cnt (fun v => decide (0 ≤ d.getD v 0)) n
theorem cntD_set {d : List Int} {v : Nat} {x : Int} (hv : v < d.length) (hd : d.getD v 0 < 0) (hx : 0 ≤ x) {n : Nat} (hn : v < n) : cntD (d.set v x) n + 1 = cntD d n := by
  have e : (fun u => decide (0 ≤ (d.set v x).getD u 0)) = upd (fun u => decide (0 ≤ d.getD u 0)) v := by
    funext u
    rw [getD_set d v u x hv]
    unfold upd
    by_cases h : u = v
    · subst h; simp [hx]
    · rw [if_neg (fun e => h e.symm), if_neg h]
  unfold cntD
  rw [e]
  exact cnt_upd _ v (decide_eq_false (by omega)) n hn
structure Bf (g : List (List Int)) (s : List Bool) (goal : Nat) (d o : List Int) : Prop where
  len : d.length = g.length
  zero : d.getD goal 0 = 0
  neg : ∀ v, v < g.length → -1 ≤ d.getD v 0
  que : ∀ x ∈ o, ∃ u : Nat, x = (u : Int) ∧ u < g.length ∧ 0 ≤ d.getD u 0
  srt : o.Pairwise fun a b => d.getD a.toNat 0 ≤ d.getD b.toNat 0
  back : ∀ v, v < g.length → 0 ≤ d.getD v 0 → v = goal ∨ (s.getD v false = false ∧ ∃ w ∈ g.getD v [], 0 ≤ d.getD w.toNat 0 ∧ d.getD v 0 = d.getD w.toNat 0 + 1)
  bnd : ∀ v, v < g.length → d.getD v 0 + (cntD d g.length : Nat) < g.length
  mea : o.length + cntD d g.length ≤ g.length
def ClsD (g : List (List Int)) (s : List Bool) (d : List Int) (u : Nat) : Prop := ∀ v, v < g.length → s.getD v false = false → (u : Int) ∈ g.getD v [] → 0 ≤ d.getD v 0 ∧ d.getD v 0 ≤ d.getD u 0 + 1
structure Bm (g : List (List Int)) (s : List Bool) (goal : Nat) (d o : List Int) (w k : Nat) : Prop where
  bf : Bf g s goal d o
  wl : w < g.length
  pos : 0 ≤ d.getD w 0
  le : ∀ v, v < g.length → d.getD v 0 ≤ d.getD w 0 + 1
  ge : ∀ x ∈ o, d.getD w 0 ≤ d.getD x.toNat 0
  cls : ∀ u, u < g.length → 0 ≤ d.getD u 0 → (u : Int) ∈ o ∨ u = w ∨ ClsD g s d u
  don : ∀ v, v < k → v < g.length → s.getD v false = false → (w : Int) ∈ g.getD v [] → 0 ≤ d.getD v 0
structure Bo (g : List (List Int)) (s : List Bool) (goal : Nat) (d o : List Int) : Prop where
  bf : Bf g s goal d o
  le : ∀ x ∈ o, ∀ v, v < g.length → d.getD v 0 ≤ d.getD x.toNat 0 + 1
  cls : ∀ u, u < g.length → 0 ≤ d.getD u 0 → (u : Int) ∈ o ∨ ClsD g s d u
theorem Bm.skip {g : List (List Int)} {s : List Bool} {goal : Nat} {d o : List Int} {w k : Nat} (h : Bm g s goal d o w k) (hk : 0 ≤ d.getD k 0 ∨ s.getD k false = true ∨ (w : Int) ∉ g.getD k []) : Bm g s goal d o w (k + 1) :=
  ⟨h.bf, h.wl, h.pos, h.le, h.ge, h.cls, fun v hv hvl hs hm => by
    by_cases e : v = k
    · subst e
      rcases hk with h1 | h1 | h1
      · exact h1
      · rw [hs] at h1; cases h1
      · exact absurd hm h1
    · exact h.don v (by omega) hvl hs hm⟩
theorem Bm.push {g : List (List Int)} {s : List Bool} {goal : Nat} {d o : List Int} {w k : Nat} (h : Bm g s goal d o w k) (hk : k < g.length) (hd : d.getD k 0 < 0) (hs : s.getD k false = false) (hm : (w : Int) ∈ g.getD k []) :
    Bm g s goal (d.set k (d.getD w 0 + 1)) (o ++ [(k : Int)]) w (k + 1) := by
  have hkl : k < d.length := by rw [h.bf.len]; exact hk
  have gs := fun u => getD_set d k u (d.getD w 0 + 1) hkl
  have hne : ∀ u, 0 ≤ d.getD u 0 → (d.set k (d.getD w 0 + 1)).getD u 0 = d.getD u 0 := by
    intro u hu
    rw [gs, if_neg (by rintro rfl; omega)]
  have hkk : (d.set k (d.getD w 0 + 1)).getD k 0 = d.getD w 0 + 1 := by rw [gs, if_pos rfl]
  have hgk : goal ≠ k := by rintro rfl; rw [h.bf.zero] at hd; omega
  have hc := cntD_set hkl hd (show 0 ≤ d.getD w 0 + 1 by have := h.pos; omega) hk
  have hw0 := hne w h.pos
  have hq : ∀ x ∈ o, (d.set k (d.getD w 0 + 1)).getD x.toNat 0 = d.getD x.toNat 0 := by
    intro x hx
    obtain ⟨u, rfl, _, hu⟩ := h.bf.que x hx
    exact hne _ (by simpa using hu)
  have hcls : ∀ u, u < g.length → 0 ≤ d.getD u 0 → ClsD g s d u → ClsD g s (d.set k (d.getD w 0 + 1)) u := by
    intro u _ hu hc v hv hsv hmv
    obtain ⟨a, b⟩ := hc v hv hsv hmv
    rw [hne v a, hne u hu]
    exact ⟨a, b⟩
  refine ⟨⟨by rw [List.length_set]; exact h.bf.len, by rw [hne goal (by rw [h.bf.zero]; omega)]; exact h.bf.zero, fun v hv => ?_, fun x hx => ?_, ?_, fun v hv h0 => ?_, fun v hv => ?_, by simp only [List.length_append, List.length_cons, List.length_nil]; have := h.bf.mea; omega⟩, h.wl, by rw [hw0]; exact h.pos, fun v hv => ?_, fun x hx => ?_, fun u hu h0 => ?_, fun v hv hvl hsv hmv => ?_⟩
  · rw [gs]; split
    · have := h.pos; omega
    · exact h.bf.neg v hv
  · rcases List.mem_append.1 hx with hx | hx
    · obtain ⟨u, rfl, hu1, hu2⟩ := h.bf.que x hx
      exact ⟨u, rfl, hu1, by rw [hne u hu2]; exact hu2⟩
    · simp only [List.mem_singleton] at hx
      exact ⟨k, hx, hk, by rw [hkk]; have := h.pos; omega⟩
  · rw [List.pairwise_append]
    refine ⟨h.bf.srt.imp_of_mem fun {a b} ha hb hab => by rw [hq a ha, hq b hb]; exact hab, by simp, fun a ha b hb => ?_⟩
    simp only [List.mem_singleton] at hb
    subst hb
    rw [hq a ha, Int.toNat_natCast, hkk]
    obtain ⟨u, rfl, hu, _⟩ := h.bf.que a ha
    rw [Int.toNat_natCast]
    exact h.le u hu
  · by_cases e : v = k
    · subst e
      refine .inr ⟨hs, (w : Int), hm, ?_, ?_⟩
      · rw [Int.toNat_natCast, hw0]; exact h.pos
      · rw [Int.toNat_natCast, hw0, hkk]
    · have e2 : (d.set k (d.getD w 0 + 1)).getD v 0 = d.getD v 0 := by rw [gs, if_neg (fun e' => e e'.symm)]
      rw [e2] at h0 ⊢
      rcases h.bf.back v hv h0 with h1 | ⟨h1, x, hx, h2, h3⟩
      · exact .inl h1
      · exact .inr ⟨h1, x, hx, by rw [hne _ h2]; exact h2, by rw [hne _ h2]; exact h3⟩
  · rw [gs]; split
    · have := h.bf.bnd w h.wl; omega
    · have := h.bf.bnd v hv; omega
  · rw [hw0, gs]; split
    · exact Int.le_refl _
    · exact h.le v hv
  · rw [hw0]
    rcases List.mem_append.1 hx with hx | hx
    · rw [hq x hx]; exact h.ge x hx
    · simp only [List.mem_singleton] at hx
      rw [hx, Int.toNat_natCast, hkk]; omega
  · by_cases e : u = k
    · exact .inl (by rw [e]; simp)
    · have e2 : (d.set k (d.getD w 0 + 1)).getD u 0 = d.getD u 0 := by rw [gs, if_neg (fun e' => e e'.symm)]
      rw [e2] at h0
      rcases h.cls u hu h0 with h1 | h1 | h1
      · exact .inl (List.mem_append_left _ h1)
      · exact .inr (.inl h1)
      · exact .inr (.inr (hcls u hu h0 h1))
  · by_cases e : v = k
    · subst e; rw [hkk]; have := h.pos; omega
    · have := h.don v (by omega) hvl hsv hmv
      rw [hne v this]; exact this
theorem Bo.pop {g : List (List Int)} {s : List Bool} {goal : Nat} {d o : List Int} {w : Nat} (h : Bo g s goal d ((w : Int) :: o)) : Bm g s goal d o w 0 := by
  obtain ⟨u, hu, hul, hu0⟩ := h.bf.que _ (List.mem_cons_self ..)
  obtain rfl : w = u := by omega
  have hs := List.pairwise_cons.1 h.bf.srt
  have hm := h.bf.mea
  simp only [List.length_cons] at hm
  refine ⟨⟨h.bf.len, h.bf.zero, h.bf.neg, fun x hx => h.bf.que x (List.mem_cons_of_mem _ hx), hs.2, h.bf.back, h.bf.bnd, by omega⟩, hul, hu0, fun v hv => ?_, fun x hx => ?_, fun v hv h0 => ?_, fun v hv => by omega⟩
  · have := h.le _ (List.mem_cons_self ..) v hv
    simpa using this
  · have := hs.1 x hx
    simpa using this
  · rcases h.cls v hv h0 with h1 | h1
    · rcases List.mem_cons.1 h1 with h1 | h1
      · exact .inr (.inl (by omega))
      · exact .inl h1
    · exact .inr (.inr h1)
theorem Bm.fin {g : List (List Int)} {s : List Bool} {goal : Nat} {d o : List Int} {w : Nat} (h : Bm g s goal d o w g.length) : Bo g s goal d o := by
  refine ⟨h.bf, fun x hx v hv => ?_, fun u hu h0 => ?_⟩
  · have h1 := h.le v hv
    have h2 := h.ge x hx
    omega
  · rcases h.cls u hu h0 with h1 | h1 | h1
    · exact .inl h1
    · exact .inr (by rw [h1]; exact fun v hv hs hm => ⟨h.don v hv hv hs hm, h.le v hv⟩)
    · exact .inr h1
theorem Bo.dst {g : List (List Int)} {s : List Bool} (hg : OkG g s) {goal : Nat} (hs : s.getD goal false = false) {d : List Int} (h : Bo g s goal d []) : Dst g s goal d := by
  refine ⟨h.bf.len, fun h' => (by rw [hs] at h'; cases h'), fun _ => h.bf.zero, fun v hv => ⟨h.bf.neg v hv, by have := h.bf.bnd v hv; omega⟩, h.bf.back, fun v hv hsv w hw h0 => ?_⟩
  have hr := (hg.row v hv).2 w hw
  rcases h.cls w.toNat (by omega) h0 with h1 | h1
  · cases h1
  · exact h1 v hv hsv (by rw [Int.toNat_of_nonneg hr.1]; exact hw)
theorem shM {g : List (List Int)} {s : List Bool} {goal a : Nat} {d : List Int} (hD : Dst g s goal d) (ha : a < g.length) (h0 : 0 ≤ d.getD a 0) : s.getD goal false = false := by
  cases h : s.getD goal false with
  | false => rfl
  | true => have := hD.shut h a ha; omega
theorem Dst.le {g : List (List Int)} {s : List Bool} (hg : OkG g s) {goal : Nat} {d e : List Int} (hD : Dst g s goal d) (hE : Dst g s goal e) : ∀ (m v : Nat), v < g.length → d.getD v 0 = (m : Int) → 0 ≤ e.getD v 0 ∧ e.getD v 0 ≤ (m : Int) := by
  intro m
  induction m with
  | zero =>
    intro v hv hm
    rcases hD.back v hv (by omega) with rfl | ⟨_, w, _, h1, h2⟩
    · rw [hE.zero (shM hD hv (by omega))]; exact ⟨Int.le_refl _, Int.le_refl _⟩
    · omega
  | succ m ih =>
    intro v hv hm
    rcases hD.back v hv (by omega) with rfl | ⟨ho, w, hw, h1, h2⟩
    · rw [hE.zero (shM hD hv (by omega))]; omega
    · have hr := (hg.row v hv).2 w hw
      obtain ⟨a, b⟩ := ih w.toNat (by omega) (by omega)
      obtain ⟨a', b'⟩ := hE.fwd v hv ho w hw a
      exact ⟨a', by omega⟩
theorem Dst.uniq {g : List (List Int)} {s : List Bool} (hg : OkG g s) {goal : Nat} {d e : List Int} (hD : Dst g s goal d) (hE : Dst g s goal e) : d = e := by
  apply List.ext_getElem (by rw [hD.len, hE.len])
  intro v h1 h2
  have hv : v < g.length := by rw [← hD.len]; exact h1
  have e1 : d.getD v 0 = d[v] := by rw [List.getD_eq_getElem?_getD, List.getElem?_eq_getElem h1]; rfl
  have e2 : e.getD v 0 = e[v] := by rw [List.getD_eq_getElem?_getD, List.getElem?_eq_getElem h2]; rfl
  rw [← e1, ← e2]
  have b1 := (hD.bnd v hv).1
  have b2 := (hE.bnd v hv).1
  by_cases c1 : 0 ≤ d.getD v 0
  · have l1 := hD.le hg hE (d.getD v 0).toNat v hv (by omega)
    have l2 := hE.le hg hD (e.getD v 0).toNat v hv (by omega)
    omega
  · by_cases c2 : 0 ≤ e.getD v 0
    · have l2 := hE.le hg hD (e.getD v 0).toNat v hv (by omega)
      omega
    · omega
theorem asc_lt {r : List Int} (hs : ∀ i, 0 < i → i < r.length → r.getD (i - 1) 0 < r.getD i 0) : ∀ (k i : Nat), i + k + 1 < r.length → r.getD i 0 < r.getD (i + k + 1) 0 := by
  intro k
  induction k with
  | zero => intro i h; have := hs (i + 1) (by omega) h; simpa using this
  | succ k ih =>
    intro i h
    have h1 := ih i (by omega)
    have h2 := hs (i + (k + 1) + 1) (by omega) h
    have e : i + (k + 1) + 1 - 1 = i + k + 1 := by omega
    rw [e] at h2
    omega
noncomputable def qb (g : List (List Int)) (s : List Bool) (goal : Nat) (d o : List Int) (w v : Nat) (r : List Int) (i : Nat) : QB := ⟨g, s, goal, g.length, d, o, w, v, r, i, 0, 0, 0, 0, false, []⟩
noncomputable def midS (sh : Bool) (q : QB) : St := match sh with
  | true => lb42 q
  | false => la42 q
noncomputable def inS2 (sh : Bool) (q : QB) : St := match sh with
  | true => ld42 q
  | false => lc42 q
theorem bc_run {g : List (List Int)} {s : List Bool} (hg : OkG g s) (hs : Asc g) (goal w v : Nat) (hw : w < g.length) (hv : v < g.length) (d o : List Int) (hd : d.length = g.length) (h0 : 0 ≤ d.getD w 0) (h1 : d.getD w 0 ≤ 1000) (hol : o.length ≤ 1000) (hdv : v ≠ w) (sh : Bool) {R : St → Prop} {post : Exit → St → Prop}
    (hR : ∀ sh', ((w : Int) ∈ g.getD v [] → ∀ st, Ren 0 st (midS sh' (qb g s goal (d.set v (d.getD w 0 + 1)) (o ++ [(v : Int)]) w (v + 1) [] 0)) → R st) ∧ ((w : Int) ∉ g.getD v [] → ∀ st, Ren 0 st (midS sh' (qb g s goal d o w (v + 1) [] 0)) → R st)) :
    T Try.prog 0 (.loop (loopC (loopC (loopC (bodyOf Try.f21) 1) 0) 0)) (inS2 sh (qb g s goal d o w v (g.getD v []) 0)) (TK Try.prog 0 (andThen R post) (loopK (loopC (loopC (bodyOf Try.f21) 1) 0) 0)) := by
  have hgl := hg.len
  have hr1 := (hg.row v hv).1
  have hget := fun i => row_get hg hv (i := i)
  have hasc := asc_lt (hs v hv)
  generalize g.getD v [] = r at hr1 hget hasc hR
  have wv : IntKind.i64.wrap (iN v + 1) = ((v + 1 : Nat) : Int) := wrap_nat v (by omega)
  have wx : IntKind.i64.wrap (d.getD w 0 + 1) = d.getD w 0 + 1 := wrapS _ (by omega) (by omega)
  refine T.loop (fun y : Nat × Bool => inS2 (sh || y.2) (qb g s goal (if y.2 then d.set v (d.getD w 0 + 1) else d) (if y.2 then o ++ [(v : Int)] else o) w v r y.1))
    (fun y => y.1 ≤ r.length ∧ (y.2 = true → (w : Int) ∈ r ∧ ∀ j, y.1 ≤ j → j < r.length → r.getD j 0 ≠ (w : Int)) ∧ (y.2 = false → ∀ j, j < y.1 → r.getD j 0 ≠ (w : Int)))
    (fun y => r.length + 1 - y.1) (0, false) ⟨Nat.zero_le _, fun h => (by cases h), fun _ j hj => by simp only at hj; omega⟩ ?_ |> fun h => by
      simpa using h
  rintro ⟨i, mt⟩ ⟨hi, hT, hF⟩
  simp only at hi hT hF
  by_cases h : i < r.length
  · obtain ⟨u, hu, hu1, hu2⟩ := hget i h
    have hg1 := lI_get h
    rw [hu] at hg1
    have dk : decide (iN i < iN r.length) = true := decide_eq_true (by simp only [iN]; omega)
    have wi : IntKind.i64.wrap (iN i + 1) = ((i + 1 : Nat) : Int) := wrap_nat i (by omega)
    by_cases e : u = w
    · subst e
      have hm : (u : Int) ∈ r := by
        rw [← hu, List.getD_eq_getElem?_getD, List.getElem?_eq_getElem h]; exact List.getElem_mem h
      cases mt with
      | true => exact absurd hu ((hT rfl).2 i (Nat.le_refl _) h)
      | false =>
        have nx : ((i + 1, true) : Nat × Bool).1 ≤ r.length ∧ (((i + 1, true) : Nat × Bool).2 = true → (u : Int) ∈ r ∧ ∀ j, i + 1 ≤ j → j < r.length → r.getD j 0 ≠ (u : Int)) ∧ (((i + 1, true) : Nat × Bool).2 = false → ∀ j, j < i + 1 → r.getD j 0 ≠ (u : Int)) :=
          ⟨h, fun _ => ⟨hm, fun j h1 h2 => by
            have := hasc (j - i - 1) i (by omega)
            rw [show i + (j - i - 1) + 1 = j by omega, hu] at this
            omega⟩, fun h => by cases h⟩
        have hdw := lI_get0 (l := d) (j := u) (by omega)
        have e6 : o.map (AV.int .i64) ++ [AV.int .i64 (iN v)] = (o ++ [(v : Int)]).map (AV.int .i64) := by simp
        have e5 : (o.map (AV.int .i64)).length + [AV.int .i64 (iN v)].length = (o ++ [(v : Int)]).length := by simp
        have e7 : (d.map (AV.int .i64)).set (0 + (iN v).toNat) (AV.int .i64 (d.getD u 0 + 1)) = (d.set v (d.getD u 0 + 1)).map (AV.int .i64) := by
          rw [show (iN v).toNat = v from rfl, map_set]
        cases sh with
        | false =>
          refine T.path mix (bcm_0 ⟨g, s, goal, g.length, d, o, u, v, r, i, u, d.getD u 0, 0, 0, false, []⟩ dk (by simp [iN]) hg1 (by simp [iN]) (by simp [iN]) (by simp only [iN]; omega) hdw (by simp [iN]) (by simp only [iN]; omega) (by show (_ : Nat) ≤ _; simp [iN]; omega) (fun x hx => by obtain ⟨y, _, rfl⟩ := List.mem_map.1 hx; rfl) (by simp) (by simp) (by simp; omega) (by simp; omega) ?_)
          intro st hst
          simp only [wi, wx] at hst
          rw [e5, e6, e7] at hst
          exact ⟨(i + 1, true), hst, nx, by simp only; omega⟩
        | true =>
          refine T.path mix (bdm_0 ⟨g, s, goal, g.length, d, o, u, v, r, i, u, d.getD u 0, 0, 0, false, []⟩ dk (by simp [iN]) hg1 (by simp [iN]) (by simp [iN]) (by simp only [iN]; omega) hdw (by simp [iN]) (by simp only [iN]; omega) (by show (_ : Nat) ≤ _; simp [iN]; omega) (by simp) (by simp) (by simp; omega) (by simp; omega) ?_)
          intro st hst
          simp only [wi, wx] at hst
          rw [e5, e6, e7] at hst
          exact ⟨(i + 1, true), hst, nx, by simp only; omega⟩
    · have nx : ((i + 1, mt) : Nat × Bool).1 ≤ r.length ∧ (((i + 1, mt) : Nat × Bool).2 = true → (w : Int) ∈ r ∧ ∀ j, i + 1 ≤ j → j < r.length → r.getD j 0 ≠ (w : Int)) ∧ (((i + 1, mt) : Nat × Bool).2 = false → ∀ j, j < i + 1 → r.getD j 0 ≠ (w : Int)) := by
        refine ⟨h, fun hm => ⟨(hT hm).1, fun j h1 h2 => (hT hm).2 j (by omega) h2⟩, fun hm j hj => ?_⟩
        by_cases ej : j = i
        · rw [ej, hu]; omega
        · exact hF hm j (by omega)
      cases hsh : (sh || mt) with
      | false =>
        refine T.path mix (bcn_0 ⟨g, s, goal, g.length, if mt then d.set v (d.getD w 0 + 1) else d, if mt then o ++ [(v : Int)] else o, w, v, r, i, u, 0, 0, 0, false, []⟩ dk (by simp [iN]) hg1 (by simp [iN]; omega) ?_)
        intro st hst
        simp only [wi] at hst
        refine ⟨(i + 1, mt), ?_, nx, by simp only; omega⟩
        simp only [hsh]
        exact hst
      | true =>
        refine T.path mix (bdn_0 ⟨g, s, goal, g.length, if mt then d.set v (d.getD w 0 + 1) else d, if mt then o ++ [(v : Int)] else o, w, v, r, i, u, 0, 0, 0, false, []⟩ dk (by simp [iN]) hg1 (by simp [iN]; omega) ?_)
        intro st hst
        simp only [wi] at hst
        refine ⟨(i + 1, mt), ?_, nx, by simp only; omega⟩
        simp only [hsh]
        exact hst
  · have fin : ∀ st, Ren 0 st (midS (sh || mt) (qb g s goal (if mt then d.set v (d.getD w 0 + 1) else d) (if mt then o ++ [(v : Int)] else o) w (v + 1) [] 0)) → R st := by
      intro st hst
      cases mt with
      | true => exact (hR _).1 (hT rfl).1 st hst
      | false =>
        refine (hR _).2 (fun hm => ?_) st hst
        obtain ⟨j, hj, hje⟩ := List.mem_iff_getElem.1 hm
        exact hF rfl j (by omega) (by rw [List.getD_eq_getElem?_getD, List.getElem?_eq_getElem hj]; exact hje)
    cases hsh : (sh || mt) with
    | false =>
      rw [hsh] at fin
      refine T.out mix (bcx_0 ⟨g, s, goal, g.length, if mt then d.set v (d.getD w 0 + 1) else d, if mt then o ++ [(v : Int)] else o, w, v, r, i, 0, 0, 0, 0, false, []⟩ (decide_eq_false (by simp only [iN]; omega)) ?_)
      intro st hst
      simp only [wv] at hst
      exact fin st hst
    | true =>
      rw [hsh] at fin
      refine T.out mix (bdx_0 ⟨g, s, goal, g.length, if mt then d.set v (d.getD w 0 + 1) else d, if mt then o ++ [(v : Int)] else o, w, v, r, i, 0, 0, 0, 0, false, []⟩ (decide_eq_false (by simp only [iN]; omega)) ?_)
      intro st hst
      simp only [wv] at hst
      exact fin st hst
theorem bm_run {g : List (List Int)} {s : List Bool} (hg : OkG g s) (hs : Asc g) (goal w : Nat) (d0 o0 : List Int) (h0 : Bm g s goal d0 o0 w 0) {R : St → Prop} {post : Exit → St → Prop}
    (hR : ∀ d o, Bo g s goal d o → 2 * cntD d g.length + o.length ≤ 2 * cntD d0 g.length + o0.length → ∀ st, Ren 0 st (lo42 (qb g s goal d o 0 0 [] 0)) → R st) :
    T Try.prog 0 (.loop (loopC (loopC (bodyOf Try.f21) 1) 0)) (la42 (qb g s goal d0 o0 w 0 [] 0)) (TK Try.prog 0 (andThen R post) (loopK (loopC (bodyOf Try.f21) 1) 0)) := by
  have hgl := hg.len
  refine T.loop (fun y : Nat × Bool × List Int × List Int => midS y.2.1 (qb g s goal y.2.2.1 y.2.2.2 w y.1 [] 0))
    (fun y => y.1 ≤ g.length ∧ Bm g s goal y.2.2.1 y.2.2.2 w y.1 ∧ 2 * cntD y.2.2.1 g.length + y.2.2.2.length ≤ 2 * cntD d0 g.length + o0.length)
    (fun y => g.length + 1 - y.1) (0, false, d0, o0) ⟨Nat.zero_le _, h0, Nat.le_refl _⟩ ?_
  rintro ⟨v, sh, d, o⟩ ⟨hv, hB, hM⟩
  simp only at hv hB hM
  by_cases h : v < g.length
  · have hdl := hB.bf.len
    have hrow := gL_get h
    have hsv := boL_get (s := s) (v := v) (by rw [hg.sh]; exact h)
    have hdv := lI_get0 (l := d) (j := v) (by omega)
    have dk : decide (iN v < iN g.length) = true := decide_eq_true (by simp only [iN]; omega)
    have wv : IntKind.i64.wrap (iN v + 1) = ((v + 1 : Nat) : Int) := wrap_nat v (by omega)
    have next : (0 ≤ d.getD v 0 ∨ s.getD v false = true ∨ (w : Int) ∉ g.getD v []) → ∀ sh' st, Ren 0 st (midS sh' (qb g s goal d o w (v + 1) [] 0)) → ∃ j : Nat × Bool × List Int × List Int, Ren 0 st (midS j.2.1 (qb g s goal j.2.2.1 j.2.2.2 w j.1 [] 0)) ∧ (j.1 ≤ g.length ∧ Bm g s goal j.2.2.1 j.2.2.2 w j.1 ∧ 2 * cntD j.2.2.1 g.length + j.2.2.2.length ≤ 2 * cntD d0 g.length + o0.length) ∧ g.length + 1 - j.1 < g.length + 1 - v :=
      fun hk sh' st hst => ⟨(v + 1, sh', d, o), hst, ⟨h, hB.skip hk, hM⟩, by simp only; omega⟩
    have hm := hB.bf.mea
    have hbw := hB.bf.bnd w hB.wl
    by_cases c1 : 0 ≤ d.getD v 0
    · cases sh with
      | false =>
        refine T.path mix (bas_0 ⟨g, s, goal, g.length, d, o, w, v, g.getD v [], 0, 0, d.getD v 0, 0, 0, false, []⟩ dk (by simp [iN]) hrow (by simp only [iN]; omega) hdv (decide_eq_true c1) ?_)
        intro st hst
        simp only [wv] at hst
        exact next (.inl c1) false st hst
      | true =>
        refine T.path mix (bbs_0 ⟨g, s, goal, g.length, d, o, w, v, g.getD v [], 0, 0, d.getD v 0, 0, 0, false, []⟩ dk (by simp [iN]) hrow (by simp only [iN]; omega) hdv (decide_eq_true c1) ?_)
        intro st hst
        simp only [wv] at hst
        exact next (.inl c1) true st hst
    · by_cases c2 : s.getD v false = true
      · cases sh with
        | false =>
          refine T.path mix (bas_1 ⟨g, s, goal, g.length, d, o, w, v, g.getD v [], 0, 0, d.getD v 0, 0, 0, s.getD v false, []⟩ dk (by simp [iN]) hrow (by simp only [iN]; omega) hdv (decide_eq_false c1) hsv c2 ?_)
          intro st hst
          simp only [wv] at hst
          exact next (.inr (.inl c2)) false st hst
        | true =>
          refine T.path mix (bbs_1 ⟨g, s, goal, g.length, d, o, w, v, g.getD v [], 0, 0, d.getD v 0, 0, 0, s.getD v false, []⟩ dk (by simp [iN]) hrow (by simp only [iN]; omega) hdv (decide_eq_false c1) hsv c2 ?_)
          intro st hst
          simp only [wv] at hst
          exact next (.inr (.inl c2)) true st hst
      · have c2 := Bool.eq_false_iff.2 c2
        have hne : v ≠ w := by rintro rfl; exact c1 hB.pos
        have k := fun sh => bc_run hg hs goal w v hB.wl h d o hdl hB.pos (by omega) (by omega) hne sh (R := fun st' => ∃ j : Nat × Bool × List Int × List Int, Ren 0 st' (midS j.2.1 (qb g s goal j.2.2.1 j.2.2.2 w j.1 [] 0)) ∧ (j.1 ≤ g.length ∧ Bm g s goal j.2.2.1 j.2.2.2 w j.1 ∧ 2 * cntD j.2.2.1 g.length + j.2.2.2.length ≤ 2 * cntD d0 g.length + o0.length) ∧ g.length + 1 - j.1 < g.length + 1 - v)
          (post := TK Try.prog 0 (andThen R post) (loopK (loopC (bodyOf Try.f21) 1) 0)) fun sh' => ⟨fun hmem st hst => by
            have hp := hB.push h (by omega) c2 hmem
            have hc := cntD_set (d := d) (v := v) (x := d.getD w 0 + 1) (by omega) (by omega) (by have := hB.pos; omega) h
            exact ⟨(v + 1, sh', d.set v (d.getD w 0 + 1), o ++ [(v : Int)]), hst, ⟨h, hp, by simp only [List.length_append, List.length_cons, List.length_nil]; omega⟩, by simp only; omega⟩,
            fun hmem st hst => next (.inr (.inr hmem)) sh' st hst⟩
        cases sh with
        | false =>
          refine T.path mix (bai_0 ⟨g, s, goal, g.length, d, o, w, v, g.getD v [], 0, 0, d.getD v 0, 0, 0, s.getD v false, []⟩ dk (by simp [iN]) hrow (by simp only [iN]; omega) hdv (decide_eq_false c1) hsv c2 ?_)
          simp only [lI_len]
          exact k false
        | true =>
          refine T.path mix (bbi_0 ⟨g, s, goal, g.length, d, o, w, v, g.getD v [], 0, 0, d.getD v 0, 0, 0, s.getD v false, []⟩ dk (by simp [iN]) hrow (by simp only [iN]; omega) hdv (decide_eq_false c1) hsv c2 ?_)
          simp only [lI_len]
          exact k true
  · obtain rfl : v = g.length := by omega
    have dn : decide (iN g.length < iN g.length) = false := decide_eq_false (by omega)
    cases sh with
    | false =>
      refine T.out mix (bax_0 (qb g s goal d o w g.length [] 0) dn ?_)
      intro st hst
      exact hR d o hB.fin hM st (Ren.trans hst (Ren.wk 0 _))
    | true =>
      refine T.out mix (bbx_0 (qb g s goal d o w g.length [] 0) dn (by simp [qb]) ?_)
      intro st hst
      exact hR d o hB.fin hM st hst
theorem bfs_ct {g : List (List Int)} {s : List Bool} (hg : OkG g s) (hs : Asc g) (goal : Nat) (hgo : goal < g.length) (hso : s.getD goal false = false) : CT Try.prog 21 [] [.lst (gL g), .lst (boL s), .int .i64 (goal : Nat)] [] (lI (distL g s goal g.length)) := by
  have hgl := hg.len
  have hl := gL_len g
  refine CT.path mix Try.func21 (show Try.f21.body = some (bodyOf Try.f21) by kernel_rfl) (Nat.le_of_ble_eq_true rfl) (bi_0 (qb g s goal [] [] 0 0 [] 0) (Int.le_refl _) (by simp only [iN, qb, hl]; omega) (by simp only [iN, qb, hl]; omega) ?_)
  have key : T Try.prog 0 (.loop (loopC (bodyOf Try.f21) 0)) (lf42 (qb g s goal (fillL g.length 0) [] 0 0 [] 0)) (TK Try.prog 0 (Fin Try.prog Try.f21 0 [] (lI (distL g s goal g.length))) (loopK (bodyOf Try.f21) 0)) := by
    refine T.loop (fun i : Nat => lf42 (qb g s goal (fillL g.length i) [] 0 0 [] i)) (fun i => i ≤ g.length) (fun i => g.length + 1 - i) 0 (Nat.zero_le _) ?_
    intro i hi
    have hfl := fillL_len g.length i
    by_cases h : i < g.length
    · refine T.path mix (bfr_0 (qb g s goal (fillL g.length i) [] 0 0 [] i) (decide_eq_true (by simp only [iN, qb]; omega)) (by simp [iN]) (by simp only [iN, qb]; omega) (by show (_ : Nat) ≤ _; simp [iN, qb, hfl]; omega) ?_)
      intro st hst
      have wi : IntKind.i64.wrap (iN i + 1) = ((i + 1 : Nat) : Int) := wrap_nat i (by omega)
      simp only [qb, wi] at hst
      rw [show (iN i).toNat = i from rfl, map_set, fillL_set _ _ h] at hst
      exact ⟨i + 1, hst, h, by omega⟩
    · obtain rfl : i = g.length := by omega
      refine T.out mix (bfx_0 (qb g s goal (fillL g.length g.length) [] 0 0 [] g.length) (decide_eq_false (by simp only [iN, qb]; omega)) (by simp [iN]) (by simp only [iN, qb]; omega) (by show (_ : Nat) ≤ _; simp [iN, qb, hfl]; omega) (by simp) ?_)
      have e1 : ((fillL g.length g.length).map (AV.int .i64)).set (0 + (iN goal).toNat) (AV.int .i64 0) = (dist0 g goal).map (AV.int .i64) := by
        rw [show (iN goal).toNat = goal from rfl, map_set, fillL_n]; rfl
      simp only [qb]
      rw [e1]
      have hd0 : ∀ u, (dist0 g goal).getD u 0 = if goal = u then 0 else (List.replicate g.length (-1 : Int)).getD u 0 := fun u => getD_set _ goal u 0 (by simpa using hgo)
      have hdn : ∀ u, u < g.length → u ≠ goal → (dist0 g goal).getD u 0 = -1 := by
        intro u hu hne
        rw [hd0, if_neg (fun e => hne e.symm), List.getD_eq_getElem?_getD, List.getElem?_replicate, if_pos hu]; rfl
      have hdz : (dist0 g goal).getD goal 0 = 0 := by rw [hd0, if_pos rfl]
      have hd0l : (dist0 g goal).length = g.length := by simp [dist0]
      have hcn : cntD (dist0 g goal) g.length + 1 ≤ g.length := by
        have e : dist0 g goal = (List.replicate g.length (-1 : Int)).set goal 0 := rfl
        rw [e]
        have := cntD_set (d := List.replicate g.length (-1 : Int)) (v := goal) (x := 0) (by simpa using hgo) (by rw [List.getD_eq_getElem?_getD, List.getElem?_replicate, if_pos hgo]; decide) (by omega) hgo
        rw [this]
        exact cnt_le _ _
      refine T.loop (fun y : List Int × List Int => lo42 (qb g s goal y.1 y.2 0 0 [] 0)) (fun y => Bo g s goal y.1 y.2) (fun y => 2 * cntD y.1 g.length + y.2.length) (dist0 g goal, [(goal : Int)]) ⟨⟨hd0l, hdz, fun v hv => ?_, fun x hx => ?_, by simp, fun v hv h0 => ?_, fun v hv => ?_, by simp only [List.length_cons, List.length_nil]; omega⟩, fun x hx v hv => ?_, fun u hu h0 => ?_⟩ ?_
      · by_cases e : v = goal
        · rw [e, hdz]; omega
        · rw [hdn v hv e]; omega
      · simp only [List.mem_singleton] at hx
        exact ⟨goal, hx, hgo, by rw [hdz]; omega⟩
      · by_cases e : v = goal
        · exact .inl e
        · rw [hdn v hv e] at h0; omega
      · by_cases e : v = goal
        · simp only [e, hdz]; omega
        · simp only [hdn v hv e]; omega
      · simp only [List.mem_singleton] at hx
        rw [hx, Int.toNat_natCast, hdz]
        by_cases e : v = goal
        · rw [e, hdz]; omega
        · rw [hdn v hv e]; omega
      · by_cases e : u = goal
        · exact .inl (by simp [e])
        · rw [hdn u hu e] at h0; omega
      · rintro ⟨d, o⟩ hB
        simp only at hB
        cases o with
        | nil =>
          have hD := hB.dst hg hso
          rw [← Dst.uniq hg hD (dst_ok hg hgo)]
          exact T.out mix (box_0 (qb g s goal d [] 0 0 [] 0) (by simp [iN, qb]) (by simp [qb, hD.len]))
        | cons x o =>
          obtain ⟨w, rfl, hw, hw0⟩ := hB.bf.que x (List.mem_cons_self ..)
          have hm := hB.bf.mea
          refine T.path mix (bo_0 ⟨g, s, goal, g.length, d, (w : Int) :: o, w, 0, [], 0, 0, 0, 0, 0, false, []⟩ (decide_eq_true (by simp only [iN, lI_len, List.length_cons]; omega)) (by simp [iN]) (fun x hx => by obtain ⟨y, _, rfl⟩ := List.mem_map.1 hx; rfl) (by simp only [iN, lI_len, List.length_cons]; omega) (Int.le_refl _) ?_)
          have e2 : List.take ((((w : Int) :: o).map (AV.int .i64)).length - Int.toNat 1) (List.drop (Int.toNat 1) (((w : Int) :: o).map (AV.int .i64))) = o.map (AV.int .i64) := by
            simp [List.take_of_length_le]
          simp only [hl]
          rw [e2]
          exact bm_run hg hs goal w d o hB.pop (R := fun st' => ∃ j : List Int × List Int, Ren 0 st' (lo42 (qb g s goal j.1 j.2 0 0 [] 0)) ∧ Bo g s goal j.1 j.2 ∧ 2 * cntD j.1 g.length + j.2.length < 2 * cntD d g.length + ((w : Int) :: o).length)
            (post := TK Try.prog 0 (Fin Try.prog Try.f21 0 [] (lI (distL g s goal g.length))) (loopK (bodyOf Try.f21) 1)) fun d' o' h1 h2 st hst => ⟨(d', o'), hst, h1, by simp only [List.length_cons]; omega⟩
  unfold lf42 qb dB at key
  simp only [qb, hl, fillL_0]
  exact key
noncomputable def bestF (d : List Int) (b w : Int) : Int := if 0 ≤ d.getD w.toNat 0 then (if b < 0 then w else if d.getD w.toNat 0 < d.getD b.toNat 0 then w else b) else b
noncomputable def bestN (d r : List Int) : Nat → Int
  | 0 => -1
  | i + 1 => bestF d (bestN d r i) (r.getD i 0)
def BestOk (d r : List Int) (i : Nat) (b : Int) : Prop := (b = -1 ∧ ∀ j, j < i → d.getD (r.getD j 0).toNat 0 < 0) ∨
  ∃ k, k < i ∧ b = r.getD k 0 ∧ 0 ≤ d.getD (r.getD k 0).toNat 0 ∧ (∀ j, j < i → 0 ≤ d.getD (r.getD j 0).toNat 0 → d.getD (r.getD k 0).toNat 0 ≤ d.getD (r.getD j 0).toNat 0) ∧ ∀ j, j < k → 0 ≤ d.getD (r.getD j 0).toNat 0 → d.getD (r.getD k 0).toNat 0 < d.getD (r.getD j 0).toNat 0
theorem best_ok {d r : List Int} (h0 : ∀ j, j < r.length → 0 ≤ r.getD j 0) : ∀ i, i ≤ r.length → BestOk d r i (bestN d r i) := by
  intro i
  induction i with
  | zero => intro _; exact .inl ⟨rfl, fun j hj => by omega⟩
  | succ i ih =>
    intro hi
    have ih := ih (by omega)
    rw [bestN]
    generalize bestN d r i = b at ih
    unfold bestF
    by_cases c1 : 0 ≤ d.getD (r.getD i 0).toNat 0
    · rw [if_pos c1]
      rcases ih with ⟨rfl, hn⟩ | ⟨k, hk, rfl, hk0, hmin, hfst⟩
      · rw [if_pos (by decide)]
        refine .inr ⟨i, by omega, rfl, c1, fun j hj hj0 => ?_, fun j hj hj0 => ?_⟩
        · by_cases e : j = i
          · rw [e]; exact Int.le_refl _
          · have := hn j (by omega); omega
        · have := hn j (by omega); omega
      · have := h0 k (by omega)
        rw [if_neg (by omega)]
        by_cases c2 : d.getD (r.getD i 0).toNat 0 < d.getD (r.getD k 0).toNat 0
        · rw [if_pos c2]
          refine .inr ⟨i, by omega, rfl, c1, fun j hj hj0 => ?_, fun j hj hj0 => ?_⟩
          · by_cases e : j = i
            · rw [e]; exact Int.le_refl _
            · have := hmin j (by omega) hj0; omega
          · have := hmin j (by omega) hj0; omega
        · rw [if_neg c2]
          refine .inr ⟨k, by omega, rfl, hk0, fun j hj hj0 => ?_, hfst⟩
          by_cases e : j = i
          · rw [e]; omega
          · exact hmin j (by omega) hj0
    · rw [if_neg c1]
      rcases ih with ⟨rfl, hn⟩ | ⟨k, hk, rfl, hk0, hmin, hfst⟩
      · refine .inl ⟨rfl, fun j hj => ?_⟩
        by_cases e : j = i
        · rw [e]; omega
        · exact hn j (by omega)
      · refine .inr ⟨k, by omega, rfl, hk0, fun j hj hj0 => ?_, hfst⟩
        by_cases e : j = i
        · rw [e] at hj0; omega
        · exact hmin j (by omega) hj0
theorem fnd_first {p : Nat → Bool} : ∀ {n s j : Nat}, fnd p s n = some j → ∀ i, s ≤ i → i < j → p i = false := by
  intro n
  induction n with
  | zero => intro s j h; cases h
  | succ n ih =>
    intro s j h i hi hij
    rw [fnd] at h
    cases hp : p s with
    | true => rw [hp] at h; cases h; omega
    | false =>
      rw [hp] at h
      by_cases e : i = s
      · rw [e]; exact hp
      · exact ih h i (by omega) hij
theorem row_nn {g : List (List Int)} {s : List Bool} (hg : OkG g s) {v : Nat} (hv : v < g.length) : ∀ j, j < (g.getD v []).length → 0 ≤ (g.getD v []).getD j 0 := fun j hj => by
  obtain ⟨w, hw, _⟩ := row_get hg hv hj; omega
theorem row_mem {g : List (List Int)} {v j : Nat} (hj : j < (g.getD v []).length) : (g.getD v []).getD j 0 ∈ g.getD v [] := by
  rw [List.getD_eq_getElem?_getD (l := g.getD v []), List.getElem?_eq_getElem hj]
  exact List.getElem_mem hj
theorem mem_row {g : List (List Int)} {v : Nat} {w : Int} (h : w ∈ g.getD v []) : ∃ j, j < (g.getD v []).length ∧ (g.getD v []).getD j 0 = w := by
  obtain ⟨j, hj, e⟩ := List.mem_iff_getElem.1 h
  exact ⟨j, hj, by rw [List.getD_eq_getElem?_getD (l := g.getD v []), List.getElem?_eq_getElem hj]; exact e⟩
theorem best_hop {g : List (List Int)} {s : List Bool} (hg : OkG g s) {goal : Nat} {d : List Int} (hD : Dst g s goal d) {a : Nat} (ha : a < g.length) (h0 : 0 < d.getD a 0) (hgd : s.getD goal false = false) : bestN d (g.getD a []) (g.getD a []).length = hopZ g d a := by
  have hso : s.getD a false = false ∧ ∃ w ∈ g.getD a [], 0 ≤ d.getD w.toNat 0 ∧ d.getD a 0 = d.getD w.toNat 0 + 1 := by
    rcases hD.back a ha (by omega) with rfl | h
    · rw [hD.zero hgd] at h0; omega
    · exact h
  obtain ⟨hso, w, hw, hw0, hw1⟩ := hso
  obtain ⟨j0, hj0, hje⟩ := mem_row hw
  have hf := fun j (hj : j < (g.getD a []).length) => hD.fwd a ha hso _ (row_mem hj)
  have hb := best_ok (d := d) (row_nn hg ha) _ (Nat.le_refl _)
  have hu : hopZ g d a = hopR (g.getD a []) (fnd (hopP g d a) 0 (g.getD a []).length) := rfl
  have hp : ∀ i, hopP g d a i = (decide (0 < d.getD a 0) && (d.getD ((g.getD a []).getD i 0).toNat 0 == d.getD a 0 - 1)) := fun i => rfl
  generalize g.getD a [] = r at hb hu hp hf hje hj0
  generalize hopP g d a = p at hu hp
  generalize bestN d r r.length = b at hb
  rw [hu]
  rcases hb with ⟨_, hn⟩ | ⟨k, hk, rfl, hk0, hmin, hfst⟩
  · have := hn j0 hj0
    rw [hje] at this; omega
  · have e1 : d.getD (r.getD k 0).toNat 0 = d.getD a 0 - 1 := by
      have h1 := hmin j0 hj0 (by rw [hje]; exact hw0)
      rw [hje] at h1
      have h2 := (hf k hk hk0).2
      omega
    have hpk : p k = true := by rw [hp, e1, decide_eq_true h0]; simp
    cases hfd : fnd p 0 r.length with
    | none => have := fnd_none hfd k (Nat.zero_le _) (by omega); rw [hpk] at this; cases this
    | some i =>
      obtain ⟨a1, _, a2⟩ := fnd_some hfd
      have a3 := fnd_first hfd
      rw [hp, decide_eq_true h0, Bool.true_and, beq_iff_eq] at a1
      have hik : i = k := by
        by_cases c1 : k < i
        · have := a3 k (Nat.zero_le _) c1; rw [hpk] at this; cases this
        · by_cases c2 : i < k
          · have := hfst i c2 (by omega); omega
          · omega
      rw [hik]; rfl
noncomputable def qt2 (g : List (List Int)) (s : List Bool) (goal : Nat) (d : List Int) (v : Nat) (r : List Int) (i : Nat) (bz : Int) (p : List Int) : QB := ⟨g, s, goal, g.length, d, [], 0, v, r, i, 0, 0, 0, bz, false, p⟩
theorem ti_run {g : List (List Int)} {s : List Bool} (hg : OkG g s) (goal a : Nat) (ha : a < g.length) (d p : List Int) (hd : d.length = g.length) (hp : p.length ≤ 1000) {R : St → Prop} {post : Exit → St → Prop}
    (hnil : bestN d (g.getD a []) (g.getD a []).length < 0 → Pass post (Fin Try.prog Try.f16 0 [] .nils))
    (hret : bestN d (g.getD a []) (g.getD a []).length = (goal : Int) → Pass post (Fin Try.prog Try.f16 0 [] (lI p)))
    (hR : ∀ b : Nat, bestN d (g.getD a []) (g.getD a []).length = (b : Int) → b ≠ goal → b < g.length → ∀ st, Ren 0 st (lo39 (qt2 g s goal d b [] 0 0 (p ++ [(b : Int)]))) → R st) :
    T Try.prog 0 (.loop (loopC (loopC (bodyOf Try.f16) 0) 0)) (li39 (qt2 g s goal d 0 (g.getD a []) 0 (-1) p)) (TK Try.prog 0 (andThen R post) (loopK (loopC (bodyOf Try.f16) 0) 0)) := by
  have hgl := hg.len
  have hr1 := (hg.row a ha).1
  have hget := fun i => row_get hg ha (i := i)
  generalize g.getD a [] = r at hr1 hget hnil hret hR
  have hbr : ∀ i, i ≤ r.length → bestN d r i = -1 ∨ ∃ b : Nat, bestN d r i = (b : Int) ∧ b < g.length := by
    intro i hi
    rcases best_ok (d := d) (fun j hj => by obtain ⟨w, hw, _⟩ := hget j hj; omega) i hi with h | ⟨k, hk, h, _⟩
    · exact .inl h.1
    · obtain ⟨w, hw, hw1, _⟩ := hget k (by omega)
      exact .inr ⟨w, by rw [h, hw], hw1⟩
  refine T.loop (fun i : Nat => li39 (qt2 g s goal d 0 r i (bestN d r i) p)) (fun i => i ≤ r.length) (fun i => r.length + 1 - i) 0 (Nat.zero_le _) ?_
  intro i hi
  by_cases h : i < r.length
  · obtain ⟨w, hw, hw1, hw2⟩ := hget i h
    have hg1 := lI_get h
    rw [hw] at hg1
    have hdw := lI_get (l := d) (j := w) (by omega)
    have dk : decide (iN i < iN r.length) = true := decide_eq_true (by simp only [iN]; omega)
    have wi : IntKind.i64.wrap (iN i + 1) = ((i + 1 : Nat) : Int) := wrap_nat i (by omega)
    have hstep : bestN d r (i + 1) = bestF d (bestN d r i) (w : Int) := by rw [bestN, hw]
    unfold bestF at hstep
    rw [Int.toNat_natCast] at hstep
    have next : ∀ st, Ren 0 st (li39 (qt2 g s goal d 0 r (i + 1) (bestN d r (i + 1)) p)) → ∃ j, Ren 0 st (li39 (qt2 g s goal d 0 r j (bestN d r j) p)) ∧ j ≤ r.length ∧ r.length + 1 - j < r.length + 1 - i := fun st hst => ⟨i + 1, hst, h, by omega⟩
    by_cases c1 : 0 ≤ d.getD w 0
    · rw [if_pos c1] at hstep
      rcases hbr i hi with hb | ⟨b, hb, hbl⟩
      · rw [hb, if_pos (by decide)] at hstep
        rw [hstep] at next
        rw [hb]
        refine T.path mix (tit_0 ⟨g, s, goal, g.length, d, [], 0, 0, r, i, w, d.getD w 0, 0, -1, false, p⟩ dk (by simp [iN]) hg1 (by simp [iN]) hdw (decide_eq_true c1) rfl ?_)
        intro st hst
        simp only [wi] at hst
        exact next st hst
      · rw [hb, if_neg (by omega), Int.toNat_natCast] at hstep
        have hdb := lI_get (l := d) (j := b) (by omega)
        rw [hb]
        by_cases c2 : d.getD w 0 < d.getD b 0
        · rw [if_pos c2] at hstep
          rw [hstep] at next
          refine T.path mix (tiu_0 ⟨g, s, goal, g.length, d, [], 0, 0, r, i, w, d.getD w 0, d.getD b 0, (b : Int), false, p⟩ dk (by simp [iN]) hg1 (by simp [iN]) hdw (decide_eq_true c1) (decide_eq_false (by simp only; omega)) (by simp) hdb (decide_eq_true c2) ?_)
          intro st hst
          simp only [wi] at hst
          exact next st hst
        · rw [if_neg c2] at hstep
          rw [hstep] at next
          refine T.path mix (tiu_1 ⟨g, s, goal, g.length, d, [], 0, 0, r, i, w, d.getD w 0, d.getD b 0, (b : Int), false, p⟩ dk (by simp [iN]) hg1 (by simp [iN]) hdw (decide_eq_true c1) (decide_eq_false (by simp only; omega)) (by simp) hdb (decide_eq_false c2) ?_)
          intro st hst
          simp only [wi] at hst
          exact next st hst
    · rw [if_neg c1] at hstep
      rw [hstep] at next
      refine T.path mix (tis_0 ⟨g, s, goal, g.length, d, [], 0, 0, r, i, w, d.getD w 0, 0, bestN d r i, false, p⟩ dk (by simp [iN]) hg1 (by simp [iN]) hdw (decide_eq_false c1) ?_)
      intro st hst
      simp only [wi] at hst
      exact next st hst
  · obtain rfl : i = r.length := by omega
    have dn : decide (iN r.length < iN r.length) = false := decide_eq_false (by omega)
    rcases hbr r.length (Nat.le_refl _) with hb | ⟨b, hb, hbl⟩
    · rw [hb]
      exact T.out mix (tea_0 (qt2 g s goal d 0 r r.length (-1) p) dn rfl (hnil (by rw [hb]; decide)))
    · rw [hb]
      by_cases e : b = goal
      · exact T.out mix (teb_0 (qt2 g s goal d 0 r r.length (b : Int) p) dn (decide_eq_false (by simp only [qt2]; omega)) (by simp [iN, qt2, e]) (by simp) (hret (by rw [hb, e])))
      · refine T.out mix (tec_0 (qt2 g s goal d 0 r r.length (b : Int) p) dn (decide_eq_false (by simp only [qt2]; omega)) (by simp [iN, qt2]; omega) (by simp) (by simp) (by simp [qt2]; omega) (by simp [qt2]; omega) ?_)
        intro st hst
        refine hR b hb e hbl st ?_
        have e5 : (p.map (AV.int .i64)).length + [AV.int .i64 (b : Int)].length = (p ++ [(b : Int)]).length := by simp
        have e6 : p.map (AV.int .i64) ++ [AV.int .i64 (b : Int)] = (p ++ [(b : Int)]).map (AV.int .i64) := by simp
        simp only [qt2] at hst
        rw [e5, e6] at hst
        exact hst
noncomputable def thD (g : List (List Int)) (d : List Int) (v : Nat) (b : Int) : List Int := if b < 0 then [] else (v : Int) :: (List.range (d.getD b.toNat 0).toNat).map (wkZ g d b.toNat)
noncomputable def thZ (g : List (List Int)) (s : List Bool) (v : Nat) : List Int := if s.getD v false = true then [] else thD g (distL g s v g.length) v (bestN (distL g s v g.length) (g.getD v []) (g.getD v []).length)
theorem through_ct {g : List (List Int)} {s : List Bool} (hg : OkG g s) (hs : Asc g) (v : Nat) (hv : v < g.length) : CT Try.prog 16 [] [.lst (gL g), .lst (boL s), .int .i64 (v : Nat)] [] (lI (thZ g s v)) := by
  have hgl := hg.len
  have hl := gL_len g
  have hsv := boL_get (s := s) (v := v) (by rw [hg.sh]; exact hv)
  have hb : Try.f16.body = some (bodyOf Try.f16) := by kernel_rfl
  have hn : [AV.lst (gL g), .lst (boL s), .int .i64 (v : Nat)].length ≤ Try.f16.ntmps := Nat.le_of_ble_eq_true rfl
  unfold thZ
  by_cases hso : s.getD v false = true
  · rw [if_pos hso]
    exact CT.pathW mix Try.func16 hb hn (th_0 ⟨g, s, v, g.length, [], [], 0, 0, [], 0, 0, 0, 0, 0, s.getD v false, []⟩ (by simp [iN]) hsv hso) rfl
  · rw [if_neg hso]
    have hso := Bool.eq_false_iff.2 hso
    have c1 := bfs_ct hg hs v hv hso
    have hD := dst_ok hg hv
    generalize distL g s v g.length = d at c1 hD
    have hbo := best_ok (d := d) (row_nn hg hv) _ (Nat.le_refl _)
    generalize hbb : bestN d (g.getD v []) (g.getD v []).length = b at hbo
    unfold thD
    rcases hbo with ⟨rfl, hn1⟩ | ⟨k, hk, hbk, hk0, hmin, hfst⟩
    · rw [if_pos (by decide)]
      refine CT.pathW mix Try.func16 hb hn (res := .nils) (tn_0 ⟨g, s, v, g.length, d, [], 0, 0, [], 0, 0, 0, 0, 0, s.getD v false, []⟩ (by simp [iN]) hsv hso c1 ?_) rfl
      refine T.loop (fun _ : Unit => lo39 (qt2 g s v d v [] 0 0 [(v : Int)])) (fun _ => True) (fun _ => 0) () trivial ?_
      intro _ _
      refine T.path mix (to_0 ⟨g, s, v, g.length, d, [], 0, v, g.getD v [], 0, 0, 0, 0, 0, false, [(v : Int)]⟩ (by simp [iN]) (gL_get hv) ?_)
      simp only [lI_len]
      refine ti_run hg v v hv d [(v : Int)] hD.len (by simp) (fun _ st hst => TK.ret hst _) (fun h => by rw [hbb] at h; omega) (fun b' h => by rw [hbb] at h; omega)
    · obtain ⟨w, hw, hw1, hw2⟩ := row_get hg hv hk
      rw [hw] at hbk
      subst hbk
      rw [if_neg (by omega), Int.toNat_natCast]
      rw [hw, Int.toNat_natCast] at hk0
      obtain ⟨m, hm⟩ : ∃ m : Nat, d.getD w 0 = (m : Int) := ⟨(d.getD w 0).toNat, by omega⟩
      rw [hm, Int.toNat_natCast]
      have hok := wk_ok hg hv hD hw1 hm hso
      have hmb := (hD.bnd w hw1).2
      have hlen : ∀ k, ((v : Int) :: (List.range k).map (wkZ g d w)).length = k + 1 := by intro k; simp
      have hbest : ∀ k, k ≤ m → bestN d (g.getD (if k = 0 then v else (wkZ g d w (k - 1)).toNat) []) (g.getD (if k = 0 then v else (wkZ g d w (k - 1)).toNat) []).length = wkZ g d w k := by
        intro k hk
        by_cases e : k = 0
        · rw [if_pos e, hbb, e]; rfl
        · rw [if_neg e]
          obtain ⟨a1, a2, a3⟩ := hok (k - 1) (by omega)
          rw [best_hop hg hD (a := (wkZ g d w (k - 1)).toNat) (by omega) (by rw [a3]; omega) hso]
          obtain ⟨k', rfl⟩ : ∃ k', k = k' + 1 := ⟨k - 1, by omega⟩
          rfl
      refine CT.path mix Try.func16 hb hn (tn_0 ⟨g, s, v, g.length, d, [], 0, 0, [], 0, 0, 0, 0, 0, s.getD v false, []⟩ (by simp [iN]) hsv hso c1 ?_)
      refine T.loop (fun k : Nat => lo39 (qt2 g s v d (if k = 0 then v else (wkZ g d w (k - 1)).toNat) [] 0 0 ((v : Int) :: (List.range k).map (wkZ g d w)))) (fun k => k ≤ m) (fun k => m + 1 - k) 0 (Nat.zero_le _) ?_
      intro k hk
      have hal : (if k = 0 then v else (wkZ g d w (k - 1)).toNat) < g.length := by
        by_cases e : k = 0
        · rw [if_pos e]; exact hv
        · rw [if_neg e]; have := hok (k - 1) (by omega); omega
      have hbk := hbest k hk
      have hgr := gL_get hal
      generalize (if k = 0 then v else (wkZ g d w (k - 1)).toNat) = a at hal hbk hgr
      refine T.path mix (to_0 ⟨g, s, v, g.length, d, [], 0, a, g.getD a [], 0, 0, 0, 0, 0, false, (v : Int) :: (List.range k).map (wkZ g d w)⟩ (by simp [iN]) hgr ?_)
      simp only [lI_len]
      obtain ⟨a1, a2, a3⟩ := hok k hk
      refine ti_run hg v a hal d _ hD.len (by rw [hlen]; omega) (fun h => by rw [hbk] at h; omega) (fun h => ?_) (fun b hb1 hb2 hb3 st hst => ?_)
      · have hkm : k = m := by
          rw [hbk] at h
          rw [h, Int.toNat_natCast, hD.zero hso] at a3
          omega
        rw [hkm]
        exact fun st hst => TK.ret hst _
      · have hkm : k < m := by
          by_cases e : k = m
          · exfalso
            rw [hbk] at hb1
            rw [hb1, Int.toNat_natCast, e] at a3
            exact hb2 (zero_goal hD hb3 (by rw [a3]; simp))
          · omega
        refine ⟨k + 1, ?_, by omega, by omega⟩
        rw [hbk] at hb1
        rw [if_neg (by omega), Nat.add_sub_cancel, hb1, Int.toNat_natCast, List.range_succ, List.map_append, List.map_cons, List.map_nil, hb1]
        exact hst
theorem Through_ct {g : List (List Int)} {s : List Bool} (hg : OkG g s) (hs : Asc g) (v : Nat) (hv : v < g.length) : CT Try.prog 9 [] [.lst (gL g), .lst (boL s), .int .i64 (v : Nat)] [] (.tup [.int .i64 (iN (thZ g s v).length), lI (thZ g s v), .int .i64 0]) := by
  have hl := gL_len g
  have k := tw_0 ⟨g, s, v, g.length, [], [], 0, 0, [], 0, 0, 0, 0, 0, false, thZ g s v⟩ (gcheck_ct hg hs) (decide_eq_false (by simp only [iN, hl]; omega)) (through_ct hg hs v hv)
  simp only [lI_len] at k
  exact CT.path mix Try.func9 (show Try.f9.body = some (bodyOf Try.f9) by kernel_rfl) (Nat.le_of_ble_eq_true rfl) k
structure QE where
  g : List (List Int)
  s : List Bool
  v : Int
  p : List Int
  o : List Int
  d : List Int
  r : List Int
  e : Int
  i : Nat
  a : Nat
  w : Nat
  x : Int
  y : Int
  z : Int
  bz : Int
  b : Bool
  sb : Bool
def cE (q : QE) : Nat → FuncId → List AV → List (Option Blk) → Hint := fun dst f args hp => match f with
  | 15 => .call [] [] [] (.int .i64 q.e)
  | 16 => .call [] [] [] (lI q.p)
  | 13 => .call [] [] [] (.bool q.b)
  | _ => .no
def eN (q : QE) : List (Nat × AV) := []
noncomputable def stHc (q : QE) : St := { n := Try.f15.ntmps, fr := [(0, .lst (gL q.g)), (1, .lst (boL q.s))], hp := [] }
noncomputable def la23 (q : QE) : St := { n := Try.f15.ntmps, fr := [(0, .lst (gL q.g)), (1, .lst (boL q.s)), (13, .lst (gL q.g)), (14, .int .i64 (iN q.g.length)), (15, .int .i64 (iN q.a))], hp := [] }
noncomputable def lb23 (q : QE) : St := { n := Try.f15.ntmps, fr := [(0, .lst (gL q.g)), (1, .lst (boL q.s)), (5, .int .i64 (iN q.a)), (7, .int .i64 q.x), (13, .lst (gL q.g)), (14, .int .i64 (iN q.g.length)), (15, .int .i64 (iN q.a)), (20, lI q.r), (21, .int .i64 (iN q.r.length)), (22, .int .i64 (iN q.i))], hp := [] }
def e23g (q : QE) : List (Nat × AV) := [(18, lI q.r), (24, .int .i64 q.y)]
noncomputable def st12 (q : QE) : St := { n := Try.f7.ntmps, fr := [(0, .lst (gL q.g)), (1, .lst (boL q.s))], hp := [] }
noncomputable def la12 (q : QE) : St := { n := Try.f7.ntmps, fr := [(0, .lst (gL q.g)), (1, .lst (boL q.s)), (8, .nils), (18, .int .i64 (iN q.g.length)), (19, .int .i64 (iN q.i))], hp := [] }
noncomputable def lb12 (q : QE) : St := { n := Try.f7.ntmps, fr := [(0, .lst (gL q.g)), (1, .lst (boL q.s)), (8, lI q.o), (18, .int .i64 (iN q.g.length)), (19, .int .i64 (iN q.i))], hp := [] }
noncomputable def st17c (q : QE) : St := { n := Try.f11.ntmps, fr := [(0, .lst (gL q.g)), (1, .lst (boL q.s)), (2, lI q.o)], hp := [] }
noncomputable def lo17c (q : QE) : St := { n := Try.f11.ntmps, fr := [(0, .lst (gL q.g)), (1, .lst (boL q.s)), (7, .int .i64 q.y), (28, lI q.o), (29, .int .i64 (iN q.o.length)), (30, .int .i64 (iN q.i))], hp := [] }
noncomputable def li17 (q : QE) : St := { n := Try.f11.ntmps, fr := [(0, .lst (gL q.g)), (1, .lst (boL q.s)), (9, .int .i64 q.x), (10, .bool q.b), (28, lI q.o), (29, .int .i64 (iN q.o.length)), (30, .int .i64 (iN q.i)), (61, lI q.r), (62, .int .i64 (iN q.r.length)), (63, .int .i64 (iN q.a))], hp := [] }
def eCl (q : QE) : List (Nat × AV) := [(26, .int .i64 q.y), (32, .int .i64 q.x), (45, .bool q.sb), (60, lI q.r), (65, .int .i64 q.z)]
theorem hc_0 (q : QE) (h1 : (decide (24 < iN (gL q.g).length) = true)) : GoP Try.prog (hU [25] (e23g q) (cE q)) 0 (bodyOf Try.f15) (stHc q) (Fin Try.prog Try.f15 0 [] (iv 20)) :=
  endF_spec (σ := []) (fz := []) (by kernel_rfl) (aj (u2 (aj (u2 (u2 s2)) (aj h1 s2))) t2)
theorem hc_1 (q : QE) (h1 : (decide (24 < iN (gL q.g).length) = false)) {post : Exit → St → Prop} (ht : T Try.prog 0 (.loop (loopC (bodyOf Try.f15) 0)) (St.mk 48 [(0, AV.lst (gL q.g)), (1, AV.lst (boL q.s)), (13, AV.lst (gL q.g)), (14, iv (iN (gL q.g).length)), (15, iv 0)] []) (TK Try.prog 0 post (loopK (bodyOf Try.f15) 0))) : GoP Try.prog (hU [24] (e23g q) (cE q)) 0 (bodyOf Try.f15) (stHc q) post :=
  endR_spec (σ := []) (fz := []) (vars := [0,1,13,14,15]) (by kernel_rfl) (aj (u2 (aj (u2 (u2 s2)) (aj h1 (al (u2 (u2 t2)))))) t6) ht
theorem hcx_0 (q : QE) (h1 : (decide (iN q.a < iN q.g.length) = false)) (h2 : ((iN (boL q.s).length != iN (gL q.g).length) = true)) : GoO Try.prog (hU [32, 95] (e23g q) (cE q)) 0 (loopC (bodyOf Try.f15) 0) (loopK (bodyOf Try.f15) 0) (la23 q) (Fin Try.prog Try.f15 0 [] (iv 19)) :=
  endF_spec (σ := []) (fz := []) (by kernel_rfl) (aj (aj (aj (al t3) (al h1)) (aj (u2 (u2 (u2 (u2 (al t3))))) (aj h2 s2))) t2)
theorem hcx_1 (q : QE) (h1 : (decide (iN q.a < iN q.g.length) = false)) (h2 : ((iN (boL q.s).length != iN (gL q.g).length) = false)) : GoO Try.prog (hU [32, 94] (e23g q) (cE q)) 0 (loopC (bodyOf Try.f15) 0) (loopK (bodyOf Try.f15) 0) (la23 q) (Fin Try.prog Try.f15 0 [] (iv 0)) :=
  endF_spec (σ := []) (fz := []) (by kernel_rfl) (aj (aj (aj (al t3) (al h1)) (aj (u2 (u2 (u2 (u2 (al t3))))) (aj h2 s2))) t2)
theorem hca_0 (q : QE) (h1 : (decide (iN q.a < iN q.g.length) = true)) (h2 : (0 ≤ iN q.a)) (h3 : ((gL q.g)[(iN q.a).toNat]? = some (AV.lst (List.map (iv) q.r)))) {post : Exit → St → Prop} (ht : T Try.prog 0 (.loop (loopC (loopC (bodyOf Try.f15) 0) 0)) (St.mk 48 [(0, AV.lst (gL q.g)), (1, AV.lst (boL q.s)), (5, iv (iN q.a)), (7, iv (-1)), (13, AV.lst (gL q.g)), (14, iv (iN q.g.length)), (15, iv (iN q.a)), (20, AV.lst (List.map (iv) q.r)), (21, iv (iN (List.map (iv) q.r).length)), (22, iv 0)] []) (TK Try.prog 0 post (loopK (loopC (bodyOf Try.f15) 0) 0))) : GoP Try.prog (hU [33] (e23g q) (cE q)) 0 (loopC (bodyOf Try.f15) 0) (la23 q) post :=
  endR_spec (σ := []) (fz := []) (vars := [0,1,5,7,13,14,15,20,21,22]) (by kernel_rfl) (aj (aj (al t3) (aj h1 (aj (u2 (aj (k2 (aj h2 h3)) (u2 (u2 s2)))) (u2 (al (u2 (u2 t2))))))) (k2 t9)) ht
theorem hcbx_0 (q : QE) (h1 : (decide (iN q.i < iN q.r.length) = false)) {post : Exit → St → Prop} {R : St → Prop} (hR : ∀ st, Ren 0 st (St.mk 48 [(0, AV.lst (gL q.g)), (1, AV.lst (boL q.s)), (13, AV.lst (gL q.g)), (14, iv (iN q.g.length)), (15, iv (IntKind.i64.wrap (iN q.a + 1)))] []) → R st) : GoO Try.prog (hU [46] (e23g q) (cE q)) 0 (loopC (loopC (bodyOf Try.f15) 0) 0) (loopK (loopC (bodyOf Try.f15) 0) 0) (lb23 q) (andThen R post) :=
  endN_spec (σ := []) (fz := []) (vars := [0,1,13,14,15]) (by kernel_rfl) (aj (aj (aj (al t3) (al h1)) (al (u2 s2))) t6) hR
theorem hcbr_0 (q : QE) (h1 : (decide (iN q.i < iN q.r.length) = true)) (h2 : (0 ≤ iN q.i)) (h3 : ((List.map (iv) q.r)[(iN q.i).toNat]? = some (iv q.y))) (h4 : (decide (q.y ≤ q.x) = true)) {post : Exit → St → Prop} (hP : Pass post (Fin Try.prog Try.f15 0 [] (iv 20))) : GoO Try.prog (hU [47, 59] (e23g q) (cE q)) 0 (loopC (loopC (bodyOf Try.f15) 0) 0) (loopK (loopC (bodyOf Try.f15) 0) 0) (lb23 q) post :=
  endT_spec (σ := []) (fz := []) (by kernel_rfl) (aj (al (aj (al t3) (aj h1 (aj (aj (k2 (aj h2 h3)) (u2 s2)) (aj (u2 (u2 (aj t3 (u2 (aj h4 (aj h4 (aj h4 (aj h4 (ag h4 (u2 (k3 (al t3)))))))))))) (ak s2)))))) t2) hP
theorem hcbr_1 (q : QE) (h1 : (decide (iN q.i < iN q.r.length) = true)) (h2 : (0 ≤ iN q.i)) (h3 : ((List.map (iv) q.r)[(iN q.i).toNat]? = some (iv q.y))) (h4 : (decide (q.y ≤ q.x) = false)) (h5 : (decide (iN (gL q.g).length ≤ q.y) = true)) {post : Exit → St → Prop} (hP : Pass post (Fin Try.prog Try.f15 0 [] (iv 20))) : GoO Try.prog (hU [47, 58, 71] (e23g q) (cE q)) 0 (loopC (loopC (bodyOf Try.f15) 0) 0) (loopK (loopC (bodyOf Try.f15) 0) 0) (lb23 q) post :=
  endT_spec (σ := []) (fz := []) (by kernel_rfl) (aj (al (aj (al t3) (aj h1 (aj (aj (k2 (aj h2 h3)) (u2 s2)) (aj (u2 (u2 (aj t3 (u2 (ag h4 (ag h4 (ag h4 (aj (aj h4 t3) (ag h4 (u2 (aj h5 (aj h5 (aj h5 (al (aj h5 t2))))))))))))))) (ak s2)))))) t2) hP
theorem hcbr_2 (q : QE) (h1 : (decide (iN q.i < iN q.r.length) = true)) (h2 : (0 ≤ iN q.i)) (h3 : ((List.map (iv) q.r)[(iN q.i).toNat]? = some (iv q.y))) (h4 : (decide (q.y ≤ q.x) = false)) (h5 : (decide (iN (gL q.g).length ≤ q.y) = false)) (h6 : ((q.y == iN q.a) = true)) {post : Exit → St → Prop} (hP : Pass post (Fin Try.prog Try.f15 0 [] (iv 20))) : GoO Try.prog (hU [47, 58, 70, 79] (e23g q) (cE q)) 0 (loopC (loopC (bodyOf Try.f15) 0) 0) (loopK (loopC (bodyOf Try.f15) 0) 0) (lb23 q) post :=
  endT_spec (σ := []) (fz := []) (by kernel_rfl) (aj (al (aj (al t3) (aj h1 (aj (aj (k2 (aj h2 h3)) (u2 s2)) (aj (u2 (u2 (aj t3 (u2 (ag h4 (ag h4 (ag h4 (aj (aj h4 t3) (ag h4 (u2 (ag h5 (ag h5 (aj (aj h5 t3) (al (aj h5 t2))))))))))))))) (aj h6 s2)))))) t2) hP
theorem hcbr_3 (q : QE) (h1 : (decide (iN q.i < iN q.r.length) = true)) (h2 : (0 ≤ iN q.i)) (h3 : ((List.map (iv) q.r)[(iN q.i).toNat]? = some (iv q.y))) (h4 : (decide (q.y ≤ q.x) = false)) (h5 : (decide (iN (gL q.g).length ≤ q.y) = false)) (h6 : ((q.y == iN q.a) = false)) {post : Exit → St → Prop} {R : St → Prop} (hR : ∀ st, Ren 0 st (St.mk 48 [(0, AV.lst (gL q.g)), (1, AV.lst (boL q.s)), (5, iv (iN q.a)), (7, iv q.y), (13, AV.lst (gL q.g)), (14, iv (iN q.g.length)), (15, iv (iN q.a)), (20, AV.lst (List.map (iv) q.r)), (21, iv (iN q.r.length)), (22, iv (IntKind.i64.wrap (iN q.i + 1)))] []) → R st) : GoP Try.prog (hU [47, 58, 70, 78] (e23g q) (cE q)) 0 (loopC (loopC (bodyOf Try.f15) 0) 0) (lb23 q) (andThen R post) :=
  endN_spec (σ := []) (fz := []) (vars := [0,1,5,7,13,14,15,20,21,22]) (by kernel_rfl) (aj (aj (al t3) (aj h1 (aj (aj (k2 (aj h2 h3)) (u2 s2)) (aj (u2 (u2 (aj t3 (u2 (ag h4 (ag h4 (ag h4 (aj (aj h4 t3) (ag h4 (u2 (ag h5 (ag h5 (aj (aj h5 t3) (al (aj h5 t2))))))))))))))) (aj h6 (aj (u2 s2) (al (u2 s2)))))))) (k2 t9)) hR
theorem gi_0 (q : QE) (h1 : (CT Try.prog 15 [] [AV.lst (gL q.g), AV.lst (boL q.s)] [] (iv q.e))) (h2 : ((q.e != 0) = true)) : GoP Try.prog (hU [31] (eN q) (cE q)) 0 (bodyOf Try.f7) (st12 q) (Fin Try.prog Try.f7 0 [] (AV.tup [iv 0, AV.nils, iv q.e])) :=
  endF_spec (σ := []) (fz := []) (by kernel_rfl) (aj (aj t4 (aj (u2 (u2 (aj (ak (k3 (al h1))) s2))) (aj (u2 s2) (aj h2 (al (u2 (k2 s2))))))) (al t4))
theorem gi_1 (q : QE) (h1 : (CT Try.prog 15 [] [AV.lst (gL q.g), AV.lst (boL q.s)] [] (iv q.e))) (h2 : ((q.e != 0) = false)) {post : Exit → St → Prop} (ht : T Try.prog 0 (.loop (loopC (bodyOf Try.f7) 0)) (St.mk 45 [(0, AV.lst (gL q.g)), (1, AV.lst (boL q.s)), (8, AV.nils), (18, iv (iN (gL q.g).length)), (19, iv 0)] []) (TK Try.prog 0 post (loopK (bodyOf Try.f7) 0))) : GoP Try.prog (hU [30] (eN q) (cE q)) 0 (bodyOf Try.f7) (st12 q) post :=
  endR_spec (σ := []) (fz := []) (vars := [0,1,8,18,19]) (by kernel_rfl) (aj (aj t4 (aj (u2 (u2 (aj (ak (k3 (al h1))) s2))) (aj (u2 s2) (aj h2 (u2 (al (u2 (u2 t2)))))))) t6) ht
theorem gax_0 (q : QE) (h1 : (decide (iN q.i < iN q.g.length) = false)) : GoO Try.prog (hU [40] (eN q) (cE q)) 0 (loopC (bodyOf Try.f7) 0) (loopK (bodyOf Try.f7) 0) (la12 q) (Fin Try.prog Try.f7 0 [] (AV.tup [iv 0, AV.nils, iv 0])) :=
  endF_spec (σ := []) (fz := []) (by kernel_rfl) (aj (aj (aj (al t3) (al h1)) (al (u2 (u2 (u2 (u2 (u2 t2))))))) (al t4))
theorem gbx_0 (q : QE) (h1 : (decide (iN q.i < iN q.g.length) = false)) : GoO Try.prog (hU [40] (eN q) (cE q)) 0 (loopC (bodyOf Try.f7) 0) (loopK (bodyOf Try.f7) 0) (lb12 q) (Fin Try.prog Try.f7 0 [] (AV.tup [iv (iN (List.map (iv) q.o).length), AV.lst (List.map (iv) q.o), iv 0])) :=
  endF_spec (σ := []) (fz := []) (by kernel_rfl) (aj (aj (aj (al t3) (al h1)) (al (u2 (u2 (u2 (u2 (u2 t2))))))) (al t4))
theorem gar_0 (q : QE) (h1 : (decide (iN q.i < iN q.g.length) = true)) (h2 : (CT Try.prog 16 [] [AV.lst (gL q.g), AV.lst (boL q.s), iv (iN q.i)] [] (AV.lst (List.map (iv) q.p)))) (h3 : (decide (0 < iN (List.map (iv) q.p).length) = true)) {post : Exit → St → Prop} {R : St → Prop} (hR : ∀ st, Ren 0 st (St.mk 45 [(0, AV.lst (gL q.g)), (1, AV.lst (boL q.s)), (8, AV.lst (List.map (iv) q.p)), (18, iv (iN q.g.length)), (19, iv (IntKind.i64.wrap (iN q.i + 1)))] []) → R st) : GoP Try.prog (hU [41, 59] (eN q) (cE q)) 0 (loopC (bodyOf Try.f7) 0) (la12 q) (andThen R post) :=
  endN_spec (σ := []) (fz := []) (vars := [0,1,8,18,19]) (by kernel_rfl) (aj (aj (al t3) (aj h1 (aj (u2 s2) (aj (u2 (u2 (u2 (aj (ak (k5 (al h2))) s2)))) (aj (u2 (u2 (u2 (u2 (ag h3 (ag h3 (ag h3 (k5 (aj (aj h3 t3) (al (aj h3 t2))))))))))) (ak (aj (u2 s2) (al (u2 s2))))))))) t6) hR
theorem gar_1 (q : QE) (h1 : (decide (iN q.i < iN q.g.length) = true)) (h2 : (CT Try.prog 16 [] [AV.lst (gL q.g), AV.lst (boL q.s), iv (iN q.i)] [] (AV.lst (List.map (iv) q.p)))) (h3 : (decide (0 < iN (List.map (iv) q.p).length) = false)) {post : Exit → St → Prop} {R : St → Prop} (hR : ∀ st, Ren 0 st (St.mk 45 [(0, AV.lst (gL q.g)), (1, AV.lst (boL q.s)), (8, AV.nils), (18, iv (iN q.g.length)), (19, iv (IntKind.i64.wrap (iN q.i + 1)))] []) → R st) : GoP Try.prog (hU [41, 58] (eN q) (cE q)) 0 (loopC (bodyOf Try.f7) 0) (la12 q) (andThen R post) :=
  endN_spec (σ := []) (fz := []) (vars := [0,1,8,18,19]) (by kernel_rfl) (aj (aj (al t3) (aj h1 (aj (u2 s2) (aj (u2 (u2 (u2 (aj (ak (k5 (al h2))) s2)))) (aj (u2 (u2 (u2 (u2 (aj h3 (aj h3 (aj h3 (k5 (aj h3 (al (aj h3 t2))))))))))) (ak (al (u2 s2)))))))) t6) hR
theorem gbr_0 (q : QE) (h1 : (decide (iN q.i < iN q.g.length) = true)) (h2 : (CT Try.prog 16 [] [AV.lst (gL q.g), AV.lst (boL q.s), iv (iN q.i)] [] (AV.lst (List.map (iv) q.p)))) (h3 : (decide (0 < iN (List.map (iv) q.p).length) = true)) (h4 : (List.map (iv) q.o = [] → False)) (h5 : (decide (iN (List.map (iv) q.p).length < iN (List.map (iv) q.o).length) = true)) {post : Exit → St → Prop} {R : St → Prop} (hR : ∀ st, Ren 0 st (St.mk 45 [(0, AV.lst (gL q.g)), (1, AV.lst (boL q.s)), (8, AV.lst (List.map (iv) q.p)), (18, iv (iN q.g.length)), (19, iv (IntKind.i64.wrap (iN q.i + 1)))] []) → R st) : GoP Try.prog (hU [41, 59, 79] (eN q) (cE q)) 0 (loopC (bodyOf Try.f7) 0) (lb12 q) (andThen R post) :=
  endN_spec (σ := []) (fz := []) (vars := [0,1,8,18,19]) (by kernel_rfl) (aj (aj (al t3) (aj h1 (aj (u2 s2) (aj (u2 (u2 (u2 (aj (ak (k5 (al h2))) s2)))) (aj (u2 (u2 (u2 (u2 (ag h3 (aj (aj h3 (ak h4)) (ag h3 (aj t3 (aj t3 (aj t3 (aj t3 (aj t4 (aj (aj h3 t3) (al (aj h3 t2))))))))))))))) (aj h5 (aj (u2 s2) (al (u2 s2))))))))) t6) hR
theorem gbr_1 (q : QE) (h1 : (decide (iN q.i < iN q.g.length) = true)) (h2 : (CT Try.prog 16 [] [AV.lst (gL q.g), AV.lst (boL q.s), iv (iN q.i)] [] (AV.lst (List.map (iv) q.p)))) (h3 : (decide (0 < iN (List.map (iv) q.p).length) = true)) (h4 : (List.map (iv) q.o = [] → False)) (h5 : (decide (iN (List.map (iv) q.p).length < iN (List.map (iv) q.o).length) = false)) {post : Exit → St → Prop} {R : St → Prop} (hR : ∀ st, Ren 0 st (St.mk 45 [(0, AV.lst (gL q.g)), (1, AV.lst (boL q.s)), (8, AV.lst (List.map (iv) q.o)), (18, iv (iN q.g.length)), (19, iv (IntKind.i64.wrap (iN q.i + 1)))] []) → R st) : GoP Try.prog (hU [41, 59, 78] (eN q) (cE q)) 0 (loopC (bodyOf Try.f7) 0) (lb12 q) (andThen R post) :=
  endN_spec (σ := []) (fz := []) (vars := [0,1,8,18,19]) (by kernel_rfl) (aj (aj (al t3) (aj h1 (aj (u2 s2) (aj (u2 (u2 (u2 (aj (ak (k5 (al h2))) s2)))) (aj (u2 (u2 (u2 (u2 (ag h3 (aj (aj h3 (ak h4)) (ag h3 (aj t3 (aj t3 (aj t3 (aj t3 (aj t4 (aj (aj h3 t3) (al (aj h3 t2))))))))))))))) (aj h5 (al (u2 s2)))))))) t6) hR
theorem gbr_2 (q : QE) (h1 : (decide (iN q.i < iN q.g.length) = true)) (h2 : (CT Try.prog 16 [] [AV.lst (gL q.g), AV.lst (boL q.s), iv (iN q.i)] [] (AV.lst (List.map (iv) q.p)))) (h3 : (decide (0 < iN (List.map (iv) q.p).length) = false)) {post : Exit → St → Prop} {R : St → Prop} (hR : ∀ st, Ren 0 st (St.mk 45 [(0, AV.lst (gL q.g)), (1, AV.lst (boL q.s)), (8, AV.lst (List.map (iv) q.o)), (18, iv (iN q.g.length)), (19, iv (IntKind.i64.wrap (iN q.i + 1)))] []) → R st) : GoP Try.prog (hU [41, 58] (eN q) (cE q)) 0 (loopC (bodyOf Try.f7) 0) (lb12 q) (andThen R post) :=
  endN_spec (σ := []) (fz := []) (vars := [0,1,8,18,19]) (by kernel_rfl) (aj (aj (al t3) (aj h1 (aj (u2 s2) (aj (u2 (u2 (u2 (aj (ak (k5 (al h2))) s2)))) (aj (u2 (u2 (u2 (u2 (aj h3 (aj h3 (aj h3 (k5 (aj h3 (al (aj h3 t2))))))))))) (ak (al (u2 s2)))))))) t6) hR
theorem cl_0 (q : QE) (h1 : (CT Try.prog 15 [] [AV.lst (gL q.g), AV.lst (boL q.s)] [] (iv q.e))) (h2 : ((q.e != 0) = true)) : GoP Try.prog (hU [35] (eCl q) (cE q)) 0 (bodyOf Try.f11) (st17c q) (Fin Try.prog Try.f11 0 [] (AV.bool false)) :=
  endF_spec (σ := []) (fz := []) (by kernel_rfl) (aj (u2 (aj (u2 (u2 (aj (ak (k3 (al h1))) (u2 (u2 (aj h2 (aj h2 (aj h2 (al (aj h2 t2)))))))))) (ak s2))) t2)
theorem cl_1 (q : QE) (h1 : (CT Try.prog 15 [] [AV.lst (gL q.g), AV.lst (boL q.s)] [] (iv q.e))) (h2 : ((q.e != 0) = false)) (h3 : ((iN (List.map (iv) q.o).length == 0) = true)) : GoP Try.prog (hU [34, 43] (eCl q) (cE q)) 0 (bodyOf Try.f11) (st17c q) (Fin Try.prog Try.f11 0 [] (AV.bool false)) :=
  endF_spec (σ := []) (fz := []) (by kernel_rfl) (aj (u2 (aj (u2 (u2 (aj (ak (k3 (al h1))) (u2 (u2 (ag h2 (ag h2 (ag h2 (al (aj h2 t2)))))))))) (aj h3 s2))) t2)
theorem cl_2 (q : QE) (h1 : (CT Try.prog 15 [] [AV.lst (gL q.g), AV.lst (boL q.s)] [] (iv q.e))) (h2 : ((q.e != 0) = false)) (h3 : ((iN (List.map (iv) q.o).length == 0) = false)) (h4 : (0 ≤ IntKind.i64.wrap (iN (List.map (iv) q.o).length - 1))) (h5 : ((List.map (iv) q.o)[(IntKind.i64.wrap (iN (List.map (iv) q.o).length - 1)).toNat]? = some (iv q.y))) {post : Exit → St → Prop} (ht : T Try.prog 0 (.loop (loopC (bodyOf Try.f11) 0)) (St.mk 78 [(0, AV.lst (gL q.g)), (1, AV.lst (boL q.s)), (7, iv q.y), (28, AV.lst (List.map (iv) q.o)), (29, iv (iN (List.map (iv) q.o).length)), (30, iv 0)] []) (TK Try.prog 0 post (loopK (bodyOf Try.f11) 0))) : GoP Try.prog (hU [34, 42] (eCl q) (cE q)) 0 (bodyOf Try.f11) (st17c q) post :=
  endR_spec (σ := []) (fz := []) (vars := [0,1,7,28,29,30]) (by kernel_rfl) (aj (u2 (aj (u2 (u2 (aj (ak (k3 (al h1))) (u2 (u2 (ag h2 (ag h2 (ag h2 (al (aj h2 t2)))))))))) (aj h3 (aj (u2 (u2 (u2 (u2 (aj (k2 (aj h4 h5)) (u2 s2)))))) (al (u2 (u2 t2))))))) t7) ht
theorem clx_0 (q : QE) (h1 : (decide (iN q.i < iN q.o.length) = false)) : GoO Try.prog (hU [62] (eCl q) (cE q)) 0 (loopC (bodyOf Try.f11) 0) (loopK (bodyOf Try.f11) 0) (lo17c q) (Fin Try.prog Try.f11 0 [] (AV.bool true)) :=
  endF_spec (σ := []) (fz := []) (by kernel_rfl) (aj (aj (aj (al t3) (al h1)) s2) t2)
theorem cla_0 (q : QE) (h1 : (decide (iN q.i < iN q.o.length) = true)) (h2 : (0 ≤ iN q.i)) (h3 : ((List.map (iv) q.o)[(iN q.i).toNat]? = some (iv q.x))) (h4 : (decide (q.x < 0) = true)) : GoO Try.prog (hU [63, 73] (eCl q) (cE q)) 0 (loopC (bodyOf Try.f11) 0) (loopK (bodyOf Try.f11) 0) (lo17c q) (Fin Try.prog Try.f11 0 [] (AV.bool false)) :=
  endF_spec (σ := []) (fz := []) (by kernel_rfl) (aj (al (aj (al t3) (aj h1 (aj (aj (k2 (aj h2 h3)) (u2 s2)) (aj (u2 (u2 (u2 (aj h4 (aj h4 (aj h4 (aj h4 (ag h4 (u2 (ak (k3 (aj t3 (u2 (k2 (aj t3 (u2 (ak (k3 (al t3))))))))))))))))))) (ak s2)))))) t2)
theorem cla_1 (q : QE) (h1 : (decide (iN q.i < iN q.o.length) = true)) (h2 : (0 ≤ iN q.i)) (h3 : ((List.map (iv) q.o)[(iN q.i).toNat]? = some (iv q.x))) (h4 : (decide (q.x < 0) = false)) (h5 : (decide (iN (gL q.g).length ≤ q.x) = true)) : GoO Try.prog (hU [63, 72, 85] (eCl q) (cE q)) 0 (loopC (bodyOf Try.f11) 0) (loopK (bodyOf Try.f11) 0) (lo17c q) (Fin Try.prog Try.f11 0 [] (AV.bool false)) :=
  endF_spec (σ := []) (fz := []) (by kernel_rfl) (aj (al (aj (al t3) (aj h1 (aj (aj (k2 (aj h2 h3)) (u2 s2)) (aj (u2 (u2 (u2 (ag h4 (ag h4 (ag h4 (aj (aj h4 t3) (ag h4 (u2 (aj h5 (aj h5 (aj h5 (aj h5 (ag h5 (u2 (k2 (aj t3 (u2 (ak (k3 (al t3))))))))))))))))))))) (ak s2)))))) t2)
theorem cla_2 (q : QE) (h1 : (decide (iN q.i < iN q.o.length) = true)) (h2 : (0 ≤ iN q.i)) (h3 : ((List.map (iv) q.o)[(iN q.i).toNat]? = some (iv q.x))) (h4 : (decide (q.x < 0) = false)) (h5 : (decide (iN (gL q.g).length ≤ q.x) = false)) (h6 : (0 ≤ q.x)) (h7 : ((boL q.s)[q.x.toNat]? = some (AV.bool q.sb))) (h8 : (q.sb = true)) : GoO Try.prog (hU [63, 72, 84, 97] (eCl q) (cE q)) 0 (loopC (bodyOf Try.f11) 0) (loopK (bodyOf Try.f11) 0) (lo17c q) (Fin Try.prog Try.f11 0 [] (AV.bool false)) :=
  endF_spec (σ := []) (fz := []) (by kernel_rfl) (aj (al (aj (al t3) (aj h1 (aj (aj (k2 (aj h2 h3)) (u2 s2)) (aj (u2 (u2 (u2 (ag h4 (ag h4 (ag h4 (aj (aj h4 t3) (ag h4 (u2 (ag h5 (ag h5 (aj (aj h5 (k2 (aj h6 h7))) (ag h5 (ag h5 (u2 (aj h8 (aj h8 (ag h8 (u2 (ak (k3 (al t3)))))))))))))))))))))) (ak s2)))))) t2)
theorem cla_3 (q : QE) (h1 : (decide (iN q.i < iN q.o.length) = true)) (h2 : (0 ≤ iN q.i)) (h3 : ((List.map (iv) q.o)[(iN q.i).toNat]? = some (iv q.x))) (h4 : (decide (q.x < 0) = false)) (h5 : (decide (iN (gL q.g).length ≤ q.x) = false)) (h6 : (0 ≤ q.x)) (h7 : ((boL q.s)[q.x.toNat]? = some (AV.bool q.sb))) (h8 : (q.sb = false)) (h9 : (decide (q.y < 0) = true)) : GoO Try.prog (hU [63, 72, 84, 96, 105] (eCl q) (cE q)) 0 (loopC (bodyOf Try.f11) 0) (loopK (bodyOf Try.f11) 0) (lo17c q) (Fin Try.prog Try.f11 0 [] (AV.bool false)) :=
  endF_spec (σ := []) (fz := []) (by kernel_rfl) (aj (al (aj (al t3) (aj h1 (aj (aj (k2 (aj h2 h3)) (u2 s2)) (aj (u2 (u2 (u2 (ag h4 (ag h4 (ag h4 (aj (aj h4 t3) (ag h4 (u2 (ag h5 (ag h5 (aj (aj h5 (k2 (aj h6 h7))) (ag h5 (ag h5 (u2 (ag h8 (ag h8 (ag h8 (u2 (aj h9 (aj h9 (aj h9 (aj h9 (al (aj h9 t2))))))))))))))))))))))))) (ak s2)))))) t2)
theorem cla_4 (q : QE) (h1 : (decide (iN q.i < iN q.o.length) = true)) (h2 : (0 ≤ iN q.i)) (h3 : ((List.map (iv) q.o)[(iN q.i).toNat]? = some (iv q.x))) (h4 : (decide (q.x < 0) = false)) (h5 : (decide (iN (gL q.g).length ≤ q.x) = false)) (h6 : (0 ≤ q.x)) (h7 : ((boL q.s)[q.x.toNat]? = some (AV.bool q.sb))) (h8 : (q.sb = false)) (h9 : (decide (q.y < 0) = false)) (h10 : (decide (iN (gL q.g).length ≤ q.y) = true)) : GoO Try.prog (hU [63, 72, 84, 96, 104, 115] (eCl q) (cE q)) 0 (loopC (bodyOf Try.f11) 0) (loopK (bodyOf Try.f11) 0) (lo17c q) (Fin Try.prog Try.f11 0 [] (AV.bool false)) :=
  endF_spec (σ := []) (fz := []) (by kernel_rfl) (aj (al (aj (al t3) (aj h1 (aj (aj (k2 (aj h2 h3)) (u2 s2)) (aj (u2 (u2 (u2 (ag h4 (ag h4 (ag h4 (aj (aj h4 t3) (ag h4 (u2 (ag h5 (ag h5 (aj (aj h5 (k2 (aj h6 h7))) (ag h5 (ag h5 (u2 (ag h8 (ag h8 (ag h8 (u2 (ag h9 (ag h9 (ag h9 (aj (aj h9 t3) (al (aj h9 t2))))))))))))))))))))))))) (aj h10 s2)))))) t2)
theorem cla_5 (q : QE) (h1 : (decide (iN q.i < iN q.o.length) = true)) (h2 : (0 ≤ iN q.i)) (h3 : ((List.map (iv) q.o)[(iN q.i).toNat]? = some (iv q.x))) (h4 : (decide (q.x < 0) = false)) (h5 : (decide (iN (gL q.g).length ≤ q.x) = false)) (h6 : (0 ≤ q.x)) (h7 : ((boL q.s)[q.x.toNat]? = some (AV.bool q.sb))) (h8 : (q.sb = false)) (h9 : (decide (q.y < 0) = false)) (h10 : (decide (iN (gL q.g).length ≤ q.y) = false)) (h11 : (0 ≤ q.y)) (h12 : ((gL q.g)[q.y.toNat]? = some (AV.lst (List.map (iv) q.r)))) {post : Exit → St → Prop} (ht : T Try.prog 0 (.loop (loopC (loopC (bodyOf Try.f11) 0) 0)) (St.mk 78 [(0, AV.lst (gL q.g)), (1, AV.lst (boL q.s)), (9, iv q.x), (10, AV.bool false), (28, AV.lst (List.map (iv) q.o)), (29, iv (iN q.o.length)), (30, iv (iN q.i)), (61, AV.lst (List.map (iv) q.r)), (62, iv (iN (List.map (iv) q.r).length)), (63, iv 0)] []) (TK Try.prog 0 post (loopK (loopC (bodyOf Try.f11) 0) 0))) : GoP Try.prog (hU [63, 72, 84, 96, 104, 114] (eCl q) (cE q)) 0 (loopC (bodyOf Try.f11) 0) (lo17c q) post :=
  endR_spec (σ := []) (fz := []) (vars := [0,1,9,10,28,29,30,61,62,63]) (by kernel_rfl) (aj (aj (al t3) (aj h1 (aj (aj (k2 (aj h2 h3)) (u2 s2)) (aj (u2 (u2 (u2 (ag h4 (ag h4 (ag h4 (aj (aj h4 t3) (ag h4 (u2 (ag h5 (ag h5 (aj (aj h5 (k2 (aj h6 h7))) (ag h5 (ag h5 (u2 (ag h8 (ag h8 (ag h8 (u2 (ag h9 (ag h9 (ag h9 (aj (aj h9 t3) (al (aj h9 t2))))))))))))))))))))))))) (aj h10 (u2 (al (u2 (u2 (aj (k2 (aj h11 h12)) (u2 (u2 t2)))))))))))) (k2 t9)) ht
theorem cix_0 (q : QE) (h1 : (decide (iN q.a < iN q.r.length) = false)) (h2 : ((!q.b) = true)) {post : Exit → St → Prop} (hP : Pass post (Fin Try.prog Try.f11 0 [] (AV.bool false))) : GoO Try.prog (hU [128, 151] (eCl q) (cE q)) 0 (loopC (loopC (bodyOf Try.f11) 0) 0) (loopK (loopC (bodyOf Try.f11) 0) 0) (li17 q) post :=
  endT_spec (σ := []) (fz := []) (by kernel_rfl) (aj (aj (aj (al t3) (al h1)) (aj (u2 s2) (aj h2 s2))) t2) hP
theorem cix_1 (q : QE) (h1 : (decide (iN q.a < iN q.r.length) = false)) (h2 : ((!q.b) = false)) {post : Exit → St → Prop} {R : St → Prop} (hR : ∀ st, Ren 0 st (St.mk 78 [(0, AV.lst (gL q.g)), (1, AV.lst (boL q.s)), (7, iv q.x), (28, AV.lst (List.map (iv) q.o)), (29, iv (iN q.o.length)), (30, iv (IntKind.i64.wrap (iN q.i + 1)))] []) → R st) : GoO Try.prog (hU [128, 150] (eCl q) (cE q)) 0 (loopC (loopC (bodyOf Try.f11) 0) 0) (loopK (loopC (bodyOf Try.f11) 0) 0) (li17 q) (andThen R post) :=
  endN_spec (σ := []) (fz := []) (vars := [0,1,7,28,29,30]) (by kernel_rfl) (aj (aj (aj (al t3) (al h1)) (aj (u2 s2) (aj h2 (aj (u2 s2) (al (u2 s2)))))) t7) hR
theorem cir_0 (q : QE) (h1 : (decide (iN q.a < iN q.r.length) = true)) (h2 : (0 ≤ iN q.a)) (h3 : ((List.map (iv) q.r)[(iN q.a).toNat]? = some (iv q.z))) (h4 : (q.b = true)) {post : Exit → St → Prop} {R : St → Prop} (hR : ∀ st, Ren 0 st (St.mk 78 [(0, AV.lst (gL q.g)), (1, AV.lst (boL q.s)), (9, iv q.x), (10, AV.bool true), (28, AV.lst (List.map (iv) q.o)), (29, iv (iN q.o.length)), (30, iv (iN q.i)), (61, AV.lst (List.map (iv) q.r)), (62, iv (iN q.r.length)), (63, iv (IntKind.i64.wrap (iN q.a + 1)))] []) → R st) : GoP Try.prog (hU [129, 137] (eCl q) (cE q)) 0 (loopC (loopC (bodyOf Try.f11) 0) 0) (li17 q) (andThen R post) :=
  endN_spec (σ := []) (fz := []) (vars := [0,1,9,10,28,29,30,61,62,63]) (by kernel_rfl) (aj (aj (al t3) (aj h1 (aj (aj (k2 (aj h2 h3)) (u2 s2)) (aj (u2 (u2 (aj h4 (aj h4 (aj h4 (ag h4 s2)))))) (al (u2 s2)))))) (k2 t9)) hR
theorem cir_1 (q : QE) (h1 : (decide (iN q.a < iN q.r.length) = true)) (h2 : (0 ≤ iN q.a)) (h3 : ((List.map (iv) q.r)[(iN q.a).toNat]? = some (iv q.z))) (h4 : (q.b = false)) {post : Exit → St → Prop} {R : St → Prop} (hR : ∀ st, Ren 0 st (St.mk 78 [(0, AV.lst (gL q.g)), (1, AV.lst (boL q.s)), (9, iv q.x), (10, AV.bool (q.z == q.x)), (28, AV.lst (List.map (iv) q.o)), (29, iv (iN q.o.length)), (30, iv (iN q.i)), (61, AV.lst (List.map (iv) q.r)), (62, iv (iN q.r.length)), (63, iv (IntKind.i64.wrap (iN q.a + 1)))] []) → R st) : GoP Try.prog (hU [129, 136] (eCl q) (cE q)) 0 (loopC (loopC (bodyOf Try.f11) 0) 0) (li17 q) (andThen R post) :=
  endN_spec (σ := []) (fz := []) (vars := [0,1,9,10,28,29,30,61,62,63]) (by kernel_rfl) (aj (aj (al t3) (aj h1 (aj (aj (k2 (aj h2 h3)) (u2 s2)) (aj (u2 (u2 (ag h4 (ag h4 (aj (aj h4 t3) (ag h4 s2)))))) (al (u2 s2)))))) (k2 t9)) hR
def badL (r : List Int) (n v i : Nat) : Bool := decide (r.getD i 0 ≤ lastZ r i) || (decide ((n : Int) ≤ r.getD i 0) || r.getD i 0 == (v : Int))
theorem badL_badE {r : List Int} {n v : Nat} : (fnd (badL r n v) 0 r.length).isSome = (fnd (badE r n v) 0 r.length).isSome := by
  have up : ∀ i, badL r n v i = true → badE r n v i = true := by
    intro i h
    unfold badL lastZ at h
    unfold badE
    simp only [Bool.or_eq_true, Bool.and_eq_true, decide_eq_true_eq, beq_iff_eq] at h ⊢
    rcases h with h | h | h
    · split at h
      · exact .inl (by omega)
      · exact .inr (.inr (.inr ⟨by omega, h⟩))
    · exact .inr (.inl h)
    · exact .inr (.inr (.inl h))
  have dn : ∀ i, badE r n v i = true → ∃ j, j ≤ i ∧ badL r n v j = true := by
    intro i
    induction i with
    | zero =>
      intro h
      refine ⟨0, Nat.le_refl _, ?_⟩
      unfold badE at h
      unfold badL lastZ
      simp only [Bool.or_eq_true, Bool.and_eq_true, decide_eq_true_eq, beq_iff_eq] at h ⊢
      rcases h with h | h | h | ⟨h, _⟩
      · exact .inl (show r.getD 0 0 ≤ (-1 : Int) by omega)
      · exact .inr (.inl h)
      · exact .inr (.inr h)
      · omega
    | succ i ih =>
      intro h
      by_cases hl : badL r n v (i + 1) = true
      · exact ⟨i + 1, Nat.le_refl _, hl⟩
      · have hneg : badE r n v i = true := by
          unfold badL lastZ at hl
          unfold badE at h ⊢
          simp only [Bool.or_eq_true, Bool.and_eq_true, decide_eq_true_eq, beq_iff_eq, not_or] at h hl ⊢
          rw [if_neg (by omega)] at hl
          rcases h with h | h | h | ⟨_, h⟩
          · simp only [Nat.add_sub_cancel] at hl
            exact .inl (by omega)
          · exact absurd h hl.2.1
          · exact absurd h hl.2.2
          · exact absurd h hl.1
        obtain ⟨j, hj, h2⟩ := ih hneg
        exact ⟨j, by omega, h2⟩
  cases h1 : fnd (badL r n v) 0 r.length with
  | none =>
    cases h2 : fnd (badE r n v) 0 r.length with
    | none => rfl
    | some i =>
      obtain ⟨a, _, b⟩ := fnd_some h2
      obtain ⟨j, hj, hb⟩ := dn i a
      have := fnd_none h1 j (Nat.zero_le _) (by omega)
      rw [hb] at this; cases this
  | some i =>
    cases h2 : fnd (badE r n v) 0 r.length with
    | some _ => rfl
    | none =>
      obtain ⟨a, _, b⟩ := fnd_some h1
      have := fnd_none h2 i (Nat.zero_le _) (by omega)
      rw [up i a] at this; cases this
noncomputable def qe (g : List (List Int)) (s : List Bool) (e : Int) (a i : Nat) (r : List Int) (x y : Int) : QE := ⟨g, s, 0, [], [], [], r, e, i, a, 0, x, y, 0, 0, false, false⟩
theorem hc_run {g : List (List Int)} {s : List Bool} (hrw : Rows g) (hn : g.length ≤ 24) (a : Nat) (ha : a < g.length) {R : St → Prop} {post : Exit → St → Prop}
    (hy : badR g a = true → Pass post (Fin Try.prog Try.f15 0 [] (.int .i64 20)))
    (hR : badR g a = false → ∀ st, Ren 0 st (la23 (qe g s 0 (a + 1) 0 [] 0 0)) → R st) :
    T Try.prog 0 (.loop (loopC (loopC (bodyOf Try.f15) 0) 0)) (lb23 (qe g s 0 a 0 (g.getD a []) (-1) 0)) (TK Try.prog 0 (andThen R post) (loopK (loopC (bodyOf Try.f15) 0) 0)) := by
  have hr1 := hrw a ha
  have hl := gL_len g
  unfold badR at hy hR
  rw [← badL_badE] at hy hR
  generalize g.getD a [] = r at hr1 hy hR
  generalize hrr : fnd (badL r g.length a) 0 r.length = res at hy hR
  refine T.loop (fun i : Nat => lb23 (qe g s 0 a i r (lastZ r i) 0)) (fun i => i ≤ r.length ∧ fnd (badL r g.length a) i (r.length - i) = res) (fun i => r.length + 1 - i) 0 ⟨Nat.zero_le _, hrr⟩ ?_
  rintro i ⟨hi, hf⟩
  by_cases h : i < r.length
  · rw [fnd_step h] at hf
    have hg1 := lI_get h
    have dk : decide (iN i < iN r.length) = true := decide_eq_true (by simp only [iN]; omega)
    have found : badL r g.length a i = true → Pass (andThen R post) (Fin Try.prog Try.f15 0 [] (.int .i64 20)) := by
      intro hb
      simp only [hb] at hf
      subst hf
      exact hy rfl
    have wi : IntKind.i64.wrap (iN i + 1) = ((i + 1 : Nat) : Int) := wrap_nat i (by omega)
    by_cases b1 : r.getD i 0 ≤ lastZ r i
    · exact T.out mix (hcbr_0 (qe g s 0 a i r (lastZ r i) (r.getD i 0)) dk (by simp [iN]) hg1 (decide_eq_true b1) (found (by unfold badL; rw [decide_eq_true b1]; simp)))
    · by_cases b2 : (g.length : Int) ≤ r.getD i 0
      · exact T.out mix (hcbr_1 (qe g s 0 a i r (lastZ r i) (r.getD i 0)) dk (by simp [iN]) hg1 (decide_eq_false b1) (decide_eq_true (by simp only [iN, qe, hl]; exact b2)) (found (by unfold badL; rw [decide_eq_true b2]; simp)))
      · by_cases b3 : (r.getD i 0 == (a : Int)) = true
        · exact T.out mix (hcbr_2 (qe g s 0 a i r (lastZ r i) (r.getD i 0)) dk (by simp [iN]) hg1 (decide_eq_false b1) (decide_eq_false (by simp only [iN, qe, hl]; exact b2)) b3 (found (by unfold badL; rw [b3]; simp)))
        · have b3' := Bool.eq_false_iff.2 b3
          have hb : badL r g.length a i = false := by unfold badL; rw [decide_eq_false b1, decide_eq_false b2, b3']; rfl
          simp only [hb] at hf
          refine T.path mix (hcbr_3 (qe g s 0 a i r (lastZ r i) (r.getD i 0)) dk (by simp [iN]) hg1 (decide_eq_false b1) (decide_eq_false (by simp only [iN, qe, hl]; exact b2)) b3' ?_)
          intro st hst
          simp only [qe, wi] at hst
          refine ⟨i + 1, ?_, ⟨h, hf⟩, by omega⟩
          rw [lastZ_succ]
          exact hst
  · rw [fnd_end h] at hf
    subst hf
    refine T.out mix (hcbx_0 (qe g s 0 a i r (lastZ r i) 0) (decide_eq_false (by simp only [iN, qe]; omega)) ?_)
    intro st hst
    simp only [iN, qe, wrap_nat a (show a < 9223372036854775807 by omega)] at hst
    exact hR rfl st hst
theorem gcheckG_ct {g : List (List Int)} {s : List Bool} (hrw : Rows g) : CT Try.prog 15 [] [.lst (gL g), .lst (boL s)] [] (.int .i64 (chk4 g s)) := by
  have hl := gL_len g
  have hbl := boL_len s
  have hbd : Try.f15.body = some (bodyOf Try.f15) := by kernel_rfl
  unfold chk4
  by_cases h24 : 24 < g.length
  · rw [if_pos h24]
    exact CT.path mix Try.func15 hbd (Nat.le_of_ble_eq_true rfl) (hc_0 (qe g s 0 0 0 [] 0 0) (decide_eq_true (by simp only [iN, qe, hl]; omega)))
  rw [if_neg h24]
  refine CT.path mix Try.func15 hbd (Nat.le_of_ble_eq_true rfl) (hc_1 (qe g s 0 0 0 [] 0 0) (decide_eq_false (by simp only [iN, qe, hl]; omega)) ?_)
  simp only [qe, hl]
  unfold badG
  generalize hrr : fnd (badR g) 0 g.length = res
  refine T.loop (fun a : Nat => la23 (qe g s 0 a 0 [] 0 0)) (fun a => a ≤ g.length ∧ fnd (badR g) a (g.length - a) = res) (fun a => g.length + 1 - a) 0 ⟨Nat.zero_le _, hrr⟩ ?_
  rintro a ⟨ha, hf⟩
  by_cases h : a < g.length
  · rw [fnd_step h] at hf
    refine T.path mix (hca_0 (qe g s 0 a 0 (g.getD a []) 0 0) (decide_eq_true (by simp only [iN, qe]; omega)) (by simp [iN]) (gL_get h) ?_)
    simp only [qe, lI_len]
    refine hc_run hrw (by omega) a h (fun hb => ?_) (fun hb st hst => ?_)
    · simp only [hb] at hf
      subst hf
      exact fun st hst => TK.ret hst _
    · simp only [hb] at hf
      exact ⟨a + 1, hst, ⟨h, hf⟩, by omega⟩
  · rw [fnd_end h] at hf
    subst hf
    have da : decide (iN a < iN g.length) = false := decide_eq_false (by simp only [iN]; omega)
    simp only [Option.isSome_none, Bool.false_eq_true, if_false]
    by_cases c1 : s.length = g.length
    · rw [if_neg (by simp [c1])]
      exact T.out mix (hcx_1 (qe g s 0 a 0 [] 0 0) da (by simp [iN, qe, hl, hbl, c1]))
    · rw [if_pos c1]
      exact T.out mix (hcx_0 (qe g s 0 a 0 [] 0 0) da (by simp only [iN, qe, hl, hbl, bne_iff_ne, ne_eq]; omega))
theorem chk4_ok {g : List (List Int)} {s : List Bool} (hrw : Rows g) (h : chk4 g s = 0) : OkG g s ∧ Asc g := by
  unfold chk4 at h
  by_cases h1 : 24 < g.length
  · rw [if_pos h1] at h; cases h
  rw [if_neg h1] at h
  by_cases h2 : badG g = true
  · rw [if_pos h2] at h; cases h
  rw [if_neg h2] at h
  by_cases h3 : s.length = g.length
  · have hb : ∀ a, a < g.length → ∀ i, i < (g.getD a []).length → badE (g.getD a []) g.length a i = false := by
      intro a ha i hi
      have e1 : fnd (badR g) 0 g.length = none := by unfold badG at h2; simpa using h2
      have e2 := fnd_none e1 a (Nat.zero_le _) (by omega)
      unfold badR at e2
      have e3 : fnd (badE (g.getD a []) g.length a) 0 (g.getD a []).length = none := by simpa using e2
      exact fnd_none e3 i (Nat.zero_le _) (by omega)
    refine ⟨⟨by omega, fun a ha => ⟨hrw a ha, fun x hx => ?_⟩, h3⟩, fun a ha i h0 hi => ?_⟩
    · obtain ⟨i, hi, rfl⟩ := mem_row hx
      have hbad := hb a ha i hi
      unfold badE at hbad
      simp only [Bool.or_eq_false_iff, decide_eq_false_iff_not, beq_eq_false_iff_ne, ne_eq] at hbad
      exact ⟨by omega, by omega, hbad.2.2.1⟩
    · have hbad := hb a ha i hi
      unfold badE at hbad
      rw [decide_eq_true h0, Bool.true_and] at hbad
      simp only [Bool.or_eq_false_iff, decide_eq_false_iff_not] at hbad
      omega
  · rw [if_pos h3] at h; cases h
def thT (e : Int) (l : List Int) : AV := .tup [.int .i64 (iN l.length), lI l, .int .i64 e]
def girF (o p : List Int) : List Int := if 0 < p.length ∧ (o = [] ∨ p.length < o.length) then p else o
noncomputable def girN (g : List (List Int)) (s : List Bool) : Nat → List Int
  | 0 => []
  | v + 1 => girF (girN g s v) (thZ g s v)
noncomputable def girL (g : List (List Int)) (s : List Bool) : List Int := if chk4 g s = 0 then girN g s g.length else []
noncomputable def qgi (g : List (List Int)) (s : List Bool) (p o : List Int) (i : Nat) : QE := ⟨g, s, 0, p, o, [], [], 0, i, 0, 0, 0, 0, 0, 0, false, false⟩
noncomputable def st12S (g : List (List Int)) (s : List Bool) (o : List Int) (i : Nat) : St := match o with
  | [] => la12 (qgi g s [] [] i)
  | _ => lb12 (qgi g s [] o i)
theorem st12S_ne {g : List (List Int)} {s : List Bool} {o : List Int} (h : o ≠ []) (i : Nat) : st12S g s o i = lb12 (qgi g s [] o i) := by
  cases o with
  | nil => exact absurd rfl h
  | cons _ _ => rfl
theorem GirthG_ct {g : List (List Int)} {s : List Bool} (hrw : Rows g) : CT Try.prog 7 [] [.lst (gL g), .lst (boL s)] [] (thT (chk4 g s) (girL g s)) := by
  have hl := gL_len g
  have c := gcheckG_ct (s := s) hrw
  have hb : Try.f7.body = some (bodyOf Try.f7) := by kernel_rfl
  have hn : [AV.lst (gL g), .lst (boL s)].length ≤ Try.f7.ntmps := Nat.le_of_ble_eq_true rfl
  unfold girL
  by_cases h : chk4 g s = 0
  · rw [if_pos h]
    rw [h] at c ⊢
    obtain ⟨hg, ha⟩ := chk4_ok hrw h
    have hgl := hg.len
    have run : ∀ res, (girN g s g.length = [] → res = .tup [.int .i64 0, .nils, .int .i64 0]) → (girN g s g.length ≠ [] → res = thT 0 (girN g s g.length)) →
        T Try.prog 0 (.loop (loopC (bodyOf Try.f7) 0)) (la12 (qgi g s [] [] 0)) (TK Try.prog 0 (Fin Try.prog Try.f7 0 [] res) (loopK (bodyOf Try.f7) 0)) := by
      intro res hnil hsome
      refine T.loop (fun i : Nat => st12S g s (girN g s i) i) (fun i => i ≤ g.length) (fun i => g.length + 1 - i) 0 (Nat.zero_le _) ?_
      intro i hi
      by_cases hil : i < g.length
      · have ct := through_ct hg ha i hil
        have hs1 : girN g s (i + 1) = girF (girN g s i) (thZ g s i) := rfl
        have next : ∀ st, Ren 0 st (st12S g s (girN g s (i + 1)) (i + 1)) → ∃ j, Ren 0 st (st12S g s (girN g s j) j) ∧ j ≤ g.length ∧ g.length + 1 - j < g.length + 1 - i := fun st hst => ⟨i + 1, hst, hil, by omega⟩
        rw [hs1] at next
        generalize thZ g s i = p at ct next
        generalize girN g s i = o at next
        have hpl := lI_len p
        have hol := lI_len o
        have dk : decide (iN i < iN g.length) = true := decide_eq_true (by simp only [iN]; omega)
        have wi : IntKind.i64.wrap (iN i + 1) = ((i + 1 : Nat) : Int) := wrap_nat i (by omega)
        unfold girF at next
        by_cases hp : 0 < p.length
        · have hpne : p ≠ [] := by intro e; rw [e] at hp; simp at hp
          cases o with
          | nil =>
            rw [if_pos ⟨hp, .inl rfl⟩, st12S_ne hpne] at next
            refine T.path mix (gar_0 (qgi g s p [] i) dk ct (decide_eq_true (by simp only [iN, qgi, hpl]; omega)) ?_)
            intro st hst
            simp only [wi, qgi] at hst
            exact next st hst
          | cons o0 o1 =>
            by_cases hlt : p.length < (o0 :: o1).length
            · rw [if_pos ⟨hp, .inr hlt⟩, st12S_ne hpne] at next
              refine T.path mix (gbr_0 (qgi g s p (o0 :: o1) i) dk ct (decide_eq_true (by simp only [iN, qgi, hpl]; omega)) (by simp [qgi]) (decide_eq_true (by simp only [iN, qgi, hpl, hol]; omega)) ?_)
              intro st hst
              simp only [wi, qgi] at hst
              exact next st hst
            · rw [if_neg (fun h => h.2.elim (fun e => by cases e) hlt)] at next
              refine T.path mix (gbr_1 (qgi g s p (o0 :: o1) i) dk ct (decide_eq_true (by simp only [iN, qgi, hpl]; omega)) (by simp [qgi]) (decide_eq_false (by simp only [iN, qgi, hpl, hol]; omega)) ?_)
              intro st hst
              simp only [wi, qgi] at hst
              exact next st hst
        · rw [if_neg (fun h => hp h.1)] at next
          cases o with
          | nil =>
            refine T.path mix (gar_1 (qgi g s p [] i) dk ct (decide_eq_false (by simp only [iN, qgi, hpl]; omega)) ?_)
            intro st hst
            simp only [wi, qgi] at hst
            exact next st hst
          | cons o0 o1 =>
            refine T.path mix (gbr_2 (qgi g s p (o0 :: o1) i) dk ct (decide_eq_false (by simp only [iN, qgi, hpl]; omega)) ?_)
            intro st hst
            simp only [wi, qgi] at hst
            exact next st hst
      · obtain rfl : i = g.length := by omega
        have dn : decide (iN g.length < iN g.length) = false := decide_eq_false (by omega)
        generalize girN g s g.length = o at hnil hsome
        cases o with
        | nil =>
          rw [hnil rfl]
          exact T.out mix (gax_0 (qgi g s [] [] g.length) dn)
        | cons o0 o1 =>
          rw [hsome (by simp)]
          have k := gbx_0 (qgi g s [] (o0 :: o1) g.length) dn
          simp only [lI_len, qgi] at k
          exact T.out mix k
    by_cases hz : girN g s g.length = []
    · refine CT.pathW mix Try.func7 hb hn (res := .tup [.int .i64 0, .nils, .int .i64 0]) (gi_1 ⟨g, s, 0, [], [], [], [], 0, 0, 0, 0, 0, 0, 0, 0, false, false⟩ c rfl ?_) (by rw [hz]; rfl)
      simp only [hl]
      exact run _ (fun _ => rfl) (fun h => absurd hz h)
    · refine CT.path mix Try.func7 hb hn (gi_1 ⟨g, s, 0, [], [], [], [], 0, 0, 0, 0, 0, 0, 0, 0, false, false⟩ c rfl ?_)
      simp only [hl]
      exact run _ (fun h => absurd h hz) (fun _ => rfl)
  · rw [if_neg h]
    exact CT.pathW mix Try.func7 hb hn (gi_0 ⟨g, s, 0, [], [], [], [], chk4 g s, 0, 0, 0, 0, 0, 0, 0, false, false⟩ c (by simpa using h)) rfl
def ClsP (g : List (List Int)) (s : List Bool) (o : List Int) : Prop := o ≠ [] ∧ (∀ x ∈ o, 0 ≤ x ∧ x < (g.length : Int) ∧ s.getD x.toNat false = false) ∧ ∀ i, i < o.length → o.getD ((i + 1) % o.length) 0 ∈ g.getD (o.getD i 0).toNat []
open Classical in
noncomputable def clsB (g : List (List Int)) (s : List Bool) (o : List Int) : Bool := decide (chk4 g s = 0 ∧ ClsP g s o)
theorem clsB_iff {g : List (List Int)} {s : List Bool} {o : List Int} : clsB g s o = true ↔ chk4 g s = 0 ∧ ClsP g s o := by simp [clsB]
def anyN (r : List Int) (x : Int) : Nat → Bool
  | 0 => false
  | a + 1 => anyN r x a || (r.getD a 0 == x)
theorem anyN_iff {r : List Int} {x : Int} : ∀ n, anyN r x n = true ↔ ∃ j, j < n ∧ r.getD j 0 = x := by
  intro n
  induction n with
  | zero => simp [anyN]
  | succ n ih =>
    rw [anyN, Bool.or_eq_true, ih, beq_iff_eq]
    constructor
    · rintro (⟨j, hj, e⟩ | e)
      · exact ⟨j, by omega, e⟩
      · exact ⟨n, by omega, e⟩
    · rintro ⟨j, hj, e⟩
      by_cases ej : j = n
      · exact .inr (by rw [← ej]; exact e)
      · exact .inl ⟨j, by omega, e⟩
theorem get_mem {o : List Int} {i : Nat} (h : i < o.length) : o.getD i 0 ∈ o := by
  rw [List.getD_eq_getElem?_getD, List.getElem?_eq_getElem h]
  exact List.getElem_mem h
theorem mem_get {o : List Int} {x : Int} (h : x ∈ o) : ∃ i, i < o.length ∧ o.getD i 0 = x := by
  obtain ⟨i, hi, e⟩ := List.mem_iff_getElem.1 h
  exact ⟨i, hi, by rw [List.getD_eq_getElem?_getD, List.getElem?_eq_getElem hi]; exact e⟩
def prevW (o : List Int) (i : Nat) : Int := if i = 0 then o.getD (o.length - 1) 0 else o.getD (i - 1) 0
noncomputable def qcl (g : List (List Int)) (s : List Bool) (o r : List Int) (i a : Nat) (x y : Int) (b : Bool) : QE := ⟨g, s, 0, [], o, [], r, 0, i, a, 0, x, y, 0, 0, b, false⟩
theorem ci_run {g : List (List Int)} {s : List Bool} (o r : List Int) (i : Nat) (hi : i < o.length) (hol : o.length ≤ 9223372036854775807) (hr : r.length ≤ 9223372036854775807) (x : Int) {R : St → Prop} {post : Exit → St → Prop}
    (hy : x ∉ r → Pass post (Fin Try.prog Try.f11 0 [] (.bool false)))
    (hR : x ∈ r → ∀ st, Ren 0 st (lo17c (qcl g s o [] (i + 1) 0 0 x false)) → R st) :
    T Try.prog 0 (.loop (loopC (loopC (bodyOf Try.f11) 0) 0)) (li17 (qcl g s o r i 0 x 0 false)) (TK Try.prog 0 (andThen R post) (loopK (loopC (bodyOf Try.f11) 0) 0)) := by
  refine T.loop (fun a : Nat => li17 (qcl g s o r i a x 0 (anyN r x a))) (fun a => a ≤ r.length) (fun a => r.length + 1 - a) 0 (Nat.zero_le _) ?_
  intro a hal
  by_cases h : a < r.length
  · have hg1 := lI_get h
    have dk : decide (iN a < iN r.length) = true := decide_eq_true (by simp only [iN]; omega)
    have wa : IntKind.i64.wrap (iN a + 1) = ((a + 1 : Nat) : Int) := wrap_nat a (by omega)
    cases hb : anyN r x a with
    | true =>
      refine T.path mix (cir_0 ⟨g, s, 0, [], o, [], r, 0, i, a, 0, x, 0, r.getD a 0, 0, true, false⟩ dk (by simp [iN]) hg1 rfl ?_)
      intro st hst
      simp only [wa] at hst
      refine ⟨a + 1, ?_, h, by omega⟩
      rw [anyN, hb, Bool.true_or]
      exact hst
    | false =>
      refine T.path mix (cir_1 ⟨g, s, 0, [], o, [], r, 0, i, a, 0, x, 0, r.getD a 0, 0, false, false⟩ dk (by simp [iN]) hg1 rfl ?_)
      intro st hst
      simp only [wa] at hst
      refine ⟨a + 1, ?_, h, by omega⟩
      rw [anyN, hb, Bool.false_or]
      exact hst
  · obtain rfl : a = r.length := by omega
    have dn : decide (iN r.length < iN r.length) = false := decide_eq_false (by omega)
    have hm : anyN r x r.length = true ↔ x ∈ r := by
      rw [anyN_iff]
      exact ⟨fun ⟨j, hj, e⟩ => by rw [← e]; exact get_mem hj, mem_get⟩
    cases hb : anyN r x r.length with
    | true =>
      refine T.out mix (cix_1 (qcl g s o r i r.length x 0 true) dn rfl ?_)
      intro st hst
      simp only [qcl, wrap_nat i (show i < 9223372036854775807 by omega)] at hst
      exact hR (hm.1 hb) st hst
    | false =>
      exact T.out mix (cix_0 (qcl g s o r i r.length x 0 false) dn rfl (hy fun h => by rw [hm.2 h] at hb; cases hb))
theorem ClsP.prev {g : List (List Int)} {s : List Bool} {o : List Int} (h : ClsP g s o) {i : Nat} (hi : i < o.length) : prevW o i ∈ o ∧ o.getD i 0 ∈ g.getD (prevW o i).toNat [] := by
  unfold prevW
  split
  · rename_i e
    subst e
    refine ⟨get_mem (by omega), ?_⟩
    have := h.2.2 (o.length - 1) (by omega)
    rwa [show o.length - 1 + 1 = o.length by omega, Nat.mod_self] at this
  · rename_i e
    refine ⟨get_mem (by omega), ?_⟩
    have := h.2.2 (i - 1) (by omega)
    rwa [show i - 1 + 1 = i by omega, Nat.mod_eq_of_lt hi] at this
theorem ClsP.of {g : List (List Int)} {s : List Bool} {o : List Int} (h0 : o ≠ []) (h : ∀ i, i < o.length → (0 ≤ o.getD i 0 ∧ o.getD i 0 < (g.length : Int) ∧ s.getD (o.getD i 0).toNat false = false) ∧ o.getD i 0 ∈ g.getD (prevW o i).toNat []) : ClsP g s o := by
  refine ⟨h0, fun x hx => ?_, fun i hi => ?_⟩
  · obtain ⟨i, hi, rfl⟩ := mem_get hx
    exact (h i hi).1
  · by_cases e : i + 1 = o.length
    · rw [e, Nat.mod_self]
      have := (h 0 (by omega)).2
      unfold prevW at this
      rw [if_pos rfl] at this
      rwa [show i = o.length - 1 by omega]
    · rw [Nat.mod_eq_of_lt (by omega)]
      have := (h (i + 1) (by omega)).2
      unfold prevW at this
      rwa [if_neg (by omega), Nat.add_sub_cancel] at this
theorem closed_ct {g : List (List Int)} {s : List Bool} (hrw : Rows g) (o : List Int) (hol : o.length ≤ 9223372036854775807) : CT Try.prog 11 [] [.lst (gL g), .lst (boL s), lI o] [] (.bool (clsB g s o)) := by
  have hl := gL_len g
  have c := gcheckG_ct (s := s) hrw
  have hlo := lI_len o
  have hb : Try.f11.body = some (bodyOf Try.f11) := by kernel_rfl
  have hn : [AV.lst (gL g), .lst (boL s), lI o].length ≤ Try.f11.ntmps := Nat.le_of_ble_eq_true rfl
  have hcb := clsB_iff (g := g) (s := s) (o := o)
  generalize clsB g s o = b at hcb
  have hf : ¬ (chk4 g s = 0 ∧ ClsP g s o) → b = false := fun h => Bool.eq_false_iff.2 fun e => h (hcb.1 e)
  by_cases h : chk4 g s = 0
  · rw [h] at c
    obtain ⟨hg, ha⟩ := chk4_ok hrw h
    by_cases h0 : o = []
    · rw [hf fun h => h.2.1 h0]
      exact CT.path mix Try.func11 hb hn (cl_1 ⟨g, s, 0, [], o, [], [], 0, 0, 0, 0, 0, 0, 0, 0, false, false⟩ c rfl (by simp [iN, h0]))
    · have hop : 0 < o.length := List.length_pos_iff.2 h0
      have hw1 : IntKind.i64.wrap (iN (o.map (AV.int .i64)).length - 1) = ((o.length - 1 : Nat) : Int) := by
        rw [hlo]; exact wrapM1 o.length hop (by omega)
      refine CT.path mix Try.func11 hb hn (cl_2 ⟨g, s, 0, [], o, [], [], 0, 0, 0, 0, 0, o.getD (o.length - 1) 0, 0, 0, false, false⟩ c rfl (by simp only [iN, hlo, beq_eq_false_iff_ne, ne_eq]; omega) (by simp only [hw1]; omega) (by simp only [hw1, Int.toNat_natCast]; exact lI_get (by omega)) ?_)
      simp only [hlo]
      refine T.loop (fun i : Nat => lo17c (qcl g s o [] i 0 0 (prevW o i) false)) (fun i => i ≤ o.length ∧ ∀ j, j < i → (0 ≤ o.getD j 0 ∧ o.getD j 0 < (g.length : Int) ∧ s.getD (o.getD j 0).toNat false = false) ∧ o.getD j 0 ∈ g.getD (prevW o j).toNat []) (fun i => o.length + 1 - i) 0 ⟨Nat.zero_le _, fun j hj => by omega⟩ ?_
      rintro i ⟨hi, hok⟩
      by_cases hil : i < o.length
      · have hg1 := lI_get hil
        have dk : decide (iN i < iN o.length) = true := decide_eq_true (by simp only [iN]; omega)
        by_cases b1 : o.getD i 0 < 0
        · rw [hf fun hc => by have := hc.2.2.1 _ (get_mem hil); omega]
          exact T.out mix (cla_0 ⟨g, s, 0, [], o, [], [], 0, i, 0, 0, o.getD i 0, prevW o i, 0, 0, false, false⟩ dk (by simp [iN]) hg1 (decide_eq_true b1))
        · by_cases b2 : (g.length : Int) ≤ o.getD i 0
          · rw [hf fun hc => by have := hc.2.2.1 _ (get_mem hil); omega]
            exact T.out mix (cla_1 ⟨g, s, 0, [], o, [], [], 0, i, 0, 0, o.getD i 0, prevW o i, 0, 0, false, false⟩ dk (by simp [iN]) hg1 (decide_eq_false b1) (decide_eq_true (by simp only [iN, hl]; exact b2)))
          · have hsv := boL_get (s := s) (v := (o.getD i 0).toNat) (by rw [hg.sh]; omega)
            by_cases b3 : s.getD (o.getD i 0).toNat false = true
            · rw [hf fun hc => by have := (hc.2.2.1 _ (get_mem hil)).2.2; rw [b3] at this; cases this]
              exact T.out mix (cla_2 ⟨g, s, 0, [], o, [], [], 0, i, 0, 0, o.getD i 0, prevW o i, 0, 0, false, s.getD (o.getD i 0).toNat false⟩ dk (by simp [iN]) hg1 (decide_eq_false b1) (decide_eq_false (by simp only [iN, hl]; exact b2)) (by simp only; omega) hsv b3)
            · have b3 := Bool.eq_false_iff.2 b3
              by_cases b4 : prevW o i < 0
              · rw [hf fun hc => by have := hc.2.2.1 _ (hc.2.prev hil).1; omega]
                exact T.out mix (cla_3 ⟨g, s, 0, [], o, [], [], 0, i, 0, 0, o.getD i 0, prevW o i, 0, 0, false, s.getD (o.getD i 0).toNat false⟩ dk (by simp [iN]) hg1 (decide_eq_false b1) (decide_eq_false (by simp only [iN, hl]; exact b2)) (by simp only; omega) hsv b3 (decide_eq_true b4))
              · by_cases b5 : (g.length : Int) ≤ prevW o i
                · rw [hf fun hc => by have := hc.2.2.1 _ (hc.2.prev hil).1; omega]
                  exact T.out mix (cla_4 ⟨g, s, 0, [], o, [], [], 0, i, 0, 0, o.getD i 0, prevW o i, 0, 0, false, s.getD (o.getD i 0).toNat false⟩ dk (by simp [iN]) hg1 (decide_eq_false b1) (decide_eq_false (by simp only [iN, hl]; exact b2)) (by simp only; omega) hsv b3 (decide_eq_false b4) (decide_eq_true (by simp only [iN, hl]; exact b5)))
                · have hrow := gL_get (g := g) (v := (prevW o i).toNat) (by omega)
                  have hr1 := (hg.row (prevW o i).toNat (by omega)).1
                  refine T.path mix (cla_5 ⟨g, s, 0, [], o, [], g.getD (prevW o i).toNat [], 0, i, 0, 0, o.getD i 0, prevW o i, 0, 0, false, s.getD (o.getD i 0).toNat false⟩ dk (by simp [iN]) hg1 (decide_eq_false b1) (decide_eq_false (by simp only [iN, hl]; exact b2)) (by simp only; omega) hsv b3 (decide_eq_false b4) (decide_eq_false (by simp only [iN, hl]; exact b5)) (by simp only; omega) hrow ?_)
                  simp only [lI_len]
                  refine ci_run o _ i hil hol hr1 (o.getD i 0) (fun hm => ?_) (fun hm st hst => ?_)
                  · rw [hf fun hc => hm (hc.2.prev hil).2]
                    exact fun st hst => TK.ret hst _
                  · refine ⟨i + 1, ?_, ⟨hil, fun j hj => ?_⟩, by omega⟩
                    · have e : prevW o (i + 1) = o.getD i 0 := by unfold prevW; rw [if_neg (by omega), Nat.add_sub_cancel]
                      rw [e]
                      exact hst
                    · by_cases ej : j = i
                      · rw [ej]; exact ⟨⟨by omega, by omega, b3⟩, hm⟩
                      · exact hok j (by omega)
      · obtain rfl : i = o.length := by omega
        rw [hcb.2 ⟨h, ClsP.of h0 hok⟩]
        exact T.out mix (clx_0 (qcl g s o [] o.length 0 0 (prevW o o.length) false) (decide_eq_false (by simp only [iN, qcl]; omega)))
  · rw [hf fun hc => h hc.1]
    exact CT.path mix Try.func11 hb hn (cl_0 ⟨g, s, 0, [], o, [], [], chk4 g s, 0, 0, 0, 0, 0, 0, 0, false, false⟩ c (by simpa using h))
def gI (l : List Int) (x : Int) : Int := l.getD x.toNat 0
theorem gI_set {l : List Int} {v t x : Int} (h0 : 0 ≤ v) (h1 : v < (l.length : Int)) (hx : 0 ≤ x) : gI (l.set v.toNat t) x = if x = v then t else gI l x := by
  unfold gI
  rw [List.getD_eq_getElem?_getD, List.getElem?_set]
  by_cases e : x = v
  · subst e; rw [if_pos rfl, if_pos (by omega), if_pos rfl]; rfl
  · rw [if_neg (by omega), if_neg e, List.getD_eq_getElem?_getD]
theorem gI_el {l : List Int} {v : Int} (h0 : 0 ≤ v) (h1 : v < (l.length : Int)) : l[v.toNat]? = some (gI l v) := getE 0 (by omega)
def shB (sh : List Bool) (y : Int) : Bool := sh.getD y.toNat false
def rowI (g : List (List Int)) (y : Int) : List Int := g.getD y.toNat []
structure TaS where
  se : List Int
  lo : List Int
  ati : List Int
  hd : List Int
  c : Int
  nm : List Int
  pa : List Int
def Topo (g : List (List Int)) (sh : List Bool) : List Int → Prop
  | [] => True
  | x :: r => x ∉ r ∧ (∀ w ∈ rowI g x, shB sh w = false → w ∈ r) ∧ Topo g sh r
def Gd (g : List (List Int)) (sh : List Bool) (x : TaS) : Prop := x.hd = x.pa ∧ (∀ y ∈ x.pa, gI x.lo y = gI x.se y) ∧ ∃ fin : List Int, Topo g sh fin ∧ (∀ y, 0 ≤ y → y < (g.length : Int) → (y ∈ fin ↔ 0 ≤ gI x.nm y)) ∧ (∀ y ∈ fin, 0 ≤ y ∧ gI x.nm y = y) ∧
  ∀ y ∈ x.pa, ∀ j : Nat, (j : Int) < gI x.ati y → shB sh ((rowI g y).getD j 0) = true ∨ (rowI g y).getD j 0 ∈ fin ∨ ((rowI g y).getD j 0 ∈ x.pa ∧ gI x.se y < gI x.se ((rowI g y).getD j 0))
def Cyc (g : List (List Int)) (sh : List Bool) : Prop := ∃ o, ClsP g sh o
def Bd (g : List (List Int)) (x : TaS) : Prop := (∃ y ∈ x.hd, gI x.lo y < gI x.se y) ∨ ∃ y, 0 ≤ y ∧ y < (g.length : Int) ∧ 0 ≤ gI x.nm y ∧ gI x.nm y ≠ y
structure Inv (g : List (List Int)) (sh : List Bool) (x : TaS) : Prop where
  l1 : x.se.length = g.length
  l2 : x.lo.length = g.length
  l3 : x.ati.length = g.length
  l4 : x.nm.length = g.length
  hr : ∀ y ∈ x.hd, 0 ≤ y ∧ y < (g.length : Int) ∧ shB sh y = false
  sub : x.pa.Sublist x.hd
  head : x.pa.head? = x.hd.head?
  srt : x.hd.Pairwise (fun a b => gI x.se a < gI x.se b)
  mem : ∀ y, 0 ≤ y → y < (g.length : Int) → (y ∈ x.hd ↔ gI x.se y ≠ 0 ∧ gI x.nm y < 0)
  cnt : 0 ≤ x.c ∧ ∀ y, 0 ≤ y → y < (g.length : Int) → 0 ≤ gI x.se y ∧ gI x.se y ≤ x.c
  low : ∀ y ∈ x.hd, gI x.lo y ≤ gI x.se y ∧ ∀ h, x.hd.head? = some h → gI x.se h ≤ gI x.lo y
  atb : ∀ y, 0 ≤ y → y < (g.length : Int) → 0 ≤ gI x.ati y ∧ gI x.ati y ≤ ((rowI g y).length : Int)
  un : ∀ y, 0 ≤ y → y < (g.length : Int) → gI x.se y = 0 → gI x.ati y = 0 ∧ gI x.nm y < 0
  len : (x.hd.length : Int) ≤ x.c
  chain : ∀ i, i + 1 < x.pa.length → x.pa.getD (i + 1) 0 ∈ rowI g (x.pa.getD i 0)
  gb : Gd g sh x ∨ (Cyc g sh ∧ Bd g x)
variable {g : List (List Int)} {sh : List Bool} {x : TaS}
theorem row_in (hg : OkG g sh) {v w : Int} (h0 : 0 ≤ v) (h1 : v < (g.length : Int)) (hw : w ∈ rowI g v) : 0 ≤ w ∧ w < (g.length : Int) ∧ w ≠ v := by
  obtain ⟨a, b, c⟩ := (hg.row v.toNat (by omega)).2 w hw
  exact ⟨a, b, by omega⟩
theorem Inv.sehd (h : Inv g sh x) {a y : Int} (ha : x.hd.head? = some a) (hy : y ∈ x.hd) : gI x.se a ≤ gI x.se y := by
  cases hh : x.hd with
  | nil => rw [hh] at ha; simp at ha
  | cons b r =>
    have hs := h.srt
    rw [hh] at ha hy hs
    simp only [List.head?_cons, Option.some.injEq] at ha
    subst ha
    rcases List.mem_cons.1 hy with rfl | hy
    · omega
    · have := (List.pairwise_cons.1 hs).1 y hy; omega
theorem Inv.enter (h : Inv g sh x) {w : Int} (h0 : 0 ≤ w) (h1 : w < (g.length : Int)) (ho : shB sh w = false) (hs : gI x.se w = 0) (he : ∀ p v, x.pa = p ++ [v] → w ∈ rowI g v) :
    Inv g sh ⟨x.se.set w.toNat (x.c + 1), x.lo.set w.toNat (x.c + 1), x.ati, x.hd ++ [w], x.c + 1, x.nm, x.pa ++ [w]⟩ := by
  have e1 : ∀ y, 0 ≤ y → gI (x.se.set w.toNat (x.c + 1)) y = if y = w then x.c + 1 else gI x.se y := fun y hy => gI_set h0 (by rw [h.l1]; exact h1) hy
  have e2 : ∀ y, 0 ≤ y → gI (x.lo.set w.toNat (x.c + 1)) y = if y = w then x.c + 1 else gI x.lo y := fun y hy => gI_set h0 (by rw [h.l2]; exact h1) hy
  have hnm := (h.un w h0 h1 hs).2
  have hnw : w ∉ x.hd := fun hm => ((h.mem w h0 h1).1 hm).1 hs
  have hc := h.cnt
  have ne : ∀ y ∈ x.hd, y ≠ w := fun y hy e => hnw (e ▸ hy)
  have f1 : ∀ y ∈ x.hd, gI (x.se.set w.toNat (x.c + 1)) y = gI x.se y := fun y hy => by rw [e1 y (h.hr y hy).1, if_neg (ne y hy)]
  have f2 : ∀ y ∈ x.hd, gI (x.lo.set w.toNat (x.c + 1)) y = gI x.lo y := fun y hy => by rw [e2 y (h.hr y hy).1, if_neg (ne y hy)]
  have g1 : gI (x.se.set w.toNat (x.c + 1)) w = x.c + 1 := by rw [e1 w h0, if_pos rfl]
  have g2 : gI (x.lo.set w.toNat (x.c + 1)) w = x.c + 1 := by rw [e2 w h0, if_pos rfl]
  have hle : ∀ y ∈ x.hd, gI x.se y < x.c + 1 := fun y hy => by have := (hc.2 y (h.hr y hy).1 (h.hr y hy).2.1).2; omega
  refine ⟨by simp [h.l1], by simp [h.l2], h.l3, h.l4, fun y hy => ?_, h.sub.append (List.Sublist.refl _), ?_, ?_, fun y y0 y1 => ?_, ⟨by show 0 ≤ x.c + 1; omega, fun y y0 y1 => ?_⟩, fun y hy => ?_, h.atb, fun y y0 y1 hz => ?_, by have := h.len; simp; omega, fun i hi => ?_, ?_⟩
  · rcases List.mem_append.1 hy with hy | hy
    · exact h.hr y hy
    · rw [List.mem_singleton.1 hy]; exact ⟨h0, h1, ho⟩
  · show (x.pa ++ [w]).head? = (x.hd ++ [w]).head?
    rw [List.head?_append, List.head?_append, h.head]
  · refine List.pairwise_append.2 ⟨h.srt.imp_of_mem fun ha hb hab => ?_, List.pairwise_singleton _ _, fun a ha b hb => ?_⟩
    · show gI (x.se.set w.toNat (x.c + 1)) _ < gI (x.se.set w.toNat (x.c + 1)) _
      rw [f1 _ ha, f1 _ hb]; exact hab
    · show gI (x.se.set w.toNat (x.c + 1)) _ < gI (x.se.set w.toNat (x.c + 1)) _
      rw [List.mem_singleton.1 hb, f1 a ha, g1]; exact hle a ha
  · show y ∈ x.hd ++ [w] ↔ gI (x.se.set w.toNat (x.c + 1)) y ≠ 0 ∧ gI x.nm y < 0
    rw [e1 y y0]
    by_cases e : y = w
    · subst e; simp [hnm]; omega
    · simp [e, h.mem y y0 y1]
  · show 0 ≤ gI (x.se.set w.toNat (x.c + 1)) y ∧ gI (x.se.set w.toNat (x.c + 1)) y ≤ x.c + 1
    rw [e1 y y0]
    have := hc.2 y y0 y1
    split <;> omega
  · show gI (x.lo.set w.toNat (x.c + 1)) y ≤ gI (x.se.set w.toNat (x.c + 1)) y ∧ ∀ a, (x.hd ++ [w]).head? = some a → gI (x.se.set w.toNat (x.c + 1)) a ≤ gI (x.lo.set w.toNat (x.c + 1)) y
    have hhd : ∀ a, (x.hd ++ [w]).head? = some a → gI (x.se.set w.toNat (x.c + 1)) a ≤ x.c + 1 ∧ (x.hd ≠ [] → x.hd.head? = some a ∧ gI (x.se.set w.toNat (x.c + 1)) a = gI x.se a) := by
      intro a ha
      cases hh : x.hd with
      | nil => rw [hh] at ha; simp at ha; subst ha; exact ⟨by omega, fun h => absurd rfl h⟩
      | cons b r =>
        rw [hh] at ha; simp at ha; subst ha
        have hm : b ∈ x.hd := by rw [hh]; exact List.mem_cons_self
        exact ⟨by rw [f1 b hm]; have := hle b hm; omega, fun _ => ⟨rfl, f1 b hm⟩⟩
    rcases List.mem_append.1 hy with hy | hy
    · rw [f1 y hy, f2 y hy]
      refine ⟨(h.low y hy).1, fun a ha => ?_⟩
      obtain ⟨k1, k2⟩ := (hhd a ha).2 (List.ne_nil_of_mem hy)
      rw [k2]; exact (h.low y hy).2 a k1
    · rw [List.mem_singleton.1 hy, g1, g2]
      exact ⟨Int.le_refl _, fun a ha => (hhd a ha).1⟩
  · have hz : gI (x.se.set w.toNat (x.c + 1)) y = 0 := hz
    rw [e1 y y0] at hz
    split at hz
    · omega
    · exact h.un y y0 y1 hz
  · show (x.pa ++ [w]).getD (i + 1) 0 ∈ rowI g ((x.pa ++ [w]).getD i 0)
    have hi : i + 1 < (x.pa ++ [w]).length := hi
    simp only [List.length_append, List.length_singleton] at hi
    rw [List.getD_eq_getElem?_getD, List.getD_eq_getElem?_getD]
    by_cases e : i + 1 < x.pa.length
    · rw [List.getElem?_append_left e, List.getElem?_append_left (by omega), ← List.getD_eq_getElem?_getD, ← List.getD_eq_getElem?_getD]
      exact h.chain i e
    · have e2 : i + 1 = x.pa.length := by omega
      have q1 : (x.pa ++ [w])[i + 1]? = [w][i + 1 - x.pa.length]? := List.getElem?_append_right (by omega)
      have q2 : (x.pa ++ [w])[i]? = x.pa[i]? := List.getElem?_append_left (by omega)
      rw [q1, q2]
      have hne : x.pa ≠ [] := by intro e; rw [e] at e2; simp at e2
      have hp := (List.dropLast_concat_getLast hne).symm
      have := he _ _ hp
      have e3 : x.pa[i]? = some (x.pa.getLast hne) := by rw [List.getLast_eq_getElem, List.getElem?_eq_getElem (by omega)]; congr 1; congr 1; omega
      rw [e3, show i + 1 - x.pa.length = 0 by omega]
      exact this
  · rcases h.gb with ⟨k1, k2, fin, k3, k4, k5, k6⟩ | ⟨k1, k2⟩
    · left
      refine ⟨?_, fun y hy => ?_, fin, k3, k4, k5, fun y hy j hj => ?_⟩
      · show x.hd ++ [w] = x.pa ++ [w]; rw [k1]
      · show gI (x.lo.set w.toNat (x.c + 1)) y = gI (x.se.set w.toNat (x.c + 1)) y
        rcases List.mem_append.1 hy with hy | hy
        · rw [f1 y (k1 ▸ hy), f2 y (k1 ▸ hy)]; exact k2 y hy
        · rw [List.mem_singleton.1 hy, g1, g2]
      · rcases List.mem_append.1 hy with hy | hy
        · rcases k6 y hy j hj with q | q | ⟨q1, q2⟩
          · exact .inl q
          · exact .inr (.inl q)
          · refine .inr (.inr ⟨List.mem_append_left _ q1, ?_⟩)
            show gI (x.se.set w.toNat (x.c + 1)) _ < gI (x.se.set w.toNat (x.c + 1)) _
            rw [f1 y (k1 ▸ hy), f1 _ (k1 ▸ q1)]; exact q2
        · rw [List.mem_singleton.1 hy] at hj
          have hj : (j : Int) < gI x.ati w := hj
          rw [(h.un w h0 h1 hs).1] at hj; omega
    · right
      refine ⟨k1, ?_⟩
      rcases k2 with ⟨y, hy, q⟩ | q
      · refine .inl ⟨y, List.mem_append_left _ hy, ?_⟩
        show gI (x.lo.set w.toNat (x.c + 1)) y < gI (x.se.set w.toNat (x.c + 1)) y
        rw [f1 y hy, f2 y hy]; exact q
      · exact .inr q
theorem Inv.bump (h : Inv g sh x) {v : Int} (hv : v ∈ x.hd) (ha : gI x.ati v < ((rowI g v).length : Int))
    (hk : Gd g sh x → shB sh ((rowI g v).getD (gI x.ati v).toNat 0) = true ∨ 0 ≤ gI x.nm ((rowI g v).getD (gI x.ati v).toNat 0) ∨ ((rowI g v).getD (gI x.ati v).toNat 0 ∈ x.pa ∧ gI x.se v < gI x.se ((rowI g v).getD (gI x.ati v).toNat 0))) (hg : OkG g sh) :
    Inv g sh { x with ati := x.ati.set v.toNat (gI x.ati v + 1) } := by
  obtain ⟨v0, v1, v2⟩ := h.hr v hv
  have e1 : ∀ y, 0 ≤ y → gI (x.ati.set v.toNat (gI x.ati v + 1)) y = if y = v then gI x.ati v + 1 else gI x.ati y := fun y hy => gI_set v0 (by rw [h.l3]; exact v1) hy
  have a0 := h.atb v v0 v1
  refine ⟨h.l1, h.l2, by simp [h.l3], h.l4, h.hr, h.sub, h.head, h.srt, h.mem, h.cnt, h.low, fun y y0 y1 => ?_, fun y y0 y1 hz => ?_, h.len, h.chain, ?_⟩
  · show 0 ≤ gI (x.ati.set v.toNat (gI x.ati v + 1)) y ∧ gI (x.ati.set v.toNat (gI x.ati v + 1)) y ≤ _
    rw [e1 y y0]
    split
    · rename_i e; subst e; omega
    · exact h.atb y y0 y1
  · refine ⟨?_, (h.un y y0 y1 hz).2⟩
    show gI (x.ati.set v.toNat (gI x.ati v + 1)) y = 0
    rw [e1 y y0, if_neg]
    · exact (h.un y y0 y1 hz).1
    · rintro rfl; exact ((h.mem y y0 y1).1 hv).1 hz
  · rcases h.gb with hG | hB
    · left
      have hk := hk hG
      obtain ⟨k1, k2, fin, k3, k4, k5, k6⟩ := hG
      refine ⟨k1, k2, fin, k3, k4, k5, fun y hy j hj => ?_⟩
      have hj : (j : Int) < gI (x.ati.set v.toNat (gI x.ati v + 1)) y := hj
      rw [e1 y (h.hr y (k1 ▸ hy)).1] at hj
      split at hj
      · rename_i e; subst e
        by_cases ej : (j : Int) < gI x.ati y
        · exact k6 y hy j ej
        · obtain rfl : j = (gI x.ati y).toNat := by omega
          rcases hk with q | q | q
          · exact .inl q
          · refine .inr (.inl ?_)
            have hm : (rowI g y).getD (gI x.ati y).toNat 0 ∈ rowI g y := List.mem_of_getElem? (getE 0 (by omega))
            obtain ⟨r0, r1, _⟩ := row_in hg v0 v1 hm
            exact (k4 _ r0 r1).2 q
          · exact .inr (.inr q)
      · exact k6 y hy j hj
    · exact .inr hB
theorem Inv.lower (h : Inv g sh x) {u t : Int} (hu : u ∈ x.hd) (ht : ∀ a, x.hd.head? = some a → gI x.se a ≤ t) (hk : gI x.lo u ≤ t ∨ Cyc g sh) :
    Inv g sh { x with lo := x.lo.set u.toNat (if t < gI x.lo u then t else gI x.lo u) } := by
  obtain ⟨v0, v1, v2⟩ := h.hr u hu
  have e1 : ∀ y, 0 ≤ y → gI (x.lo.set u.toNat (if t < gI x.lo u then t else gI x.lo u)) y = if y = u then (if t < gI x.lo u then t else gI x.lo u) else gI x.lo y := fun y hy => gI_set v0 (by rw [h.l2]; exact v1) hy
  have l0 := h.low u hu
  refine ⟨h.l1, by simp [h.l2], h.l3, h.l4, h.hr, h.sub, h.head, h.srt, h.mem, h.cnt, fun y hy => ?_, h.atb, h.un, h.len, h.chain, ?_⟩
  · show gI (x.lo.set u.toNat _) y ≤ gI x.se y ∧ ∀ a, x.hd.head? = some a → gI x.se a ≤ gI (x.lo.set u.toNat _) y
    rw [e1 y (h.hr y hy).1]
    split
    · rename_i e; subst e
      refine ⟨by split <;> omega, fun a ha => ?_⟩
      have := l0.2 a ha; have := ht a ha
      split <;> omega
    · exact h.low y hy
  · by_cases ht2 : t < gI x.lo u
    · right
      refine ⟨hk.resolve_left (by omega), .inl ⟨u, hu, ?_⟩⟩
      show gI (x.lo.set u.toNat _) u < gI x.se u
      rw [e1 u v0, if_pos rfl, if_pos ht2]; omega
    · have e2 : ∀ y, 0 ≤ y → gI (x.lo.set u.toNat (if t < gI x.lo u then t else gI x.lo u)) y = gI x.lo y := fun y hy => by
        rw [e1 y hy, if_neg ht2]; split
        · rename_i e; rw [e]
        · rfl
      rcases h.gb with ⟨k1, k2, k3⟩ | ⟨k1, ⟨y, hy, q⟩ | q⟩
      · exact .inl ⟨k1, fun y hy => (e2 y (h.hr y (k1 ▸ hy)).1).trans (k2 y hy), k3⟩
      · exact .inr ⟨k1, .inl ⟨y, hy, by rw [e2 y (h.hr y hy).1]; exact q⟩⟩
      · exact .inr ⟨k1, .inr q⟩
def srA (g : List (List Int)) (s : List Bool) (a b c d e : AV) (k : Int) (n : AV) : AV := .agg [.lst (gL g), .lst (boL s), a, b, c, d, e, .int .i64 k, n]
inductive cmpPc where
  | l0 (v0 : Int) (v1 : List Int)
noncomputable def cmpSt (g : List (List Int)) (sh : List Bool) (se lo ati pa hd nm : List Int) (c q : Int) : cmpPc → St
  | .l0 v0 v1 => St.mk 49 [(0, AV.ptr 0 0 0), (4, iv (ixZ hd q)), (5, iv (mnZ (List.take (hd.length - (ixZ hd q).toNat) (List.drop (0 + (ixZ hd q).toNat) hd)))), (26, AV.sl 1 (0 + (ixZ hd q).toNat) (hd.length - (ixZ hd q).toNat)), (27, iv (iN (hd.length - (ixZ hd q).toNat))), (28, iv v0)] [some (Blk.mk [AV.agg [AV.lst (gL g), AV.lst (boL sh), AV.sl 2 0 se.length, AV.sl 3 0 lo.length, AV.sl 4 0 ati.length, AV.sl 5 0 pa.length, AV.sl 1 0 hd.length, iv c, AV.sl 6 0 v1.length]] 9 false true none), some (Blk.mk (List.map (iv) hd) 1 true true none), some (Blk.mk (List.map (iv) se) 1 true true none), some (Blk.mk (List.map (iv) lo) 1 true true none), some (Blk.mk (List.map (iv) ati) 1 true true none), some (Blk.mk (List.map (iv) pa) 1 true true none), some (Blk.mk (List.map (iv) v1) 1 true true none)]
def cmpHd : cmpPc → Nat
  | .l0 _ _ => 0
noncomputable def cmpEn (g : List (List Int)) (sh : List Bool) (se lo ati pa hd nm : List Int) (c q : Int) : Option (cmpPc ⊕ Ret) :=
  gu (hd.length ≤ 1000000) <|
  gu (0 ≤ ixZ hd q) <|
  gu (ixZ hd q ≤ iN hd.length) <|
  gu (List.take (hd.length - (ixZ hd q).toNat) (List.drop (0 + (ixZ hd q).toNat) hd) ≠ [] ∧ (List.take (hd.length - (ixZ hd q).toNat) (List.drop (0 + (ixZ hd q).toNat) hd)).length ≤ 1000000) <|
  gu (0 + (ixZ hd q).toNat + (hd.length - (ixZ hd q).toNat) ≤ (List.map (AV.int IntKind.i64) hd).length) <|
  some (.inl (.l0 ((0 : Int)) (nm)))
noncomputable def cmpS0 (g : List (List Int)) (sh : List Bool) (se lo ati pa hd nm : List Int) (c q : Int) (v0 : Int) (v1 : List Int) : Option (cmpPc ⊕ Ret) :=
  br (decide (v0 < iN (hd.length - (ixZ hd q).toNat)))
  (gu (0 ≤ v0) <|
   gu (v0 < iN (hd.length - (ixZ hd q).toNat)) <|
   el (hd) (0 + (ixZ hd q).toNat + v0.toNat) fun (x31 : Int) =>
   gu (0 ≤ x31) <|
   gu (x31 < iN v1.length) <|
   gu ((0 + x31.toNat).succ.le (List.map (AV.int IntKind.i64) v1).length) <|
   some (.inl (.l0 (IntKind.i64.wrap (v0 + 1)) (v1.set (0 + x31.toNat) (mnZ (List.take (hd.length - (ixZ hd q).toNat) (List.drop (0 + (ixZ hd q).toNat) hd)))))))
  (gu (0 ≤ ixZ hd q) <|
   gu (ixZ hd q ≤ iN hd.length) <|
   some (.inr ([some (Blk.mk [AV.agg [AV.lst (gL g), AV.lst (boL sh), AV.sl 1 0 se.length, AV.sl 2 0 lo.length, AV.sl 3 0 ati.length, AV.sl 4 0 pa.length, AV.sl 5 0 (ixZ hd q).toNat, AV.int IntKind.i64 c, AV.sl 6 0 v1.length]] 9 false true none), some (Blk.mk (List.map (AV.int IntKind.i64) se) 1 true true none), some (Blk.mk (List.map (AV.int IntKind.i64) lo) 1 true true none), some (Blk.mk (List.map (AV.int IntKind.i64) ati) 1 true true none), some (Blk.mk (List.map (AV.int IntKind.i64) pa) 1 true true none), some (Blk.mk (List.take (ixZ hd q).toNat (List.map (AV.int IntKind.i64) hd)) 1 true true none), some (Blk.mk (List.map (AV.int IntKind.i64) v1) 1 true true none)], AV.tup [])))
noncomputable def cmpStep (g : List (List Int)) (sh : List Bool) (se lo ati pa hd nm : List Int) (c q : Int) : cmpPc → Option (cmpPc ⊕ Ret)
  | .l0 v0 v1 => cmpS0 g sh se lo ati pa hd nm c q v0 v1
theorem cmpEn_ok (g : List (List Int)) (sh : List Bool) (se lo ati pa hd nm : List Int) (c q : Int) (o : cmpPc ⊕ Ret) (h : cmpEn g sh se lo ati pa hd nm c q = some o) : Arr Try.prog Try.f23 1 (cmpSt g sh se lo ati pa hd nm c q) cmpHd (bodyOf Try.f23) [] { n := Try.f23.ntmps, fr := enumF 0 ([.ptr 0 0 0, .int .i64 q]), hp := ([some { es := [srA g sh (.sl 1 0 se.length) (.sl 2 0 lo.length) (.sl 3 0 ati.length) (.sl 5 0 pa.length) (.sl 6 0 hd.length) c (.sl 4 0 nm.length)], z := 9, flat := false }, some { es := se.map (AV.int .i64), z := 1 }, some { es := lo.map (AV.int .i64), z := 1 }, some { es := ati.map (AV.int .i64), z := 1 }, some { es := nm.map (AV.int .i64), z := 1 }, some { es := pa.map (AV.int .i64), z := 1 }, some { es := hd.map (AV.int .i64), z := 1 }]) } o :=
 Scr.ok h mix (
 .gu fun a0 =>
 have c0 := ix_c (hd) (q) a0;
 .rn 0 [] [] [(13, hK c0 [] [6])] [] (al (u2 (u2 (u2 (u2 (u2 (aj (k2 (aj (show hd.length = (List.map (iv) hd).length by simp) (ak (aj (c0) (show ∀ (blk : Blk), blk ∈ [] → ImmB blk from (by intro _ h; cases h)))))) s2))))))) <|
 .gu fun a1 =>
 .gu fun a2 =>
 .gu fun a3 =>
 .gu fun a4 =>
 have c1 := mi_c (List.take (hd.length - (ixZ hd q).toNat) (List.drop (0 + (ixZ hd q).toNat) hd)) a3;
 .lp [] [] [(20, hK c1 [] [1006, 6])] [] [] [0, 6, 1, 2, 3, 5, 4] [0, 4, 5, 26, 27, 28] (aj (aj (u2 (u2 (u2 (u2 (u2 (aj (k2 (aj a1 (aj a2 (aj (show iN hd.length ≤ iN hd.length by omega) (show iN hd.length ≤ iN hd.length by omega))))) (aj (ak (aj a4 (aj (show CT Try.prog 27 [] [AV.lst (List.take (hd.length - (ixZ hd q).toNat) (List.drop (0 + (ixZ hd q).toNat) (List.map (iv) hd)))] [] (iv (mnZ (List.take (hd.length - (ixZ hd q).toNat) (List.drop (0 + (ixZ hd q).toNat) hd)))) from CT.eqs (c1) (by first | (simp only [boL, List.map_append, List.map_set, List.map_take, List.map_drop, List.map_replicate, List.nil_append]; done) | (simp only [boL, List.map_append, List.map_set, List.map_take, List.map_drop, List.map_replicate, List.nil_append]; rfl) | (simp [gL, boL, lI]; done) | (simp [gL, boL, lI]; rfl) | (simp only [boL, List.map_append, List.map_set, List.map_cons, List.map_nil]; rfl)) (by first | (simp only [boL, List.map_append, List.map_set, List.map_take, List.map_drop, List.map_replicate, List.nil_append]; done) | (simp only [boL, List.map_append, List.map_set, List.map_take, List.map_drop, List.map_replicate, List.nil_append]; rfl) | (simp [gL, boL, lI]; done) | (simp [gL, boL, lI]; rfl) | (simp only [boL, List.map_append, List.map_set, List.map_cons, List.map_nil]; rfl))) (show ∀ (blk : Blk), blk ∈ [] → ImmB blk from (by intro _ h; cases h))))) s2))))))) (al (u2 (u2 (u2 (u2 (u2 (aj (k2 (aj a1 (aj a2 (aj (show iN hd.length ≤ iN hd.length by omega) (show iN hd.length ≤ iN hd.length by omega))))) (u2 t2))))))))) (ak (k5 (aj (al (ak t9)) t7))))) (by kernel_rfl)
theorem cmpS0_ok (g : List (List Int)) (sh : List Bool) (se lo ati pa hd nm : List Int) (c q : Int) (v0 : Int) (v1 : List Int) (o : cmpPc ⊕ Ret) (h : cmpS0 g sh se lo ati pa hd nm c q v0 v1 = some o) : Arr Try.prog Try.f23 1 (cmpSt g sh se lo ati pa hd nm c q) cmpHd (headC Try.f23 0) (headK Try.f23 0) (cmpSt g sh se lo ati pa hd nm c q (.l0 v0 v1)) o :=
 Scr.ok h mix (
 .rn 0 [] [] [] [] (al (al t3)) <|
 .br (fun a0 =>
 .gu fun a1 =>
 .gu fun a2 =>
 .el fun x31 a3 =>
 .rn 0 [59] [(31, iv x31)] [] [] (aj a0 (al (aj (k2 (aj a1 a2)) (aj (ak (getMap (f := iv) a3)) s2)))) <|
 .gu fun a4 =>
 .gu fun a5 =>
 .gu fun a6 =>
 .lq [] [] [] [] [] [0, 1, 2, 3, 4, 5, 6] [0, 4, 5, 26, 27, 28] (up [] [(0, [AV.agg [AV.lst (gL g), AV.lst (boL sh), AV.sl 2 0 se.length, AV.sl 3 0 lo.length, AV.sl 4 0 ati.length, AV.sl 5 0 pa.length, AV.sl 1 0 hd.length, iv c, AV.sl 6 0 v1.length]]), (6, (List.map (iv) v1).set (0 + x31.toNat) (iv (mnZ (List.take (hd.length - (ixZ hd q).toNat) (List.drop (0 + (ixZ hd q).toNat) hd)))))] (cmpSt g sh se lo ati pa hd nm c q (.l0 (IntKind.i64.wrap (v0 + 1)) (v1.set (0 + x31.toNat) (mnZ (List.take (hd.length - (ixZ hd q).toNat) (List.drop (0 + (ixZ hd q).toNat) hd))))))) (aj (aj (u2 (u2 (u2 (u2 (u2 (u2 (aj (k2 (aj a4 a5)) (al (k2 a6))))))))) (al (u2 s2))) (ak (k5 (aj (al (ak t9)) t7)))) (by simp [up, upF, upV, upH, upB, cmpSt, gL, boL, lI]))
 (fun a0 =>
 .gu fun a1 =>
 .gu fun a2 =>
 .rt [58] [(46, AV.unk)] [] [] [0, 2, 3, 4, 5, 1, 6] [] (aj (aj a0 (al (u2 (u2 (u2 (u2 (u2 (u2 (aj (k2 (aj a1 a2)) (u2 (u2 (al t3)))))))))))) (ak (aj (al (ak t9)) t7))))) (by kernel_rfl)
theorem cmp_ct (g : List (List Int)) (sh : List Bool) (se lo ati pa hd nm : List Int) (c q : Int) (r : Ret) (h : MReach (cmpStep g sh se lo ati pa hd nm c q) (cmpEn g sh se lo ati pa hd nm c q) r) : CTX Try.prog 23 ([some { es := [srA g sh (.sl 1 0 se.length) (.sl 2 0 lo.length) (.sl 3 0 ati.length) (.sl 5 0 pa.length) (.sl 6 0 hd.length) c (.sl 4 0 nm.length)], z := 9, flat := false }, some { es := se.map (AV.int .i64), z := 1 }, some { es := lo.map (AV.int .i64), z := 1 }, some { es := ati.map (AV.int .i64), z := 1 }, some { es := nm.map (AV.int .i64), z := 1 }, some { es := pa.map (AV.int .i64), z := 1 }, some { es := hd.map (AV.int .i64), z := 1 }]) ([.ptr 0 0 0, .int .i64 q]) r.1 r.2 :=
  CTX.mach (fn := Try.f23) (c := bodyOf Try.f23) (S := cmpSt g sh se lo ati pa hd nm c q) (hd := cmpHd) Try.func23 (by kernel_rfl) (Nat.le_of_ble_eq_true rfl) (Nat.le_of_ble_eq_true rfl)
    (fun s o ho => match s, ho with
      | .l0 v0 v1, ho => cmpS0_ok g sh se lo ati pa hd nm c q v0 v1 o ho
    )
    (fun o ho => cmpEn_ok g sh se lo ati pa hd nm c q o ho) h
def cmF (m : Int) (a : List Int) (x : Int) : List Int := a.set x.toNat m
theorem cmF_len (m : Int) (a : List Int) (x : Int) : (cmF m a x).length = a.length := by simp [cmF]
theorem cmFs_len (m : Int) (l : List Int) : ∀ a : List Int, (l.foldl (cmF m) a).length = a.length := by
  induction l with
  | nil => intro a; rfl
  | cons x r ih => intro a; rw [List.foldl_cons, ih, cmF_len]
@[irreducible] def cmH (hd : List Int) (q : Int) : List Int := hd.take (ixZ hd q).toNat
@[irreducible] def cmN (nm hd : List Int) (q : Int) : List Int := (hd.drop (ixZ hd q).toNat).foldl (cmF (mnZ (hd.drop (ixZ hd q).toNat))) nm
def CmI (hd nm : List Int) (q : Int) : Prop := q ∈ hd ∧ hd.length ≤ 1000000 ∧ ∀ x ∈ hd, 0 ≤ x ∧ x < (nm.length : Int)
theorem ixZ_in {l : List Int} {q : Int} (h : q ∈ l) : ∃ i : Nat, ixZ l q = i ∧ i < l.length ∧ l.getD i 0 = q ∧ q ∉ l.take i := by
  have hlt := List.idxOf_lt_length_of_mem h
  refine ⟨l.idxOf q, by unfold ixZ; rw [if_pos h], hlt, ?_, ?_⟩
  · rw [List.getD_eq_getElem?_getD, List.getElem?_eq_getElem hlt]; exact List.getElem_idxOf hlt
  · intro hm
    have key : ∀ (a : List Int) (k : Nat), k ≤ a.idxOf q → q ∉ a.take k := by
      intro a
      induction a with
      | nil => intro k _; simp
      | cons x a ih =>
        intro k hk hm
        cases k with
        | zero => simp at hm
        | succ k =>
          rw [List.idxOf_cons] at hk
          cases hx : x == q with
          | true => rw [hx] at hk; simp at hk
          | false =>
            rw [hx] at hk
            have hk' : k + 1 ≤ a.idxOf q + 1 := hk
            rw [List.take_succ_cons] at hm
            rcases List.mem_cons.1 hm with e | hm
            · rw [e, beq_self_eq_true] at hx; cases hx
            · exact ih k (by omega) hm
    exact key l _ (Nat.le_refl _) hm
theorem cmp_c (g : List (List Int)) (sh : List Bool) (se lo ati pa hd nm : List Int) (c q : Int) (n1 n2 n3 np nh n6 : Nat) (h : CmI hd nm q ∧ n1 = se.length ∧ n2 = lo.length ∧ n3 = ati.length ∧ np = pa.length ∧ nh = hd.length ∧ n6 = nm.length) : CTX Try.prog 23 [some { es := [srA g sh (.sl 1 0 n1) (.sl 2 0 n2) (.sl 3 0 n3) (.sl 5 0 np) (.sl 6 0 nh) c (.sl 4 0 n6)], z := 9, flat := false }, some { es := se.map (AV.int .i64), z := 1 }, some { es := lo.map (AV.int .i64), z := 1 }, some { es := ati.map (AV.int .i64), z := 1 }, some { es := nm.map (AV.int .i64), z := 1 }, some { es := pa.map (AV.int .i64), z := 1 }, some { es := hd.map (AV.int .i64), z := 1 }] [.ptr 0 0 0, .int .i64 q] [some { es := [srA g sh (.sl 1 0 se.length) (.sl 2 0 lo.length) (.sl 3 0 ati.length) (.sl 4 0 np) (.sl 5 0 (cmH hd q).length) c (.sl 6 0 (cmN nm hd q).length)], z := 9, flat := false }, some { es := se.map (AV.int .i64), z := 1 }, some { es := lo.map (AV.int .i64), z := 1 }, some { es := ati.map (AV.int .i64), z := 1 }, some { es := pa.map (AV.int .i64), z := 1 }, some { es := (cmH hd q).map (AV.int .i64), z := 1 }, some { es := (cmN nm hd q).map (AV.int .i64), z := 1 }] (.tup []) := by
  obtain ⟨⟨hq, hl, hr⟩, rfl, rfl, rfl, rfl, rfl, rfl⟩ := h
  obtain ⟨i, hi, hi2, hi3, _⟩ := ixZ_in hq
  refine cmp_ct g sh se lo ati pa hd nm c q (_, _) ?_
  have hS : ∀ a b, cmpStep g sh se lo ati pa hd nm c q (.l0 a b) = cmpS0 g sh se lo ati pa hd nm c q a b := fun _ _ => rfl
  have etk : List.take (hd.length - i) (List.drop i hd) = hd.drop i := List.take_of_length_le (by simp)
  unfold cmpEn
  unfold cmpS0 at hS
  unfold cmH cmN
  simp only [hi, Int.toNat_natCast, Nat.zero_add, etk] at hS ⊢
  have hne : hd.drop i ≠ [] := by intro e; have := congrArg List.length e; simp at this; omega
  rw [gu_t hl, gu_t (by omega), gu_t (by simp only [iN]; omega), gu_t ⟨hne, by rw [List.length_drop]; omega⟩, gu_t (by rw [List.length_map]; omega)]
  generalize mnZ (hd.drop i) = m at *
  refine loop_fold (l := hd.drop i) (L := fun j a => cmpPc.l0 (j : Int) a) (f := cmF m) nm (fun j x hx hk => ?_) ?_
  · have hj := (List.getElem?_eq_some_iff.1 hx).1
    rw [List.length_drop] at hj
    rw [List.getElem?_drop] at hx
    obtain ⟨x0, x1⟩ := hr x (List.mem_of_getElem? hx)
    have hfl : (((hd.drop i).take j).foldl (cmF m) nm).length = nm.length := cmFs_len _ _ _
    refine .to (hS _ _) ?_
    rw [br_t (decide_eq_true (by simp only [iN]; omega)), gu_t (by omega), gu_t (by simp only [iN]; omega), Int.toNat_natCast, el_t hx, gu_t x0, gu_t (by simp only [iN, hfl]; omega), gu_t (by rw [List.length_map, hfl]; show _ + 1 ≤ _; omega), wrap_in (by omega) (by omega)]
    exact hk
  · refine .to (hS _ _) (.val ?_)
    rw [br_f (decide_eq_false (by rw [List.length_drop]; simp only [iN]; omega)), gu_t (by omega), gu_t (by simp only [iN]; omega)]
    simp only [List.map_take, List.length_take, Nat.min_eq_left (Nat.le_of_lt hi2)]
    rfl
end Go.Proofs.Ytcgegbmnpjfjlaa

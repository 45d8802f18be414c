/- Parts of the proof: AgT. -/
import Derived.KernelRfl
import Derived.Test.YtifigemlifbkcaaAgentOnceM6
open Go Go.AX Go.Proofs
set_option maxRecDepth 100000
set_option maxHeartbeats 1000000
set_option linter.unusedVariables false
set_option linter.unusedSimpArgs false
namespace Go.Proofs.Ytifigemlifbkcaa
theorem heO_cases (a : AgD) (q : Int) (f : FrD) : ((heO a q f).a.l = a.l ∧ (heO a q f).a.t = a.t) ∨ (a.l < f.q ∧ (heO a q f).a.l = f.q ∧ (heO a q f).a.t = f.c) := by
  unfold heO
  cases frV f && f.r == q with
  | false => exact .inl ⟨rfl, rfl⟩
  | true =>
    show ((heaO a f).a.l = a.l ∧ (heaO a f).a.t = a.t) ∨ (a.l < f.q ∧ (heaO a f).a.l = f.q ∧ (heaO a f).a.t = f.c)
    unfold heaO
    cases f.k == 1 with
    | true =>
      cases h : decide (a.l < f.q) with
      | true => exact .inr ⟨of_decide_eq_true h, rfl, rfl⟩
      | false => exact .inl ⟨rfl, rfl⟩
    | false => cases f.k == 3 && (!(a.r == 0) && (f.q == a.l && f.f == a.r)) <;> exact .inl ⟨rfl, rfl⟩
theorem driO_cases (n : NetD) (a : AgD) (q : Int) (b : BdD) : ((driO n a q b).a = a ∧ (driO n a q b).b = b) ∨
    (b.t = -1 ∧ a.t ≠ -1 ∧ folB n b.c a.t = true ∧ (driO n a q b).a = a ∧ (driO n a q b).b = ⟨b.c, a.t, b.s, b.f⟩) ∨
    (b.t ≠ -1 ∧ (driO n a q b).a.l = a.l ∧ (driO n a q b).a.t = -1 ∧ (driO n a q b).b.t = -1) := by
  unfold driO
  cases b.c == -1 with
  | true => exact .inl ⟨rfl, rfl⟩
  | false => cases b.f with
    | true => exact .inl ⟨rfl, rfl⟩
    | false => cases h : b.t == -1 with
      | false => exact .inr (.inr ⟨beq_eq_false_iff_ne.1 h, rfl, rfl, rfl⟩)
      | true =>
        cases h2 : !b.s && (!(a.t == -1) && folB n b.c a.t) with
        | false => exact .inl ⟨rfl, rfl⟩
        | true =>
          simp only [Bool.and_eq_true, Bool.not_eq_true', beq_eq_false_iff_ne] at h2
          exact .inr (.inl ⟨beq_iff_eq.1 h, h2.2.1, h2.2.2, rfl, rfl⟩)
theorem finO_cases (a : AgD) (q : Int) (b : BdD) : (finO a q b).a.l = a.l ∧ (finO a q b).a.t = a.t ∧ (finO a q b).b.t = b.t := by
  unfold finO
  cases b.c == -1 with
  | true => exact ⟨rfl, rfl, rfl⟩
  | false => cases b.s && !b.f <;> exact ⟨rfl, rfl, rfl⟩
structure OnJ (U H C : List Int) (a : AgD) (b : BdD) : Prop where
  hc : H.length = C.length
  le : ∀ u ∈ U, u ≤ a.l
  go : b.t = -1 → a.t ≠ -1 → ∃ H0 C0, H = H0 ++ [a.l] ∧ C = C0 ++ [a.t] ∧ ∀ u ∈ U, u < a.l
theorem OnJ.same {U H C : List Int} {a a' : AgD} {b : BdD} (h : OnJ U H C a b) (h1 : a'.l = a.l) (h2 : a'.t = a.t) : OnJ U H C a' b :=
  ⟨h.hc, by rw [h1]; exact h.le, by rw [h1, h2]; exact h.go⟩
theorem OnJ.new {U H C : List Int} {a a' : AgD} {b : BdD} {q c : Int} (h : OnJ U H C a b) (h0 : a.l < q) (h1 : a'.l = q) (h2 : a'.t = c) : OnJ U (H ++ [q]) (C ++ [c]) a' b :=
  ⟨by simp [h.hc], fun u hu => by have := h.le u hu; omega, fun _ _ => ⟨H, C, by rw [h1], by rw [h2], fun u hu => by have := h.le u hu; omega⟩⟩
def onPc (U H C : List Int) (k : Nat) (kk : Nat) (a : AgD) (b : BdD) : oncePc := .l0 U H C (k : Int) kk a a.s b.c b.t b.s b.f
theorem once_fin (ls : List Int) (U H C : List Int) (kk : Nat) (a : AgD) (b : BdD) : MReach (onceStep ls) (some (.inl (onPc U H C 30 kk a b))) ([], .bool true) := by
  refine .to (show onceS0 ls U H C 30 kk a a.s b.c b.t b.s b.f = _ from ?_) (.ret _)
  unfold onceS0
  exact br_f (by rfl)
theorem once_used (ls : List Int) (U H C : List Int) (k kk : Nat) (d : TrD) (z : Bool) (hU : ∀ u ∈ U, u < d.a.l) (hn : U.length ≤ 100) (r : Ret)
    (h : MReach (onceStep ls) (some (.inl (.l1 U H C (k : Int) true (U.length : Int) d z kk))) r) : MReach (onceStep ls) (some (.inl (.l1 U H C (k : Int) true 0 d z kk))) r := by
  refine loop_up (fun i => oncePc.l1 U H C (k : Int) true (i : Int) d z kk) U.length (fun i hi hr => ?_) h
  refine .to (show onceS1 ls U H C (k : Int) true (i : Int) d z kk = _ from ?_) hr
  have hx := getE 0 hi
  have hl := hU _ (List.mem_of_getElem? hx)
  unfold onceS1
  rw [br_t (dec_t (by simp only [iN]; omega)), br_t rfl, gu_t (by omega), gu_t (by simp only [iN]; omega), Nat.zero_add, Int.toNat_natCast, el_t hx, wrap_nat i (by omega),
    show (U.getD i 0 != d.a.l) = true from bne_iff_ne.2 (by omega)]
theorem once_step (ls : List Int) (U H C : List Int) (k kk : Nat) (a : AgD) (b : BdD) (hj : OnJ U H C a b) (hk : k < 30) (hkk : kk ≤ 1000 + 20 * k) (hU : U.length ≤ k) (hH : H.length ≤ k)
    (go : ∀ (U' H' C' : List Int) (kk' : Nat) (a' : AgD) (b' : BdD), OnJ U' H' C' a' b' → kk' ≤ 1000 + 20 * (k + 1) → U'.length ≤ k + 1 → H'.length ≤ k + 1 → MReach (onceStep ls) (some (.inl (onPc U' H' C' (k + 1) kk' a' b'))) ([], .bool true)) :
    MReach (onceStep ls) (some (.inl (onPc U H C k kk a b))) ([], .bool true) := by
  have hl := (loo_spec (L := ls) (kk := 0) (most := 6) (by omega) (by omega)).1
  have hw : IntKind.i64.wrap ((k : Int) + 1) = ((k + 1 : Nat) : Int) := wrap_nat k (by omega)
  have hc := hj.hc
  have ea : AgD.mk a.l a.t a.s a.r a.c = a := rfl
  have eb : BdD.mk b.c b.t b.s b.f = b := rfl
  -- what hearing a frame comes to
  have leaf : ∀ (f : FrD) (kk' : Nat), kk' ≤ 1000 + 20 * (k + 1) →
      ∃ o, br ((heO a 0 f).a.l != a.l)
        (gu ((List.map (AV.int IntKind.u64) H).length + [AV.int IntKind.u64 f.q].length ≤ 9223372036854775807) <|
          gu (((List.map (AV.int IntKind.u64) H).length + [AV.int IntKind.u64 f.q].length) * 8 ≤ 140737488355328) <|
          gu ((List.map (AV.int .i64) C).length + [AV.int .i64 f.c].length ≤ 9223372036854775807) <|
          gu (((List.map (AV.int .i64) C).length + [AV.int .i64 f.c].length) * 8 ≤ 140737488355328) <|
          br (decide ((heO a 0 f).a.l < a.l)) (some (.inr ([], AV.bool false)))
            (some (.inl (.l0 U (H ++ [f.q]) (C ++ [f.c]) (IntKind.i64.wrap ((k : Int) + 1)) kk' (heO a 0 f).a (heO a 0 f).a.s b.c b.t b.s b.f))))
        (br (decide ((heO a 0 f).a.l < a.l)) (some (.inr ([], AV.bool false)))
          (some (.inl (.l0 U H C (IntKind.i64.wrap ((k : Int) + 1)) kk' (heO a 0 f).a (heO a 0 f).a.s b.c b.t b.s b.f)))) = o ∧ MReach (onceStep ls) o ([], .bool true) := by
    intro f kk' hkk'
    refine ⟨_, rfl, ?_⟩
    rw [hw]
    rcases heO_cases a 0 f with ⟨h1, h2⟩ | ⟨h0, h1, h2⟩
    · rw [br_f (by rw [h1]; exact bne_self_eq_false _), br_f (dec_f (by omega))]
      exact go U H C kk' _ b (hj.same h1 h2) hkk' (by omega) (by omega)
    · rw [br_t (bne_iff_ne.2 (by omega)), gu_t (by simp only [List.length_map, List.length_singleton]; omega), gu_t (by simp only [List.length_map, List.length_singleton]; omega),
        gu_t (by simp only [List.length_map, List.length_singleton]; omega), gu_t (by simp only [List.length_map, List.length_singleton]; omega), br_f (dec_f (by omega))]
      exact go U (H ++ [f.q]) (C ++ [f.c]) kk' _ b (hj.new h0 h1 h2) hkk' (by omega) (by simp only [List.length_append, List.length_singleton]; omega)
  suffices hs : ∃ o, onceS0 ls U H C (k : Int) kk a a.s b.c b.t b.s b.f = o ∧ MReach (onceStep ls) o ([], .bool true) by
    obtain ⟨o, h1, h2⟩ := hs
    exact .to (show onceS0 ls U H C (k : Int) kk a a.s b.c b.t b.s b.f = o from h1) h2
  unfold onceS0
  rw [br_t (dec_t (by omega)), gu_t (by omega), ea, eb]
  obtain ⟨f0, f1, _⟩ := frm_spec (L := ls) (kk := kk + 1) (by omega)
  have hxl := nxO_len hl.rows b.c
  by_cases h2 : nextZ ls kk 2 = 0
  · rw [br_t (beq_iff_eq.2 h2), gu_t (by omega), gu_t hl.rows]
    by_cases hc1 : ckE (looM ls 0 6) b.c = 0
    · rw [br_t (beq_iff_eq.2 hc1)]
      by_cases hk1 : (frmM ls (kk + 1)).k = 1
      · rw [br_t (beq_iff_eq.2 hk1)]
        by_cases hp : 0 < (nxO (looM ls 0 6) b.c).length
        · have e : iN (List.map (AV.int .i64) (nxO (looM ls 0 6) b.c)).length = ((nxO (looM ls 0 6) b.c).length : Int) := by simp [iN]
          rw [e]
          have hz := nextZ_rng ls (frmK ls (kk + 1)) ((nxO (looM ls 0 6) b.c).length : Int) (by omega) (by omega)
          rw [br_t (dec_t (by omega)), gu_t (by omega), gu_t hz.1, el_t (getE 0 (by omega))]
          exact leaf _ _ (by omega)
        · rw [br_f (dec_f (by simp only [iN, List.length_map]; omega))]
          exact leaf _ _ (by omega)
      · rw [br_f (beq_eq_false_iff_ne.2 hk1)]
        exact leaf _ _ (by omega)
    · rw [br_f (beq_eq_false_iff_ne.2 hc1)]
      exact leaf _ _ (by omega)
  · rw [br_f (beq_eq_false_iff_ne.2 h2), gu_t hl.rows]
    generalize hd : driO (looM ls 0 6) a 0 b = d
    have dc := driO_cases (looM ls 0 6) a 0 b
    rw [hd] at dc
    -- when nothing begins
    have rest : (d.b.t = -1 → b.t = -1 → d.a.t = a.t) → d.a.l = a.l → (d.b.t = -1 → d.a.t = -1 ∨ (b.t = -1 ∧ d.a.t = a.t)) → ∃ o, br d.b.s
        (some (.inl (.l0 U H C (IntKind.i64.wrap ((k : Int) + 1)) (kk + 1) (finO d.a 0 d.b).a (finO d.a 0 d.b).a.s (finO d.a 0 d.b).b.c (finO d.a 0 d.b).b.t (finO d.a 0 d.b).b.s (finO d.a 0 d.b).b.f)))
        (some (.inl (.l0 U H C (IntKind.i64.wrap ((k : Int) + 1)) (kk + 1) d.a d.a.s d.b.c d.b.t d.b.s d.b.f))) = o ∧ MReach (onceStep ls) o ([], .bool true) := by
      intro _ h1 h3
      have hj' : OnJ U H C d.a d.b := by
        refine ⟨hj.hc, by rw [h1]; exact hj.le, fun h4 h5 => ?_⟩
        rcases h3 h4 with h | ⟨h, h'⟩
        · exact absurd h h5
        · rw [h1, h']; exact hj.go h (by rw [← h']; exact h5)
      refine ⟨_, rfl, ?_⟩
      rw [hw]
      obtain ⟨g1, g2, g3⟩ := finO_cases d.a 0 d.b
      rcases Bool.eq_false_or_eq_true d.b.s with h | h
      · rw [br_t h]; exact go U H C (kk + 1) _ (finO d.a 0 d.b).b ⟨hj'.hc, by rw [g1]; exact hj'.le, by rw [g1, g2, g3]; exact hj'.go⟩ (by omega) (by omega) (by omega)
      · rw [br_f h]; exact go U H C (kk + 1) _ d.b hj' (by omega) (by omega) (by omega)
    rcases dc with ⟨e1, e2⟩ | ⟨e0, e1, e2, e3, e4⟩ | ⟨e0, e1, e2, e3⟩
    · -- nothing happens
      by_cases hb : b.t = -1
      · rw [br_t (beq_iff_eq.2 hb), br_f (by rw [e2, hb]; rfl)]
        exact rest (fun _ _ => by rw [e1]) (by rw [e1]) (fun _ => .inr ⟨hb, by rw [e1]⟩)
      · rw [br_f (beq_eq_false_iff_ne.2 hb)]
        exact rest (fun _ h => absurd h hb) (by rw [e1]) (fun h => absurd (by rw [← e2]; exact h) hb)
    · -- a transit begins
      obtain ⟨H0, C0, hH0, hC0, hu⟩ := hj.go e0 e1
      have ht : d.b.t = a.t := by rw [e4]
      have hal : d.a.l = a.l := by rw [e3]
      have hlH : H.length = H0.length + 1 := by rw [hH0]; simp
      have hlC : C.length = C0.length + 1 := by rw [hC0]; simp
      have w1 : IntKind.i64.wrap (iN H.length - 1) = (H0.length : Int) := by rw [wrap_in (by simp only [iN]; omega) (by simp only [iN]; omega)]; simp only [iN]; omega
      have gH : H[H0.length]? = some a.l := by rw [hH0]; simp
      have gC : C[H0.length]? = some a.t := by rw [hC0, show H0.length = C0.length by omega]; simp
      rw [br_t (beq_iff_eq.2 e0), br_t (bne_iff_ne.2 (by rw [ht]; exact e1)), br_t (dec_t (by simp only [iN]; omega)), w1, gu_t (by omega), gu_t (by simp only [iN]; omega), Nat.zero_add, Int.toNat_natCast, el_t gH,
        br_t (beq_iff_eq.2 hal.symm), gu_t (by simp only [iN]; omega), el_t gC, br_t (beq_iff_eq.2 ht.symm), ht, e2]
      refine ⟨_, rfl, once_used ls U H C k (kk + 1) d _ (by rw [hal]; exact hu) (by omega) _ ?_⟩
      have gu1 : ∀ (x : AV), (List.map (AV.int IntKind.u64) U).length + [x].length ≤ 9223372036854775807 := fun x => by simp only [List.length_map, List.length_singleton]; omega
      have gu2 : ∀ (x : AV), ((List.map (AV.int IntKind.u64) U).length + [x].length) * 8 ≤ 140737488355328 := fun x => by simp only [List.length_map, List.length_singleton]; omega
      have hjn : ∀ (a' : AgD) (b' : BdD), a'.l = a.l → b'.t = a.t → OnJ (U ++ [d.a.l]) H C a' b' := fun a' b' h1 h2 => ⟨hj.hc, fun u hm => by
        rcases List.mem_append.1 hm with h | h
        · rw [h1]; exact hj.le u h
        · rw [List.mem_singleton.1 h, hal, h1]; exact Int.le_refl _, fun h3 _ => absurd (by rw [← h2]; exact h3) e1⟩
      suffices hs : ∃ o, onceS1 ls U H C (k : Int) true (U.length : Int) d (a.t != -1) (kk + 1) = o ∧ MReach (onceStep ls) o ([], .bool true) by
        obtain ⟨o, h1, h2⟩ := hs
        exact .to (show onceS1 ls U H C (k : Int) true (U.length : Int) d (a.t != -1) (kk + 1) = o from h1) h2
      unfold onceS1
      rw [br_f (dec_f (by simp only [iN]; omega)), br_f (by rfl), gu_t (gu1 _), gu_t (gu2 _), hw]
      refine ⟨_, rfl, ?_⟩
      obtain ⟨g1, g2, g3⟩ := finO_cases d.a 0 d.b
      rcases Bool.eq_false_or_eq_true d.b.s with h | h
      · rw [br_t h]; exact go (U ++ [d.a.l]) H C (kk + 1) _ (finO d.a 0 d.b).b (hjn _ _ (by rw [g1, hal]) (by rw [g3, ht])) (by omega) (by simp only [List.length_append, List.length_singleton]; omega) (by omega)
      · rw [br_f h]; exact go (U ++ [d.a.l]) H C (kk + 1) _ d.b (hjn _ _ hal ht) (by omega) (by simp only [List.length_append, List.length_singleton]; omega) (by omega)
    · -- a transit ends
      rw [br_f (beq_eq_false_iff_ne.2 e0)]
      exact rest (fun _ h => absurd h e0) e1 (fun _ => .inl e2)
theorem once_all (ls : List Int) : ∀ (m k : Nat) (U H C : List Int) (kk : Nat) (a : AgD) (b : BdD), m + k = 30 → OnJ U H C a b → kk ≤ 1000 + 20 * k → U.length ≤ k → H.length ≤ k →
    MReach (onceStep ls) (some (.inl (onPc U H C k kk a b))) ([], .bool true) := by
  intro m
  induction m with
  | zero => intro k U H C kk a b hk _ _ _ _; rw [show k = 30 by omega]; exact once_fin ls U H C kk a b
  | succ m ih =>
    intro k U H C kk a b hk hj h1 h2 h3
    exact once_step ls U H C k kk a b hj (by omega) h1 h2 h3 fun U' H' C' kk' a' b' g1 g2 g3 g4 => ih (k + 1) U' H' C' kk' a' b' (by omega) g1 g2 g3 g4
theorem once_run (ls : List Int) : CT Try.prog 3 [] [lI ls] [] (.bool true) := by
  obtain ⟨hl, hk, _⟩ := loo_spec (L := ls) (kk := 0) (most := 6) (by omega) (by omega)
  refine once_ct ls ([], _) ?_
  unfold onceEn
  obtain ⟨r, hr⟩ : ∃ r, (looM ls 0 6).rs[0]? = some r := by
    cases h : (looM ls 0 6).rs with
    | nil => exact absurd h hl.rb
    | cons r l => exact ⟨r, rfl⟩
  rw [show Int.toNat 0 = 0 from rfl, el_t hr]
  exact once_all ls 30 0 [] [] [] (looK ls 0 6) ag0 ⟨r, -1, false, false⟩ rfl ⟨rfl, (fun u hu => by cases hu), fun _ h => absurd rfl h⟩ (by omega) (Nat.le_refl _) (Nat.le_refl _)
theorem agentOnce_row (avs : List AV) (h : ShVs Try.prog 6 Try.f3.params.toList avs) : CT Try.prog 3 [] avs [] (.bool true) := by
  rw [Try.params3] at h
  obtain ⟨a, _, rfl, ka, h⟩ := h.consD
  obtain rfl := h.nilD
  obtain ⟨_, _, he, rfl⟩ := ka.sliceD Try.underlying22
  obtain ⟨l, rfl⟩ := rdInts he
  exact once_run l
end Go.Proofs.Ytifigemlifbkcaa

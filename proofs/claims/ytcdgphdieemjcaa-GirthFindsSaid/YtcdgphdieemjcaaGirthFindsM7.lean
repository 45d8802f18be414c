/- Parts of the proof: GiB, GiC, Gi2p, GiD, Gi3p, GiE. -/
import Derived.KernelRfl
import Derived.Test.YtcdgphdieemjcaaProg
import Derived.Test.YtcdgphdieemjcaaGirthFindsM6
/-! Contracts. -/
open Go Go.AX Go.Proofs
set_option maxRecDepth 100000
set_option maxHeartbeats 1000000
set_option linter.unusedVariables false
set_option linter.unusedSimpArgs false
namespace Go.Proofs.Ytcdgphdieemjcaa
def thT (e : Int) (l : List Int) : AV := .tup [.int .i64 (iN l.length), lI l, .int .i64 e]
noncomputable def thE (g : List (List Int)) (s : List Bool) (v : Int) : Int := if chk4 g s ≠ 0 then chk4 g s else if v < 0 ∨ (g.length : Int) ≤ v then 19 else 0
noncomputable def thL (g : List (List Int)) (s : List Bool) (v : Int) : List Int := if thE g s v = 0 then thZ g s v.toNat else []

theorem ThroughG_ct {g : List (List Int)} {s : List Bool} (hrw : Rows g) (v : Int) : CT Try.prog 14 [] [.lst (gL g), .lst (boL s), .int .i64 v] [] (thT (thE g s v) (thL g s v)) := by
  have hl := gL_len g
  have c := gcheckG_ct (s := s) hrw
  have hb : Try.f14.body = some (bodyOf Try.f14) := by kernel_rfl
  have hn : [AV.lst (gL g), .lst (boL s), .int .i64 v].length ≤ Try.f14.ntmps := Nat.le_of_ble_eq_true rfl
  unfold thL thE
  by_cases h : chk4 g s = 0
  · rw [if_neg (by simp [h])]
    rw [h] at c
    have e0 : ((0 : Int) != 0) = false := rfl
    by_cases c1 : v < 0
    · rw [if_pos (.inl c1)]
      exact CT.pathW mix Try.func14 hb hn (tg_1 ⟨g, s, v, [], [], [], [], 0, 0, 0, 0, 0, 0, 0, 0, false, false⟩ c e0 (decide_eq_true c1)) rfl
    · by_cases c2 : (g.length : Int) ≤ v
      · rw [if_pos (.inr c2)]
        exact CT.pathW mix Try.func14 hb hn (tg_2 ⟨g, s, v, [], [], [], [], 0, 0, 0, 0, 0, 0, 0, 0, false, false⟩ c e0 (decide_eq_false c1) (decide_eq_true (by simp only [iN, hl]; exact c2))) rfl
      · rw [if_neg (by rintro (h | h) <;> omega), if_pos rfl]
        obtain ⟨hg, ha⟩ := chk4_ok hrw h
        obtain ⟨a, rfl⟩ : ∃ a : Nat, v = (a : Int) := ⟨v.toNat, by omega⟩
        have k := tg_3 ⟨g, s, (a : Int), thZ g s a, [], [], [], 0, 0, 0, 0, 0, 0, 0, 0, false, false⟩ c e0 (decide_eq_false c1) (decide_eq_false (by simp only [iN, hl]; exact c2)) (through_ct hg ha a (by omega))
        simp only [lI_len] at k
        exact CT.path mix Try.func14 hb hn k
  · rw [if_pos h, if_neg h]
    exact CT.pathW mix Try.func14 hb hn (tg_0 ⟨g, s, v, [], [], [], [], chk4 g s, 0, 0, 0, 0, 0, 0, 0, false, false⟩ c (by simpa using h)) rfl

theorem rThroughG_ct {g : List (List Int)} {s : List Bool} (hrw : Rows g) (v : Int) : CT Try.prog 15 [] [.lst (gL g), .lst (boL s), .int .i64 v] [] (thT (thE g s v) (thL g s v)) := by
  have hl := gL_len g
  have c := check4_ct (s := s) hrw
  have hb : Try.f15.body = some (bodyOf Try.f15) := by kernel_rfl
  have hn : [AV.lst (gL g), .lst (boL s), .int .i64 v].length ≤ Try.f15.ntmps := Nat.le_of_ble_eq_true rfl
  unfold thL thE
  by_cases h : chk4 g s = 0
  · rw [if_neg (by simp [h])]
    rw [h] at c
    have e0 : ((0 : Int) != 0) = false := rfl
    by_cases c1 : v < 0
    · rw [if_pos (.inl c1)]
      exact CT.pathW mix Try.func15 hb hn (rth_1 ⟨g, s, v, [], [], [], [], 0, 0, 0, 0, 0, 0, 0, 0, false, false⟩ c e0 (decide_eq_true c1)) rfl
    · by_cases c2 : (g.length : Int) ≤ v
      · rw [if_pos (.inr c2)]
        exact CT.pathW mix Try.func15 hb hn (rth_2 ⟨g, s, v, [], [], [], [], 0, 0, 0, 0, 0, 0, 0, 0, false, false⟩ c e0 (decide_eq_false c1) (decide_eq_true (by simp only [iN, hl]; exact c2))) rfl
      · rw [if_neg (by rintro (h | h) <;> omega), if_pos rfl]
        obtain ⟨hg, ha⟩ := chk4_ok hrw h
        obtain ⟨a, rfl⟩ : ∃ a : Nat, v = (a : Int) := ⟨v.toNat, by omega⟩
        have k := rth_3 ⟨g, s, (a : Int), thZ g s a, [], [], [], 0, 0, 0, 0, 0, 0, 0, 0, false, false⟩ c e0 (decide_eq_false c1) (decide_eq_false (by simp only [iN, hl]; exact c2)) (rthrough_ct hg a (by omega))
        simp only [lI_len] at k
        exact CT.path mix Try.func15 hb hn k
  · rw [if_pos h, if_neg h]
    exact CT.pathW mix Try.func15 hb hn (rth_0 ⟨g, s, v, [], [], [], [], chk4 g s, 0, 0, 0, 0, 0, 0, 0, false, false⟩ c (by simpa using h)) rfl

def girF (o p : List Int) : List Int := if 0 < p.length ∧ (o = [] ∨ p.length < o.length) then p else o
noncomputable def girN (g : List (List Int)) (s : List Bool) : Nat → List Int
  | 0 => []
  | v + 1 => girF (girN g s v) (thZ g s v)
noncomputable def girL (g : List (List Int)) (s : List Bool) : List Int := if chk4 g s = 0 then girN g s g.length else []

noncomputable def qgi (g : List (List Int)) (s : List Bool) (p o : List Int) (i : Nat) : QE := ⟨g, s, 0, p, o, [], [], 0, i, 0, 0, 0, 0, 0, 0, false, false⟩
noncomputable def st12S (g : List (List Int)) (s : List Bool) (o : List Int) (i : Nat) : St := match o with
  | [] => la12 (qgi g s [] [] i)
  | _ => lb12 (qgi g s [] o i)
theorem st12S_ne {g : List (List Int)} {s : List Bool} {o : List Int} (h : o ≠ []) (i : Nat) : st12S g s o i = lb12 (qgi g s [] o i) := by
  cases o with
  | nil => exact absurd rfl h
  | cons _ _ => rfl

theorem GirthG_ct {g : List (List Int)} {s : List Bool} (hrw : Rows g) : CT Try.prog 12 [] [.lst (gL g), .lst (boL s)] [] (thT (chk4 g s) (girL g s)) := by
  have hl := gL_len g
  have c := gcheckG_ct (s := s) hrw
  have hb : Try.f12.body = some (bodyOf Try.f12) := by kernel_rfl
  have hn : [AV.lst (gL g), .lst (boL s)].length ≤ Try.f12.ntmps := Nat.le_of_ble_eq_true rfl
  unfold girL
  by_cases h : chk4 g s = 0
  · rw [if_pos h]
    rw [h] at c ⊢
    obtain ⟨hg, ha⟩ := chk4_ok hrw h
    have hgl := hg.len
    have run : ∀ res, (girN g s g.length = [] → res = .tup [.int .i64 0, .nils, .int .i64 0]) → (girN g s g.length ≠ [] → res = thT 0 (girN g s g.length)) →
        T Try.prog 0 (.loop (loopC (bodyOf Try.f12) 0)) (la12 (qgi g s [] [] 0)) (TK Try.prog 0 (Fin Try.prog Try.f12 0 [] res) (loopK (bodyOf Try.f12) 0)) := by
      intro res hnil hsome
      refine T.loop (fun i : Nat => st12S g s (girN g s i) i) (fun i => i ≤ g.length) (fun i => g.length + 1 - i) 0 (Nat.zero_le _) ?_
      intro i hi
      by_cases hil : i < g.length
      · have ct := through_ct hg ha i hil
        have hs1 : girN g s (i + 1) = girF (girN g s i) (thZ g s i) := rfl
        have next : ∀ st, Ren 0 st (st12S g s (girN g s (i + 1)) (i + 1)) → ∃ j, Ren 0 st (st12S g s (girN g s j) j) ∧ j ≤ g.length ∧ g.length + 1 - j < g.length + 1 - i := fun st hst => ⟨i + 1, hst, hil, by omega⟩
        rw [hs1] at next
        generalize thZ g s i = p at ct next
        generalize girN g s i = o at next
        have hpl := lI_len p
        have hol := lI_len o
        have dk : decide (iN i < iN g.length) = true := decide_eq_true (by simp only [iN]; omega)
        have wi : IntKind.i64.wrap (iN i + 1) = ((i + 1 : Nat) : Int) := wrap_nat i (by omega)
        unfold girF at next
        by_cases hp : 0 < p.length
        · have hpne : p ≠ [] := by intro e; rw [e] at hp; simp at hp
          cases o with
          | nil =>
            rw [if_pos ⟨hp, .inl rfl⟩, st12S_ne hpne] at next
            refine T.path mix (gar_0 (qgi g s p [] i) dk ct (decide_eq_true (by simp only [iN, qgi, hpl]; omega)) ?_)
            intro st hst
            simp only [wi, qgi] at hst
            exact next st hst
          | cons o0 o1 =>
            by_cases hlt : p.length < (o0 :: o1).length
            · rw [if_pos ⟨hp, .inr hlt⟩, st12S_ne hpne] at next
              refine T.path mix (gbr_0 (qgi g s p (o0 :: o1) i) dk ct (decide_eq_true (by simp only [iN, qgi, hpl]; omega)) (by simp [qgi]) (decide_eq_true (by simp only [iN, qgi, hpl, hol]; omega)) ?_)
              intro st hst
              simp only [wi, qgi] at hst
              exact next st hst
            · rw [if_neg (fun h => h.2.elim (fun e => by cases e) hlt)] at next
              refine T.path mix (gbr_1 (qgi g s p (o0 :: o1) i) dk ct (decide_eq_true (by simp only [iN, qgi, hpl]; omega)) (by simp [qgi]) (decide_eq_false (by simp only [iN, qgi, hpl, hol]; omega)) ?_)
              intro st hst
              simp only [wi, qgi] at hst
              exact next st hst
        · rw [if_neg (fun h => hp h.1)] at next
          cases o with
          | nil =>
            refine T.path mix (gar_1 (qgi g s p [] i) dk ct (decide_eq_false (by simp only [iN, qgi, hpl]; omega)) ?_)
            intro st hst
            simp only [wi, qgi] at hst
            exact next st hst
          | cons o0 o1 =>
            refine T.path mix (gbr_2 (qgi g s p (o0 :: o1) i) dk ct (decide_eq_false (by simp only [iN, qgi, hpl]; omega)) ?_)
            intro st hst
            simp only [wi, qgi] at hst
            exact next st hst
      · obtain rfl : i = g.length := by omega
        have dn : decide (iN g.length < iN g.length) = false := decide_eq_false (by omega)
        generalize girN g s g.length = o at hnil hsome
        cases o with
        | nil =>
          rw [hnil rfl]
          exact T.out mix (gax_0 (qgi g s [] [] g.length) dn)
        | cons o0 o1 =>
          rw [hsome (by simp)]
          have k := gbx_0 (qgi g s [] (o0 :: o1) g.length) dn
          simp only [lI_len, qgi] at k
          exact T.out mix k
    by_cases hz : girN g s g.length = []
    · refine CT.pathW mix Try.func12 hb hn (res := .tup [.int .i64 0, .nils, .int .i64 0]) (gi_1 ⟨g, s, 0, [], [], [], [], 0, 0, 0, 0, 0, 0, 0, 0, false, false⟩ c rfl ?_) (by rw [hz]; rfl)
      simp only [hl]
      exact run _ (fun _ => rfl) (fun h => absurd hz h)
    · refine CT.path mix Try.func12 hb hn (gi_1 ⟨g, s, 0, [], [], [], [], 0, 0, 0, 0, 0, 0, 0, 0, false, false⟩ c rfl ?_)
      simp only [hl]
      exact run _ (fun h => absurd h hz) (fun _ => rfl)
  · rw [if_neg h]
    exact CT.pathW mix Try.func12 hb hn (gi_0 ⟨g, s, 0, [], [], [], [], chk4 g s, 0, 0, 0, 0, 0, 0, 0, false, false⟩ c (by simpa using h)) rfl

theorem rGirthG_ct {g : List (List Int)} {s : List Bool} (hrw : Rows g) : CT Try.prog 13 [] [.lst (gL g), .lst (boL s)] [] (thT (chk4 g s) (girL g s)) := by
  have hl := gL_len g
  have c := check4_ct (s := s) hrw
  have hb : Try.f13.body = some (bodyOf Try.f13) := by kernel_rfl
  have hn : [AV.lst (gL g), .lst (boL s)].length ≤ Try.f13.ntmps := Nat.le_of_ble_eq_true rfl
  unfold girL
  by_cases h : chk4 g s = 0
  · rw [if_pos h]
    rw [h] at c ⊢
    obtain ⟨hg, ha⟩ := chk4_ok hrw h
    have hgl := hg.len
    refine CT.path mix Try.func13 hb hn (rgi_1 ⟨g, s, 0, [], [], [], [], 0, 0, 0, 0, 0, 0, 0, 0, false, false⟩ c rfl (T.nil ?_))
    refine T.loop (fun i : Nat => lo13 (qgi g s [] (girN g s i) i)) (fun i => i ≤ g.length) (fun i => g.length + 1 - i) 0 (Nat.zero_le _) ?_
    intro i hi
    by_cases hil : i < g.length
    · have ct := rthrough_ct hg i hil
      have hs1 : girN g s (i + 1) = girF (girN g s i) (thZ g s i) := rfl
      have next : ∀ st, Ren 0 st (lo13 (qgi g s [] (girN g s (i + 1)) (i + 1))) → ∃ j, Ren 0 st (lo13 (qgi g s [] (girN g s j) j)) ∧ j ≤ g.length ∧ g.length + 1 - j < g.length + 1 - i := fun st hst => ⟨i + 1, hst, hil, by omega⟩
      rw [hs1] at next
      generalize thZ g s i = p at ct next
      generalize girN g s i = o at next
      have hpl := lI_len p
      have hol := lI_len o
      have dk : decide (iN i < iN (gL g).length) = true := decide_eq_true (by simp only [iN, hl]; omega)
      have wi : IntKind.i64.wrap (iN i + 1) = ((i + 1 : Nat) : Int) := wrap_nat i (by omega)
      unfold girF at next
      by_cases hp : 0 < p.length
      · have dp : decide (0 < iN (p.map (AV.int .i64)).length) = true := decide_eq_true (by simp only [iN, hpl]; omega)
        by_cases ho : o = []
        · rw [if_pos ⟨hp, .inl ho⟩] at next
          refine T.path mix (rgr_0 (qgi g s p o i) dk ct dp (by simp [qgi, ho, iN]) ?_)
          intro st hst
          simp only [wi, qgi] at hst
          exact next st hst
        · have hol0 : (iN (o.map (AV.int .i64)).length == 0) = false := by
            simp only [iN, hol, beq_eq_false_iff_ne, ne_eq]
            intro e
            exact ho (List.length_eq_zero_iff.1 (by omega))
          by_cases hlt : p.length < o.length
          · rw [if_pos ⟨hp, .inr hlt⟩] at next
            refine T.path mix (rgr_1 (qgi g s p o i) dk ct dp hol0 (decide_eq_true (by simp only [iN, qgi, hpl, hol]; omega)) ?_)
            intro st hst
            simp only [wi, qgi] at hst
            exact next st hst
          · rw [if_neg (fun h => h.2.elim ho hlt)] at next
            refine T.path mix (rgr_2 (qgi g s p o i) dk ct dp hol0 (decide_eq_false (by simp only [iN, qgi, hpl, hol]; omega)) ?_)
            intro st hst
            simp only [wi, qgi] at hst
            exact next st hst
      · rw [if_neg (fun h => hp h.1)] at next
        refine T.path mix (rgr_3 (qgi g s p o i) dk ct (decide_eq_false (by simp only [iN, qgi, hpl]; omega)) ?_)
        intro st hst
        simp only [wi, qgi] at hst
        exact next st hst
    · obtain rfl : i = g.length := by omega
      have k := rgx_0 (qgi g s [] (girN g s g.length) g.length) (decide_eq_false (by simp only [iN, qgi, hl]; omega))
      simp only [lI_len, qgi] at k
      exact T.out mix k
  · rw [if_neg h]
    exact CT.pathW mix Try.func13 hb hn (rgi_0 ⟨g, s, 0, [], [], [], [], chk4 g s, 0, 0, 0, 0, 0, 0, 0, false, false⟩ c (by simpa using h)) rfl
/-! Closed walks. -/
def ClsP (g : List (List Int)) (s : List Bool) (o : List Int) : Prop := o ≠ [] ∧ (∀ x ∈ o, 0 ≤ x ∧ x < (g.length : Int) ∧ s.getD x.toNat false = false) ∧ ∀ i, i < o.length → o.getD ((i + 1) % o.length) 0 ∈ g.getD (o.getD i 0).toNat []
open Classical in
noncomputable def clsB (g : List (List Int)) (s : List Bool) (o : List Int) : Bool := decide (chk4 g s = 0 ∧ ClsP g s o)
theorem clsB_iff {g : List (List Int)} {s : List Bool} {o : List Int} : clsB g s o = true ↔ chk4 g s = 0 ∧ ClsP g s o := by simp [clsB]

def anyN (r : List Int) (x : Int) : Nat → Bool
  | 0 => false
  | a + 1 => anyN r x a || (r.getD a 0 == x)
theorem anyN_iff {r : List Int} {x : Int} : ∀ n, anyN r x n = true ↔ ∃ j, j < n ∧ r.getD j 0 = x := by
  intro n
  induction n with
  | zero => simp [anyN]
  | succ n ih =>
    rw [anyN, Bool.or_eq_true, ih, beq_iff_eq]
    constructor
    · rintro (⟨j, hj, e⟩ | e)
      · exact ⟨j, by omega, e⟩
      · exact ⟨n, by omega, e⟩
    · rintro ⟨j, hj, e⟩
      by_cases ej : j = n
      · exact .inr (by rw [← ej]; exact e)
      · exact .inl ⟨j, by omega, e⟩

theorem get_mem {o : List Int} {i : Nat} (h : i < o.length) : o.getD i 0 ∈ o := by
  rw [List.getD_eq_getElem?_getD, List.getElem?_eq_getElem h]
  exact List.getElem_mem h
theorem mem_get {o : List Int} {x : Int} (h : x ∈ o) : ∃ i, i < o.length ∧ o.getD i 0 = x := by
  obtain ⟨i, hi, e⟩ := List.mem_iff_getElem.1 h
  exact ⟨i, hi, by rw [List.getD_eq_getElem?_getD, List.getElem?_eq_getElem hi]; exact e⟩

theorem asc_len {g : List (List Int)} {s : List Bool} (hg : OkG g s) (ha : Asc g) {v : Nat} (hv : v < g.length) : (g.getD v []).length ≤ g.length := by
  have hget := fun i => row_get hg hv (i := i)
  have hs := ha v hv
  generalize g.getD v [] = r at hget hs
  have key : ∀ i, i < r.length → (i : Int) ≤ r.getD i 0 := by
    intro i
    induction i with
    | zero => intro h; obtain ⟨w, hw, _⟩ := hget 0 h; omega
    | succ i ih => intro h; have h1 := ih (by omega); have h2 := hs (i + 1) (by omega) h; simp only [Nat.add_sub_cancel] at h2; omega
  by_cases h : r.length = 0
  · omega
  · have h1 := key (r.length - 1) (by omega)
    obtain ⟨w, hw, hw1, _⟩ := hget (r.length - 1) (by omega)
    omega

def prevW (o : List Int) (i : Nat) : Int := if i = 0 then o.getD (o.length - 1) 0 else o.getD (i - 1) 0
noncomputable def qcl (g : List (List Int)) (s : List Bool) (o r : List Int) (i a : Nat) (x y : Int) (b : Bool) : QE := ⟨g, s, 0, [], o, [], r, 0, i, a, 0, x, y, 0, 0, b, false⟩

theorem ci_run {g : List (List Int)} {s : List Bool} (o r : List Int) (i : Nat) (hi : i < o.length) (hol : o.length ≤ 9223372036854775807) (hr : r.length ≤ 9223372036854775807) (x : Int) {R : St → Prop} {post : Exit → St → Prop}
    (hy : x ∉ r → Pass post (Fin Try.prog Try.f17 0 [] (.bool false)))
    (hR : x ∈ r → ∀ st, Ren 0 st (lo17 (qcl g s o [] (i + 1) 0 0 x false)) → R st) :
    T Try.prog 0 (.loop (loopC (loopC (bodyOf Try.f17) 0) 0)) (li17 (qcl g s o r i 0 x 0 false)) (TK Try.prog 0 (andThen R post) (loopK (loopC (bodyOf Try.f17) 0) 0)) := by
  refine T.loop (fun a : Nat => li17 (qcl g s o r i a x 0 (anyN r x a))) (fun a => a ≤ r.length) (fun a => r.length + 1 - a) 0 (Nat.zero_le _) ?_
  intro a hal
  by_cases h : a < r.length
  · have hg1 := lI_get h
    have dk : decide (iN a < iN r.length) = true := decide_eq_true (by simp only [iN]; omega)
    have wa : IntKind.i64.wrap (iN a + 1) = ((a + 1 : Nat) : Int) := wrap_nat a (by omega)
    cases hb : anyN r x a with
    | true =>
      refine T.path mix (cir_0 ⟨g, s, 0, [], o, [], r, 0, i, a, 0, x, 0, r.getD a 0, 0, true, false⟩ dk (by simp [iN]) hg1 rfl ?_)
      intro st hst
      simp only [wa] at hst
      refine ⟨a + 1, ?_, h, by omega⟩
      rw [anyN, hb, Bool.true_or]
      exact hst
    | false =>
      refine T.path mix (cir_1 ⟨g, s, 0, [], o, [], r, 0, i, a, 0, x, 0, r.getD a 0, 0, false, false⟩ dk (by simp [iN]) hg1 rfl ?_)
      intro st hst
      simp only [wa] at hst
      refine ⟨a + 1, ?_, h, by omega⟩
      rw [anyN, hb, Bool.false_or]
      exact hst
  · obtain rfl : a = r.length := by omega
    have dn : decide (iN r.length < iN r.length) = false := decide_eq_false (by omega)
    have hm : anyN r x r.length = true ↔ x ∈ r := by
      rw [anyN_iff]
      exact ⟨fun ⟨j, hj, e⟩ => by rw [← e]; exact get_mem hj, mem_get⟩
    cases hb : anyN r x r.length with
    | true =>
      refine T.out mix (cix_1 (qcl g s o r i r.length x 0 true) dn rfl ?_)
      intro st hst
      simp only [qcl, wrap_nat i (show i < 9223372036854775807 by omega)] at hst
      exact hR (hm.1 hb) st hst
    | false =>
      exact T.out mix (cix_0 (qcl g s o r i r.length x 0 false) dn rfl (hy fun h => by rw [hm.2 h] at hb; cases hb))

theorem ClsP.prev {g : List (List Int)} {s : List Bool} {o : List Int} (h : ClsP g s o) {i : Nat} (hi : i < o.length) : prevW o i ∈ o ∧ o.getD i 0 ∈ g.getD (prevW o i).toNat [] := by
  unfold prevW
  split
  · rename_i e
    subst e
    refine ⟨get_mem (by omega), ?_⟩
    have := h.2.2 (o.length - 1) (by omega)
    rwa [show o.length - 1 + 1 = o.length by omega, Nat.mod_self] at this
  · rename_i e
    refine ⟨get_mem (by omega), ?_⟩
    have := h.2.2 (i - 1) (by omega)
    rwa [show i - 1 + 1 = i by omega, Nat.mod_eq_of_lt hi] at this

theorem ClsP.of {g : List (List Int)} {s : List Bool} {o : List Int} (h0 : o ≠ []) (h : ∀ i, i < o.length → (0 ≤ o.getD i 0 ∧ o.getD i 0 < (g.length : Int) ∧ s.getD (o.getD i 0).toNat false = false) ∧ o.getD i 0 ∈ g.getD (prevW o i).toNat []) : ClsP g s o := by
  refine ⟨h0, fun x hx => ?_, fun i hi => ?_⟩
  · obtain ⟨i, hi, rfl⟩ := mem_get hx
    exact (h i hi).1
  · by_cases e : i + 1 = o.length
    · rw [e, Nat.mod_self]
      have := (h 0 (by omega)).2
      unfold prevW at this
      rw [if_pos rfl] at this
      rwa [show i = o.length - 1 by omega]
    · rw [Nat.mod_eq_of_lt (by omega)]
      have := (h (i + 1) (by omega)).2
      unfold prevW at this
      rwa [if_neg (by omega), Nat.add_sub_cancel] at this

theorem closed_ct {g : List (List Int)} {s : List Bool} (hrw : Rows g) (o : List Int) (hol : o.length ≤ 9223372036854775807) : CT Try.prog 17 [] [.lst (gL g), .lst (boL s), lI o] [] (.bool (clsB g s o)) := by
  have hl := gL_len g
  have c := gcheckG_ct (s := s) hrw
  have hlo := lI_len o
  have hb : Try.f17.body = some (bodyOf Try.f17) := by kernel_rfl
  have hn : [AV.lst (gL g), .lst (boL s), lI o].length ≤ Try.f17.ntmps := Nat.le_of_ble_eq_true rfl
  have hcb := clsB_iff (g := g) (s := s) (o := o)
  generalize clsB g s o = b at hcb
  have hf : ¬ (chk4 g s = 0 ∧ ClsP g s o) → b = false := fun h => Bool.eq_false_iff.2 fun e => h (hcb.1 e)
  by_cases h : chk4 g s = 0
  · rw [h] at c
    obtain ⟨hg, ha⟩ := chk4_ok hrw h
    by_cases h0 : o = []
    · rw [hf fun h => h.2.1 h0]
      exact CT.path mix Try.func17 hb hn (cl_1 ⟨g, s, 0, [], o, [], [], 0, 0, 0, 0, 0, 0, 0, 0, false, false⟩ c rfl (by simp [iN, h0]))
    · have hop : 0 < o.length := List.length_pos_iff.2 h0
      have hw1 : IntKind.i64.wrap (iN (o.map (AV.int .i64)).length - 1) = ((o.length - 1 : Nat) : Int) := by
        rw [hlo]; exact wrapM1 o.length hop (by omega)
      refine CT.path mix Try.func17 hb hn (cl_2 ⟨g, s, 0, [], o, [], [], 0, 0, 0, 0, 0, o.getD (o.length - 1) 0, 0, 0, false, false⟩ c rfl (by simp only [iN, hlo, beq_eq_false_iff_ne, ne_eq]; omega) (by simp only [hw1]; omega) (by simp only [hw1, Int.toNat_natCast]; exact lI_get (by omega)) ?_)
      simp only [hlo]
      refine T.loop (fun i : Nat => lo17 (qcl g s o [] i 0 0 (prevW o i) false)) (fun i => i ≤ o.length ∧ ∀ j, j < i → (0 ≤ o.getD j 0 ∧ o.getD j 0 < (g.length : Int) ∧ s.getD (o.getD j 0).toNat false = false) ∧ o.getD j 0 ∈ g.getD (prevW o j).toNat []) (fun i => o.length + 1 - i) 0 ⟨Nat.zero_le _, fun j hj => by omega⟩ ?_
      rintro i ⟨hi, hok⟩
      by_cases hil : i < o.length
      · have hg1 := lI_get hil
        have dk : decide (iN i < iN o.length) = true := decide_eq_true (by simp only [iN]; omega)
        by_cases b1 : o.getD i 0 < 0
        · rw [hf fun hc => by have := hc.2.2.1 _ (get_mem hil); omega]
          exact T.out mix (cla_0 ⟨g, s, 0, [], o, [], [], 0, i, 0, 0, o.getD i 0, prevW o i, 0, 0, false, false⟩ dk (by simp [iN]) hg1 (decide_eq_true b1))
        · by_cases b2 : (g.length : Int) ≤ o.getD i 0
          · rw [hf fun hc => by have := hc.2.2.1 _ (get_mem hil); omega]
            exact T.out mix (cla_1 ⟨g, s, 0, [], o, [], [], 0, i, 0, 0, o.getD i 0, prevW o i, 0, 0, false, false⟩ dk (by simp [iN]) hg1 (decide_eq_false b1) (decide_eq_true (by simp only [iN, hl]; exact b2)))
          · have hsv := boL_get (s := s) (v := (o.getD i 0).toNat) (by rw [hg.sh]; omega)
            by_cases b3 : s.getD (o.getD i 0).toNat false = true
            · rw [hf fun hc => by have := (hc.2.2.1 _ (get_mem hil)).2.2; rw [b3] at this; cases this]
              exact T.out mix (cla_2 ⟨g, s, 0, [], o, [], [], 0, i, 0, 0, o.getD i 0, prevW o i, 0, 0, false, s.getD (o.getD i 0).toNat false⟩ dk (by simp [iN]) hg1 (decide_eq_false b1) (decide_eq_false (by simp only [iN, hl]; exact b2)) (by simp only; omega) hsv b3)
            · have b3 := Bool.eq_false_iff.2 b3
              by_cases b4 : prevW o i < 0
              · rw [hf fun hc => by have := hc.2.2.1 _ (hc.2.prev hil).1; omega]
                exact T.out mix (cla_3 ⟨g, s, 0, [], o, [], [], 0, i, 0, 0, o.getD i 0, prevW o i, 0, 0, false, s.getD (o.getD i 0).toNat false⟩ dk (by simp [iN]) hg1 (decide_eq_false b1) (decide_eq_false (by simp only [iN, hl]; exact b2)) (by simp only; omega) hsv b3 (decide_eq_true b4))
              · by_cases b5 : (g.length : Int) ≤ prevW o i
                · rw [hf fun hc => by have := hc.2.2.1 _ (hc.2.prev hil).1; omega]
                  exact T.out mix (cla_4 ⟨g, s, 0, [], o, [], [], 0, i, 0, 0, o.getD i 0, prevW o i, 0, 0, false, s.getD (o.getD i 0).toNat false⟩ dk (by simp [iN]) hg1 (decide_eq_false b1) (decide_eq_false (by simp only [iN, hl]; exact b2)) (by simp only; omega) hsv b3 (decide_eq_false b4) (decide_eq_true (by simp only [iN, hl]; exact b5)))
                · have hrow := gL_get (g := g) (v := (prevW o i).toNat) (by omega)
                  have hr1 := (hg.row (prevW o i).toNat (by omega)).1
                  refine T.path mix (cla_5 ⟨g, s, 0, [], o, [], g.getD (prevW o i).toNat [], 0, i, 0, 0, o.getD i 0, prevW o i, 0, 0, false, s.getD (o.getD i 0).toNat false⟩ dk (by simp [iN]) hg1 (decide_eq_false b1) (decide_eq_false (by simp only [iN, hl]; exact b2)) (by simp only; omega) hsv b3 (decide_eq_false b4) (decide_eq_false (by simp only [iN, hl]; exact b5)) (by simp only; omega) hrow ?_)
                  simp only [lI_len]
                  refine ci_run o _ i hil hol hr1 (o.getD i 0) (fun hm => ?_) (fun hm st hst => ?_)
                  · rw [hf fun hc => hm (hc.2.prev hil).2]
                    exact fun st hst => TK.ret hst _
                  · refine ⟨i + 1, ?_, ⟨hil, fun j hj => ?_⟩, by omega⟩
                    · have e : prevW o (i + 1) = o.getD i 0 := by unfold prevW; rw [if_neg (by omega), Nat.add_sub_cancel]
                      rw [e]
                      exact hst
                    · by_cases ej : j = i
                      · rw [ej]; exact ⟨⟨by omega, by omega, b3⟩, hm⟩
                      · exact hok j (by omega)
      · obtain rfl : i = o.length := by omega
        rw [hcb.2 ⟨h, ClsP.of h0 hok⟩]
        exact T.out mix (clx_0 (qcl g s o [] o.length 0 0 (prevW o o.length) false) (decide_eq_false (by simp only [iN, qcl]; omega)))
  · rw [hf fun hc => h hc.1]
    exact CT.path mix Try.func17 hb hn (cl_0 ⟨g, s, 0, [], o, [], [], chk4 g s, 0, 0, 0, 0, 0, 0, 0, false, false⟩ c (by simpa using h))

theorem rclosed_ct {g : List (List Int)} {s : List Bool} (hrw : Rows g) (o : List Int) (hol : o.length ≤ 9223372036854775807) : CT Try.prog 18 [] [.lst (gL g), .lst (boL s), lI o] [] (.bool (clsB g s o)) := by
  have hl := gL_len g
  have c := check4_ct (s := s) hrw
  have hlo := lI_len o
  have hb : Try.f18.body = some (bodyOf Try.f18) := by kernel_rfl
  have hn : [AV.lst (gL g), .lst (boL s), lI o].length ≤ Try.f18.ntmps := Nat.le_of_ble_eq_true rfl
  have hcb := clsB_iff (g := g) (s := s) (o := o)
  generalize clsB g s o = b at hcb
  have hf : ¬ (chk4 g s = 0 ∧ ClsP g s o) → b = false := fun h => Bool.eq_false_iff.2 fun e => h (hcb.1 e)
  by_cases h : chk4 g s = 0
  · rw [h] at c
    obtain ⟨hg, ha⟩ := chk4_ok hrw h
    by_cases h0 : o = []
    · rw [hf fun h => h.2.1 h0]
      exact CT.path mix Try.func18 hb hn (cr_1 ⟨g, s, 0, [], o, [], [], 0, 0, 0, 0, 0, 0, 0, 0, false, false⟩ c rfl (by simp [iN, h0]))
    · have hop : 0 < o.length := List.length_pos_iff.2 h0
      refine CT.path mix Try.func18 hb hn (cr_2 ⟨g, s, 0, [], o, [], [], 0, 0, 0, 0, 0, 0, 0, 0, false, false⟩ c rfl (by simp only [iN, hlo, beq_eq_false_iff_ne, ne_eq]; omega) ?_)
      refine T.loop (fun i : Nat => la18 (qcl g s o [] i 0 0 0 false)) (fun i => i ≤ o.length ∧ ∀ j, j < i → (0 ≤ o.getD j 0 ∧ o.getD j 0 < (g.length : Int) ∧ s.getD (o.getD j 0).toNat false = false)) (fun i => o.length + 1 - i) 0 ⟨Nat.zero_le _, fun j hj => by omega⟩ ?_
      rintro i ⟨hi, hok⟩
      by_cases hil : i < o.length
      · have hg1 := lI_get hil
        have dk : decide (iN i < iN (o.map (AV.int .i64)).length) = true := decide_eq_true (by simp only [iN, hlo]; omega)
        have wi : IntKind.i64.wrap (iN i + 1) = ((i + 1 : Nat) : Int) := wrap_nat i (by omega)
        by_cases b1 : o.getD i 0 < 0
        · rw [hf fun hc => by have := hc.2.2.1 _ (get_mem hil); omega]
          exact T.out mix (crr_0 ⟨g, s, 0, [], o, [], [], 0, i, 0, 0, o.getD i 0, 0, 0, 0, false, false⟩ dk (by simp [iN]) hg1 (decide_eq_true b1))
        · by_cases b2 : (g.length : Int) ≤ o.getD i 0
          · rw [hf fun hc => by have := hc.2.2.1 _ (get_mem hil); omega]
            exact T.out mix (crr_1 ⟨g, s, 0, [], o, [], [], 0, i, 0, 0, o.getD i 0, 0, 0, 0, false, false⟩ dk (by simp [iN]) hg1 (decide_eq_false b1) (decide_eq_true (by simp only [iN, hl]; exact b2)))
          · have hsv := boL_get (s := s) (v := (o.getD i 0).toNat) (by rw [hg.sh]; omega)
            by_cases b3 : s.getD (o.getD i 0).toNat false = true
            · rw [hf fun hc => by have := (hc.2.2.1 _ (get_mem hil)).2.2; rw [b3] at this; cases this]
              exact T.out mix (crr_2 ⟨g, s, 0, [], o, [], [], 0, i, 0, 0, o.getD i 0, 0, 0, 0, false, s.getD (o.getD i 0).toNat false⟩ dk (by simp [iN]) hg1 (decide_eq_false b1) (decide_eq_false (by simp only [iN, hl]; exact b2)) (by simp only; omega) hsv b3)
            · have b3 := Bool.eq_false_iff.2 b3
              refine T.path mix (crr_3 ⟨g, s, 0, [], o, [], [], 0, i, 0, 0, o.getD i 0, 0, 0, 0, false, s.getD (o.getD i 0).toNat false⟩ dk (by simp [iN]) hg1 (decide_eq_false b1) (decide_eq_false (by simp only [iN, hl]; exact b2)) (by simp only; omega) hsv b3 ?_)
              intro st hst
              simp only [wi] at hst
              refine ⟨i + 1, hst, ⟨hil, fun j hj => ?_⟩, by omega⟩
              by_cases ej : j = i
              · rw [ej]; exact ⟨by omega, by omega, b3⟩
              · exact hok j (by omega)
      · obtain rfl : i = o.length := by omega
        refine T.out mix (crx_0 (qcl g s o [] o.length 0 0 0 false) (decide_eq_false (by simp only [iN, qcl, hlo]; omega)) ?_)
        refine T.loop (fun i : Nat => lb18 (qcl g s o [] i 0 0 0 false)) (fun i => i ≤ o.length ∧ ∀ j, j < i → o.getD ((j + 1) % o.length) 0 ∈ g.getD (o.getD j 0).toNat []) (fun i => o.length + 1 - i) 0 ⟨Nat.zero_le _, fun j hj => by omega⟩ ?_
        rintro i ⟨hi, hed⟩
        by_cases hil : i < o.length
        · have hg1 := lI_get hil
          obtain ⟨r0, r1, _⟩ := hok i hil
          have dk : decide (iN i < iN (o.map (AV.int .i64)).length) = true := decide_eq_true (by simp only [iN, hlo]; omega)
          have wi : IntKind.i64.wrap (iN i + 1) = ((i + 1 : Nat) : Int) := wrap_nat i (by omega)
          have hrow := gL_get (g := g) (v := (o.getD i 0).toNat) (by omega)
          have hal := asc_len hg ha (v := (o.getD i 0).toNat) (by omega)
          have hgl := hg.len
          have hmod : (IntKind.i64.wrap (iN i + 1)).tmod (iN (o.map (AV.int .i64)).length) = (((i + 1) % o.length : Nat) : Int) := by
            rw [wi, hlo]; rfl
          have hml := Nat.mod_lt (i + 1) hop
          have hz1 := lI_get hml
          have ch := has_ct (g.getD (o.getD i 0).toNat []) (o.getD ((i + 1) % o.length) 0) (by omega)
          cases hh : hasZ (g.getD (o.getD i 0).toNat []) (o.getD ((i + 1) % o.length) 0) with
          | false =>
            rw [hh] at ch
            rw [hf fun hc => hasZ_false hh (hc.2.2.2 i hil)]
            exact T.out mix (csr_0 ⟨g, s, 0, [], o, [], g.getD (o.getD i 0).toNat [], 0, i, 0, 0, o.getD i 0, 0, o.getD ((i + 1) % o.length) 0, 0, false, false⟩ dk (by simp [iN]) hg1 r0 hrow (by simp only [iN, hlo]; omega) (by simp only [hmod]; omega) (by simp only [hmod, Int.toNat_natCast]; exact hz1) ch rfl)
          | true =>
            rw [hh] at ch
            have hm : o.getD ((i + 1) % o.length) 0 ∈ g.getD (o.getD i 0).toNat [] := by
              unfold hasZ at hh
              cases hfd : fnd (fun j => (g.getD (o.getD i 0).toNat []).getD j 0 == o.getD ((i + 1) % o.length) 0) 0 (g.getD (o.getD i 0).toNat []).length with
              | none => rw [hfd] at hh; cases hh
              | some j =>
                obtain ⟨a1, _, a2⟩ := fnd_some hfd
                rw [← beq_iff_eq.1 a1]
                exact get_mem (by omega)
            refine T.path mix (csr_1 ⟨g, s, 0, [], o, [], g.getD (o.getD i 0).toNat [], 0, i, 0, 0, o.getD i 0, 0, o.getD ((i + 1) % o.length) 0, 0, true, false⟩ dk (by simp [iN]) hg1 r0 hrow (by simp only [iN, hlo]; omega) (by simp only [hmod]; omega) (by simp only [hmod, Int.toNat_natCast]; exact hz1) ch rfl ?_)
            intro st hst
            simp only [wi] at hst
            refine ⟨i + 1, hst, ⟨hil, fun j hj => ?_⟩, by omega⟩
            by_cases ej : j = i
            · rw [ej]; exact hm
            · exact hed j (by omega)
        · obtain rfl : i = o.length := by omega
          rw [hcb.2 ⟨h, h0, fun x hx => by obtain ⟨j, hj, rfl⟩ := mem_get hx; exact hok j hj, hed⟩]
          exact T.out mix (csx_0 (qcl g s o [] o.length 0 0 0 false) (decide_eq_false (by simp only [iN, qcl, hlo]; omega)))
  · rw [hf fun hc => h hc.1]
    exact CT.path mix Try.func18 hb hn (cr_0 ⟨g, s, 0, [], o, [], [], chk4 g s, 0, 0, 0, 0, 0, 0, 0, false, false⟩ c (by simpa using h))
end Go.Proofs.Ytcdgphdieemjcaa

/-! Contracts. -/
open Go Go.AX Go.Proofs
set_option maxRecDepth 100000
set_option maxHeartbeats 1000000
set_option linter.unusedVariables false
set_option linter.unusedSimpArgs false
namespace Go.Proofs.Ytcdgphdieemjcaa
/-! Shortest closed walks. -/
theorem chk4_of {g : List (List Int)} {s : List Bool} (hg : OkG g s) (ha : Asc g) : chk4 g s = 0 := by
  unfold chk4
  rw [if_neg (by have := hg.len; omega)]
  have hb : badG g = false := by
    unfold badG
    have : fnd (badR g) 0 g.length = none := fnd_false fun v _ hv => by
      unfold badR
      have hv : v < g.length := by omega
      have hget := fun i => row_get hg hv (i := i)
      have hs := ha v hv
      have : fnd (badE (g.getD v []) g.length v) 0 (g.getD v []).length = none := fnd_false fun i _ hi => by
        obtain ⟨w, hw, hw1, hw2⟩ := hget i (by omega)
        unfold badE
        rw [decide_eq_false (by omega), decide_eq_false (by omega), Bool.false_or, Bool.false_or, beq_eq_false_iff_ne.2 (by omega), Bool.false_or]
        by_cases h0 : 0 < i
        · have := hs i h0 (by omega)
          rw [decide_eq_false (p := (g.getD v []).getD i 0 ≤ (g.getD v []).getD (i - 1) 0) (by omega), Bool.and_false]
        · rw [decide_eq_false h0, Bool.false_and]
      rw [this]; rfl
    rw [this]; rfl
  rw [if_neg (by simp [hb]), if_neg (by simp [hg.sh])]

theorem thZ_spec {g : List (List Int)} {s : List Bool} (hg : OkG g s) {v : Nat} (hv : v < g.length) (hne : thZ g s v ≠ []) :
    ∃ b m : Nat, s.getD v false = false ∧ b < g.length ∧ (b : Int) ∈ g.getD v [] ∧ (distL g s v g.length).getD b 0 = (m : Int) ∧ 1 ≤ m ∧ thZ g s v = (v : Int) :: (List.range m).map (wkZ g (distL g s v g.length) b) ∧
      ∀ w ∈ g.getD v [], 0 ≤ (distL g s v g.length).getD w.toNat 0 → (m : Int) ≤ (distL g s v g.length).getD w.toNat 0 := by
  unfold thZ at hne ⊢
  by_cases hso : s.getD v false = true
  · rw [if_pos hso] at hne; exact absurd rfl hne
  · rw [if_neg hso] at hne ⊢
    have hso := Bool.eq_false_iff.2 hso
    have hD := dst_ok hg hv
    generalize distL g s v g.length = d at hne hD ⊢
    have hbo := best_ok (d := d) (row_nn hg hv) _ (Nat.le_refl _)
    generalize hbb : bestN d (g.getD v []) (g.getD v []).length = b at hbo hne ⊢
    unfold thD at hne ⊢
    rcases hbo with ⟨rfl, _⟩ | ⟨k, hk, hbk, hk0, hmin, _⟩
    · rw [if_pos (by decide)] at hne; exact absurd rfl hne
    · obtain ⟨w, hw, hw1, hw2⟩ := row_get hg hv hk
      rw [hw] at hbk
      subst hbk
      rw [hw, Int.toNat_natCast] at hk0 hmin
      rw [if_neg (by omega)]
      refine ⟨w, (d.getD w 0).toNat, hso, hw1, by rw [← hw]; exact row_mem hk, by omega, ?_, by rw [Int.toNat_natCast], fun x hx h0 => ?_⟩
      · by_cases e : d.getD w 0 = 0
        · exact absurd (zero_goal hD hw1 e) hw2
        · omega
      · obtain ⟨j, hj, rfl⟩ := mem_row hx
        have := hmin j hj h0
        omega

theorem girN_spec (g : List (List Int)) (s : List Bool) : ∀ k, (girN g s k = [] ∧ ∀ v, v < k → thZ g s v = []) ∨ ∃ v, v < k ∧ girN g s k = thZ g s v ∧ thZ g s v ≠ [] ∧ ∀ u, u < k → thZ g s u ≠ [] → (thZ g s v).length ≤ (thZ g s u).length := by
  intro k
  induction k with
  | zero => exact .inl ⟨rfl, fun v hv => by omega⟩
  | succ k ih =>
    have e : girN g s (k + 1) = girF (girN g s k) (thZ g s k) := rfl
    rw [e]
    unfold girF
    by_cases hp : thZ g s k = []
    · rw [if_neg (fun h => by rw [hp] at h; exact absurd h.1 (by simp))]
      rcases ih with ⟨h1, h2⟩ | ⟨v, hv, h1, h2, h3⟩
      · refine .inl ⟨h1, fun v hv => ?_⟩
        by_cases ev : v = k
        · rw [ev]; exact hp
        · exact h2 v (by omega)
      · refine .inr ⟨v, by omega, h1, h2, fun u hu hne => ?_⟩
        by_cases eu : u = k
        · rw [eu] at hne; exact absurd hp hne
        · exact h3 u (by omega) hne
    · have hpl : 0 < (thZ g s k).length := List.length_pos_iff.2 hp
      rcases ih with ⟨h1, h2⟩ | ⟨v, hv, h1, h2, h3⟩
      · rw [if_pos ⟨hpl, .inl h1⟩]
        refine .inr ⟨k, by omega, rfl, hp, fun u hu hne => ?_⟩
        by_cases eu : u = k
        · rw [eu]; exact Nat.le_refl _
        · exact absurd (h2 u (by omega)) hne
      · rw [h1]
        by_cases hlt : (thZ g s k).length < (thZ g s v).length
        · rw [if_pos ⟨hpl, .inr hlt⟩]
          refine .inr ⟨k, by omega, rfl, hp, fun u hu hne => ?_⟩
          by_cases eu : u = k
          · rw [eu]; exact Nat.le_refl _
          · have := h3 u (by omega) hne; omega
        · rw [if_neg (fun h => h.2.elim h2 hlt)]
          refine .inr ⟨v, by omega, rfl, h2, fun u hu hne => ?_⟩
          by_cases eu : u = k
          · rw [eu]; omega
          · exact h3 u (by omega) hne

theorem thZ_len {g : List (List Int)} {s : List Bool} (hg : OkG g s) {v : Nat} (hv : v < g.length) : (thZ g s v).length ≤ 1000 := by
  by_cases h : thZ g s v = []
  · rw [h]; simp
  · obtain ⟨b, m, _, hb, _, hm, _, e, _⟩ := thZ_spec hg hv h
    have := ((dst_ok hg hv).bnd b hb).2
    have := hg.len
    rw [e]
    simp only [List.length_cons, List.length_map, List.length_range]
    omega
theorem girN_len {g : List (List Int)} {s : List Bool} (hg : OkG g s) : (girN g s g.length).length ≤ 1000 := by
  rcases girN_spec g s g.length with ⟨h, _⟩ | ⟨v, hv, h1, _⟩
  · rw [h]; simp
  · rw [h1]; exact thZ_len hg hv
end Go.Proofs.Ytcdgphdieemjcaa

/-! The paths of a function, by evaluation. -/
open Go Go.AX Go.Proofs
set_option maxRecDepth 100000
set_option maxHeartbeats 4000000
set_option linter.unusedVariables false
namespace Go.Proofs.Ytcdgphdieemjcaa
def kg6 : List (List Int) := [[1], [0, 2], [0]]
def ks6 : List Bool := [false, false, false]
noncomputable def sk8 (u : Unit) : St := { n := Try.f8.ntmps, fr := [], hp := [] }
noncomputable def sk8b (u : Unit) : St := { n := Try.f8.ntmps, fr := [(0, .bool false)], hp := [] }
noncomputable def sk8c (u : Unit) : St := { n := Try.f8.ntmps, fr := [(0, .bool false), (1, .lst (gL kg6)), (2, .lst (boL ks6))], hp := [] }
def ck8 (u : Unit) : Nat → FuncId → List AV → List (Option Blk) → Hint := fun dst f args _ => match f with
  | 12 => .call [] [] [] (.tup [.int .i64 2, lI [0, 1], .int .i64 0])
  | 14 => .call [] [] [] (.tup [.int .i64 3, lI [2, 0, 1], .int .i64 0])
  | 16 => match args with
    | [_, .sl b _ _] => .call [] [b] [] (.bool true)
    | _ => .call [] [] [] (.bool true)
  | 17 => match args with
    | [_, _, .sl b _ _] => .call [] [b] [] (.bool true)
    | _ => .call [] [] [] (.bool true)
  | _ => .no
def ek8 (u : Unit) : List (Nat × AV) := []
structure QM where
  L : List Int
  W : List Int
  g : List (List Int)
  s : List Bool
  o : List Int
  p : List Int
  t : List Int
  i : Nat
  v : Nat
  w : Nat
  x : Int
  y : Int
  z : Int
  l : Int
  b : Bool
  r : List Int
  m1 : Nat
  m2 : Nat
  h : List (List Int)
def mkS (q : QM) : Nat → FuncId → List AV → List (Option Blk) → Hint := fun dst f args hp => match f with
  | 8 => .call [] [] [] (.bool true)
  | 9 => match args with
    | [.ptr b _ _, _] => .call [b] [] [tapeB q.L q.m1] (.lst (gL q.g))
    | _ => .no
  | 10 => match args with
    | [.ptr b _ _, _] => .call [b] [] [tapeB q.L q.m2] (.lst (boL q.s))
    | _ => .no
  | 12 => .call [] [] [] (.tup [.int .i64 (iN q.o.length), lI q.o, .int .i64 0])
  | 14 => .call [] [] [] (.tup [.int .i64 (iN q.p.length), lI q.p, .int .i64 0])
  | 17 => match args with
    | [_, _, .sl b _ _] => .call [] [b] [] (.bool q.b)
    | _ => .call [] [] [] (.bool q.b)
  | 19 => .call [] [] [] (.bool false)
  | 20 => .call [] [] [] (.int .i64 q.y)
  | _ => .no
noncomputable def st5 (q : QM) : St := { n := Try.f5.ntmps, fr := [(0, lI q.L)], hp := [] }
noncomputable def lo5 (q : QM) : St := { n := Try.f5.ntmps, fr := [(4, .lst (gL q.g)), (5, .lst (boL q.s)), (6, .int .i64 (iN q.o.length)), (8, .int .i64 0), (9, .int .i64 q.l), (10, .int .i64 (iN q.i))], hp := [] }
def eLe (q : QM) : List (Nat × AV) := [(59, .int .i64 (iN q.i))]
noncomputable def st4 (q : QM) : St := { n := Try.f4.ntmps, fr := [(0, lI q.L), (1, lI q.W)], hp := [] }
noncomputable def la4 (q : QM) : St := { n := Try.f4.ntmps, fr := [(1, lI q.W), (6, .lst (gL q.g)), (7, .lst (boL q.s)), (8, .int .i64 (iN q.o.length)), (9, lI q.o), (11, .int .i64 (iN q.i))], hp := [] }
noncomputable def lz4 (q : QM) : St := { n := Try.f4.ntmps, fr := [(1, lI q.W), (6, .lst (gL q.g)), (7, .lst (boL q.s)), (8, .int .i64 (iN q.o.length)), (12, .nils), (13, .int .i64 (iN q.i))], hp := [] }
noncomputable def lb4 (q : QM) : St := { n := Try.f4.ntmps, fr := [(1, lI q.W), (6, .lst (gL q.g)), (7, .lst (boL q.s)), (8, .int .i64 (iN q.o.length)), (12, .sl 0 0 q.t.length), (13, .int .i64 (iN q.i))], hp := [some (dB q.t)] }
def eSh (q : QM) : List (Nat × AV) := [(62, .int .i64 q.x), (83, .int .i64 q.x)]
theorem hk0_0 (u : Unit) {post : Exit → St → Prop} {R : St → Prop} (hR : ∀ st, Ren 0 st (St.mk 58 [(0, AV.bool false)] []) → R st) : ∃ o' st' q', go Try.prog ({ dec := [], els := ek8 u, calls := ck8 u, unroll := false } : HT) 0 4000 (.inl (sL (sR 0 (bodyOf Try.f8)))) [] (sk8 u) = some (o', st', q') ∧ q' ∧ Go.AX.Rest Try.prog 0 (andThen R post) st' o' :=
  endN_spec (σ := []) (fz := []) (vars := [0]) (show endN 0 [] [] [0] (go Try.prog ({ dec := [], els := ek8 u, calls := ck8 u, unroll := false } : HT) 0 4000 (.inl (sL (sR 0 (bodyOf Try.f8)))) [] (sk8 u)) = some (St.mk 58 [(0, AV.bool false)] [], (((True ∧ True) ∧ True) ∧ (True ∧ True))) by kernel_rfl) ⟨⟨⟨trivial, trivial⟩, trivial⟩, ⟨trivial, trivial⟩⟩ hR
theorem hk1_0 (u : Unit) {post : Exit → St → Prop} {R : St → Prop} (hR : ∀ st, Ren 0 st (St.mk 58 [(0, AV.bool false), (1, AV.sl 0 0 3), (2, AV.lst [AV.bool false, AV.bool false, AV.bool false])] [some (Blk.mk [AV.lst [AV.int IntKind.i64 1], AV.lst [AV.int IntKind.i64 0, AV.int IntKind.i64 2], AV.lst [AV.int IntKind.i64 0]] 1 true true)]) → R st) : ∃ o' st' q', go Try.prog ({ dec := [], els := ek8 u, calls := ck8 u, unroll := false } : HT) 0 4000 (.inl (sL (sR 1 (bodyOf Try.f8)))) [] (sk8b u) = some (o', st', q') ∧ q' ∧ Go.AX.Rest Try.prog 0 (andThen R post) st' o' :=
  endN_spec (σ := [3]) (fz := [0,1,2,4]) (vars := [0,1,2]) (show endN 0 [3] [0,1,2,4] [0,1,2] (go Try.prog ({ dec := [], els := ek8 u, calls := ck8 u, unroll := false } : HT) 0 4000 (.inl (sL (sR 1 (bodyOf Try.f8)))) [] (sk8b u)) = some (St.mk 58 [(0, AV.bool false), (1, AV.sl 0 0 3), (2, AV.lst [AV.bool false, AV.bool false, AV.bool false])] [some (Blk.mk [AV.lst [AV.int IntKind.i64 1], AV.lst [AV.int IntKind.i64 0, AV.int IntKind.i64 2], AV.lst [AV.int IntKind.i64 0]] 1 true true)], (((True ∧ (True ∧ (True ∧ ((True ∧ (True ∧ (True ∧ True))) ∧ (True ∧ ((True ∧ True) ∧ ((True ∧ True) ∧ True))))))) ∧ True) ∧ (True ∧ (True ∧ ((nat_lit 3 = nat_lit 3) ∧ (((nat_lit 1 = nat_lit 1) ∧ ((nat_lit 2 = nat_lit 2) ∧ ((nat_lit 1 = nat_lit 1) ∧ True))) ∧ True)))))) by kernel_rfl) ⟨⟨⟨trivial, ⟨trivial, ⟨trivial, ⟨⟨trivial, ⟨trivial, ⟨trivial, trivial⟩⟩⟩, ⟨trivial, ⟨⟨trivial, trivial⟩, ⟨⟨trivial, trivial⟩, trivial⟩⟩⟩⟩⟩⟩⟩, trivial⟩, ⟨trivial, ⟨trivial, ⟨(by first | decide | exact Int.NonNeg.mk _), ⟨⟨(by first | decide | exact Int.NonNeg.mk _), ⟨(by first | decide | exact Int.NonNeg.mk _), ⟨(by first | decide | exact Int.NonNeg.mk _), trivial⟩⟩⟩, trivial⟩⟩⟩⟩⟩ hR
theorem hk2_0 (u : Unit) (h1 : (CT Try.prog (nat_lit 12) [] [AV.lst [AV.lst [AV.int IntKind.i64 (1 : Int)], AV.lst [AV.int IntKind.i64 (0 : Int), AV.int IntKind.i64 (2 : Int)], AV.lst [AV.int IntKind.i64 (0 : Int)]], AV.lst [AV.bool false, AV.bool false, AV.bool false]] [] (AV.tup [AV.int IntKind.i64 (2 : Int), AV.lst [AV.int IntKind.i64 (0 : Int), AV.int IntKind.i64 (1 : Int)], AV.int IntKind.i64 (0 : Int)]))) (h2 : (CT Try.prog (nat_lit 14) [] [AV.lst [AV.lst [AV.int IntKind.i64 (1 : Int)], AV.lst [AV.int IntKind.i64 (0 : Int), AV.int IntKind.i64 (2 : Int)], AV.lst [AV.int IntKind.i64 (0 : Int)]], AV.lst [AV.bool false, AV.bool false, AV.bool false], AV.int IntKind.i64 (2 : Int)] [] (AV.tup [AV.int IntKind.i64 (3 : Int), AV.lst [AV.int IntKind.i64 (2 : Int), AV.int IntKind.i64 (0 : Int), AV.int IntKind.i64 (1 : Int)], AV.int IntKind.i64 (0 : Int)]))) (h3 : (CT Try.prog (nat_lit 16) [] [AV.lst [AV.int IntKind.i64 (0 : Int), AV.int IntKind.i64 (1 : Int)], AV.lst [AV.int IntKind.i64 (0 : Int), AV.int IntKind.i64 (1 : Int)]] [] (AV.bool true))) (h4 : (CT Try.prog (nat_lit 16) [] [AV.lst [AV.int IntKind.i64 (2 : Int), AV.int IntKind.i64 (0 : Int), AV.int IntKind.i64 (1 : Int)], AV.lst [AV.int IntKind.i64 (2 : Int), AV.int IntKind.i64 (0 : Int), AV.int IntKind.i64 (1 : Int)]] [] (AV.bool true))) (h5 : (CT Try.prog (nat_lit 17) [] [AV.lst [AV.lst [AV.int IntKind.i64 (1 : Int)], AV.lst [AV.int IntKind.i64 (0 : Int), AV.int IntKind.i64 (2 : Int)], AV.lst [AV.int IntKind.i64 (0 : Int)]], AV.lst [AV.bool false, AV.bool false, AV.bool false], AV.lst [AV.int IntKind.i64 (0 : Int), AV.int IntKind.i64 (1 : Int)]] [] (AV.bool true))) : ∃ o' st' q', go Try.prog ({ dec := [], els := ek8 u, calls := ck8 u, unroll := false } : HT) 0 4000 (.inl (sR 2 (bodyOf Try.f8))) [] (sk8c u) = some (o', st', q') ∧ q' ∧ Go.AX.Rest Try.prog 0 (Fin Try.prog Try.f8 0 [] (AV.bool true)) st' o' :=
  endF_spec (σ := []) (fz := []) (show endF Try.prog Try.f8 0 [] [] (go Try.prog ({ dec := [], els := ek8 u, calls := ck8 u, unroll := false } : HT) 0 4000 (.inl (sR 2 (bodyOf Try.f8))) [] (sk8c u)) = some ([], AV.bool true, ((((True ∧ True) ∧ ((True ∧ True) ∧ ((True ∧ (True ∧ (True ∧ (True ∧ ((type_of% h1) ∧ True))))) ∧ ((True ∧ True) ∧ ((True ∧ True) ∧ ((True ∧ True) ∧ ((True ∧ True) ∧ ((True ∧ True) ∧ ((True ∧ True) ∧ ((True ∧ True) ∧ True)))))))))) ∧ (((True ∧ True) ∧ ((True ∧ True) ∧ ((True ∧ (True ∧ (True ∧ (True ∧ (True ∧ ((type_of% h2) ∧ True)))))) ∧ ((True ∧ True) ∧ ((True ∧ True) ∧ ((True ∧ True) ∧ ((True ∧ True) ∧ ((True ∧ True) ∧ ((True ∧ True) ∧ ((True ∧ True) ∧ True)))))))))) ∧ (((True ∧ True) ∧ ((True ∧ True) ∧ ((True ∧ True) ∧ ((True ∧ (True ∧ True)) ∧ ((True ∧ (True ∧ True)) ∧ ((True ∧ (True ∧ True)) ∧ ((True ∧ True) ∧ ((True ∧ (True ∧ True)) ∧ ((True ∧ (True ∧ True)) ∧ ((True ∧ (True ∧ True)) ∧ ((True ∧ True) ∧ ((True ∧ (True ∧ True)) ∧ ((True ∧ True) ∧ ((True ∧ (True ∧ (True ∧ (True ∧ ((nat_lit 2 = nat_lit 2) ∧ ((type_of% h3) ∧ (∀ (blk : Blk), blk ∈ [] → ImmB blk))))))) ∧ ((True ∧ (True ∧ True)) ∧ ((True ∧ True) ∧ ((True ∧ (True ∧ True)) ∧ ((True ∧ (True ∧ True)) ∧ ((True ∧ (True ∧ True)) ∧ ((True ∧ True) ∧ ((True ∧ (True ∧ True)) ∧ ((True ∧ True) ∧ ((True ∧ (True ∧ (True ∧ (True ∧ ((nat_lit 3 = nat_lit 3) ∧ ((type_of% h4) ∧ (∀ (blk : Blk), blk ∈ [] → ImmB blk))))))) ∧ ((True ∧ (True ∧ True)) ∧ ((True ∧ True) ∧ ((True ∧ (True ∧ True)) ∧ ((True ∧ (True ∧ True)) ∧ ((True ∧ True) ∧ ((True ∧ (True ∧ (True ∧ (True ∧ (True ∧ (True ∧ ((nat_lit 2 = nat_lit 2) ∧ ((type_of% h5) ∧ (∀ (blk : Blk), blk ∈ [] → ImmB blk))))))))) ∧ ((True ∧ (True ∧ True)) ∧ ((True ∧ True) ∧ True))))))))))))))))))))))))))))))) ∧ True))) ∧ (True ∧ True))) by kernel_rfl) ⟨⟨⟨⟨trivial, trivial⟩, ⟨⟨trivial, trivial⟩, ⟨⟨trivial, ⟨trivial, ⟨trivial, ⟨trivial, ⟨h1, trivial⟩⟩⟩⟩⟩, ⟨⟨trivial, trivial⟩, ⟨⟨trivial, trivial⟩, ⟨⟨trivial, trivial⟩, ⟨⟨trivial, trivial⟩, ⟨⟨trivial, trivial⟩, ⟨⟨trivial, trivial⟩, ⟨⟨trivial, trivial⟩, trivial⟩⟩⟩⟩⟩⟩⟩⟩⟩⟩, ⟨⟨⟨trivial, trivial⟩, ⟨⟨trivial, trivial⟩, ⟨⟨trivial, ⟨trivial, ⟨trivial, ⟨trivial, ⟨trivial, ⟨h2, trivial⟩⟩⟩⟩⟩⟩, ⟨⟨trivial, trivial⟩, ⟨⟨trivial, trivial⟩, ⟨⟨trivial, trivial⟩, ⟨⟨trivial, trivial⟩, ⟨⟨trivial, trivial⟩, ⟨⟨trivial, trivial⟩, ⟨⟨trivial, trivial⟩, trivial⟩⟩⟩⟩⟩⟩⟩⟩⟩⟩, ⟨⟨⟨trivial, trivial⟩, ⟨⟨trivial, trivial⟩, ⟨⟨trivial, trivial⟩, ⟨⟨trivial, ⟨trivial, trivial⟩⟩, ⟨⟨trivial, ⟨trivial, trivial⟩⟩, ⟨⟨trivial, ⟨trivial, trivial⟩⟩, ⟨⟨trivial, trivial⟩, ⟨⟨trivial, ⟨trivial, trivial⟩⟩, ⟨⟨trivial, ⟨trivial, trivial⟩⟩, ⟨⟨trivial, ⟨trivial, trivial⟩⟩, ⟨⟨trivial, trivial⟩, ⟨⟨trivial, ⟨trivial, trivial⟩⟩, ⟨⟨trivial, trivial⟩, ⟨⟨trivial, ⟨trivial, ⟨trivial, ⟨trivial, ⟨(by first | decide | exact Int.NonNeg.mk _), ⟨h3, (by intro _ h; cases h)⟩⟩⟩⟩⟩⟩, ⟨⟨trivial, ⟨trivial, trivial⟩⟩, ⟨⟨trivial, trivial⟩, ⟨⟨trivial, ⟨trivial, trivial⟩⟩, ⟨⟨trivial, ⟨trivial, trivial⟩⟩, ⟨⟨trivial, ⟨trivial, trivial⟩⟩, ⟨⟨trivial, trivial⟩, ⟨⟨trivial, ⟨trivial, trivial⟩⟩, ⟨⟨trivial, trivial⟩, ⟨⟨trivial, ⟨trivial, ⟨trivial, ⟨trivial, ⟨(by first | decide | exact Int.NonNeg.mk _), ⟨h4, (by intro _ h; cases h)⟩⟩⟩⟩⟩⟩, ⟨⟨trivial, ⟨trivial, trivial⟩⟩, ⟨⟨trivial, trivial⟩, ⟨⟨trivial, ⟨trivial, trivial⟩⟩, ⟨⟨trivial, ⟨trivial, trivial⟩⟩, ⟨⟨trivial, trivial⟩, ⟨⟨trivial, ⟨trivial, ⟨trivial, ⟨trivial, ⟨trivial, ⟨trivial, ⟨(by first | decide | exact Int.NonNeg.mk _), ⟨h5, (by intro _ h; cases h)⟩⟩⟩⟩⟩⟩⟩⟩, ⟨⟨trivial, ⟨trivial, trivial⟩⟩, ⟨⟨trivial, trivial⟩, trivial⟩⟩⟩⟩⟩⟩⟩⟩⟩⟩⟩⟩⟩⟩⟩⟩⟩⟩⟩⟩⟩⟩⟩⟩⟩⟩⟩⟩⟩⟩⟩, trivial⟩⟩⟩, ⟨trivial, trivial⟩⟩
end Go.Proofs.Ytcdgphdieemjcaa

/-! Contracts. -/
open Go Go.AX Go.Proofs
set_option maxRecDepth 100000
set_option maxHeartbeats 1000000
set_option linter.unusedVariables false
set_option linter.unusedSimpArgs false
namespace Go.Proofs.Ytcdgphdieemjcaa
theorem rows_ok {g : List (List Int)} {s : List Bool} (hg : OkG g s) : Rows g := fun v hv => (hg.row v hv).1
theorem girth_ct {g : List (List Int)} {s : List Bool} (hg : OkG g s) (ha : Asc g) : CT Try.prog 12 [] [.lst (gL g), .lst (boL s)] [] (.tup [.int .i64 (iN (girN g s g.length).length), lI (girN g s g.length), .int .i64 0]) := by
  have h := GirthG_ct (s := s) (rows_ok hg)
  have hc := chk4_of hg ha
  unfold girL at h
  rw [if_pos hc, hc] at h
  exact h

theorem kg6_ok : OkG kg6 ks6 := by
  refine ⟨by decide, fun v hv => ?_, rfl⟩
  have : v < 3 := hv
  match v, this with
  | 0, _ => exact ⟨by decide, by decide⟩
  | 1, _ => exact ⟨by decide, by decide⟩
  | 2, _ => exact ⟨by decide, by decide⟩
theorem kg6_asc : Asc kg6 := by
  intro v hv i h0 hi
  have : v < 3 := hv
  match v, this with
  | 0, _ => exact absurd hi (by show ¬ i < 1; omega)
  | 1, _ =>
    have hi : i < 2 := hi
    obtain rfl : i = 1 := by omega
    decide
  | 2, _ => exact absurd hi (by show ¬ i < 1; omega)
theorem kgir : girN kg6 ks6 3 = [0, 1] := by decide +kernel
theorem kth2 : thZ kg6 ks6 2 = [2, 0, 1] := by decide +kernel
theorem kcls : ClsP kg6 ks6 [0, 1] := by unfold ClsP; decide +kernel

theorem known6_ct : CT Try.prog 8 [] [] [] (.bool true) := by
  have hb : Try.f8.body = some (bodyOf Try.f8) := by kernel_rfl
  have a1 := girth_ct kg6_ok kg6_asc
  rw [show kg6.length = 3 from rfl, kgir] at a1
  have a2 := Through_ct kg6_ok kg6_asc 2 (by decide)
  rw [kth2] at a2
  have a3 := closed_ct (s := ks6) (rows_ok kg6_ok) [0, 1] (by decide)
  rw [clsB_iff.2 ⟨chk4_of kg6_ok kg6_asc, kcls⟩] at a3
  refine CT.of Try.func8 hb (Nat.zero_le _) (T.cut (by kernel_rfl) (T.path mix (hk0_0 () fun st hst => T.ren hst ?_)))
  refine T.cut (by kernel_rfl) (T.path mix (hk1_0 () fun st hst => T.ren hst ?_))
  rw [sR_succ 1 (bodyOf Try.f8) (by kernel_rfl)]
  refine T.ren ?_ (T.path mix (hk2_0 () a1 a2 (sameInts_ct [0, 1] (by decide)) (sameInts_ct [2, 0, 1] (by decide)) a3))
  exact okRen_spec (σ := []) (fz := [0]) (vars := [0, 1, 2]) (p := (True ∧ ((3 = [1, 2, 3].length) ∧ (True ∧ True)))) rfl (by kernel_rfl) ⟨trivial, rfl, trivial, trivial⟩
noncomputable def qm (L W : List Int) (g : List (List Int)) (s : List Bool) (o p t : List Int) (i : Nat) (x y l : Int) (b : Bool) (kk kk2 : Nat) : QM := ⟨L, W, g, s, o, p, t, i, 0, 0, x, y, 0, l, b, [], kk, kk2, []⟩

noncomputable def st4S (g : List (List Int)) (s : List Bool) (o W t : List Int) (i : Nat) : St := match t with
  | [] => lz4 (qm [] W g s o [] [] i 0 0 0 false 0 0)
  | _ => lb4 (qm [] W g s o [] t i 0 0 0 false 0 0)
theorem ints6 {n : Nat} {es : List AV} (h : ∀ x ∈ es, ShV Try.prog n 3 x) : ∃ L : List Int, es = L.map (AV.int .i64) := by
  induction es with
  | nil => exact ⟨[], rfl⟩
  | cons x es ih =>
    obtain ⟨L, rfl⟩ := ih fun y hy => h y (List.mem_cons_of_mem _ hy)
    obtain ⟨i, _, rfl⟩ := (h x (by simp)).intD Try.underlying3
    exact ⟨i :: L, rfl⟩
end Go.Proofs.Ytcdgphdieemjcaa

/-! The paths of a function, by evaluation. -/
open Go Go.AX Go.Proofs
set_option maxRecDepth 100000
set_option maxHeartbeats 4000000
set_option linter.unusedVariables false
namespace Go.Proofs.Ytcdgphdieemjcaa
structure QN where
  L : List Int
  W : List Int
  g : List (List Int)
  s : List Bool
  o : List Int
  p : List Int
  t : List Int
  i : Nat
  v : Nat
  w : Nat
  x : Int
  y : Int
  z : Int
  b : Bool
  r : List Int
  m1 : Nat
  m2 : Nat
  h : List (List Int)
  kk : Nat
  s' : List Bool
  g' : List (List Int)
  e1 : Int
  e2 : Int
def cGr (q : QN) : Nat → FuncId → List AV → List (Option Blk) → Hint := fun dst f args hp => match f with
  | 8 => .call [] [] [] (.bool true)
  | 9 => match args with
    | [.ptr b _ _, _] => .call [b] [] [tapeB q.L q.m1] (.lst (gL q.g))
    | _ => .no
  | 10 => match args with
    | [.ptr b _ _, _] => .call [b] [] [tapeB q.L q.m2] (.lst (boL q.s))
    | _ => .no
  | 11 => nextG q.L args hp (match dst with | 46 => iN q.i | 58 => iN q.v | _ => iN q.w)
  | 12 => .call [] [] [] (.tup [.int .i64 (match dst with | 36 => q.z | 51 => q.y | _ => q.x), lI (match dst with | 36 => q.o | 51 => q.p | _ => q.t), .int .i64 0])
  | 19 => .call [] [] [] (.bool q.b)
  | 21 => .call [] [] [] (lI q.t)
  | _ => .no
def eGr (q : QN) : List (Nat × AV) := [(72, lI q.r), (82, lI q.r)]
noncomputable def st6 (q : QN) : St := { n := Try.f6.ntmps, fr := [(0, lI q.L)], hp := [] }
noncomputable def s63 (q : QN) : St := { n := Try.f6.ntmps, fr := [(3, .ptr 0 0 0)], hp := [some (tapeB q.L 0)] }
noncomputable def s64 (q : QN) : St := { n := Try.f6.ntmps, fr := [(3, .ptr 0 0 0), (4, .lst (gL q.g))], hp := [some (tapeB q.L q.m1)] }
noncomputable def s66 (q : QN) : St := { n := Try.f6.ntmps, fr := [(3, .ptr 0 0 0), (4, .lst (gL q.g)), (5, .lst (boL q.s))], hp := [some (tapeB q.L q.m2)] }
noncomputable def s67 (q : QN) : St := { n := Try.f6.ntmps, fr := [(3, .ptr 0 0 0), (4, .lst (gL q.g)), (5, .lst (boL q.s)), (6, .int .i64 q.z), (8, .int .i64 0)], hp := [some (tapeB q.L q.m2)] }
noncomputable def s68 (q : QN) : St := { n := Try.f6.ntmps, fr := [(3, .ptr 0 0 0), (4, .lst (gL q.g)), (5, .lst (boL q.s)), (6, .int .i64 q.z), (8, .int .i64 0), (9, .sl 1 0 (boL q.s).length)], hp := [some (tapeB q.L q.m2), some { es := boL q.s, z := 1 }] }
noncomputable def s69 (q : QN) : St := { n := Try.f6.ntmps, fr := [(3, .ptr 0 0 0), (4, .lst (gL q.g)), (5, .lst (boL q.s)), (6, .int .i64 q.z), (8, .int .i64 0), (9, .lst (boL q.s'))], hp := [some (tapeB q.L (q.m2 + 1))] }
noncomputable def s6a (q : QN) : St := { n := Try.f6.ntmps, fr := [(3, .ptr 0 0 0), (4, .lst (gL q.g)), (5, .lst (boL q.s)), (6, .int .i64 q.z), (8, .int .i64 0), (10, .int .i64 q.y), (12, .int .i64 0)], hp := [some (tapeB q.L (q.m2 + 1))] }
noncomputable def s6b (q : QN) : St := { n := Try.f6.ntmps, fr := [(4, .lst (gL q.g)), (5, .lst (boL q.s)), (6, .int .i64 q.z), (8, .int .i64 0), (10, .int .i64 q.y), (12, .int .i64 0), (13, .int .i64 (iN q.v)), (14, .int .i64 (iN q.w))], hp := [] }
noncomputable def s6c (q : QN) : St := { n := Try.f6.ntmps, fr := [(5, .lst (boL q.s)), (6, .int .i64 q.z), (8, .int .i64 0), (10, .int .i64 q.y), (12, .int .i64 0), (13, .int .i64 (iN q.v)), (14, .int .i64 (iN q.w)), (15, .sl 0 0 (gL q.g).length)], hp := [some { es := gL q.g, z := 1 }] }
noncomputable def s6d (q : QN) : St := { n := Try.f6.ntmps, fr := [(5, .lst (boL q.s)), (6, .int .i64 q.z), (8, .int .i64 0), (10, .int .i64 q.y), (12, .int .i64 0), (15, .lst (gL q.h))], hp := [] }
noncomputable def st3 (q : QN) : St := { n := Try.f3.ntmps, fr := [(0, .lst (gL q.g)), (1, .lst (boL q.s)), (2, lI q.o), (3, .int .i64 q.x), (4, lI q.L)], hp := [] }
noncomputable def lo3z (q : QN) : St := { n := Try.f3.ntmps, fr := [(0, .lst (gL q.g)), (1, .lst (boL q.s)), (2, lI q.o), (3, .int .i64 q.x), (11, .ptr 0 0 0), (12, .int .i64 0)], hp := [some (tapeB q.L q.kk)] }
noncomputable def lo3o (q : QN) : St := { n := Try.f3.ntmps, fr := [(11, .ptr 0 0 0), (12, .int .i64 1)], hp := [some (tapeB q.L q.kk)] }
noncomputable def lo3e (q : QN) : St := { n := Try.f3.ntmps, fr := [(12, .int .i64 2)], hp := [] }
noncomputable def lw3z (q : QN) : St := { n := Try.f3.ntmps, fr := [(0, .lst (gL q.g)), (1, .lst (boL q.s)), (2, .nils), (3, .int .i64 q.x), (11, .ptr 0 0 0), (12, .int .i64 1), (13, .int .i64 q.z)], hp := [some (tapeB q.L q.kk)] }
noncomputable def lw3 (q : QN) : St := { n := Try.f3.ntmps, fr := [(0, .lst (gL q.g)), (1, .lst (boL q.s)), (2, .sl 1 0 q.o.length), (3, .int .i64 q.x), (11, .ptr 0 0 0), (12, .int .i64 1), (13, .int .i64 q.z)], hp := [some (tapeB q.L q.kk), some (dB q.o)] }
def cFi (q : QN) : Nat → FuncId → List AV → List (Option Blk) → Hint := fun dst f args hp => match f with
  | 8 => .call [] [] [] (.bool true)
  | 9 => match args with
    | [.ptr b _ _, _] => .call [b] [] [tapeB q.L q.m1] (.lst (gL q.g'))
    | _ => .no
  | 10 => match args with
    | [.ptr b _ _, _] => .call [b] [] [tapeB q.L q.m2] (.lst (boL q.s'))
    | _ => .no
  | 11 => nextG q.L args hp (match dst with | 46 => q.x | 48 => q.z | _ => q.y)
  | 12 => .call [] [] [] (thT q.e1 q.p)
  | 13 => .call [] [] [] (thT q.e1 q.p)
  | 14 => .call [] [] [] (thT q.e2 q.t)
  | 15 => .call [] [] [] (thT q.e2 q.t)
  | 16 => .call [] [] [] (.bool true)
  | 17 => match args with
    | [_, _, .sl b _ _] => .call [] [b] [] (.bool q.b)
    | _ => .call [] [] [] (.bool q.b)
  | 18 => match args with
    | [_, _, .sl b _ _] => .call [] [b] [] (.bool q.b)
    | _ => .call [] [] [] (.bool q.b)
  | _ => .no
def eFi (q : QN) : List (Nat × AV) := []
theorem xfi_0 (q : QN) (h1 : (CT Try.prog (nat_lit 8) [] [] [] (AV.bool true))) {post : Exit → St → Prop} (ht : T Try.prog 0 (.loop (loopC (bodyOf Try.f3) 0)) (St.mk 131 [(0, AV.lst (gL q.g)), (1, AV.lst (boL q.s)), (2, AV.lst (List.map (AV.int IntKind.i64) q.o)), (3, AV.int IntKind.i64 q.x), (11, AV.ptr 0 0 0), (12, AV.int IntKind.i64 0)] [some (Blk.mk [AV.agg [AV.lst (List.map (AV.int IntKind.i64) q.L), AV.int IntKind.i64 0]] [AV.lst (List.map (AV.int IntKind.i64) q.L), AV.int IntKind.i64 0].length true true)]) (TK Try.prog 0 post (loopK (bodyOf Try.f3) 0))) : ∃ o' st' q', go Try.prog ({ dec := [], els := eFi q, calls := cFi q, unroll := false } : HT) 0 4000 (.inl (bodyOf Try.f3)) [] (st3 q) = some (o', st', q') ∧ q' ∧ Go.AX.Rest Try.prog 0 post st' o' :=
  endR_spec (σ := [0]) (fz := []) (vars := [0,1,2,3,11,12]) (show endR 0 [0] [] [0,1,2,3,11,12] (go Try.prog ({ dec := [], els := eFi q, calls := cFi q, unroll := false } : HT) 0 4000 (.inl (bodyOf Try.f3)) [] (st3 q)) = some (loopC (bodyOf Try.f3) 0, loopK (bodyOf Try.f3) 0, St.mk 131 [(0, AV.lst (gL q.g)), (1, AV.lst (boL q.s)), (2, AV.lst (List.map (AV.int IntKind.i64) q.o)), (3, AV.int IntKind.i64 q.x), (11, AV.ptr 0 0 0), (12, AV.int IntKind.i64 0)] [some (Blk.mk [AV.agg [AV.lst (List.map (AV.int IntKind.i64) q.L), AV.int IntKind.i64 0]] [AV.lst (List.map (AV.int IntKind.i64) q.L), AV.int IntKind.i64 0].length true true)], (((True ∧ True) ∧ ((((type_of% h1) ∧ True) ∧ ((True ∧ True) ∧ True)) ∧ (True ∧ (((True ∧ True) ∧ ((True ∧ True) ∧ ((True ∧ True) ∧ ((True ∧ True) ∧ True)))) ∧ ((True ∧ True) ∧ True))))) ∧ (True ∧ (True ∧ (True ∧ (True ∧ (True ∧ (True ∧ (True ∧ True))))))))) by kernel_rfl) ⟨⟨⟨trivial, trivial⟩, ⟨⟨⟨h1, trivial⟩, ⟨⟨trivial, trivial⟩, trivial⟩⟩, ⟨trivial, ⟨⟨⟨trivial, trivial⟩, ⟨⟨trivial, trivial⟩, ⟨⟨trivial, trivial⟩, ⟨⟨trivial, trivial⟩, trivial⟩⟩⟩⟩, ⟨⟨trivial, trivial⟩, trivial⟩⟩⟩⟩⟩, ⟨trivial, ⟨trivial, ⟨trivial, ⟨trivial, ⟨trivial, ⟨trivial, ⟨trivial, trivial⟩⟩⟩⟩⟩⟩⟩⟩ ht
theorem xfr_0 (q : QN) (h1 : (CT Try.prog 12 [] [AV.lst (gL q.g), AV.lst (boL q.s)] [] (AV.tup [AV.int IntKind.i64 (iN q.p.length), AV.lst (List.map (AV.int IntKind.i64) q.p), AV.int IntKind.i64 q.e1]))) (h2 : (CT Try.prog 13 [] [AV.lst (gL q.g), AV.lst (boL q.s)] [] (AV.tup [AV.int IntKind.i64 (iN q.p.length), AV.lst (List.map (AV.int IntKind.i64) q.p), AV.int IntKind.i64 q.e1]))) (h3 : (CT Try.prog 14 [] [AV.lst (gL q.g), AV.lst (boL q.s), AV.int IntKind.i64 q.x] [] (AV.tup [AV.int IntKind.i64 (iN q.t.length), AV.lst (List.map (AV.int IntKind.i64) q.t), AV.int IntKind.i64 q.e2]))) (h4 : (CT Try.prog 15 [] [AV.lst (gL q.g), AV.lst (boL q.s), AV.int IntKind.i64 q.x] [] (AV.tup [AV.int IntKind.i64 (iN q.t.length), AV.lst (List.map (AV.int IntKind.i64) q.t), AV.int IntKind.i64 q.e2]))) (h5 : ((iN q.p.length != iN q.p.length) = false)) (h6 : ((q.e1 != q.e1) = false)) (h7 : (CT Try.prog 16 [] [AV.lst (List.map (AV.int IntKind.i64) q.p), AV.lst (List.map (AV.int IntKind.i64) q.p)] [] (AV.bool true))) (h8 : ((iN q.t.length != iN q.t.length) = false)) (h9 : ((q.e2 != q.e2) = false)) (h10 : (CT Try.prog 16 [] [AV.lst (List.map (AV.int IntKind.i64) q.t), AV.lst (List.map (AV.int IntKind.i64) q.t)] [] (AV.bool true))) (h11 : (CT Try.prog 17 [] [AV.lst (gL q.g), AV.lst (boL q.s), AV.lst (List.map (AV.int IntKind.i64) q.o)] [] (AV.bool q.b))) (h12 : (CT Try.prog 18 [] [AV.lst (gL q.g), AV.lst (boL q.s), AV.lst (List.map (AV.int IntKind.i64) q.o)] [] (AV.bool q.b))) (h13 : ((!q.b == q.b) = false)) {post : Exit → St → Prop} {R : St → Prop} (hR : ∀ st, Ren 0 st (St.mk 131 [(11, AV.ptr 0 0 0), (12, AV.int IntKind.i64 1)] [some (Blk.mk [AV.agg [AV.lst (List.map (AV.int IntKind.i64) q.L), AV.int IntKind.i64 (iN q.kk)]] 2 true true)]) → R st) : ∃ o' st' q', go Try.prog ({ dec := [(92, false), (96, false), (107, false), (112, false), (129, false)], els := eFi q, calls := cFi q, unroll := false } : HT) 0 4000 (.inl (loopC (bodyOf Try.f3) 0)) [] (lo3z q) = some (o', st', q') ∧ q' ∧ Go.AX.Rest Try.prog 0 (andThen R post) st' o' :=
  endN_spec (σ := [0]) (fz := []) (vars := [11,12]) (show endN 0 [0] [] [11,12] (go Try.prog ({ dec := [(92, false), (96, false), (107, false), (112, false), (129, false)], els := eFi q, calls := cFi q, unroll := false } : HT) 0 4000 (.inl (loopC (bodyOf Try.f3) 0)) [] (lo3z q)) = some (St.mk 131 [(11, AV.ptr 0 0 0), (12, AV.int IntKind.i64 1)] [some (Blk.mk [AV.agg [AV.lst (List.map (AV.int IntKind.i64) q.L), AV.int IntKind.i64 (iN q.kk)]] 2 true true)], ((((True ∧ True) ∧ ((True ∧ True) ∧ True)) ∧ (True ∧ (((True ∧ True) ∧ ((True ∧ True) ∧ True)) ∧ (True ∧ (((True ∧ True) ∧ ((True ∧ True) ∧ ((True ∧ (True ∧ (True ∧ (True ∧ ((type_of% h1) ∧ True))))) ∧ ((True ∧ True) ∧ ((True ∧ True) ∧ ((True ∧ True) ∧ ((True ∧ True) ∧ ((True ∧ True) ∧ ((True ∧ True) ∧ ((True ∧ True) ∧ True)))))))))) ∧ (((True ∧ True) ∧ ((True ∧ True) ∧ ((True ∧ (True ∧ (True ∧ (True ∧ ((type_of% h2) ∧ True))))) ∧ ((True ∧ True) ∧ ((True ∧ True) ∧ ((True ∧ True) ∧ ((True ∧ True) ∧ ((True ∧ True) ∧ ((True ∧ True) ∧ ((True ∧ True) ∧ True)))))))))) ∧ (((True ∧ True) ∧ ((True ∧ True) ∧ ((True ∧ True) ∧ ((True ∧ (True ∧ (True ∧ (True ∧ (True ∧ (True ∧ ((type_of% h3) ∧ True))))))) ∧ ((True ∧ True) ∧ ((True ∧ True) ∧ ((True ∧ True) ∧ ((True ∧ True) ∧ ((True ∧ True) ∧ ((True ∧ True) ∧ ((True ∧ True) ∧ True))))))))))) ∧ (((True ∧ True) ∧ ((True ∧ True) ∧ ((True ∧ True) ∧ ((True ∧ (True ∧ (True ∧ (True ∧ (True ∧ (True ∧ ((type_of% h4) ∧ True))))))) ∧ ((True ∧ True) ∧ ((True ∧ True) ∧ ((True ∧ True) ∧ ((True ∧ True) ∧ ((True ∧ True) ∧ ((True ∧ True) ∧ ((True ∧ True) ∧ True))))))))))) ∧ (((True ∧ True) ∧ ((True ∧ True) ∧ ((True ∧ (True ∧ True)) ∧ (((type_of% h5) ∧ True) ∧ ((True ∧ (True ∧ True)) ∧ ((True ∧ (True ∧ True)) ∧ ((True ∧ (True ∧ (True ∧ True))) ∧ ((True ∧ ((type_of% h6) ∧ True)) ∧ ((True ∧ True) ∧ ((True ∧ (True ∧ True)) ∧ ((True ∧ (True ∧ True)) ∧ ((True ∧ (True ∧ (True ∧ (True ∧ (True ∧ ((type_of% h7) ∧ True)))))) ∧ ((True ∧ (True ∧ True)) ∧ ((True ∧ (True ∧ True)) ∧ ((True ∧ True) ∧ ((True ∧ (True ∧ True)) ∧ ((True ∧ (True ∧ True)) ∧ ((True ∧ (True ∧ (True ∧ True))) ∧ ((True ∧ ((type_of% h8) ∧ True)) ∧ ((True ∧ True) ∧ ((True ∧ (True ∧ True)) ∧ ((True ∧ (True ∧ True)) ∧ ((True ∧ (True ∧ (True ∧ True))) ∧ ((True ∧ ((type_of% h9) ∧ True)) ∧ ((True ∧ True) ∧ ((True ∧ (True ∧ True)) ∧ ((True ∧ (True ∧ True)) ∧ ((True ∧ (True ∧ (True ∧ (True ∧ (True ∧ ((type_of% h10) ∧ True)))))) ∧ ((True ∧ (True ∧ True)) ∧ ((True ∧ (True ∧ True)) ∧ ((True ∧ True) ∧ ((True ∧ (True ∧ True)) ∧ ((True ∧ (True ∧ True)) ∧ ((True ∧ (True ∧ True)) ∧ ((True ∧ (True ∧ (True ∧ (True ∧ (True ∧ (True ∧ (True ∧ ((type_of% h11) ∧ True)))))))) ∧ ((True ∧ (True ∧ True)) ∧ ((True ∧ (True ∧ True)) ∧ ((True ∧ (True ∧ True)) ∧ ((True ∧ (True ∧ (True ∧ (True ∧ (True ∧ (True ∧ (True ∧ ((type_of% h12) ∧ True)))))))) ∧ ((True ∧ (True ∧ (True ∧ True))) ∧ ((True ∧ ((type_of% h13) ∧ True)) ∧ True))))))))))))))))))))))))))))))))))))))))) ∧ (True ∧ (((True ∧ True) ∧ ((True ∧ True) ∧ ((True ∧ True) ∧ True))) ∧ True))))))))))) ∧ (True ∧ (True ∧ (True ∧ True))))) by kernel_rfl) ⟨⟨⟨⟨trivial, trivial⟩, ⟨⟨trivial, trivial⟩, trivial⟩⟩, ⟨trivial, ⟨⟨⟨trivial, trivial⟩, ⟨⟨trivial, trivial⟩, trivial⟩⟩, ⟨trivial, ⟨⟨⟨trivial, trivial⟩, ⟨⟨trivial, trivial⟩, ⟨⟨trivial, ⟨trivial, ⟨trivial, ⟨trivial, ⟨h1, trivial⟩⟩⟩⟩⟩, ⟨⟨trivial, trivial⟩, ⟨⟨trivial, trivial⟩, ⟨⟨trivial, trivial⟩, ⟨⟨trivial, trivial⟩, ⟨⟨trivial, trivial⟩, ⟨⟨trivial, trivial⟩, ⟨⟨trivial, trivial⟩, trivial⟩⟩⟩⟩⟩⟩⟩⟩⟩⟩, ⟨⟨⟨trivial, trivial⟩, ⟨⟨trivial, trivial⟩, ⟨⟨trivial, ⟨trivial, ⟨trivial, ⟨trivial, ⟨h2, trivial⟩⟩⟩⟩⟩, ⟨⟨trivial, trivial⟩, ⟨⟨trivial, trivial⟩, ⟨⟨trivial, trivial⟩, ⟨⟨trivial, trivial⟩, ⟨⟨trivial, trivial⟩, ⟨⟨trivial, trivial⟩, ⟨⟨trivial, trivial⟩, trivial⟩⟩⟩⟩⟩⟩⟩⟩⟩⟩, ⟨⟨⟨trivial, trivial⟩, ⟨⟨trivial, trivial⟩, ⟨⟨trivial, trivial⟩, ⟨⟨trivial, ⟨trivial, ⟨trivial, ⟨trivial, ⟨trivial, ⟨trivial, ⟨h3, trivial⟩⟩⟩⟩⟩⟩⟩, ⟨⟨trivial, trivial⟩, ⟨⟨trivial, trivial⟩, ⟨⟨trivial, trivial⟩, ⟨⟨trivial, trivial⟩, ⟨⟨trivial, trivial⟩, ⟨⟨trivial, trivial⟩, ⟨⟨trivial, trivial⟩, trivial⟩⟩⟩⟩⟩⟩⟩⟩⟩⟩⟩, ⟨⟨⟨trivial, trivial⟩, ⟨⟨trivial, trivial⟩, ⟨⟨trivial, trivial⟩, ⟨⟨trivial, ⟨trivial, ⟨trivial, ⟨trivial, ⟨trivial, ⟨trivial, ⟨h4, trivial⟩⟩⟩⟩⟩⟩⟩, ⟨⟨trivial, trivial⟩, ⟨⟨trivial, trivial⟩, ⟨⟨trivial, trivial⟩, ⟨⟨trivial, trivial⟩, ⟨⟨trivial, trivial⟩, ⟨⟨trivial, trivial⟩, ⟨⟨trivial, trivial⟩, trivial⟩⟩⟩⟩⟩⟩⟩⟩⟩⟩⟩, ⟨⟨⟨trivial, trivial⟩, ⟨⟨trivial, trivial⟩, ⟨⟨trivial, ⟨trivial, trivial⟩⟩, ⟨⟨h5, trivial⟩, ⟨⟨trivial, ⟨trivial, trivial⟩⟩, ⟨⟨trivial, ⟨trivial, trivial⟩⟩, ⟨⟨trivial, ⟨trivial, ⟨trivial, trivial⟩⟩⟩, ⟨⟨trivial, ⟨h6, trivial⟩⟩, ⟨⟨trivial, trivial⟩, ⟨⟨trivial, ⟨trivial, trivial⟩⟩, ⟨⟨trivial, ⟨trivial, trivial⟩⟩, ⟨⟨trivial, ⟨trivial, ⟨trivial, ⟨trivial, ⟨trivial, ⟨h7, trivial⟩⟩⟩⟩⟩⟩, ⟨⟨trivial, ⟨trivial, trivial⟩⟩, ⟨⟨trivial, ⟨trivial, trivial⟩⟩, ⟨⟨trivial, trivial⟩, ⟨⟨trivial, ⟨trivial, trivial⟩⟩, ⟨⟨trivial, ⟨trivial, trivial⟩⟩, ⟨⟨trivial, ⟨trivial, ⟨trivial, trivial⟩⟩⟩, ⟨⟨trivial, ⟨h8, trivial⟩⟩, ⟨⟨trivial, trivial⟩, ⟨⟨trivial, ⟨trivial, trivial⟩⟩, ⟨⟨trivial, ⟨trivial, trivial⟩⟩, ⟨⟨trivial, ⟨trivial, ⟨trivial, trivial⟩⟩⟩, ⟨⟨trivial, ⟨h9, trivial⟩⟩, ⟨⟨trivial, trivial⟩, ⟨⟨trivial, ⟨trivial, trivial⟩⟩, ⟨⟨trivial, ⟨trivial, trivial⟩⟩, ⟨⟨trivial, ⟨trivial, ⟨trivial, ⟨trivial, ⟨trivial, ⟨h10, trivial⟩⟩⟩⟩⟩⟩, ⟨⟨trivial, ⟨trivial, trivial⟩⟩, ⟨⟨trivial, ⟨trivial, trivial⟩⟩, ⟨⟨trivial, trivial⟩, ⟨⟨trivial, ⟨trivial, trivial⟩⟩, ⟨⟨trivial, ⟨trivial, trivial⟩⟩, ⟨⟨trivial, ⟨trivial, trivial⟩⟩, ⟨⟨trivial, ⟨trivial, ⟨trivial, ⟨trivial, ⟨trivial, ⟨trivial, ⟨trivial, ⟨h11, trivial⟩⟩⟩⟩⟩⟩⟩⟩, ⟨⟨trivial, ⟨trivial, trivial⟩⟩, ⟨⟨trivial, ⟨trivial, trivial⟩⟩, ⟨⟨trivial, ⟨trivial, trivial⟩⟩, ⟨⟨trivial, ⟨trivial, ⟨trivial, ⟨trivial, ⟨trivial, ⟨trivial, ⟨trivial, ⟨h12, trivial⟩⟩⟩⟩⟩⟩⟩⟩, ⟨⟨trivial, ⟨trivial, ⟨trivial, trivial⟩⟩⟩, ⟨⟨trivial, ⟨h13, trivial⟩⟩, trivial⟩⟩⟩⟩⟩⟩⟩⟩⟩⟩⟩⟩⟩⟩⟩⟩⟩⟩⟩⟩⟩⟩⟩⟩⟩⟩⟩⟩⟩⟩⟩⟩⟩⟩⟩⟩⟩⟩⟩⟩⟩, ⟨trivial, ⟨⟨⟨trivial, trivial⟩, ⟨⟨trivial, trivial⟩, ⟨⟨trivial, trivial⟩, trivial⟩⟩⟩, trivial⟩⟩⟩⟩⟩⟩⟩⟩⟩⟩⟩, ⟨trivial, ⟨trivial, ⟨trivial, trivial⟩⟩⟩⟩ hR
theorem xfo_0 (q : QN) (h1 : (CT Try.prog 9 [some (Blk.mk [AV.agg [AV.lst (List.map (AV.int IntKind.i64) q.L), AV.int IntKind.i64 (iN q.kk)]] 2 true true)] [AV.ptr 0 0 0, AV.int IntKind.i64 9] [some (Blk.mk [AV.agg [AV.lst (List.map (AV.int IntKind.i64) q.L), AV.int IntKind.i64 (iN q.m1)]] 2 true true)] (AV.lst (gL q.g')))) (h2 : (CT Try.prog 10 [some (Blk.mk [AV.agg [AV.lst (List.map (AV.int IntKind.i64) q.L), AV.int IntKind.i64 (iN q.m1)]] 2 true true)] [AV.ptr 0 0 0, AV.int IntKind.i64 (iN (gL q.g').length)] [some (Blk.mk [AV.agg [AV.lst (List.map (AV.int IntKind.i64) q.L), AV.int IntKind.i64 (iN q.m2)]] 2 true true)] (AV.lst (boL q.s')))) (h3 : (CT Try.prog 11 [some (Blk.mk [AV.agg [AV.lst (List.map (AV.int IntKind.i64) q.L), AV.int IntKind.i64 (iN q.m2)]] 2 true true)] [AV.ptr 0 0 0, AV.int IntKind.i64 (iN (gL q.g').length)] [some (Blk.mk [AV.agg [AV.lst (List.map (AV.int IntKind.i64) q.L), AV.int IntKind.i64 (iN (q.m2 + 1))]] 2 true true)] (AV.int IntKind.i64 q.x))) (h4 : (CT Try.prog 11 [some (Blk.mk [AV.agg [AV.lst (List.map (AV.int IntKind.i64) q.L), AV.int IntKind.i64 (iN (q.m2 + 1))]] 2 true true)] [AV.ptr 0 0 0, AV.int IntKind.i64 5] [some (Blk.mk [AV.agg [AV.lst (List.map (AV.int IntKind.i64) q.L), AV.int IntKind.i64 (iN (q.m2 + 1 + 1))]] 2 true true)] (AV.int IntKind.i64 q.z))) {post : Exit → St → Prop} (ht : T Try.prog 0 (.loop (loopC (loopC (bodyOf Try.f3) 0) 0)) (St.mk 131 [(0, AV.lst (gL q.g')), (1, AV.lst (boL q.s')), (2, AV.nils), (3, AV.int IntKind.i64 q.x), (11, AV.ptr 0 0 0), (12, AV.int IntKind.i64 1), (13, AV.int IntKind.i64 q.z)] [some (Blk.mk [AV.agg [AV.lst (List.map (AV.int IntKind.i64) q.L), AV.int IntKind.i64 (iN (q.m2 + 1 + 1))]] 2 true true)]) (TK Try.prog 0 post (loopK (loopC (bodyOf Try.f3) 0) 0))) : ∃ o' st' q', go Try.prog ({ dec := [], els := eFi q, calls := cFi q, unroll := false } : HT) 0 4000 (.inl (loopC (bodyOf Try.f3) 0)) [] (lo3o q) = some (o', st', q') ∧ q' ∧ Go.AX.Rest Try.prog 0 post st' o' :=
  endR_spec (σ := [0]) (fz := []) (vars := [0,1,2,3,11,12,13]) (show endR 0 [0] [] [0,1,2,3,11,12,13] (go Try.prog ({ dec := [], els := eFi q, calls := cFi q, unroll := false } : HT) 0 4000 (.inl (loopC (bodyOf Try.f3) 0)) [] (lo3o q)) = some (loopC (loopC (bodyOf Try.f3) 0) 0, loopK (loopC (bodyOf Try.f3) 0) 0, St.mk 131 [(0, AV.lst (gL q.g')), (1, AV.lst (boL q.s')), (2, AV.nils), (3, AV.int IntKind.i64 q.x), (11, AV.ptr 0 0 0), (12, AV.int IntKind.i64 1), (13, AV.int IntKind.i64 q.z)] [some (Blk.mk [AV.agg [AV.lst (List.map (AV.int IntKind.i64) q.L), AV.int IntKind.i64 (iN (q.m2 + 1 + 1))]] 2 true true)], ((((True ∧ True) ∧ ((True ∧ True) ∧ True)) ∧ (True ∧ (((True ∧ True) ∧ ((True ∧ True) ∧ True)) ∧ (True ∧ (((True ∧ True) ∧ ((True ∧ (True ∧ (True ∧ (True ∧ ((type_of% h1) ∧ True))))) ∧ ((True ∧ True) ∧ True))) ∧ (((True ∧ True) ∧ ((True ∧ True) ∧ ((True ∧ True) ∧ ((True ∧ (True ∧ (True ∧ (True ∧ (True ∧ ((type_of% h2) ∧ True)))))) ∧ ((True ∧ True) ∧ ((True ∧ True) ∧ ((True ∧ True) ∧ ((True ∧ (True ∧ (True ∧ (True ∧ (True ∧ ((type_of% h3) ∧ True)))))) ∧ ((True ∧ True) ∧ ((True ∧ True) ∧ True)))))))))) ∧ ((True ∧ True) ∧ (((True ∧ True) ∧ ((True ∧ (True ∧ (True ∧ (True ∧ ((type_of% h4) ∧ True))))) ∧ ((True ∧ True) ∧ True))) ∧ True)))))))) ∧ (True ∧ (True ∧ (True ∧ (True ∧ (True ∧ (True ∧ (True ∧ (True ∧ True)))))))))) by kernel_rfl) ⟨⟨⟨⟨trivial, trivial⟩, ⟨⟨trivial, trivial⟩, trivial⟩⟩, ⟨trivial, ⟨⟨⟨trivial, trivial⟩, ⟨⟨trivial, trivial⟩, trivial⟩⟩, ⟨trivial, ⟨⟨⟨trivial, trivial⟩, ⟨⟨trivial, ⟨trivial, ⟨trivial, ⟨trivial, ⟨h1, trivial⟩⟩⟩⟩⟩, ⟨⟨trivial, trivial⟩, trivial⟩⟩⟩, ⟨⟨⟨trivial, trivial⟩, ⟨⟨trivial, trivial⟩, ⟨⟨trivial, trivial⟩, ⟨⟨trivial, ⟨trivial, ⟨trivial, ⟨trivial, ⟨trivial, ⟨h2, trivial⟩⟩⟩⟩⟩⟩, ⟨⟨trivial, trivial⟩, ⟨⟨trivial, trivial⟩, ⟨⟨trivial, trivial⟩, ⟨⟨trivial, ⟨trivial, ⟨trivial, ⟨trivial, ⟨trivial, ⟨h3, trivial⟩⟩⟩⟩⟩⟩, ⟨⟨trivial, trivial⟩, ⟨⟨trivial, trivial⟩, trivial⟩⟩⟩⟩⟩⟩⟩⟩⟩⟩, ⟨⟨trivial, trivial⟩, ⟨⟨⟨trivial, trivial⟩, ⟨⟨trivial, ⟨trivial, ⟨trivial, ⟨trivial, ⟨h4, trivial⟩⟩⟩⟩⟩, ⟨⟨trivial, trivial⟩, trivial⟩⟩⟩, trivial⟩⟩⟩⟩⟩⟩⟩⟩, ⟨trivial, ⟨trivial, ⟨trivial, ⟨trivial, ⟨trivial, ⟨trivial, ⟨trivial, ⟨trivial, trivial⟩⟩⟩⟩⟩⟩⟩⟩⟩ ht
theorem xwz_0 (q : QN) (h1 : (decide (0 < q.z) = true)) (h2 : (CT Try.prog 11 [some (Blk.mk [AV.agg [AV.lst (List.map (AV.int IntKind.i64) q.L), AV.int IntKind.i64 (iN q.kk)]] 2 true true)] [AV.ptr 0 0 0, AV.int IntKind.i64 (iN (gL q.g).length)] [some (Blk.mk [AV.agg [AV.lst (List.map (AV.int IntKind.i64) q.L), AV.int IntKind.i64 (iN (q.kk + 1))]] 2 true true)] (AV.int IntKind.i64 q.y))) (h3 : (1 ≤ [AV.int IntKind.i64 q.y].length)) (h4 : ([AV.int IntKind.i64 q.y].length ≤ 9223372036854775807)) (h5 : ([AV.int IntKind.i64 q.y].length * 8 ≤ 140737488355328)) {post : Exit → St → Prop} {R : St → Prop} (hR : ∀ st, Ren 0 st (St.mk 131 [(0, AV.lst (gL q.g)), (1, AV.lst (boL q.s)), (2, AV.sl 1 0 [AV.int IntKind.i64 q.y].length), (3, AV.int IntKind.i64 q.x), (11, AV.ptr 0 0 0), (12, AV.int IntKind.i64 1), (13, AV.int IntKind.i64 (IntKind.i64.wrap (q.z - 1)))] [some (Blk.mk [AV.agg [AV.lst (List.map (AV.int IntKind.i64) q.L), AV.int IntKind.i64 (iN (q.kk + 1))]] 2 true true), some (Blk.mk [AV.int IntKind.i64 q.y] 1 true true)]) → R st) : ∃ o' st' q', go Try.prog ({ dec := [(50, true)], els := eFi q, calls := cFi q, unroll := false } : HT) 0 4000 (.inl (loopC (loopC (bodyOf Try.f3) 0) 0)) [] (lw3z q) = some (o', st', q') ∧ q' ∧ Go.AX.Rest Try.prog 0 (andThen R post) st' o' :=
  endN_spec (σ := [0,2]) (fz := []) (vars := [0,1,2,3,11,12,13]) (show endN 0 [0,2] [] [0,1,2,3,11,12,13] (go Try.prog ({ dec := [(50, true)], els := eFi q, calls := cFi q, unroll := false } : HT) 0 4000 (.inl (loopC (loopC (bodyOf Try.f3) 0) 0)) [] (lw3z q)) = some (St.mk 131 [(0, AV.lst (gL q.g)), (1, AV.lst (boL q.s)), (2, AV.sl 1 0 [AV.int IntKind.i64 q.y].length), (3, AV.int IntKind.i64 q.x), (11, AV.ptr 0 0 0), (12, AV.int IntKind.i64 1), (13, AV.int IntKind.i64 (IntKind.i64.wrap (q.z - 1)))] [some (Blk.mk [AV.agg [AV.lst (List.map (AV.int IntKind.i64) q.L), AV.int IntKind.i64 (iN (q.kk + 1))]] 2 true true), some (Blk.mk [AV.int IntKind.i64 q.y] 1 true true)], ((((True ∧ True) ∧ ((True ∧ True) ∧ True)) ∧ ((type_of% h1) ∧ (((True ∧ True) ∧ ((True ∧ True) ∧ ((True ∧ True) ∧ ((True ∧ True) ∧ ((True ∧ (True ∧ (True ∧ (True ∧ (True ∧ ((type_of% h2) ∧ True)))))) ∧ ((True ∧ True) ∧ ((True ∧ (True ∧ (((nat_lit 1 = nat_lit 1) ∧ (type_of% h3)) ∧ ((type_of% h4) ∧ (type_of% h5))))) ∧ ((True ∧ True) ∧ True)))))))) ∧ (((True ∧ True) ∧ ((True ∧ True) ∧ ((True ∧ True) ∧ True))) ∧ True)))) ∧ (True ∧ (True ∧ (True ∧ (True ∧ (True ∧ (True ∧ (True ∧ (True ∧ (True ∧ True))))))))))) by kernel_rfl) ⟨⟨⟨⟨trivial, trivial⟩, ⟨⟨trivial, trivial⟩, trivial⟩⟩, ⟨h1, ⟨⟨⟨trivial, trivial⟩, ⟨⟨trivial, trivial⟩, ⟨⟨trivial, trivial⟩, ⟨⟨trivial, trivial⟩, ⟨⟨trivial, ⟨trivial, ⟨trivial, ⟨trivial, ⟨trivial, ⟨h2, trivial⟩⟩⟩⟩⟩⟩, ⟨⟨trivial, trivial⟩, ⟨⟨trivial, ⟨trivial, ⟨⟨(by first | decide | exact Int.NonNeg.mk _), h3⟩, ⟨h4, h5⟩⟩⟩⟩, ⟨⟨trivial, trivial⟩, trivial⟩⟩⟩⟩⟩⟩⟩⟩, ⟨⟨⟨trivial, trivial⟩, ⟨⟨trivial, trivial⟩, ⟨⟨trivial, trivial⟩, trivial⟩⟩⟩, trivial⟩⟩⟩⟩, ⟨trivial, ⟨trivial, ⟨trivial, ⟨trivial, ⟨trivial, ⟨trivial, ⟨trivial, ⟨trivial, ⟨trivial, trivial⟩⟩⟩⟩⟩⟩⟩⟩⟩⟩ hR
theorem xww_0 (q : QN) (h1 : (decide (0 < q.z) = true)) (h2 : (CT Try.prog 11 [some (Blk.mk [AV.agg [AV.lst (List.map (AV.int IntKind.i64) q.L), AV.int IntKind.i64 (iN q.kk)]] 2 true true)] [AV.ptr 0 0 0, AV.int IntKind.i64 (iN (gL q.g).length)] [some (Blk.mk [AV.agg [AV.lst (List.map (AV.int IntKind.i64) q.L), AV.int IntKind.i64 (iN (q.kk + 1))]] 2 true true)] (AV.int IntKind.i64 q.y))) (h3 : ((List.map (AV.int IntKind.i64) q.o).length = q.o.length)) (h4 : (1 ≤ [AV.int IntKind.i64 q.y].length)) (h5 : ((List.map (AV.int IntKind.i64) q.o).length + [AV.int IntKind.i64 q.y].length ≤ 9223372036854775807)) (h6 : (((List.map (AV.int IntKind.i64) q.o).length + [AV.int IntKind.i64 q.y].length) * 8 ≤ 140737488355328)) {post : Exit → St → Prop} {R : St → Prop} (hR : ∀ st, Ren 0 st (St.mk 131 [(0, AV.lst (gL q.g)), (1, AV.lst (boL q.s)), (2, AV.sl 1 0 ((List.map (AV.int IntKind.i64) q.o).length + [AV.int IntKind.i64 q.y].length)), (3, AV.int IntKind.i64 q.x), (11, AV.ptr 0 0 0), (12, AV.int IntKind.i64 1), (13, AV.int IntKind.i64 (IntKind.i64.wrap (q.z - 1)))] [some (Blk.mk [AV.agg [AV.lst (List.map (AV.int IntKind.i64) q.L), AV.int IntKind.i64 (iN (q.kk + 1))]] 2 true true), some (Blk.mk (List.map (AV.int IntKind.i64) q.o ++ [AV.int IntKind.i64 q.y]) 1 true true)]) → R st) : ∃ o' st' q', go Try.prog ({ dec := [(50, true)], els := eFi q, calls := cFi q, unroll := false } : HT) 0 4000 (.inl (loopC (loopC (bodyOf Try.f3) 0) 0)) [] (lw3 q) = some (o', st', q') ∧ q' ∧ Go.AX.Rest Try.prog 0 (andThen R post) st' o' :=
  endN_spec (σ := [0,3]) (fz := []) (vars := [0,1,2,3,11,12,13]) (show endN 0 [0,3] [] [0,1,2,3,11,12,13] (go Try.prog ({ dec := [(50, true)], els := eFi q, calls := cFi q, unroll := false } : HT) 0 4000 (.inl (loopC (loopC (bodyOf Try.f3) 0) 0)) [] (lw3 q)) = some (St.mk 131 [(0, AV.lst (gL q.g)), (1, AV.lst (boL q.s)), (2, AV.sl 1 0 ((List.map (AV.int IntKind.i64) q.o).length + [AV.int IntKind.i64 q.y].length)), (3, AV.int IntKind.i64 q.x), (11, AV.ptr 0 0 0), (12, AV.int IntKind.i64 1), (13, AV.int IntKind.i64 (IntKind.i64.wrap (q.z - 1)))] [some (Blk.mk [AV.agg [AV.lst (List.map (AV.int IntKind.i64) q.L), AV.int IntKind.i64 (iN (q.kk + 1))]] 2 true true), some (Blk.mk (List.map (AV.int IntKind.i64) q.o ++ [AV.int IntKind.i64 q.y]) 1 true true)], ((((True ∧ True) ∧ ((True ∧ True) ∧ True)) ∧ ((type_of% h1) ∧ (((True ∧ True) ∧ ((True ∧ True) ∧ ((True ∧ True) ∧ ((True ∧ True) ∧ ((True ∧ (True ∧ (True ∧ (True ∧ (True ∧ ((type_of% h2) ∧ True)))))) ∧ ((True ∧ True) ∧ ((True ∧ (True ∧ ((type_of% h3) ∧ (((nat_lit 1 = nat_lit 1) ∧ (type_of% h4)) ∧ ((type_of% h5) ∧ (type_of% h6)))))) ∧ ((True ∧ True) ∧ True)))))))) ∧ (((True ∧ True) ∧ ((True ∧ True) ∧ ((True ∧ True) ∧ True))) ∧ True)))) ∧ (True ∧ (True ∧ (True ∧ (True ∧ (True ∧ (True ∧ (True ∧ (True ∧ (True ∧ True))))))))))) by kernel_rfl) ⟨⟨⟨⟨trivial, trivial⟩, ⟨⟨trivial, trivial⟩, trivial⟩⟩, ⟨h1, ⟨⟨⟨trivial, trivial⟩, ⟨⟨trivial, trivial⟩, ⟨⟨trivial, trivial⟩, ⟨⟨trivial, trivial⟩, ⟨⟨trivial, ⟨trivial, ⟨trivial, ⟨trivial, ⟨trivial, ⟨h2, trivial⟩⟩⟩⟩⟩⟩, ⟨⟨trivial, trivial⟩, ⟨⟨trivial, ⟨trivial, ⟨h3, ⟨⟨(by first | decide | exact Int.NonNeg.mk _), h4⟩, ⟨h5, h6⟩⟩⟩⟩⟩, ⟨⟨trivial, trivial⟩, trivial⟩⟩⟩⟩⟩⟩⟩⟩, ⟨⟨⟨trivial, trivial⟩, ⟨⟨trivial, trivial⟩, ⟨⟨trivial, trivial⟩, trivial⟩⟩⟩, trivial⟩⟩⟩⟩, ⟨trivial, ⟨trivial, ⟨trivial, ⟨trivial, ⟨trivial, ⟨trivial, ⟨trivial, ⟨trivial, ⟨trivial, trivial⟩⟩⟩⟩⟩⟩⟩⟩⟩⟩ hR
theorem xez_0 (q : QN) (h1 : (decide (0 < q.z) = false)) (h2 : (CT Try.prog 12 [] [AV.lst (gL q.g), AV.lst (boL q.s)] [] (AV.tup [AV.int IntKind.i64 (iN q.p.length), AV.lst (List.map (AV.int IntKind.i64) q.p), AV.int IntKind.i64 q.e1]))) (h3 : (CT Try.prog 13 [] [AV.lst (gL q.g), AV.lst (boL q.s)] [] (AV.tup [AV.int IntKind.i64 (iN q.p.length), AV.lst (List.map (AV.int IntKind.i64) q.p), AV.int IntKind.i64 q.e1]))) (h4 : (CT Try.prog 14 [] [AV.lst (gL q.g), AV.lst (boL q.s), AV.int IntKind.i64 q.x] [] (AV.tup [AV.int IntKind.i64 (iN q.t.length), AV.lst (List.map (AV.int IntKind.i64) q.t), AV.int IntKind.i64 q.e2]))) (h5 : (CT Try.prog 15 [] [AV.lst (gL q.g), AV.lst (boL q.s), AV.int IntKind.i64 q.x] [] (AV.tup [AV.int IntKind.i64 (iN q.t.length), AV.lst (List.map (AV.int IntKind.i64) q.t), AV.int IntKind.i64 q.e2]))) (h6 : ((iN q.p.length != iN q.p.length) = false)) (h7 : ((q.e1 != q.e1) = false)) (h8 : (CT Try.prog 16 [] [AV.lst (List.map (AV.int IntKind.i64) q.p), AV.lst (List.map (AV.int IntKind.i64) q.p)] [] (AV.bool true))) (h9 : ((iN q.t.length != iN q.t.length) = false)) (h10 : ((q.e2 != q.e2) = false)) (h11 : (CT Try.prog 16 [] [AV.lst (List.map (AV.int IntKind.i64) q.t), AV.lst (List.map (AV.int IntKind.i64) q.t)] [] (AV.bool true))) (h12 : (CT Try.prog 17 [] [AV.lst (gL q.g), AV.lst (boL q.s), AV.nils] [] (AV.bool q.b))) (h13 : (CT Try.prog 18 [] [AV.lst (gL q.g), AV.lst (boL q.s), AV.nils] [] (AV.bool q.b))) (h14 : ((!q.b == q.b) = false)) {post : Exit → St → Prop} {R : St → Prop} (hR : ∀ st, Ren 0 st (St.mk 131 [(12, AV.int IntKind.i64 2)] []) → R st) : ∃ o' st' q', go2 Try.prog ({ dec := [(50, false), (92, false), (96, false), (107, false), (112, false), (129, false)], els := eFi q, calls := cFi q, unroll := false } : HT) 0 4000 (loopC (loopC (bodyOf Try.f3) 0) 0) (loopK (loopC (bodyOf Try.f3) 0) 0) (lw3z q) = some (o', st', q') ∧ q' ∧ Go.AX.Rest Try.prog 0 (andThen R post) st' o' :=
  endN_spec (σ := []) (fz := []) (vars := [12]) (show endN 0 [] [] [12] (go2 Try.prog ({ dec := [(50, false), (92, false), (96, false), (107, false), (112, false), (129, false)], els := eFi q, calls := cFi q, unroll := false } : HT) 0 4000 (loopC (loopC (bodyOf Try.f3) 0) 0) (loopK (loopC (bodyOf Try.f3) 0) 0) (lw3z q)) = some (St.mk 131 [(12, AV.int IntKind.i64 2)] [], (((((True ∧ True) ∧ ((True ∧ True) ∧ True)) ∧ ((type_of% h1) ∧ True)) ∧ (((True ∧ True) ∧ ((True ∧ True) ∧ ((True ∧ (True ∧ (True ∧ (True ∧ ((type_of% h2) ∧ True))))) ∧ ((True ∧ True) ∧ ((True ∧ True) ∧ ((True ∧ True) ∧ ((True ∧ True) ∧ ((True ∧ True) ∧ ((True ∧ True) ∧ ((True ∧ True) ∧ True)))))))))) ∧ (((True ∧ True) ∧ ((True ∧ True) ∧ ((True ∧ (True ∧ (True ∧ (True ∧ ((type_of% h3) ∧ True))))) ∧ ((True ∧ True) ∧ ((True ∧ True) ∧ ((True ∧ True) ∧ ((True ∧ True) ∧ ((True ∧ True) ∧ ((True ∧ True) ∧ ((True ∧ True) ∧ True)))))))))) ∧ (((True ∧ True) ∧ ((True ∧ True) ∧ ((True ∧ True) ∧ ((True ∧ (True ∧ (True ∧ (True ∧ (True ∧ (True ∧ ((type_of% h4) ∧ True))))))) ∧ ((True ∧ True) ∧ ((True ∧ True) ∧ ((True ∧ True) ∧ ((True ∧ True) ∧ ((True ∧ True) ∧ ((True ∧ True) ∧ ((True ∧ True) ∧ True))))))))))) ∧ (((True ∧ True) ∧ ((True ∧ True) ∧ ((True ∧ True) ∧ ((True ∧ (True ∧ (True ∧ (True ∧ (True ∧ (True ∧ ((type_of% h5) ∧ True))))))) ∧ ((True ∧ True) ∧ ((True ∧ True) ∧ ((True ∧ True) ∧ ((True ∧ True) ∧ ((True ∧ True) ∧ ((True ∧ True) ∧ ((True ∧ True) ∧ True))))))))))) ∧ (((True ∧ True) ∧ ((True ∧ True) ∧ ((True ∧ (True ∧ True)) ∧ (((type_of% h6) ∧ True) ∧ ((True ∧ (True ∧ True)) ∧ ((True ∧ (True ∧ True)) ∧ ((True ∧ (True ∧ (True ∧ True))) ∧ ((True ∧ ((type_of% h7) ∧ True)) ∧ ((True ∧ True) ∧ ((True ∧ (True ∧ True)) ∧ ((True ∧ (True ∧ True)) ∧ ((True ∧ (True ∧ (True ∧ (True ∧ (True ∧ ((type_of% h8) ∧ True)))))) ∧ ((True ∧ (True ∧ True)) ∧ ((True ∧ (True ∧ True)) ∧ ((True ∧ True) ∧ ((True ∧ (True ∧ True)) ∧ ((True ∧ (True ∧ True)) ∧ ((True ∧ (True ∧ (True ∧ True))) ∧ ((True ∧ ((type_of% h9) ∧ True)) ∧ ((True ∧ True) ∧ ((True ∧ (True ∧ True)) ∧ ((True ∧ (True ∧ True)) ∧ ((True ∧ (True ∧ (True ∧ True))) ∧ ((True ∧ ((type_of% h10) ∧ True)) ∧ ((True ∧ True) ∧ ((True ∧ (True ∧ True)) ∧ ((True ∧ (True ∧ True)) ∧ ((True ∧ (True ∧ (True ∧ (True ∧ (True ∧ ((type_of% h11) ∧ True)))))) ∧ ((True ∧ (True ∧ True)) ∧ ((True ∧ (True ∧ True)) ∧ ((True ∧ True) ∧ ((True ∧ (True ∧ True)) ∧ ((True ∧ (True ∧ True)) ∧ ((True ∧ (True ∧ True)) ∧ ((True ∧ (True ∧ (True ∧ (True ∧ (True ∧ (True ∧ (True ∧ ((type_of% h12) ∧ True)))))))) ∧ ((True ∧ (True ∧ True)) ∧ ((True ∧ (True ∧ True)) ∧ ((True ∧ (True ∧ True)) ∧ ((True ∧ (True ∧ (True ∧ (True ∧ (True ∧ (True ∧ (True ∧ ((type_of% h13) ∧ True)))))))) ∧ ((True ∧ (True ∧ (True ∧ True))) ∧ ((True ∧ ((type_of% h14) ∧ True)) ∧ True))))))))))))))))))))))))))))))))))))))))) ∧ (True ∧ (((True ∧ True) ∧ ((True ∧ True) ∧ ((True ∧ True) ∧ True))) ∧ True)))))))) ∧ (True ∧ True))) by kernel_rfl) ⟨⟨⟨⟨⟨trivial, trivial⟩, ⟨⟨trivial, trivial⟩, trivial⟩⟩, ⟨h1, trivial⟩⟩, ⟨⟨⟨trivial, trivial⟩, ⟨⟨trivial, trivial⟩, ⟨⟨trivial, ⟨trivial, ⟨trivial, ⟨trivial, ⟨h2, trivial⟩⟩⟩⟩⟩, ⟨⟨trivial, trivial⟩, ⟨⟨trivial, trivial⟩, ⟨⟨trivial, trivial⟩, ⟨⟨trivial, trivial⟩, ⟨⟨trivial, trivial⟩, ⟨⟨trivial, trivial⟩, ⟨⟨trivial, trivial⟩, trivial⟩⟩⟩⟩⟩⟩⟩⟩⟩⟩, ⟨⟨⟨trivial, trivial⟩, ⟨⟨trivial, trivial⟩, ⟨⟨trivial, ⟨trivial, ⟨trivial, ⟨trivial, ⟨h3, trivial⟩⟩⟩⟩⟩, ⟨⟨trivial, trivial⟩, ⟨⟨trivial, trivial⟩, ⟨⟨trivial, trivial⟩, ⟨⟨trivial, trivial⟩, ⟨⟨trivial, trivial⟩, ⟨⟨trivial, trivial⟩, ⟨⟨trivial, trivial⟩, trivial⟩⟩⟩⟩⟩⟩⟩⟩⟩⟩, ⟨⟨⟨trivial, trivial⟩, ⟨⟨trivial, trivial⟩, ⟨⟨trivial, trivial⟩, ⟨⟨trivial, ⟨trivial, ⟨trivial, ⟨trivial, ⟨trivial, ⟨trivial, ⟨h4, trivial⟩⟩⟩⟩⟩⟩⟩, ⟨⟨trivial, trivial⟩, ⟨⟨trivial, trivial⟩, ⟨⟨trivial, trivial⟩, ⟨⟨trivial, trivial⟩, ⟨⟨trivial, trivial⟩, ⟨⟨trivial, trivial⟩, ⟨⟨trivial, trivial⟩, trivial⟩⟩⟩⟩⟩⟩⟩⟩⟩⟩⟩, ⟨⟨⟨trivial, trivial⟩, ⟨⟨trivial, trivial⟩, ⟨⟨trivial, trivial⟩, ⟨⟨trivial, ⟨trivial, ⟨trivial, ⟨trivial, ⟨trivial, ⟨trivial, ⟨h5, trivial⟩⟩⟩⟩⟩⟩⟩, ⟨⟨trivial, trivial⟩, ⟨⟨trivial, trivial⟩, ⟨⟨trivial, trivial⟩, ⟨⟨trivial, trivial⟩, ⟨⟨trivial, trivial⟩, ⟨⟨trivial, trivial⟩, ⟨⟨trivial, trivial⟩, trivial⟩⟩⟩⟩⟩⟩⟩⟩⟩⟩⟩, ⟨⟨⟨trivial, trivial⟩, ⟨⟨trivial, trivial⟩, ⟨⟨trivial, ⟨trivial, trivial⟩⟩, ⟨⟨h6, trivial⟩, ⟨⟨trivial, ⟨trivial, trivial⟩⟩, ⟨⟨trivial, ⟨trivial, trivial⟩⟩, ⟨⟨trivial, ⟨trivial, ⟨trivial, trivial⟩⟩⟩, ⟨⟨trivial, ⟨h7, trivial⟩⟩, ⟨⟨trivial, trivial⟩, ⟨⟨trivial, ⟨trivial, trivial⟩⟩, ⟨⟨trivial, ⟨trivial, trivial⟩⟩, ⟨⟨trivial, ⟨trivial, ⟨trivial, ⟨trivial, ⟨trivial, ⟨h8, trivial⟩⟩⟩⟩⟩⟩, ⟨⟨trivial, ⟨trivial, trivial⟩⟩, ⟨⟨trivial, ⟨trivial, trivial⟩⟩, ⟨⟨trivial, trivial⟩, ⟨⟨trivial, ⟨trivial, trivial⟩⟩, ⟨⟨trivial, ⟨trivial, trivial⟩⟩, ⟨⟨trivial, ⟨trivial, ⟨trivial, trivial⟩⟩⟩, ⟨⟨trivial, ⟨h9, trivial⟩⟩, ⟨⟨trivial, trivial⟩, ⟨⟨trivial, ⟨trivial, trivial⟩⟩, ⟨⟨trivial, ⟨trivial, trivial⟩⟩, ⟨⟨trivial, ⟨trivial, ⟨trivial, trivial⟩⟩⟩, ⟨⟨trivial, ⟨h10, trivial⟩⟩, ⟨⟨trivial, trivial⟩, ⟨⟨trivial, ⟨trivial, trivial⟩⟩, ⟨⟨trivial, ⟨trivial, trivial⟩⟩, ⟨⟨trivial, ⟨trivial, ⟨trivial, ⟨trivial, ⟨trivial, ⟨h11, trivial⟩⟩⟩⟩⟩⟩, ⟨⟨trivial, ⟨trivial, trivial⟩⟩, ⟨⟨trivial, ⟨trivial, trivial⟩⟩, ⟨⟨trivial, trivial⟩, ⟨⟨trivial, ⟨trivial, trivial⟩⟩, ⟨⟨trivial, ⟨trivial, trivial⟩⟩, ⟨⟨trivial, ⟨trivial, trivial⟩⟩, ⟨⟨trivial, ⟨trivial, ⟨trivial, ⟨trivial, ⟨trivial, ⟨trivial, ⟨trivial, ⟨h12, trivial⟩⟩⟩⟩⟩⟩⟩⟩, ⟨⟨trivial, ⟨trivial, trivial⟩⟩, ⟨⟨trivial, ⟨trivial, trivial⟩⟩, ⟨⟨trivial, ⟨trivial, trivial⟩⟩, ⟨⟨trivial, ⟨trivial, ⟨trivial, ⟨trivial, ⟨trivial, ⟨trivial, ⟨trivial, ⟨h13, trivial⟩⟩⟩⟩⟩⟩⟩⟩, ⟨⟨trivial, ⟨trivial, ⟨trivial, trivial⟩⟩⟩, ⟨⟨trivial, ⟨h14, trivial⟩⟩, trivial⟩⟩⟩⟩⟩⟩⟩⟩⟩⟩⟩⟩⟩⟩⟩⟩⟩⟩⟩⟩⟩⟩⟩⟩⟩⟩⟩⟩⟩⟩⟩⟩⟩⟩⟩⟩⟩⟩⟩⟩⟩, ⟨trivial, ⟨⟨⟨trivial, trivial⟩, ⟨⟨trivial, trivial⟩, ⟨⟨trivial, trivial⟩, trivial⟩⟩⟩, trivial⟩⟩⟩⟩⟩⟩⟩⟩, ⟨trivial, trivial⟩⟩ hR
theorem xew_0 (q : QN) (h1 : (decide (0 < q.z) = false)) (h2 : (CT Try.prog 12 [] [AV.lst (gL q.g), AV.lst (boL q.s)] [] (AV.tup [AV.int IntKind.i64 (iN q.p.length), AV.lst (List.map (AV.int IntKind.i64) q.p), AV.int IntKind.i64 q.e1]))) (h3 : (CT Try.prog 13 [] [AV.lst (gL q.g), AV.lst (boL q.s)] [] (AV.tup [AV.int IntKind.i64 (iN q.p.length), AV.lst (List.map (AV.int IntKind.i64) q.p), AV.int IntKind.i64 q.e1]))) (h4 : (CT Try.prog 14 [] [AV.lst (gL q.g), AV.lst (boL q.s), AV.int IntKind.i64 q.x] [] (AV.tup [AV.int IntKind.i64 (iN q.t.length), AV.lst (List.map (AV.int IntKind.i64) q.t), AV.int IntKind.i64 q.e2]))) (h5 : (CT Try.prog 15 [] [AV.lst (gL q.g), AV.lst (boL q.s), AV.int IntKind.i64 q.x] [] (AV.tup [AV.int IntKind.i64 (iN q.t.length), AV.lst (List.map (AV.int IntKind.i64) q.t), AV.int IntKind.i64 q.e2]))) (h6 : ((iN q.p.length != iN q.p.length) = false)) (h7 : ((q.e1 != q.e1) = false)) (h8 : (CT Try.prog 16 [] [AV.lst (List.map (AV.int IntKind.i64) q.p), AV.lst (List.map (AV.int IntKind.i64) q.p)] [] (AV.bool true))) (h9 : ((iN q.t.length != iN q.t.length) = false)) (h10 : ((q.e2 != q.e2) = false)) (h11 : (CT Try.prog 16 [] [AV.lst (List.map (AV.int IntKind.i64) q.t), AV.lst (List.map (AV.int IntKind.i64) q.t)] [] (AV.bool true))) (h12 : (q.o.length = (List.map (AV.int IntKind.i64) q.o).length)) (h13 : (CT Try.prog 17 [] [AV.lst (gL q.g), AV.lst (boL q.s), AV.lst (List.map (AV.int IntKind.i64) q.o)] [] (AV.bool q.b))) (h14 : (CT Try.prog 18 [] [AV.lst (gL q.g), AV.lst (boL q.s), AV.lst (List.map (AV.int IntKind.i64) q.o)] [] (AV.bool q.b))) (h15 : ((!q.b == q.b) = false)) {post : Exit → St → Prop} {R : St → Prop} (hR : ∀ st, Ren 0 st (St.mk 131 [(12, AV.int IntKind.i64 2)] []) → R st) : ∃ o' st' q', go2 Try.prog ({ dec := [(50, false), (92, false), (96, false), (107, false), (112, false), (129, false)], els := eFi q, calls := cFi q, unroll := false } : HT) 0 4000 (loopC (loopC (bodyOf Try.f3) 0) 0) (loopK (loopC (bodyOf Try.f3) 0) 0) (lw3 q) = some (o', st', q') ∧ q' ∧ Go.AX.Rest Try.prog 0 (andThen R post) st' o' :=
  endN_spec (σ := []) (fz := []) (vars := [12]) (show endN 0 [] [] [12] (go2 Try.prog ({ dec := [(50, false), (92, false), (96, false), (107, false), (112, false), (129, false)], els := eFi q, calls := cFi q, unroll := false } : HT) 0 4000 (loopC (loopC (bodyOf Try.f3) 0) 0) (loopK (loopC (bodyOf Try.f3) 0) 0) (lw3 q)) = some (St.mk 131 [(12, AV.int IntKind.i64 2)] [], (((((True ∧ True) ∧ ((True ∧ True) ∧ True)) ∧ ((type_of% h1) ∧ True)) ∧ (((True ∧ True) ∧ ((True ∧ True) ∧ ((True ∧ (True ∧ (True ∧ (True ∧ ((type_of% h2) ∧ True))))) ∧ ((True ∧ True) ∧ ((True ∧ True) ∧ ((True ∧ True) ∧ ((True ∧ True) ∧ ((True ∧ True) ∧ ((True ∧ True) ∧ ((True ∧ True) ∧ True)))))))))) ∧ (((True ∧ True) ∧ ((True ∧ True) ∧ ((True ∧ (True ∧ (True ∧ (True ∧ ((type_of% h3) ∧ True))))) ∧ ((True ∧ True) ∧ ((True ∧ True) ∧ ((True ∧ True) ∧ ((True ∧ True) ∧ ((True ∧ True) ∧ ((True ∧ True) ∧ ((True ∧ True) ∧ True)))))))))) ∧ (((True ∧ True) ∧ ((True ∧ True) ∧ ((True ∧ True) ∧ ((True ∧ (True ∧ (True ∧ (True ∧ (True ∧ (True ∧ ((type_of% h4) ∧ True))))))) ∧ ((True ∧ True) ∧ ((True ∧ True) ∧ ((True ∧ True) ∧ ((True ∧ True) ∧ ((True ∧ True) ∧ ((True ∧ True) ∧ ((True ∧ True) ∧ True))))))))))) ∧ (((True ∧ True) ∧ ((True ∧ True) ∧ ((True ∧ True) ∧ ((True ∧ (True ∧ (True ∧ (True ∧ (True ∧ (True ∧ ((type_of% h5) ∧ True))))))) ∧ ((True ∧ True) ∧ ((True ∧ True) ∧ ((True ∧ True) ∧ ((True ∧ True) ∧ ((True ∧ True) ∧ ((True ∧ True) ∧ ((True ∧ True) ∧ True))))))))))) ∧ (((True ∧ True) ∧ ((True ∧ True) ∧ ((True ∧ (True ∧ True)) ∧ (((type_of% h6) ∧ True) ∧ ((True ∧ (True ∧ True)) ∧ ((True ∧ (True ∧ True)) ∧ ((True ∧ (True ∧ (True ∧ True))) ∧ ((True ∧ ((type_of% h7) ∧ True)) ∧ ((True ∧ True) ∧ ((True ∧ (True ∧ True)) ∧ ((True ∧ (True ∧ True)) ∧ ((True ∧ (True ∧ (True ∧ (True ∧ (True ∧ ((type_of% h8) ∧ True)))))) ∧ ((True ∧ (True ∧ True)) ∧ ((True ∧ (True ∧ True)) ∧ ((True ∧ True) ∧ ((True ∧ (True ∧ True)) ∧ ((True ∧ (True ∧ True)) ∧ ((True ∧ (True ∧ (True ∧ True))) ∧ ((True ∧ ((type_of% h9) ∧ True)) ∧ ((True ∧ True) ∧ ((True ∧ (True ∧ True)) ∧ ((True ∧ (True ∧ True)) ∧ ((True ∧ (True ∧ (True ∧ True))) ∧ ((True ∧ ((type_of% h10) ∧ True)) ∧ ((True ∧ True) ∧ ((True ∧ (True ∧ True)) ∧ ((True ∧ (True ∧ True)) ∧ ((True ∧ (True ∧ (True ∧ (True ∧ (True ∧ ((type_of% h11) ∧ True)))))) ∧ ((True ∧ (True ∧ True)) ∧ ((True ∧ (True ∧ True)) ∧ ((True ∧ True) ∧ ((True ∧ (True ∧ True)) ∧ ((True ∧ (True ∧ True)) ∧ ((True ∧ (True ∧ True)) ∧ ((True ∧ (True ∧ (True ∧ (True ∧ (True ∧ (True ∧ ((type_of% h12) ∧ ((type_of% h13) ∧ (∀ (blk : Blk), blk ∈ [] → ImmB blk))))))))) ∧ ((True ∧ (True ∧ True)) ∧ ((True ∧ (True ∧ True)) ∧ ((True ∧ (True ∧ True)) ∧ ((True ∧ (True ∧ (True ∧ (True ∧ (True ∧ (True ∧ ((type_of% h12) ∧ ((type_of% h14) ∧ (∀ (blk : Blk), blk ∈ [] → ImmB blk))))))))) ∧ ((True ∧ (True ∧ (True ∧ True))) ∧ ((True ∧ ((type_of% h15) ∧ True)) ∧ True))))))))))))))))))))))))))))))))))))))))) ∧ (True ∧ (((True ∧ True) ∧ ((True ∧ True) ∧ ((True ∧ True) ∧ True))) ∧ True)))))))) ∧ (True ∧ True))) by kernel_rfl) ⟨⟨⟨⟨⟨trivial, trivial⟩, ⟨⟨trivial, trivial⟩, trivial⟩⟩, ⟨h1, trivial⟩⟩, ⟨⟨⟨trivial, trivial⟩, ⟨⟨trivial, trivial⟩, ⟨⟨trivial, ⟨trivial, ⟨trivial, ⟨trivial, ⟨h2, trivial⟩⟩⟩⟩⟩, ⟨⟨trivial, trivial⟩, ⟨⟨trivial, trivial⟩, ⟨⟨trivial, trivial⟩, ⟨⟨trivial, trivial⟩, ⟨⟨trivial, trivial⟩, ⟨⟨trivial, trivial⟩, ⟨⟨trivial, trivial⟩, trivial⟩⟩⟩⟩⟩⟩⟩⟩⟩⟩, ⟨⟨⟨trivial, trivial⟩, ⟨⟨trivial, trivial⟩, ⟨⟨trivial, ⟨trivial, ⟨trivial, ⟨trivial, ⟨h3, trivial⟩⟩⟩⟩⟩, ⟨⟨trivial, trivial⟩, ⟨⟨trivial, trivial⟩, ⟨⟨trivial, trivial⟩, ⟨⟨trivial, trivial⟩, ⟨⟨trivial, trivial⟩, ⟨⟨trivial, trivial⟩, ⟨⟨trivial, trivial⟩, trivial⟩⟩⟩⟩⟩⟩⟩⟩⟩⟩, ⟨⟨⟨trivial, trivial⟩, ⟨⟨trivial, trivial⟩, ⟨⟨trivial, trivial⟩, ⟨⟨trivial, ⟨trivial, ⟨trivial, ⟨trivial, ⟨trivial, ⟨trivial, ⟨h4, trivial⟩⟩⟩⟩⟩⟩⟩, ⟨⟨trivial, trivial⟩, ⟨⟨trivial, trivial⟩, ⟨⟨trivial, trivial⟩, ⟨⟨trivial, trivial⟩, ⟨⟨trivial, trivial⟩, ⟨⟨trivial, trivial⟩, ⟨⟨trivial, trivial⟩, trivial⟩⟩⟩⟩⟩⟩⟩⟩⟩⟩⟩, ⟨⟨⟨trivial, trivial⟩, ⟨⟨trivial, trivial⟩, ⟨⟨trivial, trivial⟩, ⟨⟨trivial, ⟨trivial, ⟨trivial, ⟨trivial, ⟨trivial, ⟨trivial, ⟨h5, trivial⟩⟩⟩⟩⟩⟩⟩, ⟨⟨trivial, trivial⟩, ⟨⟨trivial, trivial⟩, ⟨⟨trivial, trivial⟩, ⟨⟨trivial, trivial⟩, ⟨⟨trivial, trivial⟩, ⟨⟨trivial, trivial⟩, ⟨⟨trivial, trivial⟩, trivial⟩⟩⟩⟩⟩⟩⟩⟩⟩⟩⟩, ⟨⟨⟨trivial, trivial⟩, ⟨⟨trivial, trivial⟩, ⟨⟨trivial, ⟨trivial, trivial⟩⟩, ⟨⟨h6, trivial⟩, ⟨⟨trivial, ⟨trivial, trivial⟩⟩, ⟨⟨trivial, ⟨trivial, trivial⟩⟩, ⟨⟨trivial, ⟨trivial, ⟨trivial, trivial⟩⟩⟩, ⟨⟨trivial, ⟨h7, trivial⟩⟩, ⟨⟨trivial, trivial⟩, ⟨⟨trivial, ⟨trivial, trivial⟩⟩, ⟨⟨trivial, ⟨trivial, trivial⟩⟩, ⟨⟨trivial, ⟨trivial, ⟨trivial, ⟨trivial, ⟨trivial, ⟨h8, trivial⟩⟩⟩⟩⟩⟩, ⟨⟨trivial, ⟨trivial, trivial⟩⟩, ⟨⟨trivial, ⟨trivial, trivial⟩⟩, ⟨⟨trivial, trivial⟩, ⟨⟨trivial, ⟨trivial, trivial⟩⟩, ⟨⟨trivial, ⟨trivial, trivial⟩⟩, ⟨⟨trivial, ⟨trivial, ⟨trivial, trivial⟩⟩⟩, ⟨⟨trivial, ⟨h9, trivial⟩⟩, ⟨⟨trivial, trivial⟩, ⟨⟨trivial, ⟨trivial, trivial⟩⟩, ⟨⟨trivial, ⟨trivial, trivial⟩⟩, ⟨⟨trivial, ⟨trivial, ⟨trivial, trivial⟩⟩⟩, ⟨⟨trivial, ⟨h10, trivial⟩⟩, ⟨⟨trivial, trivial⟩, ⟨⟨trivial, ⟨trivial, trivial⟩⟩, ⟨⟨trivial, ⟨trivial, trivial⟩⟩, ⟨⟨trivial, ⟨trivial, ⟨trivial, ⟨trivial, ⟨trivial, ⟨h11, trivial⟩⟩⟩⟩⟩⟩, ⟨⟨trivial, ⟨trivial, trivial⟩⟩, ⟨⟨trivial, ⟨trivial, trivial⟩⟩, ⟨⟨trivial, trivial⟩, ⟨⟨trivial, ⟨trivial, trivial⟩⟩, ⟨⟨trivial, ⟨trivial, trivial⟩⟩, ⟨⟨trivial, ⟨trivial, trivial⟩⟩, ⟨⟨trivial, ⟨trivial, ⟨trivial, ⟨trivial, ⟨trivial, ⟨trivial, ⟨h12, ⟨h13, (by intro _ h; cases h)⟩⟩⟩⟩⟩⟩⟩⟩, ⟨⟨trivial, ⟨trivial, trivial⟩⟩, ⟨⟨trivial, ⟨trivial, trivial⟩⟩, ⟨⟨trivial, ⟨trivial, trivial⟩⟩, ⟨⟨trivial, ⟨trivial, ⟨trivial, ⟨trivial, ⟨trivial, ⟨trivial, ⟨h12, ⟨h14, (by intro _ h; cases h)⟩⟩⟩⟩⟩⟩⟩⟩, ⟨⟨trivial, ⟨trivial, ⟨trivial, trivial⟩⟩⟩, ⟨⟨trivial, ⟨h15, trivial⟩⟩, trivial⟩⟩⟩⟩⟩⟩⟩⟩⟩⟩⟩⟩⟩⟩⟩⟩⟩⟩⟩⟩⟩⟩⟩⟩⟩⟩⟩⟩⟩⟩⟩⟩⟩⟩⟩⟩⟩⟩⟩⟩⟩, ⟨trivial, ⟨⟨⟨trivial, trivial⟩, ⟨⟨trivial, trivial⟩, ⟨⟨trivial, trivial⟩, trivial⟩⟩⟩, trivial⟩⟩⟩⟩⟩⟩⟩⟩, ⟨trivial, trivial⟩⟩ hR
theorem xfx_0 (q : QN) : ∃ o' st' q', go2 Try.prog ({ dec := [], els := eFi q, calls := cFi q, unroll := false } : HT) 0 4000 (loopC (bodyOf Try.f3) 0) (loopK (bodyOf Try.f3) 0) (lo3e q) = some (o', st', q') ∧ q' ∧ Go.AX.Rest Try.prog 0 (Fin Try.prog Try.f3 0 [] (AV.bool true)) st' o' :=
  endF_spec (σ := []) (fz := []) (show endF Try.prog Try.f3 0 [] [] (go2 Try.prog ({ dec := [], els := eFi q, calls := cFi q, unroll := false } : HT) 0 4000 (loopC (bodyOf Try.f3) 0) (loopK (bodyOf Try.f3) 0) (lo3e q)) = some ([], AV.bool true, (((((True ∧ True) ∧ ((True ∧ True) ∧ True)) ∧ (True ∧ True)) ∧ ((True ∧ True) ∧ True)) ∧ (True ∧ True))) by kernel_rfl) ⟨⟨⟨⟨⟨trivial, trivial⟩, ⟨⟨trivial, trivial⟩, trivial⟩⟩, ⟨trivial, trivial⟩⟩, ⟨⟨trivial, trivial⟩, trivial⟩⟩, ⟨trivial, trivial⟩⟩
end Go.Proofs.Ytcdgphdieemjcaa

/-! Contracts. -/
open Go Go.AX Go.Proofs
set_option maxRecDepth 100000
set_option maxHeartbeats 1000000
set_option linter.unusedVariables false
set_option linter.unusedSimpArgs false
namespace Go.Proofs.Ytcdgphdieemjcaa
theorem ClsP.mono {g h : List (List Int)} {s m : List Bool} {o : List Int} (hc : ClsP g m o) (hl : h.length = g.length) (hg : ∀ v, ∀ x ∈ g.getD v [], x ∈ h.getD v []) (hm : ∀ v, m.getD v false = false → s.getD v false = false) : ClsP h s o :=
  ⟨hc.1, fun x hx => by obtain ⟨a, b, c⟩ := hc.2.1 x hx; exact ⟨a, by rw [hl]; exact b, hm _ c⟩, fun i hi => hg _ _ (hc.2.2 i hi)⟩

noncomputable def qn (L : List Int) (g : List (List Int)) (s : List Bool) (o p t : List Int) (i v w : Nat) (x y z : Int) (b : Bool) (r : List Int) (m1 m2 : Nat) (h : List (List Int)) (s' : List Bool) : QN := ⟨L, [], g, s, o, p, t, i, v, w, x, y, z, b, r, m1, m2, h, 0, s', [], 0, 0⟩

theorem girL_len {g : List (List Int)} {s : List Bool} (hrw : Rows g) : (girL g s).length ≤ 1000000 := by
  unfold girL
  by_cases h : chk4 g s = 0
  · rw [if_pos h]
    have := girN_len (chk4_ok hrw h).1
    omega
  · rw [if_neg h]; simp
theorem thE_zero {g : List (List Int)} {s : List Bool} {v : Int} (h : thE g s v = 0) : chk4 g s = 0 ∧ 0 ≤ v ∧ v < (g.length : Int) := by
  unfold thE at h
  by_cases h1 : chk4 g s = 0
  · rw [if_neg (fun e => e h1)] at h
    by_cases h2 : v < 0 ∨ (g.length : Int) ≤ v
    · rw [if_pos h2] at h; cases h
    · exact ⟨h1, by omega, by omega⟩
  · rw [if_pos h1] at h; exact absurd h h1
theorem thL_len {g : List (List Int)} {s : List Bool} (hrw : Rows g) (v : Int) : (thL g s v).length ≤ 1000000 := by
  unfold thL
  by_cases h : thE g s v = 0
  · rw [if_pos h]
    obtain ⟨h1, h2, h3⟩ := thE_zero h
    have := thZ_len (chk4_ok hrw h1).1 (v := v.toNat) (by omega)
    omega
  · rw [if_neg h]; simp

noncomputable def qf3 (L : List Int) (g : List (List Int)) (s : List Bool) (o : List Int) (x z y : Int) (kk : Nat) : QN := ⟨L, [], g, s, o, girL g s, thL g s x, 0, 0, 0, x, y, z, clsB g s o, [], 0, 0, [], kk, [], [], chk4 g s, thE g s x⟩
noncomputable def lwS (L : List Int) (g : List (List Int)) (s : List Bool) (o : List Int) (x z : Int) (kk : Nat) : St := match o with
  | [] => lw3z (qf3 L g s [] x z 0 kk)
  | _ => lw3 (qf3 L g s o x z 0 kk)
theorem lwS_ne {L : List Int} {g : List (List Int)} {s : List Bool} {o : List Int} (h : o ≠ []) (x z : Int) (kk : Nat) : lwS L g s o x z kk = lw3 (qf3 L g s o x z 0 kk) := by
  cases o with
  | nil => exact absurd rfl h
  | cons _ _ => rfl

theorem gfinds_ct {g : List (List Int)} {s : List Bool} (hrw : Rows g) (o : List Int) (hol : o.length ≤ 9223372036854775807) (x : Int) (L : List Int) : CT Try.prog 3 [] [.lst (gL g), .lst (boL s), lI o, .int .i64 x, lI L] [] (.bool true) := by
  obtain ⟨g', k1, n, hn, hgi, hkk, c1⟩ := graph_ex L 0 9 (by omega) (by omega)
  obtain ⟨s', k2, hs, hkk2, c2⟩ := shut_ex L k1 n (by omega) (by omega)
  obtain ⟨hg', _⟩ := hgi.ok (by omega) (by omega) hs
  have hrw' : Rows g' := rows_ok hg'
  have hgn := hgi.len
  have hl := gL_len g'
  have n1 := next_ct L k2 (n : Int) (by omega)
  have n2 := next_ct L (k2 + 1) 5 (by omega)
  have r2 := nextZ_rng L (k2 + 1) 5 (by omega) (by omega)
  generalize nextZ L k2 (n : Int) = x' at n1
  obtain ⟨z, hz⟩ : ∃ z : Nat, nextZ L (k2 + 1) 5 = (z : Int) := ⟨(nextZ L (k2 + 1) 5).toNat, by omega⟩
  rw [hz] at n2 r2
  refine CT.path mix Try.func3 (show Try.f3.body = some (bodyOf Try.f3) by kernel_rfl) (Nat.le_of_ble_eq_true rfl) (xfi_0 (qf3 L g s o x 0 0 0) known6_ct ?_)
  refine T.loop (fun j : Nat => match j with
    | 0 => lo3z (qf3 L g s o x 0 0 0)
    | 1 => lo3o (qf3 L g s o x 0 0 0)
    | _ => lo3e (qf3 L g s o x 0 0 0)) (fun j => j ≤ 2) (fun j => 3 - j) 0 (by omega) ?_
  intro j hj
  match j, hj with
  | 0, _ =>
    refine T.path mix (xfr_0 (qf3 L g s o x 0 0 0) (GirthG_ct hrw) (rGirthG_ct hrw) (ThroughG_ct hrw x) (rThroughG_ct hrw x) (by simp) (by simp) (sameInts_ct _ (girL_len hrw)) (by simp) (by simp) (sameInts_ct _ (thL_len hrw x)) (closed_ct hrw o hol) (rclosed_ct hrw o hol) (by simp) ?_)
    intro st hst
    exact ⟨1, hst, by omega, by omega⟩
  | 1, _ =>
    have c2' : CT Try.prog 10 [some (tapeB L k1)] [.ptr 0 0 0, .int .i64 (iN (gL g').length)] [some (tapeB L k2)] (.lst (boL s')) := by simp only [iN, hl, hgn]; exact c2
    have n1' : CT Try.prog 11 [some (tapeB L k2)] [.ptr 0 0 0, .int .i64 (iN (gL g').length)] [some (tapeB L (k2 + 1))] (.int .i64 x') := by simp only [iN, hl, hgn]; exact n1
    refine T.path mix (xfo_0 ⟨L, [], g, s, o, [], [], 0, 0, 0, x', 0, (z : Int), false, [], k1, k2, [], 0, s', g', 0, 0⟩ c1 c2' n1' n2 ?_)
    have key : T Try.prog 0 (.loop (loopC (loopC (bodyOf Try.f3) 0) 0)) (lwS L g' s' [] x' (z : Int) (k2 + 1 + 1)) (TK Try.prog 0 (andThen (fun st' => ∃ j : Nat, Ren 0 st' (match j with
      | 0 => lo3z (qf3 L g s o x 0 0 0)
      | 1 => lo3o (qf3 L g s o x 0 0 0)
      | _ => lo3e (qf3 L g s o x 0 0 0)) ∧ j ≤ 2 ∧ 3 - j < 3 - 1) (TK Try.prog 0 (Fin Try.prog Try.f3 0 [] (.bool true)) (loopK (bodyOf Try.f3) 0))) (loopK (loopC (bodyOf Try.f3) 0) 0)) := ?_
    · exact key
    refine T.loop (fun y : Nat × List Int × Nat => lwS L g' s' y.2.1 x' (y.1 : Int) y.2.2) (fun y => y.1 + y.2.1.length = z ∧ y.2.2 = k2 + 1 + 1 + y.2.1.length) (fun y => y.1) (z, [], k2 + 1 + 1) ⟨by simp, by simp⟩ ?_
    rintro ⟨a, t, c⟩ ⟨hat, hct⟩
    simp only at hat hct
    have nn := next_ct L c (n : Int) (by omega)
    generalize nextZ L c (n : Int) = y at nn
    have nn' : CT Try.prog 11 [some (tapeB L c)] [.ptr 0 0 0, .int .i64 (iN (gL g').length)] [some (tapeB L (c + 1))] (.int .i64 y) := by simp only [iN, hl, hgn]; exact nn
    have htl := lI_len t
    by_cases h : 0 < a
    · have da : decide (0 < (a : Int)) = true := decide_eq_true (by omega)
      have wa : IntKind.i64.wrap ((a : Int) - 1) = ((a - 1 : Nat) : Int) := wrapM1 a h (by omega)
      cases t with
      | nil =>
        refine T.path mix (xwz_0 (qf3 L g' s' [] x' (a : Int) y c) da nn' (by simp) (by simp) (by simp) ?_)
        intro st hst
        simp only [qf3, wa] at hst
        exact ⟨(a - 1, [y], c + 1), hst, ⟨by simp only [List.length_cons, List.length_nil] at hat ⊢; omega, by simp only [List.length_cons, List.length_nil] at hct ⊢; omega⟩, by simp only; omega⟩
      | cons t0 t1 =>
        refine T.path mix (xww_0 (qf3 L g' s' (t0 :: t1) x' (a : Int) y c) da nn' (by simp [qf3]) (by simp) (by simp only [qf3, htl, List.length_cons, List.length_nil] at hat ⊢; omega) (by simp only [qf3, htl, List.length_cons, List.length_nil] at hat ⊢; omega) ?_)
        intro st hst
        simp only [qf3, wa] at hst
        have e5 : ((t0 :: t1).map (AV.int .i64)).length + [AV.int .i64 y].length = ((t0 :: t1) ++ [y]).length := by simp
        have e6 : (t0 :: t1).map (AV.int .i64) ++ [AV.int .i64 y] = ((t0 :: t1) ++ [y]).map (AV.int .i64) := by simp
        rw [e5, e6] at hst
        refine ⟨(a - 1, (t0 :: t1) ++ [y], c + 1), ?_, ⟨by simp only [List.length_append, List.length_cons, List.length_nil] at hat ⊢; omega, by simp only [List.length_append, List.length_cons, List.length_nil] at hct ⊢; omega⟩, by simp only; omega⟩
        rw [lwS_ne (by simp)]
        exact hst
    · obtain rfl : a = 0 := by omega
      have da : decide (0 < ((0 : Nat) : Int)) = false := rfl
      have hcl := closed_ct (s := s') hrw' t (by omega)
      have hrl := rclosed_ct (s := s') hrw' t (by omega)
      cases t with
      | nil =>
        refine T.out mix (xez_0 (qf3 L g' s' [] x' ((0 : Nat) : Int) 0 c) da (GirthG_ct hrw') (rGirthG_ct hrw') (ThroughG_ct hrw' x') (rThroughG_ct hrw' x') (by simp) (by simp) (sameInts_ct _ (girL_len hrw')) (by simp) (by simp) (sameInts_ct _ (thL_len hrw' x')) (CT.nilArgs hcl rfl) (CT.nilArgs hrl rfl) (by simp) ?_)
        intro st hst
        exact ⟨2, hst, by omega, by omega⟩
      | cons t0 t1 =>
        refine T.out mix (xew_0 (qf3 L g' s' (t0 :: t1) x' ((0 : Nat) : Int) 0 c) da (GirthG_ct hrw') (rGirthG_ct hrw') (ThroughG_ct hrw' x') (rThroughG_ct hrw' x') (by simp) (by simp) (sameInts_ct _ (girL_len hrw')) (by simp) (by simp) (sameInts_ct _ (thL_len hrw' x')) (by simp [qf3]) hcl hrl (by simp) ?_)
        intro st hst
        exact ⟨2, hst, by omega, by omega⟩
  | 2, _ =>
    exact T.out mix (xfx_0 (qf3 L g s o x 0 0 0))
theorem bools6 {n : Nat} {es : List AV} (h : ∀ x ∈ es, ShV Try.prog n 4 x) : ∃ s : List Bool, es = boL s := by
  induction es with
  | nil => exact ⟨[], rfl⟩
  | cons x es ih =>
    obtain ⟨L, rfl⟩ := ih fun y hy => h y (List.mem_cons_of_mem _ hy)
    obtain ⟨i, rfl⟩ := (h x (by simp)).boolD Try.underlying4
    exact ⟨i :: L, rfl⟩
theorem rows6 {n : Nat} {es : List AV} (h : ∀ x ∈ es, ShV Try.prog (n + 1) 24 x) : ∃ g : List (List Int), es = gL g ∧ ∀ r ∈ g, r.length ≤ 9223372036854775807 := by
  induction es with
  | nil => exact ⟨[], rfl, fun r hr => by cases hr⟩
  | cons x es ih =>
    obtain ⟨g, rfl, hg⟩ := ih fun y hy => h y (List.mem_cons_of_mem _ hy)
    obtain ⟨ls, hm, hl, rfl⟩ := (h x (by simp)).sliceD Try.underlying24
    obtain ⟨L, rfl⟩ := ints6 hl
    refine ⟨L :: g, rfl, fun r hr => ?_⟩
    rcases List.mem_cons.1 hr with rfl | hr
    · simpa [maxLen] using hm
    · exact hg r hr
theorem girthFinds_row (avs : List AV) (h : ShVs Try.prog 5 Try.f3.params.toList avs) : CT Try.prog 3 [] avs [] (.bool true) := by
  rw [Try.params3] at h
  obtain ⟨a, _, rfl, ka, h⟩ := h.consD
  obtain ⟨b, _, rfl, kb, h⟩ := h.consD
  obtain ⟨c, _, rfl, kc, h⟩ := h.consD
  obtain ⟨d, _, rfl, kd, h⟩ := h.consD
  obtain ⟨e, _, rfl, ke, h⟩ := h.consD
  obtain rfl := h.nilD
  obtain ⟨ls, _, hl, rfl⟩ := ka.sliceD Try.underlying22
  obtain ⟨g, rfl, hg⟩ := rows6 hl
  obtain ⟨bs, _, hb, rfl⟩ := kb.sliceD Try.underlying23
  obtain ⟨s, rfl⟩ := bools6 hb
  obtain ⟨lo, ho, hlo, rfl⟩ := kc.sliceD Try.underlying24
  obtain ⟨o, rfl⟩ := ints6 hlo
  obtain ⟨x, _, rfl⟩ := kd.intD Try.underlying3
  obtain ⟨li, _, hi, rfl⟩ := ke.sliceD Try.underlying24
  obtain ⟨L, rfl⟩ := ints6 hi
  refine gfinds_ct (fun v hv => ?_) o (by simpa [maxLen] using ho) x L
  rw [List.getD_eq_getElem?_getD, List.getElem?_eq_getElem hv]
  exact hg _ (List.getElem_mem hv)
end Go.Proofs.Ytcdgphdieemjcaa


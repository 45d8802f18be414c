/- Parts of the proof: HoP, Ho10m, St7m, StG, St8m, StH, StR, HoQ. -/
import Derived.KernelRfl
import Derived.Test.YtepomnooippjpaaProg
import Derived.Test.YtepomnooippjpaaHomesStableM6
open Go Go.AX Go.Proofs
set_option maxRecDepth 100000
set_option linter.unusedVariables false
set_option linter.unusedSimpArgs false
namespace Go.Proofs.Ytepomnooippjpaa
theorem count_le_of {s : Int} : ∀ {a b : List Int}, a.length = b.length → (∀ j, j < a.length → a.getD j 0 = s → b.getD j 0 = s) → a.count s ≤ b.count s := by
  intro a
  induction a with
  | nil => intro b _ _; simp
  | cons x a ih =>
    intro b hl h
    match b, hl, h with
    | [], hl, _ => simp at hl
    | y :: b, hl, h =>
      have h1 := ih (b := b) (by simpa using hl) (fun j hj hx => by have := h (j + 1) (by simp; omega) (by simpa using hx); simpa using this)
      rw [List.count_cons, List.count_cons]
      by_cases hx : x = s
      · have : y = s := by have := h 0 (by simp) (by simpa using hx); simpa using this
        subst hx; subst this; simp; exact h1
      · have : (x == s) = false := by simpa using hx
        rw [this]; simp; omega
theorem ext_getD {a b : List Int} (hl : a.length = b.length) (h : ∀ j, a.getD j 0 = b.getD j 0) : a = b := by
  apply List.ext_getElem hl
  intro j h1 h2
  have := h j
  rw [List.getD_eq_getElem?_getD, List.getD_eq_getElem?_getD, List.getElem?_eq_getElem h1, List.getElem?_eq_getElem h2] at this
  exact this
theorem F1_at {n : NetD} {sh : List Bool} {hm gs : List Int} {j : Nat} (hj : j < hm.length) : (F1 n sh hm gs 0 hm.length).getD j 0 = p1 n sh hm gs j := by
  unfold F1
  rw [List.getD_eq_getElem?_getD, List.getElem?_map, List.getElem?_range hj]
  simp [hj]
theorem cntI_count (l : List Int) (j : Nat) : cntI l j = l.count (j : Int) := by
  unfold cntI List.count
  rw [List.countP_eq_length_filter]
theorem SI.base {n : NetD} {sh : List Bool} {hm gs : List Int} (hI : HmI n hm gs) : SI n sh (F1 n sh hm gs 0 hm.length) (F1 n sh hm gs 0 hm.length) := by
  refine ⟨.refl _, fun j hj hb => .inl hb, fun s hs => ?_⟩
  have h0 := odB_nn hs
  have hd : dpB n s = true := by unfold odB at hs; simp only [Bool.and_eq_true] at hs; exact hs.2
  obtain ⟨j, rfl⟩ : ∃ j : Nat, s = (j : Int) := ⟨s.toNat, by omega⟩
  have h1 : (F1 n sh hm gs 0 hm.length).count (j : Int) ≤ gs.count (j : Int) := by
    refine count_le_of (by rw [F1_len, hI.gl]) fun i hi hx => ?_
    rw [F1_len] at hi
    rw [F1_at hi] at hx
    unfold p1 at hx
    split at hx
    · omega
    · split at hx
      · exact hx
      · omega
  unfold dpB at hd
  rw [Int.toNat_natCast] at hd
  unfold slk
  rw [Int.toNat_natCast]
  cases hs2 : n.ss[j]? with
  | none => rw [hs2] at hd; simp at hd
  | some t =>
    have := hI.ct j t hs2
    rw [cntI_count] at this
    show _ ≤ t.k
    omega
theorem setZ_si {n : NetD} {sh : List Bool} {hm gs : List Int} (hI : HmI n hm gs) : SI n sh (F1 n sh hm gs 0 hm.length) (setZ n sh hm gs) := SI.f3 (SI.base hI) _
theorem setZ_len {n : NetD} {sh : List Bool} {hm gs : List Int} : (setZ n sh hm gs).length = hm.length := F3_len _
theorem setZ_two {n : NetD} {sh : List Bool} {hm gs : List Int} (hI : HmI n hm gs) {j : Nat} (hj : j < hm.length) : ((setZ n sh hm gs).getD j 0 == -2) = (hm.getD j 0 == -2) := by
  have si := setZ_si (sh := sh) hI
  have hb := F1_at (n := n) (sh := sh) (gs := gs) hj
  cases h : hm.getD j 0 == -2 with
  | true =>
    have : p1 n sh hm gs j = -2 := by unfold p1; rw [h]; rfl
    rw [this] at hb
    rw [si.go.ext j (by rw [hb]; omega), hb]; rfl
  | false =>
    have hp : p1 n sh hm gs j = -1 ∨ 0 ≤ p1 n sh hm gs j := by
      unfold p1; rw [h]
      simp only [Bool.false_eq_true, if_false]
      split
      · rename_i hc; simp only [Bool.and_eq_true, decide_eq_true_eq] at hc; exact .inr hc.1
      · exact .inl rfl
    rw [← hb] at hp
    have : (setZ n sh hm gs).getD j 0 ≠ -2 := by
      by_cases e : (F1 n sh hm gs 0 hm.length).getD j 0 = -1
      · rcases si.opn j (by rw [F1_len]; exact hj) e with h1 | h1
        · omega
        · have := odB_nn h1; omega
      · rw [si.go.ext j e]; omega
    simpa using this
theorem setZ_f1 {n : NetD} {sh : List Bool} {hm gs : List Int} (hI : HmI n hm gs) : F1 n sh (setZ n sh hm gs) gs 0 (setZ n sh hm gs).length = F1 n sh hm gs 0 hm.length := by
  refine ext_getD (by rw [F1_len, F1_len, setZ_len]) fun j => ?_
  by_cases hj : j < hm.length
  · rw [F1_at hj, F1_at (by rw [setZ_len]; exact hj)]
    unfold p1
    rw [setZ_two hI hj]
  · rw [List.getD_eq_getElem?_getD, List.getD_eq_getElem?_getD, List.getElem?_eq_none (by rw [F1_len, setZ_len]; omega), List.getElem?_eq_none (by rw [F1_len]; omega)]
theorem setZ_f2 {n : NetD} {sh : List Bool} {hm gs : List Int} (hI : HmI n hm gs) : ∀ k, k ≤ hm.length → ∀ j, (F2 n sh (setZ n sh hm gs) gs k).getD j 0 = if j < k then (setZ n sh hm gs).getD j 0 else (F1 n sh hm gs 0 hm.length).getD j 0 := by
  have si := setZ_si (sh := sh) hI
  intro k
  induction k with
  | zero => intro _ j; rw [if_neg (by omega), F2, setZ_f1 hI]
  | succ k ih =>
    intro hk j
    have ih := ih (by omega)
    have ll : (F2 n sh (setZ n sh hm gs) gs k).length = hm.length := by rw [F2_len, setZ_len]
    rw [F2]
    generalize F2 n sh (setZ n sh hm gs) gs k = l at *
    have hlk := ih k
    rw [if_neg (by omega)] at hlk
    have same : (setZ n sh hm gs).getD k 0 = (F1 n sh hm gs 0 hm.length).getD k 0 → (l.getD j 0 = if j < k + 1 then (setZ n sh hm gs).getD j 0 else (F1 n sh hm gs 0 hm.length).getD j 0) := fun e => by
      rw [ih j]
      by_cases h1 : j < k
      · rw [if_pos h1, if_pos (by omega)]
      · rw [if_neg h1]
        by_cases h2 : j = k
        · subst h2; rw [if_pos (by omega), e]
        · rw [if_neg (by omega)]
    by_cases hb : (F1 n sh hm gs 0 hm.length).getD k 0 = -1
    · rcases si.opn k (by rw [F1_len]; omega) hb with h1 | h1
      · have e : st2 n sh (setZ n sh hm gs) l k = l := by unfold st2; rw [h1, dec_f (show ¬ (0 : Int) ≤ -1 by omega)]; simp
        rw [e]; exact same (by rw [h1, hb])
      · have h0 := odB_nn h1
        rw [hb] at hlk
        have g : Goes (l.set k ((setZ n sh hm gs).getD k 0)) (setZ n sh hm gs) := by
          refine ⟨by rw [setZ_len]; simpa using ll.symm, fun i hi => ?_⟩
          by_cases e : k = i
          · subst e; rw [getD_set_eq (by omega)]
          · rw [getD_set_ne e] at hi ⊢
            rw [ih i] at hi ⊢
            by_cases h2 : i < k
            · rw [if_pos h2]
            · rw [if_neg h2] at hi ⊢
              exact si.go.ext i hi
        have c1 := g.count ((setZ n sh hm gs).getD k 0) (by omega)
        rw [count_set_lt hlk (by omega)] at c1
        have c2 := si.cnt _ h1
        have p : 0 < plZ n sh l ((setZ n sh hm gs).getD k 0) := plZ_pos.2 ⟨h1, by omega⟩
        have e : st2 n sh (setZ n sh hm gs) l k = l.set k ((setZ n sh hm gs).getD k 0) := by unfold st2; rw [if_pos (by rw [hlk, dec_t h0, dec_t p]; rfl)]
        rw [e]
        by_cases e : k = j
        · subst e; rw [getD_set_eq (by omega), if_pos (by omega)]
        · rw [getD_set_ne e, ih j]
          by_cases h2 : j < k
          · rw [if_pos h2, if_pos (by omega)]
          · rw [if_neg h2, if_neg (by omega)]
    · have e : st2 n sh (setZ n sh hm gs) l k = l := by
        unfold st2; rw [if_neg]
        simp only [Bool.and_eq_true, beq_iff_eq]
        intro h; exact hb (by rw [← hlk]; exact h.1)
      rw [e]; exact same (si.go.ext k hb)
theorem setZ_stable {n : NetD} {sh : List Bool} {hm gs : List Int} (hI : HmI n hm gs) : setZ n sh (setZ n sh hm gs) gs = setZ n sh hm gs := by
  have a2 : F2 n sh (setZ n sh hm gs) gs (setZ n sh hm gs).length = setZ n sh hm gs := by
    refine ext_getD (F2_len _) fun j => ?_
    rw [setZ_len, setZ_f2 hI _ (Nat.le_refl _) j]
    by_cases hj : j < hm.length
    · rw [if_pos hj]
    · rw [if_neg hj, List.getD_eq_getElem?_getD, List.getD_eq_getElem?_getD, List.getElem?_eq_none (by rw [F1_len]; omega), List.getElem?_eq_none (by rw [setZ_len]; omega)]
  have g3 : ∀ i m, m ≤ n.ss.length → G3 n sh i (setZ n sh hm gs) m = setZ n sh hm gs := by
    intro i m
    induction m with
    | zero => intro _; rfl
    | succ m ih =>
      intro hm2
      rw [G3, ih (by omega)]
      unfold st3
      rw [if_neg]
      simp only [Bool.and_eq_true, beq_iff_eq, decide_eq_true_eq]
      intro h
      have hl := getD_lt h.1
      rw [setZ_len] at hl
      exact f3_full hl h.1 (by omega) h.2
  have f3 : ∀ k, F3 n sh (setZ n sh hm gs) gs k = setZ n sh hm gs := by
    intro k
    induction k with
    | zero => rw [F3]; exact a2
    | succ k ih => rw [F3, ih]; exact g3 k _ (Nat.le_refl _)
  exact f3 _
end Go.Proofs.Ytepomnooippjpaa
set_option maxHeartbeats 4000000
namespace Go.Proofs.Ytepomnooippjpaa
noncomputable def hStSt (l : List Int) : Empty → St
  | x => x.elim
def hStHd : Empty → Nat
  | x => x.elim
noncomputable def hStEn (l : List Int) : Option (Empty ⊕ Ret) :=
  gu (ValidN (looM l 0 6)) <|
  gu (celN (looM l 0 6) ≤ 1000) <|
  gu (looK l 0 6 ≤ 50000) <|
  gu (LooseOk (looM l 0 6)) <|
  gu (shuK l (looK l 0 6) (celN (looM l 0 6)) ≤ 50000) <|
  gu (Rows (looM l 0 6).nx) <|
  gu (setE (looM l 0 6) (shuL l (looK l 0 6) (celN (looM l 0 6))) (setL (looM l 0 6) (shuL l (looK l 0 6) (celN (looM l 0 6))) (hmdH (looM l 0 6) l (shuK l (looK l 0 6) (celN (looM l 0 6)))) (hmdG (looM l 0 6) l (shuK l (looK l 0 6) (celN (looM l 0 6))))) (hmdG (looM l 0 6) l (shuK l (looK l 0 6) (celN (looM l 0 6)))) = 0) <|
  gu (setL (looM l 0 6) (shuL l (looK l 0 6) (celN (looM l 0 6))) (setL (looM l 0 6) (shuL l (looK l 0 6) (celN (looM l 0 6))) (hmdH (looM l 0 6) l (shuK l (looK l 0 6) (celN (looM l 0 6)))) (hmdG (looM l 0 6) l (shuK l (looK l 0 6) (celN (looM l 0 6))))) (hmdG (looM l 0 6) l (shuK l (looK l 0 6) (celN (looM l 0 6)))) = setL (looM l 0 6) (shuL l (looK l 0 6) (celN (looM l 0 6))) (hmdH (looM l 0 6) l (shuK l (looK l 0 6) (celN (looM l 0 6)))) (hmdG (looM l 0 6) l (shuK l (looK l 0 6) (celN (looM l 0 6))))) <|
  br (setE (looM l 0 6) (shuL l (looK l 0 6) (celN (looM l 0 6))) (hmdH (looM l 0 6) l (shuK l (looK l 0 6) (celN (looM l 0 6)))) (hmdG (looM l 0 6) l (shuK l (looK l 0 6) (celN (looM l 0 6)))) == 0)
  (gu ((setL (looM l 0 6) (shuL l (looK l 0 6) (celN (looM l 0 6))) (hmdH (looM l 0 6) l (shuK l (looK l 0 6) (celN (looM l 0 6)))) (hmdG (looM l 0 6) l (shuK l (looK l 0 6) (celN (looM l 0 6))))).length ≤ 1000000) <|
   some (.inr ([], AV.bool true)))
  (some (.inr ([], AV.bool false)))
noncomputable def hStStep (l : List Int) : Empty → Option (Empty ⊕ Ret)
  | x => x.elim
theorem hStEn_ok (l : List Int) (o : Empty ⊕ Ret) (h : hStEn l = some o) : Arr Try.prog Try.f13 0 (hStSt l) hStHd (bodyOf Try.f13) [] { n := Try.f13.ntmps, fr := enumF 0 ([lI l]), hp := ([]) } o :=
 Scr.ok h mix (
 have c0 := hknown_ct;
 have c1 := loose_ct (l) (0) (6) (show nat_lit 0 ≤ (5000 : Nat) from (by first | exact Nat.le_of_ble_eq_true rfl | decide)) (show (1 : Int) ≤ (6 : Int) ∧ (6 : Int) ≤ (20 : Int) from ⟨(by first | exact Nat.le_of_ble_eq_true rfl | decide), (by first | exact Nat.le_of_ble_eq_true rfl | decide)⟩);
 .rn 3 [] [] [(12, hK c0 [] []), (18, hK c1 [0] [])] [] (u2 (aj (aj (al (c0)) s2) (ak (aj (u2 (u2 (u2 s2))) (al (u2 (aj (ak (k3 (al (c1)))) (ak (al (k2 n11)))))))))) <|
 .gu fun a0 =>
 .gu fun a1 =>
 .gu fun a2 =>
 have c2 := cells_ct a0;
 have c3 := shut_ct (l) (looK l 0 6) (celN (looM l 0 6)) a1 a2;
 .rn 0 [] [] [(21, hK c2 [] []), (22, hK c3 [0] [])] [] (al (u2 (u2 (aj (ak (aj t9 (al (c2)))) (aj (k5 (al (c3))) s2))))) <|
 .gu fun a3 =>
 .gu fun a4 =>
 have c4 := hmade_ct (looM l 0 6) (l) (shuK l (looK l 0 6) (celN (looM l 0 6))) a3 a4;
 .rn 0 [] [] [(26, hK c4 [0] [])] [] (al (u2 (u2 (aj (k3 (aj t9 (ak (al (c4))))) (u2 (u2 (u2 (u2 s2)))))))) <|
 .gu fun a5 =>
 have c5 := hSettle_ct a5 (shuL l (looK l 0 6) (celN (looM l 0 6))) (hmdH (looM l 0 6) l (shuK l (looK l 0 6) (celN (looM l 0 6)))) (hmdG (looM l 0 6) l (shuK l (looK l 0 6) (celN (looM l 0 6))));
 .rn 0 [] [] [(34, hK c5 [] [])] [] (al (u2 (u2 (u2 (u2 (aj (ak (k3 (aj t9 (k3 (al (c5)))))) (u2 (u2 (u2 (u2 s2)))))))))) <|
 .gu fun a6 =>
 .gu fun a7 =>
 have c6 := settle2_ct (looM l 0 6) (shuL l (looK l 0 6) (celN (looM l 0 6))) (hmdH (looM l 0 6) l (shuK l (looK l 0 6) (celN (looM l 0 6)))) (hmdG (looM l 0 6) l (shuK l (looK l 0 6) (celN (looM l 0 6)))) a5 a6 a7;
 .rn 0 [] [] [(42, hK c6 [] [])] [] (al (u2 (u2 (u2 (u2 (aj (ak (k3 (aj t9 (k3 (al (c6)))))) (u2 (u2 (u2 (u2 s2)))))))))) <|
 .br (fun a8 =>
 .gu fun a9 =>
 have c7 := sameInts_ct (setL (looM l 0 6) (shuL l (looK l 0 6) (celN (looM l 0 6))) (hmdH (looM l 0 6) l (shuK l (looK l 0 6) (celN (looM l 0 6)))) (hmdG (looM l 0 6) l (shuK l (looK l 0 6) (celN (looM l 0 6))))) a9;
 .rt [95] [] [(54, hK c7 [] [])] [] [] [] (aj (al (u2 (u2 (u2 (ag a8 (ag a8 (ag a8 (u2 (aj t3 (aj t3 (aj (k5 (al (c7))) (aj t3 s2)))))))))))) t2))
 (fun a8 =>
 .rt [94] [] [] [] [] [] (aj (al (u2 (u2 (u2 (aj a8 (aj a8 (ag a8 (u2 (k3 (aj t3 s2)))))))))) t2))) (by kernel_rfl)
theorem hSt_ct (l : List Int) (r : Ret) (h : MReach (hStStep l) (hStEn l) r) : CT Try.prog 13 ([]) ([lI l]) r.1 r.2 :=
  CT.mach (fn := Try.f13) (c := bodyOf Try.f13) (S := hStSt l) (hd := hStHd) Try.func13 (by kernel_rfl) (Nat.le_of_ble_eq_true rfl)
    (fun s o ho => match s, ho with
      | x, _ => x.elim)
    (fun o ho => hStEn_ok l o ho) h
theorem rdInts {n : Nat} {es : List AV} (h : ∀ x ∈ es, ShV Try.prog n 3 x) : ∃ L : List Int, es = L.map (AV.int .i64) := by
  induction es with
  | nil => exact ⟨[], rfl⟩
  | cons x es ih =>
    obtain ⟨L, rfl⟩ := ih fun y hy => h y (List.mem_cons_of_mem _ hy)
    obtain ⟨i, _, rfl⟩ := (h x (by simp)).intD Try.underlying3
    exact ⟨i :: L, rfl⟩
theorem hkE_ok {n : NetD} {sh : List Bool} {hm : List Int} (hv : ValidN n) (hs : sh.length = celN n) (h8 : hm.length ≤ 8) (ha : ∀ x ∈ hm, hmB n x = true) : hkE n sh hm = 0 := by
  unfold hkE
  rw [if_pos ⟨valB_iff.2 hv, h8, List.all_eq_true.2 ha⟩, if_pos hs]
theorem setE_ok {n : NetD} {sh : List Bool} {hm gs : List Int} (hv : ValidN n) (hs : sh.length = celN n) (hI : HmI n hm gs) : setE n sh hm gs = 0 := by
  unfold setE
  rw [if_pos (hkE_ok hv hs hI.h8 hI.hh), if_pos]
  unfold isB
  rw [hI.gl, List.all_eq_true.2 hI.gg]; simp
theorem setZ_hm {n : NetD} {sh : List Bool} {hm gs : List Int} (hI : HmI n hm gs) {x : Int} (hx : x ∈ setZ n sh hm gs) : hmB n x = true := by
  obtain ⟨j, hj⟩ := List.getElem?_of_mem hx
  have hl := (List.getElem?_eq_some_iff.1 hj).1
  rw [setZ_len] at hl
  have e : (setZ n sh hm gs).getD j 0 = x := by rw [List.getD_eq_getElem?_getD, hj]; rfl
  have si := setZ_si (sh := sh) hI
  have hb := F1_at (n := n) (sh := sh) (gs := gs) hl
  by_cases h : (F1 n sh hm gs 0 hm.length).getD j 0 = -1
  · rcases si.opn j (by rw [F1_len]; exact hl) h with h1 | h1
    · rw [e] at h1; rw [h1]; rfl
    · rw [e] at h1
      unfold odB at h1; simp only [Bool.and_eq_true] at h1
      unfold hmB; rw [h1.2]; simp
  · have e2 := si.go.ext j h
    rw [e, hb] at e2
    rw [hb] at h
    unfold p1 at e2 h
    split at e2
    · rw [e2]; rfl
    · rename_i h3
      rw [if_neg h3] at h
      split at e2
      · rename_i h4
        simp only [Bool.and_eq_true, decide_eq_true_eq] at h4
        have hg : gs.getD j 0 ∈ gs := by
          rw [List.getD_eq_getElem?_getD, List.getElem?_eq_getElem (by rw [hI.gl]; exact hl)]
          exact List.getElem_mem _
        have h5 := hI.gg _ hg
        rw [← e2] at h5 h4
        unfold inB at h5
        unfold hmB
        simp only [Bool.or_eq_true, beq_iff_eq] at h5 ⊢
        rcases h5 with h5 | h5
        · omega
        · exact .inr h5
      · rename_i h4
        rw [if_neg h4] at h
        omega
theorem setZ_I {n : NetD} {sh : List Bool} {hm gs : List Int} (hI : HmI n hm gs) : HmI n (setZ n sh hm gs) gs := ⟨by rw [setZ_len]; exact hI.h8, by rw [setZ_len]; exact hI.gl, fun x hx => setZ_hm hI hx, hI.gg, hI.ct⟩
theorem setL_ok {n : NetD} {sh : List Bool} {hm gs : List Int} (hv : ValidN n) (hs : sh.length = celN n) (hI : HmI n hm gs) : setL n sh hm gs = setZ n sh hm gs := by unfold setL; rw [if_pos (setE_ok hv hs hI)]
theorem hSt_run (l : List Int) : CT Try.prog 13 [] [lI l] [] (.bool true) := by
  refine hSt_ct l ([], .bool true) (.val ?_)
  have ls := loo_spec (L := l) (kk := 0) (most := 6) (by omega) (by omega)
  have hn := ls.1
  have hv := hn.v
  have hce := hv.cel
  have s1 := shu_spec (L := l) (kk := looK l 0 6) (c := celN (looM l 0 6)) (by omega) (by omega)
  have s2 := (hmd_spec (L := l) (kk := shuK l (looK l 0 6) (celN (looM l 0 6))) hn (by omega)).1
  unfold hStEn
  rw [gu_t hv, gu_t (by omega), gu_t (by omega), gu_t hn, gu_t (by omega), gu_t hn.rows]
  have hs := s1.1
  generalize shuL l (looK l 0 6) (celN (looM l 0 6)) = sh at *
  generalize hmdH (looM l 0 6) l (shuK l (looK l 0 6) (celN (looM l 0 6))) = hm at *
  generalize hmdG (looM l 0 6) l (shuK l (looK l 0 6) (celN (looM l 0 6))) = gs at *
  generalize looM l 0 6 = n at *
  have e1 := setE_ok hv hs s2
  have e2 := setE_ok hv hs (setZ_I (sh := sh) s2)
  have l1 := setL_ok hv hs s2
  have l2 := setL_ok hv hs (setZ_I (sh := sh) s2)
  rw [l1, gu_t e2, gu_t (by rw [l2, setZ_stable s2]), br_t (by rw [e1]; rfl), gu_t (by rw [setZ_len]; have := s2.h8; omega)]
theorem homesStable_row (avs : List AV) (h : ShVs Try.prog 6 Try.f13.params.toList avs) : CT Try.prog 13 [] avs [] (.bool true) := by
  rw [Try.params13] at h
  obtain ⟨a, _, rfl, ka, h⟩ := h.consD
  obtain rfl := h.nilD
  obtain ⟨_, _, he, rfl⟩ := ka.sliceD Try.underlying25
  obtain ⟨l, rfl⟩ := rdInts he
  exact hSt_run l
end Go.Proofs.Ytepomnooippjpaa

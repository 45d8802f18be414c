/- Parts of the proof: HoP, Ho10m, St7m, StG, St8m, StH, StR, HoQ, Ho12m, HoR, Ho13m, HoS, HoT, Ho14m, HoU. -/
import Derived.KernelRfl
import Derived.Test.YtepomnooippjpaaProg
import Derived.Test.YtepomnooippjpaaHomesEnoughM6
open Go Go.AX Go.Proofs
set_option maxRecDepth 100000
set_option linter.unusedVariables false
set_option linter.unusedSimpArgs false
namespace Go.Proofs.Ytepomnooippjpaa
theorem count_le_of {s : Int} : ∀ {a b : List Int}, a.length = b.length → (∀ j, j < a.length → a.getD j 0 = s → b.getD j 0 = s) → a.count s ≤ b.count s := by
  intro a
  induction a with
  | nil => intro b _ _; simp
  | cons x a ih =>
    intro b hl h
    match b, hl, h with
    | [], hl, _ => simp at hl
    | y :: b, hl, h =>
      have h1 := ih (b := b) (by simpa using hl) (fun j hj hx => by have := h (j + 1) (by simp; omega) (by simpa using hx); simpa using this)
      rw [List.count_cons, List.count_cons]
      by_cases hx : x = s
      · have : y = s := by have := h 0 (by simp) (by simpa using hx); simpa using this
        subst hx; subst this; simp; exact h1
      · have : (x == s) = false := by simpa using hx
        rw [this]; simp; omega
theorem F1_at {n : NetD} {sh : List Bool} {hm gs : List Int} {j : Nat} (hj : j < hm.length) : (F1 n sh hm gs 0 hm.length).getD j 0 = p1 n sh hm gs j := by
  unfold F1
  rw [List.getD_eq_getElem?_getD, List.getElem?_map, List.getElem?_range hj]
  simp [hj]
theorem cntI_count (l : List Int) (j : Nat) : cntI l j = l.count (j : Int) := by
  unfold cntI List.count
  rw [List.countP_eq_length_filter]
theorem SI.base {n : NetD} {sh : List Bool} {hm gs : List Int} (hI : HmI n hm gs) : SI n sh (F1 n sh hm gs 0 hm.length) (F1 n sh hm gs 0 hm.length) := by
  refine ⟨.refl _, fun j hj hb => .inl hb, fun s hs => ?_⟩
  have h0 := odB_nn hs
  have hd : dpB n s = true := by unfold odB at hs; simp only [Bool.and_eq_true] at hs; exact hs.2
  obtain ⟨j, rfl⟩ : ∃ j : Nat, s = (j : Int) := ⟨s.toNat, by omega⟩
  have h1 : (F1 n sh hm gs 0 hm.length).count (j : Int) ≤ gs.count (j : Int) := by
    refine count_le_of (by rw [F1_len, hI.gl]) fun i hi hx => ?_
    rw [F1_len] at hi
    rw [F1_at hi] at hx
    unfold p1 at hx
    split at hx
    · omega
    · split at hx
      · exact hx
      · omega
  unfold dpB at hd
  rw [Int.toNat_natCast] at hd
  unfold slk
  rw [Int.toNat_natCast]
  cases hs2 : n.ss[j]? with
  | none => rw [hs2] at hd; simp at hd
  | some t =>
    have := hI.ct j t hs2
    rw [cntI_count] at this
    show _ ≤ t.k
    omega
theorem setZ_si {n : NetD} {sh : List Bool} {hm gs : List Int} (hI : HmI n hm gs) : SI n sh (F1 n sh hm gs 0 hm.length) (setZ n sh hm gs) := SI.f3 (SI.base hI) _
theorem setZ_len {n : NetD} {sh : List Bool} {hm gs : List Int} : (setZ n sh hm gs).length = hm.length := F3_len _
theorem setZ_two {n : NetD} {sh : List Bool} {hm gs : List Int} (hI : HmI n hm gs) {j : Nat} (hj : j < hm.length) : ((setZ n sh hm gs).getD j 0 == -2) = (hm.getD j 0 == -2) := by
  have si := setZ_si (sh := sh) hI
  have hb := F1_at (n := n) (sh := sh) (gs := gs) hj
  cases h : hm.getD j 0 == -2 with
  | true =>
    have : p1 n sh hm gs j = -2 := by unfold p1; rw [h]; rfl
    rw [this] at hb
    rw [si.go.ext j (by rw [hb]; omega), hb]; rfl
  | false =>
    have hp : p1 n sh hm gs j = -1 ∨ 0 ≤ p1 n sh hm gs j := by
      unfold p1; rw [h]
      simp only [Bool.false_eq_true, if_false]
      split
      · rename_i hc; simp only [Bool.and_eq_true, decide_eq_true_eq] at hc; exact .inr hc.1
      · exact .inl rfl
    rw [← hb] at hp
    have : (setZ n sh hm gs).getD j 0 ≠ -2 := by
      by_cases e : (F1 n sh hm gs 0 hm.length).getD j 0 = -1
      · rcases si.opn j (by rw [F1_len]; exact hj) e with h1 | h1
        · omega
        · have := odB_nn h1; omega
      · rw [si.go.ext j e]; omega
    simpa using this
end Go.Proofs.Ytepomnooippjpaa
set_option maxHeartbeats 4000000
namespace Go.Proofs.Ytepomnooippjpaa
theorem rdInts {n : Nat} {es : List AV} (h : ∀ x ∈ es, ShV Try.prog n 3 x) : ∃ L : List Int, es = L.map (AV.int .i64) := by
  induction es with
  | nil => exact ⟨[], rfl⟩
  | cons x es ih =>
    obtain ⟨L, rfl⟩ := ih fun y hy => h y (List.mem_cons_of_mem _ hy)
    obtain ⟨i, _, rfl⟩ := (h x (by simp)).intD Try.underlying3
    exact ⟨i :: L, rfl⟩
theorem hkE_ok {n : NetD} {sh : List Bool} {hm : List Int} (hv : ValidN n) (hs : sh.length = celN n) (h8 : hm.length ≤ 8) (ha : ∀ x ∈ hm, hmB n x = true) : hkE n sh hm = 0 := by
  unfold hkE
  rw [if_pos ⟨valB_iff.2 hv, h8, List.all_eq_true.2 ha⟩, if_pos hs]
theorem setE_ok {n : NetD} {sh : List Bool} {hm gs : List Int} (hv : ValidN n) (hs : sh.length = celN n) (hI : HmI n hm gs) : setE n sh hm gs = 0 := by
  unfold setE
  rw [if_pos (hkE_ok hv hs hI.h8 hI.hh), if_pos]
  unfold isB
  rw [hI.gl, List.all_eq_true.2 hI.gg]; simp
theorem setZ_hm {n : NetD} {sh : List Bool} {hm gs : List Int} (hI : HmI n hm gs) {x : Int} (hx : x ∈ setZ n sh hm gs) : hmB n x = true := by
  obtain ⟨j, hj⟩ := List.getElem?_of_mem hx
  have hl := (List.getElem?_eq_some_iff.1 hj).1
  rw [setZ_len] at hl
  have e : (setZ n sh hm gs).getD j 0 = x := by rw [List.getD_eq_getElem?_getD, hj]; rfl
  have si := setZ_si (sh := sh) hI
  have hb := F1_at (n := n) (sh := sh) (gs := gs) hl
  by_cases h : (F1 n sh hm gs 0 hm.length).getD j 0 = -1
  · rcases si.opn j (by rw [F1_len]; exact hl) h with h1 | h1
    · rw [e] at h1; rw [h1]; rfl
    · rw [e] at h1
      unfold odB at h1; simp only [Bool.and_eq_true] at h1
      unfold hmB; rw [h1.2]; simp
  · have e2 := si.go.ext j h
    rw [e, hb] at e2
    rw [hb] at h
    unfold p1 at e2 h
    split at e2
    · rw [e2]; rfl
    · rename_i h3
      rw [if_neg h3] at h
      split at e2
      · rename_i h4
        simp only [Bool.and_eq_true, decide_eq_true_eq] at h4
        have hg : gs.getD j 0 ∈ gs := by
          rw [List.getD_eq_getElem?_getD, List.getElem?_eq_getElem (by rw [hI.gl]; exact hl)]
          exact List.getElem_mem _
        have h5 := hI.gg _ hg
        rw [← e2] at h5 h4
        unfold inB at h5
        unfold hmB
        simp only [Bool.or_eq_true, beq_iff_eq] at h5 ⊢
        rcases h5 with h5 | h5
        · omega
        · exact .inr h5
      · rename_i h4
        rw [if_neg h4] at h
        omega
theorem setL_ok {n : NetD} {sh : List Bool} {hm gs : List Int} (hv : ValidN n) (hs : sh.length = celN n) (hI : HmI n hm gs) : setL n sh hm gs = setZ n sh hm gs := by unfold setL; rw [if_pos (setE_ok hv hs hI)]
noncomputable def cckSt (n : NetD) (sh : List Bool) (c : Int) : Empty → St
  | x => x.elim
def cckHd : Empty → Nat
  | x => x.elim
noncomputable def cckEn (n : NetD) (sh : List Bool) (c : Int) : Option (Empty ⊕ Ret) :=
  gu (Rows n.nx) <|
  br (errV n != 0)
  (some (.inr ([], AV.int IntKind.i64 (errV n))))
  (br (iN (boL sh).length != celV n)
   (some (.inr ([], AV.int IntKind.i64 19)))
   (br (decide (c < 0))
    (some (.inr ([], AV.int IntKind.i64 19)))
    (br (decide (8 < c))
     (some (.inr ([], AV.int IntKind.i64 19)))
     (some (.inr ([], AV.int IntKind.i64 0))))))
noncomputable def cckStep (n : NetD) (sh : List Bool) (c : Int) : Empty → Option (Empty ⊕ Ret)
  | x => x.elim
theorem cckEn_ok (n : NetD) (sh : List Bool) (c : Int) (o : Empty ⊕ Ret) (h : cckEn n sh c = some o) : Arr Try.prog Try.f116 0 (cckSt n sh c) cckHd (bodyOf Try.f116) [] { n := Try.f116.ntmps, fr := enumF 0 ([netA n, .lst (boL sh), .int .i64 c]), hp := ([]) } o :=
 Scr.ok h mix (
 .rn 0 [] [] [] [] (al (u2 t2)) <|
 .gu fun a0 =>
 have c0 := scount_ct a0;
 .rn 1 [] [] [(11, hK c0 [] [])] [] (aj (u2 (aj (ak (aj t9 (al (c0)))) (u2 (u2 (u2 (u2 s2)))))) (al (u2 (u2 s2)))) <|
 .br (fun a1 =>
 .rt [29] [] [] [] [] [] (aj (aj a1 (al (u2 s2))) t2))
 (fun a1 =>
 .br (fun a2 =>
  .rt [28, 47] [] [] [] [] [] (aj (aj a1 (aj (u2 (u2 (u2 (aj t3 (u2 (aj a2 (aj a2 (ag a2 (u2 (k2 (aj t3 s2))))))))))) (ak s2))) t2))
 (fun a2 =>
  .br (fun a3 =>
  .rt [28, 46, 55] [] [] [] [] [] (aj (aj a1 (aj (u2 (u2 (u2 (aj t3 (u2 (ag a2 (ag a2 (ag a2 (u2 (aj a3 (aj a3 (ag a3 s2)))))))))))) (ak s2))) t2))
  (fun a3 =>
  .rn 0 [28, 46, 54] [] [] [] (aj a1 (al (u2 (u2 (u2 (aj t3 (u2 (ag a2 (ag a2 (ag a2 (u2 (ag a3 (ag a3 (ag a3 s2)))))))))))))) <|
  .br (fun a4 =>
   .rt [46, 54, 37] [] [] [] [] [] (aj (aj a4 s2) t2))
  (fun a4 =>
   .rt [46, 54, 36] [] [] [] [] [] (aj (aj a4 s2) t2)))))) (by kernel_rfl)
theorem cck_ct (n : NetD) (sh : List Bool) (c : Int) (r : Ret) (h : MReach (cckStep n sh c) (cckEn n sh c) r) : CT Try.prog 116 ([]) ([netA n, .lst (boL sh), .int .i64 c]) r.1 r.2 :=
  CT.mach (fn := Try.f116) (c := bodyOf Try.f116) (S := cckSt n sh c) (hd := cckHd) Try.func116 (by kernel_rfl) (Nat.le_of_ble_eq_true rfl)
    (fun s o ho => match s, ho with
      | x, _ => x.elim)
    (fun o ho => cckEn_ok n sh c o ho) h
theorem cck_ok (n : NetD) (sh : List Bool) (c : Int) (hrw : Rows n.nx) (hv : ValidN n) (hl : sh.length = celN n) (hc : 0 ≤ c ∧ c ≤ 8) : CT Try.prog 116 [] [netA n, .lst (boL sh), .int .i64 c] [] (.int .i64 0) := by
  refine cck_ct n sh c ([], .int .i64 0) (.val ?_)
  have v := valB_iff.2 hv
  have e1 : errV n = 0 := by unfold errV; rw [if_pos v]
  have e2 : celV n = iN (celN n) := by unfold celV; rw [if_pos v]
  unfold cckEn
  rw [gu_t hrw, e1, e2, br_f (by rfl), br_f (by simp [iN, boL, hl]), br_f (dec_f (by omega)), br_f (dec_f (by omega))]
inductive sloPc where
  | l0 (v0 : Int) (v1 : Int)
noncomputable def sloSt (n : NetD) (sh : List Bool) : sloPc → St
  | .l0 v0 v1 => St.mk 44 [(1, AV.lst (boL sh)), (2, AV.ptr 0 0 0), (7, iv v0), (19, AV.lst (List.map sA n.ss)), (20, iv (iN (List.map sA n.ss).length)), (21, iv v1)] [some (Blk.mk [netA n] 8 true true none)]
def sloHd : sloPc → Nat
  | .l0 _ _ => 0
noncomputable def sloEn (n : NetD) (sh : List Bool) : Option (sloPc ⊕ Ret) :=
  gu (Rows n.nx) <|
  gu (ValidN n) <|
  gu (sh.length = celN n) <|
  some (.inl (.l0 ((0 : Int)) ((0 : Int))))
noncomputable def sloS0 (n : NetD) (sh : List Bool) (v0 : Int) (v1 : Int) : Option (sloPc ⊕ Ret) :=
  br (decide (v1 < iN (List.map sA n.ss).length))
  (gu (0 ≤ v1) <|
   el (n.ss) (v1.toNat) fun (x24 : SpuD) =>
   gu (Rows n.nx) <|
   br (cOB n sh v1)
   (br (x24.dep)
    (some (.inl (.l0 (IntKind.i64.wrap (v0 + x24.k)) (IntKind.i64.wrap (v1 + 1)))))
    (some (.inl (.l0 (v0) (IntKind.i64.wrap (v1 + 1))))))
   (some (.inl (.l0 (v0) (IntKind.i64.wrap (v1 + 1))))))
  (some (.inr ([], AV.tup [AV.int IntKind.i64 v0, AV.int IntKind.i64 0])))
noncomputable def sloStep (n : NetD) (sh : List Bool) : sloPc → Option (sloPc ⊕ Ret)
  | .l0 v0 v1 => sloS0 n sh v0 v1
theorem sloEn_ok (n : NetD) (sh : List Bool) (o : sloPc ⊕ Ret) (h : sloEn n sh = some o) : Arr Try.prog Try.f64 0 (sloSt n sh) sloHd (bodyOf Try.f64) [] { n := Try.f64.ntmps, fr := enumF 0 ([netA n, .lst (boL sh)]), hp := ([]) } o :=
 Scr.ok h mix (
 .rn 0 [] [] [] [] (al (u2 t3)) <|
 .gu fun a0 =>
 .gu fun a1 =>
 .gu fun a2 =>
 have c0 := cck_ok (n) (sh) (0) a0 a1 a2 (show (0 : Int) ≤ (0 : Int) ∧ (0 : Int) ≤ (8 : Int) from ⟨(by first | exact Nat.le_of_ble_eq_true rfl | decide), (by first | exact Nat.le_of_ble_eq_true rfl | decide)⟩);
 .lp [] [] [(14, hK c0 [] [])] [] [] [0] [1, 2, 7, 19, 20, 21] (aj (aj (u2 (u2 (aj (k2 (aj t9 (k2 (al (c0))))) s2))) (aj (u2 s2) (ak (u2 (al (u2 (u2 (u2 t2)))))))) t8)) (by kernel_rfl)
theorem sloS0_ok (n : NetD) (sh : List Bool) (v0 : Int) (v1 : Int) (o : sloPc ⊕ Ret) (h : sloS0 n sh v0 v1 = some o) : Arr Try.prog Try.f64 0 (sloSt n sh) sloHd (headC Try.f64 0) (.rnd (headC Try.f64 0) :: headK Try.f64 0) (sloSt n sh (.l0 v0 v1)) o :=
 Scr.ok h mix (
 .rn 0 [] [] [] [] (al (al t3)) <|
 .br (fun a0 =>
 .gu fun a1 =>
 .el fun x24 a2 =>
 .rn 0 [45] [(24, sA x24)] [] [] (aj a0 (al (u2 (aj (k2 (aj a1 (getMap (f := sA) a2))) (u2 (ak (u2 (al (k2 n11))))))))) <|
 .gu fun a3 =>
 have c0 := cOpen_ct a3 (sh) (v1);
 .rn 0 [] [] [(30, hK c0 [] [])] [] (al (u2 (u2 (u2 (aj (k3 (aj t9 (k2 (al (c0))))) (u2 (u2 (u2 (u2 s2))))))))) <|
 .br (fun a4 =>
  .rn 0 [69] [] [] [] (al (u2 (u2 (ag a4 (ag a4 (al (aj a4 t2))))))) <|
  .br (fun a5 =>
  .lp [69, 75] [] [] [] [] [0] [1, 2, 7, 19, 20, 21] (aj (aj a5 (aj (u2 (u2 (u2 (aj t3 s2)))) (al (u2 s2)))) t8))
  (fun a5 =>
  .lp [69, 74] [] [] [] [] [0] [1, 2, 7, 19, 20, 21] (aj (aj a5 (al (u2 s2))) t8)))
 (fun a4 =>
  .lp [68] [] [] [] [] [0] [1, 2, 7, 19, 20, 21] (aj (aj (u2 (u2 (aj a4 (aj a4 (al (aj a4 t2)))))) (ak (al (u2 s2)))) t8)))
 (fun a0 =>
 .rt [44] [] [] [] [] [] (aj (aj a0 (al (u2 (u2 t2)))) (al t3)))) (by kernel_rfl)
theorem slo_ct (n : NetD) (sh : List Bool) (r : Ret) (h : MReach (sloStep n sh) (sloEn n sh) r) : CT Try.prog 64 ([]) ([netA n, .lst (boL sh)]) r.1 r.2 :=
  CT.mach (fn := Try.f64) (c := bodyOf Try.f64) (S := sloSt n sh) (hd := sloHd) Try.func64 (by kernel_rfl) (Nat.le_of_ble_eq_true rfl)
    (fun s o ho => match s, ho with
      | .l0 v0 v1, ho => sloS0_ok n sh v0 v1 o ho
    )
    (fun o ho => sloEn_ok n sh o ho) h
def sloT (n : NetD) (sh : List Bool) : Nat → Int
  | 0 => 0
  | i + 1 => sloT n sh i + (if odB n sh (i : Int) = true then slk n (i : Int) else 0)
theorem sloT_bd {n : NetD} (hv : ValidN n) (sh : List Bool) : ∀ i, i ≤ n.ss.length → 0 ≤ sloT n sh i ∧ sloT n sh i ≤ 4 * i
  | 0, _ => by simp [sloT]
  | i + 1, h => by
    have ih := sloT_bd hv sh i (by omega)
    obtain ⟨s, hs⟩ : ∃ s, n.ss[i]? = some s := ⟨_, List.getElem?_eq_getElem (by omega)⟩
    have sb := hv.sb hs
    have e : slk n (i : Int) = s.k := by unfold slk; rw [Int.toNat_natCast, hs]
    rw [sloT, e]
    split <;> omega
theorem cslots_ct (n : NetD) (sh : List Bool) (hrw : Rows n.nx) (hv : ValidN n) (hl : sh.length = celN n) : CT Try.prog 64 [] [netA n, .lst (boL sh)] [] (.tup [.int .i64 (sloT n sh n.ss.length), .int .i64 0]) := by
  refine slo_ct n sh ([], _) ?_
  have ns := hv.ns
  unfold sloEn
  rw [gu_t hrw, gu_t hv, gu_t hl]
  refine loop_up (fun i => sloPc.l0 (sloT n sh i) (i : Int)) n.ss.length (fun i hi hr => .to ?_ hr) (.to ?_ (.ret _))
  · obtain ⟨s, hs⟩ : ∃ s, n.ss[i]? = some s := ⟨_, List.getElem?_eq_getElem hi⟩
    have b := sloT_bd hv sh i (by omega)
    have sb := hv.sb hs
    have e : slk n (i : Int) = s.k := by unfold slk; rw [Int.toNat_natCast, hs]
    have d : dpB n (i : Int) = s.dep := by unfold dpB; rw [Int.toNat_natCast, hs, dec_t (by omega), Bool.true_and]
    show sloS0 n sh _ i = _
    unfold sloS0
    rw [rngS hs, gu_t hrw, cOB_ok hv hl (by omega), wrap_nat i (by omega), sloT, e]
    unfold odB
    rw [d, wrapS (sloT n sh i + s.k) (by omega) (by omega)]
    cases opB n sh (i : Int) <;> cases s.dep <;> simp [br]
  · show sloS0 n sh _ n.ss.length = _
    unfold sloS0
    rw [rngE]
theorem dpB_at {n : NetD} {x : Int} (h : dpB n x = true) : ∃ (k : Nat) (s : SpuD), x = (k : Int) ∧ n.ss[k]? = some s ∧ s.dep = true := by
  unfold dpB at h
  simp only [Bool.and_eq_true, decide_eq_true_eq] at h
  obtain ⟨h0, h1⟩ := h
  split at h1
  · rename_i s hs; exact ⟨x.toNat, s, by omega, hs, h1⟩
  · cases h1
theorem setZ_open {n : NetD} {sh : List Bool} {hm gs : List Int} (hI : HmI n hm gs) {j : Nat} (hj : j < hm.length) (h0 : 0 ≤ (setZ n sh hm gs).getD j 0) : odB n sh ((setZ n sh hm gs).getD j 0) = true := by
  have si := setZ_si (sh := sh) hI
  have hb := F1_at (n := n) (sh := sh) (gs := gs) hj
  by_cases h : (F1 n sh hm gs 0 hm.length).getD j 0 = -1
  · rcases si.opn j (by rw [F1_len]; exact hj) h with h1 | h1
    · omega
    · exact h1
  · have e2 := si.go.ext j h
    rw [hb] at e2
    unfold p1 at e2
    split at e2
    · omega
    · split at e2
      · rename_i h4
        simp only [Bool.and_eq_true, decide_eq_true_eq] at h4
        have hg : gs.getD j 0 ∈ gs := by
          rw [List.getD_eq_getElem?_getD, List.getElem?_eq_getElem (by rw [hI.gl]; exact hj)]
          exact List.getElem_mem _
        have h5 := hI.gg _ hg
        unfold inB at h5
        simp only [Bool.or_eq_true, beq_iff_eq] at h5
        rw [e2]
        unfold odB
        rw [h4.2]
        rcases h5 with h5 | h5
        · omega
        · rw [h5]; rfl
      · omega
theorem setZ_in {n : NetD} {sh : List Bool} {hm gs : List Int} (hI : HmI n hm gs) {j : Nat} (hj : j < hm.length) (h2 : (hm.getD j 0 == -2) = false) (hg : 0 ≤ gs.getD j 0) (ho : opB n sh (gs.getD j 0) = true) : (setZ n sh hm gs).getD j 0 = gs.getD j 0 := by
  have si := setZ_si (sh := sh) hI
  have hb := F1_at (n := n) (sh := sh) (gs := gs) hj
  have e : p1 n sh hm gs j = gs.getD j 0 := by unfold p1; rw [h2, dec_t hg, ho]; rfl
  rw [e] at hb
  rw [si.go.ext j (by rw [hb]; omega), hb]
theorem setZ_count {n : NetD} {sh : List Bool} {hm gs : List Int} (hv : ValidN n) (hI : HmI n hm gs) {j : Nat} {s : SpuD} (hs : n.ss[j]? = some s) : ((setZ n sh hm gs).count (j : Int) : Int) ≤ s.k := by
  have sb := hv.sb hs
  by_cases h : odB n sh (j : Int) = true
  · have := (setZ_si (sh := sh) hI).cnt _ h
    unfold slk at this
    rw [Int.toNat_natCast, hs] at this
    exact this
  · have : (setZ n sh hm gs).count (j : Int) = 0 := by
      refine List.count_eq_zero.2 fun hmem => h ?_
      obtain ⟨i, hi⟩ := List.getElem?_of_mem hmem
      have hl := (List.getElem?_eq_some_iff.1 hi).1
      rw [setZ_len] at hl
      have e : (setZ n sh hm gs).getD i 0 = (j : Int) := by rw [List.getD_eq_getElem?_getD, hi]; rfl
      rw [← e]
      exact setZ_open hI hl (by rw [e]; omega)
    omega
theorem flt_succ (m : Nat) : ∀ l : List Int, (l.filter (fun x => decide (0 ≤ x) && decide (x < ((m + 1 : Nat) : Int)))).length = (l.filter (fun x => decide (0 ≤ x) && decide (x < (m : Int)))).length + l.count (m : Int)
  | [] => rfl
  | a :: l => by
    have ih := flt_succ m l
    push_cast at ih ⊢
    rw [List.filter_cons, List.filter_cons, List.count_cons]
    by_cases h0 : 0 ≤ a
    · by_cases h1 : a < (m : Int)
      · have h2 : a < (m : Int) + 1 := by omega
        have h3 : (a == (m : Int)) = false := by simp; omega
        simp only [dec_t h0, dec_t h1, dec_t h2, h3]; simp; omega
      · by_cases h4 : a = (m : Int)
        · have h2 : a < (m : Int) + 1 := by omega
          have h3 : (a == (m : Int)) = true := by simpa using h4
          simp only [dec_t h0, dec_f h1, dec_t h2, h3]; simp; omega
        · have h2 : ¬ a < (m : Int) + 1 := by omega
          have h3 : (a == (m : Int)) = false := by simpa using h4
          simp only [dec_t h0, dec_f h1, dec_f h2, h3]; simp; omega
    · have h3 : (a == (m : Int)) = false := by simp; omega
      simp only [dec_f h0, h3]; simp; omega
theorem flt_le (m : Nat) : ∀ l : List Int, (l.filter (fun x => decide (0 ≤ x) && decide (x < (m : Int)))).length + l.count (-1) ≤ (l.filter (fun x => x != -2)).length
  | [] => by simp
  | a :: l => by
    have ih := flt_le m l
    rw [List.filter_cons, List.filter_cons, List.count_cons]
    by_cases h0 : 0 ≤ a
    · have h1 : (a != -2) = true := by simp; omega
      have h2 : (a == (-1 : Int)) = false := by simp; omega
      rw [h1, h2]
      split <;> simp <;> omega
    · rw [dec_f h0]
      by_cases h3 : a = -1
      · subst h3; simp; omega
      · have h2 : (a == (-1 : Int)) = false := by simpa using h3
        rw [h2]
        cases a != -2 <;> simp <;> omega
theorem flt_two : ∀ {a b : List Int}, a.length = b.length → (∀ j, j < a.length → (a.getD j 0 == -2) = (b.getD j 0 == -2)) → (a.filter (fun x => x != -2)).length = (b.filter (fun x => x != -2)).length := by
  intro a
  induction a with
  | nil => intro b hl _; cases b with | nil => rfl | cons _ _ => simp at hl
  | cons x a ih =>
    intro b hl h
    match b, hl, h with
    | [], hl, _ => simp at hl
    | y :: b, hl, h =>
      have h1 := ih (b := b) (by simpa using hl) (fun j hj => by have := h (j + 1) (by simp; omega); simpa using this)
      have h2 := h 0 (by simp)
      simp only [List.getD_cons_zero] at h2
      rw [List.filter_cons, List.filter_cons]
      have h3 : (x != -2) = (y != -2) := by unfold bne; rw [h2]
      rw [h3]
      cases y != -2 <;> simp [h1]
theorem sloT_le {n : NetD} {sh : List Bool} {O : List Int} : ∀ m, (∀ s : Nat, s < m → odB n sh (s : Int) = true → slk n (s : Int) ≤ O.count (s : Int)) → sloT n sh m ≤ ((O.filter (fun x => decide (0 ≤ x) && decide (x < (m : Int)))).length : Int)
  | 0, _ => by simp [sloT]
  | m + 1, h => by
    have ih := sloT_le (O := O) m (fun s hs => h s (by omega))
    have e := flt_succ m O
    have := h m (by omega)
    rw [sloT]
    split
    · rename_i h1
      have := this h1
      omega
    · omega
def ndZ (hm : List Int) (i : Nat) : Int := ((hm.take i).filter (fun x => x != -2)).length
theorem ndZ_succ {hm : List Int} {i : Nat} {x : Int} (hx : hm[i]? = some x) : ndZ hm (i + 1) = ndZ hm i + if (x == -2) = true then 0 else 1 := by
  unfold ndZ
  rw [List.take_add_one, hx, Option.toList_some, List.filter_append, List.length_append]
  cases h : x == -2 <;> simp [List.filter, bne, h]
theorem ndZ_bd (hm : List Int) (i : Nat) : 0 ≤ ndZ hm i ∧ ndZ hm i ≤ hm.length := by
  unfold ndZ
  have h := List.length_filter_le (fun x : Int => x != -2) (hm.take i)
  rw [List.length_take] at h
  omega
theorem full_lt {n : NetD} {sh : List Bool} {hm gs : List Int} (hI : HmI n hm gs) {i : Nat} (hi : i < hm.length) (h : (setZ n sh hm gs).getD i 0 = -1) : sloT n sh n.ss.length < ndZ hm hm.length := by
  have h1 := sloT_le (n := n) (sh := sh) (O := setZ n sh hm gs) n.ss.length (fun s hs ho => by
    have := f3_full hi h hs
    have h2 : ¬ ((setZ n sh hm gs).count (s : Int) : Int) < slk n s := fun h3 => this (plZ_pos.2 ⟨ho, h3⟩)
    omega)
  have h2 := flt_le n.ss.length (setZ n sh hm gs)
  have h3 : 0 < (setZ n sh hm gs).count (-1) := List.count_pos_iff.2 (by
    have hl := getD_lt h
    rw [List.getD_eq_getElem?_getD, List.getElem?_eq_getElem hl] at h
    have := List.getElem_mem hl
    simp only [Option.getD_some] at h
    rw [h] at this
    exact this)
  have h4 := flt_two (a := setZ n sh hm gs) (b := hm) setZ_len (fun j hj => setZ_two hI (by rw [setZ_len] at hj; exact hj))
  unfold ndZ
  rw [List.take_length]
  omega
def ctl (n : NetD) (O : List Int) (i : Nat) : List Int := (List.range n.ss.length).map fun (s : Nat) => cntZ O (s : Int) i
theorem ctl_len {n : NetD} {O : List Int} {i : Nat} : (ctl n O i).length = n.ss.length := by simp [ctl]
theorem ctl_at {n : NetD} {O : List Int} {i s : Nat} (hs : s < n.ss.length) : (ctl n O i)[s]? = some (cntZ O (s : Int) i) := by simp [ctl, hs]
theorem ctl_zero {n : NetD} {O : List Int} : ctl n O 0 = List.replicate n.ss.length 0 := by
  apply List.ext_getElem
  · simp [ctl]
  · intro j h1 h2; simp [ctl, cntZ]
theorem ctl_neg {n : NetD} {O : List Int} {i : Nat} {o : Int} (ho : O[i]? = some o) (h : o < 0) : ctl n O (i + 1) = ctl n O i := by
  unfold ctl
  apply List.map_congr_left
  intro s hs
  have : (o == (s : Int)) = false := by simp; omega
  rw [cntZ_succ ho, this]; simp
theorem ctl_set {n : NetD} {O : List Int} {i k : Nat} (ho : O[i]? = some (k : Int)) : ctl n O (i + 1) = (ctl n O i).set k (cntZ O (k : Int) i + 1) := by
  apply List.ext_getElem
  · simp [ctl]
  · intro j h1 h2
    simp only [ctl, List.getElem_set, List.getElem_map, List.getElem_range, cntZ_succ ho]
    by_cases h : k = j
    · subst h; simp
    · have : ((k : Int) == (j : Int)) = false := by simp; omega
      rw [if_neg h, this]; simp
theorem cOE_ok {n : NetD} {sh : List Bool} (hv : ValidN n) (hl : sh.length = celN n) {k : Nat} (hk : k < n.ss.length) : cOE n sh (k : Int) = 0 := by
  unfold cOE; rw [if_pos (csE_ok hv hk), if_pos hl]
inductive hEnPc where
  | l0 (v0 : Int) (v1 : List Int) (v2 : Int)
  | l1 (v0 : Int) (v1 : List Int) (v2 : Int)
  | l2 (v0 : Int) (v1 : Int)
noncomputable def hEnSt (l : List Int) : hEnPc → St
  | .l0 v0 v1 v2 => St.mk 216 [(4, AV.ptr 0 0 0), (5, AV.lst (boL (shuL l (looK l 0 6) (celN (looM l 0 6))))), (6, AV.lst (List.map (iv) (hmdH (looM l 0 6) l (shuK l (looK l 0 6) (celN (looM l 0 6)))))), (7, AV.lst (List.map (iv) (hmdG (looM l 0 6) l (shuK l (looK l 0 6) (celN (looM l 0 6)))))), (8, AV.lst (List.map (iv) (setL (looM l 0 6) (shuL l (looK l 0 6) (celN (looM l 0 6))) (hmdH (looM l 0 6) l (shuK l (looK l 0 6) (celN (looM l 0 6)))) (hmdG (looM l 0 6) l (shuK l (looK l 0 6) (celN (looM l 0 6))))))), (10, iv (sloT (looM l 0 6) (shuL l (looK l 0 6) (celN (looM l 0 6))) (looM l 0 6).ss.length)), (12, iv v0), (13, AV.sl 1 0 v1.length), (14, iv v2)] [some (Blk.mk [netA (looM l 0 6)] 8 true true none), some (Blk.mk (List.map (iv) v1) 1 true true none)]
  | .l1 v0 v1 v2 => St.mk 216 [(4, AV.ptr 0 0 0), (8, AV.lst (List.map (iv) (setL (looM l 0 6) (shuL l (looK l 0 6) (celN (looM l 0 6))) (hmdH (looM l 0 6) l (shuK l (looK l 0 6) (celN (looM l 0 6)))) (hmdG (looM l 0 6) l (shuK l (looK l 0 6) (celN (looM l 0 6))))))), (10, iv (sloT (looM l 0 6) (shuL l (looK l 0 6) (celN (looM l 0 6))) (looM l 0 6).ss.length)), (12, iv v0), (13, AV.sl 1 0 v1.length), (19, iv v2)] [some (Blk.mk [netA (looM l 0 6)] 8 true true none), some (Blk.mk (List.map (iv) v1) 1 true true none)]
  | .l2 v0 v1 => St.mk 216 [(8, AV.lst (List.map (iv) (setL (looM l 0 6) (shuL l (looK l 0 6) (celN (looM l 0 6))) (hmdH (looM l 0 6) l (shuK l (looK l 0 6) (celN (looM l 0 6)))) (hmdG (looM l 0 6) l (shuK l (looK l 0 6) (celN (looM l 0 6))))))), (10, iv (sloT (looM l 0 6) (shuL l (looK l 0 6) (celN (looM l 0 6))) (looM l 0 6).ss.length)), (12, iv v0), (20, iv v1)] []
def hEnHd : hEnPc → Nat
  | .l0 _ _ _ => 0
  | .l1 _ _ _ => 1
  | .l2 _ _ => 2
noncomputable def hEnEn (l : List Int) : Option (hEnPc ⊕ Ret) :=
  gu (ValidN (looM l 0 6)) <|
  gu (celN (looM l 0 6) ≤ 1000) <|
  gu (looK l 0 6 ≤ 50000) <|
  gu (LooseOk (looM l 0 6)) <|
  gu (shuK l (looK l 0 6) (celN (looM l 0 6)) ≤ 50000) <|
  gu (Rows (looM l 0 6).nx) <|
  gu ((shuL l (looK l 0 6) (celN (looM l 0 6))).length = celN (looM l 0 6)) <|
  br (setE (looM l 0 6) (shuL l (looK l 0 6) (celN (looM l 0 6))) (hmdH (looM l 0 6) l (shuK l (looK l 0 6) (celN (looM l 0 6)))) (hmdG (looM l 0 6) l (shuK l (looK l 0 6) (celN (looM l 0 6)))) != 0)
  (some (.inr ([], AV.bool false)))
  (br (iN (List.map (AV.int IntKind.i64) (setL (looM l 0 6) (shuL l (looK l 0 6) (celN (looM l 0 6))) (hmdH (looM l 0 6) l (shuK l (looK l 0 6) (celN (looM l 0 6)))) (hmdG (looM l 0 6) l (shuK l (looK l 0 6) (celN (looM l 0 6)))))).length != iN (List.map (AV.int IntKind.i64) (hmdH (looM l 0 6) l (shuK l (looK l 0 6) (celN (looM l 0 6))))).length)
   (some (.inr ([], AV.bool false)))
   (gu (8 * iN (List.map sA (looM l 0 6).ss).length ≤ 281474976710656) <|
    gu (iN (List.map sA (looM l 0 6).ss).length ≤ 9223372036854775807) <|
    some (.inl (.l0 ((0 : Int)) (List.replicate (List.map sA (looM l 0 6).ss).length 0) ((0 : Int))))))
noncomputable def hEnS0 (l : List Int) (v0 : Int) (v1 : List Int) (v2 : Int) : Option (hEnPc ⊕ Ret) :=
  br (decide (v2 < iN (List.map (AV.int IntKind.i64) (hmdH (looM l 0 6) l (shuK l (looK l 0 6) (celN (looM l 0 6))))).length))
  (gu (0 ≤ v2) <|
   el (hmdH (looM l 0 6) l (shuK l (looK l 0 6) (celN (looM l 0 6)))) (v2.toNat) fun (x77 : Int) =>
   el (setL (looM l 0 6) (shuL l (looK l 0 6) (celN (looM l 0 6))) (hmdH (looM l 0 6) l (shuK l (looK l 0 6) (celN (looM l 0 6)))) (hmdG (looM l 0 6) l (shuK l (looK l 0 6) (celN (looM l 0 6))))) (v2.toNat) fun (x82 : Int) =>
   br (!(x77 == -2) == (x82 == -2))
   (some (.inr ([], AV.bool false)))
   (el (setL (looM l 0 6) (shuL l (looK l 0 6) (celN (looM l 0 6))) (hmdH (looM l 0 6) l (shuK l (looK l 0 6) (celN (looM l 0 6)))) (hmdG (looM l 0 6) l (shuK l (looK l 0 6) (celN (looM l 0 6))))) (v2.toNat) fun (x89 : Int) =>
    br (decide (x89 < -2))
    (some (.inr ([], AV.bool false)))
    (el (setL (looM l 0 6) (shuL l (looK l 0 6) (celN (looM l 0 6))) (hmdH (looM l 0 6) l (shuK l (looK l 0 6) (celN (looM l 0 6)))) (hmdG (looM l 0 6) l (shuK l (looK l 0 6) (celN (looM l 0 6))))) (v2.toNat) fun (x96 : Int) =>
     br (decide (iN (List.map sA (looM l 0 6).ss).length ≤ x96))
     (some (.inr ([], AV.bool false)))
     (el (hmdH (looM l 0 6) l (shuK l (looK l 0 6) (celN (looM l 0 6)))) (v2.toNat) fun (x105 : Int) =>
      br (x105 == -2)
      (some (.inl (.l0 (v0) (v1) (IntKind.i64.wrap (v2 + 1)))))
      (el (setL (looM l 0 6) (shuL l (looK l 0 6) (celN (looM l 0 6))) (hmdH (looM l 0 6) l (shuK l (looK l 0 6) (celN (looM l 0 6)))) (hmdG (looM l 0 6) l (shuK l (looK l 0 6) (celN (looM l 0 6))))) (v2.toNat) fun (x112 : Int) =>
       br (decide (0 ≤ x112))
       (el (setL (looM l 0 6) (shuL l (looK l 0 6) (celN (looM l 0 6))) (hmdH (looM l 0 6) l (shuK l (looK l 0 6) (celN (looM l 0 6)))) (hmdG (looM l 0 6) l (shuK l (looK l 0 6) (celN (looM l 0 6))))) (v2.toNat) fun (x120 : Int) =>
        gu (Rows (looM l 0 6).nx) <|
        br (cOE (looM l 0 6) (shuL l (looK l 0 6) (celN (looM l 0 6))) x120 != 0)
        (some (.inr ([], AV.bool false)))
        (br (!cOB (looM l 0 6) (shuL l (looK l 0 6) (celN (looM l 0 6))) x120)
         (some (.inr ([], AV.bool false)))
         (el (setL (looM l 0 6) (shuL l (looK l 0 6) (celN (looM l 0 6))) (hmdH (looM l 0 6) l (shuK l (looK l 0 6) (celN (looM l 0 6)))) (hmdG (looM l 0 6) l (shuK l (looK l 0 6) (celN (looM l 0 6))))) (v2.toNat) fun (x136 : Int) =>
          gu (0 ≤ x136) <|
          el ((looM l 0 6).ss) (x136.toNat) fun (x138 : SpuD) =>
          br (!x138.dep)
          (some (.inr ([], AV.bool false)))
          (el (setL (looM l 0 6) (shuL l (looK l 0 6) (celN (looM l 0 6))) (hmdH (looM l 0 6) l (shuK l (looK l 0 6) (celN (looM l 0 6)))) (hmdG (looM l 0 6) l (shuK l (looK l 0 6) (celN (looM l 0 6))))) (v2.toNat) fun (x146 : Int) =>
           gu (0 ≤ x146) <|
           gu (x146 < iN v1.length) <|
           el (v1) (0 + x146.toNat) fun (x149 : Int) =>
           gu ((0 + x146.toNat).succ.le (List.map (AV.int IntKind.i64) v1).length) <|
           el (hmdG (looM l 0 6) l (shuK l (looK l 0 6) (celN (looM l 0 6)))) (v2.toNat) fun (x154 : Int) =>
           br (decide (0 ≤ x154))
           (el (hmdG (looM l 0 6) l (shuK l (looK l 0 6) (celN (looM l 0 6)))) (v2.toNat) fun (x162 : Int) =>
            br (cOE (looM l 0 6) (shuL l (looK l 0 6) (celN (looM l 0 6))) x162 != 0)
            (some (.inr ([], AV.bool false)))
            (br (cOB (looM l 0 6) (shuL l (looK l 0 6) (celN (looM l 0 6))) x162)
             (el (setL (looM l 0 6) (shuL l (looK l 0 6) (celN (looM l 0 6))) (hmdH (looM l 0 6) l (shuK l (looK l 0 6) (celN (looM l 0 6)))) (hmdG (looM l 0 6) l (shuK l (looK l 0 6) (celN (looM l 0 6))))) (v2.toNat) fun (x174 : Int) =>
              el (hmdG (looM l 0 6) l (shuK l (looK l 0 6) (celN (looM l 0 6)))) (v2.toNat) fun (x178 : Int) =>
              br (x174 != x178)
              (some (.inr ([], AV.bool false)))
              (some (.inl (.l0 (IntKind.i64.wrap (v0 + 1)) (v1.set (0 + x146.toNat) (IntKind.i64.wrap (x149 + 1))) (IntKind.i64.wrap (v2 + 1))))))
             (some (.inl (.l0 (IntKind.i64.wrap (v0 + 1)) (v1.set (0 + x146.toNat) (IntKind.i64.wrap (x149 + 1))) (IntKind.i64.wrap (v2 + 1)))))))
           (some (.inl (.l0 (IntKind.i64.wrap (v0 + 1)) (v1.set (0 + x146.toNat) (IntKind.i64.wrap (x149 + 1))) (IntKind.i64.wrap (v2 + 1)))))))))
       (el (hmdG (looM l 0 6) l (shuK l (looK l 0 6) (celN (looM l 0 6)))) (v2.toNat) fun (x154 : Int) =>
        br (decide (0 ≤ x154))
        (el (hmdG (looM l 0 6) l (shuK l (looK l 0 6) (celN (looM l 0 6)))) (v2.toNat) fun (x162 : Int) =>
         gu (Rows (looM l 0 6).nx) <|
         br (cOE (looM l 0 6) (shuL l (looK l 0 6) (celN (looM l 0 6))) x162 != 0)
         (some (.inr ([], AV.bool false)))
         (br (cOB (looM l 0 6) (shuL l (looK l 0 6) (celN (looM l 0 6))) x162)
          (el (setL (looM l 0 6) (shuL l (looK l 0 6) (celN (looM l 0 6))) (hmdH (looM l 0 6) l (shuK l (looK l 0 6) (celN (looM l 0 6)))) (hmdG (looM l 0 6) l (shuK l (looK l 0 6) (celN (looM l 0 6))))) (v2.toNat) fun (x174 : Int) =>
           el (hmdG (looM l 0 6) l (shuK l (looK l 0 6) (celN (looM l 0 6)))) (v2.toNat) fun (x178 : Int) =>
           br (x174 != x178)
           (some (.inr ([], AV.bool false)))
           (some (.inl (.l0 (IntKind.i64.wrap (v0 + 1)) (v1) (IntKind.i64.wrap (v2 + 1))))))
          (some (.inl (.l0 (IntKind.i64.wrap (v0 + 1)) (v1) (IntKind.i64.wrap (v2 + 1)))))))
        (some (.inl (.l0 (IntKind.i64.wrap (v0 + 1)) (v1) (IntKind.i64.wrap (v2 + 1)))))))))))
  (some (.inl (.l1 (v0) (v1) ((0 : Int)))))
noncomputable def hEnS1 (l : List Int) (v0 : Int) (v1 : List Int) (v2 : Int) : Option (hEnPc ⊕ Ret) :=
  br (decide (v2 < iN v1.length))
  (gu (0 ≤ v2) <|
   gu (v2 < iN v1.length) <|
   el (v1) (0 + v2.toNat) fun (x192 : Int) =>
   el ((looM l 0 6).ss) (v2.toNat) fun (x196 : SpuD) =>
   br (decide (x196.k < x192))
   (some (.inr ([], AV.bool false)))
   (some (.inl (.l1 (v0) (v1) (IntKind.i64.wrap (v2 + 1))))))
  (some (.inl (.l2 (v0) ((0 : Int)))))
noncomputable def hEnS2 (l : List Int) (v0 : Int) (v1 : Int) : Option (hEnPc ⊕ Ret) :=
  br (decide (v1 < iN (List.map (AV.int IntKind.i64) (setL (looM l 0 6) (shuL l (looK l 0 6) (celN (looM l 0 6))) (hmdH (looM l 0 6) l (shuK l (looK l 0 6) (celN (looM l 0 6)))) (hmdG (looM l 0 6) l (shuK l (looK l 0 6) (celN (looM l 0 6)))))).length))
  (gu (0 ≤ v1) <|
   el (setL (looM l 0 6) (shuL l (looK l 0 6) (celN (looM l 0 6))) (hmdH (looM l 0 6) l (shuK l (looK l 0 6) (celN (looM l 0 6)))) (hmdG (looM l 0 6) l (shuK l (looK l 0 6) (celN (looM l 0 6))))) (v1.toNat) fun (x208 : Int) =>
   br (x208 == -1)
   (br (decide (v0 ≤ sloT (looM l 0 6) (shuL l (looK l 0 6) (celN (looM l 0 6))) (looM l 0 6).ss.length))
    (some (.inr ([], AV.bool false)))
    (some (.inl (.l2 (v0) (IntKind.i64.wrap (v1 + 1))))))
   (some (.inl (.l2 (v0) (IntKind.i64.wrap (v1 + 1))))))
  (some (.inr ([], AV.bool true)))
noncomputable def hEnStep (l : List Int) : hEnPc → Option (hEnPc ⊕ Ret)
  | .l0 v0 v1 v2 => hEnS0 l v0 v1 v2
  | .l1 v0 v1 v2 => hEnS1 l v0 v1 v2
  | .l2 v0 v1 => hEnS2 l v0 v1
theorem hEnEn_ok (l : List Int) (o : hEnPc ⊕ Ret) (h : hEnEn l = some o) : Arr Try.prog Try.f14 0 (hEnSt l) hEnHd (bodyOf Try.f14) [] { n := Try.f14.ntmps, fr := enumF 0 ([lI l]), hp := ([]) } o :=
 Scr.ok h mix (
 have c0 := hknown_ct;
 have c1 := loose_ct (l) (0) (6) (show nat_lit 0 ≤ (5000 : Nat) from (by first | exact Nat.le_of_ble_eq_true rfl | decide)) (show (1 : Int) ≤ (6 : Int) ∧ (6 : Int) ≤ (20 : Int) from ⟨(by first | exact Nat.le_of_ble_eq_true rfl | decide), (by first | exact Nat.le_of_ble_eq_true rfl | decide)⟩);
 .rn 3 [] [] [(21, hK c0 [] []), (27, hK c1 [0] [])] [] (u2 (aj (aj (al (c0)) s2) (ak (aj (u2 (u2 (u2 s2))) (al (u2 (aj (ak (k3 (al (c1)))) (ak (al (k2 n11)))))))))) <|
 .gu fun a0 =>
 .gu fun a1 =>
 .gu fun a2 =>
 have c2 := cells_ct a0;
 have c3 := shut_ct (l) (looK l 0 6) (celN (looM l 0 6)) a1 a2;
 .rn 0 [] [] [(30, hK c2 [] []), (31, hK c3 [0] [])] [] (al (u2 (u2 (aj (ak (aj t9 (al (c2)))) (aj (k5 (al (c3))) s2))))) <|
 .gu fun a3 =>
 .gu fun a4 =>
 have c4 := hmade_ct (looM l 0 6) (l) (shuK l (looK l 0 6) (celN (looM l 0 6))) a3 a4;
 .rn 0 [] [] [(35, hK c4 [0] [])] [] (al (u2 (u2 (aj (k3 (aj t9 (ak (al (c4))))) (u2 (u2 (u2 (u2 s2)))))))) <|
 .gu fun a5 =>
 have c5 := hSettle_ct a5 (shuL l (looK l 0 6) (celN (looM l 0 6))) (hmdH (looM l 0 6) l (shuK l (looK l 0 6) (celN (looM l 0 6)))) (hmdG (looM l 0 6) l (shuK l (looK l 0 6) (celN (looM l 0 6))));
 .rn 0 [] [] [(43, hK c5 [] [])] [] (al (u2 (u2 (u2 (u2 (aj (ak (k3 (aj t9 (k3 (al (c5)))))) (u2 (u2 (u2 (u2 s2)))))))))) <|
 .gu fun a6 =>
 have c6 := cslots_ct (looM l 0 6) (shuL l (looK l 0 6) (celN (looM l 0 6))) a5 a0 a6;
 .rn 0 [] [] [(49, hK c6 [] [])] [] (al (u2 (u2 (aj (k2 (aj t9 (ak (al (c6))))) (u2 (u2 (u2 (u2 s2)))))))) <|
 .br (fun a7 =>
 .rt [109] [] [] [] [] [] (aj (aj (u2 (u2 (u2 (aj a7 (aj a7 (ag a7 (u2 (k5 (al t3))))))))) (ak s2)) t2))
 (fun a7 =>
 .rn 0 [108] [] [] [] (al (u2 (u2 (u2 (ag a7 (ag a7 (ag a7 (u2 (aj t3 (aj t3 (aj t3 (aj t3 (aj t4 (al t3)))))))))))))) <|
 .br (fun a8 =>
  .rt [108, 129] [] [] [] [] [] (aj (aj a8 s2) t2))
 (fun a8 =>
  .rn 0 [108, 128] [] [] [] (aj a8 s2) <|
  .gu fun a9 =>
  .gu fun a10 =>
  .lq [108] [] [] [] [] [1, 2] [4, 5, 6, 7, 8, 10, 12, 13, 14] (up [(13, AV.sl 1 0 (List.map sA (looM l 0 6).ss).length)] [(1, List.replicate (List.map sA (looM l 0 6).ss).length (iv 0))] (hEnSt l (.l0 ((0 : Int)) (List.replicate (List.map sA (looM l 0 6).ss).length 0) ((0 : Int))))) (aj (aj (u2 (u2 (u2 (aj (k2 (aj (show 0 ≤ iN (List.map sA (looM l 0 6).ss).length from (Int.natCast_nonneg _)) (aj (show iN (List.map sA (looM l 0 6).ss).length ≤ iN (List.map sA (looM l 0 6).ss).length by omega) (aj a9 a10)))) s2)))) s2) (k3 t9)) (by simp [up, upF, upV, upH, upB, hEnSt, gL, boL, lI, sA, bA, boL])))) (by kernel_rfl)
theorem hEnS0_ok (l : List Int) (v0 : Int) (v1 : List Int) (v2 : Int) (o : hEnPc ⊕ Ret) (h : hEnS0 l v0 v1 v2 = some o) : Arr Try.prog Try.f14 0 (hEnSt l) hEnHd (headC Try.f14 0) (.rnd (headC Try.f14 0) :: headK Try.f14 0) (hEnSt l (.l0 v0 v1 v2)) o :=
 Scr.ok h mix (
 .rn 0 [] [] [] [] (al (u2 (u2 (u2 (al t3))))) <|
 .br (fun a0 =>
 .gu fun a1 =>
 .el fun x77 a2 =>
 .el fun x82 a3 =>
 .br (fun a4 =>
  .rt [145, 173] [(77, iv x77), (82, iv x82)] [] [] [] [] (aj (aj a0 (aj (u2 (u2 (aj (k2 (aj a1 (getMap (f := iv) a2))) (u2 (u2 (u2 (u2 (aj (k2 (aj a1 (getMap (f := iv) a3))) (u2 (u2 (aj t3 (u2 (aj a4 (aj a4 (aj a4 (aj a4 (aj a4 (ag a4 (u2 (k3 (k5 (al t3)))))))))))))))))))))) (ak s2))) t2))
 (fun a4 =>
  .el fun x89 a5 =>
  .br (fun a6 =>
  .rt [145, 172, 187] [(77, iv x77), (82, iv x82), (89, iv x89)] [] [] [] [] (aj (aj a0 (aj (u2 (u2 (aj (k2 (aj a1 (getMap (f := iv) a2))) (u2 (u2 (u2 (u2 (aj (k2 (aj a1 (getMap (f := iv) a3))) (u2 (u2 (aj t3 (u2 (ag a4 (ag a4 (aj (aj a4 (k2 (aj a1 (getMap (f := iv) a5)))) (ag a4 (ag a4 (ag a4 (u2 (aj a6 (aj a6 (aj a6 (aj a6 (aj a6 (aj a6 (aj a6 (aj a6 (al (aj a6 t2))))))))))))))))))))))))))))) (ak s2))) t2))
  (fun a6 =>
  .el fun x96 a7 =>
  .rn 0 [145, 172, 186] [(77, iv x77), (82, iv x82), (89, iv x89), (96, iv x96)] [] [] (aj a0 (al (u2 (u2 (aj (k2 (aj a1 (getMap (f := iv) a2))) (u2 (u2 (u2 (u2 (aj (k2 (aj a1 (getMap (f := iv) a3))) (u2 (u2 (aj t3 (u2 (ag a4 (ag a4 (aj (aj a4 (k2 (aj a1 (getMap (f := iv) a5)))) (ag a4 (ag a4 (ag a4 (u2 (ag a6 (ag a6 (aj (aj a6 (k2 (aj a1 (getMap (f := iv) a7)))) (ag a6 (ag a6 (ag a6 (ag a6 (aj (aj a6 t3) (al (aj a6 t2))))))))))))))))))))))))))))))) <|
  .br (fun a8 =>
   .rt [172, 186, 205] [] [] [] [] [] (aj (aj a8 s2) t2))
  (fun a8 =>
   .el fun x105 a9 =>
   .rn 0 [172, 186, 204] [(105, iv x105)] [] [] (aj a8 (al (u2 (u2 (aj (k2 (aj a1 (getMap (f := iv) a9))) (u2 s2)))))) <|
   .br (fun a10 =>
   .lp [172, 186, 215] [] [] [] [] [0, 1] [4, 5, 6, 7, 8, 10, 12, 13, 14] (aj (aj a10 (al (u2 (u2 s2)))) (k3 t9)))
   (fun a10 =>
   .rn 0 [172, 186, 214] [] [] [] (aj a10 (al (u2 (u2 s2)))) <|
   .el fun x112 a11 =>
   .rn 0 [172, 186] [(112, iv x112)] [] [] (al (u2 (u2 (aj (k2 (aj a1 (getMap (f := iv) a11))) (u2 s2))))) <|
   .br (fun a12 =>
    .el fun x120 a13 =>
    .gu fun a14 =>
    have c0 := cOpen_ct a14 (shuL l (looK l 0 6) (celN (looM l 0 6))) (x120);
    .rn 0 [172, 186, 229] [(120, iv x120)] [(122, hK c0 [] [])] [] (aj a12 (al (u2 (u2 (u2 (u2 (aj (k2 (aj a1 (getMap (f := iv) a13))) (u2 (aj (k3 (aj t9 (k2 (al (c0))))) (u2 (u2 (u2 (u2 s2))))))))))))) <|
    .br (fun a15 =>
    .rt [172, 186, 255] [] [] [] [] [] (aj (aj (u2 (u2 (u2 (aj a15 (aj a15 (ag a15 (u2 (k5 (k5 (al t3)))))))))) (ak s2)) t2))
    (fun a15 =>
    .br (fun a16 =>
     .rt [172, 186, 254, 263] [] [] [] [] [] (aj (aj (u2 (u2 (u2 (ag a15 (ag a15 (ag a15 (u2 (aj a16 (aj a16 (aj a16 (aj a16 (aj a16 (aj a16 (aj a16 (aj a16 (aj a16 (aj a16 (al (aj a16 t2))))))))))))))))))) (ak s2)) t2))
    (fun a16 =>
     .el fun x136 a17 =>
     .gu fun a18 =>
     .el fun x138 a19 =>
     .rn 0 [172, 186, 254, 262] [(136, iv x136), (138, sA x138)] [] [] (al (u2 (u2 (u2 (ag a15 (ag a15 (ag a15 (u2 (ag a16 (ag a16 (ag a16 (ag a16 (aj (aj a16 (k2 (aj a1 (getMap (f := iv) a17)))) (ag a16 (aj (aj a16 (k2 (aj a18 (getMap (f := sA) a19)))) (ag a16 (ag a16 (ag a16 (al (aj a16 t2)))))))))))))))))))) <|
     .br (fun a20 =>
     .rt [172, 186, 254, 262, 285] [] [] [] [] [] (aj (aj a20 s2) t2))
     (fun a20 =>
     .el fun x146 a21 =>
     .gu fun a22 =>
     .gu fun a23 =>
     .el fun x149 a24 =>
     .gu fun a25 =>
     .rn 0 [172, 186, 254, 262, 284] [(146, iv x146), (149, iv x149)] [] [] (aj a20 (al (u2 (u2 (u2 (aj (k2 (aj a1 (getMap (f := iv) a21))) (u2 (aj (k2 (aj a22 a23)) (aj (ak (getMap (f := iv) a24)) (u2 (aj (k2 (aj a22 a23)) (al (k2 a25))))))))))))) <|
     .el fun x154 a26 =>
     .rn 0 [172, 186, 254, 262] [(154, iv x154)] [] [] (al (u2 (u2 (aj (k2 (aj a1 (getMap (f := iv) a26))) (u2 s2))))) <|
     .br (fun a27 =>
      .el fun x162 a28 =>
      have c1 := cOpen_ct a14 (shuL l (looK l 0 6) (celN (looM l 0 6))) (x162);
      .rn 0 [172, 186, 254, 262, 313] [(162, iv x162)] [(164, hK c1 [] [])] [] (aj a27 (al (u2 (u2 (u2 (u2 (aj (k2 (aj a1 (getMap (f := iv) a28))) (u2 (aj (k3 (aj t9 (k2 (al (c1))))) (u2 (u2 (u2 (u2 s2))))))))))))) <|
      .br (fun a29 =>
      .rt [172, 186, 254, 262, 339] [] [] [] [] [] (aj (aj (u2 (u2 (u2 (aj a29 (aj a29 (ak (k3 (k5 (aj a29 (al (aj a29 t2))))))))))) (ak s2)) t2))
      (fun a29 =>
      .br (fun a30 =>
       .el fun x174 a31 =>
       .el fun x178 a32 =>
       .rn 0 [172, 186, 254, 262, 338, 343] [(174, iv x174), (178, iv x178)] [] [] (al (u2 (u2 (u2 (ag a29 (ag a29 (ag a30 (ag a30 (aj (aj a30 (k2 (aj a1 (getMap (f := iv) a31)))) (ag a30 (ag a30 (ag a30 (aj (aj a30 (k2 (aj a1 (getMap (f := iv) a32)))) (ag a30 (aj (aj a30 t3) (aj (aj a29 (aj a30 t2)) (al (aj a29 t2)))))))))))))))))) <|
       .br (fun a33 =>
       .rt [172, 186, 254, 262, 338, 343, 365] [] [] [] [] [] (aj (aj a33 s2) t2))
       (fun a33 =>
       .lq [172, 186, 254, 262, 338, 343, 364] [] [] [] [] [0, 1] [4, 5, 6, 7, 8, 10, 12, 13, 14] (up [(13, AV.sl 1 0 v1.length)] [(1, (List.map (iv) v1).set (0 + x146.toNat) (iv (IntKind.i64.wrap (x149 + 1))))] (hEnSt l (.l0 (IntKind.i64.wrap (v0 + 1)) (v1.set (0 + x146.toNat) (IntKind.i64.wrap (x149 + 1))) (IntKind.i64.wrap (v2 + 1))))) (aj (aj a33 (al (u2 (u2 s2)))) (k3 t9)) (by simp [up, upF, upV, upH, upB, hEnSt, gL, boL, lI, sA, bA, boL])))
      (fun a30 =>
       .lq [172, 186, 254, 262, 338, 342] [] [] [] [] [0, 1] [4, 5, 6, 7, 8, 10, 12, 13, 14] (up [(13, AV.sl 1 0 v1.length)] [(1, (List.map (iv) v1).set (0 + x146.toNat) (iv (IntKind.i64.wrap (x149 + 1))))] (hEnSt l (.l0 (IntKind.i64.wrap (v0 + 1)) (v1.set (0 + x146.toNat) (IntKind.i64.wrap (x149 + 1))) (IntKind.i64.wrap (v2 + 1))))) (aj (aj (u2 (u2 (u2 (ag a29 (ag a29 (aj a30 (aj a30 (aj a30 (aj a30 (aj a30 (aj a30 (aj a30 (aj a30 (aj a30 (aj (aj a29 (aj a30 t2)) (al (aj a29 t2))))))))))))))))) (ak (al (u2 (u2 s2))))) (k3 t9)) (by simp [up, upF, upV, upH, upB, hEnSt, gL, boL, lI, sA, bA, boL]))))
     (fun a27 =>
      .lq [172, 186, 254, 262, 312] [] [] [] [] [0, 1] [4, 5, 6, 7, 8, 10, 12, 13, 14] (up [(13, AV.sl 1 0 v1.length)] [(1, (List.map (iv) v1).set (0 + x146.toNat) (iv (IntKind.i64.wrap (x149 + 1))))] (hEnSt l (.l0 (IntKind.i64.wrap (v0 + 1)) (v1.set (0 + x146.toNat) (IntKind.i64.wrap (x149 + 1))) (IntKind.i64.wrap (v2 + 1))))) (aj (aj a27 (al (u2 (u2 s2)))) (k3 t9)) (by simp [up, upF, upV, upH, upB, hEnSt, gL, boL, lI, sA, bA, boL]))))))
   (fun a12 =>
    .el fun x154 a13 =>
    .rn 0 [172, 186, 228] [(154, iv x154)] [] [] (aj a12 (al (u2 (u2 (aj (k2 (aj a1 (getMap (f := iv) a13))) (u2 s2)))))) <|
    .br (fun a14 =>
    .el fun x162 a15 =>
    .gu fun a16 =>
    have c0 := cOpen_ct a16 (shuL l (looK l 0 6) (celN (looM l 0 6))) (x162);
    .rn 0 [172, 186, 313] [(162, iv x162)] [(164, hK c0 [] [])] [] (aj a14 (al (u2 (u2 (u2 (u2 (aj (k2 (aj a1 (getMap (f := iv) a15))) (u2 (aj (k3 (aj t9 (k2 (al (c0))))) (u2 (u2 (u2 (u2 s2))))))))))))) <|
    .br (fun a17 =>
     .rt [172, 186, 339] [] [] [] [] [] (aj (aj (u2 (u2 (u2 (aj a17 (aj a17 (ak (k3 (k5 (aj a17 (al (aj a17 t2))))))))))) (ak s2)) t2))
    (fun a17 =>
     .br (fun a18 =>
     .el fun x174 a19 =>
     .el fun x178 a20 =>
     .rn 0 [172, 186, 338, 343] [(174, iv x174), (178, iv x178)] [] [] (al (u2 (u2 (u2 (ag a17 (ag a17 (ag a18 (ag a18 (aj (aj a18 (k2 (aj a1 (getMap (f := iv) a19)))) (ag a18 (ag a18 (ag a18 (aj (aj a18 (k2 (aj a1 (getMap (f := iv) a20)))) (ag a18 (aj (aj a18 t3) (aj (aj a17 (aj a18 t2)) (al (aj a17 t2)))))))))))))))))) <|
     .br (fun a21 =>
      .rt [172, 186, 338, 343, 365] [] [] [] [] [] (aj (aj a21 s2) t2))
     (fun a21 =>
      .lp [172, 186, 338, 343, 364] [] [] [] [] [0, 1] [4, 5, 6, 7, 8, 10, 12, 13, 14] (aj (aj a21 (al (u2 (u2 s2)))) (k3 t9))))
     (fun a18 =>
     .lp [172, 186, 338, 342] [] [] [] [] [0, 1] [4, 5, 6, 7, 8, 10, 12, 13, 14] (aj (aj (u2 (u2 (u2 (ag a17 (ag a17 (aj a18 (aj a18 (aj a18 (aj a18 (aj a18 (aj a18 (aj a18 (aj a18 (aj a18 (aj (aj a17 (aj a18 t2)) (al (aj a17 t2))))))))))))))))) (ak (al (u2 (u2 s2))))) (k3 t9)))))
    (fun a14 =>
    .lp [172, 186, 312] [] [] [] [] [0, 1] [4, 5, 6, 7, 8, 10, 12, 13, 14] (aj (aj a14 (al (u2 (u2 s2)))) (k3 t9)))))))))
 (fun a0 =>
 .lp [144] [] [] [] [] [0, 1] [4, 8, 10, 12, 13, 19] (aj (aj a0 s2) t9))) (by kernel_rfl)
theorem hEnS1_ok (l : List Int) (v0 : Int) (v1 : List Int) (v2 : Int) (o : hEnPc ⊕ Ret) (h : hEnS1 l v0 v1 v2 = some o) : Arr Try.prog Try.f14 0 (hEnSt l) hEnHd (headC Try.f14 1) (.rnd (headC Try.f14 1) :: headK Try.f14 1) (hEnSt l (.l1 v0 v1 v2)) o :=
 Scr.ok h mix (
 .rn 0 [] [] [] [] (al (u2 (u2 (u2 (al t3))))) <|
 .br (fun a0 =>
 .gu fun a1 =>
 .gu fun a2 =>
 .el fun x192 a3 =>
 .el fun x196 a4 =>
 .rn 0 [373] [(192, iv x192), (196, sA x196)] [] [] (aj a0 (al (u2 (u2 (aj (k2 (aj a1 a2)) (aj (ak (getMap (f := iv) a3)) (u2 (u2 (u2 (aj (k2 (aj a1 (getMap (f := sA) a4))) (u2 (u2 (al t3))))))))))))) <|
 .br (fun a5 =>
  .rt [399] [] [] [] [] [] (aj (aj a5 s2) t2))
 (fun a5 =>
  .lp [398] [] [] [] [] [0, 1] [4, 8, 10, 12, 13, 19] (aj (aj a5 (al (u2 (u2 s2)))) t9)))
 (fun a0 =>
 .lp [372] [] [] [] [] [] [8, 10, 12, 20] (aj (aj a0 s2) t5))) (by kernel_rfl)
theorem hEnS2_ok (l : List Int) (v0 : Int) (v1 : Int) (o : hEnPc ⊕ Ret) (h : hEnS2 l v0 v1 = some o) : Arr Try.prog Try.f14 0 (hEnSt l) hEnHd (headC Try.f14 2) (.rnd (headC Try.f14 2) :: headK Try.f14 2) (hEnSt l (.l2 v0 v1)) o :=
 Scr.ok h mix (
 .rn 0 [] [] [] [] (al (u2 (u2 (u2 (al t3))))) <|
 .br (fun a0 =>
 .gu fun a1 =>
 .el fun x208 a2 =>
 .br (fun a3 =>
  .rn 0 [407, 423] [(208, iv x208)] [] [] (aj a0 (al (u2 (u2 (aj (k2 (aj a1 (getMap (f := iv) a2))) (u2 (u2 (u2 (ag a3 (ag a3 (aj (aj a3 t3) (al (aj a3 t2))))))))))))) <|
  .br (fun a4 =>
  .rt [423, 431] [] [] [] [] [] (aj (aj a4 s2) t2))
  (fun a4 =>
  .lp [423, 430] [] [] [] [] [] [8, 10, 12, 20] (aj (aj a4 (al (u2 (u2 s2)))) t5)))
 (fun a3 =>
  .lp [407, 422] [(208, iv x208)] [] [] [] [] [8, 10, 12, 20] (aj (aj a0 (aj (u2 (u2 (aj (k2 (aj a1 (getMap (f := iv) a2))) (u2 (u2 (u2 (aj a3 (aj a3 (aj a3 (al (aj a3 t2))))))))))) (ak (al (u2 (u2 s2)))))) t5)))
 (fun a0 =>
 .rt [406] [] [] [] [] [] (aj (aj a0 s2) t2))) (by kernel_rfl)
theorem hEn_ct (l : List Int) (r : Ret) (h : MReach (hEnStep l) (hEnEn l) r) : CT Try.prog 14 ([]) ([lI l]) r.1 r.2 :=
  CT.mach (fn := Try.f14) (c := bodyOf Try.f14) (S := hEnSt l) (hd := hEnHd) Try.func14 (by kernel_rfl) (Nat.le_of_ble_eq_true rfl)
    (fun s o ho => match s, ho with
      | .l0 v0 v1 v2, ho => hEnS0_ok l v0 v1 v2 o ho
      | .l1 v0 v1 v2, ho => hEnS1_ok l v0 v1 v2 o ho
      | .l2 v0 v1, ho => hEnS2_ok l v0 v1 o ho
    )
    (fun o ho => hEnEn_ok l o ho) h
theorem hEn_run (l : List Int) : CT Try.prog 14 [] [lI l] [] (.bool true) := by
  refine hEn_ct l ([], .bool true) ?_
  have ls := loo_spec (L := l) (kk := 0) (most := 6) (by omega) (by omega)
  have hn := ls.1
  have hv := hn.v
  have hce := hv.cel
  have ns := hv.ns
  have s1 := shu_spec (L := l) (kk := looK l 0 6) (c := celN (looM l 0 6)) (by omega) (by omega)
  have hI := (hmd_spec (L := l) (kk := shuK l (looK l 0 6) (celN (looM l 0 6))) hn (by omega)).1
  have hS0 : ∀ a b c, hEnStep l (.l0 a b c) = hEnS0 l a b c := fun _ _ _ => rfl
  have hS1 : ∀ a b c, hEnStep l (.l1 a b c) = hEnS1 l a b c := fun _ _ _ => rfl
  have hS2 : ∀ a b, hEnStep l (.l2 a b) = hEnS2 l a b := fun _ _ => rfl
  unfold hEnS0 at hS0
  unfold hEnS1 at hS1
  unfold hEnS2 at hS2
  unfold hEnEn
  have hs := s1.1
  rw [gu_t hv, gu_t (by omega), gu_t (by omega), gu_t hn, gu_t (by omega), gu_t hn.rows, gu_t hs]
  generalize shuL l (looK l 0 6) (celN (looM l 0 6)) = sh at *
  generalize hmdH (looM l 0 6) l (shuK l (looK l 0 6) (celN (looM l 0 6))) = hm at *
  generalize hmdG (looM l 0 6) l (shuK l (looK l 0 6) (celN (looM l 0 6))) = gs at *
  generalize looM l 0 6 = n at *
  have e1 := setE_ok hv hs hI
  have l1 := setL_ok hv hs hI
  have h8 := hI.h8
  simp only [l1] at hS0 hS1 hS2 ⊢
  have ol := setZ_len (n := n) (sh := sh) (hm := hm) (gs := gs)
  have two := fun j (hj : j < hm.length) => setZ_two (sh := sh) hI hj
  have opn := fun j (hj : j < hm.length) => setZ_open (sh := sh) hI hj
  have inn := fun j (hj : j < hm.length) => setZ_in (sh := sh) hI hj
  have cnt := fun (j : Nat) (s : SpuD) (h : n.ss[j]? = some s) => setZ_count (sh := sh) hv hI h
  have full := fun j (hj : j < hm.length) => full_lt (sh := sh) hI hj
  have hmo : ∀ x ∈ setZ n sh hm gs, hmB n x = true := fun x hx => setZ_hm hI hx
  generalize setZ n sh hm gs = O at *
  rw [br_f (by rw [e1]; rfl), br_f (by simp [iN, ol]), gu_t (by simp [iN]; omega), gu_t (by simp [iN]; omega), List.length_map, ← ctl_zero (n := n) (O := O)]
  have cok : ∀ g : Int, inB n g = true → 0 ≤ g → cOE n sh g = 0 ∧ cOB n sh g = opB n sh g := fun g hg h0 => by
    unfold inB at hg
    simp only [Bool.or_eq_true, beq_iff_eq] at hg
    rcases hg with hg | hg
    · omega
    · obtain ⟨k, s, rfl, hk, _⟩ := dpB_at hg
      have hkl := (List.getElem?_eq_some_iff.1 hk).1
      exact ⟨cOE_ok hv hs hkl, cOB_ok hv hs (by omega)⟩
  refine loop_up (fun i => hEnPc.l0 (ndZ hm i) (ctl n O i) (i : Int)) hm.length (fun i hi hr => .to ?_ hr) (.to (y := some (.inl (.l1 (ndZ hm hm.length) (ctl n O hm.length) ((0 : Nat) : Int)))) ?_ ?_)
  · obtain ⟨h, hx⟩ : ∃ h, hm[i]? = some h := ⟨_, List.getElem?_eq_getElem hi⟩
    obtain ⟨o, ox⟩ : ∃ o, O[i]? = some o := ⟨_, List.getElem?_eq_getElem (by omega)⟩
    obtain ⟨g, gx⟩ : ∃ g, gs[i]? = some g := ⟨_, List.getElem?_eq_getElem (by rw [hI.gl]; omega)⟩
    have hd : hm.getD i 0 = h := by rw [List.getD_eq_getElem?_getD, hx]; rfl
    have od : O.getD i 0 = o := by rw [List.getD_eq_getElem?_getD, ox]; rfl
    have gd : gs.getD i 0 = g := by rw [List.getD_eq_getElem?_getD, gx]; rfl
    have t2 := two i hi
    have op := opn i hi
    have ii := inn i hi
    rw [hd, od] at t2
    rw [od] at op
    rw [hd, od, gd] at ii
    have gin := hI.gg g (List.mem_of_getElem? gx)
    have ohm := hmo o (List.mem_of_getElem? ox)
    have orng : -2 ≤ o ∧ o < n.ss.length := by
      unfold hmB at ohm
      simp only [Bool.or_eq_true, beq_iff_eq] at ohm
      rcases ohm with (h1 | h1) | h1
      · omega
      · omega
      · obtain ⟨k, s, rfl, hk, _⟩ := dpB_at h1
        have := (List.getElem?_eq_some_iff.1 hk).1
        omega
    have nb := ndZ_bd hm i
    have wn : IntKind.i64.wrap (ndZ hm i + 1) = ndZ hm i + 1 := wrapS _ (by omega) (by omega)
    rw [hS0, rngS hx, Int.toNat_natCast, el_t ox, br_f (by rw [t2]; simp), el_t ox, br_f (dec_f (by omega)), el_t ox, br_f (dec_f (by simp only [iN, List.length_map]; omega)), el_t hx, wrap_nat i (by omega), wn, ndZ_succ hx]
    cases h2 : h == -2 with
    | true =>
      have o2 : o = -2 := by rw [h2] at t2; simpa using t2
      rw [br_t rfl, ctl_neg ox (by omega), if_pos rfl]; simp
    | false =>
      rw [br_f rfl, if_neg (by simp), el_t ox]
      by_cases h0 : 0 ≤ o
      · have oo := op h0
        have oo1 : opB n sh o = true := by unfold odB at oo; simp only [Bool.and_eq_true] at oo; exact oo.1
        have oo2 : dpB n o = true := by unfold odB at oo; simp only [Bool.and_eq_true] at oo; exact oo.2
        obtain ⟨k, s, rfl, hk, hsd⟩ := dpB_at oo2
        have hkl := (List.getElem?_eq_some_iff.1 hk).1
        have cb := cntZ_bd O (k : Int) i
        have wc : IntKind.i64.wrap (cntZ O (k : Int) i + 1) = cntZ O (k : Int) i + 1 := wrapS _ (by omega) (by omega)
        rw [br_t (dec_t h0), el_t ox, gu_t hn.rows, br_f (by rw [cOE_ok hv hs hkl]; rfl), br_f (by rw [cOB_ok hv hs (by omega), oo1]; rfl), el_t ox, gu_t (by omega), Int.toNat_natCast, el_t hk, br_f (by rw [hsd]; rfl), el_t ox, gu_t (by omega), gu_t (by simp only [iN, ctl_len]; omega)]
        simp only [Int.toNat_natCast, Nat.zero_add]
        rw [el_t (ctl_at hkl), gu_t (by rw [List.length_map, ctl_len]; show k + 1 ≤ _; omega), el_t gx, wc, ctl_set ox]
        by_cases g0 : 0 ≤ g
        · have c := cok g gin g0
          rw [br_t (dec_t g0), el_t gx, br_f (by rw [c.1]; rfl), c.2]
          cases hg : opB n sh g with
          | true => rw [br_t rfl, el_t ox, el_t gx, br_f (by rw [ii h2 g0 hg]; simp)]
          | false => rw [br_f rfl]
        · rw [br_f (dec_f g0)]
      · rw [br_f (dec_f h0), el_t gx, ctl_neg ox (by omega)]
        by_cases g0 : 0 ≤ g
        · have c := cok g gin g0
          rw [br_t (dec_t g0), el_t gx, gu_t hn.rows, br_f (by rw [c.1]; rfl), c.2]
          cases hg : opB n sh g with
          | true => have := ii h2 g0 hg; omega
          | false => rw [br_f rfl]
        · rw [br_f (dec_f g0)]
  · rw [hS0, rngE]; rfl
  refine loop_up (fun i => hEnPc.l1 (ndZ hm hm.length) (ctl n O hm.length) (i : Int)) n.ss.length (fun i hi hr => .to ?_ hr) (.to (y := some (.inl (.l2 (ndZ hm hm.length) ((0 : Nat) : Int)))) ?_ ?_)
  · obtain ⟨s, hss⟩ : ∃ s, n.ss[i]? = some s := ⟨_, List.getElem?_eq_getElem hi⟩
    have c := cnt i s hss
    rw [hS1, br_t (dec_t (by simp only [iN, ctl_len]; omega)), gu_t (by omega), gu_t (by simp only [iN, ctl_len]; omega), Int.toNat_natCast, Nat.zero_add, el_t (ctl_at hi), el_t hss, ← ol, cntZ_count, br_f (dec_f (by omega)), wrap_nat i (by omega)]
  · rw [hS1, br_f (dec_f (by simp only [iN, ctl_len]; omega))]; rfl
  refine loop_up (fun i => hEnPc.l2 (ndZ hm hm.length) (i : Int)) O.length (fun i hi hr => .to ?_ hr) (.to ?_ (.ret _))
  · obtain ⟨o, ox⟩ : ∃ o, O[i]? = some o := ⟨_, List.getElem?_eq_getElem hi⟩
    have od : O.getD i 0 = o := by rw [List.getD_eq_getElem?_getD, ox]; rfl
    have f := full i (by omega)
    rw [od] at f
    rw [hS2, rngS ox, wrap_nat i (by omega)]
    cases h1 : o == -1 with
    | true =>
      have := f (by simpa using h1)
      rw [br_t rfl, br_f (dec_f (by omega))]
    | false => rw [br_f rfl]
  · rw [hS2, rngE]
theorem homesEnough_row (avs : List AV) (h : ShVs Try.prog 6 Try.f14.params.toList avs) : CT Try.prog 14 [] avs [] (.bool true) := by
  rw [Try.params14] at h
  obtain ⟨a, _, rfl, ka, h⟩ := h.consD
  obtain rfl := h.nilD
  obtain ⟨_, _, he, rfl⟩ := ka.sliceD Try.underlying25
  obtain ⟨l, rfl⟩ := rdInts he
  exact hEn_run l
end Go.Proofs.Ytepomnooippjpaa

/- Parts of the proof: St2m, StB, St3m, StC, St4m, StD, St6m, StE, St5m, StF, St7m, StG, St8m, StH, StR, St9m. -/
import Derived.Test.YtepomnooippjpaaProg
import Derived.KernelRfl
import Derived.Test.YtepomnooippjpaaStationsFullM5
open Go Go.AX Go.Proofs
set_option maxRecDepth 100000
set_option maxHeartbeats 4000000
set_option linter.unusedVariables false
set_option linter.unusedSimpArgs false
namespace Go.Proofs.Ytepomnooippjpaa
noncomputable def tkSt (n : NetD) (x : UnD) (t : List TkD) (sp : Int) : Empty → St
  | x => x.elim
def tkHd : Empty → Nat
  | x => x.elim
noncomputable def tkEn (n : NetD) (x : UnD) (t : List TkD) (sp : Int) : Option (Empty ⊕ Ret) :=
  gu (0 ≤ sp) <|
  el (n.ss) (sp.toNat) fun (x15 : SpuD) =>
  gu (spBnd x15) <|
  br (inP x.cl x15)
  (some (.inr ([], AV.bool true)))
  (br (inP x.to x15)
   (some (.inr ([], AV.bool true)))
   (br (decide (x.tk < 0))
    (some (.inr ([], AV.bool false)))
    (gu (0 ≤ x.tk) <|
     el (t) (x.tk.toNat) fun (x34 : TkD) =>
     br (x.ph == 1)
     (br (sp == x34.pk)
      (some (.inr ([], AV.bool true)))
      (br (sp == x34.dr)
       (some (.inr ([], AV.bool true)))
       (br (x.ph == 2)
        (some (.inr ([], AV.bool (sp == x34.dr))))
        (some (.inr ([], AV.bool false))))))
     (br (x.ph == 2)
      (some (.inr ([], AV.bool (sp == x34.dr))))
      (some (.inr ([], AV.bool false)))))))
noncomputable def tkStep (n : NetD) (x : UnD) (t : List TkD) (sp : Int) : Empty → Option (Empty ⊕ Ret)
  | x => x.elim
theorem tkEn_ok (n : NetD) (x : UnD) (t : List TkD) (sp : Int) (o : Empty ⊕ Ret) (h : tkEn n x t sp = some o) : Arr Try.prog Try.f121 0 (tkSt n x t sp) tkHd (bodyOf Try.f121) [] { n := Try.f121.ntmps, fr := enumF 0 ([netA n, unA x, .lst (t.map tkA), .int .i64 sp]), hp := ([]) } o := by
 unfold tkEn at h
 obtain ⟨a0, h⟩ := gu_inv h
 obtain ⟨x15, a1, h⟩ := el_inv h
 obtain ⟨a2, h⟩ := gu_inv h
 rcases br_inv h with ⟨a3, h⟩ | ⟨a3, h⟩
 ·
  cases h
  exact Arr.rt [45] [(15, sA x15)] [(21, Hint.call [2] [] [spB x15] (AV.bool (inP x.cl x15)))] [] [] [] mix (by kernel_rfl) (aj (aj (u2 (u2 t2)) (aj (u2 (u2 (u2 (aj (k2 (aj a0 (getMap (f := sA) a1))) (u2 (ak (al (k2 n11)))))))) (aj (u2 s2) (aj (u2 (u2 (u2 (aj (k5 (al (takes1_ct (x15) (x.cl) a2))) (u2 (aj a3 (aj a3 (aj a3 (aj a3 (al (aj a3 t2))))))))))) (ak s2))))) t2)
 ·
  rcases br_inv h with ⟨a4, h⟩ | ⟨a4, h⟩
  ·
   cases h
   exact Arr.rt [44, 55] [(15, sA x15)] [(21, Hint.call [2] [] [spB x15] (AV.bool (inP x.cl x15))), (26, Hint.call [2] [] [spB x15] (AV.bool (inP x.to x15)))] [] [] [] mix (by kernel_rfl) (aj (aj (u2 (u2 t2)) (aj (u2 (u2 (u2 (aj (k2 (aj a0 (getMap (f := sA) a1))) (u2 (ak (al (k2 n11)))))))) (aj (u2 s2) (aj (u2 (u2 (u2 (aj (k5 (al (takes1_ct (x15) (x.cl) a2))) (u2 (ag a3 (ag a3 (ag a3 (aj (aj a3 (k5 (al (takes1_ct (x15) (x.to) a2)))) (al (aj a3 t2))))))))))) (aj a4 s2))))) t2)
  ·
   rcases br_inv h with ⟨a5, h⟩ | ⟨a5, h⟩
   ·
    cases h
    exact Arr.rt [44, 54, 61] [(15, sA x15)] [(21, Hint.call [2] [] [spB x15] (AV.bool (inP x.cl x15))), (26, Hint.call [2] [] [spB x15] (AV.bool (inP x.to x15)))] [] [] [] mix (by kernel_rfl) (aj (aj (u2 (u2 t2)) (aj (u2 (u2 (u2 (aj (k2 (aj a0 (getMap (f := sA) a1))) (u2 (ak (al (k2 n11)))))))) (aj (u2 s2) (aj (u2 (u2 (u2 (aj (k5 (al (takes1_ct (x15) (x.cl) a2))) (u2 (ag a3 (ag a3 (ag a3 (aj (aj a3 (k5 (al (takes1_ct (x15) (x.to) a2)))) (al (aj a3 t2))))))))))) (aj a4 (aj (u2 (u2 s2)) (aj a5 s2))))))) t2)
   ·
    obtain ⟨a6, h⟩ := gu_inv h
    obtain ⟨x34, a7, h⟩ := el_inv h
    rcases br_inv h with ⟨a8, h⟩ | ⟨a8, h⟩
    ·
     rcases br_inv h with ⟨a9, h⟩ | ⟨a9, h⟩
     ·
      cases h
      exact Arr.rt [44, 54, 60, 79, 89] [(15, sA x15), (34, tkA x34)] [(21, Hint.call [2] [] [spB x15] (AV.bool (inP x.cl x15))), (26, Hint.call [2] [] [spB x15] (AV.bool (inP x.to x15)))] [] [] [] mix (by kernel_rfl) (aj (aj (u2 (u2 t2)) (aj (u2 (u2 (u2 (aj (k2 (aj a0 (getMap (f := sA) a1))) (u2 (ak (al (k2 n11)))))))) (aj (u2 s2) (aj (u2 (u2 (u2 (aj (k5 (al (takes1_ct (x15) (x.cl) a2))) (u2 (ag a3 (ag a3 (ag a3 (aj (aj a3 (k5 (al (takes1_ct (x15) (x.to) a2)))) (al (aj a3 t2))))))))))) (aj a4 (aj (u2 (u2 s2)) (aj a5 (aj (u2 (u2 (u2 (aj (k2 (aj a6 (getMap (f := tkA) a7))) (u2 (ak (al (k2 n11)))))))) (al (u2 (u2 (u2 (u2 (ag a8 (ag a8 (ag a8 (aj (aj a8 t3) (ag a8 (aj a9 (aj a9 (aj a9 (aj a9 (aj (aj a8 (aj a9 t2)) (ag a8 (u2 (ak (k3 (k5 (aj t3 s2))))))))))))))))))))))))))))) t2)
     ·
      rcases br_inv h with ⟨a10, h⟩ | ⟨a10, h⟩
      ·
       cases h
       exact Arr.rt [44, 54, 60, 79, 88, 103] [(15, sA x15), (34, tkA x34)] [(21, Hint.call [2] [] [spB x15] (AV.bool (inP x.cl x15))), (26, Hint.call [2] [] [spB x15] (AV.bool (inP x.to x15)))] [] [] [] mix (by kernel_rfl) (aj (aj (u2 (u2 t2)) (aj (u2 (u2 (u2 (aj (k2 (aj a0 (getMap (f := sA) a1))) (u2 (ak (al (k2 n11)))))))) (aj (u2 s2) (aj (u2 (u2 (u2 (aj (k5 (al (takes1_ct (x15) (x.cl) a2))) (u2 (ag a3 (ag a3 (ag a3 (aj (aj a3 (k5 (al (takes1_ct (x15) (x.to) a2)))) (al (aj a3 t2))))))))))) (aj a4 (aj (u2 (u2 s2)) (aj a5 (aj (u2 (u2 (u2 (aj (k2 (aj a6 (getMap (f := tkA) a7))) (u2 (ak (al (k2 n11)))))))) (al (u2 (u2 (u2 (u2 (ag a8 (ag a8 (ag a8 (aj (aj a8 t3) (ag a8 (ag a9 (ag a9 (ag a9 (aj (aj a9 t3) (aj (aj a8 (aj a9 t2)) (ag a8 (u2 (aj a10 (aj a10 (aj a10 (aj a10 (ak (k3 (aj a10 (ag a10 s2))))))))))))))))))))))))))))))))) t2)
      ·
       rcases br_inv h with ⟨a11, h⟩ | ⟨a11, h⟩
       ·
        cases h
        exact Arr.rt [44, 54, 60, 79, 88, 102, 111] [(15, sA x15), (34, tkA x34)] [(21, Hint.call [2] [] [spB x15] (AV.bool (inP x.cl x15))), (26, Hint.call [2] [] [spB x15] (AV.bool (inP x.to x15)))] [] [] [] mix (by kernel_rfl) (aj (aj (u2 (u2 t2)) (aj (u2 (u2 (u2 (aj (k2 (aj a0 (getMap (f := sA) a1))) (u2 (ak (al (k2 n11)))))))) (aj (u2 s2) (aj (u2 (u2 (u2 (aj (k5 (al (takes1_ct (x15) (x.cl) a2))) (u2 (ag a3 (ag a3 (ag a3 (aj (aj a3 (k5 (al (takes1_ct (x15) (x.to) a2)))) (al (aj a3 t2))))))))))) (aj a4 (aj (u2 (u2 s2)) (aj a5 (aj (u2 (u2 (u2 (aj (k2 (aj a6 (getMap (f := tkA) a7))) (u2 (ak (al (k2 n11)))))))) (al (u2 (u2 (u2 (u2 (ag a8 (ag a8 (ag a8 (aj (aj a8 t3) (ag a8 (ag a9 (ag a9 (ag a9 (aj (aj a9 t3) (aj (aj a8 (aj a9 t2)) (ag a8 (u2 (ag a10 (ag a10 (ag a10 (ag a10 (ag a11 (ag a11 (ag a11 (aj (aj a11 t3) (aj (aj a10 (aj a11 t2)) (ag a10 s2))))))))))))))))))))))))))))))))))) t2)
       ·
        cases h
        exact Arr.rt [44, 54, 60, 79, 88, 102, 110] [(15, sA x15), (34, tkA x34)] [(21, Hint.call [2] [] [spB x15] (AV.bool (inP x.cl x15))), (26, Hint.call [2] [] [spB x15] (AV.bool (inP x.to x15)))] [] [] [] mix (by kernel_rfl) (aj (aj (u2 (u2 t2)) (aj (u2 (u2 (u2 (aj (k2 (aj a0 (getMap (f := sA) a1))) (u2 (ak (al (k2 n11)))))))) (aj (u2 s2) (aj (u2 (u2 (u2 (aj (k5 (al (takes1_ct (x15) (x.cl) a2))) (u2 (ag a3 (ag a3 (ag a3 (aj (aj a3 (k5 (al (takes1_ct (x15) (x.to) a2)))) (al (aj a3 t2))))))))))) (aj a4 (aj (u2 (u2 s2)) (aj a5 (aj (u2 (u2 (u2 (aj (k2 (aj a6 (getMap (f := tkA) a7))) (u2 (ak (al (k2 n11)))))))) (al (u2 (u2 (u2 (u2 (ag a8 (ag a8 (ag a8 (aj (aj a8 t3) (ag a8 (ag a9 (ag a9 (ag a9 (aj (aj a9 t3) (aj (aj a8 (aj a9 t2)) (ag a8 (u2 (ag a10 (ag a10 (ag a10 (ag a10 (aj a11 (aj a11 (aj a11 (aj a11 (aj (aj a10 (aj a11 t2)) (ag a10 s2))))))))))))))))))))))))))))))))))) t2)
    ·
     rcases br_inv h with ⟨a9, h⟩ | ⟨a9, h⟩
     ·
      cases h
      exact Arr.rt [44, 54, 60, 78, 111] [(15, sA x15), (34, tkA x34)] [(21, Hint.call [2] [] [spB x15] (AV.bool (inP x.cl x15))), (26, Hint.call [2] [] [spB x15] (AV.bool (inP x.to x15)))] [] [] [] mix (by kernel_rfl) (aj (aj (u2 (u2 t2)) (aj (u2 (u2 (u2 (aj (k2 (aj a0 (getMap (f := sA) a1))) (u2 (ak (al (k2 n11)))))))) (aj (u2 s2) (aj (u2 (u2 (u2 (aj (k5 (al (takes1_ct (x15) (x.cl) a2))) (u2 (ag a3 (ag a3 (ag a3 (aj (aj a3 (k5 (al (takes1_ct (x15) (x.to) a2)))) (al (aj a3 t2))))))))))) (aj a4 (aj (u2 (u2 s2)) (aj a5 (aj (u2 (u2 (u2 (aj (k2 (aj a6 (getMap (f := tkA) a7))) (u2 (ak (al (k2 n11)))))))) (al (u2 (u2 (u2 (u2 (aj a8 (aj a8 (aj a8 (aj a8 (aj a8 (ak (k3 (aj a8 (ag a8 (u2 (aj t3 (aj t3 (aj t3 (aj t3 (ag a9 (ag a9 (ag a9 (aj (aj a9 t3) (aj (ak (aj a9 t2)) (aj t3 s2))))))))))))))))))))))))))))))))) t2)
     ·
      cases h
      exact Arr.rt [44, 54, 60, 78, 110] [(15, sA x15), (34, tkA x34)] [(21, Hint.call [2] [] [spB x15] (AV.bool (inP x.cl x15))), (26, Hint.call [2] [] [spB x15] (AV.bool (inP x.to x15)))] [] [] [] mix (by kernel_rfl) (aj (aj (u2 (u2 t2)) (aj (u2 (u2 (u2 (aj (k2 (aj a0 (getMap (f := sA) a1))) (u2 (ak (al (k2 n11)))))))) (aj (u2 s2) (aj (u2 (u2 (u2 (aj (k5 (al (takes1_ct (x15) (x.cl) a2))) (u2 (ag a3 (ag a3 (ag a3 (aj (aj a3 (k5 (al (takes1_ct (x15) (x.to) a2)))) (al (aj a3 t2))))))))))) (aj a4 (aj (u2 (u2 s2)) (aj a5 (aj (u2 (u2 (u2 (aj (k2 (aj a6 (getMap (f := tkA) a7))) (u2 (ak (al (k2 n11)))))))) (al (u2 (u2 (u2 (u2 (aj a8 (aj a8 (aj a8 (aj a8 (aj a8 (ak (k3 (aj a8 (ag a8 (u2 (aj t3 (aj t3 (aj t3 (aj t3 (aj a9 (aj a9 (aj a9 (aj a9 (aj (ak (aj a9 t2)) (aj t3 s2))))))))))))))))))))))))))))))))) t2)
theorem tk_ct (n : NetD) (x : UnD) (t : List TkD) (sp : Int) (r : Ret) (h : MReach (tkStep n x t sp) (tkEn n x t sp) r) : CT Try.prog 121 ([]) ([netA n, unA x, .lst (t.map tkA), .int .i64 sp]) r.1 r.2 :=
  CT.mach (fn := Try.f121) (c := bodyOf Try.f121) (S := tkSt n x t sp) (hd := tkHd) Try.func121 (by kernel_rfl) (Nat.le_of_ble_eq_true rfl)
    (fun s o ho => match s, ho with
      | x, _ => x.elim)
    (fun o ho => tkEn_ok n x t sp o ho) h
inductive scnPc where
  | l0 (v0 : Int)
  | l1 (v0 : Int)
noncomputable def scnSt (n : NetD) (u : List UnD) (t : List TkD) : scnPc → St
  | .l0 v0 => St.mk 88 [(1, AV.lst (List.map unA u)), (2, AV.lst (List.map tkA t)), (3, AV.ptr 0 0 0), (7, iv (celV n)), (30, AV.lst (List.map tkA t)), (31, iv (iN (List.map tkA t).length)), (32, iv v0)] [some (Blk.mk [netA n] 8 true true none)]
  | .l1 v0 => St.mk 88 [(2, AV.lst (List.map tkA t)), (7, iv (celV n)), (49, AV.lst (List.map unA u)), (50, iv (iN (List.map unA u).length)), (51, iv v0)] []
def scnHd : scnPc → Nat
  | .l0 _ => 0
  | .l1 _ => 1
noncomputable def scnEn (n : NetD) (u : List UnD) (t : List TkD) : Option (scnPc ⊕ Ret) :=
  gu (Rows n.nx) <|
  br (errV n != 0)
  (some (.inr ([], AV.bool false)))
  (br (decide (8 < iN (List.map unA u).length))
   (some (.inr ([], AV.bool false)))
   (br (decide (32 < iN (List.map tkA t).length))
    (some (.inr ([], AV.bool false)))
    (some (.inl (.l0 ((0 : Int)))))))
noncomputable def scnS0 (n : NetD) (u : List UnD) (t : List TkD) (v0 : Int) : Option (scnPc ⊕ Ret) :=
  br (decide (v0 < iN (List.map tkA t).length))
  (gu (0 ≤ v0) <|
   el (t) (v0.toNat) fun (x34 : TkD) =>
   br (!stB n x34.pk)
   (some (.inr ([], AV.bool false)))
   (br (!stB n x34.dr)
    (some (.inr ([], AV.bool false)))
    (some (.inl (.l0 (IntKind.i64.wrap (v0 + 1)))))))
  (some (.inl (.l1 ((0 : Int)))))
noncomputable def scnS1 (n : NetD) (u : List UnD) (t : List TkD) (v0 : Int) : Option (scnPc ⊕ Ret) :=
  br (decide (v0 < iN (List.map unA u).length))
  (gu (0 ≤ v0) <|
   el (u) (v0.toNat) fun (x53 : UnD) =>
   br (decide (x53.cl < -1))
   (some (.inr ([], AV.bool false)))
   (br (decide (celV n ≤ x53.cl))
    (some (.inr ([], AV.bool false)))
    (br (decide (x53.to < -1))
     (some (.inr ([], AV.bool false)))
     (br (decide (celV n ≤ x53.to))
      (some (.inr ([], AV.bool false)))
      (br (decide (x53.tk < -1))
       (some (.inr ([], AV.bool false)))
       (br (decide (iN (List.map tkA t).length ≤ x53.tk))
        (some (.inr ([], AV.bool false)))
        (some (.inl (.l1 (IntKind.i64.wrap (v0 + 1)))))))))))
  (some (.inr ([], AV.bool true)))
noncomputable def scnStep (n : NetD) (u : List UnD) (t : List TkD) : scnPc → Option (scnPc ⊕ Ret)
  | .l0 v0 => scnS0 n u t v0
  | .l1 v0 => scnS1 n u t v0
theorem scnEn_ok (n : NetD) (u : List UnD) (t : List TkD) (o : scnPc ⊕ Ret) (h : scnEn n u t = some o) : Arr Try.prog Try.f67 0 (scnSt n u t) scnHd (bodyOf Try.f67) [] { n := Try.f67.ntmps, fr := enumF 0 ([netA n, .lst (u.map unA), .lst (t.map tkA)]), hp := ([]) } o := by
 unfold scnEn at h
 obtain ⟨a0, h⟩ := gu_inv h
 rcases br_inv h with ⟨a1, h⟩ | ⟨a1, h⟩
 ·
  cases h
  exact Arr.rt [41] [] [(15, hc (AV.tup [iv (celV n), iv (errV n)]))] [] [] [] mix (by kernel_rfl) (aj (ag t2 (aj (u2 (aj (ak (aj t9 (al (scount_ct a0)))) (u2 (u2 (u2 (u2 s2)))))) (aj (u2 (u2 (u2 (aj a1 (aj a1 (aj a1 (ag a1 (u2 (k3 (al t3)))))))))) (ak s2)))) t2)
 ·
  rcases br_inv h with ⟨a2, h⟩ | ⟨a2, h⟩
  ·
   cases h
   exact Arr.rt [40, 51] [] [(15, hc (AV.tup [iv (celV n), iv (errV n)]))] [] [] [] mix (by kernel_rfl) (aj (ag t2 (aj (u2 (aj (ak (aj t9 (al (scount_ct a0)))) (u2 (u2 (u2 (u2 s2)))))) (aj (u2 (u2 (u2 (ag a1 (ag a1 (ag a1 (ag a1 (u2 (aj a2 (aj a2 (aj a2 (al (aj a2 t2))))))))))))) (ak s2)))) t2)
  ·
   rcases br_inv h with ⟨a3, h⟩ | ⟨a3, h⟩
   ·
    cases h
    exact Arr.rt [40, 50, 59] [] [(15, hc (AV.tup [iv (celV n), iv (errV n)]))] [] [] [] mix (by kernel_rfl) (aj (ag t2 (aj (u2 (aj (ak (aj t9 (al (scount_ct a0)))) (u2 (u2 (u2 (u2 s2)))))) (aj (u2 (u2 (u2 (ag a1 (ag a1 (ag a1 (ag a1 (u2 (ag a2 (ag a2 (ag a2 (al (aj a2 t2))))))))))))) (aj a3 s2)))) t2)
   ·
    cases h
    exact Arr.lp [40, 50, 58] [] [(15, hc (AV.tup [iv (celV n), iv (errV n)]))] [] [] [0] [1, 2, 3, 7, 30, 31, 32] mix (by kernel_rfl) (aj (ag t2 (aj (u2 (aj (ak (aj t9 (al (scount_ct a0)))) (u2 (u2 (u2 (u2 s2)))))) (aj (u2 (u2 (u2 (ag a1 (ag a1 (ag a1 (ag a1 (u2 (ag a2 (ag a2 (ag a2 (al (aj a2 t2))))))))))))) (aj a3 (al (u2 (u2 t2))))))) t9)
theorem scnS0_ok (n : NetD) (u : List UnD) (t : List TkD) (v0 : Int) (o : scnPc ⊕ Ret) (h : scnS0 n u t v0 = some o) : Arr Try.prog Try.f67 0 (scnSt n u t) scnHd (headC Try.f67 0) (.rnd (headC Try.f67 0) :: headK Try.f67 0) (scnSt n u t (.l0 v0)) o := by
 unfold scnS0 at h
 rcases br_inv h with ⟨a0, h⟩ | ⟨a0, h⟩
 ·
  obtain ⟨a1, h⟩ := gu_inv h
  obtain ⟨x34, a2, h⟩ := el_inv h
  rcases br_inv h with ⟨a3, h⟩ | ⟨a3, h⟩
  ·
   cases h
   exact Arr.rt [67, 83] [(34, tkA x34)] [(39, hc (AV.bool (stB n x34.pk)))] [] [] [] mix (by kernel_rfl) (aj (aj (al t3) (aj a0 (aj (aj (k2 (aj a1 (getMap (f := tkA) a2))) (u2 (ak (al (k2 n11))))) (aj (u2 (u2 (u2 (aj (k2 (aj t9 (ak (al (isStation_ct (n) (x34.pk)))))) (u2 (u2 (aj a3 (aj a3 (aj a3 (aj a3 (aj a3 (al (aj a3 t2))))))))))))) (ak s2))))) t2)
  ·
   rcases br_inv h with ⟨a4, h⟩ | ⟨a4, h⟩
   ·
    cases h
    exact Arr.rt [67, 82, 95] [(34, tkA x34)] [(39, hc (AV.bool (stB n x34.pk))), (45, hc (AV.bool (stB n x34.dr)))] [] [] [] mix (by kernel_rfl) (aj (aj (al t3) (aj a0 (aj (aj (k2 (aj a1 (getMap (f := tkA) a2))) (u2 (ak (al (k2 n11))))) (aj (u2 (u2 (u2 (aj (k2 (aj t9 (ak (al (isStation_ct (n) (x34.pk)))))) (u2 (u2 (ag a3 (ag a3 (ag a3 (aj (aj a3 (k2 (aj t9 (ak (al (isStation_ct (n) (x34.dr))))))) (ag a3 (al (aj a3 t2))))))))))))) (aj a4 s2))))) t2)
   ·
    cases h
    exact Arr.lp [67, 82, 94] [(34, tkA x34)] [(39, hc (AV.bool (stB n x34.pk))), (45, hc (AV.bool (stB n x34.dr)))] [] [] [0] [1, 2, 3, 7, 30, 31, 32] mix (by kernel_rfl) (aj (aj (al t3) (aj a0 (aj (aj (k2 (aj a1 (getMap (f := tkA) a2))) (u2 (ak (al (k2 n11))))) (aj (u2 (u2 (u2 (aj (k2 (aj t9 (ak (al (isStation_ct (n) (x34.pk)))))) (u2 (u2 (ag a3 (ag a3 (ag a3 (aj (aj a3 (k2 (aj t9 (ak (al (isStation_ct (n) (x34.dr))))))) (ag a3 (al (aj a3 t2))))))))))))) (aj a4 (al (u2 s2))))))) t9)
 ·
  cases h
  exact Arr.lp [66] [] [] [] [] [] [2, 7, 49, 50, 51] mix (by kernel_rfl) (aj (aj (al t3) (aj a0 (al (u2 (u2 t2))))) t6)
theorem scnS1_ok (n : NetD) (u : List UnD) (t : List TkD) (v0 : Int) (o : scnPc ⊕ Ret) (h : scnS1 n u t v0 = some o) : Arr Try.prog Try.f67 0 (scnSt n u t) scnHd (headC Try.f67 1) (.rnd (headC Try.f67 1) :: headK Try.f67 1) (scnSt n u t (.l1 v0)) o := by
 unfold scnS1 at h
 rcases br_inv h with ⟨a0, h⟩ | ⟨a0, h⟩
 ·
  obtain ⟨a1, h⟩ := gu_inv h
  obtain ⟨x53, a2, h⟩ := el_inv h
  rcases br_inv h with ⟨a3, h⟩ | ⟨a3, h⟩
  ·
   cases h
   exact Arr.rt [105, 117] [(53, unA x53)] [] [] [] [] mix (by kernel_rfl) (aj (aj (al t3) (aj a0 (aj (aj (k2 (aj a1 (getMap (f := unA) a2))) (u2 (ak (al (k2 n11))))) (aj (u2 (u2 (u2 (u2 (aj a3 (aj a3 (aj a3 (aj a3 (ag a3 (u2 (k3 (aj t3 (u2 (ak (k3 (aj t3 (u2 (k3 (aj t3 (u2 (k5 (al t3)))))))))))))))))))))) (ak s2))))) t2)
  ·
   rcases br_inv h with ⟨a4, h⟩ | ⟨a4, h⟩
   ·
    cases h
    exact Arr.rt [105, 116, 129] [(53, unA x53)] [] [] [] [] mix (by kernel_rfl) (aj (aj (al t3) (aj a0 (aj (aj (k2 (aj a1 (getMap (f := unA) a2))) (u2 (ak (al (k2 n11))))) (aj (u2 (u2 (u2 (u2 (ag a3 (ag a3 (ag a3 (aj (aj a3 t3) (ag a3 (u2 (aj a4 (aj a4 (aj a4 (ag a4 (u2 (ak (k3 (aj t3 (u2 (k3 (aj t3 (u2 (k5 (al t3)))))))))))))))))))))))) (ak s2))))) t2)
   ·
    rcases br_inv h with ⟨a5, h⟩ | ⟨a5, h⟩
    ·
     cases h
     exact Arr.rt [105, 116, 128, 139] [(53, unA x53)] [] [] [] [] mix (by kernel_rfl) (aj (aj (al t3) (aj a0 (aj (aj (k2 (aj a1 (getMap (f := unA) a2))) (u2 (ak (al (k2 n11))))) (aj (u2 (u2 (u2 (u2 (ag a3 (ag a3 (ag a3 (aj (aj a3 t3) (ag a3 (u2 (ag a4 (ag a4 (ag a4 (ag a4 (u2 (aj a5 (aj a5 (aj a5 (aj a5 (ag a5 (u2 (k3 (aj t3 (u2 (k5 (al t3)))))))))))))))))))))))))) (ak s2))))) t2)
    ·
     rcases br_inv h with ⟨a6, h⟩ | ⟨a6, h⟩
     ·
      cases h
      exact Arr.rt [105, 116, 128, 138, 151] [(53, unA x53)] [] [] [] [] mix (by kernel_rfl) (aj (aj (al t3) (aj a0 (aj (aj (k2 (aj a1 (getMap (f := unA) a2))) (u2 (ak (al (k2 n11))))) (aj (u2 (u2 (u2 (u2 (ag a3 (ag a3 (ag a3 (aj (aj a3 t3) (ag a3 (u2 (ag a4 (ag a4 (ag a4 (ag a4 (u2 (ag a5 (ag a5 (ag a5 (aj (aj a5 t3) (ag a5 (u2 (aj a6 (aj a6 (aj a6 (ag a6 (u2 (k5 (al t3)))))))))))))))))))))))))))) (ak s2))))) t2)
     ·
      rcases br_inv h with ⟨a7, h⟩ | ⟨a7, h⟩
      ·
       cases h
       exact Arr.rt [105, 116, 128, 138, 150, 161] [(53, unA x53)] [] [] [] [] mix (by kernel_rfl) (aj (aj (al t3) (aj a0 (aj (aj (k2 (aj a1 (getMap (f := unA) a2))) (u2 (ak (al (k2 n11))))) (aj (u2 (u2 (u2 (u2 (ag a3 (ag a3 (ag a3 (aj (aj a3 t3) (ag a3 (u2 (ag a4 (ag a4 (ag a4 (ag a4 (u2 (ag a5 (ag a5 (ag a5 (aj (aj a5 t3) (ag a5 (u2 (ag a6 (ag a6 (ag a6 (ag a6 (u2 (aj a7 (aj a7 (aj a7 (aj a7 (aj a7 (al (aj a7 t2))))))))))))))))))))))))))))))))) (ak s2))))) t2)
      ·
       rcases br_inv h with ⟨a8, h⟩ | ⟨a8, h⟩
       ·
        cases h
        exact Arr.rt [105, 116, 128, 138, 150, 160, 173] [(53, unA x53)] [] [] [] [] mix (by kernel_rfl) (aj (aj (al t3) (aj a0 (aj (aj (k2 (aj a1 (getMap (f := unA) a2))) (u2 (ak (al (k2 n11))))) (aj (u2 (u2 (u2 (u2 (ag a3 (ag a3 (ag a3 (aj (aj a3 t3) (ag a3 (u2 (ag a4 (ag a4 (ag a4 (ag a4 (u2 (ag a5 (ag a5 (ag a5 (aj (aj a5 t3) (ag a5 (u2 (ag a6 (ag a6 (ag a6 (ag a6 (u2 (ag a7 (ag a7 (ag a7 (ag a7 (aj (aj a7 t3) (al (aj a7 t2))))))))))))))))))))))))))))))))) (aj a8 s2))))) t2)
       ·
        cases h
        exact Arr.lp [105, 116, 128, 138, 150, 160, 172] [(53, unA x53)] [] [] [] [] [2, 7, 49, 50, 51] mix (by kernel_rfl) (aj (aj (al t3) (aj a0 (aj (aj (k2 (aj a1 (getMap (f := unA) a2))) (u2 (ak (al (k2 n11))))) (aj (u2 (u2 (u2 (u2 (ag a3 (ag a3 (ag a3 (aj (aj a3 t3) (ag a3 (u2 (ag a4 (ag a4 (ag a4 (ag a4 (u2 (ag a5 (ag a5 (ag a5 (aj (aj a5 t3) (ag a5 (u2 (ag a6 (ag a6 (ag a6 (ag a6 (u2 (ag a7 (ag a7 (ag a7 (ag a7 (aj (aj a7 t3) (al (aj a7 t2))))))))))))))))))))))))))))))))) (aj a8 (al (u2 s2))))))) t6)
 ·
  cases h
  exact Arr.rt [104] [] [] [] [] [] mix (by kernel_rfl) (aj (aj (al t3) (aj a0 s2)) t2)
theorem scn_ct (n : NetD) (u : List UnD) (t : List TkD) (r : Ret) (h : MReach (scnStep n u t) (scnEn n u t) r) : CT Try.prog 67 ([]) ([netA n, .lst (u.map unA), .lst (t.map tkA)]) r.1 r.2 :=
  CT.mach (fn := Try.f67) (c := bodyOf Try.f67) (S := scnSt n u t) (hd := scnHd) Try.func67 (by kernel_rfl) (Nat.le_of_ble_eq_true rfl)
    (fun s o ho => match s, ho with
      | .l0 v0, ho => scnS0_ok n u t v0 o ho
      | .l1 v0, ho => scnS1_ok n u t v0 o ho
    )
    (fun o ho => scnEn_ok n u t o ho) h
end Go.Proofs.Ytepomnooippjpaa
namespace Go.Proofs.Ytepomnooippjpaa
def consT (n : NetD) (x : TkD) : Bool := stB n x.pk && stB n x.dr
noncomputable def consU (n : NetD) (m : Nat) (x : UnD) : Bool := !(decide (x.cl < -1) || decide ((celN n : Int) ≤ x.cl) || decide (x.to < -1) || decide ((celN n : Int) ≤ x.to) || decide (x.tk < -1) || decide ((m : Int) ≤ x.tk))
noncomputable def consB (n : NetD) (u : List UnD) (t : List TkD) : Bool := valB n && decide (u.length ≤ 8) && decide (t.length ≤ 32) && t.all (consT n) && u.all (consU n t.length)
theorem consU_run {n : NetD} (hv : valB n = true) (u : List UnD) (hu : u.length ≤ 8) (t : List TkD) : MReach (scnStep n u t) (some (.inl (.l1 0))) ([], .bool (u.all (consU n t.length))) := by
  refine (loop_all (L := fun i => scnPc.l1 (i : Int)) (l := u) (p := consU n t.length) (r := ([], .bool true)) (rF := ([], .bool false)) (fun i x hx hp => ?_) (fun i x r hx hp hr => ?_) (fun _ => ?_)).res (by cases u.all (consU n t.length) <;> rfl)
  · refine .to ?_ (.ret _)
    show scnS1 n u t i = _
    unfold scnS1
    rw [rngS hx]
    simp only [br_or]
    exact br_t (by simp [consU, celV, hv, iN] at hp ⊢; omega)
  · refine .to ?_ hr
    show scnS1 n u t i = _
    have hl := (List.getElem?_eq_some_iff.1 hx).1
    unfold scnS1
    rw [rngS hx, wrap_nat i (by omega)]
    simp only [br_or]
    exact br_f (by simp [consU, celV, hv, iN] at hp ⊢; omega)
  · refine .to ?_ (.ret _)
    show scnS1 n u t u.length = _
    unfold scnS1
    rw [rngE]
theorem cons_ct {n : NetD} (hrw : Rows n.nx) (u : List UnD) (t : List TkD) : CT Try.prog 67 [] [netA n, .lst (u.map unA), .lst (t.map tkA)] [] (.bool (consB n u t)) := by
  refine scn_ct n u t ([], _) ?_
  unfold scnEn consB
  rw [gu_t hrw]
  cases hv : valB n with
  | false => rw [br_t (by simp [errV, hv])]; exact .ret _
  | true =>
    rw [br_f (by simp [errV, hv])]
    by_cases h1 : u.length ≤ 8
    · rw [br_f (dec_f (by simp [iN]; omega)), dec_t h1]
      by_cases h2 : t.length ≤ 32
      · rw [br_f (dec_f (by simp [iN]; omega)), dec_t h2]
        simp only [Bool.true_and]
        refine (loop_all (L := fun i => scnPc.l0 (i : Int)) (l := t) (p := consT n) (r := ([], .bool (u.all (consU n t.length)))) (rF := ([], .bool false)) (fun i x hx hp => ?_) (fun i x r hx hp hr => ?_) (fun _ => ?_)).res (by cases t.all (consT n) <;> rfl)
        · refine .to ?_ (.ret _)
          show scnS0 n u t i = _
          unfold scnS0
          rw [rngS hx]
          simp only [br_or]
          exact br_t (by revert hp; unfold consT; cases stB n x.pk <;> cases stB n x.dr <;> simp)
        · refine .to ?_ hr
          show scnS0 n u t i = _
          have hl := (List.getElem?_eq_some_iff.1 hx).1
          unfold scnS0
          rw [rngS hx, wrap_nat i (by omega)]
          simp only [br_or]
          exact br_f (by revert hp; unfold consT; cases stB n x.pk <;> cases stB n x.dr <;> simp)
        · refine .to ?_ (consU_run hv u h1 t)
          show scnS0 n u t t.length = _
          unfold scnS0
          rw [rngE]
      · rw [br_t (dec_t (by simp [iN]; omega)), dec_f h2]; exact .ret _
    · rw [br_t (dec_t (by simp [iN]; omega)), dec_f h1]; exact .ret _
theorem beqc (a b : Int) : (a == b) = (b == a) := by
  cases h : b == a with
  | true => rw [eq_of_beq h]; simp
  | false =>
    have : b ≠ a := by simpa using h
    simp only [beq_eq_false_iff_ne]; exact fun e => this e.symm
def tkPh (x : UnD) (k : TkD) (sp : Int) : Bool := (x.ph == 1 && (sp == k.pk || sp == k.dr)) || (x.ph == 2 && sp == k.dr)
def tkB (x : UnD) (t : List TkD) (s : SpuD) (sp : Int) : Bool := inP x.cl s || inP x.to s || (decide (0 ≤ x.tk) && match t[x.tk.toNat]? with | some k => tkPh x k sp | none => false)
theorem takes_ct {n : NetD} (hv : ValidN n) (x : UnD) (t : List TkD) (hx : x.tk < t.length) (i : Nat) (s : SpuD) (hs : n.ss[i]? = some s) : CT Try.prog 121 [] [netA n, unA x, .lst (t.map tkA), .int .i64 (i : Int)] [] (.bool (tkB x t s i)) := by
  refine tk_ct n x t i ([], _) (.val ?_)
  unfold tkEn tkB
  have sb := hv.sb hs
  rw [gu_t (by omega), Int.toNat_natCast, el_t hs, gu_t ⟨sb.1, sb.2.1, sb.2.2.1, sb.2.2.2.1⟩]
  cases inP x.cl s
  case true => rfl
  cases inP x.to s
  case true => rfl
  rw [br_f rfl, br_f rfl]
  by_cases h : x.tk < 0
  · rw [br_t (dec_t h), dec_f (by omega)]; rfl
  · have hl : x.tk.toNat < t.length := by omega
    rw [br_f (dec_f h), gu_t (by omega), el_t (List.getElem?_eq_getElem hl), dec_t (show 0 ≤ x.tk by omega), List.getElem?_eq_getElem hl]
    simp only [Bool.false_or, Bool.true_and]
    unfold tkPh
    cases x.ph == 1 <;> cases x.ph == 2 <;> cases (i : Int) == (t[x.tk.toNat]).pk <;> cases (i : Int) == (t[x.tk.toNat]).dr <;> rfl
def tkP (n : NetD) (x : UnD) (t : List TkD) (i : Int) : Bool := match n.ss[i.toNat]? with | some s => tkB x t s i | none => false
theorem takesP_ct (n : NetD) (x : UnD) (t : List TkD) (i : Int) (hv : ValidN n) (hx : x.tk < t.length) (hi : 0 ≤ i ∧ i < n.ss.length) : CT Try.prog 121 [] [netA n, unA x, .lst (t.map tkA), .int .i64 i] [] (.bool (tkP n x t i)) := by
  obtain ⟨j, rfl⟩ : ∃ j : Nat, i = j := ⟨i.toNat, by omega⟩
  have hl : j < n.ss.length := by omega
  have h := takes_ct hv x t hx j _ (List.getElem?_eq_getElem hl)
  unfold tkP
  rw [Int.toNat_natCast, List.getElem?_eq_getElem hl]
  exact h
inductive tknPc where
  | l0 (v0 : Int) (v1 : Int) (v2 : Int) (v3 : Int) (v4 : Int) (v5 : Int) (v6 : Int)
  | l1 (v0 : Int) (v1 : Int) (v2 : Int) (v3 : Int) (v4 : Int) (v5 : Int) (v6 : Int) (v7 : Int)
noncomputable def tknSt (n : NetD) (u : List UnD) (t : List TkD) : tknPc → St
  | .l0 v0 v1 v2 v3 v4 v5 v6 => St.mk 46 [(1, AV.lst (List.map unA u)), (2, AV.lst (List.map tkA t)), (3, AV.ptr 0 0 0), (6, AV.ptr 1 0 0), (7, AV.ptr 2 0 0), (13, iv (iN (List.map sA n.ss).length)), (14, iv v0)] [some (Blk.mk [netA n] 8 true true none), some (Blk.mk [AV.agg [iv 0, iv 0, iv 0, iv 0, iv 0, iv 0]] 6 true true none), some (Blk.mk [AV.agg [iv v1, iv v2, iv v3, iv v4, iv v5, iv v6]] 6 true true none)]
  | .l1 v0 v1 v2 v3 v4 v5 v6 v7 => St.mk 46 [(1, AV.lst (List.map unA u)), (2, AV.lst (List.map tkA t)), (3, AV.ptr 0 0 0), (6, AV.ptr 1 0 0), (7, AV.ptr 2 0 0), (8, iv v0), (13, iv (iN (List.map sA n.ss).length)), (14, iv v0), (17, AV.lst (List.map unA u)), (18, iv (iN (List.map unA u).length)), (19, iv v1)] [some (Blk.mk [netA n] 8 true true none), some (Blk.mk [AV.agg [iv 0, iv 0, iv 0, iv 0, iv 0, iv 0]] 6 true true none), some (Blk.mk [AV.agg [iv v2, iv v3, iv v4, iv v5, iv v6, iv v7]] 6 true true none)]
def tknHd : tknPc → Nat
  | .l0 _ _ _ _ _ _ _ => 0
  | .l1 _ _ _ _ _ _ _ _ => 1
noncomputable def tknEn (n : NetD) (u : List UnD) (t : List TkD) : Option (tknPc ⊕ Ret) :=
  some (.inl (.l0 ((0 : Int)) ((0 : Int)) ((0 : Int)) ((0 : Int)) ((0 : Int)) ((0 : Int)) ((0 : Int))))
noncomputable def tknS0 (n : NetD) (u : List UnD) (t : List TkD) (v0 : Int) (v1 : Int) (v2 : Int) (v3 : Int) (v4 : Int) (v5 : Int) (v6 : Int) : Option (tknPc ⊕ Ret) :=
  br (decide (v0 < iN (List.map sA n.ss).length))
  (some (.inl (.l1 (v0) ((0 : Int)) (v1) (v2) (v3) (v4) (v5) (v6))))
  (some (.inr ([], AV.agg [AV.int IntKind.i64 v1, AV.int IntKind.i64 v2, AV.int IntKind.i64 v3, AV.int IntKind.i64 v4, AV.int IntKind.i64 v5, AV.int IntKind.i64 v6])))
noncomputable def tknS1 (n : NetD) (u : List UnD) (t : List TkD) (v0 : Int) (v1 : Int) (v2 : Int) (v3 : Int) (v4 : Int) (v5 : Int) (v6 : Int) (v7 : Int) : Option (tknPc ⊕ Ret) :=
  br (decide (v1 < iN (List.map unA u).length))
  (gu (0 ≤ v1) <|
   el (u) (v1.toNat) fun (x21 : UnD) =>
   br (x21.sta == 1)
   (br (stB n v0)
    (gu (ValidN n) <|
     gu (x21.tk < iN t.length) <|
     gu (0 ≤ v0 ∧ v0 < iN n.ss.length) <|
     br (tkP n x21 t v0)
     (gu (0 ≤ v0) <|
      gu (v0 < 6) <|
      el ([v2, v3, v4, v5, v6, v7]) (0 + v0.toNat * 1) fun (x40 : Int) =>
      gu ((0 + v0.toNat * 1 + 1).le 6) <|
      some (.inl (.l1 (v0) (IntKind.i64.wrap (v1 + 1)) (bif Nat.beq 0 (0 + v0.toNat * 1) then IntKind.i64.wrap (x40 + 1) else v2) (bif Nat.beq 1 (0 + v0.toNat * 1) then IntKind.i64.wrap (x40 + 1) else v3) (bif Nat.beq 2 (0 + v0.toNat * 1) then IntKind.i64.wrap (x40 + 1) else v4) (bif Nat.beq 3 (0 + v0.toNat * 1) then IntKind.i64.wrap (x40 + 1) else v5) (bif Nat.beq 4 (0 + v0.toNat * 1) then IntKind.i64.wrap (x40 + 1) else v6) (bif Nat.beq 5 (0 + v0.toNat * 1) then IntKind.i64.wrap (x40 + 1) else v7))))
     (some (.inl (.l1 (v0) (IntKind.i64.wrap (v1 + 1)) (v2) (v3) (v4) (v5) (v6) (v7)))))
    (some (.inl (.l1 (v0) (IntKind.i64.wrap (v1 + 1)) (v2) (v3) (v4) (v5) (v6) (v7)))))
   (some (.inl (.l1 (v0) (IntKind.i64.wrap (v1 + 1)) (v2) (v3) (v4) (v5) (v6) (v7)))))
  (some (.inl (.l0 (IntKind.i64.wrap (v0 + 1)) (v2) (v3) (v4) (v5) (v6) (v7))))
noncomputable def tknStep (n : NetD) (u : List UnD) (t : List TkD) : tknPc → Option (tknPc ⊕ Ret)
  | .l0 v0 v1 v2 v3 v4 v5 v6 => tknS0 n u t v0 v1 v2 v3 v4 v5 v6
  | .l1 v0 v1 v2 v3 v4 v5 v6 v7 => tknS1 n u t v0 v1 v2 v3 v4 v5 v6 v7
theorem tknEn_ok (n : NetD) (u : List UnD) (t : List TkD) (o : tknPc ⊕ Ret) (h : tknEn n u t = some o) : Arr Try.prog Try.f68 0 (tknSt n u t) tknHd (bodyOf Try.f68) [] { n := Try.f68.ntmps, fr := enumF 0 ([netA n, .lst (u.map unA), .lst (t.map tkA)]), hp := ([]) } o := by
 unfold tknEn at h
 cases h
 exact Arr.lp [] [] [] [] [] [0, 1, 2] [1, 2, 3, 6, 7, 13, 14] mix (by kernel_rfl) (aj (ag t2 (u2 (al (u2 (u2 (u2 t2)))))) (k2 t9))
theorem tknS0_ok (n : NetD) (u : List UnD) (t : List TkD) (v0 : Int) (v1 : Int) (v2 : Int) (v3 : Int) (v4 : Int) (v5 : Int) (v6 : Int) (o : tknPc ⊕ Ret) (h : tknS0 n u t v0 v1 v2 v3 v4 v5 v6 = some o) : Arr Try.prog Try.f68 0 (tknSt n u t) tknHd (headC Try.f68 0) (.rnd (headC Try.f68 0) :: headK Try.f68 0) (tknSt n u t (.l0 v0 v1 v2 v3 v4 v5 v6)) o := by
 unfold tknS0 at h
 rcases br_inv h with ⟨a0, h⟩ | ⟨a0, h⟩
 ·
  cases h
  exact Arr.lp [31] [] [] [] [] [0, 1, 2] [1, 2, 3, 6, 7, 8, 13, 14, 17, 18, 19] mix (by kernel_rfl) (aj (aj (al t3) (aj a0 (aj (u2 s2) (al (u2 (u2 t2)))))) (ak (k5 t9)))
 ·
  cases h
  exact Arr.rt [30] [] [] [] [] [] mix (by kernel_rfl) (aj (aj (al t3) (aj a0 (al (u2 (al (k2 n11)))))) (al t7))
theorem tknS1_ok (n : NetD) (u : List UnD) (t : List TkD) (v0 : Int) (v1 : Int) (v2 : Int) (v3 : Int) (v4 : Int) (v5 : Int) (v6 : Int) (v7 : Int) (o : tknPc ⊕ Ret) (h : tknS1 n u t v0 v1 v2 v3 v4 v5 v6 v7 = some o) : Arr Try.prog Try.f68 0 (tknSt n u t) tknHd (headC Try.f68 1) (.rnd (headC Try.f68 1) :: headK Try.f68 1) (tknSt n u t (.l1 v0 v1 v2 v3 v4 v5 v6 v7)) o := by
 unfold tknS1 at h
 rcases br_inv h with ⟨a0, h⟩ | ⟨a0, h⟩
 ·
  obtain ⟨a1, h⟩ := gu_inv h
  obtain ⟨x21, a2, h⟩ := el_inv h
  rcases br_inv h with ⟨a3, h⟩ | ⟨a3, h⟩
  ·
   rcases br_inv h with ⟨a4, h⟩ | ⟨a4, h⟩
   ·
    obtain ⟨a5, h⟩ := gu_inv h
    obtain ⟨a6, h⟩ := gu_inv h
    obtain ⟨a7, h⟩ := gu_inv h
    rcases br_inv h with ⟨a8, h⟩ | ⟨a8, h⟩
    ·
     obtain ⟨a9, h⟩ := gu_inv h
     obtain ⟨a10, h⟩ := gu_inv h
     obtain ⟨x40, a11, h⟩ := el_inv h
     obtain ⟨a12, h⟩ := gu_inv h
     cases h
     exact Arr.lp [41, 53, 63, 75] [(21, unA x21), (40, AV.tup [iv x40]), (42, AV.tup [AV.unk])] [(29, hc (AV.bool (stB n v0))), (36, hc (AV.bool (tkP n x21 t v0)))] [] [] [0, 1, 2] [1, 2, 3, 6, 7, 8, 13, 14, 17, 18, 19] mix (by kernel_rfl) (aj (aj (al t3) (aj a0 (aj (aj (k2 (aj a1 (getMap (f := unA) a2))) (u2 (ak (al (k2 n11))))) (aj (u2 (u2 (u2 (u2 (ag a3 (ag a3 (aj (aj a3 (k2 (aj t9 (ak (al (isStation_ct (n) (v0))))))) (ag a3 (u2 (ag a4 (ag a4 (ag a4 (ag a4 (aj (aj a4 (ak (k3 (aj t9 (aj (k5 t9) (k2 (al (takesP_ct (n) (x21) (t) (v0) a5 a6 a7)))))))) (al (aj a4 t2)))))))))))))))) (aj a8 (aj (u2 (aj (k2 (aj a9 a10)) (aj (ak (getMap (f := iv) a11)) (u2 (aj (k2 (aj a9 a10)) (al (k2 a12))))))) (al (u2 s2)))))))) (ak (k5 t9)))
    ·
     cases h
     exact Arr.lp [41, 53, 63, 74] [(21, unA x21)] [(29, hc (AV.bool (stB n v0))), (36, hc (AV.bool (tkP n x21 t v0)))] [] [] [0, 1, 2] [1, 2, 3, 6, 7, 8, 13, 14, 17, 18, 19] mix (by kernel_rfl) (aj (aj (al t3) (aj a0 (aj (aj (k2 (aj a1 (getMap (f := unA) a2))) (u2 (ak (al (k2 n11))))) (aj (u2 (u2 (u2 (u2 (ag a3 (ag a3 (aj (aj a3 (k2 (aj t9 (ak (al (isStation_ct (n) (v0))))))) (ag a3 (u2 (ag a4 (ag a4 (ag a4 (ag a4 (aj (aj a4 (ak (k3 (aj t9 (aj (k5 t9) (k2 (al (takesP_ct (n) (x21) (t) (v0) a5 a6 a7)))))))) (al (aj a4 t2)))))))))))))))) (aj a8 (al (u2 s2))))))) (ak (k5 t9)))
   ·
    cases h
    exact Arr.lp [41, 53, 62] [(21, unA x21)] [(29, hc (AV.bool (stB n v0)))] [] [] [0, 1, 2] [1, 2, 3, 6, 7, 8, 13, 14, 17, 18, 19] mix (by kernel_rfl) (aj (aj (al t3) (aj a0 (aj (aj (k2 (aj a1 (getMap (f := unA) a2))) (u2 (ak (al (k2 n11))))) (aj (u2 (u2 (u2 (u2 (ag a3 (ag a3 (aj (aj a3 (k2 (aj t9 (ak (al (isStation_ct (n) (v0))))))) (ag a3 (u2 (aj a4 (aj a4 (aj a4 (aj a4 (aj a4 (al (aj a4 t2)))))))))))))))) (ak (al (u2 s2))))))) (ak (k5 t9)))
  ·
   cases h
   exact Arr.lp [41, 52] [(21, unA x21)] [] [] [] [0, 1, 2] [1, 2, 3, 6, 7, 8, 13, 14, 17, 18, 19] mix (by kernel_rfl) (aj (aj (al t3) (aj a0 (aj (aj (k2 (aj a1 (getMap (f := unA) a2))) (u2 (ak (al (k2 n11))))) (aj (u2 (u2 (u2 (u2 (aj a3 (aj a3 (aj a3 (ag a3 (u2 (k5 (al t3))))))))))) (ak (al (u2 s2))))))) (ak (k5 t9)))
 ·
  cases h
  exact Arr.lp [40] [] [] [] [] [0, 1, 2] [1, 2, 3, 6, 7, 13, 14] mix (by kernel_rfl) (aj (aj (al t3) (aj a0 (al (u2 s2)))) (k2 t9))
theorem tkn_ct (n : NetD) (u : List UnD) (t : List TkD) (r : Ret) (h : MReach (tknStep n u t) (tknEn n u t) r) : CT Try.prog 68 ([]) ([netA n, .lst (u.map unA), .lst (t.map tkA)]) r.1 r.2 :=
  CT.mach (fn := Try.f68) (c := bodyOf Try.f68) (S := tknSt n u t) (hd := tknHd) Try.func68 (by kernel_rfl) (Nat.le_of_ble_eq_true rfl)
    (fun s o ho => match s, ho with
      | .l0 v0 v1 v2 v3 v4 v5 v6, ho => tknS0_ok n u t v0 v1 v2 v3 v4 v5 v6 o ho
      | .l1 v0 v1 v2 v3 v4 v5 v6 v7, ho => tknS1_ok n u t v0 v1 v2 v3 v4 v5 v6 v7 o ho
    )
    (fun o ho => tknEn_ok n u t o ho) h
def tcx (n : NetD) (t : List TkD) (i : Nat) (x : UnD) : Bool := x.sta == 1 && tkP n x t i
def tcj (n : NetD) (u : List UnD) (t : List TkD) (i j : Nat) : Nat := if stB n i = true then ((u.take j).filter (tcx n t i)).length else 0
def tcn (n : NetD) (u : List UnD) (t : List TkD) (i : Nat) : Nat := tcj n u t i u.length
theorem tcj_le (n : NetD) (u : List UnD) (t : List TkD) (i j : Nat) : tcj n u t i j ≤ u.length := by
  unfold tcj; split
  · exact Nat.le_trans (List.length_filter_le _ _) (by rw [List.length_take]; omega)
  · exact Nat.zero_le _
theorem tcj_zero (n : NetD) (u : List UnD) (t : List TkD) (i : Nat) : tcj n u t i 0 = 0 := by unfold tcj; simp
theorem tcj_succ {n : NetD} {u : List UnD} {t : List TkD} {i j : Nat} {x : UnD} (hx : u[j]? = some x) : tcj n u t i (j + 1) = tcj n u t i j + (if stB n i = true ∧ tcx n t i x = true then 1 else 0) := by
  unfold tcj
  rw [List.take_add_one, hx, Option.toList_some, List.filter_append, List.length_append]
  cases stB n i <;> cases h : tcx n t i x <;> simp [h]
def gO (n : NetD) (u : List UnD) (t : List TkD) (i k : Nat) : Int := if k < i then (tcn n u t k : Int) else 0
def gI (n : NetD) (u : List UnD) (t : List TkD) (i j k : Nat) : Int := if k < i then (tcn n u t k : Int) else if k = i then (tcj n u t i j : Int) else 0
theorem six (g : Nat → Int) (i : Nat) (hi : i < 6) : [g 0, g 1, g 2, g 3, g 4, g 5][i]? = some (g i) := by
  match i, hi with
  | 0, _ => rfl
  | 1, _ => rfl
  | 2, _ => rfl
  | 3, _ => rfl
  | 4, _ => rfl
  | 5, _ => rfl
def arr6 (g : Nat → Int) : AV := .agg [.int .i64 (g 0), .int .i64 (g 1), .int .i64 (g 2), .int .i64 (g 3), .int .i64 (g 4), .int .i64 (g 5)]
theorem gI_step {n : NetD} {u : List UnD} {t : List TkD} {i j : Nat} {x : UnD} (hx : u[j]? = some x) (hu : u.length ≤ 8) (k : Nat) (h : stB n i = true) (h2 : tcx n t i x = true) :
    (if k = i then IntKind.i64.wrap (gI n u t i j i + 1) else gI n u t i j k) = gI n u t i (j + 1) k := by
  have hl := tcj_le n u t i j
  have e : gI n u t i j i = tcj n u t i j := by unfold gI; simp
  unfold gI
  by_cases hk : k = i
  · subst hk
    simp only [if_true, Nat.lt_irrefl, if_false]
    rw [tcj_succ hx, if_pos ⟨h, h2⟩, wrapS _ (by omega) (by omega)]; omega
  · rw [if_neg hk]; simp [hk]
theorem gI_skip {n : NetD} {u : List UnD} {t : List TkD} {i j : Nat} {x : UnD} (hx : u[j]? = some x) (h : ¬ (stB n i = true ∧ tcx n t i x = true)) : gI n u t i (j + 1) = gI n u t i j := by
  funext k
  unfold gI
  rw [tcj_succ hx, if_neg h, Nat.add_zero]
theorem taken_ct {n : NetD} (hv : ValidN n) (u : List UnD) (t : List TkD) (hu : u.length ≤ 8) (hc : ∀ x ∈ u, consU n t.length x = true) : CT Try.prog 68 [] [netA n, .lst (u.map unA), .lst (t.map tkA)] [] (arr6 (gO n u t n.ss.length)) := by
  have ns := hv.ns
  refine tkn_ct n u t ([], _) ?_
  unfold tknEn
  refine loop_up (fun i => tknPc.l0 (i : Int) (gO n u t i 0) (gO n u t i 1) (gO n u t i 2) (gO n u t i 3) (gO n u t i 4) (gO n u t i 5)) n.ss.length (fun i hi hr => ?_) (.to ?_ (.ret _))
  · refine .to (show tknS0 n u t i _ _ _ _ _ _ = some (.inl (.l1 (i : Int) 0 (gI n u t i 0 0) (gI n u t i 0 1) (gI n u t i 0 2) (gI n u t i 0 3) (gI n u t i 0 4) (gI n u t i 0 5))) from ?_) ?_
    · unfold tknS0
      rw [br_t (rngB hi)]
      have e : gI n u t i 0 = gO n u t i := by
        funext k; unfold gI gO; rw [tcj_zero]; split <;> simp
      rw [e]
    refine loop_up (fun j => tknPc.l1 (i : Int) (j : Int) (gI n u t i j 0) (gI n u t i j 1) (gI n u t i j 2) (gI n u t i j 3) (gI n u t i j 4) (gI n u t i j 5)) u.length (fun j hj hr2 => ?_) (.to ?_ hr)
    · obtain ⟨x, hx⟩ : ∃ x, u[j]? = some x := ⟨_, List.getElem?_eq_getElem hj⟩
      have hcx := hc x (List.mem_of_getElem? hx)
      have hxt : x.tk < t.length := by
        simp only [consU, Bool.not_eq_true', Bool.or_eq_false_iff, decide_eq_false_iff_not] at hcx; omega
      have skip : ¬ (stB n i = true ∧ tcx n t i x = true) → some (Sum.inl (tknPc.l1 (i : Int) (IntKind.i64.wrap ((j : Int) + 1)) (gI n u t i j 0) (gI n u t i j 1) (gI n u t i j 2) (gI n u t i j 3) (gI n u t i j 4) (gI n u t i j 5)) : tknPc ⊕ Ret) = some (.inl (tknPc.l1 (i : Int) ((j + 1 : Nat) : Int) (gI n u t i (j + 1) 0) (gI n u t i (j + 1) 1) (gI n u t i (j + 1) 2) (gI n u t i (j + 1) 3) (gI n u t i (j + 1) 4) (gI n u t i (j + 1) 5))) := fun h => by
        rw [gI_skip hx h, wrap_nat j (by omega)]
      refine .to ?_ hr2
      show tknS1 n u t i j _ _ _ _ _ _ = _
      unfold tknS1
      rw [rngS hx]
      cases h1 : x.sta == 1 with
      | false => rw [br_f rfl]; exact skip fun h => by have := h.2; unfold tcx at this; rw [h1] at this; cases this
      | true =>
        rw [br_t rfl]
        cases h2 : stB n i with
        | false => rw [br_f rfl]; exact skip fun h => by rw [h2] at h; cases h.1
        | true =>
          rw [br_t rfl, gu_t hv, gu_t hxt, gu_t (by simp [iN]; omega)]
          cases h3 : tkP n x t i with
          | false => rw [br_f rfl]; exact skip fun h => by have := h.2; unfold tcx at this; rw [h1, h3] at this; cases this
          | true =>
            have h4 : tcx n t i x = true := by unfold tcx; rw [h1, h3]; rfl
            have ei : 0 + (i : Int).toNat * 1 = i := by simp
            rw [br_t rfl, gu_t (by omega), gu_t (by omega), ei, el_t (six (gI n u t i j) i (by omega)), gu_t (by show i + 1 ≤ 6; omega), wrap_nat j (by omega)]
            simp only [beqM]
            rw [gI_step hx hu 0 h2 h4, gI_step hx hu 1 h2 h4, gI_step hx hu 2 h2 h4, gI_step hx hu 3 h2 h4, gI_step hx hu 4 h2 h4, gI_step hx hu 5 h2 h4]
    · show tknS1 n u t i u.length _ _ _ _ _ _ = _
      unfold tknS1
      rw [rngE, wrap_nat i (by omega)]
      have e : gI n u t i u.length = gO n u t (i + 1) := by
        funext k; unfold gI gO tcn
        by_cases h1 : k < i
        · rw [if_pos h1, if_pos (by omega)]
        · by_cases h2 : k = i
          · subst h2; simp
          · rw [if_neg h1, if_neg h2, if_neg (by omega)]
      rw [e]
  · show tknS0 n u t n.ss.length _ _ _ _ _ _ = _
    unfold tknS0
    rw [rngE]
def cntL (n : NetD) (u : List UnD) (t : List TkD) : List Int := (List.range n.ss.length).map fun i => (tcn n u t i : Int)
noncomputable def sStSt (n : NetD) (u : List UnD) (t : List TkD) (k : Int) : Empty → St
  | x => x.elim
def sStHd : Empty → Nat
  | x => x.elim
noncomputable def sStEn (n : NetD) (u : List UnD) (t : List TkD) (k : Int) : Option (Empty ⊕ Ret) :=
  gu (Rows n.nx) <|
  br (!consB n u t)
  (some (.inr ([], AV.tup [AV.bool false, AV.int IntKind.i64 20])))
  (br (decide (k < 0))
   (some (.inr ([], AV.tup [AV.bool false, AV.int IntKind.i64 19])))
   (br (decide (iN (List.map tkA t).length ≤ k))
    (some (.inr ([], AV.tup [AV.bool false, AV.int IntKind.i64 19])))
    (gu (ValidN n) <|
     gu (u.length ≤ 8) <|
     gu (∀ (x : UnD), x ∈ u → consU n t.length x = true) <|
     gu (0 ≤ k) <|
     el (t) (k.toNat) fun (x33 : TkD) =>
     br (x33.sta == 0)
     (gu (0 ≤ x33.pk) <|
      gu (x33.pk < 6) <|
      el ([gO n u t n.ss.length 0, gO n u t n.ss.length 1, gO n u t n.ss.length 2, gO n u t n.ss.length 3, gO n u t n.ss.length 4, gO n u t n.ss.length 5]) (0 + x33.pk.toNat * 1) fun (x42 : Int) =>
      el (n.ss) (x33.pk.toNat) fun (x47 : SpuD) =>
      br (decide (x42 < x47.k))
      (gu (0 ≤ x33.dr) <|
       gu (x33.dr < 6) <|
       el ([gO n u t n.ss.length 0, gO n u t n.ss.length 1, gO n u t n.ss.length 2, gO n u t n.ss.length 3, gO n u t n.ss.length 4, gO n u t n.ss.length 5]) (0 + x33.dr.toNat * 1) fun (x56 : Int) =>
       el (n.ss) (x33.dr.toNat) fun (x61 : SpuD) =>
       some (.inr ([], AV.tup [AV.bool (decide (x56 < x61.k)), AV.int IntKind.i64 0])))
      (some (.inr ([], AV.tup [AV.bool false, AV.int IntKind.i64 0]))))
     (some (.inr ([], AV.tup [AV.bool false, AV.int IntKind.i64 0]))))))
noncomputable def sStStep (n : NetD) (u : List UnD) (t : List TkD) (k : Int) : Empty → Option (Empty ⊕ Ret)
  | x => x.elim
theorem sStEn_ok (n : NetD) (u : List UnD) (t : List TkD) (k : Int) (o : Empty ⊕ Ret) (h : sStEn n u t k = some o) : Arr Try.prog Try.f21 0 (sStSt n u t k) sStHd (bodyOf Try.f21) [] { n := Try.f21.ntmps, fr := enumF 0 ([netA n, .lst (u.map unA), .lst (t.map tkA), .int .i64 k]), hp := ([]) } o := by
 unfold sStEn at h
 obtain ⟨a0, h⟩ := gu_inv h
 rcases br_inv h with ⟨a1, h⟩ | ⟨a1, h⟩
 ·
  cases h
  exact Arr.rt [25] [] [(16, hc (AV.bool (consB n u t)))] [] [] [] mix (by kernel_rfl) (aj (aj (u2 t3) (aj (u2 (u2 (u2 (aj (k3 (aj t9 (k2 (al (cons_ct a0 (u) (t)))))) (u2 s2))))) (aj a1 (al t3)))) (al t3))
 ·
  rcases br_inv h with ⟨a2, h⟩ | ⟨a2, h⟩
  ·
   cases h
   exact Arr.rt [24, 43] [] [(16, hc (AV.bool (consB n u t)))] [] [] [] mix (by kernel_rfl) (aj (aj (u2 t3) (aj (u2 (u2 (u2 (aj (k3 (aj t9 (k2 (al (cons_ct a0 (u) (t)))))) (u2 s2))))) (aj a1 (aj (u2 (u2 (u2 (aj a2 (aj a2 (aj a2 (aj a2 (ag a2 s2)))))))) (ak (al t3)))))) (al t3))
  ·
   rcases br_inv h with ⟨a3, h⟩ | ⟨a3, h⟩
   ·
    cases h
    exact Arr.rt [24, 42, 37] [] [(16, hc (AV.bool (consB n u t)))] [] [] [] mix (by kernel_rfl) (aj (aj (u2 t3) (aj (u2 (u2 (u2 (aj (k3 (aj t9 (k2 (al (cons_ct a0 (u) (t)))))) (u2 s2))))) (aj a1 (aj (u2 (u2 (u2 (ag a2 (ag a2 (ag a2 (aj (aj a2 t3) (ag a2 s2)))))))) (aj a3 (al t3)))))) (al t3))
   ·
    obtain ⟨a4, h⟩ := gu_inv h
    obtain ⟨a5, h⟩ := gu_inv h
    obtain ⟨a6, h⟩ := gu_inv h
    obtain ⟨a7, h⟩ := gu_inv h
    obtain ⟨x33, a8, h⟩ := el_inv h
    rcases br_inv h with ⟨a9, h⟩ | ⟨a9, h⟩
    ·
     obtain ⟨a10, h⟩ := gu_inv h
     obtain ⟨a11, h⟩ := gu_inv h
     obtain ⟨x42, a12, h⟩ := el_inv h
     obtain ⟨x47, a13, h⟩ := el_inv h
     rcases br_inv h with ⟨a14, h⟩ | ⟨a14, h⟩
     ·
      obtain ⟨a15, h⟩ := gu_inv h
      obtain ⟨a16, h⟩ := gu_inv h
      obtain ⟨x56, a17, h⟩ := el_inv h
      obtain ⟨x61, a18, h⟩ := el_inv h
      cases h
      exact Arr.rt [24, 42, 36, 77, 105] [(33, tkA x33), (42, AV.tup [iv x42]), (47, sA x47), (56, AV.tup [iv x56]), (61, sA x61)] [(16, hc (AV.bool (consB n u t))), (30, hc (arr6 (gO n u t n.ss.length)))] [] [] [] mix (by kernel_rfl) (aj (aj (u2 t3) (aj (u2 (u2 (u2 (aj (k3 (aj t9 (k2 (al (cons_ct a0 (u) (t)))))) (u2 s2))))) (aj a1 (aj (u2 (u2 (u2 (ag a2 (ag a2 (ag a2 (aj (aj a2 t3) (ag a2 s2)))))))) (aj a3 (aj (u2 (u2 (u2 (aj (k3 (aj t9 (k2 (al (taken_ct a4 (u) (t) a5 a6))))) (u2 (u2 (aj (k2 (aj a7 (getMap (f := tkA) a8))) (u2 (k2 (aj (k2 n11) (al (k2 n11)))))))))))) (al (u2 (u2 (u2 (u2 (ag a9 (ag a9 (aj (aj a9 (k2 (aj a10 a11))) (aj (aj a9 (ak (getMap (f := iv) a12))) (ag a9 (ag a9 (ag a9 (ag a9 (aj (aj a9 (k2 (aj a10 (getMap (f := sA) a13)))) (ag a9 (ag a9 (aj (aj a9 t3) (ag a9 (u2 (ag a14 (ag a14 (aj (aj a14 (k2 (aj a15 a16))) (aj (aj a14 (ak (getMap (f := iv) a17))) (ag a14 (ag a14 (ag a14 (ag a14 (aj (aj a14 (k2 (aj a15 (getMap (f := sA) a18)))) (ag a14 (ag a14 (aj (aj a14 t3) (ag a14 (u2 t2))))))))))))))))))))))))))))))))))))))) (al t3))
     ·
      cases h
      exact Arr.rt [24, 42, 36, 77, 104] [(33, tkA x33), (42, AV.tup [iv x42]), (47, sA x47)] [(16, hc (AV.bool (consB n u t))), (30, hc (arr6 (gO n u t n.ss.length)))] [] [] [] mix (by kernel_rfl) (aj (aj (u2 t3) (aj (u2 (u2 (u2 (aj (k3 (aj t9 (k2 (al (cons_ct a0 (u) (t)))))) (u2 s2))))) (aj a1 (aj (u2 (u2 (u2 (ag a2 (ag a2 (ag a2 (aj (aj a2 t3) (ag a2 s2)))))))) (aj a3 (aj (u2 (u2 (u2 (aj (k3 (aj t9 (k2 (al (taken_ct a4 (u) (t) a5 a6))))) (u2 (u2 (aj (k2 (aj a7 (getMap (f := tkA) a8))) (u2 (k2 (aj (k2 n11) (al (k2 n11)))))))))))) (al (u2 (u2 (u2 (u2 (ag a9 (ag a9 (aj (aj a9 (k2 (aj a10 a11))) (aj (aj a9 (ak (getMap (f := iv) a12))) (ag a9 (ag a9 (ag a9 (ag a9 (aj (aj a9 (k2 (aj a10 (getMap (f := sA) a13)))) (ag a9 (ag a9 (aj (aj a9 t3) (ag a9 (u2 (aj a14 (aj a14 (aj a14 (aj a14 (aj a14 (aj a14 (aj a14 (aj a14 (aj a14 (aj a14 (aj a14 (aj a14 (ag a14 (u2 t2))))))))))))))))))))))))))))))))))))))) (al t3))
    ·
     cases h
     exact Arr.rt [24, 42, 36, 76] [(33, tkA x33)] [(16, hc (AV.bool (consB n u t))), (30, hc (arr6 (gO n u t n.ss.length)))] [] [] [] mix (by kernel_rfl) (aj (aj (u2 t3) (aj (u2 (u2 (u2 (aj (k3 (aj t9 (k2 (al (cons_ct a0 (u) (t)))))) (u2 s2))))) (aj a1 (aj (u2 (u2 (u2 (ag a2 (ag a2 (ag a2 (aj (aj a2 t3) (ag a2 s2)))))))) (aj a3 (aj (u2 (u2 (u2 (aj (k3 (aj t9 (k2 (al (taken_ct a4 (u) (t) a5 a6))))) (u2 (u2 (aj (k2 (aj a7 (getMap (f := tkA) a8))) (u2 (k2 (aj (k2 n11) (al (k2 n11)))))))))))) (al (u2 (u2 (u2 (u2 (aj a9 (aj a9 (aj a9 (aj a9 (aj a9 (aj a9 (aj a9 (aj a9 (aj a9 (aj a9 (aj a9 (aj a9 (ag a9 (u2 (k2 (k5 (k5 (aj t3 (u2 t2)))))))))))))))))))))))))))))) (al t3))
theorem sSt_ct (n : NetD) (u : List UnD) (t : List TkD) (k : Int) (r : Ret) (h : MReach (sStStep n u t k) (sStEn n u t k) r) : CT Try.prog 21 ([]) ([netA n, .lst (u.map unA), .lst (t.map tkA), .int .i64 k]) r.1 r.2 :=
  CT.mach (fn := Try.f21) (c := bodyOf Try.f21) (S := sStSt n u t k) (hd := sStHd) Try.func21 (by kernel_rfl) (Nat.le_of_ble_eq_true rfl)
    (fun s o ho => match s, ho with
      | x, _ => x.elim)
    (fun o ho => sStEn_ok n u t k o ho) h
noncomputable def sNdSt (n : NetD) (t : List TkD) (k sp : Int) : Empty → St
  | x => x.elim
def sNdHd : Empty → Nat
  | x => x.elim
noncomputable def sNdEn (n : NetD) (t : List TkD) (k sp : Int) : Option (Empty ⊕ Ret) :=
  gu (Rows n.nx) <|
  br (!consB n [] t)
  (some (.inr ([], AV.tup [AV.bool false, AV.int IntKind.i64 20])))
  (br (decide (k < 0))
   (some (.inr ([], AV.tup [AV.bool false, AV.int IntKind.i64 19])))
   (br (decide (iN (List.map tkA t).length ≤ k))
    (some (.inr ([], AV.tup [AV.bool false, AV.int IntKind.i64 19])))
    (br (decide (sp < 0))
     (some (.inr ([], AV.tup [AV.bool false, AV.int IntKind.i64 19])))
     (br (decide (iN (List.map sA n.ss).length ≤ sp))
      (some (.inr ([], AV.tup [AV.bool false, AV.int IntKind.i64 19])))
      (gu (0 ≤ k) <|
       el (t) (k.toNat) fun (x38 : TkD) =>
       br (x38.sta == 0)
       (br (sp == x38.pk)
        (some (.inr ([], AV.tup [AV.bool true, AV.int IntKind.i64 0])))
        (some (.inr ([], AV.tup [AV.bool (sp == x38.dr), AV.int IntKind.i64 0]))))
       (br (x38.sta == 1)
        (br (sp == x38.pk)
         (some (.inr ([], AV.tup [AV.bool true, AV.int IntKind.i64 0])))
         (some (.inr ([], AV.tup [AV.bool (sp == x38.dr), AV.int IntKind.i64 0]))))
        (br (x38.sta == 2)
         (some (.inr ([], AV.tup [AV.bool (sp == x38.dr), AV.int IntKind.i64 0])))
         (some (.inr ([], AV.tup [AV.bool false, AV.int IntKind.i64 0]))))))))))
noncomputable def sNdStep (n : NetD) (t : List TkD) (k sp : Int) : Empty → Option (Empty ⊕ Ret)
  | x => x.elim
theorem sNdEn_ok (n : NetD) (t : List TkD) (k sp : Int) (o : Empty ⊕ Ret) (h : sNdEn n t k sp = some o) : Arr Try.prog Try.f23 0 (sNdSt n t k sp) sNdHd (bodyOf Try.f23) [] { n := Try.f23.ntmps, fr := enumF 0 ([netA n, .lst (t.map tkA), .int .i64 k, .int .i64 sp]), hp := ([]) } o := by
 unfold sNdEn at h
 obtain ⟨a0, h⟩ := gu_inv h
 rcases br_inv h with ⟨a1, h⟩ | ⟨a1, h⟩
 ·
  cases h
  exact Arr.rt [23] [] [(14, hc (AV.bool (consB n [] t)))] [] [] [] mix (by kernel_rfl) (aj (aj (u2 t3) (aj (u2 (u2 (aj (k2 (aj t9 (k2 (al (show CT Try.prog 67 [] [AV.agg [AV.lst (List.map bA n.bs), AV.lst (gL n.nx), AV.lst (List.map sA n.ss), AV.lst (List.map (iv) n.rs), iv n.q, iv n.a, iv n.d, iv n.p], AV.nils, AV.lst (List.map tkA t)] [] (AV.bool (consB n [] t)) from CT.nilArgs (cons_ct a0 ([]) (t)) rfl))))) (u2 s2)))) (aj a1 (al t3)))) (al t3))
 ·
  rcases br_inv h with ⟨a2, h⟩ | ⟨a2, h⟩
  ·
   cases h
   exact Arr.rt [22, 39] [] [(14, hc (AV.bool (consB n [] t)))] [] [] [] mix (by kernel_rfl) (aj (aj (u2 t3) (aj (u2 (u2 (aj (k2 (aj t9 (k2 (al (show CT Try.prog 67 [] [AV.agg [AV.lst (List.map bA n.bs), AV.lst (gL n.nx), AV.lst (List.map sA n.ss), AV.lst (List.map (iv) n.rs), iv n.q, iv n.a, iv n.d, iv n.p], AV.nils, AV.lst (List.map tkA t)] [] (AV.bool (consB n [] t)) from CT.nilArgs (cons_ct a0 ([]) (t)) rfl))))) (u2 s2)))) (aj a1 (aj (u2 (u2 (u2 (aj a2 (aj a2 (aj a2 (aj a2 (ag a2 (u2 (k2 (aj t3 (u2 (k5 (aj t3 s2)))))))))))))) (ak (al t3)))))) (al t3))
  ·
   rcases br_inv h with ⟨a3, h⟩ | ⟨a3, h⟩
   ·
    cases h
    exact Arr.rt [22, 38, 51] [] [(14, hc (AV.bool (consB n [] t)))] [] [] [] mix (by kernel_rfl) (aj (aj (u2 t3) (aj (u2 (u2 (aj (k2 (aj t9 (k2 (al (show CT Try.prog 67 [] [AV.agg [AV.lst (List.map bA n.bs), AV.lst (gL n.nx), AV.lst (List.map sA n.ss), AV.lst (List.map (iv) n.rs), iv n.q, iv n.a, iv n.d, iv n.p], AV.nils, AV.lst (List.map tkA t)] [] (AV.bool (consB n [] t)) from CT.nilArgs (cons_ct a0 ([]) (t)) rfl))))) (u2 s2)))) (aj a1 (aj (u2 (u2 (u2 (ag a2 (ag a2 (ag a2 (aj (aj a2 t3) (ag a2 (u2 (aj a3 (aj a3 (ag a3 (u2 (k5 (aj t3 s2))))))))))))))) (ak (al t3)))))) (al t3))
   ·
    rcases br_inv h with ⟨a4, h⟩ | ⟨a4, h⟩
    ·
     cases h
     exact Arr.rt [22, 38, 50, 59] [] [(14, hc (AV.bool (consB n [] t)))] [] [] [] mix (by kernel_rfl) (aj (aj (u2 t3) (aj (u2 (u2 (aj (k2 (aj t9 (k2 (al (show CT Try.prog 67 [] [AV.agg [AV.lst (List.map bA n.bs), AV.lst (gL n.nx), AV.lst (List.map sA n.ss), AV.lst (List.map (iv) n.rs), iv n.q, iv n.a, iv n.d, iv n.p], AV.nils, AV.lst (List.map tkA t)] [] (AV.bool (consB n [] t)) from CT.nilArgs (cons_ct a0 ([]) (t)) rfl))))) (u2 s2)))) (aj a1 (aj (u2 (u2 (u2 (ag a2 (ag a2 (ag a2 (aj (aj a2 t3) (ag a2 (u2 (ag a3 (ag a3 (ag a3 (u2 (aj a4 (aj a4 (aj a4 (aj a4 (aj a4 (ag a4 s2))))))))))))))))))) (ak (al t3)))))) (al t3))
    ·
     rcases br_inv h with ⟨a5, h⟩ | ⟨a5, h⟩
     ·
      cases h
      exact Arr.rt [22, 38, 50, 58, 33] [] [(14, hc (AV.bool (consB n [] t)))] [] [] [] mix (by kernel_rfl) (aj (aj (u2 t3) (aj (u2 (u2 (aj (k2 (aj t9 (k2 (al (show CT Try.prog 67 [] [AV.agg [AV.lst (List.map bA n.bs), AV.lst (gL n.nx), AV.lst (List.map sA n.ss), AV.lst (List.map (iv) n.rs), iv n.q, iv n.a, iv n.d, iv n.p], AV.nils, AV.lst (List.map tkA t)] [] (AV.bool (consB n [] t)) from CT.nilArgs (cons_ct a0 ([]) (t)) rfl))))) (u2 s2)))) (aj a1 (aj (u2 (u2 (u2 (ag a2 (ag a2 (ag a2 (aj (aj a2 t3) (ag a2 (u2 (ag a3 (ag a3 (ag a3 (u2 (ag a4 (ag a4 (ag a4 (ag a4 (aj (aj a4 t3) (ag a4 s2))))))))))))))))))) (aj a5 (al t3)))))) (al t3))
     ·
      obtain ⟨a6, h⟩ := gu_inv h
      obtain ⟨x38, a7, h⟩ := el_inv h
      rcases br_inv h with ⟨a8, h⟩ | ⟨a8, h⟩
      ·
       rcases br_inv h with ⟨a9, h⟩ | ⟨a9, h⟩
       ·
        cases h
        exact Arr.rt [22, 38, 50, 58, 32, 85, 99] [(38, tkA x38)] [(14, hc (AV.bool (consB n [] t)))] [] [] [] mix (by kernel_rfl) (aj (aj (u2 t3) (aj (u2 (u2 (aj (k2 (aj t9 (k2 (al (show CT Try.prog 67 [] [AV.agg [AV.lst (List.map bA n.bs), AV.lst (gL n.nx), AV.lst (List.map sA n.ss), AV.lst (List.map (iv) n.rs), iv n.q, iv n.a, iv n.d, iv n.p], AV.nils, AV.lst (List.map tkA t)] [] (AV.bool (consB n [] t)) from CT.nilArgs (cons_ct a0 ([]) (t)) rfl))))) (u2 s2)))) (aj a1 (aj (u2 (u2 (u2 (ag a2 (ag a2 (ag a2 (aj (aj a2 t3) (ag a2 (u2 (ag a3 (ag a3 (ag a3 (u2 (ag a4 (ag a4 (ag a4 (ag a4 (aj (aj a4 t3) (ag a4 s2))))))))))))))))))) (aj a5 (aj (u2 (u2 (aj (k2 (aj a6 (getMap (f := tkA) a7))) (u2 (ak (al (k2 n11))))))) (aj (u2 s2) (aj (u2 s2) (aj a8 (ak (al (u2 (u2 (u2 (aj t3 (u2 (aj a9 (aj a9 (aj a9 (aj a9 (ag a9 (u2 t2)))))))))))))))))))))) (al t3))
       ·
        cases h
        exact Arr.rt [22, 38, 50, 58, 32, 85, 98] [(38, tkA x38)] [(14, hc (AV.bool (consB n [] t)))] [] [] [] mix (by kernel_rfl) (aj (aj (u2 t3) (aj (u2 (u2 (aj (k2 (aj t9 (k2 (al (show CT Try.prog 67 [] [AV.agg [AV.lst (List.map bA n.bs), AV.lst (gL n.nx), AV.lst (List.map sA n.ss), AV.lst (List.map (iv) n.rs), iv n.q, iv n.a, iv n.d, iv n.p], AV.nils, AV.lst (List.map tkA t)] [] (AV.bool (consB n [] t)) from CT.nilArgs (cons_ct a0 ([]) (t)) rfl))))) (u2 s2)))) (aj a1 (aj (u2 (u2 (u2 (ag a2 (ag a2 (ag a2 (aj (aj a2 t3) (ag a2 (u2 (ag a3 (ag a3 (ag a3 (u2 (ag a4 (ag a4 (ag a4 (ag a4 (aj (aj a4 t3) (ag a4 s2))))))))))))))))))) (aj a5 (aj (u2 (u2 (aj (k2 (aj a6 (getMap (f := tkA) a7))) (u2 (ak (al (k2 n11))))))) (aj (u2 s2) (aj (u2 s2) (aj a8 (ak (al (u2 (u2 (u2 (aj t3 (u2 (ag a9 (ag a9 (ag a9 (aj (aj a9 t3) (ag a9 (u2 t2)))))))))))))))))))))) (al t3))
      ·
       rcases br_inv h with ⟨a9, h⟩ | ⟨a9, h⟩
       ·
        rcases br_inv h with ⟨a10, h⟩ | ⟨a10, h⟩
        ·
         cases h
         exact Arr.rt [22, 38, 50, 58, 32, 84, 85, 99] [(38, tkA x38)] [(14, hc (AV.bool (consB n [] t)))] [] [] [] mix (by kernel_rfl) (aj (aj (u2 t3) (aj (u2 (u2 (aj (k2 (aj t9 (k2 (al (show CT Try.prog 67 [] [AV.agg [AV.lst (List.map bA n.bs), AV.lst (gL n.nx), AV.lst (List.map sA n.ss), AV.lst (List.map (iv) n.rs), iv n.q, iv n.a, iv n.d, iv n.p], AV.nils, AV.lst (List.map tkA t)] [] (AV.bool (consB n [] t)) from CT.nilArgs (cons_ct a0 ([]) (t)) rfl))))) (u2 s2)))) (aj a1 (aj (u2 (u2 (u2 (ag a2 (ag a2 (ag a2 (aj (aj a2 t3) (ag a2 (u2 (ag a3 (ag a3 (ag a3 (u2 (ag a4 (ag a4 (ag a4 (ag a4 (aj (aj a4 t3) (ag a4 s2))))))))))))))))))) (aj a5 (aj (u2 (u2 (aj (k2 (aj a6 (getMap (f := tkA) a7))) (u2 (ak (al (k2 n11))))))) (aj (u2 s2) (aj (u2 s2) (aj a8 (aj (u2 s2) (aj a9 (al (u2 (u2 (u2 (aj t3 (u2 (aj a10 (aj a10 (aj a10 (aj a10 (ag a10 (u2 t2))))))))))))))))))))))) (al t3))
        ·
         cases h
         exact Arr.rt [22, 38, 50, 58, 32, 84, 85, 98] [(38, tkA x38)] [(14, hc (AV.bool (consB n [] t)))] [] [] [] mix (by kernel_rfl) (aj (aj (u2 t3) (aj (u2 (u2 (aj (k2 (aj t9 (k2 (al (show CT Try.prog 67 [] [AV.agg [AV.lst (List.map bA n.bs), AV.lst (gL n.nx), AV.lst (List.map sA n.ss), AV.lst (List.map (iv) n.rs), iv n.q, iv n.a, iv n.d, iv n.p], AV.nils, AV.lst (List.map tkA t)] [] (AV.bool (consB n [] t)) from CT.nilArgs (cons_ct a0 ([]) (t)) rfl))))) (u2 s2)))) (aj a1 (aj (u2 (u2 (u2 (ag a2 (ag a2 (ag a2 (aj (aj a2 t3) (ag a2 (u2 (ag a3 (ag a3 (ag a3 (u2 (ag a4 (ag a4 (ag a4 (ag a4 (aj (aj a4 t3) (ag a4 s2))))))))))))))))))) (aj a5 (aj (u2 (u2 (aj (k2 (aj a6 (getMap (f := tkA) a7))) (u2 (ak (al (k2 n11))))))) (aj (u2 s2) (aj (u2 s2) (aj a8 (aj (u2 s2) (aj a9 (al (u2 (u2 (u2 (aj t3 (u2 (ag a10 (ag a10 (ag a10 (aj (aj a10 t3) (ag a10 (u2 t2))))))))))))))))))))))) (al t3))
       ·
        rcases br_inv h with ⟨a10, h⟩ | ⟨a10, h⟩
        ·
         cases h
         exact Arr.rt [22, 38, 50, 58, 32, 84, 84, 111] [(38, tkA x38)] [(14, hc (AV.bool (consB n [] t)))] [] [] [] mix (by kernel_rfl) (aj (aj (u2 t3) (aj (u2 (u2 (aj (k2 (aj t9 (k2 (al (show CT Try.prog 67 [] [AV.agg [AV.lst (List.map bA n.bs), AV.lst (gL n.nx), AV.lst (List.map sA n.ss), AV.lst (List.map (iv) n.rs), iv n.q, iv n.a, iv n.d, iv n.p], AV.nils, AV.lst (List.map tkA t)] [] (AV.bool (consB n [] t)) from CT.nilArgs (cons_ct a0 ([]) (t)) rfl))))) (u2 s2)))) (aj a1 (aj (u2 (u2 (u2 (ag a2 (ag a2 (ag a2 (aj (aj a2 t3) (ag a2 (u2 (ag a3 (ag a3 (ag a3 (u2 (ag a4 (ag a4 (ag a4 (ag a4 (aj (aj a4 t3) (ag a4 s2))))))))))))))))))) (aj a5 (aj (u2 (u2 (aj (k2 (aj a6 (getMap (f := tkA) a7))) (u2 (ak (al (k2 n11))))))) (aj (u2 s2) (aj (u2 s2) (aj a8 (aj (u2 s2) (aj a9 (aj (u2 s2) (aj a10 (al (u2 (u2 (u2 (aj t3 (u2 t2))))))))))))))))))) (al t3))
        ·
         cases h
         exact Arr.rt [22, 38, 50, 58, 32, 84, 84, 110] [(38, tkA x38)] [(14, hc (AV.bool (consB n [] t)))] [] [] [] mix (by kernel_rfl) (aj (aj (u2 t3) (aj (u2 (u2 (aj (k2 (aj t9 (k2 (al (show CT Try.prog 67 [] [AV.agg [AV.lst (List.map bA n.bs), AV.lst (gL n.nx), AV.lst (List.map sA n.ss), AV.lst (List.map (iv) n.rs), iv n.q, iv n.a, iv n.d, iv n.p], AV.nils, AV.lst (List.map tkA t)] [] (AV.bool (consB n [] t)) from CT.nilArgs (cons_ct a0 ([]) (t)) rfl))))) (u2 s2)))) (aj a1 (aj (u2 (u2 (u2 (ag a2 (ag a2 (ag a2 (aj (aj a2 t3) (ag a2 (u2 (ag a3 (ag a3 (ag a3 (u2 (ag a4 (ag a4 (ag a4 (ag a4 (aj (aj a4 t3) (ag a4 s2))))))))))))))))))) (aj a5 (aj (u2 (u2 (aj (k2 (aj a6 (getMap (f := tkA) a7))) (u2 (ak (al (k2 n11))))))) (aj (u2 s2) (aj (u2 s2) (aj a8 (aj (u2 s2) (aj a9 (aj (u2 s2) (aj a10 (al t3)))))))))))))) (al t3))
theorem sNd_ct (n : NetD) (t : List TkD) (k sp : Int) (r : Ret) (h : MReach (sNdStep n t k sp) (sNdEn n t k sp) r) : CT Try.prog 23 ([]) ([netA n, .lst (t.map tkA), .int .i64 k, .int .i64 sp]) r.1 r.2 :=
  CT.mach (fn := Try.f23) (c := bodyOf Try.f23) (S := sNdSt n t k sp) (hd := sNdHd) Try.func23 (by kernel_rfl) (Nat.le_of_ble_eq_true rfl)
    (fun s o ho => match s, ho with
      | x, _ => x.elim)
    (fun o ho => sNdEn_ok n t k sp o ho) h
noncomputable def sTfSt (n : NetD) (u : List UnD) (t : List TkD) : Empty → St
  | x => x.elim
def sTfHd : Empty → Nat
  | x => x.elim
noncomputable def sTfEn (n : NetD) (u : List UnD) (t : List TkD) : Option (Empty ⊕ Ret) :=
  gu (Rows n.nx) <|
  br (!consB n u t)
  (some (.inr ([], AV.tup [AV.nils, AV.int IntKind.i64 20])))
  (gu (ValidN n) <|
   gu (u.length ≤ 8) <|
   gu (∀ (x : UnD), x ∈ u → consU n t.length x = true) <|
   gu (iN (List.map sA n.ss).length ≤ 6) <|
   gu (0 + ((List.map sA n.ss).length - Int.toNat 0) ≤ [AV.int IntKind.i64 (gO n u t n.ss.length 0), AV.int IntKind.i64 (gO n u t n.ss.length 1), AV.int IntKind.i64 (gO n u t n.ss.length 2), AV.int IntKind.i64 (gO n u t n.ss.length 3), AV.int IntKind.i64 (gO n u t n.ss.length 4), AV.int IntKind.i64 (gO n u t n.ss.length 5)].length) <|
   gu ((List.take ((List.map sA n.ss).length - Int.toNat 0) [AV.int IntKind.i64 (gO n u t n.ss.length 0), AV.int IntKind.i64 (gO n u t n.ss.length 1), AV.int IntKind.i64 (gO n u t n.ss.length 2), AV.int IntKind.i64 (gO n u t n.ss.length 3), AV.int IntKind.i64 (gO n u t n.ss.length 4), AV.int IntKind.i64 (gO n u t n.ss.length 5)]).length ≤ 9223372036854775807) <|
   gu ((List.take ((List.map sA n.ss).length - Int.toNat 0) [AV.int IntKind.i64 (gO n u t n.ss.length 0), AV.int IntKind.i64 (gO n u t n.ss.length 1), AV.int IntKind.i64 (gO n u t n.ss.length 2), AV.int IntKind.i64 (gO n u t n.ss.length 3), AV.int IntKind.i64 (gO n u t n.ss.length 4), AV.int IntKind.i64 (gO n u t n.ss.length 5)]).length * 8 ≤ 140737488355328) <|
   some (.inr ([some (Blk.mk (List.take ((List.map sA n.ss).length - Int.toNat 0) [AV.int IntKind.i64 (gO n u t n.ss.length 0), AV.int IntKind.i64 (gO n u t n.ss.length 1), AV.int IntKind.i64 (gO n u t n.ss.length 2), AV.int IntKind.i64 (gO n u t n.ss.length 3), AV.int IntKind.i64 (gO n u t n.ss.length 4), AV.int IntKind.i64 (gO n u t n.ss.length 5)]) 1 true true none)], AV.tup [AV.sl 0 0 (List.take ((List.map sA n.ss).length - Int.toNat 0) [AV.int IntKind.i64 (gO n u t n.ss.length 0), AV.int IntKind.i64 (gO n u t n.ss.length 1), AV.int IntKind.i64 (gO n u t n.ss.length 2), AV.int IntKind.i64 (gO n u t n.ss.length 3), AV.int IntKind.i64 (gO n u t n.ss.length 4), AV.int IntKind.i64 (gO n u t n.ss.length 5)]).length, AV.int IntKind.i64 0])))
noncomputable def sTfStep (n : NetD) (u : List UnD) (t : List TkD) : Empty → Option (Empty ⊕ Ret)
  | x => x.elim
theorem sTfEn_ok (n : NetD) (u : List UnD) (t : List TkD) (o : Empty ⊕ Ret) (h : sTfEn n u t = some o) : Arr Try.prog Try.f19 0 (sTfSt n u t) sTfHd (bodyOf Try.f19) [] { n := Try.f19.ntmps, fr := enumF 0 ([netA n, .lst (u.map unA), .lst (t.map tkA)]), hp := ([]) } o := by
 unfold sTfEn at h
 obtain ⟨a0, h⟩ := gu_inv h
 rcases br_inv h with ⟨a1, h⟩ | ⟨a1, h⟩
 ·
  cases h
  exact Arr.rt [27] [] [(12, hc (AV.bool (consB n u t)))] [] [] [] mix (by kernel_rfl) (aj (aj (u2 t3) (aj (u2 (u2 (u2 (aj (k3 (aj t9 (k2 (al (cons_ct a0 (u) (t)))))) s2)))) (aj a1 (al t3)))) (al t3))
 ·
  obtain ⟨a2, h⟩ := gu_inv h
  obtain ⟨a3, h⟩ := gu_inv h
  obtain ⟨a4, h⟩ := gu_inv h
  obtain ⟨a5, h⟩ := gu_inv h
  obtain ⟨a6, h⟩ := gu_inv h
  obtain ⟨a7, h⟩ := gu_inv h
  obtain ⟨a8, h⟩ := gu_inv h
  cases h
  exact Arr.rt [26] [] [(12, hc (AV.bool (consB n u t))), (17, hc (arr6 (gO n u t n.ss.length)))] [(4, 1)] [2] [] mix (by kernel_rfl) (aj (aj (u2 t3) (aj (u2 (u2 (u2 (aj (k3 (aj t9 (k2 (al (cons_ct a0 (u) (t)))))) s2)))) (aj a1 (aj (u2 (u2 (u2 (aj (k3 (aj t9 (k2 (al (taken_ct a2 (u) (t) a3 a4))))) (ak (al (k2 n11))))))) (al (u2 (u2 (u2 (aj (k2 (aj (aj (show (0 : Int) ≤ (0 : Int) from (by first | exact Nat.le_of_ble_eq_true rfl | decide)) (aj (show 0 ≤ iN (List.map sA n.ss).length from (Int.natCast_nonneg _)) (aj a5 (show (6 : Int) ≤ (6 : Int) from (by first | exact Nat.le_of_ble_eq_true rfl | decide))))) (show 6 ≤ [iv (gO n u t n.ss.length 0), iv (gO n u t n.ss.length 1), iv (gO n u t n.ss.length 2), iv (gO n u t n.ss.length 3), iv (gO n u t n.ss.length 4), iv (gO n u t n.ss.length 5)].length by simp))) (aj (ak (aj (aj (show nat_lit 1 = nat_lit 1 from rfl) a6) (aj a7 a8))) (u2 t2))))))))))) (aj t3 t2))
theorem sTf_ct (n : NetD) (u : List UnD) (t : List TkD) (r : Ret) (h : MReach (sTfStep n u t) (sTfEn n u t) r) : CT Try.prog 19 ([]) ([netA n, .lst (u.map unA), .lst (t.map tkA)]) r.1 r.2 :=
  CT.mach (fn := Try.f19) (c := bodyOf Try.f19) (S := sTfSt n u t) (hd := sTfHd) Try.func19 (by kernel_rfl) (Nat.le_of_ble_eq_true rfl)
    (fun s o ho => match s, ho with
      | x, _ => x.elim)
    (fun o ho => sTfEn_ok n u t o ho) h
structure ConsP (n : NetD) (u : List UnD) (t : List TkD) : Prop where
  v : ValidN n
  u8 : u.length ≤ 8
  t32 : t.length ≤ 32
  u : ∀ x ∈ u, consU n t.length x = true
  t : ∀ x ∈ t, stB n x.pk = true ∧ stB n x.dr = true
theorem consB_iff {n : NetD} {u : List UnD} {t : List TkD} (h : consB n u t = true) : ConsP n u t := by
  unfold consB at h
  simp only [Bool.and_eq_true, decide_eq_true_eq, List.all_eq_true] at h
  obtain ⟨⟨⟨⟨h1, h2⟩, h3⟩, h4⟩, h5⟩ := h
  exact ⟨valB_iff.1 h1, h2, h3, h5, fun x hx => by have := h4 x hx; unfold consT at this; simpa using this⟩
theorem stB_some {n : NetD} {sp : Int} (h : stB n sp = true) : ∃ (i : Nat) (s : SpuD), sp = (i : Int) ∧ n.ss[i]? = some s ∧ s.dep = false := by
  unfold stB at h
  simp only [Bool.and_eq_true, decide_eq_true_eq] at h
  obtain ⟨h0, h1⟩ := h
  split at h1
  · rename_i s hs; exact ⟨sp.toNat, s, by omega, hs, by simpa using h1⟩
  · cases h1
theorem gO_six (n : NetD) (u : List UnD) (t : List TkD) (hn : n.ss.length ≤ 6) : List.take (n.ss.length) [gO n u t n.ss.length 0, gO n u t n.ss.length 1, gO n u t n.ss.length 2, gO n u t n.ss.length 3, gO n u t n.ss.length 4, gO n u t n.ss.length 5] = cntL n u t := by
  apply List.ext_getElem
  · simp [cntL]; omega
  · intro i h1 h2
    have hi : i < n.ss.length := by simpa [cntL] using h2
    simp only [List.getElem_take, cntL, List.getElem_map, List.getElem_range]
    have h := six (gO n u t n.ss.length) i (by omega)
    obtain ⟨h3, h4⟩ := List.getElem?_eq_some_iff.1 h
    rw [h4]; unfold gO; rw [if_pos hi]
def tkF (n : NetD) (u : List UnD) (t : List TkD) (sp : Int) : Bool := match n.ss[sp.toNat]? with | some s => decide ((tcn n u t sp.toNat : Int) < s.k) | none => false
def canB (n : NetD) (u : List UnD) (t : List TkD) (x : TkD) : Bool := x.sta == 0 && (tkF n u t x.pk && tkF n u t x.dr)
noncomputable def staB (n : NetD) (u : List UnD) (t : List TkD) (k : Int) : Bool := consB n u t && decide (0 ≤ k) && match t[k.toNat]? with | some x => canB n u t x | none => false
noncomputable def staE (n : NetD) (u : List UnD) (t : List TkD) (k : Int) : Int := if consB n u t = true then (if k < 0 ∨ (t.length : Int) ≤ k then 19 else 0) else 20
theorem gO_at {n : NetD} {u : List UnD} {t : List TkD} (hn : n.ss.length ≤ 6) {i : Nat} (hi : i < n.ss.length) : [gO n u t n.ss.length 0, gO n u t n.ss.length 1, gO n u t n.ss.length 2, gO n u t n.ss.length 3, gO n u t n.ss.length 4, gO n u t n.ss.length 5][0 + (i : Int).toNat * 1]? = some (tcn n u t i : Int) := by
  rw [show 0 + (i : Int).toNat * 1 = i by simp, six (gO n u t n.ss.length) i (by omega)]
  unfold gO; rw [if_pos hi]
theorem tkF_at {n : NetD} {u : List UnD} {t : List TkD} {i : Nat} {s : SpuD} (hs : n.ss[i]? = some s) : tkF n u t (i : Int) = decide ((tcn n u t i : Int) < s.k) := by
  unfold tkF; rw [Int.toNat_natCast, hs]
theorem sStart_ct {n : NetD} (hrw : Rows n.nx) (u : List UnD) (t : List TkD) (k : Int) : CT Try.prog 21 [] [netA n, .lst (u.map unA), .lst (t.map tkA), .int .i64 k] [] (.tup [.bool (staB n u t k), .int .i64 (staE n u t k)]) := by
  refine sSt_ct n u t k ([], _) (.val ?_)
  unfold sStEn staB staE
  rw [gu_t hrw]
  cases hc : consB n u t with
  | false => rfl
  | true =>
    have c := consB_iff hc
    have ns := c.v.ns
    rw [br_f (by rfl), if_pos rfl]
    by_cases h0 : k < 0
    · rw [br_t (dec_t h0), if_pos (.inl h0), dec_f (by omega)]; rfl
    by_cases h1 : (t.length : Int) ≤ k
    · rw [br_f (dec_f h0), br_t (dec_t (by simpa [iN] using h1)), if_pos (.inr h1), List.getElem?_eq_none (by omega)]; simp
    have hl : k.toNat < t.length := by omega
    obtain ⟨x, hx⟩ : ∃ x, t[k.toNat]? = some x := ⟨_, List.getElem?_eq_getElem hl⟩
    rw [br_f (dec_f h0), br_f (dec_f (by simpa [iN] using h1)), if_neg (by omega), gu_t c.v, gu_t c.u8, gu_t c.u, gu_t (by omega), el_t hx, hx, dec_t (show 0 ≤ k by omega)]
    simp only [Bool.true_and]
    unfold canB
    cases x.sta == 0 with
    | false => rfl
    | true =>
      obtain ⟨ht1, ht2⟩ := c.t x (List.mem_of_getElem? hx)
      obtain ⟨i, s, e1, hs, _⟩ := stB_some ht1
      obtain ⟨j, s', e2, hs', _⟩ := stB_some ht2
      have hi := (List.getElem?_eq_some_iff.1 hs).1
      have hj := (List.getElem?_eq_some_iff.1 hs').1
      rw [e1, e2, tkF_at hs, tkF_at hs', br_t rfl, gu_t (by omega), gu_t (by omega), el_t (gO_at ns hi), Int.toNat_natCast, el_t hs]
      by_cases h : (tcn n u t i : Int) < s.k
      · rw [br_t (dec_t h), gu_t (by omega), gu_t (by omega), el_t (gO_at ns hj), Int.toNat_natCast, el_t hs', dec_t h]; rfl
      · rw [br_f (dec_f h), dec_f h]; rfl
theorem cntL_at {n : NetD} {u : List UnD} {t : List TkD} {i : Nat} (hi : i < n.ss.length) : (cntL n u t)[i]? = some (tcn n u t i : Int) := by simp [cntL, hi]
noncomputable def nedB (n : NetD) (t : List TkD) (k sp : Int) : Bool := consB n [] t && decide (0 ≤ k) && (decide (0 ≤ sp) && decide (sp < n.ss.length)) && match t[k.toNat]? with | some x => needB x sp | none => false
noncomputable def nedE (n : NetD) (t : List TkD) (k sp : Int) : Int := if consB n [] t = true then (if k < 0 ∨ (t.length : Int) ≤ k ∨ sp < 0 ∨ (n.ss.length : Int) ≤ sp then 19 else 0) else 20
theorem need_bits (a b c d e : Bool) : br a (br d (some (.inr ([], AV.tup [AV.bool true, AV.int IntKind.i64 0])) : Option (Empty ⊕ Ret)) (some (.inr ([], AV.tup [AV.bool e, AV.int IntKind.i64 0])))) (br b (br d (some (.inr ([], AV.tup [AV.bool true, AV.int IntKind.i64 0]))) (some (.inr ([], AV.tup [AV.bool e, AV.int IntKind.i64 0])))) (br c (some (.inr ([], AV.tup [AV.bool e, AV.int IntKind.i64 0]))) (some (.inr ([], AV.tup [AV.bool false, AV.int IntKind.i64 0]))))) = some (.inr ([], .tup [.bool (((a || b) && (d || e)) || (c && e)), .int .i64 0])) := by
  cases a <;> cases b <;> cases c <;> cases d <;> cases e <;> rfl
theorem sNeeds_ct {n : NetD} (hrw : Rows n.nx) (t : List TkD) (k sp : Int) : CT Try.prog 23 [] [netA n, .lst (t.map tkA), .int .i64 k, .int .i64 sp] [] (.tup [.bool (nedB n t k sp), .int .i64 (nedE n t k sp)]) := by
  refine sNd_ct n t k sp ([], _) (.val ?_)
  unfold sNdEn nedB nedE
  rw [gu_t hrw]
  cases hc : consB n [] t with
  | false => rfl
  | true =>
    rw [br_f (by rfl), if_pos rfl]
    by_cases h0 : k < 0
    · rw [br_t (dec_t h0), if_pos (.inl h0), dec_f (by omega)]; rfl
    rw [br_f (dec_f h0)]
    by_cases h1 : (t.length : Int) ≤ k
    · rw [br_t (dec_t (by simpa [iN] using h1)), if_pos (.inr (.inl h1)), List.getElem?_eq_none (by omega)]; simp
    rw [br_f (dec_f (by simpa [iN] using h1))]
    by_cases h2 : sp < 0
    · rw [br_t (dec_t h2), if_pos (.inr (.inr (.inl h2))), dec_f (show ¬ 0 ≤ sp by omega)]; simp
    rw [br_f (dec_f h2)]
    by_cases h3 : (n.ss.length : Int) ≤ sp
    · rw [br_t (dec_t (by simpa [iN] using h3)), if_pos (.inr (.inr (.inr h3))), dec_f (show ¬ sp < n.ss.length by omega)]; simp
    have hl : k.toNat < t.length := by omega
    obtain ⟨x, hx⟩ : ∃ x, t[k.toNat]? = some x := ⟨_, List.getElem?_eq_getElem hl⟩
    rw [br_f (dec_f (by simpa [iN] using h3)), if_neg (by omega), gu_t (by omega), el_t hx, hx, dec_t (show 0 ≤ k by omega), dec_t (show 0 ≤ sp by omega), dec_t (show sp < n.ss.length by omega)]
    simp only [Bool.true_and]
    unfold needB
    rw [beqc sp x.pk, beqc sp x.dr]
    exact need_bits _ _ _ _ _
theorem net_exP (L : List Int) (kk : Nat) (most : Int) : ∃ p : NetD × Nat, kk ≤ 5000 → (1 ≤ most ∧ most ≤ 20) → NetOk p.1 ∧ p.2 ≤ kk + 200 ∧ CT Try.prog 26 [some (tapeB L kk)] [.ptr 0 0 0, .int .i64 most] [some (tapeB L p.2)] (netA p.1) := by
  by_cases h : kk ≤ 5000 ∧ (1 ≤ most ∧ most ≤ 20)
  · obtain ⟨n, k, a, b, c⟩ := net_ex L kk h.1 most h.2
    exact ⟨(n, k), fun _ _ => ⟨a, b, c⟩⟩
  · exact ⟨(⟨[], [], [], [], 0, 0, 0, 0⟩, 0), fun a b => absurd ⟨a, b⟩ h⟩
@[irreducible] noncomputable def netM (L : List Int) (kk : Nat) (most : Int) : NetD := (Classical.choose (net_exP L kk most)).1
@[irreducible] noncomputable def netK (L : List Int) (kk : Nat) (most : Int) : Nat := (Classical.choose (net_exP L kk most)).2
theorem net_spec {L : List Int} {kk : Nat} {most : Int} (h : kk ≤ 5000) (hm : 1 ≤ most ∧ most ≤ 20) : NetOk (netM L kk most) ∧ netK L kk most ≤ kk + 200 ∧ CT Try.prog 26 [some (tapeB L kk)] [.ptr 0 0 0, .int .i64 most] [some (tapeB L (netK L kk most))] (netA (netM L kk most)) :=
  by unfold netM netK; exact Classical.choose_spec (net_exP L kk most) h hm
theorem net_ct (L : List Int) (kk : Nat) (most : Int) (h : kk ≤ 5000) (hm : 1 ≤ most ∧ most ≤ 20) : CT Try.prog 26 [some (tapeB L kk)] [.ptr 0 0 0, .int .i64 most] [some (tapeB L (netK L kk most))] (netA (netM L kk most)) := (net_spec h hm).2.2
theorem sTakenF_ct (n : NetD) (u : List UnD) (t : List TkD) (hrw : Rows n.nx) (hc : consB n u t = true) : CT Try.prog 19 [] [netA n, .lst (u.map unA), .lst (t.map tkA)] [some (dB (cntL n u t))] (.tup [.sl 0 0 (cntL n u t).length, .int .i64 0]) := by
  have c := consB_iff hc
  have ns := c.v.ns
  refine sTf_ct n u t ([some (dB (cntL n u t))], .tup [.sl 0 0 (cntL n u t).length, .int .i64 0]) (.val ?_)
  have e := gO_six n u t ns
  have e2 : List.take ((List.map sA n.ss).length - Int.toNat 0) [AV.int IntKind.i64 (gO n u t n.ss.length 0), AV.int IntKind.i64 (gO n u t n.ss.length 1), AV.int IntKind.i64 (gO n u t n.ss.length 2), AV.int IntKind.i64 (gO n u t n.ss.length 3), AV.int IntKind.i64 (gO n u t n.ss.length 4), AV.int IntKind.i64 (gO n u t n.ss.length 5)] = (cntL n u t).map (AV.int .i64) := by
    rw [← e, List.map_take]; simp
  unfold sTfEn
  rw [gu_t hrw, br_f (by rw [hc]; rfl), gu_t c.v, gu_t c.u8, gu_t c.u, gu_t (by simp [iN]; omega), gu_t (by simp; omega), gu_t (by simp; omega), gu_t (by simp; omega)]
  unfold dB
  simp only [e2]
  simp
structure LooseOk (n : NetD) : Prop where
  v : ValidN n
  ln : 3 ≤ n.ss.length ∧ n.ss.length ≤ 5
  d0 : ∀ s, n.ss[0]? = some s → s.dep = true
  d1 : ∀ s, n.ss[1]? = some s → s.dep = false
  d2 : ∀ s, n.ss[2]? = some s → s.dep = false
  rb : n.rs ≠ []
  rows : Rows n.nx
theorem NetOk.loose {n : NetD} (h : NetOk n) : LooseOk n := ⟨h.v, h.ln, h.d0, h.d1, h.d2, h.rb, h.rows⟩
theorem RobOk.add {n : NetD} {rs : List Int} (h : RobOk n rs) {x : Int} (hd : DepS n n.ss.length x) (hx : x ∉ rs) : RobOk n (rs ++ [x]) := by
  intro i c hc
  rw [List.getElem?_append] at hc
  split at hc
  · rename_i hi
    obtain ⟨h1, h2⟩ := h i c hc
    exact ⟨h1, by rw [List.take_append_of_le_length (by omega)]; exact h2⟩
  · rename_i hi
    have e : i = rs.length := by
      have := (List.getElem?_eq_some_iff.1 hc).1; simp at this; omega
    subst e
    simp at hc; subst hc
    exact ⟨hd, by rw [List.take_append_of_le_length (by omega), List.take_length]; exact hx⟩
inductive mafPc where
  | l0 (v0 : List TkD) (v1 : Int) (v2 : Nat)
  | l1 (v0 : List TkD) (v1 : List UnD) (v2 : Int) (v3 : Nat)
noncomputable def mafSt (n : NetD) (L : List Int) (kk : Nat) : mafPc → St
  | .l0 v0 v1 v2 => St.mk 66 [(0, AV.ptr 0 0 0), (3, AV.ptr 1 0 0), (6, AV.sl 2 0 v0.length), (7, iv v1)] [some (tapeB L v2), some (Blk.mk [netA n] 8 true true none), some (Blk.mk (List.map tkA v0) 5 true true none)]
  | .l1 v0 v1 v2 v3 => St.mk 66 [(0, AV.ptr 0 0 0), (6, AV.sl 1 0 v0.length), (8, AV.sl 2 0 v1.length), (9, iv (iN (celN n))), (10, iv v2)] [some (tapeB L v3), some (Blk.mk (List.map tkA v0) 5 true true none), some (Blk.mk (List.map unA v1) 13 true true none)]
def mafHd : mafPc → Nat
  | .l0 _ _ _ => 0
  | .l1 _ _ _ _ => 1
noncomputable def mafEn (n : NetD) (L : List Int) (kk : Nat) : Option (mafPc ⊕ Ret) :=
  gu (kk < 9223372036854775807) <|
  some (.inl (.l0 ([]) (nextZ L kk 5) (kk + 1)))
noncomputable def mafS0 (n : NetD) (L : List Int) (kk : Nat) (v0 : List TkD) (v1 : Int) (v2 : Nat) : Option (mafPc ⊕ Ret) :=
  br (decide (0 < v1))
  (gu (v2 < 9223372036854775807) <|
   gu (v2 + 1 < 9223372036854775807) <|
   gu (v2 + 1 + 1 < 9223372036854775807) <|
   gu (v2 + 1 + 1 + 1 < 9223372036854775807) <|
   gu ((List.map tkA v0).length + [AV.agg [AV.int IntKind.i64 (IntKind.i64.wrap (1 + nextZ L v2 2)), AV.int IntKind.i64 (IntKind.i64.wrap (1 + nextZ L (v2 + 1) 2)), AV.int IntKind.i64 (nextZ L (v2 + 1 + 1) 6), AV.int IntKind.i64 (IntKind.i64.wrap (nextZ L (v2 + 1 + 1 + 1) 4 - 1)), AV.int IntKind.i64 0]].length ≤ 9223372036854775807) <|
   gu (((List.map tkA v0).length + [AV.agg [AV.int IntKind.i64 (IntKind.i64.wrap (1 + nextZ L v2 2)), AV.int IntKind.i64 (IntKind.i64.wrap (1 + nextZ L (v2 + 1) 2)), AV.int IntKind.i64 (nextZ L (v2 + 1 + 1) 6), AV.int IntKind.i64 (IntKind.i64.wrap (nextZ L (v2 + 1 + 1 + 1) 4 - 1)), AV.int IntKind.i64 0]].length) * 40 ≤ 140737488355328) <|
   some (.inl (.l0 (v0 ++ [TkD.mk (IntKind.i64.wrap (1 + nextZ L v2 2)) (IntKind.i64.wrap (1 + nextZ L (v2 + 1) 2)) (nextZ L (v2 + 1 + 1) 6) (IntKind.i64.wrap (nextZ L (v2 + 1 + 1 + 1) 4 - 1)) 0]) (IntKind.i64.wrap (v1 - 1)) (v2 + 1 + 1 + 1 + 1))))
  (gu (ValidN n) <|
   gu (v2 < 9223372036854775807) <|
   some (.inl (.l1 (v0) ([]) (nextZ L v2 5) (v2 + 1))))
noncomputable def mafS1 (n : NetD) (L : List Int) (kk : Nat) (v0 : List TkD) (v1 : List UnD) (v2 : Int) (v3 : Nat) : Option (mafPc ⊕ Ret) :=
  br (decide (0 < v2))
  (gu (v3 < 9223372036854775807) <|
   gu (v3 + 1 < 9223372036854775807) <|
   gu (v3 + 1 + 1 < 9223372036854775807) <|
   gu (v3 + 1 + 1 + 1 < 9223372036854775807) <|
   gu (v3 + 1 + 1 + 1 + 1 < 9223372036854775807) <|
   gu ((List.map unA v1).length + [AV.agg [AV.int IntKind.i64 (nextZ L v3 4), AV.bool false, AV.int IntKind.i64 0, AV.int IntKind.i64 (IntKind.i64.wrap (nextZ L (v3 + 1) (IntKind.i64.wrap (iN (celN n) + 1)) - 1)), AV.int IntKind.i64 (IntKind.i64.wrap (nextZ L (v3 + 1 + 1) (IntKind.i64.wrap (iN (celN n) + 1)) - 1)), AV.int IntKind.u64 0, AV.bool false, AV.bool false, AV.int IntKind.i64 (IntKind.i64.wrap (nextZ L (v3 + 1 + 1 + 1) (IntKind.i64.wrap (iN v0.length + 1)) - 1)), AV.int IntKind.i64 (nextZ L (v3 + 1 + 1 + 1 + 1) 4), AV.lst [], AV.int IntKind.i64 0, AV.int IntKind.i64 0]].length ≤ 9223372036854775807) <|
   gu (((List.map unA v1).length + [AV.agg [AV.int IntKind.i64 (nextZ L v3 4), AV.bool false, AV.int IntKind.i64 0, AV.int IntKind.i64 (IntKind.i64.wrap (nextZ L (v3 + 1) (IntKind.i64.wrap (iN (celN n) + 1)) - 1)), AV.int IntKind.i64 (IntKind.i64.wrap (nextZ L (v3 + 1 + 1) (IntKind.i64.wrap (iN (celN n) + 1)) - 1)), AV.int IntKind.u64 0, AV.bool false, AV.bool false, AV.int IntKind.i64 (IntKind.i64.wrap (nextZ L (v3 + 1 + 1 + 1) (IntKind.i64.wrap (iN v0.length + 1)) - 1)), AV.int IntKind.i64 (nextZ L (v3 + 1 + 1 + 1 + 1) 4), AV.lst [], AV.int IntKind.i64 0, AV.int IntKind.i64 0]].length) * 112 ≤ 140737488355328) <|
   some (.inl (.l1 (v0) (v1 ++ [UnD.mk (nextZ L v3 4) false 0 (IntKind.i64.wrap (nextZ L (v3 + 1) (IntKind.i64.wrap (iN (celN n) + 1)) - 1)) (IntKind.i64.wrap (nextZ L (v3 + 1 + 1) (IntKind.i64.wrap (iN (celN n) + 1)) - 1)) 0 false false (IntKind.i64.wrap (nextZ L (v3 + 1 + 1 + 1) (IntKind.i64.wrap (iN v0.length + 1)) - 1)) (nextZ L (v3 + 1 + 1 + 1 + 1) 4) [] 0 0]) (IntKind.i64.wrap (v2 - 1)) (v3 + 1 + 1 + 1 + 1 + 1))))
  (some (.inr ([some (Blk.mk [AV.agg [AV.lst (List.map (AV.int IntKind.i64) L), AV.int IntKind.i64 (iN v3)]] 2 true true none), some (Blk.mk (List.map unA v1) 13 true true none), some (Blk.mk (List.map tkA v0) 5 true true none)], AV.tup [AV.sl 1 0 v1.length, AV.sl 2 0 v0.length])))
noncomputable def mafStep (n : NetD) (L : List Int) (kk : Nat) : mafPc → Option (mafPc ⊕ Ret)
  | .l0 v0 v1 v2 => mafS0 n L kk v0 v1 v2
  | .l1 v0 v1 v2 v3 => mafS1 n L kk v0 v1 v2 v3
theorem mafEn_ok (n : NetD) (L : List Int) (kk : Nat) (o : mafPc ⊕ Ret) (h : mafEn n L kk = some o) : Arr Try.prog Try.f17 1 (mafSt n L kk) mafHd (bodyOf Try.f17) [] { n := Try.f17.ntmps, fr := enumF 0 ([.ptr 0 0 0, netA n]), hp := ([some (tapeB L kk)]) } o := by
 unfold mafEn at h
 obtain ⟨a0, h⟩ := gu_inv h
 cases h
 exact Arr.lp [] [] [(12, Hint.call [0] [] [tapeB L (kk + 1)] (iv (nextZ L kk 5)))] [] [(6, 5)] [0, 1, 2] [0, 3, 6, 7] mix (by kernel_rfl) (aj (aj (u2 t3) (u2 (al (u2 (aj (ak (k3 (al (next_ct (L) (kk) (5) a0)))) s2))))) t8)
theorem mafS0_ok (n : NetD) (L : List Int) (kk : Nat) (v0 : List TkD) (v1 : Int) (v2 : Nat) (o : mafPc ⊕ Ret) (h : mafS0 n L kk v0 v1 v2 = some o) : Arr Try.prog Try.f17 1 (mafSt n L kk) mafHd (headC Try.f17 0) (.rnd (headC Try.f17 0) :: headK Try.f17 0) (mafSt n L kk (.l0 v0 v1 v2)) o := by
 unfold mafS0 at h
 rcases br_inv h with ⟨a0, h⟩ | ⟨a0, h⟩
 ·
  obtain ⟨a1, h⟩ := gu_inv h
  obtain ⟨a2, h⟩ := gu_inv h
  obtain ⟨a3, h⟩ := gu_inv h
  obtain ⟨a4, h⟩ := gu_inv h
  obtain ⟨a5, h⟩ := gu_inv h
  obtain ⟨a6, h⟩ := gu_inv h
  cases h
  exact Arr.loopE (H := hT (ds [29]) [] [(19, Hint.call [0] [] [tapeB L (v2 + 1)] (AV.int IntKind.i64 (nextZ L v2 2))), (22, Hint.call [0] [] [tapeB L (v2 + 1 + 1)] (AV.int IntKind.i64 (nextZ L (v2 + 1) 2))), (25, Hint.call [0] [] [tapeB L (v2 + 1 + 1 + 1)] (AV.int IntKind.i64 (nextZ L (v2 + 1 + 1) 6))), (27, Hint.call [0] [] [tapeB L (v2 + 1 + 1 + 1 + 1)] (AV.int IntKind.i64 (nextZ L (v2 + 1 + 1 + 1) 4)))]) (F := []) (n := 4000) (s' := St.mk 66 [(0, AV.ptr 0 0 0), (3, AV.ptr 1 0 0), (6, AV.sl 2 0 ((List.map tkA v0).length + [AV.agg [AV.int IntKind.i64 (IntKind.i64.wrap (1 + nextZ L v2 2)), AV.int IntKind.i64 (IntKind.i64.wrap (1 + nextZ L (v2 + 1) 2)), AV.int IntKind.i64 (nextZ L (v2 + 1 + 1) 6), AV.int IntKind.i64 (IntKind.i64.wrap (nextZ L (v2 + 1 + 1 + 1) 4 - 1)), AV.int IntKind.i64 0]].length)), (7, AV.int IntKind.i64 (IntKind.i64.wrap (v1 - 1)))] [some (Blk.mk [AV.agg [AV.lst (List.map (AV.int IntKind.i64) L), AV.int IntKind.i64 (iN (v2 + 1 + 1 + 1 + 1))]] 2 true true none), some (Blk.mk [AV.agg [AV.lst (List.map bA n.bs), AV.lst (gL n.nx), AV.lst (List.map sA n.ss), AV.lst (List.map (AV.int IntKind.i64) n.rs), AV.int IntKind.i64 n.q, AV.int IntKind.i64 n.a, AV.int IntKind.i64 n.d, AV.int IntKind.i64 n.p]] 8 true true none), some (Blk.mk (List.map tkA v0 ++ [AV.agg [AV.int IntKind.i64 (IntKind.i64.wrap (1 + nextZ L v2 2)), AV.int IntKind.i64 (IntKind.i64.wrap (1 + nextZ L (v2 + 1) 2)), AV.int IntKind.i64 (nextZ L (v2 + 1 + 1) 6), AV.int IntKind.i64 (IntKind.i64.wrap (nextZ L (v2 + 1 + 1 + 1) 4 - 1)), AV.int IntKind.i64 0]]) 5 true true none)]) [] [0, 1, 4] [] [0, 3, 6, 7] mix (by kernel_rfl) (aj (aj (u2 s2) (aj a0 (aj (u2 (u2 (aj (ak (k3 (al (next_ct (L) (v2) (2) a1)))) (u2 (u2 (aj (ak (k3 (al (next_ct (L) (v2 + 1) (2) a2)))) (u2 (u2 (aj (ak (k3 (al (next_ct (L) (v2 + 1 + 1) (6) a3)))) (u2 (aj (ak (k3 (al (next_ct (L) (v2 + 1 + 1 + 1) (4) a4)))) (u2 (aj t5 (u2 (aj (k2 (aj (show (List.map tkA v0).length = v0.length by simp) (aj (aj (show nat_lit 5 = nat_lit 5 from rfl) (show 1 ≤ [AV.agg [AV.int IntKind.i64 (IntKind.i64.wrap (1 + nextZ L v2 2)), AV.int IntKind.i64 (IntKind.i64.wrap (1 + nextZ L (v2 + 1) 2)), AV.int IntKind.i64 (nextZ L (v2 + 1 + 1) 6), AV.int IntKind.i64 (IntKind.i64.wrap (nextZ L (v2 + 1 + 1 + 1) 4 - 1)), AV.int IntKind.i64 0]].length by simp)) (aj a5 a6)))) s2))))))))))))))) (al (u2 (u2 s2)))))) t8) (by simp [iv, netA, tapeB, lstI, mafSt, gL, boL, lI, sA, bA, tkA, unA])
 ·
  obtain ⟨a1, h⟩ := gu_inv h
  obtain ⟨a2, h⟩ := gu_inv h
  cases h
  exact Arr.lp [28] [] [(33, hc (iv (iN (celN n)))), (35, Hint.call [0] [] [tapeB L (v2 + 1)] (iv (nextZ L v2 5)))] [] [(8, 13)] [0, 2, 3] [0, 6, 8, 9, 10] mix (by kernel_rfl) (aj (aj (u2 s2) (aj a0 (u2 (aj (u2 (aj (ak (aj t9 (al (cells_ct a1)))) s2)) (al (u2 (aj (ak (k3 (al (next_ct (L) (v2) (5) a2)))) s2))))))) t9)
theorem mafS1_ok (n : NetD) (L : List Int) (kk : Nat) (v0 : List TkD) (v1 : List UnD) (v2 : Int) (v3 : Nat) (o : mafPc ⊕ Ret) (h : mafS1 n L kk v0 v1 v2 v3 = some o) : Arr Try.prog Try.f17 1 (mafSt n L kk) mafHd (headC Try.f17 1) (.rnd (headC Try.f17 1) :: headK Try.f17 1) (mafSt n L kk (.l1 v0 v1 v2 v3)) o := by
 unfold mafS1 at h
 rcases br_inv h with ⟨a0, h⟩ | ⟨a0, h⟩
 ·
  obtain ⟨a1, h⟩ := gu_inv h
  obtain ⟨a2, h⟩ := gu_inv h
  obtain ⟨a3, h⟩ := gu_inv h
  obtain ⟨a4, h⟩ := gu_inv h
  obtain ⟨a5, h⟩ := gu_inv h
  obtain ⟨a6, h⟩ := gu_inv h
  obtain ⟨a7, h⟩ := gu_inv h
  cases h
  exact Arr.loopE (H := hT (ds [75]) [(62, AV.tup [])] [(42, Hint.call [0] [] [tapeB L (v3 + 1)] (AV.int IntKind.i64 (nextZ L v3 4))), (46, Hint.call [0] [] [tapeB L (v3 + 1 + 1)] (AV.int IntKind.i64 (nextZ L (v3 + 1) (IntKind.i64.wrap (iN (celN n) + 1))))), (51, Hint.call [0] [] [tapeB L (v3 + 1 + 1 + 1)] (AV.int IntKind.i64 (nextZ L (v3 + 1 + 1) (IntKind.i64.wrap (iN (celN n) + 1))))), (57, Hint.call [0] [] [tapeB L (v3 + 1 + 1 + 1 + 1)] (AV.int IntKind.i64 (nextZ L (v3 + 1 + 1 + 1) (IntKind.i64.wrap (iN v0.length + 1))))), (60, Hint.call [0] [] [tapeB L (v3 + 1 + 1 + 1 + 1 + 1)] (AV.int IntKind.i64 (nextZ L (v3 + 1 + 1 + 1 + 1) 4)))]) (F := []) (n := 4000) (s' := St.mk 66 [(0, AV.ptr 0 0 0), (6, AV.sl 1 0 v0.length), (8, AV.sl 2 0 ((List.map unA v1).length + [AV.agg [AV.int IntKind.i64 (nextZ L v3 4), AV.bool false, AV.int IntKind.i64 0, AV.int IntKind.i64 (IntKind.i64.wrap (nextZ L (v3 + 1) (IntKind.i64.wrap (iN (celN n) + 1)) - 1)), AV.int IntKind.i64 (IntKind.i64.wrap (nextZ L (v3 + 1 + 1) (IntKind.i64.wrap (iN (celN n) + 1)) - 1)), AV.int IntKind.u64 0, AV.bool false, AV.bool false, AV.int IntKind.i64 (IntKind.i64.wrap (nextZ L (v3 + 1 + 1 + 1) (IntKind.i64.wrap (iN v0.length + 1)) - 1)), AV.int IntKind.i64 (nextZ L (v3 + 1 + 1 + 1 + 1) 4), AV.lst [], AV.int IntKind.i64 0, AV.int IntKind.i64 0]].length)), (9, AV.int IntKind.i64 (iN (celN n))), (10, AV.int IntKind.i64 (IntKind.i64.wrap (v2 - 1)))] [some (Blk.mk [AV.agg [AV.lst (List.map (AV.int IntKind.i64) L), AV.int IntKind.i64 (iN (v3 + 1 + 1 + 1 + 1 + 1))]] 2 true true none), some (Blk.mk (List.map tkA v0) 5 true true none), some (Blk.mk (List.map unA v1 ++ [AV.agg [AV.int IntKind.i64 (nextZ L v3 4), AV.bool false, AV.int IntKind.i64 0, AV.int IntKind.i64 (IntKind.i64.wrap (nextZ L (v3 + 1) (IntKind.i64.wrap (iN (celN n) + 1)) - 1)), AV.int IntKind.i64 (IntKind.i64.wrap (nextZ L (v3 + 1 + 1) (IntKind.i64.wrap (iN (celN n) + 1)) - 1)), AV.int IntKind.u64 0, AV.bool false, AV.bool false, AV.int IntKind.i64 (IntKind.i64.wrap (nextZ L (v3 + 1 + 1 + 1) (IntKind.i64.wrap (iN v0.length + 1)) - 1)), AV.int IntKind.i64 (nextZ L (v3 + 1 + 1 + 1 + 1) 4), AV.lst [], AV.int IntKind.i64 0, AV.int IntKind.i64 0]]) 13 true true none)]) [] [0, 1, 4] [] [0, 6, 8, 9, 10] mix (by kernel_rfl) (aj (aj (u2 s2) (aj a0 (aj (u2 (u2 (aj (ak (k3 (al (next_ct (L) (v3) (4) a1)))) (u2 (u2 (u2 (aj (k5 (al (next_ct (L) (v3 + 1) (IntKind.i64.wrap (iN (celN n) + 1)) a2))) (u2 (u2 (u2 (u2 (aj (k5 (al (next_ct (L) (v3 + 1 + 1) (IntKind.i64.wrap (iN (celN n) + 1)) a3))) (u2 (u2 (u2 (u2 (u2 (aj (k5 (al (next_ct (L) (v3 + 1 + 1 + 1) (IntKind.i64.wrap (iN v0.length + 1)) a4))) (u2 (u2 (aj (ak (k3 (al (next_ct (L) (v3 + 1 + 1 + 1 + 1) (4) a5)))) (aj t6 (u2 (aj (k2 (aj (show (List.map unA v1).length = v1.length by simp) (aj (aj (show nat_lit 13 = nat_lit 13 from rfl) (show 1 ≤ [AV.agg [AV.int IntKind.i64 (nextZ L v3 4), AV.bool false, AV.int IntKind.i64 0, AV.int IntKind.i64 (IntKind.i64.wrap (nextZ L (v3 + 1) (IntKind.i64.wrap (iN (celN n) + 1)) - 1)), AV.int IntKind.i64 (IntKind.i64.wrap (nextZ L (v3 + 1 + 1) (IntKind.i64.wrap (iN (celN n) + 1)) - 1)), AV.int IntKind.u64 0, AV.bool false, AV.bool false, AV.int IntKind.i64 (IntKind.i64.wrap (nextZ L (v3 + 1 + 1 + 1) (IntKind.i64.wrap (iN v0.length + 1)) - 1)), AV.int IntKind.i64 (nextZ L (v3 + 1 + 1 + 1 + 1) 4), AV.lst [], AV.int IntKind.i64 0, AV.int IntKind.i64 0]].length by simp)) (aj a6 a7)))) s2)))))))))))))))))))))))) (al (u2 (u2 s2)))))) t9) (by simp [iv, netA, tapeB, lstI, mafSt, gL, boL, lI, sA, bA, tkA, unA])
 ·
  cases h
  exact Arr.rt [74] [] [] [] [0, 2, 1] [] mix (by kernel_rfl) (aj (aj (u2 s2) (aj a0 (al (u2 (u2 (u2 s2)))))) (aj t3 t4))
theorem maf_ct (n : NetD) (L : List Int) (kk : Nat) (r : Ret) (h : MReach (mafStep n L kk) (mafEn n L kk) r) : CT Try.prog 17 ([some (tapeB L kk)]) ([.ptr 0 0 0, netA n]) r.1 r.2 :=
  CT.mach (fn := Try.f17) (c := bodyOf Try.f17) (S := mafSt n L kk) (hd := mafHd) Try.func17 (by kernel_rfl) (Nat.le_of_ble_eq_true rfl)
    (fun s o ho => match s, ho with
      | .l0 v0 v1 v2, ho => mafS0_ok n L kk v0 v1 v2 o ho
      | .l1 v0 v1 v2 v3, ho => mafS1_ok n L kk v0 v1 v2 v3 o ho
    )
    (fun o ho => mafEn_ok n L kk o ho) h
structure MadI (n : NetD) (u : List UnD) (t : List TkD) : Prop where
  u4 : u.length ≤ 4
  t4 : t.length ≤ 4
  ut : ∀ x ∈ t, stB n x.pk = true ∧ stB n x.dr = true
  uu : ∀ x ∈ u, consU n t.length x = true
theorem LooseOk.st1 {n : NetD} (h : LooseOk n) : stB n 1 = true := by
  have hl : 1 < n.ss.length := by have := h.ln; omega
  have := h.d1 _ (List.getElem?_eq_getElem hl)
  unfold stB; rw [show (1 : Int).toNat = 1 from rfl, List.getElem?_eq_getElem hl]; simp [this]
theorem LooseOk.st2 {n : NetD} (h : LooseOk n) : stB n 2 = true := by
  have hl : 2 < n.ss.length := by have := h.ln; omega
  have := h.d2 _ (List.getElem?_eq_getElem hl)
  unfold stB; rw [show (2 : Int).toNat = 2 from rfl, List.getElem?_eq_getElem hl]; simp [this]
noncomputable def mafR (L : List Int) (k : Nat) (u : List UnD) (t : List TkD) : Ret := ([some (tapeB L k), some { es := u.map unA, z := 13 }, some { es := t.map tkA, z := 5 }], .tup [.sl 1 0 u.length, .sl 2 0 t.length])
theorem maf_u {n : NetD} (hn : LooseOk n) {L : List Int} {kk : Nat} {t : List TkD} (ht : t.length ≤ 4) : ∀ (m : Nat) (u : List UnD) (k : Nat), (∀ x ∈ u, consU n t.length x = true) → u.length + m ≤ 4 → k + 10 * m ≤ 100000 →
    ∃ (u' : List UnD) (k' : Nat), (∀ x ∈ u', consU n t.length x = true) ∧ u'.length ≤ 4 ∧ k' ≤ k + 5 * m ∧ MReach (mafStep n L kk) (some (.inl (.l1 t u (m : Int) k))) (mafR L k' u' t) := by
  intro m
  have hc := hn.v.cel
  induction m with
  | zero =>
    intro u k hu hl hk
    refine ⟨u, k, hu, by omega, by omega, .to ?_ (.ret _)⟩
    show mafS1 n L kk t u 0 k = _
    unfold mafS1
    rw [br_f (by simp)]; rfl
  | succ m ih =>
    intro u k hu hl hk
    have w1 : IntKind.i64.wrap (iN (celN n) + 1) = celN n + 1 := wrapS _ (by simp only [iN]; omega) (by simp only [iN]; omega)
    have w2 : IntKind.i64.wrap (iN t.length + 1) = t.length + 1 := wrapS _ (by simp only [iN]; omega) (by simp only [iN]; omega)
    have r1 := nextZ_rng L (k + 1) ((celN n : Int) + 1) (by omega) (by omega)
    have r2 := nextZ_rng L (k + 1 + 1) ((celN n : Int) + 1) (by omega) (by omega)
    have r3 := nextZ_rng L (k + 1 + 1 + 1) ((t.length : Int) + 1) (by omega) (by omega)
    obtain ⟨u', k', g1, g2, g3, g4⟩ := ih (u ++ [UnD.mk (nextZ L k 4) false 0 (nextZ L (k + 1) ((celN n : Int) + 1) - 1) (nextZ L (k + 1 + 1) ((celN n : Int) + 1) - 1) 0 false false (nextZ L (k + 1 + 1 + 1) ((t.length : Int) + 1) - 1) (nextZ L (k + 1 + 1 + 1 + 1) 4) [] 0 0]) (k + 1 + 1 + 1 + 1 + 1) (fun x hx => by
        rcases List.mem_append.1 hx with h | h
        · exact hu x h
        · rw [List.mem_singleton.1 h]
          simp [consU]; omega) (by simp; omega) (by omega)
    refine ⟨u', k', g1, g2, by omega, .to ?_ g4⟩
    show mafS1 n L kk t u ((m + 1 : Nat) : Int) k = _
    unfold mafS1
    rw [br_t (dec_t (by omega)), gu_t (by omega), gu_t (by omega), gu_t (by omega), gu_t (by omega), gu_t (by omega), gu_t (by simp; omega), gu_t (by simp; omega), w1, w2, wrapS (nextZ L (k + 1) ((celN n : Int) + 1) - 1) (by omega) (by omega), wrapS (nextZ L (k + 1 + 1) ((celN n : Int) + 1) - 1) (by omega) (by omega), wrapS (nextZ L (k + 1 + 1 + 1) ((t.length : Int) + 1) - 1) (by omega) (by omega), wrapS (((m + 1 : Nat) : Int) - 1) (by omega) (by omega), show ((m + 1 : Nat) : Int) - 1 = (m : Int) by omega]
theorem maf_t {n : NetD} (hn : LooseOk n) {L : List Int} {kk : Nat} : ∀ (m : Nat) (t : List TkD) (k : Nat), (∀ x ∈ t, stB n x.pk = true ∧ stB n x.dr = true) → t.length + m ≤ 4 → k + 10 * m ≤ 50000 →
    ∃ u t' k', MadI n u t' ∧ k' ≤ k + 4 * m + 30 ∧ MReach (mafStep n L kk) (some (.inl (.l0 t (m : Int) k))) (mafR L k' u t') := by
  intro m
  induction m with
  | zero =>
    intro t k ht hl hk
    have r := nextZ_rng L k 5 (by omega) (by omega)
    obtain ⟨q, hq⟩ : ∃ q : Nat, nextZ L k 5 = q := ⟨(nextZ L k 5).toNat, by omega⟩
    obtain ⟨u', k', g1, g2, g3, g4⟩ := maf_u hn (L := L) (kk := kk) (t := t) (by omega) q [] (k + 1) (fun x hx => by cases hx) (by simp; omega) (by omega)
    refine ⟨u', t, k', ⟨g2, by omega, ht, g1⟩, by omega, .to ?_ g4⟩
    show mafS0 n L kk t 0 k = _
    unfold mafS0
    rw [br_f (by simp), gu_t hn.v, gu_t (by omega), hq]
  | succ m ih =>
    intro t k ht hl hk
    have r1 := nextZ_rng L k 2 (by omega) (by omega)
    have r2 := nextZ_rng L (k + 1) 2 (by omega) (by omega)
    have r3 := nextZ_rng L (k + 1 + 1 + 1) 4 (by omega) (by omega)
    have st : ∀ x : Int, 0 ≤ x → x < 2 → stB n (1 + x) = true := fun x h0 h1 => by
      rcases (show x = 0 ∨ x = 1 by omega) with rfl | rfl
      · exact hn.st1
      · exact hn.st2
    obtain ⟨u, t', k', g1, g2, g3⟩ := ih (t ++ [TkD.mk (1 + nextZ L k 2) (1 + nextZ L (k + 1) 2) (nextZ L (k + 1 + 1) 6) (nextZ L (k + 1 + 1 + 1) 4 - 1) 0]) (k + 1 + 1 + 1 + 1) (fun x hx => by
        rcases List.mem_append.1 hx with h | h
        · exact ht x h
        · rw [List.mem_singleton.1 h]
          exact ⟨st _ (by omega) (by omega), st _ (by omega) (by omega)⟩) (by simp; omega) (by omega)
    refine ⟨u, t', k', g1, by omega, .to ?_ g3⟩
    show mafS0 n L kk t ((m + 1 : Nat) : Int) k = _
    unfold mafS0
    rw [br_t (dec_t (by omega)), gu_t (by omega), gu_t (by omega), gu_t (by omega), gu_t (by omega), gu_t (by simp; omega), gu_t (by simp; omega), wrapS (1 + nextZ L k 2) (by omega) (by omega), wrapS (1 + nextZ L (k + 1) 2) (by omega) (by omega), wrapS (nextZ L (k + 1 + 1 + 1) 4 - 1) (by omega) (by omega), wrapS (((m + 1 : Nat) : Int) - 1) (by omega) (by omega), show ((m + 1 : Nat) : Int) - 1 = (m : Int) by omega]
theorem madeF_exP (n : NetD) (L : List Int) (kk : Nat) : ∃ p : List UnD × List TkD × Nat, LooseOk n → kk ≤ 10000 → MadI n p.1 p.2.1 ∧ p.2.2 ≤ kk + 50 ∧ CT Try.prog 17 [some (tapeB L kk)] [.ptr 0 0 0, netA n] (mafR L p.2.2 p.1 p.2.1).1 (mafR L p.2.2 p.1 p.2.1).2 := by
  by_cases h : LooseOk n ∧ kk ≤ 10000
  · have r := nextZ_rng L kk 5 (by omega) (by omega)
    obtain ⟨q, hq⟩ : ∃ q : Nat, nextZ L kk 5 = q := ⟨(nextZ L kk 5).toNat, by omega⟩
    obtain ⟨u, t, k, g1, g2, g3⟩ := maf_t h.1 (L := L) (kk := kk) q [] (kk + 1) (fun x hx => by cases hx) (by simp; omega) (by omega)
    refine ⟨(u, t, k), fun _ _ => ⟨g1, by show k ≤ _; omega, maf_ct n L kk (mafR L k u t) ?_⟩⟩
    refine MReach.eq ?_ g3
    unfold mafEn
    rw [gu_t (by omega), hq]
  · exact ⟨([], [], 0), fun a b => absurd ⟨a, b⟩ h⟩
@[irreducible] noncomputable def mafU (n : NetD) (L : List Int) (kk : Nat) : List UnD := (Classical.choose (madeF_exP n L kk)).1
@[irreducible] noncomputable def mafT (n : NetD) (L : List Int) (kk : Nat) : List TkD := (Classical.choose (madeF_exP n L kk)).2.1
@[irreducible] noncomputable def mafK (n : NetD) (L : List Int) (kk : Nat) : Nat := (Classical.choose (madeF_exP n L kk)).2.2
theorem maf_spec {n : NetD} {L : List Int} {kk : Nat} (h : LooseOk n) (hk : kk ≤ 10000) : MadI n (mafU n L kk) (mafT n L kk) ∧ mafK n L kk ≤ kk + 50 ∧ CT Try.prog 17 [some (tapeB L kk)] [.ptr 0 0 0, netA n] [some (tapeB L (mafK n L kk)), some { es := (mafU n L kk).map unA, z := 13 }, some { es := (mafT n L kk).map tkA, z := 5 }] (.tup [.sl 1 0 (mafU n L kk).length, .sl 2 0 (mafT n L kk).length]) :=
  by unfold mafU mafT mafK; exact Classical.choose_spec (madeF_exP n L kk) h hk
theorem madeF_ct (n : NetD) (L : List Int) (kk : Nat) (h : LooseOk n) (hk : kk ≤ 10000) : CT Try.prog 17 [some (tapeB L kk)] [.ptr 0 0 0, netA n] [some (tapeB L (mafK n L kk)), some { es := (mafU n L kk).map unA, z := 13 }, some { es := (mafT n L kk).map tkA, z := 5 }] (.tup [.sl 1 0 (mafU n L kk).length, .sl 2 0 (mafT n L kk).length]) := (maf_spec h hk).2.2
noncomputable def knSt : Empty → St
  | x => x.elim
def knHd : Empty → Nat
  | x => x.elim
noncomputable def knEn : Option (Empty ⊕ Ret) :=
  br (decide (iN (List.map sA (netM [2] 0 4).ss).length < 3))
  (some (.inr ([], AV.bool false)))
  (br (iN (List.map (AV.int IntKind.i64) (netM [2] 0 4).rs).length == 0)
   (some (.inr ([], AV.bool false)))
   (gu (Rows (netM [(2 : Int)] (nat_lit 0) (4 : Int)).nx) <|
    br (consB (netM [2] 0 4) [UnD.mk 1 false 0 0 (-1) 0 false false 0 1 [] 0 0] [TkD.mk 1 2 1 0 0])
    (gu (∀ (blk : Blk), blk ∈ [dB (cntL (netM [(2 : Int)] (nat_lit 0) (4 : Int)) [UnD.mk (1 : Int) false (0 : Int) (0 : Int) (-1 : Int) (0 : Int) false false (0 : Int) (1 : Int) [] (0 : Int) (0 : Int)] [TkD.mk (1 : Int) (2 : Int) (1 : Int) (0 : Int) (0 : Int)])] → ImmB blk) <|
     br (consB (netM [2] 0 4) [UnD.mk 1 false 0 0 (-1) 0 false false 0 2 [] 0 0] [TkD.mk 1 2 1 0 0])
     (gu (∀ (blk : Blk), blk ∈ [dB (cntL (netM [(2 : Int)] (nat_lit 0) (4 : Int)) [UnD.mk (1 : Int) false (0 : Int) (0 : Int) (-1 : Int) (0 : Int) false false (0 : Int) (2 : Int) [] (0 : Int) (0 : Int)] [TkD.mk (1 : Int) (2 : Int) (1 : Int) (0 : Int) (0 : Int)])] → ImmB blk) <|
      br (nedE (netM [2] 0 4) [TkD.mk 1 2 1 0 0] 0 1 == 0)
      (br (nedB (netM [2] 0 4) [TkD.mk 1 2 1 0 0] 0 1)
       (br (iN (cntL (netM [2] 0 4) [UnD.mk 1 false 0 0 (-1) 0 false false 0 1 [] 0 0] [TkD.mk 1 2 1 0 0]).length == iN (List.map sA (netM [2] 0 4).ss).length)
        (br (iN (cntL (netM [2] 0 4) [UnD.mk 1 false 0 0 (-1) 0 false false 0 2 [] 0 0] [TkD.mk 1 2 1 0 0]).length == iN (cntL (netM [2] 0 4) [UnD.mk 1 false 0 0 (-1) 0 false false 0 1 [] 0 0] [TkD.mk 1 2 1 0 0]).length)
         (gu ((1 : Int) < iN (cntL (netM [(2 : Int)] (nat_lit 0) (4 : Int)) [UnD.mk (1 : Int) false (0 : Int) (0 : Int) (-1 : Int) (0 : Int) false false (0 : Int) (1 : Int) [] (0 : Int) (0 : Int)] [TkD.mk (1 : Int) (2 : Int) (1 : Int) (0 : Int) (0 : Int)]).length) <|
          el (cntL (netM [2] 0 4) [UnD.mk 1 false 0 0 (-1) 0 false false 0 1 [] 0 0] [TkD.mk 1 2 1 0 0]) (1) fun (x82 : Int) =>
          br (x82 == 1)
          (gu ((2 : Int) < iN (cntL (netM [(2 : Int)] (nat_lit 0) (4 : Int)) [UnD.mk (1 : Int) false (0 : Int) (0 : Int) (-1 : Int) (0 : Int) false false (0 : Int) (1 : Int) [] (0 : Int) (0 : Int)] [TkD.mk (1 : Int) (2 : Int) (1 : Int) (0 : Int) (0 : Int)]).length) <|
           el (cntL (netM [2] 0 4) [UnD.mk 1 false 0 0 (-1) 0 false false 0 1 [] 0 0] [TkD.mk 1 2 1 0 0]) (2) fun (x88 : Int) =>
           br (x88 == 1)
           (gu ((1 : Int) < iN (cntL (netM [(2 : Int)] (nat_lit 0) (4 : Int)) [UnD.mk (1 : Int) false (0 : Int) (0 : Int) (-1 : Int) (0 : Int) false false (0 : Int) (2 : Int) [] (0 : Int) (0 : Int)] [TkD.mk (1 : Int) (2 : Int) (1 : Int) (0 : Int) (0 : Int)]).length) <|
            el (cntL (netM [2] 0 4) [UnD.mk 1 false 0 0 (-1) 0 false false 0 2 [] 0 0] [TkD.mk 1 2 1 0 0]) (1) fun (x94 : Int) =>
            br (x94 == 0)
            (gu ((2 : Int) < iN (cntL (netM [(2 : Int)] (nat_lit 0) (4 : Int)) [UnD.mk (1 : Int) false (0 : Int) (0 : Int) (-1 : Int) (0 : Int) false false (0 : Int) (2 : Int) [] (0 : Int) (0 : Int)] [TkD.mk (1 : Int) (2 : Int) (1 : Int) (0 : Int) (0 : Int)]).length) <|
             el (cntL (netM [2] 0 4) [UnD.mk 1 false 0 0 (-1) 0 false false 0 2 [] 0 0] [TkD.mk 1 2 1 0 0]) (2) fun (x100 : Int) =>
             some (.inr ([], AV.bool (x100 == 1))))
            (some (.inr ([], AV.bool false))))
           (some (.inr ([], AV.bool false))))
          (some (.inr ([], AV.bool false))))
         (some (.inr ([], AV.bool false))))
        (some (.inr ([], AV.bool false))))
       (some (.inr ([], AV.bool false))))
      (some (.inr ([], AV.bool false))))
     (none))
    (none)))
noncomputable def knStep : Empty → Option (Empty ⊕ Ret)
  | x => x.elim
theorem knEn_ok (o : Empty ⊕ Ret) (h : knEn = some o) : Arr Try.prog Try.f15 0 (knSt) knHd (bodyOf Try.f15) [] { n := Try.f15.ntmps, fr := enumF 0 ([]), hp := ([]) } o := by
 unfold knEn at h
 rcases br_inv h with ⟨a0, h⟩ | ⟨a0, h⟩
 ·
  cases h
  exact Arr.rt [37] [(10, AV.lst [])] [(13, Hint.call [0] [] [tapeB [2] (netK [2] 0 4)] (netA (netM [2] 0 4)))] [] [] [] mix (by kernel_rfl) (aj (u2 (aj (ak (u2 (u2 (aj (ak (k3 (al (net_ct ([2]) (0) (4) (show nat_lit 0 ≤ (5000 : Nat) from (by first | exact Nat.le_of_ble_eq_true rfl | decide)) (show (1 : Int) ≤ (4 : Int) ∧ (4 : Int) ≤ (20 : Int) from ⟨(by first | exact Nat.le_of_ble_eq_true rfl | decide), (by first | exact Nat.le_of_ble_eq_true rfl | decide)⟩))))) (ak (al (k2 n11))))))) (aj (u2 (u2 (u2 (u2 (u2 (aj a0 (aj a0 (aj a0 (aj a0 (al (aj a0 t2))))))))))) (ak s2)))) t2)
 ·
  rcases br_inv h with ⟨a1, h⟩ | ⟨a1, h⟩
  ·
   cases h
   exact Arr.rt [36, 47] [(10, AV.lst [])] [(13, Hint.call [0] [] [tapeB [2] (netK [2] 0 4)] (netA (netM [2] 0 4)))] [] [] [] mix (by kernel_rfl) (aj (u2 (aj (ak (u2 (u2 (aj (ak (k3 (al (net_ct ([2]) (0) (4) (show nat_lit 0 ≤ (5000 : Nat) from (by first | exact Nat.le_of_ble_eq_true rfl | decide)) (show (1 : Int) ≤ (4 : Int) ∧ (4 : Int) ≤ (20 : Int) from ⟨(by first | exact Nat.le_of_ble_eq_true rfl | decide), (by first | exact Nat.le_of_ble_eq_true rfl | decide)⟩))))) (ak (al (k2 n11))))))) (aj (u2 (u2 (u2 (u2 (u2 (ag a0 (ag a0 (ag a0 (ag a0 (al (aj a0 t2))))))))))) (aj a1 s2)))) t2)
  ·
   obtain ⟨a2, h⟩ := gu_inv h
   rcases br_inv h with ⟨a3, h⟩ | ⟨a3, h⟩
   ·
    obtain ⟨a4, h⟩ := gu_inv h
    rcases br_inv h with ⟨a5, h⟩ | ⟨a5, h⟩
    ·
     obtain ⟨a6, h⟩ := gu_inv h
     rcases br_inv h with ⟨a7, h⟩ | ⟨a7, h⟩
     ·
      rcases br_inv h with ⟨a8, h⟩ | ⟨a8, h⟩
      ·
       rcases br_inv h with ⟨a9, h⟩ | ⟨a9, h⟩
       ·
        rcases br_inv h with ⟨a10, h⟩ | ⟨a10, h⟩
        ·
         obtain ⟨a11, h⟩ := gu_inv h
         obtain ⟨x82, a12, h⟩ := el_inv h
         rcases br_inv h with ⟨a13, h⟩ | ⟨a13, h⟩
         ·
          obtain ⟨a14, h⟩ := gu_inv h
          obtain ⟨x88, a15, h⟩ := el_inv h
          rcases br_inv h with ⟨a16, h⟩ | ⟨a16, h⟩
          ·
           obtain ⟨a17, h⟩ := gu_inv h
           obtain ⟨x94, a18, h⟩ := el_inv h
           rcases br_inv h with ⟨a19, h⟩ | ⟨a19, h⟩
           ·
            obtain ⟨a20, h⟩ := gu_inv h
            obtain ⟨x100, a21, h⟩ := el_inv h
            cases h
            exact Arr.rt [36, 46, 123, 129, 145, 159, 171, 183, 195] [(10, AV.lst []), (27, AV.tup []), (82, iv x82), (88, iv x88), (94, iv x94), (100, iv x100)] [(13, Hint.call [0] [] [tapeB [2] (netK [2] 0 4)] (netA (netM [2] 0 4))), (32, Hint.call [] [3, 2] [dB (cntL (netM [2] 0 4) [UnD.mk 1 false 0 0 (-1) 0 false false 0 1 [] 0 0] [TkD.mk 1 2 1 0 0])] (AV.tup [AV.sl 0 0 (cntL (netM [2] 0 4) [UnD.mk 1 false 0 0 (-1) 0 false false 0 1 [] 0 0] [TkD.mk 1 2 1 0 0]).length, iv 0])), (42, Hint.call [] [3, 2] [dB (cntL (netM [2] 0 4) [UnD.mk 1 false 0 0 (-1) 0 false false 0 2 [] 0 0] [TkD.mk 1 2 1 0 0])] (AV.tup [AV.sl 0 0 (cntL (netM [2] 0 4) [UnD.mk 1 false 0 0 (-1) 0 false false 0 2 [] 0 0] [TkD.mk 1 2 1 0 0]).length, iv 0])), (48, Hint.call [] [2] [] (AV.tup [AV.bool (nedB (netM [2] 0 4) [TkD.mk 1 2 1 0 0] 0 1), iv (nedE (netM [2] 0 4) [TkD.mk 1 2 1 0 0] 0 1)]))] [] [] [] mix (by kernel_rfl) (aj (u2 (aj (ak (u2 (u2 (aj (ak (k3 (al (net_ct ([2]) (0) (4) (show nat_lit 0 ≤ (5000 : Nat) from (by first | exact Nat.le_of_ble_eq_true rfl | decide)) (show (1 : Int) ≤ (4 : Int) ∧ (4 : Int) ≤ (20 : Int) from ⟨(by first | exact Nat.le_of_ble_eq_true rfl | decide), (by first | exact Nat.le_of_ble_eq_true rfl | decide)⟩))))) (ak (al (k2 n11))))))) (aj (u2 (u2 (u2 (u2 (u2 (ag a0 (ag a0 (ag a0 (ag a0 (al (aj a0 t2))))))))))) (aj a1 (aj (ak (u2 s2)) (aj (ak (u2 s2)) (aj (u2 (u2 (u2 (aj (k3 (aj t9 (aj (show nat_lit 1 = nat_lit 1 from rfl) (aj (show nat_lit 1 = nat_lit 1 from rfl) (aj (sTakenF_ct (netM [2] 0 4) ([UnD.mk 1 false 0 0 (-1) 0 false false 0 1 [] 0 0]) ([TkD.mk 1 2 1 0 0]) a2 a3) a4))))) (u2 (u2 (u2 (u2 s2)))))))) (aj (u2 (aj (ak (aj (show (0 : Int) ≤ (0 : Int) from (by first | exact Nat.le_of_ble_eq_true rfl | decide)) (show (0 : Int) < (1 : Int) from (by first | exact Nat.le_of_ble_eq_true rfl | decide)))) (u2 s2))) (aj (u2 (u2 (u2 (aj (k3 (aj t9 (aj (show nat_lit 1 = nat_lit 1 from rfl) (aj (show nat_lit 1 = nat_lit 1 from rfl) (aj (sTakenF_ct (netM [2] 0 4) ([UnD.mk 1 false 0 0 (-1) 0 false false 0 2 [] 0 0]) ([TkD.mk 1 2 1 0 0]) a2 a5) a6))))) (u2 (u2 (u2 (u2 s2)))))))) (aj (u2 (u2 (aj (k2 (aj t9 (aj (show nat_lit 1 = nat_lit 1 from rfl) (k2 (aj (sNeeds_ct a2 ([TkD.mk 1 2 1 0 0]) (0) (1)) (show ∀ (blk : Blk), blk ∈ [] → ImmB blk from (by intro _ h; cases h))))))) (u2 (u2 (u2 (u2 s2))))))) (al (u2 (u2 (u2 (aj t3 (aj t3 (aj t3 (u2 (aj t3 (aj t3 (aj t3 (u2 (ag a7 (ag a7 (u2 (ag a8 (ag a8 (ag a8 (ag a8 (ag a8 (aj (aj a8 t3) (ag a8 (u2 (ag a9 (ag a9 (ag a9 (ag a9 (aj (aj a9 t3) (ag a9 (u2 (ag a10 (aj (aj a10 (ak (aj (show (0 : Int) ≤ (1 : Int) from (by first | exact Nat.le_of_ble_eq_true rfl | decide)) a11))) (aj (aj a10 (ak (getMap (f := iv) a12))) (ag a10 (ag a10 (u2 (ag a13 (aj (aj a13 (ak (aj (show (0 : Int) ≤ (2 : Int) from (by first | exact Nat.le_of_ble_eq_true rfl | decide)) a14))) (aj (aj a13 (ak (getMap (f := iv) a15))) (ag a13 (ag a13 (u2 (ag a16 (aj (aj a16 (ak (aj (show (0 : Int) ≤ (1 : Int) from (by first | exact Nat.le_of_ble_eq_true rfl | decide)) a17))) (aj (aj a16 (ak (getMap (f := iv) a18))) (ag a16 (ag a16 (u2 (ag a19 (aj (aj a19 (ak (aj (show (0 : Int) ≤ (2 : Int) from (by first | exact Nat.le_of_ble_eq_true rfl | decide)) a20))) (aj (aj a19 (ak (getMap (f := iv) a21))) (ag a19 (ag a19 s2))))))))))))))))))))))))))))))))))))))))))))))))))))))))))))))) t2)
           ·
            cases h
            exact Arr.rt [36, 46, 123, 129, 145, 159, 171, 183, 194] [(10, AV.lst []), (27, AV.tup []), (82, iv x82), (88, iv x88), (94, iv x94)] [(13, Hint.call [0] [] [tapeB [2] (netK [2] 0 4)] (netA (netM [2] 0 4))), (32, Hint.call [] [3, 2] [dB (cntL (netM [2] 0 4) [UnD.mk 1 false 0 0 (-1) 0 false false 0 1 [] 0 0] [TkD.mk 1 2 1 0 0])] (AV.tup [AV.sl 0 0 (cntL (netM [2] 0 4) [UnD.mk 1 false 0 0 (-1) 0 false false 0 1 [] 0 0] [TkD.mk 1 2 1 0 0]).length, iv 0])), (42, Hint.call [] [3, 2] [dB (cntL (netM [2] 0 4) [UnD.mk 1 false 0 0 (-1) 0 false false 0 2 [] 0 0] [TkD.mk 1 2 1 0 0])] (AV.tup [AV.sl 0 0 (cntL (netM [2] 0 4) [UnD.mk 1 false 0 0 (-1) 0 false false 0 2 [] 0 0] [TkD.mk 1 2 1 0 0]).length, iv 0])), (48, Hint.call [] [2] [] (AV.tup [AV.bool (nedB (netM [2] 0 4) [TkD.mk 1 2 1 0 0] 0 1), iv (nedE (netM [2] 0 4) [TkD.mk 1 2 1 0 0] 0 1)]))] [] [] [] mix (by kernel_rfl) (aj (u2 (aj (ak (u2 (u2 (aj (ak (k3 (al (net_ct ([2]) (0) (4) (show nat_lit 0 ≤ (5000 : Nat) from (by first | exact Nat.le_of_ble_eq_true rfl | decide)) (show (1 : Int) ≤ (4 : Int) ∧ (4 : Int) ≤ (20 : Int) from ⟨(by first | exact Nat.le_of_ble_eq_true rfl | decide), (by first | exact Nat.le_of_ble_eq_true rfl | decide)⟩))))) (ak (al (k2 n11))))))) (aj (u2 (u2 (u2 (u2 (u2 (ag a0 (ag a0 (ag a0 (ag a0 (al (aj a0 t2))))))))))) (aj a1 (aj (ak (u2 s2)) (aj (ak (u2 s2)) (aj (u2 (u2 (u2 (aj (k3 (aj t9 (aj (show nat_lit 1 = nat_lit 1 from rfl) (aj (show nat_lit 1 = nat_lit 1 from rfl) (aj (sTakenF_ct (netM [2] 0 4) ([UnD.mk 1 false 0 0 (-1) 0 false false 0 1 [] 0 0]) ([TkD.mk 1 2 1 0 0]) a2 a3) a4))))) (u2 (u2 (u2 (u2 s2)))))))) (aj (u2 (aj (ak (aj (show (0 : Int) ≤ (0 : Int) from (by first | exact Nat.le_of_ble_eq_true rfl | decide)) (show (0 : Int) < (1 : Int) from (by first | exact Nat.le_of_ble_eq_true rfl | decide)))) (u2 s2))) (aj (u2 (u2 (u2 (aj (k3 (aj t9 (aj (show nat_lit 1 = nat_lit 1 from rfl) (aj (show nat_lit 1 = nat_lit 1 from rfl) (aj (sTakenF_ct (netM [2] 0 4) ([UnD.mk 1 false 0 0 (-1) 0 false false 0 2 [] 0 0]) ([TkD.mk 1 2 1 0 0]) a2 a5) a6))))) (u2 (u2 (u2 (u2 s2)))))))) (aj (u2 (u2 (aj (k2 (aj t9 (aj (show nat_lit 1 = nat_lit 1 from rfl) (k2 (aj (sNeeds_ct a2 ([TkD.mk 1 2 1 0 0]) (0) (1)) (show ∀ (blk : Blk), blk ∈ [] → ImmB blk from (by intro _ h; cases h))))))) (u2 (u2 (u2 (u2 s2))))))) (al (u2 (u2 (u2 (aj t3 (aj t3 (aj t3 (u2 (aj t3 (aj t3 (aj t3 (u2 (ag a7 (ag a7 (u2 (ag a8 (ag a8 (ag a8 (ag a8 (ag a8 (aj (aj a8 t3) (ag a8 (u2 (ag a9 (ag a9 (ag a9 (ag a9 (aj (aj a9 t3) (ag a9 (u2 (ag a10 (aj (aj a10 (ak (aj (show (0 : Int) ≤ (1 : Int) from (by first | exact Nat.le_of_ble_eq_true rfl | decide)) a11))) (aj (aj a10 (ak (getMap (f := iv) a12))) (ag a10 (ag a10 (u2 (ag a13 (aj (aj a13 (ak (aj (show (0 : Int) ≤ (2 : Int) from (by first | exact Nat.le_of_ble_eq_true rfl | decide)) a14))) (aj (aj a13 (ak (getMap (f := iv) a15))) (ag a13 (ag a13 (u2 (ag a16 (aj (aj a16 (ak (aj (show (0 : Int) ≤ (1 : Int) from (by first | exact Nat.le_of_ble_eq_true rfl | decide)) a17))) (aj (aj a16 (ak (getMap (f := iv) a18))) (ag a16 (ag a16 (u2 (aj a19 (aj a19 (aj a19 (aj a19 (ag a19 s2))))))))))))))))))))))))))))))))))))))))))))))))))))))))))))))) t2)
          ·
           cases h
           exact Arr.rt [36, 46, 123, 129, 145, 159, 171, 182] [(10, AV.lst []), (27, AV.tup []), (82, iv x82), (88, iv x88)] [(13, Hint.call [0] [] [tapeB [2] (netK [2] 0 4)] (netA (netM [2] 0 4))), (32, Hint.call [] [3, 2] [dB (cntL (netM [2] 0 4) [UnD.mk 1 false 0 0 (-1) 0 false false 0 1 [] 0 0] [TkD.mk 1 2 1 0 0])] (AV.tup [AV.sl 0 0 (cntL (netM [2] 0 4) [UnD.mk 1 false 0 0 (-1) 0 false false 0 1 [] 0 0] [TkD.mk 1 2 1 0 0]).length, iv 0])), (42, Hint.call [] [3, 2] [dB (cntL (netM [2] 0 4) [UnD.mk 1 false 0 0 (-1) 0 false false 0 2 [] 0 0] [TkD.mk 1 2 1 0 0])] (AV.tup [AV.sl 0 0 (cntL (netM [2] 0 4) [UnD.mk 1 false 0 0 (-1) 0 false false 0 2 [] 0 0] [TkD.mk 1 2 1 0 0]).length, iv 0])), (48, Hint.call [] [2] [] (AV.tup [AV.bool (nedB (netM [2] 0 4) [TkD.mk 1 2 1 0 0] 0 1), iv (nedE (netM [2] 0 4) [TkD.mk 1 2 1 0 0] 0 1)]))] [] [] [] mix (by kernel_rfl) (aj (u2 (aj (ak (u2 (u2 (aj (ak (k3 (al (net_ct ([2]) (0) (4) (show nat_lit 0 ≤ (5000 : Nat) from (by first | exact Nat.le_of_ble_eq_true rfl | decide)) (show (1 : Int) ≤ (4 : Int) ∧ (4 : Int) ≤ (20 : Int) from ⟨(by first | exact Nat.le_of_ble_eq_true rfl | decide), (by first | exact Nat.le_of_ble_eq_true rfl | decide)⟩))))) (ak (al (k2 n11))))))) (aj (u2 (u2 (u2 (u2 (u2 (ag a0 (ag a0 (ag a0 (ag a0 (al (aj a0 t2))))))))))) (aj a1 (aj (ak (u2 s2)) (aj (ak (u2 s2)) (aj (u2 (u2 (u2 (aj (k3 (aj t9 (aj (show nat_lit 1 = nat_lit 1 from rfl) (aj (show nat_lit 1 = nat_lit 1 from rfl) (aj (sTakenF_ct (netM [2] 0 4) ([UnD.mk 1 false 0 0 (-1) 0 false false 0 1 [] 0 0]) ([TkD.mk 1 2 1 0 0]) a2 a3) a4))))) (u2 (u2 (u2 (u2 s2)))))))) (aj (u2 (aj (ak (aj (show (0 : Int) ≤ (0 : Int) from (by first | exact Nat.le_of_ble_eq_true rfl | decide)) (show (0 : Int) < (1 : Int) from (by first | exact Nat.le_of_ble_eq_true rfl | decide)))) (u2 s2))) (aj (u2 (u2 (u2 (aj (k3 (aj t9 (aj (show nat_lit 1 = nat_lit 1 from rfl) (aj (show nat_lit 1 = nat_lit 1 from rfl) (aj (sTakenF_ct (netM [2] 0 4) ([UnD.mk 1 false 0 0 (-1) 0 false false 0 2 [] 0 0]) ([TkD.mk 1 2 1 0 0]) a2 a5) a6))))) (u2 (u2 (u2 (u2 s2)))))))) (aj (u2 (u2 (aj (k2 (aj t9 (aj (show nat_lit 1 = nat_lit 1 from rfl) (k2 (aj (sNeeds_ct a2 ([TkD.mk 1 2 1 0 0]) (0) (1)) (show ∀ (blk : Blk), blk ∈ [] → ImmB blk from (by intro _ h; cases h))))))) (u2 (u2 (u2 (u2 s2))))))) (al (u2 (u2 (u2 (aj t3 (aj t3 (aj t3 (u2 (aj t3 (aj t3 (aj t3 (u2 (ag a7 (ag a7 (u2 (ag a8 (ag a8 (ag a8 (ag a8 (ag a8 (aj (aj a8 t3) (ag a8 (u2 (ag a9 (ag a9 (ag a9 (ag a9 (aj (aj a9 t3) (ag a9 (u2 (ag a10 (aj (aj a10 (ak (aj (show (0 : Int) ≤ (1 : Int) from (by first | exact Nat.le_of_ble_eq_true rfl | decide)) a11))) (aj (aj a10 (ak (getMap (f := iv) a12))) (ag a10 (ag a10 (u2 (ag a13 (aj (aj a13 (ak (aj (show (0 : Int) ≤ (2 : Int) from (by first | exact Nat.le_of_ble_eq_true rfl | decide)) a14))) (aj (aj a13 (ak (getMap (f := iv) a15))) (ag a13 (ag a13 (u2 (aj a16 (aj a16 (aj a16 (aj a16 (ag a16 (u2 (ak (k3 (aj t3 s2))))))))))))))))))))))))))))))))))))))))))))))))))))))))))))) t2)
         ·
          cases h
          exact Arr.rt [36, 46, 123, 129, 145, 159, 170] [(10, AV.lst []), (27, AV.tup []), (82, iv x82)] [(13, Hint.call [0] [] [tapeB [2] (netK [2] 0 4)] (netA (netM [2] 0 4))), (32, Hint.call [] [3, 2] [dB (cntL (netM [2] 0 4) [UnD.mk 1 false 0 0 (-1) 0 false false 0 1 [] 0 0] [TkD.mk 1 2 1 0 0])] (AV.tup [AV.sl 0 0 (cntL (netM [2] 0 4) [UnD.mk 1 false 0 0 (-1) 0 false false 0 1 [] 0 0] [TkD.mk 1 2 1 0 0]).length, iv 0])), (42, Hint.call [] [3, 2] [dB (cntL (netM [2] 0 4) [UnD.mk 1 false 0 0 (-1) 0 false false 0 2 [] 0 0] [TkD.mk 1 2 1 0 0])] (AV.tup [AV.sl 0 0 (cntL (netM [2] 0 4) [UnD.mk 1 false 0 0 (-1) 0 false false 0 2 [] 0 0] [TkD.mk 1 2 1 0 0]).length, iv 0])), (48, Hint.call [] [2] [] (AV.tup [AV.bool (nedB (netM [2] 0 4) [TkD.mk 1 2 1 0 0] 0 1), iv (nedE (netM [2] 0 4) [TkD.mk 1 2 1 0 0] 0 1)]))] [] [] [] mix (by kernel_rfl) (aj (u2 (aj (ak (u2 (u2 (aj (ak (k3 (al (net_ct ([2]) (0) (4) (show nat_lit 0 ≤ (5000 : Nat) from (by first | exact Nat.le_of_ble_eq_true rfl | decide)) (show (1 : Int) ≤ (4 : Int) ∧ (4 : Int) ≤ (20 : Int) from ⟨(by first | exact Nat.le_of_ble_eq_true rfl | decide), (by first | exact Nat.le_of_ble_eq_true rfl | decide)⟩))))) (ak (al (k2 n11))))))) (aj (u2 (u2 (u2 (u2 (u2 (ag a0 (ag a0 (ag a0 (ag a0 (al (aj a0 t2))))))))))) (aj a1 (aj (ak (u2 s2)) (aj (ak (u2 s2)) (aj (u2 (u2 (u2 (aj (k3 (aj t9 (aj (show nat_lit 1 = nat_lit 1 from rfl) (aj (show nat_lit 1 = nat_lit 1 from rfl) (aj (sTakenF_ct (netM [2] 0 4) ([UnD.mk 1 false 0 0 (-1) 0 false false 0 1 [] 0 0]) ([TkD.mk 1 2 1 0 0]) a2 a3) a4))))) (u2 (u2 (u2 (u2 s2)))))))) (aj (u2 (aj (ak (aj (show (0 : Int) ≤ (0 : Int) from (by first | exact Nat.le_of_ble_eq_true rfl | decide)) (show (0 : Int) < (1 : Int) from (by first | exact Nat.le_of_ble_eq_true rfl | decide)))) (u2 s2))) (aj (u2 (u2 (u2 (aj (k3 (aj t9 (aj (show nat_lit 1 = nat_lit 1 from rfl) (aj (show nat_lit 1 = nat_lit 1 from rfl) (aj (sTakenF_ct (netM [2] 0 4) ([UnD.mk 1 false 0 0 (-1) 0 false false 0 2 [] 0 0]) ([TkD.mk 1 2 1 0 0]) a2 a5) a6))))) (u2 (u2 (u2 (u2 s2)))))))) (aj (u2 (u2 (aj (k2 (aj t9 (aj (show nat_lit 1 = nat_lit 1 from rfl) (k2 (aj (sNeeds_ct a2 ([TkD.mk 1 2 1 0 0]) (0) (1)) (show ∀ (blk : Blk), blk ∈ [] → ImmB blk from (by intro _ h; cases h))))))) (u2 (u2 (u2 (u2 s2))))))) (al (u2 (u2 (u2 (aj t3 (aj t3 (aj t3 (u2 (aj t3 (aj t3 (aj t3 (u2 (ag a7 (ag a7 (u2 (ag a8 (ag a8 (ag a8 (ag a8 (ag a8 (aj (aj a8 t3) (ag a8 (u2 (ag a9 (ag a9 (ag a9 (ag a9 (aj (aj a9 t3) (ag a9 (u2 (ag a10 (aj (aj a10 (ak (aj (show (0 : Int) ≤ (1 : Int) from (by first | exact Nat.le_of_ble_eq_true rfl | decide)) a11))) (aj (aj a10 (ak (getMap (f := iv) a12))) (ag a10 (ag a10 (u2 (aj a13 (aj a13 (aj a13 (aj a13 (ag a13 (u2 (ak (k3 (aj t3 (u2 (ak (k3 (aj t3 s2))))))))))))))))))))))))))))))))))))))))))))))))))))))))))) t2)
        ·
         cases h
         exact Arr.rt [36, 46, 123, 129, 145, 158] [(10, AV.lst []), (27, AV.tup [])] [(13, Hint.call [0] [] [tapeB [2] (netK [2] 0 4)] (netA (netM [2] 0 4))), (32, Hint.call [] [3, 2] [dB (cntL (netM [2] 0 4) [UnD.mk 1 false 0 0 (-1) 0 false false 0 1 [] 0 0] [TkD.mk 1 2 1 0 0])] (AV.tup [AV.sl 0 0 (cntL (netM [2] 0 4) [UnD.mk 1 false 0 0 (-1) 0 false false 0 1 [] 0 0] [TkD.mk 1 2 1 0 0]).length, iv 0])), (42, Hint.call [] [3, 2] [dB (cntL (netM [2] 0 4) [UnD.mk 1 false 0 0 (-1) 0 false false 0 2 [] 0 0] [TkD.mk 1 2 1 0 0])] (AV.tup [AV.sl 0 0 (cntL (netM [2] 0 4) [UnD.mk 1 false 0 0 (-1) 0 false false 0 2 [] 0 0] [TkD.mk 1 2 1 0 0]).length, iv 0])), (48, Hint.call [] [2] [] (AV.tup [AV.bool (nedB (netM [2] 0 4) [TkD.mk 1 2 1 0 0] 0 1), iv (nedE (netM [2] 0 4) [TkD.mk 1 2 1 0 0] 0 1)]))] [] [] [] mix (by kernel_rfl) (aj (u2 (aj (ak (u2 (u2 (aj (ak (k3 (al (net_ct ([2]) (0) (4) (show nat_lit 0 ≤ (5000 : Nat) from (by first | exact Nat.le_of_ble_eq_true rfl | decide)) (show (1 : Int) ≤ (4 : Int) ∧ (4 : Int) ≤ (20 : Int) from ⟨(by first | exact Nat.le_of_ble_eq_true rfl | decide), (by first | exact Nat.le_of_ble_eq_true rfl | decide)⟩))))) (ak (al (k2 n11))))))) (aj (u2 (u2 (u2 (u2 (u2 (ag a0 (ag a0 (ag a0 (ag a0 (al (aj a0 t2))))))))))) (aj a1 (aj (ak (u2 s2)) (aj (ak (u2 s2)) (aj (u2 (u2 (u2 (aj (k3 (aj t9 (aj (show nat_lit 1 = nat_lit 1 from rfl) (aj (show nat_lit 1 = nat_lit 1 from rfl) (aj (sTakenF_ct (netM [2] 0 4) ([UnD.mk 1 false 0 0 (-1) 0 false false 0 1 [] 0 0]) ([TkD.mk 1 2 1 0 0]) a2 a3) a4))))) (u2 (u2 (u2 (u2 s2)))))))) (aj (u2 (aj (ak (aj (show (0 : Int) ≤ (0 : Int) from (by first | exact Nat.le_of_ble_eq_true rfl | decide)) (show (0 : Int) < (1 : Int) from (by first | exact Nat.le_of_ble_eq_true rfl | decide)))) (u2 s2))) (aj (u2 (u2 (u2 (aj (k3 (aj t9 (aj (show nat_lit 1 = nat_lit 1 from rfl) (aj (show nat_lit 1 = nat_lit 1 from rfl) (aj (sTakenF_ct (netM [2] 0 4) ([UnD.mk 1 false 0 0 (-1) 0 false false 0 2 [] 0 0]) ([TkD.mk 1 2 1 0 0]) a2 a5) a6))))) (u2 (u2 (u2 (u2 s2)))))))) (aj (u2 (u2 (aj (k2 (aj t9 (aj (show nat_lit 1 = nat_lit 1 from rfl) (k2 (aj (sNeeds_ct a2 ([TkD.mk 1 2 1 0 0]) (0) (1)) (show ∀ (blk : Blk), blk ∈ [] → ImmB blk from (by intro _ h; cases h))))))) (u2 (u2 (u2 (u2 s2))))))) (al (u2 (u2 (u2 (aj t3 (aj t3 (aj t3 (u2 (aj t3 (aj t3 (aj t3 (u2 (ag a7 (ag a7 (u2 (ag a8 (ag a8 (ag a8 (ag a8 (ag a8 (aj (aj a8 t3) (ag a8 (u2 (ag a9 (ag a9 (ag a9 (ag a9 (aj (aj a9 t3) (ag a9 (u2 (aj a10 (aj a10 (aj a10 (aj a10 (ag a10 (u2 (ak (k3 (aj t3 (u2 (ak (k3 (aj t3 (u2 (ak (k3 (aj t3 s2))))))))))))))))))))))))))))))))))))))))))))))))))))))))) t2)
       ·
        cases h
        exact Arr.rt [36, 46, 123, 129, 144] [(10, AV.lst []), (27, AV.tup [])] [(13, Hint.call [0] [] [tapeB [2] (netK [2] 0 4)] (netA (netM [2] 0 4))), (32, Hint.call [] [3, 2] [dB (cntL (netM [2] 0 4) [UnD.mk 1 false 0 0 (-1) 0 false false 0 1 [] 0 0] [TkD.mk 1 2 1 0 0])] (AV.tup [AV.sl 0 0 (cntL (netM [2] 0 4) [UnD.mk 1 false 0 0 (-1) 0 false false 0 1 [] 0 0] [TkD.mk 1 2 1 0 0]).length, iv 0])), (42, Hint.call [] [3, 2] [dB (cntL (netM [2] 0 4) [UnD.mk 1 false 0 0 (-1) 0 false false 0 2 [] 0 0] [TkD.mk 1 2 1 0 0])] (AV.tup [AV.sl 0 0 (cntL (netM [2] 0 4) [UnD.mk 1 false 0 0 (-1) 0 false false 0 2 [] 0 0] [TkD.mk 1 2 1 0 0]).length, iv 0])), (48, Hint.call [] [2] [] (AV.tup [AV.bool (nedB (netM [2] 0 4) [TkD.mk 1 2 1 0 0] 0 1), iv (nedE (netM [2] 0 4) [TkD.mk 1 2 1 0 0] 0 1)]))] [] [] [] mix (by kernel_rfl) (aj (u2 (aj (ak (u2 (u2 (aj (ak (k3 (al (net_ct ([2]) (0) (4) (show nat_lit 0 ≤ (5000 : Nat) from (by first | exact Nat.le_of_ble_eq_true rfl | decide)) (show (1 : Int) ≤ (4 : Int) ∧ (4 : Int) ≤ (20 : Int) from ⟨(by first | exact Nat.le_of_ble_eq_true rfl | decide), (by first | exact Nat.le_of_ble_eq_true rfl | decide)⟩))))) (ak (al (k2 n11))))))) (aj (u2 (u2 (u2 (u2 (u2 (ag a0 (ag a0 (ag a0 (ag a0 (al (aj a0 t2))))))))))) (aj a1 (aj (ak (u2 s2)) (aj (ak (u2 s2)) (aj (u2 (u2 (u2 (aj (k3 (aj t9 (aj (show nat_lit 1 = nat_lit 1 from rfl) (aj (show nat_lit 1 = nat_lit 1 from rfl) (aj (sTakenF_ct (netM [2] 0 4) ([UnD.mk 1 false 0 0 (-1) 0 false false 0 1 [] 0 0]) ([TkD.mk 1 2 1 0 0]) a2 a3) a4))))) (u2 (u2 (u2 (u2 s2)))))))) (aj (u2 (aj (ak (aj (show (0 : Int) ≤ (0 : Int) from (by first | exact Nat.le_of_ble_eq_true rfl | decide)) (show (0 : Int) < (1 : Int) from (by first | exact Nat.le_of_ble_eq_true rfl | decide)))) (u2 s2))) (aj (u2 (u2 (u2 (aj (k3 (aj t9 (aj (show nat_lit 1 = nat_lit 1 from rfl) (aj (show nat_lit 1 = nat_lit 1 from rfl) (aj (sTakenF_ct (netM [2] 0 4) ([UnD.mk 1 false 0 0 (-1) 0 false false 0 2 [] 0 0]) ([TkD.mk 1 2 1 0 0]) a2 a5) a6))))) (u2 (u2 (u2 (u2 s2)))))))) (aj (u2 (u2 (aj (k2 (aj t9 (aj (show nat_lit 1 = nat_lit 1 from rfl) (k2 (aj (sNeeds_ct a2 ([TkD.mk 1 2 1 0 0]) (0) (1)) (show ∀ (blk : Blk), blk ∈ [] → ImmB blk from (by intro _ h; cases h))))))) (u2 (u2 (u2 (u2 s2))))))) (al (u2 (u2 (u2 (aj t3 (aj t3 (aj t3 (u2 (aj t3 (aj t3 (aj t3 (u2 (ag a7 (ag a7 (u2 (ag a8 (ag a8 (ag a8 (ag a8 (ag a8 (aj (aj a8 t3) (ag a8 (u2 (aj a9 (aj a9 (aj a9 (aj a9 (aj a9 (ag a9 (u2 (ak (k3 (aj t3 (u2 (ak (k3 (aj t3 (u2 (ak (k3 (aj t3 (u2 (ak (k3 (aj t3 s2))))))))))))))))))))))))))))))))))))))))))))))))))))))) t2)
      ·
       cases h
       exact Arr.rt [36, 46, 123, 128] [(10, AV.lst []), (27, AV.tup [])] [(13, Hint.call [0] [] [tapeB [2] (netK [2] 0 4)] (netA (netM [2] 0 4))), (32, Hint.call [] [3, 2] [dB (cntL (netM [2] 0 4) [UnD.mk 1 false 0 0 (-1) 0 false false 0 1 [] 0 0] [TkD.mk 1 2 1 0 0])] (AV.tup [AV.sl 0 0 (cntL (netM [2] 0 4) [UnD.mk 1 false 0 0 (-1) 0 false false 0 1 [] 0 0] [TkD.mk 1 2 1 0 0]).length, iv 0])), (42, Hint.call [] [3, 2] [dB (cntL (netM [2] 0 4) [UnD.mk 1 false 0 0 (-1) 0 false false 0 2 [] 0 0] [TkD.mk 1 2 1 0 0])] (AV.tup [AV.sl 0 0 (cntL (netM [2] 0 4) [UnD.mk 1 false 0 0 (-1) 0 false false 0 2 [] 0 0] [TkD.mk 1 2 1 0 0]).length, iv 0])), (48, Hint.call [] [2] [] (AV.tup [AV.bool (nedB (netM [2] 0 4) [TkD.mk 1 2 1 0 0] 0 1), iv (nedE (netM [2] 0 4) [TkD.mk 1 2 1 0 0] 0 1)]))] [] [] [] mix (by kernel_rfl) (aj (u2 (aj (ak (u2 (u2 (aj (ak (k3 (al (net_ct ([2]) (0) (4) (show nat_lit 0 ≤ (5000 : Nat) from (by first | exact Nat.le_of_ble_eq_true rfl | decide)) (show (1 : Int) ≤ (4 : Int) ∧ (4 : Int) ≤ (20 : Int) from ⟨(by first | exact Nat.le_of_ble_eq_true rfl | decide), (by first | exact Nat.le_of_ble_eq_true rfl | decide)⟩))))) (ak (al (k2 n11))))))) (aj (u2 (u2 (u2 (u2 (u2 (ag a0 (ag a0 (ag a0 (ag a0 (al (aj a0 t2))))))))))) (aj a1 (aj (ak (u2 s2)) (aj (ak (u2 s2)) (aj (u2 (u2 (u2 (aj (k3 (aj t9 (aj (show nat_lit 1 = nat_lit 1 from rfl) (aj (show nat_lit 1 = nat_lit 1 from rfl) (aj (sTakenF_ct (netM [2] 0 4) ([UnD.mk 1 false 0 0 (-1) 0 false false 0 1 [] 0 0]) ([TkD.mk 1 2 1 0 0]) a2 a3) a4))))) (u2 (u2 (u2 (u2 s2)))))))) (aj (u2 (aj (ak (aj (show (0 : Int) ≤ (0 : Int) from (by first | exact Nat.le_of_ble_eq_true rfl | decide)) (show (0 : Int) < (1 : Int) from (by first | exact Nat.le_of_ble_eq_true rfl | decide)))) (u2 s2))) (aj (u2 (u2 (u2 (aj (k3 (aj t9 (aj (show nat_lit 1 = nat_lit 1 from rfl) (aj (show nat_lit 1 = nat_lit 1 from rfl) (aj (sTakenF_ct (netM [2] 0 4) ([UnD.mk 1 false 0 0 (-1) 0 false false 0 2 [] 0 0]) ([TkD.mk 1 2 1 0 0]) a2 a5) a6))))) (u2 (u2 (u2 (u2 s2)))))))) (aj (u2 (u2 (aj (k2 (aj t9 (aj (show nat_lit 1 = nat_lit 1 from rfl) (k2 (aj (sNeeds_ct a2 ([TkD.mk 1 2 1 0 0]) (0) (1)) (show ∀ (blk : Blk), blk ∈ [] → ImmB blk from (by intro _ h; cases h))))))) (u2 (u2 (u2 (u2 s2))))))) (al (u2 (u2 (u2 (aj t3 (aj t3 (aj t3 (u2 (aj t3 (aj t3 (aj t3 (u2 (ag a7 (ag a7 (u2 (aj a8 (aj a8 (aj a8 (aj a8 (aj a8 (aj a8 (ag a8 (u2 (k5 (aj t3 (u2 (ak (k3 (aj t3 (u2 (ak (k3 (aj t3 (u2 (ak (k3 (aj t3 (u2 (ak (k3 (aj t3 s2))))))))))))))))))))))))))))))))))))))))))))))))))) t2)
     ·
      cases h
      exact Arr.rt [36, 46, 122] [(10, AV.lst []), (27, AV.tup [])] [(13, Hint.call [0] [] [tapeB [2] (netK [2] 0 4)] (netA (netM [2] 0 4))), (32, Hint.call [] [3, 2] [dB (cntL (netM [2] 0 4) [UnD.mk 1 false 0 0 (-1) 0 false false 0 1 [] 0 0] [TkD.mk 1 2 1 0 0])] (AV.tup [AV.sl 0 0 (cntL (netM [2] 0 4) [UnD.mk 1 false 0 0 (-1) 0 false false 0 1 [] 0 0] [TkD.mk 1 2 1 0 0]).length, iv 0])), (42, Hint.call [] [3, 2] [dB (cntL (netM [2] 0 4) [UnD.mk 1 false 0 0 (-1) 0 false false 0 2 [] 0 0] [TkD.mk 1 2 1 0 0])] (AV.tup [AV.sl 0 0 (cntL (netM [2] 0 4) [UnD.mk 1 false 0 0 (-1) 0 false false 0 2 [] 0 0] [TkD.mk 1 2 1 0 0]).length, iv 0])), (48, Hint.call [] [2] [] (AV.tup [AV.bool (nedB (netM [2] 0 4) [TkD.mk 1 2 1 0 0] 0 1), iv (nedE (netM [2] 0 4) [TkD.mk 1 2 1 0 0] 0 1)]))] [] [] [] mix (by kernel_rfl) (aj (u2 (aj (ak (u2 (u2 (aj (ak (k3 (al (net_ct ([2]) (0) (4) (show nat_lit 0 ≤ (5000 : Nat) from (by first | exact Nat.le_of_ble_eq_true rfl | decide)) (show (1 : Int) ≤ (4 : Int) ∧ (4 : Int) ≤ (20 : Int) from ⟨(by first | exact Nat.le_of_ble_eq_true rfl | decide), (by first | exact Nat.le_of_ble_eq_true rfl | decide)⟩))))) (ak (al (k2 n11))))))) (aj (u2 (u2 (u2 (u2 (u2 (ag a0 (ag a0 (ag a0 (ag a0 (al (aj a0 t2))))))))))) (aj a1 (aj (ak (u2 s2)) (aj (ak (u2 s2)) (aj (u2 (u2 (u2 (aj (k3 (aj t9 (aj (show nat_lit 1 = nat_lit 1 from rfl) (aj (show nat_lit 1 = nat_lit 1 from rfl) (aj (sTakenF_ct (netM [2] 0 4) ([UnD.mk 1 false 0 0 (-1) 0 false false 0 1 [] 0 0]) ([TkD.mk 1 2 1 0 0]) a2 a3) a4))))) (u2 (u2 (u2 (u2 s2)))))))) (aj (u2 (aj (ak (aj (show (0 : Int) ≤ (0 : Int) from (by first | exact Nat.le_of_ble_eq_true rfl | decide)) (show (0 : Int) < (1 : Int) from (by first | exact Nat.le_of_ble_eq_true rfl | decide)))) (u2 s2))) (aj (u2 (u2 (u2 (aj (k3 (aj t9 (aj (show nat_lit 1 = nat_lit 1 from rfl) (aj (show nat_lit 1 = nat_lit 1 from rfl) (aj (sTakenF_ct (netM [2] 0 4) ([UnD.mk 1 false 0 0 (-1) 0 false false 0 2 [] 0 0]) ([TkD.mk 1 2 1 0 0]) a2 a5) a6))))) (u2 (u2 (u2 (u2 s2)))))))) (aj (u2 (u2 (aj (k2 (aj t9 (aj (show nat_lit 1 = nat_lit 1 from rfl) (k2 (aj (sNeeds_ct a2 ([TkD.mk 1 2 1 0 0]) (0) (1)) (show ∀ (blk : Blk), blk ∈ [] → ImmB blk from (by intro _ h; cases h))))))) (u2 (u2 (u2 (u2 s2))))))) (al (u2 (u2 (u2 (aj t3 (aj t3 (aj t3 (u2 (aj t3 (aj t3 (aj t3 (u2 (aj a7 (ag a7 (u2 (ak (k5 (aj t3 (u2 (k5 (aj t3 (u2 (ak (k3 (aj t3 (u2 (ak (k3 (aj t3 (u2 (ak (k3 (aj t3 (u2 (ak (k3 (aj t3 s2))))))))))))))))))))))))))))))))))))))))))))))) t2)
    ·
     cases h
   ·
    cases h
theorem kn_ct (r : Ret) (h : MReach (knStep) (knEn) r) : CT Try.prog 15 ([]) ([]) r.1 r.2 :=
  CT.mach (fn := Try.f15) (c := bodyOf Try.f15) (S := knSt) (hd := knHd) Try.func15 (by kernel_rfl) (Nat.le_of_ble_eq_true rfl)
    (fun s o ho => match s, ho with
      | x, _ => x.elim)
    (fun o ho => knEn_ok o ho) h
theorem dB_imm (l : List Int) : ImmB (dB l) := by
  intro e he c hc
  obtain ⟨x, _, rfl⟩ := List.mem_map.1 he
  rw [List.mem_singleton.1 hc]; rfl
theorem dB_imms (l : List Int) : ∀ blk ∈ [dB l], ImmB blk := fun b hb => by rw [List.mem_singleton.1 hb]; exact dB_imm l
theorem consB_of {n : NetD} {u : List UnD} {t : List TkD} (c : ConsP n u t) : consB n u t = true := by
  unfold consB
  simp only [Bool.and_eq_true, decide_eq_true_eq, List.all_eq_true]
  exact ⟨⟨⟨⟨valB_iff.2 c.v, c.u8⟩, c.t32⟩, fun x hx => by unfold consT; rw [(c.t x hx).1, (c.t x hx).2]; rfl⟩, c.u⟩
theorem tcn_at {n : NetD} {u : List UnD} {t : List TkD} {i : Nat} {s : SpuD} (hs : n.ss[i]? = some s) : tcn n u t i = if s.dep = true then 0 else (u.filter (tcx n t i)).length := by
  have hst : stB n i = !s.dep := by unfold stB; rw [dec_t (by omega), Int.toNat_natCast, hs, Bool.true_and]
  unfold tcn tcj
  rw [hst, List.take_length]
  cases s.dep <;> rfl
theorem tkP_at {n : NetD} {x : UnD} {t : List TkD} {i : Nat} {s : SpuD} (hs : n.ss[i]? = some s) : tkP n x t i = tkB x t s i := by
  unfold tkP; rw [Int.toNat_natCast, hs]
theorem inP_lo {n : NetD} (hv : ValidN n) {i : Nat} {s : SpuD} (hs : n.ss[i]? = some s) {c : Int} (hc : c ≤ 0) : inP c s = false := by
  have := hv.sb hs; unfold inP; simp; omega
theorem known_ct : CT Try.prog 15 [] [] [] (.bool true) := by
  refine kn_ct ([], _) (.val ?_)
  have hs := net_spec (L := [2]) (kk := 0) (most := 4) (by omega) (by omega)
  have hn := hs.1
  have hl := hn.loose
  generalize he : netM [2] 0 4 = n at hn hl
  have hv := hn.v
  have hce := hv.cel
  have nb := hv.nb24
  have hln := hn.ln
  have hcons : ∀ ph, consB n [UnD.mk 1 false 0 0 (-1) 0 false false 0 ph [] 0 0] [TkD.mk 1 2 1 0 0] = true := fun ph => consB_of ⟨hv, by simp, by simp, (fun x hx => by rw [List.mem_singleton.1 hx]; simp [consU]; omega), fun x hx => by rw [List.mem_singleton.1 hx]; exact ⟨hl.st1, hl.st2⟩⟩
  have hcons0 : consB n [] [TkD.mk 1 2 1 0 0] = true := consB_of ⟨hv, Nat.zero_le _, by simp, (fun x hx => by cases hx), fun x hx => by rw [List.mem_singleton.1 hx]; exact ⟨hl.st1, hl.st2⟩⟩
  obtain ⟨s1, hs1⟩ : ∃ s, n.ss[1]? = some s := ⟨_, List.getElem?_eq_getElem (by omega)⟩
  obtain ⟨s2, hs2⟩ : ∃ s, n.ss[2]? = some s := ⟨_, List.getElem?_eq_getElem (by omega)⟩
  have d1 := hn.d1 _ hs1
  have d2 := hn.d2 _ hs2
  have at1 : ∀ ph, tcn n [UnD.mk 1 false 0 0 (-1) 0 false false 0 ph [] 0 0] [TkD.mk 1 2 1 0 0] 1 = if ph = 1 then 1 else 0 := fun ph => by
    rw [tcn_at hs1, d1, if_neg (by simp)]
    have e : tcx n [TkD.mk 1 2 1 0 0] 1 (UnD.mk 1 false 0 0 (-1) 0 false false 0 ph [] 0 0) = decide (ph = 1) := by
      unfold tcx
      rw [tkP_at hs1]
      unfold tkB
      simp only
      rw [inP_lo hv hs1 (by omega), inP_lo hv hs1 (by omega)]
      unfold tkPh
      simp
      rfl
    by_cases h : ph = 1
    · subst h; simp [List.filter, e]
    · simp [List.filter, e, h]
  have at2 : ∀ ph, (ph = 1 ∨ ph = 2) → tcn n [UnD.mk 1 false 0 0 (-1) 0 false false 0 ph [] 0 0] [TkD.mk 1 2 1 0 0] 2 = 1 := fun ph h => by
    rw [tcn_at hs2, d2, if_neg (by simp)]
    have e : tcx n [TkD.mk 1 2 1 0 0] 2 (UnD.mk 1 false 0 0 (-1) 0 false false 0 ph [] 0 0) = true := by
      unfold tcx
      rw [tkP_at hs2]
      unfold tkB
      simp only
      rw [inP_lo hv hs2 (by omega), inP_lo hv hs2 (by omega)]
      unfold tkPh
      rcases h with rfl | rfl <;> simp
    simp [List.filter, e]
  have len : ∀ (u : List UnD) (t : List TkD), (cntL n u t).length = n.ss.length := fun u t => by simp [cntL]
  have hrs : n.rs.length ≠ 0 := fun e => hn.rb (List.length_eq_zero_iff.1 e)
  have e1 : nedE n [TkD.mk 1 2 1 0 0] 0 1 = 0 := by unfold nedE; rw [if_pos hcons0, if_neg (by simp; omega)]
  have e2 : nedB n [TkD.mk 1 2 1 0 0] 0 1 = true := by
    unfold nedB; rw [hcons0]; simp [needB]; omega
  have a1 : (cntL n [UnD.mk 1 false 0 0 (-1) 0 false false 0 1 [] 0 0] [TkD.mk 1 2 1 0 0])[1]? = some 1 := by rw [cntL_at (by omega), at1]; rfl
  have a2 : (cntL n [UnD.mk 1 false 0 0 (-1) 0 false false 0 1 [] 0 0] [TkD.mk 1 2 1 0 0])[2]? = some 1 := by rw [cntL_at (by omega), at2 1 (.inl rfl)]; rfl
  have b1 : (cntL n [UnD.mk 1 false 0 0 (-1) 0 false false 0 2 [] 0 0] [TkD.mk 1 2 1 0 0])[1]? = some 0 := by rw [cntL_at (by omega), at1]; rfl
  have b2 : (cntL n [UnD.mk 1 false 0 0 (-1) 0 false false 0 2 [] 0 0] [TkD.mk 1 2 1 0 0])[2]? = some 1 := by rw [cntL_at (by omega), at2 2 (.inr rfl)]; rfl
  have l1 : iN (cntL n [UnD.mk 1 false 0 0 (-1) 0 false false 0 1 [] 0 0] [TkD.mk 1 2 1 0 0]).length = n.ss.length := by simp [iN, len]
  have l2 : iN (cntL n [UnD.mk 1 false 0 0 (-1) 0 false false 0 2 [] 0 0] [TkD.mk 1 2 1 0 0]).length = n.ss.length := by simp [iN, len]
  have l3 : iN (List.map sA n.ss).length = n.ss.length := by simp [iN]
  unfold knEn
  simp only [he]
  rw [br_f (dec_f (by rw [l3]; omega)), br_f (by simpa [iN] using hrs), gu_t hn.rows, br_t (hcons 1), gu_t (dB_imms _), br_t (hcons 2), gu_t (dB_imms _), e1, e2, br_t (by rfl), br_t rfl, l1, l2, l3, br_t (by simp), br_t (by simp), gu_t (by omega)]
  rw [el_t a1, br_t (by rfl), gu_t (by omega), el_t a2, br_t (by rfl), gu_t (by omega), el_t b1, br_t (by rfl), gu_t (by omega), el_t b2]
  rfl
theorem rdInts {n : Nat} {es : List AV} (h : ∀ x ∈ es, ShV Try.prog n 3 x) : ∃ L : List Int, es = L.map (AV.int .i64) := by
  induction es with
  | nil => exact ⟨[], rfl⟩
  | cons x es ih =>
    obtain ⟨L, rfl⟩ := ih fun y hy => h y (List.mem_cons_of_mem _ hy)
    obtain ⟨i, _, rfl⟩ := (h x (by simp)).intD Try.underlying3
    exact ⟨i :: L, rfl⟩
inductive stFPc where
  | l0 (v0 : List Int) (v1 : Bool) (v2 : List Int) (v3 : Int)
noncomputable def stFSt (l : List Int) : stFPc → St
  | .l0 v0 v1 v2 v3 => St.mk 154 [(4, AV.ptr 0 0 0), (8, AV.sl 1 0 v0.length), (10, AV.bool v1), (12, AV.sl 2 0 v2.length), (14, iv v3)] [some (Blk.mk [netA (netM l 0 6)] 8 true true none), some (Blk.mk (List.map (iv) v0) 1 true true none), some (Blk.mk (List.map (iv) v2) 1 true true none)]
def stFHd : stFPc → Nat
  | .l0 _ _ _ _ => 0
noncomputable def stFEn (l : List Int) : Option (stFPc ⊕ Ret) :=
  gu (LooseOk (netM l 0 6)) <|
  gu (netK l 0 6 ≤ 10000) <|
  el ((netM l 0 6).rs) (Int.toNat 0) fun (x32 : Int) =>
  gu ((List.map unA (mafU (netM l 0 6) l (netK l 0 6))).length + [AV.agg [AV.int IntKind.i64 1, AV.bool false, AV.int IntKind.i64 0, AV.int IntKind.i64 x32, AV.int IntKind.i64 (-1), AV.int IntKind.u64 0, AV.bool false, AV.bool false, AV.int IntKind.i64 (-1), AV.int IntKind.i64 0, AV.lst [], AV.int IntKind.i64 0, AV.int IntKind.i64 0]].length ≤ 9223372036854775807) <|
  gu (((List.map unA (mafU (netM l 0 6) l (netK l 0 6))).length + [AV.agg [AV.int IntKind.i64 1, AV.bool false, AV.int IntKind.i64 0, AV.int IntKind.i64 x32, AV.int IntKind.i64 (-1), AV.int IntKind.u64 0, AV.bool false, AV.bool false, AV.int IntKind.i64 (-1), AV.int IntKind.i64 0, AV.lst [], AV.int IntKind.i64 0, AV.int IntKind.i64 0]].length) * 112 ≤ 140737488355328) <|
  gu ((List.map tkA (mafT (netM l 0 6) l (netK l 0 6))).length + 1 ≤ 9223372036854775807) <|
  gu (((List.map tkA (mafT (netM l 0 6) l (netK l 0 6))).length + 1) * 40 ≤ 140737488355328) <|
  gu (Rows (netM l 0 6).nx) <|
  br (consB (netM l 0 6) (mafU (netM l 0 6) l (netK l 0 6) ++ [UnD.mk 1 false 0 x32 (-1) 0 false false (-1) 0 [] 0 0]) (mafT (netM l 0 6) l (netK l 0 6) ++ [TkD.mk 1 2 0 (-1) 0]))
  (gu (∀ (blk : Blk), blk ∈ [dB (cntL (netM l 0 6) (mafU (netM l 0 6) l (netK l 0 6) ++ [UnD.mk 1 false 0 x32 (-1) 0 false false (-1) 0 [] 0 0]) (mafT (netM l 0 6) l (netK l 0 6) ++ [TkD.mk 1 2 0 (-1) 0]))] → ImmB blk) <|
   gu (0 ≤ IntKind.i64.wrap (iN ((List.map unA (mafU (netM l 0 6) l (netK l 0 6))).length + [AV.agg [AV.int IntKind.i64 1, AV.bool false, AV.int IntKind.i64 0, AV.int IntKind.i64 x32, AV.int IntKind.i64 (-1), AV.int IntKind.u64 0, AV.bool false, AV.bool false, AV.int IntKind.i64 (-1), AV.int IntKind.i64 0, AV.lst [], AV.int IntKind.i64 0, AV.int IntKind.i64 0]].length) - 1)) <|
   gu (IntKind.i64.wrap (iN ((List.map unA (mafU (netM l 0 6) l (netK l 0 6))).length + [AV.agg [AV.int IntKind.i64 1, AV.bool false, AV.int IntKind.i64 0, AV.int IntKind.i64 x32, AV.int IntKind.i64 (-1), AV.int IntKind.u64 0, AV.bool false, AV.bool false, AV.int IntKind.i64 (-1), AV.int IntKind.i64 0, AV.lst [], AV.int IntKind.i64 0, AV.int IntKind.i64 0]].length) - 1) < iN ((List.map unA (mafU (netM l 0 6) l (netK l 0 6))).length + [AV.agg [AV.int IntKind.i64 1, AV.bool false, AV.int IntKind.i64 0, AV.int IntKind.i64 x32, AV.int IntKind.i64 (-1), AV.int IntKind.u64 0, AV.bool false, AV.bool false, AV.int IntKind.i64 (-1), AV.int IntKind.i64 0, AV.lst [], AV.int IntKind.i64 0, AV.int IntKind.i64 0]].length)) <|
   el (mafU (netM l 0 6) l (netK l 0 6) ++ [UnD.mk 1 false 0 x32 (-1) 0 false false (-1) 0 [] 0 0]) (0 + (IntKind.i64.wrap (iN ((List.map unA (mafU (netM l 0 6) l (netK l 0 6))).length + [AV.agg [AV.int IntKind.i64 1, AV.bool false, AV.int IntKind.i64 0, AV.int IntKind.i64 x32, AV.int IntKind.i64 (-1), AV.int IntKind.u64 0, AV.bool false, AV.bool false, AV.int IntKind.i64 (-1), AV.int IntKind.i64 0, AV.lst [], AV.int IntKind.i64 0, AV.int IntKind.i64 0]].length) - 1)).toNat) fun (x69 : UnD) =>
   el ((mafU (netM l 0 6) l (netK l 0 6) ++ [UnD.mk 1 false 0 x32 (-1) 0 false false (-1) 0 [] 0 0]).set (0 + (IntKind.i64.wrap (iN ((List.map unA (mafU (netM l 0 6) l (netK l 0 6))).length + [AV.agg [AV.int IntKind.i64 1, AV.bool false, AV.int IntKind.i64 0, AV.int IntKind.i64 x32, AV.int IntKind.i64 (-1), AV.int IntKind.u64 0, AV.bool false, AV.bool false, AV.int IntKind.i64 (-1), AV.int IntKind.i64 0, AV.lst [], AV.int IntKind.i64 0, AV.int IntKind.i64 0]].length) - 1)).toNat) (UnD.mk x69.sta x69.lv x69.hm x69.cl x69.to x69.sq x69.sv x69.ak (IntKind.i64.wrap (iN ((List.map tkA (mafT (netM l 0 6) l (netK l 0 6))).length + 1) - 1)) x69.ph x69.11 x69.wt x69.dt)) (0 + (IntKind.i64.wrap (iN ((List.map unA (mafU (netM l 0 6) l (netK l 0 6))).length + [AV.agg [AV.int IntKind.i64 1, AV.bool false, AV.int IntKind.i64 0, AV.int IntKind.i64 x32, AV.int IntKind.i64 (-1), AV.int IntKind.u64 0, AV.bool false, AV.bool false, AV.int IntKind.i64 (-1), AV.int IntKind.i64 0, AV.lst [], AV.int IntKind.i64 0, AV.int IntKind.i64 0]].length) - 1)).toNat) fun (x71 : UnD) =>
   gu (0 ≤ IntKind.i64.wrap (iN ((List.map tkA (mafT (netM l 0 6) l (netK l 0 6))).length + 1) - 1)) <|
   gu (IntKind.i64.wrap (iN ((List.map tkA (mafT (netM l 0 6) l (netK l 0 6))).length + 1) - 1) < iN ((List.map tkA (mafT (netM l 0 6) l (netK l 0 6))).length + 1)) <|
   el (mafT (netM l 0 6) l (netK l 0 6) ++ [TkD.mk 1 2 0 (-1) 0]) (0 + (IntKind.i64.wrap (iN ((List.map tkA (mafT (netM l 0 6) l (netK l 0 6))).length + 1) - 1)).toNat) fun (x75 : TkD) =>
   br (consB (netM l 0 6) (((mafU (netM l 0 6) l (netK l 0 6) ++ [UnD.mk 1 false 0 x32 (-1) 0 false false (-1) 0 [] 0 0]).set (0 + (IntKind.i64.wrap (iN ((List.map unA (mafU (netM l 0 6) l (netK l 0 6))).length + [AV.agg [AV.int IntKind.i64 1, AV.bool false, AV.int IntKind.i64 0, AV.int IntKind.i64 x32, AV.int IntKind.i64 (-1), AV.int IntKind.u64 0, AV.bool false, AV.bool false, AV.int IntKind.i64 (-1), AV.int IntKind.i64 0, AV.lst [], AV.int IntKind.i64 0, AV.int IntKind.i64 0]].length) - 1)).toNat) (UnD.mk x69.sta x69.lv x69.hm x69.cl x69.to x69.sq x69.sv x69.ak (IntKind.i64.wrap (iN ((List.map tkA (mafT (netM l 0 6) l (netK l 0 6))).length + 1) - 1)) x69.ph x69.11 x69.wt x69.dt)).set (0 + (IntKind.i64.wrap (iN ((List.map unA (mafU (netM l 0 6) l (netK l 0 6))).length + [AV.agg [AV.int IntKind.i64 1, AV.bool false, AV.int IntKind.i64 0, AV.int IntKind.i64 x32, AV.int IntKind.i64 (-1), AV.int IntKind.u64 0, AV.bool false, AV.bool false, AV.int IntKind.i64 (-1), AV.int IntKind.i64 0, AV.lst [], AV.int IntKind.i64 0, AV.int IntKind.i64 0]].length) - 1)).toNat) (UnD.mk x71.sta x71.lv x71.hm x71.cl x71.to x71.sq x71.sv x71.ak x71.tk 1 x71.11 x71.wt x71.dt)) ((mafT (netM l 0 6) l (netK l 0 6) ++ [TkD.mk 1 2 0 (-1) 0]).set (0 + (IntKind.i64.wrap (iN ((List.map tkA (mafT (netM l 0 6) l (netK l 0 6))).length + 1) - 1)).toNat) (TkD.mk x75.pk x75.dr 1 x75.rb x75.ov)))
   (gu (∀ (blk : Blk), blk ∈ [dB (cntL (netM l 0 6) (((mafU (netM l 0 6) l (netK l 0 6) ++ [UnD.mk 1 false 0 x32 (-1) 0 false false (-1) 0 [] 0 0]).set (0 + (IntKind.i64.wrap (iN ((List.map unA (mafU (netM l 0 6) l (netK l 0 6))).length + [AV.agg [AV.int IntKind.i64 1, AV.bool false, AV.int IntKind.i64 0, AV.int IntKind.i64 x32, AV.int IntKind.i64 (-1), AV.int IntKind.u64 0, AV.bool false, AV.bool false, AV.int IntKind.i64 (-1), AV.int IntKind.i64 0, AV.lst [], AV.int IntKind.i64 0, AV.int IntKind.i64 0]].length) - 1)).toNat) (UnD.mk x69.sta x69.lv x69.hm x69.cl x69.to x69.sq x69.sv x69.ak (IntKind.i64.wrap (iN ((List.map tkA (mafT (netM l 0 6) l (netK l 0 6))).length + 1) - 1)) x69.ph x69.11 x69.wt x69.dt)).set (0 + (IntKind.i64.wrap (iN ((List.map unA (mafU (netM l 0 6) l (netK l 0 6))).length + [AV.agg [AV.int IntKind.i64 1, AV.bool false, AV.int IntKind.i64 0, AV.int IntKind.i64 x32, AV.int IntKind.i64 (-1), AV.int IntKind.u64 0, AV.bool false, AV.bool false, AV.int IntKind.i64 (-1), AV.int IntKind.i64 0, AV.lst [], AV.int IntKind.i64 0, AV.int IntKind.i64 0]].length) - 1)).toNat) (UnD.mk x71.sta x71.lv x71.hm x71.cl x71.to x71.sq x71.sv x71.ak x71.tk 1 x71.11 x71.wt x71.dt)) ((mafT (netM l 0 6) l (netK l 0 6) ++ [TkD.mk 1 2 0 (-1) 0]).set (0 + (IntKind.i64.wrap (iN ((List.map tkA (mafT (netM l 0 6) l (netK l 0 6))).length + 1) - 1)).toNat) (TkD.mk x75.pk x75.dr 1 x75.rb x75.ov)))] → ImmB blk) <|
    br (staE (netM l 0 6) (mafU (netM l 0 6) l (netK l 0 6) ++ [UnD.mk 1 false 0 x32 (-1) 0 false false (-1) 0 [] 0 0]) (mafT (netM l 0 6) l (netK l 0 6) ++ [TkD.mk 1 2 0 (-1) 0]) (IntKind.i64.wrap (iN ((List.map tkA (mafT (netM l 0 6) l (netK l 0 6))).length + 1) - 1)) != 0)
    (some (.inr ([], AV.bool false)))
    (br (iN (cntL (netM l 0 6) (mafU (netM l 0 6) l (netK l 0 6) ++ [UnD.mk 1 false 0 x32 (-1) 0 false false (-1) 0 [] 0 0]) (mafT (netM l 0 6) l (netK l 0 6) ++ [TkD.mk 1 2 0 (-1) 0])).length != iN (List.map sA (netM l 0 6).ss).length)
     (some (.inr ([], AV.bool false)))
     (br (iN (cntL (netM l 0 6) (((mafU (netM l 0 6) l (netK l 0 6) ++ [UnD.mk 1 false 0 x32 (-1) 0 false false (-1) 0 [] 0 0]).set (0 + (IntKind.i64.wrap (iN ((List.map unA (mafU (netM l 0 6) l (netK l 0 6))).length + [AV.agg [AV.int IntKind.i64 1, AV.bool false, AV.int IntKind.i64 0, AV.int IntKind.i64 x32, AV.int IntKind.i64 (-1), AV.int IntKind.u64 0, AV.bool false, AV.bool false, AV.int IntKind.i64 (-1), AV.int IntKind.i64 0, AV.lst [], AV.int IntKind.i64 0, AV.int IntKind.i64 0]].length) - 1)).toNat) (UnD.mk x69.sta x69.lv x69.hm x69.cl x69.to x69.sq x69.sv x69.ak (IntKind.i64.wrap (iN ((List.map tkA (mafT (netM l 0 6) l (netK l 0 6))).length + 1) - 1)) x69.ph x69.11 x69.wt x69.dt)).set (0 + (IntKind.i64.wrap (iN ((List.map unA (mafU (netM l 0 6) l (netK l 0 6))).length + [AV.agg [AV.int IntKind.i64 1, AV.bool false, AV.int IntKind.i64 0, AV.int IntKind.i64 x32, AV.int IntKind.i64 (-1), AV.int IntKind.u64 0, AV.bool false, AV.bool false, AV.int IntKind.i64 (-1), AV.int IntKind.i64 0, AV.lst [], AV.int IntKind.i64 0, AV.int IntKind.i64 0]].length) - 1)).toNat) (UnD.mk x71.sta x71.lv x71.hm x71.cl x71.to x71.sq x71.sv x71.ak x71.tk 1 x71.11 x71.wt x71.dt)) ((mafT (netM l 0 6) l (netK l 0 6) ++ [TkD.mk 1 2 0 (-1) 0]).set (0 + (IntKind.i64.wrap (iN ((List.map tkA (mafT (netM l 0 6) l (netK l 0 6))).length + 1) - 1)).toNat) (TkD.mk x75.pk x75.dr 1 x75.rb x75.ov))).length != iN (cntL (netM l 0 6) (mafU (netM l 0 6) l (netK l 0 6) ++ [UnD.mk 1 false 0 x32 (-1) 0 false false (-1) 0 [] 0 0]) (mafT (netM l 0 6) l (netK l 0 6) ++ [TkD.mk 1 2 0 (-1) 0])).length)
      (some (.inr ([], AV.bool false)))
      (some (.inl (.l0 (cntL (netM l 0 6) (mafU (netM l 0 6) l (netK l 0 6) ++ [UnD.mk 1 false 0 x32 (-1) 0 false false (-1) 0 [] 0 0]) (mafT (netM l 0 6) l (netK l 0 6) ++ [TkD.mk 1 2 0 (-1) 0])) (staB (netM l 0 6) (mafU (netM l 0 6) l (netK l 0 6) ++ [UnD.mk 1 false 0 x32 (-1) 0 false false (-1) 0 [] 0 0]) (mafT (netM l 0 6) l (netK l 0 6) ++ [TkD.mk 1 2 0 (-1) 0]) (IntKind.i64.wrap (iN ((List.map tkA (mafT (netM l 0 6) l (netK l 0 6))).length + 1) - 1))) (cntL (netM l 0 6) (((mafU (netM l 0 6) l (netK l 0 6) ++ [UnD.mk 1 false 0 x32 (-1) 0 false false (-1) 0 [] 0 0]).set (0 + (IntKind.i64.wrap (iN ((List.map unA (mafU (netM l 0 6) l (netK l 0 6))).length + [AV.agg [AV.int IntKind.i64 1, AV.bool false, AV.int IntKind.i64 0, AV.int IntKind.i64 x32, AV.int IntKind.i64 (-1), AV.int IntKind.u64 0, AV.bool false, AV.bool false, AV.int IntKind.i64 (-1), AV.int IntKind.i64 0, AV.lst [], AV.int IntKind.i64 0, AV.int IntKind.i64 0]].length) - 1)).toNat) (UnD.mk x69.sta x69.lv x69.hm x69.cl x69.to x69.sq x69.sv x69.ak (IntKind.i64.wrap (iN ((List.map tkA (mafT (netM l 0 6) l (netK l 0 6))).length + 1) - 1)) x69.ph x69.11 x69.wt x69.dt)).set (0 + (IntKind.i64.wrap (iN ((List.map unA (mafU (netM l 0 6) l (netK l 0 6))).length + [AV.agg [AV.int IntKind.i64 1, AV.bool false, AV.int IntKind.i64 0, AV.int IntKind.i64 x32, AV.int IntKind.i64 (-1), AV.int IntKind.u64 0, AV.bool false, AV.bool false, AV.int IntKind.i64 (-1), AV.int IntKind.i64 0, AV.lst [], AV.int IntKind.i64 0, AV.int IntKind.i64 0]].length) - 1)).toNat) (UnD.mk x71.sta x71.lv x71.hm x71.cl x71.to x71.sq x71.sv x71.ak x71.tk 1 x71.11 x71.wt x71.dt)) ((mafT (netM l 0 6) l (netK l 0 6) ++ [TkD.mk 1 2 0 (-1) 0]).set (0 + (IntKind.i64.wrap (iN ((List.map tkA (mafT (netM l 0 6) l (netK l 0 6))).length + 1) - 1)).toNat) (TkD.mk x75.pk x75.dr 1 x75.rb x75.ov))) ((0 : Int))))))))
   (none))
  (none)
noncomputable def stFS0 (l : List Int) (v0 : List Int) (v1 : Bool) (v2 : List Int) (v3 : Int) : Option (stFPc ⊕ Ret) :=
  br (decide (v3 < iN v2.length))
  (gu (0 ≤ v3) <|
   gu (v3 < iN v0.length) <|
   el (v0) (0 + v3.toNat) fun (x117 : Int) =>
   br (v3 == 1)
   (gu (v3 < iN v2.length) <|
    el (v2) (0 + v3.toNat) fun (x129 : Int) =>
    br (x129 != IntKind.i64.wrap (x117 + 1))
    (some (.inr ([], AV.bool false)))
    (some (.inl (.l0 (v0) (v1) (v2) (IntKind.i64.wrap (v3 + 1))))))
   (br (v3 == 2)
    (gu (v3 < iN v2.length) <|
     el (v2) (0 + v3.toNat) fun (x129 : Int) =>
     br (x129 != IntKind.i64.wrap (x117 + 1))
     (some (.inr ([], AV.bool false)))
     (some (.inl (.l0 (v0) (v1) (v2) (IntKind.i64.wrap (v3 + 1))))))
    (gu (v3 < iN v2.length) <|
     el (v2) (0 + v3.toNat) fun (x129 : Int) =>
     br (x129 != x117)
     (some (.inr ([], AV.bool false)))
     (some (.inl (.l0 (v0) (v1) (v2) (IntKind.i64.wrap (v3 + 1))))))))
  (gu (1 < iN v2.length) <|
   el (v2) (1) fun (x135 : Int) =>
   el ((netM l 0 6).ss) (Int.toNat 1) fun (x138 : SpuD) =>
   br (decide (x135 ≤ x138.k))
   (gu (2 < iN v2.length) <|
    el (v2) (2) fun (x145 : Int) =>
    el ((netM l 0 6).ss) (Int.toNat 2) fun (x148 : SpuD) =>
    some (.inr ([], AV.bool (v1 == decide (x145 ≤ x148.k)))))
   (some (.inr ([], AV.bool (v1 == false)))))
noncomputable def stFStep (l : List Int) : stFPc → Option (stFPc ⊕ Ret)
  | .l0 v0 v1 v2 v3 => stFS0 l v0 v1 v2 v3
theorem stFEn_ok (l : List Int) (o : stFPc ⊕ Ret) (h : stFEn l = some o) : Arr Try.prog Try.f4 0 (stFSt l) stFHd (bodyOf Try.f4) [] { n := Try.f4.ntmps, fr := enumF 0 ([lI l]), hp := ([]) } o := by
 unfold stFEn at h
 obtain ⟨a0, h⟩ := gu_inv h
 obtain ⟨a1, h⟩ := gu_inv h
 obtain ⟨x32, a2, h⟩ := el_inv h
 obtain ⟨a3, h⟩ := gu_inv h
 obtain ⟨a4, h⟩ := gu_inv h
 obtain ⟨a5, h⟩ := gu_inv h
 obtain ⟨a6, h⟩ := gu_inv h
 obtain ⟨a7, h⟩ := gu_inv h
 rcases br_inv h with ⟨a8, h⟩ | ⟨a8, h⟩
 ·
  obtain ⟨a9, h⟩ := gu_inv h
  obtain ⟨a10, h⟩ := gu_inv h
  obtain ⟨a11, h⟩ := gu_inv h
  obtain ⟨x69, a12, h⟩ := el_inv h
  obtain ⟨x71, a13, h⟩ := el_inv h
  obtain ⟨a14, h⟩ := gu_inv h
  obtain ⟨a15, h⟩ := gu_inv h
  obtain ⟨x75, a16, h⟩ := el_inv h
  rcases br_inv h with ⟨a17, h⟩ | ⟨a17, h⟩
  ·
   obtain ⟨a18, h⟩ := gu_inv h
   rcases br_inv h with ⟨a19, h⟩ | ⟨a19, h⟩
   ·
    cases h
    exact Arr.rt [179] [(32, iv x32), (35, AV.tup []), (69, unA x69), (71, unA x71), (75, tkA x75)] [(16, hc (AV.bool true)), (22, Hint.call [0] [] [tapeB l (netK l 0 6)] (netA (netM l 0 6))), (26, Hint.call [0] [] [tapeB l (mafK (netM l 0 6) l (netK l 0 6)), Blk.mk (List.map unA (mafU (netM l 0 6) l (netK l 0 6))) 13 true true none, Blk.mk (List.map tkA (mafT (netM l 0 6) l (netK l 0 6))) 5 true true none] (AV.tup [AV.sl 1 0 (mafU (netM l 0 6) l (netK l 0 6)).length, AV.sl 2 0 (mafT (netM l 0 6) l (netK l 0 6)).length])), (48, Hint.call [] [5, 7] [dB (cntL (netM l 0 6) (mafU (netM l 0 6) l (netK l 0 6) ++ [UnD.mk 1 false 0 x32 (-1) 0 false false (-1) 0 [] 0 0]) (mafT (netM l 0 6) l (netK l 0 6) ++ [TkD.mk 1 2 0 (-1) 0]))] (AV.tup [AV.sl 0 0 (cntL (netM l 0 6) (mafU (netM l 0 6) l (netK l 0 6) ++ [UnD.mk 1 false 0 x32 (-1) 0 false false (-1) 0 [] 0 0]) (mafT (netM l 0 6) l (netK l 0 6) ++ [TkD.mk 1 2 0 (-1) 0])).length, iv 0])), (56, Hint.call [] [5, 7] [] (AV.tup [AV.bool (staB (netM l 0 6) (mafU (netM l 0 6) l (netK l 0 6) ++ [UnD.mk 1 false 0 x32 (-1) 0 false false (-1) 0 [] 0 0]) (mafT (netM l 0 6) l (netK l 0 6) ++ [TkD.mk 1 2 0 (-1) 0]) (IntKind.i64.wrap (iN ((List.map tkA (mafT (netM l 0 6) l (netK l 0 6))).length + 1) - 1))), iv (staE (netM l 0 6) (mafU (netM l 0 6) l (netK l 0 6) ++ [UnD.mk 1 false 0 x32 (-1) 0 false false (-1) 0 [] 0 0]) (mafT (netM l 0 6) l (netK l 0 6) ++ [TkD.mk 1 2 0 (-1) 0]) (IntKind.i64.wrap (iN ((List.map tkA (mafT (netM l 0 6) l (netK l 0 6))).length + 1) - 1)))])), (80, Hint.call [] [5, 7] [dB (cntL (netM l 0 6) (((mafU (netM l 0 6) l (netK l 0 6) ++ [UnD.mk 1 false 0 x32 (-1) 0 false false (-1) 0 [] 0 0]).set (0 + (IntKind.i64.wrap (iN ((List.map unA (mafU (netM l 0 6) l (netK l 0 6))).length + [AV.agg [iv 1, AV.bool false, iv 0, iv x32, iv (-1), AV.int IntKind.u64 0, AV.bool false, AV.bool false, iv (-1), iv 0, AV.lst [], iv 0, iv 0]].length) - 1)).toNat) (UnD.mk x69.sta x69.lv x69.hm x69.cl x69.to x69.sq x69.sv x69.ak (IntKind.i64.wrap (iN ((List.map tkA (mafT (netM l 0 6) l (netK l 0 6))).length + 1) - 1)) x69.ph x69.11 x69.wt x69.dt)).set (0 + (IntKind.i64.wrap (iN ((List.map unA (mafU (netM l 0 6) l (netK l 0 6))).length + [AV.agg [iv 1, AV.bool false, iv 0, iv x32, iv (-1), AV.int IntKind.u64 0, AV.bool false, AV.bool false, iv (-1), iv 0, AV.lst [], iv 0, iv 0]].length) - 1)).toNat) (UnD.mk x71.sta x71.lv x71.hm x71.cl x71.to x71.sq x71.sv x71.ak x71.tk 1 x71.11 x71.wt x71.dt)) ((mafT (netM l 0 6) l (netK l 0 6) ++ [TkD.mk 1 2 0 (-1) 0]).set (0 + (IntKind.i64.wrap (iN ((List.map tkA (mafT (netM l 0 6) l (netK l 0 6))).length + 1) - 1)).toNat) (TkD.mk x75.pk x75.dr 1 x75.rb x75.ov)))] (AV.tup [AV.sl 0 0 (cntL (netM l 0 6) (((mafU (netM l 0 6) l (netK l 0 6) ++ [UnD.mk 1 false 0 x32 (-1) 0 false false (-1) 0 [] 0 0]).set (0 + (IntKind.i64.wrap (iN ((List.map unA (mafU (netM l 0 6) l (netK l 0 6))).length + [AV.agg [iv 1, AV.bool false, iv 0, iv x32, iv (-1), AV.int IntKind.u64 0, AV.bool false, AV.bool false, iv (-1), iv 0, AV.lst [], iv 0, iv 0]].length) - 1)).toNat) (UnD.mk x69.sta x69.lv x69.hm x69.cl x69.to x69.sq x69.sv x69.ak (IntKind.i64.wrap (iN ((List.map tkA (mafT (netM l 0 6) l (netK l 0 6))).length + 1) - 1)) x69.ph x69.11 x69.wt x69.dt)).set (0 + (IntKind.i64.wrap (iN ((List.map unA (mafU (netM l 0 6) l (netK l 0 6))).length + [AV.agg [iv 1, AV.bool false, iv 0, iv x32, iv (-1), AV.int IntKind.u64 0, AV.bool false, AV.bool false, iv (-1), iv 0, AV.lst [], iv 0, iv 0]].length) - 1)).toNat) (UnD.mk x71.sta x71.lv x71.hm x71.cl x71.to x71.sq x71.sv x71.ak x71.tk 1 x71.11 x71.wt x71.dt)) ((mafT (netM l 0 6) l (netK l 0 6) ++ [TkD.mk 1 2 0 (-1) 0]).set (0 + (IntKind.i64.wrap (iN ((List.map tkA (mafT (netM l 0 6) l (netK l 0 6))).length + 1) - 1)).toNat) (TkD.mk x75.pk x75.dr 1 x75.rb x75.ov))).length, iv 0]))] [] [] [] mix (by kernel_rfl) (aj (u2 (aj (aj (al (known_ct)) s2) (ak (aj (u2 (u2 (u2 s2))) (aj (u2 (aj (ak (k3 (al (net_ct (l) (0) (6) (show nat_lit 0 ≤ (5000 : Nat) from (by first | exact Nat.le_of_ble_eq_true rfl | decide)) (show (1 : Int) ≤ (6 : Int) ∧ (6 : Int) ≤ (20 : Int) from ⟨(by first | exact Nat.le_of_ble_eq_true rfl | decide), (by first | exact Nat.le_of_ble_eq_true rfl | decide)⟩))))) (ak (al (k2 n11))))) (aj (u2 (u2 (aj (k3 (aj t9 (ak (al (madeF_ct (netM l 0 6) (l) (netK l 0 6) a0 a1))))) (u2 (u2 (u2 (u2 s2))))))) (aj (u2 (u2 (u2 (aj (ak (aj (show (0 : Int) ≤ (0 : Int) from (by first | exact Nat.le_of_ble_eq_true rfl | decide)) (getMap (f := iv) a2))) (u2 (u2 (u2 (aj (k2 (aj (show (List.map unA (mafU (netM l 0 6) l (netK l 0 6))).length = (mafU (netM l 0 6) l (netK l 0 6)).length by simp) (aj (aj (show nat_lit 13 = nat_lit 13 from rfl) (show 1 ≤ [AV.agg [iv 1, AV.bool false, iv 0, iv x32, iv (-1), AV.int IntKind.u64 0, AV.bool false, AV.bool false, iv (-1), iv 0, AV.lst [], iv 0, iv 0]].length by simp)) (aj a3 a4)))) s2)))))))) (aj (u2 (ak (u2 (aj (k2 (aj (show (List.map tkA (mafT (netM l 0 6) l (netK l 0 6))).length = (mafT (netM l 0 6) l (netK l 0 6)).length by simp) (aj (aj (show nat_lit 5 = nat_lit 5 from rfl) (show nat_lit 1 ≤ nat_lit 1 from (by first | exact Nat.le_of_ble_eq_true rfl | decide))) (aj a5 a6)))) s2)))) (aj (u2 (u2 (u2 s2))) (aj (u2 (u2 (u2 (aj (k3 (aj t9 (aj (show (List.map unA (mafU (netM l 0 6) l (netK l 0 6))).length + [AV.agg [iv 1, AV.bool false, iv 0, iv x32, iv (-1), AV.int IntKind.u64 0, AV.bool false, AV.bool false, iv (-1), iv 0, AV.lst [], iv 0, iv 0]].length = (List.map unA (mafU (netM l 0 6) l (netK l 0 6)) ++ [AV.agg [iv 1, AV.bool false, iv 0, iv x32, iv (-1), AV.int IntKind.u64 0, AV.bool false, AV.bool false, iv (-1), iv 0, AV.lst [], iv 0, iv 0]]).length by simp) (aj (show (List.map tkA (mafT (netM l 0 6) l (netK l 0 6))).length + 1 = (List.map tkA (mafT (netM l 0 6) l (netK l 0 6)) ++ [AV.agg [iv 1, iv 2, iv 0, iv (-1), iv 0]]).length by simp) (aj (show CT Try.prog 19 [] [AV.agg [AV.lst (List.map bA (netM l 0 6).bs), AV.lst (gL (netM l 0 6).nx), AV.lst (List.map sA (netM l 0 6).ss), AV.lst (List.map (iv) (netM l 0 6).rs), iv (netM l 0 6).q, iv (netM l 0 6).a, iv (netM l 0 6).d, iv (netM l 0 6).p], AV.lst (List.map unA (mafU (netM l 0 6) l (netK l 0 6)) ++ [AV.agg [iv 1, AV.bool false, iv 0, iv x32, iv (-1), AV.int IntKind.u64 0, AV.bool false, AV.bool false, iv (-1), iv 0, AV.lst [], iv 0, iv 0]]), AV.lst (List.map tkA (mafT (netM l 0 6) l (netK l 0 6)) ++ [AV.agg [iv 1, iv 2, iv 0, iv (-1), iv 0]])] [some (Blk.mk (List.map (iv) (cntL (netM l 0 6) (mafU (netM l 0 6) l (netK l 0 6) ++ [UnD.mk 1 false 0 x32 (-1) 0 false false (-1) 0 [] 0 0]) (mafT (netM l 0 6) l (netK l 0 6) ++ [TkD.mk 1 2 0 (-1) 0]))) 1 true true none)] (AV.tup [AV.sl 0 0 (cntL (netM l 0 6) (mafU (netM l 0 6) l (netK l 0 6) ++ [UnD.mk 1 false 0 x32 (-1) 0 false false (-1) 0 [] 0 0]) (mafT (netM l 0 6) l (netK l 0 6) ++ [TkD.mk 1 2 0 (-1) 0])).length, iv 0]) from CT.eqs (sTakenF_ct (netM l 0 6) (mafU (netM l 0 6) l (netK l 0 6) ++ [UnD.mk 1 false 0 x32 (-1) 0 false false (-1) 0 [] 0 0]) (mafT (netM l 0 6) l (netK l 0 6) ++ [TkD.mk 1 2 0 (-1) 0]) a7 a8) (by first | (simp [gL, boL, lI, sA, bA, tkA, unA]; done) | (simp [gL, boL, lI, sA, bA, tkA, unA, netA]; done) | (simp only [netA, List.map_append, List.map_set, List.map_cons, List.map_nil]; rfl)) (by first | (simp [gL, boL, lI, sA, bA, tkA, unA]; done) | (simp [gL, boL, lI, sA, bA, tkA, unA, netA]; done) | (simp only [netA, List.map_append, List.map_set, List.map_cons, List.map_nil]; rfl))) a9))))) (u2 (u2 (u2 (u2 s2)))))))) (aj (u2 (u2 (u2 (u2 (aj (ak (k3 (aj t9 (aj (show (List.map unA (mafU (netM l 0 6) l (netK l 0 6))).length + [AV.agg [iv 1, AV.bool false, iv 0, iv x32, iv (-1), AV.int IntKind.u64 0, AV.bool false, AV.bool false, iv (-1), iv 0, AV.lst [], iv 0, iv 0]].length = (List.map unA (mafU (netM l 0 6) l (netK l 0 6)) ++ [AV.agg [iv 1, AV.bool false, iv 0, iv x32, iv (-1), AV.int IntKind.u64 0, AV.bool false, AV.bool false, iv (-1), iv 0, AV.lst [], iv 0, iv 0]]).length by simp) (aj (show (List.map tkA (mafT (netM l 0 6) l (netK l 0 6))).length + 1 = (List.map tkA (mafT (netM l 0 6) l (netK l 0 6)) ++ [AV.agg [iv 1, iv 2, iv 0, iv (-1), iv 0]]).length by simp) (ak (aj (show CT Try.prog 21 [] [AV.agg [AV.lst (List.map bA (netM l 0 6).bs), AV.lst (gL (netM l 0 6).nx), AV.lst (List.map sA (netM l 0 6).ss), AV.lst (List.map (iv) (netM l 0 6).rs), iv (netM l 0 6).q, iv (netM l 0 6).a, iv (netM l 0 6).d, iv (netM l 0 6).p], AV.lst (List.map unA (mafU (netM l 0 6) l (netK l 0 6)) ++ [AV.agg [iv 1, AV.bool false, iv 0, iv x32, iv (-1), AV.int IntKind.u64 0, AV.bool false, AV.bool false, iv (-1), iv 0, AV.lst [], iv 0, iv 0]]), AV.lst (List.map tkA (mafT (netM l 0 6) l (netK l 0 6)) ++ [AV.agg [iv 1, iv 2, iv 0, iv (-1), iv 0]]), iv (IntKind.i64.wrap (iN ((List.map tkA (mafT (netM l 0 6) l (netK l 0 6))).length + 1) - 1))] [] (AV.tup [AV.bool (staB (netM l 0 6) (mafU (netM l 0 6) l (netK l 0 6) ++ [UnD.mk 1 false 0 x32 (-1) 0 false false (-1) 0 [] 0 0]) (mafT (netM l 0 6) l (netK l 0 6) ++ [TkD.mk 1 2 0 (-1) 0]) (IntKind.i64.wrap (iN ((List.map tkA (mafT (netM l 0 6) l (netK l 0 6))).length + 1) - 1))), iv (staE (netM l 0 6) (mafU (netM l 0 6) l (netK l 0 6) ++ [UnD.mk 1 false 0 x32 (-1) 0 false false (-1) 0 [] 0 0]) (mafT (netM l 0 6) l (netK l 0 6) ++ [TkD.mk 1 2 0 (-1) 0]) (IntKind.i64.wrap (iN ((List.map tkA (mafT (netM l 0 6) l (netK l 0 6))).length + 1) - 1)))]) from CT.eqs (sStart_ct a7 (mafU (netM l 0 6) l (netK l 0 6) ++ [UnD.mk 1 false 0 x32 (-1) 0 false false (-1) 0 [] 0 0]) (mafT (netM l 0 6) l (netK l 0 6) ++ [TkD.mk 1 2 0 (-1) 0]) (IntKind.i64.wrap (iN ((List.map tkA (mafT (netM l 0 6) l (netK l 0 6))).length + 1) - 1))) (by first | (simp [gL, boL, lI, sA, bA, tkA, unA]; done) | (simp [gL, boL, lI, sA, bA, tkA, unA, netA]; done) | (simp only [netA, List.map_append, List.map_set, List.map_cons, List.map_nil]; rfl)) (by first | (simp [gL, boL, lI, sA, bA, tkA, unA]; done) | (simp [gL, boL, lI, sA, bA, tkA, unA, netA]; done) | (simp only [netA, List.map_append, List.map_set, List.map_cons, List.map_nil]; rfl))) (show ∀ (blk : Blk), blk ∈ [] → ImmB blk from (by intro _ h; cases h))))))))) (u2 (u2 (u2 (u2 s2))))))))) (aj (u2 (u2 (u2 (u2 (u2 (u2 (u2 (u2 (u2 (aj (k2 (aj a10 a11)) (u2 (aj (k2 (show (List.map unA (mafU (netM l 0 6) l (netK l 0 6)) ++ [AV.agg [iv 1, AV.bool false, iv 0, iv x32, iv (-1), AV.int IntKind.u64 0, AV.bool false, AV.bool false, iv (-1), iv 0, AV.lst [], iv 0, iv 0]])[0 + (IntKind.i64.wrap (iN ((List.map unA (mafU (netM l 0 6) l (netK l 0 6))).length + [AV.agg [iv 1, AV.bool false, iv 0, iv x32, iv (-1), AV.int IntKind.u64 0, AV.bool false, AV.bool false, iv (-1), iv 0, AV.lst [], iv 0, iv 0]].length) - 1)).toNat]? = some (AV.agg [iv x69.sta, AV.bool x69.lv, iv x69.hm, iv x69.cl, iv x69.to, AV.int IntKind.u64 x69.sq, AV.bool x69.sv, AV.bool x69.ak, iv x69.tk, iv x69.ph, AV.lst (List.map (iv) x69.rt), iv x69.wt, iv x69.dt]) from getMapE (f := unA) a12 (by first | (simp [gL, boL, lI, sA, bA, tkA, unA]; done) | (simp [gL, boL, lI, sA, bA, tkA, unA, netA]; done) | (simp only [netA, List.map_append, List.map_set, List.map_cons, List.map_nil]; rfl)))) (aj (k2 (aj a10 a11)) (u2 (al (ak (show ((List.map unA (mafU (netM l 0 6) l (netK l 0 6)) ++ [AV.agg [iv 1, AV.bool false, iv 0, iv x32, iv (-1), AV.int IntKind.u64 0, AV.bool false, AV.bool false, iv (-1), iv 0, AV.lst [], iv 0, iv 0]]).set (0 + (IntKind.i64.wrap (iN ((List.map unA (mafU (netM l 0 6) l (netK l 0 6))).length + [AV.agg [iv 1, AV.bool false, iv 0, iv x32, iv (-1), AV.int IntKind.u64 0, AV.bool false, AV.bool false, iv (-1), iv 0, AV.lst [], iv 0, iv 0]].length) - 1)).toNat) (AV.agg [iv x69.sta, AV.bool x69.lv, iv x69.hm, iv x69.cl, iv x69.to, AV.int IntKind.u64 x69.sq, AV.bool x69.sv, AV.bool x69.ak, iv (IntKind.i64.wrap (iN ((List.map tkA (mafT (netM l 0 6) l (netK l 0 6))).length + 1) - 1)), iv x69.ph, AV.lst (List.map (iv) x69.rt), iv x69.wt, iv x69.dt]))[0 + (IntKind.i64.wrap (iN ((List.map unA (mafU (netM l 0 6) l (netK l 0 6))).length + [AV.agg [iv 1, AV.bool false, iv 0, iv x32, iv (-1), AV.int IntKind.u64 0, AV.bool false, AV.bool false, iv (-1), iv 0, AV.lst [], iv 0, iv 0]].length) - 1)).toNat]? = some (AV.agg [iv x71.sta, AV.bool x71.lv, iv x71.hm, iv x71.cl, iv x71.to, AV.int IntKind.u64 x71.sq, AV.bool x71.sv, AV.bool x71.ak, iv x71.tk, iv x71.ph, AV.lst (List.map (iv) x71.rt), iv x71.wt, iv x71.dt]) from getMapE (f := unA) a13 (by first | (simp [gL, boL, lI, sA, bA, tkA, unA]; done) | (simp [gL, boL, lI, sA, bA, tkA, unA, netA]; done) | (simp only [netA, List.map_append, List.map_set, List.map_cons, List.map_nil]; rfl))))))))))))))))))) (aj (u2 (u2 (aj (k2 (aj a14 a15)) (u2 (al (ak (show (List.map tkA (mafT (netM l 0 6) l (netK l 0 6)) ++ [AV.agg [iv 1, iv 2, iv 0, iv (-1), iv 0]])[0 + (IntKind.i64.wrap (iN ((List.map tkA (mafT (netM l 0 6) l (netK l 0 6))).length + 1) - 1)).toNat]? = some (AV.agg [iv x75.pk, iv x75.dr, iv x75.sta, iv x75.rb, iv x75.ov]) from getMapE (f := tkA) a16 (by first | (simp [gL, boL, lI, sA, bA, tkA, unA]; done) | (simp [gL, boL, lI, sA, bA, tkA, unA, netA]; done) | (simp only [netA, List.map_append, List.map_set, List.map_cons, List.map_nil]; rfl))))))))) (aj (u2 (u2 (u2 (aj (k3 (aj t9 (aj (show (List.map unA (mafU (netM l 0 6) l (netK l 0 6))).length + [AV.agg [iv 1, AV.bool false, iv 0, iv x32, iv (-1), AV.int IntKind.u64 0, AV.bool false, AV.bool false, iv (-1), iv 0, AV.lst [], iv 0, iv 0]].length = (((List.map unA (mafU (netM l 0 6) l (netK l 0 6)) ++ [AV.agg [iv 1, AV.bool false, iv 0, iv x32, iv (-1), AV.int IntKind.u64 0, AV.bool false, AV.bool false, iv (-1), iv 0, AV.lst [], iv 0, iv 0]]).set (0 + (IntKind.i64.wrap (iN ((List.map unA (mafU (netM l 0 6) l (netK l 0 6))).length + [AV.agg [iv 1, AV.bool false, iv 0, iv x32, iv (-1), AV.int IntKind.u64 0, AV.bool false, AV.bool false, iv (-1), iv 0, AV.lst [], iv 0, iv 0]].length) - 1)).toNat) (AV.agg [iv x69.sta, AV.bool x69.lv, iv x69.hm, iv x69.cl, iv x69.to, AV.int IntKind.u64 x69.sq, AV.bool x69.sv, AV.bool x69.ak, iv (IntKind.i64.wrap (iN ((List.map tkA (mafT (netM l 0 6) l (netK l 0 6))).length + 1) - 1)), iv x69.ph, AV.lst (List.map (iv) x69.rt), iv x69.wt, iv x69.dt])).set (0 + (IntKind.i64.wrap (iN ((List.map unA (mafU (netM l 0 6) l (netK l 0 6))).length + [AV.agg [iv 1, AV.bool false, iv 0, iv x32, iv (-1), AV.int IntKind.u64 0, AV.bool false, AV.bool false, iv (-1), iv 0, AV.lst [], iv 0, iv 0]].length) - 1)).toNat) (AV.agg [iv x71.sta, AV.bool x71.lv, iv x71.hm, iv x71.cl, iv x71.to, AV.int IntKind.u64 x71.sq, AV.bool x71.sv, AV.bool x71.ak, iv x71.tk, iv 1, AV.lst (List.map (iv) x71.rt), iv x71.wt, iv x71.dt])).length by simp) (aj (show (List.map tkA (mafT (netM l 0 6) l (netK l 0 6))).length + 1 = ((List.map tkA (mafT (netM l 0 6) l (netK l 0 6)) ++ [AV.agg [iv 1, iv 2, iv 0, iv (-1), iv 0]]).set (0 + (IntKind.i64.wrap (iN ((List.map tkA (mafT (netM l 0 6) l (netK l 0 6))).length + 1) - 1)).toNat) (AV.agg [iv x75.pk, iv x75.dr, iv 1, iv x75.rb, iv x75.ov])).length by simp) (aj (show CT Try.prog 19 [] [AV.agg [AV.lst (List.map bA (netM l 0 6).bs), AV.lst (gL (netM l 0 6).nx), AV.lst (List.map sA (netM l 0 6).ss), AV.lst (List.map (iv) (netM l 0 6).rs), iv (netM l 0 6).q, iv (netM l 0 6).a, iv (netM l 0 6).d, iv (netM l 0 6).p], AV.lst (((List.map unA (mafU (netM l 0 6) l (netK l 0 6)) ++ [AV.agg [iv 1, AV.bool false, iv 0, iv x32, iv (-1), AV.int IntKind.u64 0, AV.bool false, AV.bool false, iv (-1), iv 0, AV.lst [], iv 0, iv 0]]).set (0 + (IntKind.i64.wrap (iN ((List.map unA (mafU (netM l 0 6) l (netK l 0 6))).length + [AV.agg [iv 1, AV.bool false, iv 0, iv x32, iv (-1), AV.int IntKind.u64 0, AV.bool false, AV.bool false, iv (-1), iv 0, AV.lst [], iv 0, iv 0]].length) - 1)).toNat) (AV.agg [iv x69.sta, AV.bool x69.lv, iv x69.hm, iv x69.cl, iv x69.to, AV.int IntKind.u64 x69.sq, AV.bool x69.sv, AV.bool x69.ak, iv (IntKind.i64.wrap (iN ((List.map tkA (mafT (netM l 0 6) l (netK l 0 6))).length + 1) - 1)), iv x69.ph, AV.lst (List.map (iv) x69.rt), iv x69.wt, iv x69.dt])).set (0 + (IntKind.i64.wrap (iN ((List.map unA (mafU (netM l 0 6) l (netK l 0 6))).length + [AV.agg [iv 1, AV.bool false, iv 0, iv x32, iv (-1), AV.int IntKind.u64 0, AV.bool false, AV.bool false, iv (-1), iv 0, AV.lst [], iv 0, iv 0]].length) - 1)).toNat) (AV.agg [iv x71.sta, AV.bool x71.lv, iv x71.hm, iv x71.cl, iv x71.to, AV.int IntKind.u64 x71.sq, AV.bool x71.sv, AV.bool x71.ak, iv x71.tk, iv 1, AV.lst (List.map (iv) x71.rt), iv x71.wt, iv x71.dt])), AV.lst ((List.map tkA (mafT (netM l 0 6) l (netK l 0 6)) ++ [AV.agg [iv 1, iv 2, iv 0, iv (-1), iv 0]]).set (0 + (IntKind.i64.wrap (iN ((List.map tkA (mafT (netM l 0 6) l (netK l 0 6))).length + 1) - 1)).toNat) (AV.agg [iv x75.pk, iv x75.dr, iv 1, iv x75.rb, iv x75.ov]))] [some (Blk.mk (List.map (iv) (cntL (netM l 0 6) (((mafU (netM l 0 6) l (netK l 0 6) ++ [UnD.mk 1 false 0 x32 (-1) 0 false false (-1) 0 [] 0 0]).set (0 + (IntKind.i64.wrap (iN ((List.map unA (mafU (netM l 0 6) l (netK l 0 6))).length + [AV.agg [iv 1, AV.bool false, iv 0, iv x32, iv (-1), AV.int IntKind.u64 0, AV.bool false, AV.bool false, iv (-1), iv 0, AV.lst [], iv 0, iv 0]].length) - 1)).toNat) (UnD.mk x69.sta x69.lv x69.hm x69.cl x69.to x69.sq x69.sv x69.ak (IntKind.i64.wrap (iN ((List.map tkA (mafT (netM l 0 6) l (netK l 0 6))).length + 1) - 1)) x69.ph x69.11 x69.wt x69.dt)).set (0 + (IntKind.i64.wrap (iN ((List.map unA (mafU (netM l 0 6) l (netK l 0 6))).length + [AV.agg [iv 1, AV.bool false, iv 0, iv x32, iv (-1), AV.int IntKind.u64 0, AV.bool false, AV.bool false, iv (-1), iv 0, AV.lst [], iv 0, iv 0]].length) - 1)).toNat) (UnD.mk x71.sta x71.lv x71.hm x71.cl x71.to x71.sq x71.sv x71.ak x71.tk 1 x71.11 x71.wt x71.dt)) ((mafT (netM l 0 6) l (netK l 0 6) ++ [TkD.mk 1 2 0 (-1) 0]).set (0 + (IntKind.i64.wrap (iN ((List.map tkA (mafT (netM l 0 6) l (netK l 0 6))).length + 1) - 1)).toNat) (TkD.mk x75.pk x75.dr 1 x75.rb x75.ov)))) 1 true true none)] (AV.tup [AV.sl 0 0 (cntL (netM l 0 6) (((mafU (netM l 0 6) l (netK l 0 6) ++ [UnD.mk 1 false 0 x32 (-1) 0 false false (-1) 0 [] 0 0]).set (0 + (IntKind.i64.wrap (iN ((List.map unA (mafU (netM l 0 6) l (netK l 0 6))).length + [AV.agg [iv 1, AV.bool false, iv 0, iv x32, iv (-1), AV.int IntKind.u64 0, AV.bool false, AV.bool false, iv (-1), iv 0, AV.lst [], iv 0, iv 0]].length) - 1)).toNat) (UnD.mk x69.sta x69.lv x69.hm x69.cl x69.to x69.sq x69.sv x69.ak (IntKind.i64.wrap (iN ((List.map tkA (mafT (netM l 0 6) l (netK l 0 6))).length + 1) - 1)) x69.ph x69.11 x69.wt x69.dt)).set (0 + (IntKind.i64.wrap (iN ((List.map unA (mafU (netM l 0 6) l (netK l 0 6))).length + [AV.agg [iv 1, AV.bool false, iv 0, iv x32, iv (-1), AV.int IntKind.u64 0, AV.bool false, AV.bool false, iv (-1), iv 0, AV.lst [], iv 0, iv 0]].length) - 1)).toNat) (UnD.mk x71.sta x71.lv x71.hm x71.cl x71.to x71.sq x71.sv x71.ak x71.tk 1 x71.11 x71.wt x71.dt)) ((mafT (netM l 0 6) l (netK l 0 6) ++ [TkD.mk 1 2 0 (-1) 0]).set (0 + (IntKind.i64.wrap (iN ((List.map tkA (mafT (netM l 0 6) l (netK l 0 6))).length + 1) - 1)).toNat) (TkD.mk x75.pk x75.dr 1 x75.rb x75.ov))).length, iv 0]) from CT.eqs (sTakenF_ct (netM l 0 6) (((mafU (netM l 0 6) l (netK l 0 6) ++ [UnD.mk 1 false 0 x32 (-1) 0 false false (-1) 0 [] 0 0]).set (0 + (IntKind.i64.wrap (iN ((List.map unA (mafU (netM l 0 6) l (netK l 0 6))).length + [AV.agg [iv 1, AV.bool false, iv 0, iv x32, iv (-1), AV.int IntKind.u64 0, AV.bool false, AV.bool false, iv (-1), iv 0, AV.lst [], iv 0, iv 0]].length) - 1)).toNat) (UnD.mk x69.sta x69.lv x69.hm x69.cl x69.to x69.sq x69.sv x69.ak (IntKind.i64.wrap (iN ((List.map tkA (mafT (netM l 0 6) l (netK l 0 6))).length + 1) - 1)) x69.ph x69.11 x69.wt x69.dt)).set (0 + (IntKind.i64.wrap (iN ((List.map unA (mafU (netM l 0 6) l (netK l 0 6))).length + [AV.agg [iv 1, AV.bool false, iv 0, iv x32, iv (-1), AV.int IntKind.u64 0, AV.bool false, AV.bool false, iv (-1), iv 0, AV.lst [], iv 0, iv 0]].length) - 1)).toNat) (UnD.mk x71.sta x71.lv x71.hm x71.cl x71.to x71.sq x71.sv x71.ak x71.tk 1 x71.11 x71.wt x71.dt)) ((mafT (netM l 0 6) l (netK l 0 6) ++ [TkD.mk 1 2 0 (-1) 0]).set (0 + (IntKind.i64.wrap (iN ((List.map tkA (mafT (netM l 0 6) l (netK l 0 6))).length + 1) - 1)).toNat) (TkD.mk x75.pk x75.dr 1 x75.rb x75.ov)) a7 a17) (by first | (simp [gL, boL, lI, sA, bA, tkA, unA]; done) | (simp [gL, boL, lI, sA, bA, tkA, unA, netA]; done) | (simp only [netA, List.map_append, List.map_set, List.map_cons, List.map_nil]; rfl)) (by first | (simp [gL, boL, lI, sA, bA, tkA, unA]; done) | (simp [gL, boL, lI, sA, bA, tkA, unA, netA]; done) | (simp only [netA, List.map_append, List.map_set, List.map_cons, List.map_nil]; rfl))) a18))))) (u2 (u2 (u2 (u2 s2)))))))) (aj (u2 (u2 (u2 (aj t3 (aj t3 (aj t3 (u2 (aj a19 (aj a19 (ag a19 (u2 (ak (k5 (aj t3 (u2 (k5 (al t3))))))))))))))))) (ak s2)))))))))))))))) t2)
   ·
    rcases br_inv h with ⟨a20, h⟩ | ⟨a20, h⟩
    ·
     cases h
     exact Arr.rt [178, 203] [(32, iv x32), (35, AV.tup []), (69, unA x69), (71, unA x71), (75, tkA x75)] [(16, hc (AV.bool true)), (22, Hint.call [0] [] [tapeB l (netK l 0 6)] (netA (netM l 0 6))), (26, Hint.call [0] [] [tapeB l (mafK (netM l 0 6) l (netK l 0 6)), Blk.mk (List.map unA (mafU (netM l 0 6) l (netK l 0 6))) 13 true true none, Blk.mk (List.map tkA (mafT (netM l 0 6) l (netK l 0 6))) 5 true true none] (AV.tup [AV.sl 1 0 (mafU (netM l 0 6) l (netK l 0 6)).length, AV.sl 2 0 (mafT (netM l 0 6) l (netK l 0 6)).length])), (48, Hint.call [] [5, 7] [dB (cntL (netM l 0 6) (mafU (netM l 0 6) l (netK l 0 6) ++ [UnD.mk 1 false 0 x32 (-1) 0 false false (-1) 0 [] 0 0]) (mafT (netM l 0 6) l (netK l 0 6) ++ [TkD.mk 1 2 0 (-1) 0]))] (AV.tup [AV.sl 0 0 (cntL (netM l 0 6) (mafU (netM l 0 6) l (netK l 0 6) ++ [UnD.mk 1 false 0 x32 (-1) 0 false false (-1) 0 [] 0 0]) (mafT (netM l 0 6) l (netK l 0 6) ++ [TkD.mk 1 2 0 (-1) 0])).length, iv 0])), (56, Hint.call [] [5, 7] [] (AV.tup [AV.bool (staB (netM l 0 6) (mafU (netM l 0 6) l (netK l 0 6) ++ [UnD.mk 1 false 0 x32 (-1) 0 false false (-1) 0 [] 0 0]) (mafT (netM l 0 6) l (netK l 0 6) ++ [TkD.mk 1 2 0 (-1) 0]) (IntKind.i64.wrap (iN ((List.map tkA (mafT (netM l 0 6) l (netK l 0 6))).length + 1) - 1))), iv (staE (netM l 0 6) (mafU (netM l 0 6) l (netK l 0 6) ++ [UnD.mk 1 false 0 x32 (-1) 0 false false (-1) 0 [] 0 0]) (mafT (netM l 0 6) l (netK l 0 6) ++ [TkD.mk 1 2 0 (-1) 0]) (IntKind.i64.wrap (iN ((List.map tkA (mafT (netM l 0 6) l (netK l 0 6))).length + 1) - 1)))])), (80, Hint.call [] [5, 7] [dB (cntL (netM l 0 6) (((mafU (netM l 0 6) l (netK l 0 6) ++ [UnD.mk 1 false 0 x32 (-1) 0 false false (-1) 0 [] 0 0]).set (0 + (IntKind.i64.wrap (iN ((List.map unA (mafU (netM l 0 6) l (netK l 0 6))).length + [AV.agg [iv 1, AV.bool false, iv 0, iv x32, iv (-1), AV.int IntKind.u64 0, AV.bool false, AV.bool false, iv (-1), iv 0, AV.lst [], iv 0, iv 0]].length) - 1)).toNat) (UnD.mk x69.sta x69.lv x69.hm x69.cl x69.to x69.sq x69.sv x69.ak (IntKind.i64.wrap (iN ((List.map tkA (mafT (netM l 0 6) l (netK l 0 6))).length + 1) - 1)) x69.ph x69.11 x69.wt x69.dt)).set (0 + (IntKind.i64.wrap (iN ((List.map unA (mafU (netM l 0 6) l (netK l 0 6))).length + [AV.agg [iv 1, AV.bool false, iv 0, iv x32, iv (-1), AV.int IntKind.u64 0, AV.bool false, AV.bool false, iv (-1), iv 0, AV.lst [], iv 0, iv 0]].length) - 1)).toNat) (UnD.mk x71.sta x71.lv x71.hm x71.cl x71.to x71.sq x71.sv x71.ak x71.tk 1 x71.11 x71.wt x71.dt)) ((mafT (netM l 0 6) l (netK l 0 6) ++ [TkD.mk 1 2 0 (-1) 0]).set (0 + (IntKind.i64.wrap (iN ((List.map tkA (mafT (netM l 0 6) l (netK l 0 6))).length + 1) - 1)).toNat) (TkD.mk x75.pk x75.dr 1 x75.rb x75.ov)))] (AV.tup [AV.sl 0 0 (cntL (netM l 0 6) (((mafU (netM l 0 6) l (netK l 0 6) ++ [UnD.mk 1 false 0 x32 (-1) 0 false false (-1) 0 [] 0 0]).set (0 + (IntKind.i64.wrap (iN ((List.map unA (mafU (netM l 0 6) l (netK l 0 6))).length + [AV.agg [iv 1, AV.bool false, iv 0, iv x32, iv (-1), AV.int IntKind.u64 0, AV.bool false, AV.bool false, iv (-1), iv 0, AV.lst [], iv 0, iv 0]].length) - 1)).toNat) (UnD.mk x69.sta x69.lv x69.hm x69.cl x69.to x69.sq x69.sv x69.ak (IntKind.i64.wrap (iN ((List.map tkA (mafT (netM l 0 6) l (netK l 0 6))).length + 1) - 1)) x69.ph x69.11 x69.wt x69.dt)).set (0 + (IntKind.i64.wrap (iN ((List.map unA (mafU (netM l 0 6) l (netK l 0 6))).length + [AV.agg [iv 1, AV.bool false, iv 0, iv x32, iv (-1), AV.int IntKind.u64 0, AV.bool false, AV.bool false, iv (-1), iv 0, AV.lst [], iv 0, iv 0]].length) - 1)).toNat) (UnD.mk x71.sta x71.lv x71.hm x71.cl x71.to x71.sq x71.sv x71.ak x71.tk 1 x71.11 x71.wt x71.dt)) ((mafT (netM l 0 6) l (netK l 0 6) ++ [TkD.mk 1 2 0 (-1) 0]).set (0 + (IntKind.i64.wrap (iN ((List.map tkA (mafT (netM l 0 6) l (netK l 0 6))).length + 1) - 1)).toNat) (TkD.mk x75.pk x75.dr 1 x75.rb x75.ov))).length, iv 0]))] [] [] [] mix (by kernel_rfl) (aj (u2 (aj (aj (al (known_ct)) s2) (ak (aj (u2 (u2 (u2 s2))) (aj (u2 (aj (ak (k3 (al (net_ct (l) (0) (6) (show nat_lit 0 ≤ (5000 : Nat) from (by first | exact Nat.le_of_ble_eq_true rfl | decide)) (show (1 : Int) ≤ (6 : Int) ∧ (6 : Int) ≤ (20 : Int) from ⟨(by first | exact Nat.le_of_ble_eq_true rfl | decide), (by first | exact Nat.le_of_ble_eq_true rfl | decide)⟩))))) (ak (al (k2 n11))))) (aj (u2 (u2 (aj (k3 (aj t9 (ak (al (madeF_ct (netM l 0 6) (l) (netK l 0 6) a0 a1))))) (u2 (u2 (u2 (u2 s2))))))) (aj (u2 (u2 (u2 (aj (ak (aj (show (0 : Int) ≤ (0 : Int) from (by first | exact Nat.le_of_ble_eq_true rfl | decide)) (getMap (f := iv) a2))) (u2 (u2 (u2 (aj (k2 (aj (show (List.map unA (mafU (netM l 0 6) l (netK l 0 6))).length = (mafU (netM l 0 6) l (netK l 0 6)).length by simp) (aj (aj (show nat_lit 13 = nat_lit 13 from rfl) (show 1 ≤ [AV.agg [iv 1, AV.bool false, iv 0, iv x32, iv (-1), AV.int IntKind.u64 0, AV.bool false, AV.bool false, iv (-1), iv 0, AV.lst [], iv 0, iv 0]].length by simp)) (aj a3 a4)))) s2)))))))) (aj (u2 (ak (u2 (aj (k2 (aj (show (List.map tkA (mafT (netM l 0 6) l (netK l 0 6))).length = (mafT (netM l 0 6) l (netK l 0 6)).length by simp) (aj (aj (show nat_lit 5 = nat_lit 5 from rfl) (show nat_lit 1 ≤ nat_lit 1 from (by first | exact Nat.le_of_ble_eq_true rfl | decide))) (aj a5 a6)))) s2)))) (aj (u2 (u2 (u2 s2))) (aj (u2 (u2 (u2 (aj (k3 (aj t9 (aj (show (List.map unA (mafU (netM l 0 6) l (netK l 0 6))).length + [AV.agg [iv 1, AV.bool false, iv 0, iv x32, iv (-1), AV.int IntKind.u64 0, AV.bool false, AV.bool false, iv (-1), iv 0, AV.lst [], iv 0, iv 0]].length = (List.map unA (mafU (netM l 0 6) l (netK l 0 6)) ++ [AV.agg [iv 1, AV.bool false, iv 0, iv x32, iv (-1), AV.int IntKind.u64 0, AV.bool false, AV.bool false, iv (-1), iv 0, AV.lst [], iv 0, iv 0]]).length by simp) (aj (show (List.map tkA (mafT (netM l 0 6) l (netK l 0 6))).length + 1 = (List.map tkA (mafT (netM l 0 6) l (netK l 0 6)) ++ [AV.agg [iv 1, iv 2, iv 0, iv (-1), iv 0]]).length by simp) (aj (show CT Try.prog 19 [] [AV.agg [AV.lst (List.map bA (netM l 0 6).bs), AV.lst (gL (netM l 0 6).nx), AV.lst (List.map sA (netM l 0 6).ss), AV.lst (List.map (iv) (netM l 0 6).rs), iv (netM l 0 6).q, iv (netM l 0 6).a, iv (netM l 0 6).d, iv (netM l 0 6).p], AV.lst (List.map unA (mafU (netM l 0 6) l (netK l 0 6)) ++ [AV.agg [iv 1, AV.bool false, iv 0, iv x32, iv (-1), AV.int IntKind.u64 0, AV.bool false, AV.bool false, iv (-1), iv 0, AV.lst [], iv 0, iv 0]]), AV.lst (List.map tkA (mafT (netM l 0 6) l (netK l 0 6)) ++ [AV.agg [iv 1, iv 2, iv 0, iv (-1), iv 0]])] [some (Blk.mk (List.map (iv) (cntL (netM l 0 6) (mafU (netM l 0 6) l (netK l 0 6) ++ [UnD.mk 1 false 0 x32 (-1) 0 false false (-1) 0 [] 0 0]) (mafT (netM l 0 6) l (netK l 0 6) ++ [TkD.mk 1 2 0 (-1) 0]))) 1 true true none)] (AV.tup [AV.sl 0 0 (cntL (netM l 0 6) (mafU (netM l 0 6) l (netK l 0 6) ++ [UnD.mk 1 false 0 x32 (-1) 0 false false (-1) 0 [] 0 0]) (mafT (netM l 0 6) l (netK l 0 6) ++ [TkD.mk 1 2 0 (-1) 0])).length, iv 0]) from CT.eqs (sTakenF_ct (netM l 0 6) (mafU (netM l 0 6) l (netK l 0 6) ++ [UnD.mk 1 false 0 x32 (-1) 0 false false (-1) 0 [] 0 0]) (mafT (netM l 0 6) l (netK l 0 6) ++ [TkD.mk 1 2 0 (-1) 0]) a7 a8) (by first | (simp [gL, boL, lI, sA, bA, tkA, unA]; done) | (simp [gL, boL, lI, sA, bA, tkA, unA, netA]; done) | (simp only [netA, List.map_append, List.map_set, List.map_cons, List.map_nil]; rfl)) (by first | (simp [gL, boL, lI, sA, bA, tkA, unA]; done) | (simp [gL, boL, lI, sA, bA, tkA, unA, netA]; done) | (simp only [netA, List.map_append, List.map_set, List.map_cons, List.map_nil]; rfl))) a9))))) (u2 (u2 (u2 (u2 s2)))))))) (aj (u2 (u2 (u2 (u2 (aj (ak (k3 (aj t9 (aj (show (List.map unA (mafU (netM l 0 6) l (netK l 0 6))).length + [AV.agg [iv 1, AV.bool false, iv 0, iv x32, iv (-1), AV.int IntKind.u64 0, AV.bool false, AV.bool false, iv (-1), iv 0, AV.lst [], iv 0, iv 0]].length = (List.map unA (mafU (netM l 0 6) l (netK l 0 6)) ++ [AV.agg [iv 1, AV.bool false, iv 0, iv x32, iv (-1), AV.int IntKind.u64 0, AV.bool false, AV.bool false, iv (-1), iv 0, AV.lst [], iv 0, iv 0]]).length by simp) (aj (show (List.map tkA (mafT (netM l 0 6) l (netK l 0 6))).length + 1 = (List.map tkA (mafT (netM l 0 6) l (netK l 0 6)) ++ [AV.agg [iv 1, iv 2, iv 0, iv (-1), iv 0]]).length by simp) (ak (aj (show CT Try.prog 21 [] [AV.agg [AV.lst (List.map bA (netM l 0 6).bs), AV.lst (gL (netM l 0 6).nx), AV.lst (List.map sA (netM l 0 6).ss), AV.lst (List.map (iv) (netM l 0 6).rs), iv (netM l 0 6).q, iv (netM l 0 6).a, iv (netM l 0 6).d, iv (netM l 0 6).p], AV.lst (List.map unA (mafU (netM l 0 6) l (netK l 0 6)) ++ [AV.agg [iv 1, AV.bool false, iv 0, iv x32, iv (-1), AV.int IntKind.u64 0, AV.bool false, AV.bool false, iv (-1), iv 0, AV.lst [], iv 0, iv 0]]), AV.lst (List.map tkA (mafT (netM l 0 6) l (netK l 0 6)) ++ [AV.agg [iv 1, iv 2, iv 0, iv (-1), iv 0]]), iv (IntKind.i64.wrap (iN ((List.map tkA (mafT (netM l 0 6) l (netK l 0 6))).length + 1) - 1))] [] (AV.tup [AV.bool (staB (netM l 0 6) (mafU (netM l 0 6) l (netK l 0 6) ++ [UnD.mk 1 false 0 x32 (-1) 0 false false (-1) 0 [] 0 0]) (mafT (netM l 0 6) l (netK l 0 6) ++ [TkD.mk 1 2 0 (-1) 0]) (IntKind.i64.wrap (iN ((List.map tkA (mafT (netM l 0 6) l (netK l 0 6))).length + 1) - 1))), iv (staE (netM l 0 6) (mafU (netM l 0 6) l (netK l 0 6) ++ [UnD.mk 1 false 0 x32 (-1) 0 false false (-1) 0 [] 0 0]) (mafT (netM l 0 6) l (netK l 0 6) ++ [TkD.mk 1 2 0 (-1) 0]) (IntKind.i64.wrap (iN ((List.map tkA (mafT (netM l 0 6) l (netK l 0 6))).length + 1) - 1)))]) from CT.eqs (sStart_ct a7 (mafU (netM l 0 6) l (netK l 0 6) ++ [UnD.mk 1 false 0 x32 (-1) 0 false false (-1) 0 [] 0 0]) (mafT (netM l 0 6) l (netK l 0 6) ++ [TkD.mk 1 2 0 (-1) 0]) (IntKind.i64.wrap (iN ((List.map tkA (mafT (netM l 0 6) l (netK l 0 6))).length + 1) - 1))) (by first | (simp [gL, boL, lI, sA, bA, tkA, unA]; done) | (simp [gL, boL, lI, sA, bA, tkA, unA, netA]; done) | (simp only [netA, List.map_append, List.map_set, List.map_cons, List.map_nil]; rfl)) (by first | (simp [gL, boL, lI, sA, bA, tkA, unA]; done) | (simp [gL, boL, lI, sA, bA, tkA, unA, netA]; done) | (simp only [netA, List.map_append, List.map_set, List.map_cons, List.map_nil]; rfl))) (show ∀ (blk : Blk), blk ∈ [] → ImmB blk from (by intro _ h; cases h))))))))) (u2 (u2 (u2 (u2 s2))))))))) (aj (u2 (u2 (u2 (u2 (u2 (u2 (u2 (u2 (u2 (aj (k2 (aj a10 a11)) (u2 (aj (k2 (show (List.map unA (mafU (netM l 0 6) l (netK l 0 6)) ++ [AV.agg [iv 1, AV.bool false, iv 0, iv x32, iv (-1), AV.int IntKind.u64 0, AV.bool false, AV.bool false, iv (-1), iv 0, AV.lst [], iv 0, iv 0]])[0 + (IntKind.i64.wrap (iN ((List.map unA (mafU (netM l 0 6) l (netK l 0 6))).length + [AV.agg [iv 1, AV.bool false, iv 0, iv x32, iv (-1), AV.int IntKind.u64 0, AV.bool false, AV.bool false, iv (-1), iv 0, AV.lst [], iv 0, iv 0]].length) - 1)).toNat]? = some (AV.agg [iv x69.sta, AV.bool x69.lv, iv x69.hm, iv x69.cl, iv x69.to, AV.int IntKind.u64 x69.sq, AV.bool x69.sv, AV.bool x69.ak, iv x69.tk, iv x69.ph, AV.lst (List.map (iv) x69.rt), iv x69.wt, iv x69.dt]) from getMapE (f := unA) a12 (by first | (simp [gL, boL, lI, sA, bA, tkA, unA]; done) | (simp [gL, boL, lI, sA, bA, tkA, unA, netA]; done) | (simp only [netA, List.map_append, List.map_set, List.map_cons, List.map_nil]; rfl)))) (aj (k2 (aj a10 a11)) (u2 (al (ak (show ((List.map unA (mafU (netM l 0 6) l (netK l 0 6)) ++ [AV.agg [iv 1, AV.bool false, iv 0, iv x32, iv (-1), AV.int IntKind.u64 0, AV.bool false, AV.bool false, iv (-1), iv 0, AV.lst [], iv 0, iv 0]]).set (0 + (IntKind.i64.wrap (iN ((List.map unA (mafU (netM l 0 6) l (netK l 0 6))).length + [AV.agg [iv 1, AV.bool false, iv 0, iv x32, iv (-1), AV.int IntKind.u64 0, AV.bool false, AV.bool false, iv (-1), iv 0, AV.lst [], iv 0, iv 0]].length) - 1)).toNat) (AV.agg [iv x69.sta, AV.bool x69.lv, iv x69.hm, iv x69.cl, iv x69.to, AV.int IntKind.u64 x69.sq, AV.bool x69.sv, AV.bool x69.ak, iv (IntKind.i64.wrap (iN ((List.map tkA (mafT (netM l 0 6) l (netK l 0 6))).length + 1) - 1)), iv x69.ph, AV.lst (List.map (iv) x69.rt), iv x69.wt, iv x69.dt]))[0 + (IntKind.i64.wrap (iN ((List.map unA (mafU (netM l 0 6) l (netK l 0 6))).length + [AV.agg [iv 1, AV.bool false, iv 0, iv x32, iv (-1), AV.int IntKind.u64 0, AV.bool false, AV.bool false, iv (-1), iv 0, AV.lst [], iv 0, iv 0]].length) - 1)).toNat]? = some (AV.agg [iv x71.sta, AV.bool x71.lv, iv x71.hm, iv x71.cl, iv x71.to, AV.int IntKind.u64 x71.sq, AV.bool x71.sv, AV.bool x71.ak, iv x71.tk, iv x71.ph, AV.lst (List.map (iv) x71.rt), iv x71.wt, iv x71.dt]) from getMapE (f := unA) a13 (by first | (simp [gL, boL, lI, sA, bA, tkA, unA]; done) | (simp [gL, boL, lI, sA, bA, tkA, unA, netA]; done) | (simp only [netA, List.map_append, List.map_set, List.map_cons, List.map_nil]; rfl))))))))))))))))))) (aj (u2 (u2 (aj (k2 (aj a14 a15)) (u2 (al (ak (show (List.map tkA (mafT (netM l 0 6) l (netK l 0 6)) ++ [AV.agg [iv 1, iv 2, iv 0, iv (-1), iv 0]])[0 + (IntKind.i64.wrap (iN ((List.map tkA (mafT (netM l 0 6) l (netK l 0 6))).length + 1) - 1)).toNat]? = some (AV.agg [iv x75.pk, iv x75.dr, iv x75.sta, iv x75.rb, iv x75.ov]) from getMapE (f := tkA) a16 (by first | (simp [gL, boL, lI, sA, bA, tkA, unA]; done) | (simp [gL, boL, lI, sA, bA, tkA, unA, netA]; done) | (simp only [netA, List.map_append, List.map_set, List.map_cons, List.map_nil]; rfl))))))))) (aj (u2 (u2 (u2 (aj (k3 (aj t9 (aj (show (List.map unA (mafU (netM l 0 6) l (netK l 0 6))).length + [AV.agg [iv 1, AV.bool false, iv 0, iv x32, iv (-1), AV.int IntKind.u64 0, AV.bool false, AV.bool false, iv (-1), iv 0, AV.lst [], iv 0, iv 0]].length = (((List.map unA (mafU (netM l 0 6) l (netK l 0 6)) ++ [AV.agg [iv 1, AV.bool false, iv 0, iv x32, iv (-1), AV.int IntKind.u64 0, AV.bool false, AV.bool false, iv (-1), iv 0, AV.lst [], iv 0, iv 0]]).set (0 + (IntKind.i64.wrap (iN ((List.map unA (mafU (netM l 0 6) l (netK l 0 6))).length + [AV.agg [iv 1, AV.bool false, iv 0, iv x32, iv (-1), AV.int IntKind.u64 0, AV.bool false, AV.bool false, iv (-1), iv 0, AV.lst [], iv 0, iv 0]].length) - 1)).toNat) (AV.agg [iv x69.sta, AV.bool x69.lv, iv x69.hm, iv x69.cl, iv x69.to, AV.int IntKind.u64 x69.sq, AV.bool x69.sv, AV.bool x69.ak, iv (IntKind.i64.wrap (iN ((List.map tkA (mafT (netM l 0 6) l (netK l 0 6))).length + 1) - 1)), iv x69.ph, AV.lst (List.map (iv) x69.rt), iv x69.wt, iv x69.dt])).set (0 + (IntKind.i64.wrap (iN ((List.map unA (mafU (netM l 0 6) l (netK l 0 6))).length + [AV.agg [iv 1, AV.bool false, iv 0, iv x32, iv (-1), AV.int IntKind.u64 0, AV.bool false, AV.bool false, iv (-1), iv 0, AV.lst [], iv 0, iv 0]].length) - 1)).toNat) (AV.agg [iv x71.sta, AV.bool x71.lv, iv x71.hm, iv x71.cl, iv x71.to, AV.int IntKind.u64 x71.sq, AV.bool x71.sv, AV.bool x71.ak, iv x71.tk, iv 1, AV.lst (List.map (iv) x71.rt), iv x71.wt, iv x71.dt])).length by simp) (aj (show (List.map tkA (mafT (netM l 0 6) l (netK l 0 6))).length + 1 = ((List.map tkA (mafT (netM l 0 6) l (netK l 0 6)) ++ [AV.agg [iv 1, iv 2, iv 0, iv (-1), iv 0]]).set (0 + (IntKind.i64.wrap (iN ((List.map tkA (mafT (netM l 0 6) l (netK l 0 6))).length + 1) - 1)).toNat) (AV.agg [iv x75.pk, iv x75.dr, iv 1, iv x75.rb, iv x75.ov])).length by simp) (aj (show CT Try.prog 19 [] [AV.agg [AV.lst (List.map bA (netM l 0 6).bs), AV.lst (gL (netM l 0 6).nx), AV.lst (List.map sA (netM l 0 6).ss), AV.lst (List.map (iv) (netM l 0 6).rs), iv (netM l 0 6).q, iv (netM l 0 6).a, iv (netM l 0 6).d, iv (netM l 0 6).p], AV.lst (((List.map unA (mafU (netM l 0 6) l (netK l 0 6)) ++ [AV.agg [iv 1, AV.bool false, iv 0, iv x32, iv (-1), AV.int IntKind.u64 0, AV.bool false, AV.bool false, iv (-1), iv 0, AV.lst [], iv 0, iv 0]]).set (0 + (IntKind.i64.wrap (iN ((List.map unA (mafU (netM l 0 6) l (netK l 0 6))).length + [AV.agg [iv 1, AV.bool false, iv 0, iv x32, iv (-1), AV.int IntKind.u64 0, AV.bool false, AV.bool false, iv (-1), iv 0, AV.lst [], iv 0, iv 0]].length) - 1)).toNat) (AV.agg [iv x69.sta, AV.bool x69.lv, iv x69.hm, iv x69.cl, iv x69.to, AV.int IntKind.u64 x69.sq, AV.bool x69.sv, AV.bool x69.ak, iv (IntKind.i64.wrap (iN ((List.map tkA (mafT (netM l 0 6) l (netK l 0 6))).length + 1) - 1)), iv x69.ph, AV.lst (List.map (iv) x69.rt), iv x69.wt, iv x69.dt])).set (0 + (IntKind.i64.wrap (iN ((List.map unA (mafU (netM l 0 6) l (netK l 0 6))).length + [AV.agg [iv 1, AV.bool false, iv 0, iv x32, iv (-1), AV.int IntKind.u64 0, AV.bool false, AV.bool false, iv (-1), iv 0, AV.lst [], iv 0, iv 0]].length) - 1)).toNat) (AV.agg [iv x71.sta, AV.bool x71.lv, iv x71.hm, iv x71.cl, iv x71.to, AV.int IntKind.u64 x71.sq, AV.bool x71.sv, AV.bool x71.ak, iv x71.tk, iv 1, AV.lst (List.map (iv) x71.rt), iv x71.wt, iv x71.dt])), AV.lst ((List.map tkA (mafT (netM l 0 6) l (netK l 0 6)) ++ [AV.agg [iv 1, iv 2, iv 0, iv (-1), iv 0]]).set (0 + (IntKind.i64.wrap (iN ((List.map tkA (mafT (netM l 0 6) l (netK l 0 6))).length + 1) - 1)).toNat) (AV.agg [iv x75.pk, iv x75.dr, iv 1, iv x75.rb, iv x75.ov]))] [some (Blk.mk (List.map (iv) (cntL (netM l 0 6) (((mafU (netM l 0 6) l (netK l 0 6) ++ [UnD.mk 1 false 0 x32 (-1) 0 false false (-1) 0 [] 0 0]).set (0 + (IntKind.i64.wrap (iN ((List.map unA (mafU (netM l 0 6) l (netK l 0 6))).length + [AV.agg [iv 1, AV.bool false, iv 0, iv x32, iv (-1), AV.int IntKind.u64 0, AV.bool false, AV.bool false, iv (-1), iv 0, AV.lst [], iv 0, iv 0]].length) - 1)).toNat) (UnD.mk x69.sta x69.lv x69.hm x69.cl x69.to x69.sq x69.sv x69.ak (IntKind.i64.wrap (iN ((List.map tkA (mafT (netM l 0 6) l (netK l 0 6))).length + 1) - 1)) x69.ph x69.11 x69.wt x69.dt)).set (0 + (IntKind.i64.wrap (iN ((List.map unA (mafU (netM l 0 6) l (netK l 0 6))).length + [AV.agg [iv 1, AV.bool false, iv 0, iv x32, iv (-1), AV.int IntKind.u64 0, AV.bool false, AV.bool false, iv (-1), iv 0, AV.lst [], iv 0, iv 0]].length) - 1)).toNat) (UnD.mk x71.sta x71.lv x71.hm x71.cl x71.to x71.sq x71.sv x71.ak x71.tk 1 x71.11 x71.wt x71.dt)) ((mafT (netM l 0 6) l (netK l 0 6) ++ [TkD.mk 1 2 0 (-1) 0]).set (0 + (IntKind.i64.wrap (iN ((List.map tkA (mafT (netM l 0 6) l (netK l 0 6))).length + 1) - 1)).toNat) (TkD.mk x75.pk x75.dr 1 x75.rb x75.ov)))) 1 true true none)] (AV.tup [AV.sl 0 0 (cntL (netM l 0 6) (((mafU (netM l 0 6) l (netK l 0 6) ++ [UnD.mk 1 false 0 x32 (-1) 0 false false (-1) 0 [] 0 0]).set (0 + (IntKind.i64.wrap (iN ((List.map unA (mafU (netM l 0 6) l (netK l 0 6))).length + [AV.agg [iv 1, AV.bool false, iv 0, iv x32, iv (-1), AV.int IntKind.u64 0, AV.bool false, AV.bool false, iv (-1), iv 0, AV.lst [], iv 0, iv 0]].length) - 1)).toNat) (UnD.mk x69.sta x69.lv x69.hm x69.cl x69.to x69.sq x69.sv x69.ak (IntKind.i64.wrap (iN ((List.map tkA (mafT (netM l 0 6) l (netK l 0 6))).length + 1) - 1)) x69.ph x69.11 x69.wt x69.dt)).set (0 + (IntKind.i64.wrap (iN ((List.map unA (mafU (netM l 0 6) l (netK l 0 6))).length + [AV.agg [iv 1, AV.bool false, iv 0, iv x32, iv (-1), AV.int IntKind.u64 0, AV.bool false, AV.bool false, iv (-1), iv 0, AV.lst [], iv 0, iv 0]].length) - 1)).toNat) (UnD.mk x71.sta x71.lv x71.hm x71.cl x71.to x71.sq x71.sv x71.ak x71.tk 1 x71.11 x71.wt x71.dt)) ((mafT (netM l 0 6) l (netK l 0 6) ++ [TkD.mk 1 2 0 (-1) 0]).set (0 + (IntKind.i64.wrap (iN ((List.map tkA (mafT (netM l 0 6) l (netK l 0 6))).length + 1) - 1)).toNat) (TkD.mk x75.pk x75.dr 1 x75.rb x75.ov))).length, iv 0]) from CT.eqs (sTakenF_ct (netM l 0 6) (((mafU (netM l 0 6) l (netK l 0 6) ++ [UnD.mk 1 false 0 x32 (-1) 0 false false (-1) 0 [] 0 0]).set (0 + (IntKind.i64.wrap (iN ((List.map unA (mafU (netM l 0 6) l (netK l 0 6))).length + [AV.agg [iv 1, AV.bool false, iv 0, iv x32, iv (-1), AV.int IntKind.u64 0, AV.bool false, AV.bool false, iv (-1), iv 0, AV.lst [], iv 0, iv 0]].length) - 1)).toNat) (UnD.mk x69.sta x69.lv x69.hm x69.cl x69.to x69.sq x69.sv x69.ak (IntKind.i64.wrap (iN ((List.map tkA (mafT (netM l 0 6) l (netK l 0 6))).length + 1) - 1)) x69.ph x69.11 x69.wt x69.dt)).set (0 + (IntKind.i64.wrap (iN ((List.map unA (mafU (netM l 0 6) l (netK l 0 6))).length + [AV.agg [iv 1, AV.bool false, iv 0, iv x32, iv (-1), AV.int IntKind.u64 0, AV.bool false, AV.bool false, iv (-1), iv 0, AV.lst [], iv 0, iv 0]].length) - 1)).toNat) (UnD.mk x71.sta x71.lv x71.hm x71.cl x71.to x71.sq x71.sv x71.ak x71.tk 1 x71.11 x71.wt x71.dt)) ((mafT (netM l 0 6) l (netK l 0 6) ++ [TkD.mk 1 2 0 (-1) 0]).set (0 + (IntKind.i64.wrap (iN ((List.map tkA (mafT (netM l 0 6) l (netK l 0 6))).length + 1) - 1)).toNat) (TkD.mk x75.pk x75.dr 1 x75.rb x75.ov)) a7 a17) (by first | (simp [gL, boL, lI, sA, bA, tkA, unA]; done) | (simp [gL, boL, lI, sA, bA, tkA, unA, netA]; done) | (simp only [netA, List.map_append, List.map_set, List.map_cons, List.map_nil]; rfl)) (by first | (simp [gL, boL, lI, sA, bA, tkA, unA]; done) | (simp [gL, boL, lI, sA, bA, tkA, unA, netA]; done) | (simp only [netA, List.map_append, List.map_set, List.map_cons, List.map_nil]; rfl))) a18))))) (u2 (u2 (u2 (u2 s2)))))))) (aj (u2 (u2 (u2 (aj t3 (aj t3 (aj t3 (u2 (ag a19 (ag a19 (ag a19 (u2 (aj t3 (aj t3 (aj t3 (aj t3 (aj t3 (aj t4 (aj t3 (u2 (aj a20 (aj a20 (aj a20 (aj a20 (aj a20 (al (aj a20 t2)))))))))))))))))))))))))) (ak s2)))))))))))))))) t2)
    ·
     rcases br_inv h with ⟨a21, h⟩ | ⟨a21, h⟩
     ·
      cases h
      exact Arr.rt [178, 202, 215] [(32, iv x32), (35, AV.tup []), (69, unA x69), (71, unA x71), (75, tkA x75)] [(16, hc (AV.bool true)), (22, Hint.call [0] [] [tapeB l (netK l 0 6)] (netA (netM l 0 6))), (26, Hint.call [0] [] [tapeB l (mafK (netM l 0 6) l (netK l 0 6)), Blk.mk (List.map unA (mafU (netM l 0 6) l (netK l 0 6))) 13 true true none, Blk.mk (List.map tkA (mafT (netM l 0 6) l (netK l 0 6))) 5 true true none] (AV.tup [AV.sl 1 0 (mafU (netM l 0 6) l (netK l 0 6)).length, AV.sl 2 0 (mafT (netM l 0 6) l (netK l 0 6)).length])), (48, Hint.call [] [5, 7] [dB (cntL (netM l 0 6) (mafU (netM l 0 6) l (netK l 0 6) ++ [UnD.mk 1 false 0 x32 (-1) 0 false false (-1) 0 [] 0 0]) (mafT (netM l 0 6) l (netK l 0 6) ++ [TkD.mk 1 2 0 (-1) 0]))] (AV.tup [AV.sl 0 0 (cntL (netM l 0 6) (mafU (netM l 0 6) l (netK l 0 6) ++ [UnD.mk 1 false 0 x32 (-1) 0 false false (-1) 0 [] 0 0]) (mafT (netM l 0 6) l (netK l 0 6) ++ [TkD.mk 1 2 0 (-1) 0])).length, iv 0])), (56, Hint.call [] [5, 7] [] (AV.tup [AV.bool (staB (netM l 0 6) (mafU (netM l 0 6) l (netK l 0 6) ++ [UnD.mk 1 false 0 x32 (-1) 0 false false (-1) 0 [] 0 0]) (mafT (netM l 0 6) l (netK l 0 6) ++ [TkD.mk 1 2 0 (-1) 0]) (IntKind.i64.wrap (iN ((List.map tkA (mafT (netM l 0 6) l (netK l 0 6))).length + 1) - 1))), iv (staE (netM l 0 6) (mafU (netM l 0 6) l (netK l 0 6) ++ [UnD.mk 1 false 0 x32 (-1) 0 false false (-1) 0 [] 0 0]) (mafT (netM l 0 6) l (netK l 0 6) ++ [TkD.mk 1 2 0 (-1) 0]) (IntKind.i64.wrap (iN ((List.map tkA (mafT (netM l 0 6) l (netK l 0 6))).length + 1) - 1)))])), (80, Hint.call [] [5, 7] [dB (cntL (netM l 0 6) (((mafU (netM l 0 6) l (netK l 0 6) ++ [UnD.mk 1 false 0 x32 (-1) 0 false false (-1) 0 [] 0 0]).set (0 + (IntKind.i64.wrap (iN ((List.map unA (mafU (netM l 0 6) l (netK l 0 6))).length + [AV.agg [iv 1, AV.bool false, iv 0, iv x32, iv (-1), AV.int IntKind.u64 0, AV.bool false, AV.bool false, iv (-1), iv 0, AV.lst [], iv 0, iv 0]].length) - 1)).toNat) (UnD.mk x69.sta x69.lv x69.hm x69.cl x69.to x69.sq x69.sv x69.ak (IntKind.i64.wrap (iN ((List.map tkA (mafT (netM l 0 6) l (netK l 0 6))).length + 1) - 1)) x69.ph x69.11 x69.wt x69.dt)).set (0 + (IntKind.i64.wrap (iN ((List.map unA (mafU (netM l 0 6) l (netK l 0 6))).length + [AV.agg [iv 1, AV.bool false, iv 0, iv x32, iv (-1), AV.int IntKind.u64 0, AV.bool false, AV.bool false, iv (-1), iv 0, AV.lst [], iv 0, iv 0]].length) - 1)).toNat) (UnD.mk x71.sta x71.lv x71.hm x71.cl x71.to x71.sq x71.sv x71.ak x71.tk 1 x71.11 x71.wt x71.dt)) ((mafT (netM l 0 6) l (netK l 0 6) ++ [TkD.mk 1 2 0 (-1) 0]).set (0 + (IntKind.i64.wrap (iN ((List.map tkA (mafT (netM l 0 6) l (netK l 0 6))).length + 1) - 1)).toNat) (TkD.mk x75.pk x75.dr 1 x75.rb x75.ov)))] (AV.tup [AV.sl 0 0 (cntL (netM l 0 6) (((mafU (netM l 0 6) l (netK l 0 6) ++ [UnD.mk 1 false 0 x32 (-1) 0 false false (-1) 0 [] 0 0]).set (0 + (IntKind.i64.wrap (iN ((List.map unA (mafU (netM l 0 6) l (netK l 0 6))).length + [AV.agg [iv 1, AV.bool false, iv 0, iv x32, iv (-1), AV.int IntKind.u64 0, AV.bool false, AV.bool false, iv (-1), iv 0, AV.lst [], iv 0, iv 0]].length) - 1)).toNat) (UnD.mk x69.sta x69.lv x69.hm x69.cl x69.to x69.sq x69.sv x69.ak (IntKind.i64.wrap (iN ((List.map tkA (mafT (netM l 0 6) l (netK l 0 6))).length + 1) - 1)) x69.ph x69.11 x69.wt x69.dt)).set (0 + (IntKind.i64.wrap (iN ((List.map unA (mafU (netM l 0 6) l (netK l 0 6))).length + [AV.agg [iv 1, AV.bool false, iv 0, iv x32, iv (-1), AV.int IntKind.u64 0, AV.bool false, AV.bool false, iv (-1), iv 0, AV.lst [], iv 0, iv 0]].length) - 1)).toNat) (UnD.mk x71.sta x71.lv x71.hm x71.cl x71.to x71.sq x71.sv x71.ak x71.tk 1 x71.11 x71.wt x71.dt)) ((mafT (netM l 0 6) l (netK l 0 6) ++ [TkD.mk 1 2 0 (-1) 0]).set (0 + (IntKind.i64.wrap (iN ((List.map tkA (mafT (netM l 0 6) l (netK l 0 6))).length + 1) - 1)).toNat) (TkD.mk x75.pk x75.dr 1 x75.rb x75.ov))).length, iv 0]))] [] [] [] mix (by kernel_rfl) (aj (u2 (aj (aj (al (known_ct)) s2) (ak (aj (u2 (u2 (u2 s2))) (aj (u2 (aj (ak (k3 (al (net_ct (l) (0) (6) (show nat_lit 0 ≤ (5000 : Nat) from (by first | exact Nat.le_of_ble_eq_true rfl | decide)) (show (1 : Int) ≤ (6 : Int) ∧ (6 : Int) ≤ (20 : Int) from ⟨(by first | exact Nat.le_of_ble_eq_true rfl | decide), (by first | exact Nat.le_of_ble_eq_true rfl | decide)⟩))))) (ak (al (k2 n11))))) (aj (u2 (u2 (aj (k3 (aj t9 (ak (al (madeF_ct (netM l 0 6) (l) (netK l 0 6) a0 a1))))) (u2 (u2 (u2 (u2 s2))))))) (aj (u2 (u2 (u2 (aj (ak (aj (show (0 : Int) ≤ (0 : Int) from (by first | exact Nat.le_of_ble_eq_true rfl | decide)) (getMap (f := iv) a2))) (u2 (u2 (u2 (aj (k2 (aj (show (List.map unA (mafU (netM l 0 6) l (netK l 0 6))).length = (mafU (netM l 0 6) l (netK l 0 6)).length by simp) (aj (aj (show nat_lit 13 = nat_lit 13 from rfl) (show 1 ≤ [AV.agg [iv 1, AV.bool false, iv 0, iv x32, iv (-1), AV.int IntKind.u64 0, AV.bool false, AV.bool false, iv (-1), iv 0, AV.lst [], iv 0, iv 0]].length by simp)) (aj a3 a4)))) s2)))))))) (aj (u2 (ak (u2 (aj (k2 (aj (show (List.map tkA (mafT (netM l 0 6) l (netK l 0 6))).length = (mafT (netM l 0 6) l (netK l 0 6)).length by simp) (aj (aj (show nat_lit 5 = nat_lit 5 from rfl) (show nat_lit 1 ≤ nat_lit 1 from (by first | exact Nat.le_of_ble_eq_true rfl | decide))) (aj a5 a6)))) s2)))) (aj (u2 (u2 (u2 s2))) (aj (u2 (u2 (u2 (aj (k3 (aj t9 (aj (show (List.map unA (mafU (netM l 0 6) l (netK l 0 6))).length + [AV.agg [iv 1, AV.bool false, iv 0, iv x32, iv (-1), AV.int IntKind.u64 0, AV.bool false, AV.bool false, iv (-1), iv 0, AV.lst [], iv 0, iv 0]].length = (List.map unA (mafU (netM l 0 6) l (netK l 0 6)) ++ [AV.agg [iv 1, AV.bool false, iv 0, iv x32, iv (-1), AV.int IntKind.u64 0, AV.bool false, AV.bool false, iv (-1), iv 0, AV.lst [], iv 0, iv 0]]).length by simp) (aj (show (List.map tkA (mafT (netM l 0 6) l (netK l 0 6))).length + 1 = (List.map tkA (mafT (netM l 0 6) l (netK l 0 6)) ++ [AV.agg [iv 1, iv 2, iv 0, iv (-1), iv 0]]).length by simp) (aj (show CT Try.prog 19 [] [AV.agg [AV.lst (List.map bA (netM l 0 6).bs), AV.lst (gL (netM l 0 6).nx), AV.lst (List.map sA (netM l 0 6).ss), AV.lst (List.map (iv) (netM l 0 6).rs), iv (netM l 0 6).q, iv (netM l 0 6).a, iv (netM l 0 6).d, iv (netM l 0 6).p], AV.lst (List.map unA (mafU (netM l 0 6) l (netK l 0 6)) ++ [AV.agg [iv 1, AV.bool false, iv 0, iv x32, iv (-1), AV.int IntKind.u64 0, AV.bool false, AV.bool false, iv (-1), iv 0, AV.lst [], iv 0, iv 0]]), AV.lst (List.map tkA (mafT (netM l 0 6) l (netK l 0 6)) ++ [AV.agg [iv 1, iv 2, iv 0, iv (-1), iv 0]])] [some (Blk.mk (List.map (iv) (cntL (netM l 0 6) (mafU (netM l 0 6) l (netK l 0 6) ++ [UnD.mk 1 false 0 x32 (-1) 0 false false (-1) 0 [] 0 0]) (mafT (netM l 0 6) l (netK l 0 6) ++ [TkD.mk 1 2 0 (-1) 0]))) 1 true true none)] (AV.tup [AV.sl 0 0 (cntL (netM l 0 6) (mafU (netM l 0 6) l (netK l 0 6) ++ [UnD.mk 1 false 0 x32 (-1) 0 false false (-1) 0 [] 0 0]) (mafT (netM l 0 6) l (netK l 0 6) ++ [TkD.mk 1 2 0 (-1) 0])).length, iv 0]) from CT.eqs (sTakenF_ct (netM l 0 6) (mafU (netM l 0 6) l (netK l 0 6) ++ [UnD.mk 1 false 0 x32 (-1) 0 false false (-1) 0 [] 0 0]) (mafT (netM l 0 6) l (netK l 0 6) ++ [TkD.mk 1 2 0 (-1) 0]) a7 a8) (by first | (simp [gL, boL, lI, sA, bA, tkA, unA]; done) | (simp [gL, boL, lI, sA, bA, tkA, unA, netA]; done) | (simp only [netA, List.map_append, List.map_set, List.map_cons, List.map_nil]; rfl)) (by first | (simp [gL, boL, lI, sA, bA, tkA, unA]; done) | (simp [gL, boL, lI, sA, bA, tkA, unA, netA]; done) | (simp only [netA, List.map_append, List.map_set, List.map_cons, List.map_nil]; rfl))) a9))))) (u2 (u2 (u2 (u2 s2)))))))) (aj (u2 (u2 (u2 (u2 (aj (ak (k3 (aj t9 (aj (show (List.map unA (mafU (netM l 0 6) l (netK l 0 6))).length + [AV.agg [iv 1, AV.bool false, iv 0, iv x32, iv (-1), AV.int IntKind.u64 0, AV.bool false, AV.bool false, iv (-1), iv 0, AV.lst [], iv 0, iv 0]].length = (List.map unA (mafU (netM l 0 6) l (netK l 0 6)) ++ [AV.agg [iv 1, AV.bool false, iv 0, iv x32, iv (-1), AV.int IntKind.u64 0, AV.bool false, AV.bool false, iv (-1), iv 0, AV.lst [], iv 0, iv 0]]).length by simp) (aj (show (List.map tkA (mafT (netM l 0 6) l (netK l 0 6))).length + 1 = (List.map tkA (mafT (netM l 0 6) l (netK l 0 6)) ++ [AV.agg [iv 1, iv 2, iv 0, iv (-1), iv 0]]).length by simp) (ak (aj (show CT Try.prog 21 [] [AV.agg [AV.lst (List.map bA (netM l 0 6).bs), AV.lst (gL (netM l 0 6).nx), AV.lst (List.map sA (netM l 0 6).ss), AV.lst (List.map (iv) (netM l 0 6).rs), iv (netM l 0 6).q, iv (netM l 0 6).a, iv (netM l 0 6).d, iv (netM l 0 6).p], AV.lst (List.map unA (mafU (netM l 0 6) l (netK l 0 6)) ++ [AV.agg [iv 1, AV.bool false, iv 0, iv x32, iv (-1), AV.int IntKind.u64 0, AV.bool false, AV.bool false, iv (-1), iv 0, AV.lst [], iv 0, iv 0]]), AV.lst (List.map tkA (mafT (netM l 0 6) l (netK l 0 6)) ++ [AV.agg [iv 1, iv 2, iv 0, iv (-1), iv 0]]), iv (IntKind.i64.wrap (iN ((List.map tkA (mafT (netM l 0 6) l (netK l 0 6))).length + 1) - 1))] [] (AV.tup [AV.bool (staB (netM l 0 6) (mafU (netM l 0 6) l (netK l 0 6) ++ [UnD.mk 1 false 0 x32 (-1) 0 false false (-1) 0 [] 0 0]) (mafT (netM l 0 6) l (netK l 0 6) ++ [TkD.mk 1 2 0 (-1) 0]) (IntKind.i64.wrap (iN ((List.map tkA (mafT (netM l 0 6) l (netK l 0 6))).length + 1) - 1))), iv (staE (netM l 0 6) (mafU (netM l 0 6) l (netK l 0 6) ++ [UnD.mk 1 false 0 x32 (-1) 0 false false (-1) 0 [] 0 0]) (mafT (netM l 0 6) l (netK l 0 6) ++ [TkD.mk 1 2 0 (-1) 0]) (IntKind.i64.wrap (iN ((List.map tkA (mafT (netM l 0 6) l (netK l 0 6))).length + 1) - 1)))]) from CT.eqs (sStart_ct a7 (mafU (netM l 0 6) l (netK l 0 6) ++ [UnD.mk 1 false 0 x32 (-1) 0 false false (-1) 0 [] 0 0]) (mafT (netM l 0 6) l (netK l 0 6) ++ [TkD.mk 1 2 0 (-1) 0]) (IntKind.i64.wrap (iN ((List.map tkA (mafT (netM l 0 6) l (netK l 0 6))).length + 1) - 1))) (by first | (simp [gL, boL, lI, sA, bA, tkA, unA]; done) | (simp [gL, boL, lI, sA, bA, tkA, unA, netA]; done) | (simp only [netA, List.map_append, List.map_set, List.map_cons, List.map_nil]; rfl)) (by first | (simp [gL, boL, lI, sA, bA, tkA, unA]; done) | (simp [gL, boL, lI, sA, bA, tkA, unA, netA]; done) | (simp only [netA, List.map_append, List.map_set, List.map_cons, List.map_nil]; rfl))) (show ∀ (blk : Blk), blk ∈ [] → ImmB blk from (by intro _ h; cases h))))))))) (u2 (u2 (u2 (u2 s2))))))))) (aj (u2 (u2 (u2 (u2 (u2 (u2 (u2 (u2 (u2 (aj (k2 (aj a10 a11)) (u2 (aj (k2 (show (List.map unA (mafU (netM l 0 6) l (netK l 0 6)) ++ [AV.agg [iv 1, AV.bool false, iv 0, iv x32, iv (-1), AV.int IntKind.u64 0, AV.bool false, AV.bool false, iv (-1), iv 0, AV.lst [], iv 0, iv 0]])[0 + (IntKind.i64.wrap (iN ((List.map unA (mafU (netM l 0 6) l (netK l 0 6))).length + [AV.agg [iv 1, AV.bool false, iv 0, iv x32, iv (-1), AV.int IntKind.u64 0, AV.bool false, AV.bool false, iv (-1), iv 0, AV.lst [], iv 0, iv 0]].length) - 1)).toNat]? = some (AV.agg [iv x69.sta, AV.bool x69.lv, iv x69.hm, iv x69.cl, iv x69.to, AV.int IntKind.u64 x69.sq, AV.bool x69.sv, AV.bool x69.ak, iv x69.tk, iv x69.ph, AV.lst (List.map (iv) x69.rt), iv x69.wt, iv x69.dt]) from getMapE (f := unA) a12 (by first | (simp [gL, boL, lI, sA, bA, tkA, unA]; done) | (simp [gL, boL, lI, sA, bA, tkA, unA, netA]; done) | (simp only [netA, List.map_append, List.map_set, List.map_cons, List.map_nil]; rfl)))) (aj (k2 (aj a10 a11)) (u2 (al (ak (show ((List.map unA (mafU (netM l 0 6) l (netK l 0 6)) ++ [AV.agg [iv 1, AV.bool false, iv 0, iv x32, iv (-1), AV.int IntKind.u64 0, AV.bool false, AV.bool false, iv (-1), iv 0, AV.lst [], iv 0, iv 0]]).set (0 + (IntKind.i64.wrap (iN ((List.map unA (mafU (netM l 0 6) l (netK l 0 6))).length + [AV.agg [iv 1, AV.bool false, iv 0, iv x32, iv (-1), AV.int IntKind.u64 0, AV.bool false, AV.bool false, iv (-1), iv 0, AV.lst [], iv 0, iv 0]].length) - 1)).toNat) (AV.agg [iv x69.sta, AV.bool x69.lv, iv x69.hm, iv x69.cl, iv x69.to, AV.int IntKind.u64 x69.sq, AV.bool x69.sv, AV.bool x69.ak, iv (IntKind.i64.wrap (iN ((List.map tkA (mafT (netM l 0 6) l (netK l 0 6))).length + 1) - 1)), iv x69.ph, AV.lst (List.map (iv) x69.rt), iv x69.wt, iv x69.dt]))[0 + (IntKind.i64.wrap (iN ((List.map unA (mafU (netM l 0 6) l (netK l 0 6))).length + [AV.agg [iv 1, AV.bool false, iv 0, iv x32, iv (-1), AV.int IntKind.u64 0, AV.bool false, AV.bool false, iv (-1), iv 0, AV.lst [], iv 0, iv 0]].length) - 1)).toNat]? = some (AV.agg [iv x71.sta, AV.bool x71.lv, iv x71.hm, iv x71.cl, iv x71.to, AV.int IntKind.u64 x71.sq, AV.bool x71.sv, AV.bool x71.ak, iv x71.tk, iv x71.ph, AV.lst (List.map (iv) x71.rt), iv x71.wt, iv x71.dt]) from getMapE (f := unA) a13 (by first | (simp [gL, boL, lI, sA, bA, tkA, unA]; done) | (simp [gL, boL, lI, sA, bA, tkA, unA, netA]; done) | (simp only [netA, List.map_append, List.map_set, List.map_cons, List.map_nil]; rfl))))))))))))))))))) (aj (u2 (u2 (aj (k2 (aj a14 a15)) (u2 (al (ak (show (List.map tkA (mafT (netM l 0 6) l (netK l 0 6)) ++ [AV.agg [iv 1, iv 2, iv 0, iv (-1), iv 0]])[0 + (IntKind.i64.wrap (iN ((List.map tkA (mafT (netM l 0 6) l (netK l 0 6))).length + 1) - 1)).toNat]? = some (AV.agg [iv x75.pk, iv x75.dr, iv x75.sta, iv x75.rb, iv x75.ov]) from getMapE (f := tkA) a16 (by first | (simp [gL, boL, lI, sA, bA, tkA, unA]; done) | (simp [gL, boL, lI, sA, bA, tkA, unA, netA]; done) | (simp only [netA, List.map_append, List.map_set, List.map_cons, List.map_nil]; rfl))))))))) (aj (u2 (u2 (u2 (aj (k3 (aj t9 (aj (show (List.map unA (mafU (netM l 0 6) l (netK l 0 6))).length + [AV.agg [iv 1, AV.bool false, iv 0, iv x32, iv (-1), AV.int IntKind.u64 0, AV.bool false, AV.bool false, iv (-1), iv 0, AV.lst [], iv 0, iv 0]].length = (((List.map unA (mafU (netM l 0 6) l (netK l 0 6)) ++ [AV.agg [iv 1, AV.bool false, iv 0, iv x32, iv (-1), AV.int IntKind.u64 0, AV.bool false, AV.bool false, iv (-1), iv 0, AV.lst [], iv 0, iv 0]]).set (0 + (IntKind.i64.wrap (iN ((List.map unA (mafU (netM l 0 6) l (netK l 0 6))).length + [AV.agg [iv 1, AV.bool false, iv 0, iv x32, iv (-1), AV.int IntKind.u64 0, AV.bool false, AV.bool false, iv (-1), iv 0, AV.lst [], iv 0, iv 0]].length) - 1)).toNat) (AV.agg [iv x69.sta, AV.bool x69.lv, iv x69.hm, iv x69.cl, iv x69.to, AV.int IntKind.u64 x69.sq, AV.bool x69.sv, AV.bool x69.ak, iv (IntKind.i64.wrap (iN ((List.map tkA (mafT (netM l 0 6) l (netK l 0 6))).length + 1) - 1)), iv x69.ph, AV.lst (List.map (iv) x69.rt), iv x69.wt, iv x69.dt])).set (0 + (IntKind.i64.wrap (iN ((List.map unA (mafU (netM l 0 6) l (netK l 0 6))).length + [AV.agg [iv 1, AV.bool false, iv 0, iv x32, iv (-1), AV.int IntKind.u64 0, AV.bool false, AV.bool false, iv (-1), iv 0, AV.lst [], iv 0, iv 0]].length) - 1)).toNat) (AV.agg [iv x71.sta, AV.bool x71.lv, iv x71.hm, iv x71.cl, iv x71.to, AV.int IntKind.u64 x71.sq, AV.bool x71.sv, AV.bool x71.ak, iv x71.tk, iv 1, AV.lst (List.map (iv) x71.rt), iv x71.wt, iv x71.dt])).length by simp) (aj (show (List.map tkA (mafT (netM l 0 6) l (netK l 0 6))).length + 1 = ((List.map tkA (mafT (netM l 0 6) l (netK l 0 6)) ++ [AV.agg [iv 1, iv 2, iv 0, iv (-1), iv 0]]).set (0 + (IntKind.i64.wrap (iN ((List.map tkA (mafT (netM l 0 6) l (netK l 0 6))).length + 1) - 1)).toNat) (AV.agg [iv x75.pk, iv x75.dr, iv 1, iv x75.rb, iv x75.ov])).length by simp) (aj (show CT Try.prog 19 [] [AV.agg [AV.lst (List.map bA (netM l 0 6).bs), AV.lst (gL (netM l 0 6).nx), AV.lst (List.map sA (netM l 0 6).ss), AV.lst (List.map (iv) (netM l 0 6).rs), iv (netM l 0 6).q, iv (netM l 0 6).a, iv (netM l 0 6).d, iv (netM l 0 6).p], AV.lst (((List.map unA (mafU (netM l 0 6) l (netK l 0 6)) ++ [AV.agg [iv 1, AV.bool false, iv 0, iv x32, iv (-1), AV.int IntKind.u64 0, AV.bool false, AV.bool false, iv (-1), iv 0, AV.lst [], iv 0, iv 0]]).set (0 + (IntKind.i64.wrap (iN ((List.map unA (mafU (netM l 0 6) l (netK l 0 6))).length + [AV.agg [iv 1, AV.bool false, iv 0, iv x32, iv (-1), AV.int IntKind.u64 0, AV.bool false, AV.bool false, iv (-1), iv 0, AV.lst [], iv 0, iv 0]].length) - 1)).toNat) (AV.agg [iv x69.sta, AV.bool x69.lv, iv x69.hm, iv x69.cl, iv x69.to, AV.int IntKind.u64 x69.sq, AV.bool x69.sv, AV.bool x69.ak, iv (IntKind.i64.wrap (iN ((List.map tkA (mafT (netM l 0 6) l (netK l 0 6))).length + 1) - 1)), iv x69.ph, AV.lst (List.map (iv) x69.rt), iv x69.wt, iv x69.dt])).set (0 + (IntKind.i64.wrap (iN ((List.map unA (mafU (netM l 0 6) l (netK l 0 6))).length + [AV.agg [iv 1, AV.bool false, iv 0, iv x32, iv (-1), AV.int IntKind.u64 0, AV.bool false, AV.bool false, iv (-1), iv 0, AV.lst [], iv 0, iv 0]].length) - 1)).toNat) (AV.agg [iv x71.sta, AV.bool x71.lv, iv x71.hm, iv x71.cl, iv x71.to, AV.int IntKind.u64 x71.sq, AV.bool x71.sv, AV.bool x71.ak, iv x71.tk, iv 1, AV.lst (List.map (iv) x71.rt), iv x71.wt, iv x71.dt])), AV.lst ((List.map tkA (mafT (netM l 0 6) l (netK l 0 6)) ++ [AV.agg [iv 1, iv 2, iv 0, iv (-1), iv 0]]).set (0 + (IntKind.i64.wrap (iN ((List.map tkA (mafT (netM l 0 6) l (netK l 0 6))).length + 1) - 1)).toNat) (AV.agg [iv x75.pk, iv x75.dr, iv 1, iv x75.rb, iv x75.ov]))] [some (Blk.mk (List.map (iv) (cntL (netM l 0 6) (((mafU (netM l 0 6) l (netK l 0 6) ++ [UnD.mk 1 false 0 x32 (-1) 0 false false (-1) 0 [] 0 0]).set (0 + (IntKind.i64.wrap (iN ((List.map unA (mafU (netM l 0 6) l (netK l 0 6))).length + [AV.agg [iv 1, AV.bool false, iv 0, iv x32, iv (-1), AV.int IntKind.u64 0, AV.bool false, AV.bool false, iv (-1), iv 0, AV.lst [], iv 0, iv 0]].length) - 1)).toNat) (UnD.mk x69.sta x69.lv x69.hm x69.cl x69.to x69.sq x69.sv x69.ak (IntKind.i64.wrap (iN ((List.map tkA (mafT (netM l 0 6) l (netK l 0 6))).length + 1) - 1)) x69.ph x69.11 x69.wt x69.dt)).set (0 + (IntKind.i64.wrap (iN ((List.map unA (mafU (netM l 0 6) l (netK l 0 6))).length + [AV.agg [iv 1, AV.bool false, iv 0, iv x32, iv (-1), AV.int IntKind.u64 0, AV.bool false, AV.bool false, iv (-1), iv 0, AV.lst [], iv 0, iv 0]].length) - 1)).toNat) (UnD.mk x71.sta x71.lv x71.hm x71.cl x71.to x71.sq x71.sv x71.ak x71.tk 1 x71.11 x71.wt x71.dt)) ((mafT (netM l 0 6) l (netK l 0 6) ++ [TkD.mk 1 2 0 (-1) 0]).set (0 + (IntKind.i64.wrap (iN ((List.map tkA (mafT (netM l 0 6) l (netK l 0 6))).length + 1) - 1)).toNat) (TkD.mk x75.pk x75.dr 1 x75.rb x75.ov)))) 1 true true none)] (AV.tup [AV.sl 0 0 (cntL (netM l 0 6) (((mafU (netM l 0 6) l (netK l 0 6) ++ [UnD.mk 1 false 0 x32 (-1) 0 false false (-1) 0 [] 0 0]).set (0 + (IntKind.i64.wrap (iN ((List.map unA (mafU (netM l 0 6) l (netK l 0 6))).length + [AV.agg [iv 1, AV.bool false, iv 0, iv x32, iv (-1), AV.int IntKind.u64 0, AV.bool false, AV.bool false, iv (-1), iv 0, AV.lst [], iv 0, iv 0]].length) - 1)).toNat) (UnD.mk x69.sta x69.lv x69.hm x69.cl x69.to x69.sq x69.sv x69.ak (IntKind.i64.wrap (iN ((List.map tkA (mafT (netM l 0 6) l (netK l 0 6))).length + 1) - 1)) x69.ph x69.11 x69.wt x69.dt)).set (0 + (IntKind.i64.wrap (iN ((List.map unA (mafU (netM l 0 6) l (netK l 0 6))).length + [AV.agg [iv 1, AV.bool false, iv 0, iv x32, iv (-1), AV.int IntKind.u64 0, AV.bool false, AV.bool false, iv (-1), iv 0, AV.lst [], iv 0, iv 0]].length) - 1)).toNat) (UnD.mk x71.sta x71.lv x71.hm x71.cl x71.to x71.sq x71.sv x71.ak x71.tk 1 x71.11 x71.wt x71.dt)) ((mafT (netM l 0 6) l (netK l 0 6) ++ [TkD.mk 1 2 0 (-1) 0]).set (0 + (IntKind.i64.wrap (iN ((List.map tkA (mafT (netM l 0 6) l (netK l 0 6))).length + 1) - 1)).toNat) (TkD.mk x75.pk x75.dr 1 x75.rb x75.ov))).length, iv 0]) from CT.eqs (sTakenF_ct (netM l 0 6) (((mafU (netM l 0 6) l (netK l 0 6) ++ [UnD.mk 1 false 0 x32 (-1) 0 false false (-1) 0 [] 0 0]).set (0 + (IntKind.i64.wrap (iN ((List.map unA (mafU (netM l 0 6) l (netK l 0 6))).length + [AV.agg [iv 1, AV.bool false, iv 0, iv x32, iv (-1), AV.int IntKind.u64 0, AV.bool false, AV.bool false, iv (-1), iv 0, AV.lst [], iv 0, iv 0]].length) - 1)).toNat) (UnD.mk x69.sta x69.lv x69.hm x69.cl x69.to x69.sq x69.sv x69.ak (IntKind.i64.wrap (iN ((List.map tkA (mafT (netM l 0 6) l (netK l 0 6))).length + 1) - 1)) x69.ph x69.11 x69.wt x69.dt)).set (0 + (IntKind.i64.wrap (iN ((List.map unA (mafU (netM l 0 6) l (netK l 0 6))).length + [AV.agg [iv 1, AV.bool false, iv 0, iv x32, iv (-1), AV.int IntKind.u64 0, AV.bool false, AV.bool false, iv (-1), iv 0, AV.lst [], iv 0, iv 0]].length) - 1)).toNat) (UnD.mk x71.sta x71.lv x71.hm x71.cl x71.to x71.sq x71.sv x71.ak x71.tk 1 x71.11 x71.wt x71.dt)) ((mafT (netM l 0 6) l (netK l 0 6) ++ [TkD.mk 1 2 0 (-1) 0]).set (0 + (IntKind.i64.wrap (iN ((List.map tkA (mafT (netM l 0 6) l (netK l 0 6))).length + 1) - 1)).toNat) (TkD.mk x75.pk x75.dr 1 x75.rb x75.ov)) a7 a17) (by first | (simp [gL, boL, lI, sA, bA, tkA, unA]; done) | (simp [gL, boL, lI, sA, bA, tkA, unA, netA]; done) | (simp only [netA, List.map_append, List.map_set, List.map_cons, List.map_nil]; rfl)) (by first | (simp [gL, boL, lI, sA, bA, tkA, unA]; done) | (simp [gL, boL, lI, sA, bA, tkA, unA, netA]; done) | (simp only [netA, List.map_append, List.map_set, List.map_cons, List.map_nil]; rfl))) a18))))) (u2 (u2 (u2 (u2 s2)))))))) (aj (u2 (u2 (u2 (aj t3 (aj t3 (aj t3 (u2 (ag a19 (ag a19 (ag a19 (u2 (aj t3 (aj t3 (aj t3 (aj t3 (aj t3 (aj t4 (aj t3 (u2 (ag a20 (ag a20 (ag a20 (ag a20 (aj (aj a20 t3) (al (aj a20 t2)))))))))))))))))))))))))) (aj a21 s2)))))))))))))))) t2)
     ·
      cases h
      exact Arr.lp [178, 202, 214] [(32, iv x32), (35, AV.tup []), (69, unA x69), (71, unA x71), (75, tkA x75)] [(16, hc (AV.bool true)), (22, Hint.call [0] [] [tapeB l (netK l 0 6)] (netA (netM l 0 6))), (26, Hint.call [0] [] [tapeB l (mafK (netM l 0 6) l (netK l 0 6)), Blk.mk (List.map unA (mafU (netM l 0 6) l (netK l 0 6))) 13 true true none, Blk.mk (List.map tkA (mafT (netM l 0 6) l (netK l 0 6))) 5 true true none] (AV.tup [AV.sl 1 0 (mafU (netM l 0 6) l (netK l 0 6)).length, AV.sl 2 0 (mafT (netM l 0 6) l (netK l 0 6)).length])), (48, Hint.call [] [5, 7] [dB (cntL (netM l 0 6) (mafU (netM l 0 6) l (netK l 0 6) ++ [UnD.mk 1 false 0 x32 (-1) 0 false false (-1) 0 [] 0 0]) (mafT (netM l 0 6) l (netK l 0 6) ++ [TkD.mk 1 2 0 (-1) 0]))] (AV.tup [AV.sl 0 0 (cntL (netM l 0 6) (mafU (netM l 0 6) l (netK l 0 6) ++ [UnD.mk 1 false 0 x32 (-1) 0 false false (-1) 0 [] 0 0]) (mafT (netM l 0 6) l (netK l 0 6) ++ [TkD.mk 1 2 0 (-1) 0])).length, iv 0])), (56, Hint.call [] [5, 7] [] (AV.tup [AV.bool (staB (netM l 0 6) (mafU (netM l 0 6) l (netK l 0 6) ++ [UnD.mk 1 false 0 x32 (-1) 0 false false (-1) 0 [] 0 0]) (mafT (netM l 0 6) l (netK l 0 6) ++ [TkD.mk 1 2 0 (-1) 0]) (IntKind.i64.wrap (iN ((List.map tkA (mafT (netM l 0 6) l (netK l 0 6))).length + 1) - 1))), iv (staE (netM l 0 6) (mafU (netM l 0 6) l (netK l 0 6) ++ [UnD.mk 1 false 0 x32 (-1) 0 false false (-1) 0 [] 0 0]) (mafT (netM l 0 6) l (netK l 0 6) ++ [TkD.mk 1 2 0 (-1) 0]) (IntKind.i64.wrap (iN ((List.map tkA (mafT (netM l 0 6) l (netK l 0 6))).length + 1) - 1)))])), (80, Hint.call [] [5, 7] [dB (cntL (netM l 0 6) (((mafU (netM l 0 6) l (netK l 0 6) ++ [UnD.mk 1 false 0 x32 (-1) 0 false false (-1) 0 [] 0 0]).set (0 + (IntKind.i64.wrap (iN ((List.map unA (mafU (netM l 0 6) l (netK l 0 6))).length + [AV.agg [iv 1, AV.bool false, iv 0, iv x32, iv (-1), AV.int IntKind.u64 0, AV.bool false, AV.bool false, iv (-1), iv 0, AV.lst [], iv 0, iv 0]].length) - 1)).toNat) (UnD.mk x69.sta x69.lv x69.hm x69.cl x69.to x69.sq x69.sv x69.ak (IntKind.i64.wrap (iN ((List.map tkA (mafT (netM l 0 6) l (netK l 0 6))).length + 1) - 1)) x69.ph x69.11 x69.wt x69.dt)).set (0 + (IntKind.i64.wrap (iN ((List.map unA (mafU (netM l 0 6) l (netK l 0 6))).length + [AV.agg [iv 1, AV.bool false, iv 0, iv x32, iv (-1), AV.int IntKind.u64 0, AV.bool false, AV.bool false, iv (-1), iv 0, AV.lst [], iv 0, iv 0]].length) - 1)).toNat) (UnD.mk x71.sta x71.lv x71.hm x71.cl x71.to x71.sq x71.sv x71.ak x71.tk 1 x71.11 x71.wt x71.dt)) ((mafT (netM l 0 6) l (netK l 0 6) ++ [TkD.mk 1 2 0 (-1) 0]).set (0 + (IntKind.i64.wrap (iN ((List.map tkA (mafT (netM l 0 6) l (netK l 0 6))).length + 1) - 1)).toNat) (TkD.mk x75.pk x75.dr 1 x75.rb x75.ov)))] (AV.tup [AV.sl 0 0 (cntL (netM l 0 6) (((mafU (netM l 0 6) l (netK l 0 6) ++ [UnD.mk 1 false 0 x32 (-1) 0 false false (-1) 0 [] 0 0]).set (0 + (IntKind.i64.wrap (iN ((List.map unA (mafU (netM l 0 6) l (netK l 0 6))).length + [AV.agg [iv 1, AV.bool false, iv 0, iv x32, iv (-1), AV.int IntKind.u64 0, AV.bool false, AV.bool false, iv (-1), iv 0, AV.lst [], iv 0, iv 0]].length) - 1)).toNat) (UnD.mk x69.sta x69.lv x69.hm x69.cl x69.to x69.sq x69.sv x69.ak (IntKind.i64.wrap (iN ((List.map tkA (mafT (netM l 0 6) l (netK l 0 6))).length + 1) - 1)) x69.ph x69.11 x69.wt x69.dt)).set (0 + (IntKind.i64.wrap (iN ((List.map unA (mafU (netM l 0 6) l (netK l 0 6))).length + [AV.agg [iv 1, AV.bool false, iv 0, iv x32, iv (-1), AV.int IntKind.u64 0, AV.bool false, AV.bool false, iv (-1), iv 0, AV.lst [], iv 0, iv 0]].length) - 1)).toNat) (UnD.mk x71.sta x71.lv x71.hm x71.cl x71.to x71.sq x71.sv x71.ak x71.tk 1 x71.11 x71.wt x71.dt)) ((mafT (netM l 0 6) l (netK l 0 6) ++ [TkD.mk 1 2 0 (-1) 0]).set (0 + (IntKind.i64.wrap (iN ((List.map tkA (mafT (netM l 0 6) l (netK l 0 6))).length + 1) - 1)).toNat) (TkD.mk x75.pk x75.dr 1 x75.rb x75.ov))).length, iv 0]))] [] [] [1, 8, 9] [4, 8, 10, 12, 14] mix (by kernel_rfl) (aj (u2 (aj (aj (al (known_ct)) s2) (ak (aj (u2 (u2 (u2 s2))) (aj (u2 (aj (ak (k3 (al (net_ct (l) (0) (6) (show nat_lit 0 ≤ (5000 : Nat) from (by first | exact Nat.le_of_ble_eq_true rfl | decide)) (show (1 : Int) ≤ (6 : Int) ∧ (6 : Int) ≤ (20 : Int) from ⟨(by first | exact Nat.le_of_ble_eq_true rfl | decide), (by first | exact Nat.le_of_ble_eq_true rfl | decide)⟩))))) (ak (al (k2 n11))))) (aj (u2 (u2 (aj (k3 (aj t9 (ak (al (madeF_ct (netM l 0 6) (l) (netK l 0 6) a0 a1))))) (u2 (u2 (u2 (u2 s2))))))) (aj (u2 (u2 (u2 (aj (ak (aj (show (0 : Int) ≤ (0 : Int) from (by first | exact Nat.le_of_ble_eq_true rfl | decide)) (getMap (f := iv) a2))) (u2 (u2 (u2 (aj (k2 (aj (show (List.map unA (mafU (netM l 0 6) l (netK l 0 6))).length = (mafU (netM l 0 6) l (netK l 0 6)).length by simp) (aj (aj (show nat_lit 13 = nat_lit 13 from rfl) (show 1 ≤ [AV.agg [iv 1, AV.bool false, iv 0, iv x32, iv (-1), AV.int IntKind.u64 0, AV.bool false, AV.bool false, iv (-1), iv 0, AV.lst [], iv 0, iv 0]].length by simp)) (aj a3 a4)))) s2)))))))) (aj (u2 (ak (u2 (aj (k2 (aj (show (List.map tkA (mafT (netM l 0 6) l (netK l 0 6))).length = (mafT (netM l 0 6) l (netK l 0 6)).length by simp) (aj (aj (show nat_lit 5 = nat_lit 5 from rfl) (show nat_lit 1 ≤ nat_lit 1 from (by first | exact Nat.le_of_ble_eq_true rfl | decide))) (aj a5 a6)))) s2)))) (aj (u2 (u2 (u2 s2))) (aj (u2 (u2 (u2 (aj (k3 (aj t9 (aj (show (List.map unA (mafU (netM l 0 6) l (netK l 0 6))).length + [AV.agg [iv 1, AV.bool false, iv 0, iv x32, iv (-1), AV.int IntKind.u64 0, AV.bool false, AV.bool false, iv (-1), iv 0, AV.lst [], iv 0, iv 0]].length = (List.map unA (mafU (netM l 0 6) l (netK l 0 6)) ++ [AV.agg [iv 1, AV.bool false, iv 0, iv x32, iv (-1), AV.int IntKind.u64 0, AV.bool false, AV.bool false, iv (-1), iv 0, AV.lst [], iv 0, iv 0]]).length by simp) (aj (show (List.map tkA (mafT (netM l 0 6) l (netK l 0 6))).length + 1 = (List.map tkA (mafT (netM l 0 6) l (netK l 0 6)) ++ [AV.agg [iv 1, iv 2, iv 0, iv (-1), iv 0]]).length by simp) (aj (show CT Try.prog 19 [] [AV.agg [AV.lst (List.map bA (netM l 0 6).bs), AV.lst (gL (netM l 0 6).nx), AV.lst (List.map sA (netM l 0 6).ss), AV.lst (List.map (iv) (netM l 0 6).rs), iv (netM l 0 6).q, iv (netM l 0 6).a, iv (netM l 0 6).d, iv (netM l 0 6).p], AV.lst (List.map unA (mafU (netM l 0 6) l (netK l 0 6)) ++ [AV.agg [iv 1, AV.bool false, iv 0, iv x32, iv (-1), AV.int IntKind.u64 0, AV.bool false, AV.bool false, iv (-1), iv 0, AV.lst [], iv 0, iv 0]]), AV.lst (List.map tkA (mafT (netM l 0 6) l (netK l 0 6)) ++ [AV.agg [iv 1, iv 2, iv 0, iv (-1), iv 0]])] [some (Blk.mk (List.map (iv) (cntL (netM l 0 6) (mafU (netM l 0 6) l (netK l 0 6) ++ [UnD.mk 1 false 0 x32 (-1) 0 false false (-1) 0 [] 0 0]) (mafT (netM l 0 6) l (netK l 0 6) ++ [TkD.mk 1 2 0 (-1) 0]))) 1 true true none)] (AV.tup [AV.sl 0 0 (cntL (netM l 0 6) (mafU (netM l 0 6) l (netK l 0 6) ++ [UnD.mk 1 false 0 x32 (-1) 0 false false (-1) 0 [] 0 0]) (mafT (netM l 0 6) l (netK l 0 6) ++ [TkD.mk 1 2 0 (-1) 0])).length, iv 0]) from CT.eqs (sTakenF_ct (netM l 0 6) (mafU (netM l 0 6) l (netK l 0 6) ++ [UnD.mk 1 false 0 x32 (-1) 0 false false (-1) 0 [] 0 0]) (mafT (netM l 0 6) l (netK l 0 6) ++ [TkD.mk 1 2 0 (-1) 0]) a7 a8) (by first | (simp [gL, boL, lI, sA, bA, tkA, unA]; done) | (simp [gL, boL, lI, sA, bA, tkA, unA, netA]; done) | (simp only [netA, List.map_append, List.map_set, List.map_cons, List.map_nil]; rfl)) (by first | (simp [gL, boL, lI, sA, bA, tkA, unA]; done) | (simp [gL, boL, lI, sA, bA, tkA, unA, netA]; done) | (simp only [netA, List.map_append, List.map_set, List.map_cons, List.map_nil]; rfl))) a9))))) (u2 (u2 (u2 (u2 s2)))))))) (aj (u2 (u2 (u2 (u2 (aj (ak (k3 (aj t9 (aj (show (List.map unA (mafU (netM l 0 6) l (netK l 0 6))).length + [AV.agg [iv 1, AV.bool false, iv 0, iv x32, iv (-1), AV.int IntKind.u64 0, AV.bool false, AV.bool false, iv (-1), iv 0, AV.lst [], iv 0, iv 0]].length = (List.map unA (mafU (netM l 0 6) l (netK l 0 6)) ++ [AV.agg [iv 1, AV.bool false, iv 0, iv x32, iv (-1), AV.int IntKind.u64 0, AV.bool false, AV.bool false, iv (-1), iv 0, AV.lst [], iv 0, iv 0]]).length by simp) (aj (show (List.map tkA (mafT (netM l 0 6) l (netK l 0 6))).length + 1 = (List.map tkA (mafT (netM l 0 6) l (netK l 0 6)) ++ [AV.agg [iv 1, iv 2, iv 0, iv (-1), iv 0]]).length by simp) (ak (aj (show CT Try.prog 21 [] [AV.agg [AV.lst (List.map bA (netM l 0 6).bs), AV.lst (gL (netM l 0 6).nx), AV.lst (List.map sA (netM l 0 6).ss), AV.lst (List.map (iv) (netM l 0 6).rs), iv (netM l 0 6).q, iv (netM l 0 6).a, iv (netM l 0 6).d, iv (netM l 0 6).p], AV.lst (List.map unA (mafU (netM l 0 6) l (netK l 0 6)) ++ [AV.agg [iv 1, AV.bool false, iv 0, iv x32, iv (-1), AV.int IntKind.u64 0, AV.bool false, AV.bool false, iv (-1), iv 0, AV.lst [], iv 0, iv 0]]), AV.lst (List.map tkA (mafT (netM l 0 6) l (netK l 0 6)) ++ [AV.agg [iv 1, iv 2, iv 0, iv (-1), iv 0]]), iv (IntKind.i64.wrap (iN ((List.map tkA (mafT (netM l 0 6) l (netK l 0 6))).length + 1) - 1))] [] (AV.tup [AV.bool (staB (netM l 0 6) (mafU (netM l 0 6) l (netK l 0 6) ++ [UnD.mk 1 false 0 x32 (-1) 0 false false (-1) 0 [] 0 0]) (mafT (netM l 0 6) l (netK l 0 6) ++ [TkD.mk 1 2 0 (-1) 0]) (IntKind.i64.wrap (iN ((List.map tkA (mafT (netM l 0 6) l (netK l 0 6))).length + 1) - 1))), iv (staE (netM l 0 6) (mafU (netM l 0 6) l (netK l 0 6) ++ [UnD.mk 1 false 0 x32 (-1) 0 false false (-1) 0 [] 0 0]) (mafT (netM l 0 6) l (netK l 0 6) ++ [TkD.mk 1 2 0 (-1) 0]) (IntKind.i64.wrap (iN ((List.map tkA (mafT (netM l 0 6) l (netK l 0 6))).length + 1) - 1)))]) from CT.eqs (sStart_ct a7 (mafU (netM l 0 6) l (netK l 0 6) ++ [UnD.mk 1 false 0 x32 (-1) 0 false false (-1) 0 [] 0 0]) (mafT (netM l 0 6) l (netK l 0 6) ++ [TkD.mk 1 2 0 (-1) 0]) (IntKind.i64.wrap (iN ((List.map tkA (mafT (netM l 0 6) l (netK l 0 6))).length + 1) - 1))) (by first | (simp [gL, boL, lI, sA, bA, tkA, unA]; done) | (simp [gL, boL, lI, sA, bA, tkA, unA, netA]; done) | (simp only [netA, List.map_append, List.map_set, List.map_cons, List.map_nil]; rfl)) (by first | (simp [gL, boL, lI, sA, bA, tkA, unA]; done) | (simp [gL, boL, lI, sA, bA, tkA, unA, netA]; done) | (simp only [netA, List.map_append, List.map_set, List.map_cons, List.map_nil]; rfl))) (show ∀ (blk : Blk), blk ∈ [] → ImmB blk from (by intro _ h; cases h))))))))) (u2 (u2 (u2 (u2 s2))))))))) (aj (u2 (u2 (u2 (u2 (u2 (u2 (u2 (u2 (u2 (aj (k2 (aj a10 a11)) (u2 (aj (k2 (show (List.map unA (mafU (netM l 0 6) l (netK l 0 6)) ++ [AV.agg [iv 1, AV.bool false, iv 0, iv x32, iv (-1), AV.int IntKind.u64 0, AV.bool false, AV.bool false, iv (-1), iv 0, AV.lst [], iv 0, iv 0]])[0 + (IntKind.i64.wrap (iN ((List.map unA (mafU (netM l 0 6) l (netK l 0 6))).length + [AV.agg [iv 1, AV.bool false, iv 0, iv x32, iv (-1), AV.int IntKind.u64 0, AV.bool false, AV.bool false, iv (-1), iv 0, AV.lst [], iv 0, iv 0]].length) - 1)).toNat]? = some (AV.agg [iv x69.sta, AV.bool x69.lv, iv x69.hm, iv x69.cl, iv x69.to, AV.int IntKind.u64 x69.sq, AV.bool x69.sv, AV.bool x69.ak, iv x69.tk, iv x69.ph, AV.lst (List.map (iv) x69.rt), iv x69.wt, iv x69.dt]) from getMapE (f := unA) a12 (by first | (simp [gL, boL, lI, sA, bA, tkA, unA]; done) | (simp [gL, boL, lI, sA, bA, tkA, unA, netA]; done) | (simp only [netA, List.map_append, List.map_set, List.map_cons, List.map_nil]; rfl)))) (aj (k2 (aj a10 a11)) (u2 (al (ak (show ((List.map unA (mafU (netM l 0 6) l (netK l 0 6)) ++ [AV.agg [iv 1, AV.bool false, iv 0, iv x32, iv (-1), AV.int IntKind.u64 0, AV.bool false, AV.bool false, iv (-1), iv 0, AV.lst [], iv 0, iv 0]]).set (0 + (IntKind.i64.wrap (iN ((List.map unA (mafU (netM l 0 6) l (netK l 0 6))).length + [AV.agg [iv 1, AV.bool false, iv 0, iv x32, iv (-1), AV.int IntKind.u64 0, AV.bool false, AV.bool false, iv (-1), iv 0, AV.lst [], iv 0, iv 0]].length) - 1)).toNat) (AV.agg [iv x69.sta, AV.bool x69.lv, iv x69.hm, iv x69.cl, iv x69.to, AV.int IntKind.u64 x69.sq, AV.bool x69.sv, AV.bool x69.ak, iv (IntKind.i64.wrap (iN ((List.map tkA (mafT (netM l 0 6) l (netK l 0 6))).length + 1) - 1)), iv x69.ph, AV.lst (List.map (iv) x69.rt), iv x69.wt, iv x69.dt]))[0 + (IntKind.i64.wrap (iN ((List.map unA (mafU (netM l 0 6) l (netK l 0 6))).length + [AV.agg [iv 1, AV.bool false, iv 0, iv x32, iv (-1), AV.int IntKind.u64 0, AV.bool false, AV.bool false, iv (-1), iv 0, AV.lst [], iv 0, iv 0]].length) - 1)).toNat]? = some (AV.agg [iv x71.sta, AV.bool x71.lv, iv x71.hm, iv x71.cl, iv x71.to, AV.int IntKind.u64 x71.sq, AV.bool x71.sv, AV.bool x71.ak, iv x71.tk, iv x71.ph, AV.lst (List.map (iv) x71.rt), iv x71.wt, iv x71.dt]) from getMapE (f := unA) a13 (by first | (simp [gL, boL, lI, sA, bA, tkA, unA]; done) | (simp [gL, boL, lI, sA, bA, tkA, unA, netA]; done) | (simp only [netA, List.map_append, List.map_set, List.map_cons, List.map_nil]; rfl))))))))))))))))))) (aj (u2 (u2 (aj (k2 (aj a14 a15)) (u2 (al (ak (show (List.map tkA (mafT (netM l 0 6) l (netK l 0 6)) ++ [AV.agg [iv 1, iv 2, iv 0, iv (-1), iv 0]])[0 + (IntKind.i64.wrap (iN ((List.map tkA (mafT (netM l 0 6) l (netK l 0 6))).length + 1) - 1)).toNat]? = some (AV.agg [iv x75.pk, iv x75.dr, iv x75.sta, iv x75.rb, iv x75.ov]) from getMapE (f := tkA) a16 (by first | (simp [gL, boL, lI, sA, bA, tkA, unA]; done) | (simp [gL, boL, lI, sA, bA, tkA, unA, netA]; done) | (simp only [netA, List.map_append, List.map_set, List.map_cons, List.map_nil]; rfl))))))))) (aj (u2 (u2 (u2 (aj (k3 (aj t9 (aj (show (List.map unA (mafU (netM l 0 6) l (netK l 0 6))).length + [AV.agg [iv 1, AV.bool false, iv 0, iv x32, iv (-1), AV.int IntKind.u64 0, AV.bool false, AV.bool false, iv (-1), iv 0, AV.lst [], iv 0, iv 0]].length = (((List.map unA (mafU (netM l 0 6) l (netK l 0 6)) ++ [AV.agg [iv 1, AV.bool false, iv 0, iv x32, iv (-1), AV.int IntKind.u64 0, AV.bool false, AV.bool false, iv (-1), iv 0, AV.lst [], iv 0, iv 0]]).set (0 + (IntKind.i64.wrap (iN ((List.map unA (mafU (netM l 0 6) l (netK l 0 6))).length + [AV.agg [iv 1, AV.bool false, iv 0, iv x32, iv (-1), AV.int IntKind.u64 0, AV.bool false, AV.bool false, iv (-1), iv 0, AV.lst [], iv 0, iv 0]].length) - 1)).toNat) (AV.agg [iv x69.sta, AV.bool x69.lv, iv x69.hm, iv x69.cl, iv x69.to, AV.int IntKind.u64 x69.sq, AV.bool x69.sv, AV.bool x69.ak, iv (IntKind.i64.wrap (iN ((List.map tkA (mafT (netM l 0 6) l (netK l 0 6))).length + 1) - 1)), iv x69.ph, AV.lst (List.map (iv) x69.rt), iv x69.wt, iv x69.dt])).set (0 + (IntKind.i64.wrap (iN ((List.map unA (mafU (netM l 0 6) l (netK l 0 6))).length + [AV.agg [iv 1, AV.bool false, iv 0, iv x32, iv (-1), AV.int IntKind.u64 0, AV.bool false, AV.bool false, iv (-1), iv 0, AV.lst [], iv 0, iv 0]].length) - 1)).toNat) (AV.agg [iv x71.sta, AV.bool x71.lv, iv x71.hm, iv x71.cl, iv x71.to, AV.int IntKind.u64 x71.sq, AV.bool x71.sv, AV.bool x71.ak, iv x71.tk, iv 1, AV.lst (List.map (iv) x71.rt), iv x71.wt, iv x71.dt])).length by simp) (aj (show (List.map tkA (mafT (netM l 0 6) l (netK l 0 6))).length + 1 = ((List.map tkA (mafT (netM l 0 6) l (netK l 0 6)) ++ [AV.agg [iv 1, iv 2, iv 0, iv (-1), iv 0]]).set (0 + (IntKind.i64.wrap (iN ((List.map tkA (mafT (netM l 0 6) l (netK l 0 6))).length + 1) - 1)).toNat) (AV.agg [iv x75.pk, iv x75.dr, iv 1, iv x75.rb, iv x75.ov])).length by simp) (aj (show CT Try.prog 19 [] [AV.agg [AV.lst (List.map bA (netM l 0 6).bs), AV.lst (gL (netM l 0 6).nx), AV.lst (List.map sA (netM l 0 6).ss), AV.lst (List.map (iv) (netM l 0 6).rs), iv (netM l 0 6).q, iv (netM l 0 6).a, iv (netM l 0 6).d, iv (netM l 0 6).p], AV.lst (((List.map unA (mafU (netM l 0 6) l (netK l 0 6)) ++ [AV.agg [iv 1, AV.bool false, iv 0, iv x32, iv (-1), AV.int IntKind.u64 0, AV.bool false, AV.bool false, iv (-1), iv 0, AV.lst [], iv 0, iv 0]]).set (0 + (IntKind.i64.wrap (iN ((List.map unA (mafU (netM l 0 6) l (netK l 0 6))).length + [AV.agg [iv 1, AV.bool false, iv 0, iv x32, iv (-1), AV.int IntKind.u64 0, AV.bool false, AV.bool false, iv (-1), iv 0, AV.lst [], iv 0, iv 0]].length) - 1)).toNat) (AV.agg [iv x69.sta, AV.bool x69.lv, iv x69.hm, iv x69.cl, iv x69.to, AV.int IntKind.u64 x69.sq, AV.bool x69.sv, AV.bool x69.ak, iv (IntKind.i64.wrap (iN ((List.map tkA (mafT (netM l 0 6) l (netK l 0 6))).length + 1) - 1)), iv x69.ph, AV.lst (List.map (iv) x69.rt), iv x69.wt, iv x69.dt])).set (0 + (IntKind.i64.wrap (iN ((List.map unA (mafU (netM l 0 6) l (netK l 0 6))).length + [AV.agg [iv 1, AV.bool false, iv 0, iv x32, iv (-1), AV.int IntKind.u64 0, AV.bool false, AV.bool false, iv (-1), iv 0, AV.lst [], iv 0, iv 0]].length) - 1)).toNat) (AV.agg [iv x71.sta, AV.bool x71.lv, iv x71.hm, iv x71.cl, iv x71.to, AV.int IntKind.u64 x71.sq, AV.bool x71.sv, AV.bool x71.ak, iv x71.tk, iv 1, AV.lst (List.map (iv) x71.rt), iv x71.wt, iv x71.dt])), AV.lst ((List.map tkA (mafT (netM l 0 6) l (netK l 0 6)) ++ [AV.agg [iv 1, iv 2, iv 0, iv (-1), iv 0]]).set (0 + (IntKind.i64.wrap (iN ((List.map tkA (mafT (netM l 0 6) l (netK l 0 6))).length + 1) - 1)).toNat) (AV.agg [iv x75.pk, iv x75.dr, iv 1, iv x75.rb, iv x75.ov]))] [some (Blk.mk (List.map (iv) (cntL (netM l 0 6) (((mafU (netM l 0 6) l (netK l 0 6) ++ [UnD.mk 1 false 0 x32 (-1) 0 false false (-1) 0 [] 0 0]).set (0 + (IntKind.i64.wrap (iN ((List.map unA (mafU (netM l 0 6) l (netK l 0 6))).length + [AV.agg [iv 1, AV.bool false, iv 0, iv x32, iv (-1), AV.int IntKind.u64 0, AV.bool false, AV.bool false, iv (-1), iv 0, AV.lst [], iv 0, iv 0]].length) - 1)).toNat) (UnD.mk x69.sta x69.lv x69.hm x69.cl x69.to x69.sq x69.sv x69.ak (IntKind.i64.wrap (iN ((List.map tkA (mafT (netM l 0 6) l (netK l 0 6))).length + 1) - 1)) x69.ph x69.11 x69.wt x69.dt)).set (0 + (IntKind.i64.wrap (iN ((List.map unA (mafU (netM l 0 6) l (netK l 0 6))).length + [AV.agg [iv 1, AV.bool false, iv 0, iv x32, iv (-1), AV.int IntKind.u64 0, AV.bool false, AV.bool false, iv (-1), iv 0, AV.lst [], iv 0, iv 0]].length) - 1)).toNat) (UnD.mk x71.sta x71.lv x71.hm x71.cl x71.to x71.sq x71.sv x71.ak x71.tk 1 x71.11 x71.wt x71.dt)) ((mafT (netM l 0 6) l (netK l 0 6) ++ [TkD.mk 1 2 0 (-1) 0]).set (0 + (IntKind.i64.wrap (iN ((List.map tkA (mafT (netM l 0 6) l (netK l 0 6))).length + 1) - 1)).toNat) (TkD.mk x75.pk x75.dr 1 x75.rb x75.ov)))) 1 true true none)] (AV.tup [AV.sl 0 0 (cntL (netM l 0 6) (((mafU (netM l 0 6) l (netK l 0 6) ++ [UnD.mk 1 false 0 x32 (-1) 0 false false (-1) 0 [] 0 0]).set (0 + (IntKind.i64.wrap (iN ((List.map unA (mafU (netM l 0 6) l (netK l 0 6))).length + [AV.agg [iv 1, AV.bool false, iv 0, iv x32, iv (-1), AV.int IntKind.u64 0, AV.bool false, AV.bool false, iv (-1), iv 0, AV.lst [], iv 0, iv 0]].length) - 1)).toNat) (UnD.mk x69.sta x69.lv x69.hm x69.cl x69.to x69.sq x69.sv x69.ak (IntKind.i64.wrap (iN ((List.map tkA (mafT (netM l 0 6) l (netK l 0 6))).length + 1) - 1)) x69.ph x69.11 x69.wt x69.dt)).set (0 + (IntKind.i64.wrap (iN ((List.map unA (mafU (netM l 0 6) l (netK l 0 6))).length + [AV.agg [iv 1, AV.bool false, iv 0, iv x32, iv (-1), AV.int IntKind.u64 0, AV.bool false, AV.bool false, iv (-1), iv 0, AV.lst [], iv 0, iv 0]].length) - 1)).toNat) (UnD.mk x71.sta x71.lv x71.hm x71.cl x71.to x71.sq x71.sv x71.ak x71.tk 1 x71.11 x71.wt x71.dt)) ((mafT (netM l 0 6) l (netK l 0 6) ++ [TkD.mk 1 2 0 (-1) 0]).set (0 + (IntKind.i64.wrap (iN ((List.map tkA (mafT (netM l 0 6) l (netK l 0 6))).length + 1) - 1)).toNat) (TkD.mk x75.pk x75.dr 1 x75.rb x75.ov))).length, iv 0]) from CT.eqs (sTakenF_ct (netM l 0 6) (((mafU (netM l 0 6) l (netK l 0 6) ++ [UnD.mk 1 false 0 x32 (-1) 0 false false (-1) 0 [] 0 0]).set (0 + (IntKind.i64.wrap (iN ((List.map unA (mafU (netM l 0 6) l (netK l 0 6))).length + [AV.agg [iv 1, AV.bool false, iv 0, iv x32, iv (-1), AV.int IntKind.u64 0, AV.bool false, AV.bool false, iv (-1), iv 0, AV.lst [], iv 0, iv 0]].length) - 1)).toNat) (UnD.mk x69.sta x69.lv x69.hm x69.cl x69.to x69.sq x69.sv x69.ak (IntKind.i64.wrap (iN ((List.map tkA (mafT (netM l 0 6) l (netK l 0 6))).length + 1) - 1)) x69.ph x69.11 x69.wt x69.dt)).set (0 + (IntKind.i64.wrap (iN ((List.map unA (mafU (netM l 0 6) l (netK l 0 6))).length + [AV.agg [iv 1, AV.bool false, iv 0, iv x32, iv (-1), AV.int IntKind.u64 0, AV.bool false, AV.bool false, iv (-1), iv 0, AV.lst [], iv 0, iv 0]].length) - 1)).toNat) (UnD.mk x71.sta x71.lv x71.hm x71.cl x71.to x71.sq x71.sv x71.ak x71.tk 1 x71.11 x71.wt x71.dt)) ((mafT (netM l 0 6) l (netK l 0 6) ++ [TkD.mk 1 2 0 (-1) 0]).set (0 + (IntKind.i64.wrap (iN ((List.map tkA (mafT (netM l 0 6) l (netK l 0 6))).length + 1) - 1)).toNat) (TkD.mk x75.pk x75.dr 1 x75.rb x75.ov)) a7 a17) (by first | (simp [gL, boL, lI, sA, bA, tkA, unA]; done) | (simp [gL, boL, lI, sA, bA, tkA, unA, netA]; done) | (simp only [netA, List.map_append, List.map_set, List.map_cons, List.map_nil]; rfl)) (by first | (simp [gL, boL, lI, sA, bA, tkA, unA]; done) | (simp [gL, boL, lI, sA, bA, tkA, unA, netA]; done) | (simp only [netA, List.map_append, List.map_set, List.map_cons, List.map_nil]; rfl))) a18))))) (u2 (u2 (u2 (u2 s2)))))))) (aj (u2 (u2 (u2 (aj t3 (aj t3 (aj t3 (u2 (ag a19 (ag a19 (ag a19 (u2 (aj t3 (aj t3 (aj t3 (aj t3 (aj t3 (aj t4 (aj t3 (u2 (ag a20 (ag a20 (ag a20 (ag a20 (aj (aj a20 t3) (al (aj a20 t2)))))))))))))))))))))))))) (aj a21 s2)))))))))))))))) t9)
  ·
   cases h
 ·
  cases h
theorem stFS0_ok (l : List Int) (v0 : List Int) (v1 : Bool) (v2 : List Int) (v3 : Int) (o : stFPc ⊕ Ret) (h : stFS0 l v0 v1 v2 v3 = some o) : Arr Try.prog Try.f4 0 (stFSt l) stFHd (headC Try.f4 0) (.rnd (headC Try.f4 0) :: headK Try.f4 0) (stFSt l (.l0 v0 v1 v2 v3)) o := by
 unfold stFS0 at h
 rcases br_inv h with ⟨a0, h⟩ | ⟨a0, h⟩
 ·
  obtain ⟨a1, h⟩ := gu_inv h
  obtain ⟨a2, h⟩ := gu_inv h
  obtain ⟨x117, a3, h⟩ := el_inv h
  rcases br_inv h with ⟨a4, h⟩ | ⟨a4, h⟩
  ·
   obtain ⟨a5, h⟩ := gu_inv h
   obtain ⟨x129, a6, h⟩ := el_inv h
   rcases br_inv h with ⟨a7, h⟩ | ⟨a7, h⟩
   ·
    cases h
    exact Arr.rt [223, 241, 263] [(117, iv x117), (129, iv x129)] [] [] [] [] mix (by kernel_rfl) (aj (aj (u2 (u2 (u2 (al t3)))) (aj a0 (aj (u2 (u2 (aj (k2 (aj a1 a2)) (aj (ak (getMap (f := iv) a3)) s2)))) (aj (u2 (u2 (u2 (aj a4 (aj a4 (al (aj a4 t2))))))) (ak (aj (u2 (u2 s2)) (aj (u2 (u2 (aj (k2 (aj a1 a5)) (aj (ak (getMap (f := iv) a6)) (u2 (al t3)))))) (aj a7 s2)))))))) t2)
   ·
    cases h
    exact Arr.lp [223, 241, 262] [(117, iv x117), (129, iv x129)] [] [] [] [0, 1, 2] [4, 8, 10, 12, 14] mix (by kernel_rfl) (aj (aj (u2 (u2 (u2 (al t3)))) (aj a0 (aj (u2 (u2 (aj (k2 (aj a1 a2)) (aj (ak (getMap (f := iv) a3)) s2)))) (aj (u2 (u2 (u2 (aj a4 (aj a4 (al (aj a4 t2))))))) (ak (aj (u2 (u2 s2)) (aj (u2 (u2 (aj (k2 (aj a1 a5)) (aj (ak (getMap (f := iv) a6)) (u2 (al t3)))))) (aj a7 (al (u2 (u2 s2))))))))))) t9)
  ·
   rcases br_inv h with ⟨a5, h⟩ | ⟨a5, h⟩
   ·
    obtain ⟨a6, h⟩ := gu_inv h
    obtain ⟨x129, a7, h⟩ := el_inv h
    rcases br_inv h with ⟨a8, h⟩ | ⟨a8, h⟩
    ·
     cases h
     exact Arr.rt [223, 240, 247, 263] [(117, iv x117), (129, iv x129)] [] [] [] [] mix (by kernel_rfl) (aj (aj (u2 (u2 (u2 (al t3)))) (aj a0 (aj (u2 (u2 (aj (k2 (aj a1 a2)) (aj (ak (getMap (f := iv) a3)) s2)))) (aj (u2 (u2 (u2 (ag a4 (ag a4 (al (aj a4 t2))))))) (aj a5 (aj (u2 (u2 s2)) (aj (u2 (u2 (aj (k2 (aj a1 a6)) (aj (ak (getMap (f := iv) a7)) (u2 (al t3)))))) (aj a8 s2)))))))) t2)
    ·
     cases h
     exact Arr.lp [223, 240, 247, 262] [(117, iv x117), (129, iv x129)] [] [] [] [0, 1, 2] [4, 8, 10, 12, 14] mix (by kernel_rfl) (aj (aj (u2 (u2 (u2 (al t3)))) (aj a0 (aj (u2 (u2 (aj (k2 (aj a1 a2)) (aj (ak (getMap (f := iv) a3)) s2)))) (aj (u2 (u2 (u2 (ag a4 (ag a4 (al (aj a4 t2))))))) (aj a5 (aj (u2 (u2 s2)) (aj (u2 (u2 (aj (k2 (aj a1 a6)) (aj (ak (getMap (f := iv) a7)) (u2 (al t3)))))) (aj a8 (al (u2 (u2 s2))))))))))) t9)
   ·
    obtain ⟨a6, h⟩ := gu_inv h
    obtain ⟨x129, a7, h⟩ := el_inv h
    rcases br_inv h with ⟨a8, h⟩ | ⟨a8, h⟩
    ·
     cases h
     exact Arr.rt [223, 240, 246, 263] [(117, iv x117), (129, iv x129)] [] [] [] [] mix (by kernel_rfl) (aj (aj (u2 (u2 (u2 (al t3)))) (aj a0 (aj (u2 (u2 (aj (k2 (aj a1 a2)) (aj (ak (getMap (f := iv) a3)) s2)))) (aj (u2 (u2 (u2 (ag a4 (ag a4 (al (aj a4 t2))))))) (aj a5 (aj (u2 (u2 (aj (k2 (aj a1 a6)) (aj (ak (getMap (f := iv) a7)) (u2 (al t3)))))) (aj a8 s2))))))) t2)
    ·
     cases h
     exact Arr.lp [223, 240, 246, 262] [(117, iv x117), (129, iv x129)] [] [] [] [0, 1, 2] [4, 8, 10, 12, 14] mix (by kernel_rfl) (aj (aj (u2 (u2 (u2 (al t3)))) (aj a0 (aj (u2 (u2 (aj (k2 (aj a1 a2)) (aj (ak (getMap (f := iv) a3)) s2)))) (aj (u2 (u2 (u2 (ag a4 (ag a4 (al (aj a4 t2))))))) (aj a5 (aj (u2 (u2 (aj (k2 (aj a1 a6)) (aj (ak (getMap (f := iv) a7)) (u2 (al t3)))))) (aj a8 (al (u2 (u2 s2)))))))))) t9)
 ·
  obtain ⟨a1, h⟩ := gu_inv h
  obtain ⟨x135, a2, h⟩ := el_inv h
  obtain ⟨x138, a3, h⟩ := el_inv h
  rcases br_inv h with ⟨a4, h⟩ | ⟨a4, h⟩
  ·
   obtain ⟨a5, h⟩ := gu_inv h
   obtain ⟨x145, a6, h⟩ := el_inv h
   obtain ⟨x148, a7, h⟩ := el_inv h
   cases h
   exact Arr.rt [222, 285] [(135, iv x135), (138, sA x138), (145, iv x145), (148, sA x148)] [] [] [] [] mix (by kernel_rfl) (aj (aj (u2 (u2 (u2 (al t3)))) (aj a0 (al (u2 (u2 (aj (ak (aj (show (0 : Int) ≤ (1 : Int) from (by first | exact Nat.le_of_ble_eq_true rfl | decide)) a1)) (aj (ak (getMap (f := iv) a2)) (u2 (u2 (aj (ak (aj (show (0 : Int) ≤ (1 : Int) from (by first | exact Nat.le_of_ble_eq_true rfl | decide)) (getMap (f := sA) a3))) (u2 (u2 (aj t3 (u2 (ag a4 (aj (aj a4 (ak (aj (show (0 : Int) ≤ (2 : Int) from (by first | exact Nat.le_of_ble_eq_true rfl | decide)) a5))) (aj (aj a4 (ak (getMap (f := iv) a6))) (ag a4 (ag a4 (aj (aj a4 (ak (aj (show (0 : Int) ≤ (2 : Int) from (by first | exact Nat.le_of_ble_eq_true rfl | decide)) (getMap (f := sA) a7)))) (ag a4 (ag a4 (aj (aj a4 t3) (ag a4 (aj t3 s2))))))))))))))))))))))))) t2)
  ·
   cases h
   exact Arr.rt [222, 284] [(135, iv x135), (138, sA x138)] [] [] [] [] mix (by kernel_rfl) (aj (aj (u2 (u2 (u2 (al t3)))) (aj a0 (al (u2 (u2 (aj (ak (aj (show (0 : Int) ≤ (1 : Int) from (by first | exact Nat.le_of_ble_eq_true rfl | decide)) a1)) (aj (ak (getMap (f := iv) a2)) (u2 (u2 (aj (ak (aj (show (0 : Int) ≤ (1 : Int) from (by first | exact Nat.le_of_ble_eq_true rfl | decide)) (getMap (f := sA) a3))) (u2 (u2 (aj t3 (u2 (aj a4 (aj a4 (aj a4 (aj a4 (aj a4 (aj a4 (aj a4 (aj a4 (aj a4 (ag a4 (aj t3 s2))))))))))))))))))))))))) t2)
theorem stF_ct (l : List Int) (r : Ret) (h : MReach (stFStep l) (stFEn l) r) : CT Try.prog 4 ([]) ([lI l]) r.1 r.2 :=
  CT.mach (fn := Try.f4) (c := bodyOf Try.f4) (S := stFSt l) (hd := stFHd) Try.func4 (by kernel_rfl) (Nat.le_of_ble_eq_true rfl)
    (fun s o ho => match s, ho with
      | .l0 v0 v1 v2 v3, ho => stFS0_ok l v0 v1 v2 v3 o ho
    )
    (fun o ho => stFEn_ok l o ho) h
end Go.Proofs.Ytepomnooippjpaa

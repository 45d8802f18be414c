/- Parts of the proof: Cz1m, CzA, Cz2m, CzB, Cl1m, Rq1m, Rq2m, RqC, RqD, ClA, Cl2m, ClB, Cl3m, ClC, Cl4m, ClD, Cz3m, ClE, Cl5m, ClF, Cm2m, Cm1m, CmA, CmB. -/
import Derived.Test.YtlogjpmajgbgaaaProg
import Derived.KernelRfl
import Derived.Test.YtlogjpmajgbgaaaClosureMonotoneM6
open Go Go.AX Go.Proofs
set_option maxRecDepth 100000
set_option maxHeartbeats 4000000
set_option linter.unusedVariables false
set_option linter.unusedSimpArgs false
namespace Go.Proofs.Ytlogjpmajgbgaaa
noncomputable def ckSSt (n : NetD) (sp : Int) : Empty → St
  | x => x.elim
def ckSHd : Empty → Nat
  | x => x.elim
noncomputable def ckSEn (n : NetD) (sp : Int) : Option (Empty ⊕ Ret) :=
  gu (Rows n.nx) <|
  br (!valB n)
  (some (.inr ([], AV.int IntKind.i64 20)))
  (br (decide (sp < 0))
   (some (.inr ([], AV.int IntKind.i64 19)))
   (br (decide (iN (List.map sA n.ss).length ≤ sp))
    (some (.inr ([], AV.int IntKind.i64 19)))
    (some (.inr ([], AV.int IntKind.i64 0)))))
noncomputable def ckSStep (n : NetD) (sp : Int) : Empty → Option (Empty ⊕ Ret)
  | x => x.elim
theorem ckSEn_ok (n : NetD) (sp : Int) (o : Empty ⊕ Ret) (h : ckSEn n sp = some o) : Arr Try.prog Try.f69 0 (ckSSt n sp) ckSHd (bodyOf Try.f69) [] { n := Try.f69.ntmps, fr := enumF 0 ([netA n, .int .i64 sp]), hp := ([]) } o :=
 Scr.ok h mix (
 .rn 0 [] [] [] [] (al (u2 t2)) <|
 .gu fun a0 =>
 have c0 := valid_net_ct a0;
 .rn 0 [] [] [(7, hK c0 [] [])] [] (al (u2 (aj (ak (aj t9 (al (c0)))) (u2 s2)))) <|
 .br (fun a1 =>
 .rt [11] [] [] [] [] [] (aj (aj a1 s2) t2))
 (fun a1 =>
 .br (fun a2 =>
  .rt [10, 25] [] [] [] [] [] (aj (aj a1 (aj (u2 (u2 (u2 (aj a2 (aj a2 (aj a2 (aj a2 (aj a2 (ag a2 s2))))))))) (ak s2))) t2))
 (fun a2 =>
  .rn 0 [10, 24] [] [] [] (aj a1 (al (u2 (u2 (u2 (ag a2 (ag a2 (ag a2 (ag a2 (aj (aj a2 t3) (ag a2 s2))))))))))) <|
  .br (fun a3 =>
  .rt [24, 19] [] [] [] [] [] (aj (aj a3 s2) t2))
  (fun a3 =>
  .rt [24, 18] [] [] [] [] [] (aj (aj a3 s2) t2))))) (by kernel_rfl)
theorem ckS_ct (n : NetD) (sp : Int) (r : Ret) (h : MReach (ckSStep n sp) (ckSEn n sp) r) : CT Try.prog 69 ([]) ([netA n, .int .i64 sp]) r.1 r.2 :=
  CT.mach (fn := Try.f69) (c := bodyOf Try.f69) (S := ckSSt n sp) (hd := ckSHd) Try.func69 (by kernel_rfl) (Nat.le_of_ble_eq_true rfl)
    (fun s o ho => match s, ho with
      | x, _ => x.elim)
    (fun o ho => ckSEn_ok n sp o ho) h
noncomputable def cntSt (n : NetD) : Empty → St
  | x => x.elim
def cntHd : Empty → Nat
  | x => x.elim
noncomputable def cntEn (n : NetD) : Option (Empty ⊕ Ret) :=
  gu (Rows n.nx) <|
  br (!valB n)
  (some (.inr ([], AV.tup [AV.int IntKind.i64 0, AV.int IntKind.i64 20])))
  (gu (ValidN n) <|
   some (.inr ([], AV.tup [AV.int IntKind.i64 (iN (celN n)), AV.int IntKind.i64 0])))
noncomputable def cntStep (n : NetD) : Empty → Option (Empty ⊕ Ret)
  | x => x.elim
theorem cntEn_ok (n : NetD) (o : Empty ⊕ Ret) (h : cntEn n = some o) : Arr Try.prog Try.f84 0 (cntSt n) cntHd (bodyOf Try.f84) [] { n := Try.f84.ntmps, fr := enumF 0 ([netA n]), hp := ([]) } o :=
 Scr.ok h mix (
 .rn 0 [] [] [] [] (al (u2 t3)) <|
 .gu fun a0 =>
 have c0 := valid_net_ct a0;
 .rn 0 [] [] [(5, hK c0 [] [])] [] (al (u2 (aj (ak (aj t9 (al (c0)))) s2))) <|
 .br (fun a1 =>
 .rt [13] [] [] [] [] [] (aj (aj a1 (al t3)) (al t3)))
 (fun a1 =>
 .gu fun a2 =>
 have c1 := ccount_ct a2;
 .rt [12] [] [(8, hK c1 [] [])] [] [] [] (aj (aj a1 (al (u2 (aj (ak (aj t9 (al (c1)))) (u2 t2))))) (al t3)))) (by kernel_rfl)
theorem cnt_ct (n : NetD) (r : Ret) (h : MReach (cntStep n) (cntEn n) r) : CT Try.prog 84 ([]) ([netA n]) r.1 r.2 :=
  CT.mach (fn := Try.f84) (c := bodyOf Try.f84) (S := cntSt n) (hd := cntHd) Try.func84 (by kernel_rfl) (Nat.le_of_ble_eq_true rfl)
    (fun s o ho => match s, ho with
      | x, _ => x.elim)
    (fun o ho => cntEn_ok n o ho) h
inductive shuPc where
  | l0 (v0 : List Bool) (v1 : Int) (v2 : Nat)
noncomputable def shuSt (L : List Int) (kk : Nat) (c : Int) : shuPc → St
  | .l0 v0 v1 v2 => St.mk 25 [(0, AV.ptr 0 0 0), (1, iv c), (5, AV.sl 1 0 v0.length), (6, iv v1)] [some (tapeB L v2), some (Blk.mk (List.map AV.bool v0) 1 true true none)]
def shuHd : shuPc → Nat
  | .l0 _ _ _ => 0
noncomputable def shuEn (L : List Int) (kk : Nat) (c : Int) : Option (shuPc ⊕ Ret) :=
  gu (0 ≤ c) <|
  gu (1 * c ≤ 281474976710656) <|
  gu (c ≤ 9223372036854775807) <|
  gu (kk < 9223372036854775807) <|
  some (.inl (.l0 (List.replicate c.toNat false) (nextZ L kk 3) (kk + 1)))
noncomputable def shuS0 (L : List Int) (kk : Nat) (c : Int) (v0 : List Bool) (v1 : Int) (v2 : Nat) : Option (shuPc ⊕ Ret) :=
  br (decide (0 < v1))
  (br (decide (0 < c))
   (gu (v2 < 9223372036854775807) <|
    gu (0 ≤ nextZ L v2 c) <|
    gu (nextZ L v2 c < iN v0.length) <|
    gu ((0 + (nextZ L v2 c).toNat).succ.le (List.map AV.bool v0).length) <|
    some (.inl (.l0 (v0.set (0 + (nextZ L v2 c).toNat) true) (IntKind.i64.wrap (v1 - 1)) (v2 + 1))))
   (some (.inr ([some (Blk.mk [AV.agg [AV.lst (List.map (AV.int IntKind.i64) L), AV.int IntKind.i64 (iN v2)]] 2 true true none)], AV.lst (List.map AV.bool v0)))))
  (some (.inr ([some (Blk.mk [AV.agg [AV.lst (List.map (AV.int IntKind.i64) L), AV.int IntKind.i64 (iN v2)]] 2 true true none)], AV.lst (List.map AV.bool v0))))
noncomputable def shuStep (L : List Int) (kk : Nat) (c : Int) : shuPc → Option (shuPc ⊕ Ret)
  | .l0 v0 v1 v2 => shuS0 L kk c v0 v1 v2
theorem shuEn_ok (L : List Int) (kk : Nat) (c : Int) (o : shuPc ⊕ Ret) (h : shuEn L kk c = some o) : Arr Try.prog Try.f28 1 (shuSt L kk c) shuHd (bodyOf Try.f28) [] { n := Try.f28.ntmps, fr := enumF 0 ([.ptr 0 0 0, .int .i64 c]), hp := ([some (tapeB L kk)]) } o :=
 Scr.ok h mix (
 .rn 0 [] [] [] [] s2 <|
 .gu fun a0 =>
 .gu fun a1 =>
 .gu fun a2 =>
 .rn 0 [] [] [] [] (al (u2 (aj (k2 (aj a0 (aj (show c ≤ c by omega) (aj a1 a2)))) s2))) <|
 .gu fun a3 =>
 have c0 := next_ct (L) (kk) (3) a3;
 .lq [] [] [(10, hK c0 [0] [])] [] [] [0, 1] [0, 1, 5, 6] (up [(5, AV.sl 1 0 c.toNat)] [(1, List.replicate c.toNat (AV.bool false))] (shuSt L kk c (.l0 (List.replicate c.toNat false) (nextZ L kk 3) (kk + 1)))) (aj (al (u2 (aj (ak (k3 (al (c0)))) s2))) t7) (by simp [up, upF, upV, upH, upB, shuSt, gL, boL, lI, sA, bA])) (by kernel_rfl)
theorem shuS0_ok (L : List Int) (kk : Nat) (c : Int) (v0 : List Bool) (v1 : Int) (v2 : Nat) (o : shuPc ⊕ Ret) (h : shuS0 L kk c v0 v1 v2 = some o) : Arr Try.prog Try.f28 1 (shuSt L kk c) shuHd (headC Try.f28 0) (.rnd (headC Try.f28 0) :: headK Try.f28 0) (shuSt L kk c (.l0 v0 v1 v2)) o :=
 Scr.ok h mix (
 .br (fun a0 =>
 .rn 0 [27] [] [] [] (al (u2 (u2 (u2 (ag a0 (ag a0 (al (aj a0 t2)))))))) <|
 .br (fun a1 =>
  .gu fun a2 =>
  .gu fun a3 =>
  .gu fun a4 =>
  .gu fun a5 =>
  have c0 := next_ct (L) (v2) (c) a2;
  .lq [27, 33] [] [(22, hK c0 [0] [])] [] [] [0, 1] [0, 1, 5, 6] (up [(5, AV.sl 1 0 v0.length)] [(1, (List.map AV.bool v0).set (0 + (nextZ L v2 c).toNat) (AV.bool true))] (shuSt L kk c (.l0 (v0.set (0 + (nextZ L v2 c).toNat) true) (IntKind.i64.wrap (v1 - 1)) (v2 + 1)))) (aj (aj a1 (aj (u2 (u2 (u2 (aj (k5 (al (c0))) (aj (k2 (aj a3 a4)) (al (ak a5))))))) (al (u2 (u2 s2))))) t7) (by simp [up, upF, upV, upH, upB, shuSt, gL, boL, lI, sA, bA]))
 (fun a1 =>
  .rt [27, 32] [] [] [] [0] [1] (aj (aj a1 (al (u2 s2))) (aj (show v0.length = (List.map AV.bool v0).length by simp) t2))))
 (fun a0 =>
 .rt [26] [] [] [] [0] [1] (aj (aj (u2 (u2 (u2 (aj a0 (aj a0 (al (aj a0 t2))))))) (ak (al (u2 s2)))) (aj (show v0.length = (List.map AV.bool v0).length by simp) t2)))) (by kernel_rfl)
theorem shu_ct (L : List Int) (kk : Nat) (c : Int) (r : Ret) (h : MReach (shuStep L kk c) (shuEn L kk c) r) : CT Try.prog 28 ([some (tapeB L kk)]) ([.ptr 0 0 0, .int .i64 c]) r.1 r.2 :=
  CT.mach (fn := Try.f28) (c := bodyOf Try.f28) (S := shuSt L kk c) (hd := shuHd) Try.func28 (by kernel_rfl) (Nat.le_of_ble_eq_true rfl)
    (fun s o ho => match s, ho with
      | .l0 v0 v1 v2, ho => shuS0_ok L kk c v0 v1 v2 o ho
    )
    (fun o ho => shuEn_ok L kk c o ho) h
end Go.Proofs.Ytlogjpmajgbgaaa
namespace Go.Proofs.Ytlogjpmajgbgaaa
noncomputable def csE (n : NetD) (sp : Int) : Int := if valB n = true then (if sp < 0 ∨ (n.ss.length : Int) ≤ sp then 19 else 0) else 20
theorem checkSpur_ct {n : NetD} (hrw : Rows n.nx) (sp : Int) : CT Try.prog 69 [] [netA n, .int .i64 sp] [] (.int .i64 (csE n sp)) := by
  refine ckS_ct n sp ([], _) (.val ?_)
  unfold ckSEn csE
  rw [gu_t hrw]
  cases hv : valB n with
  | false => rfl
  | true =>
    rw [br_f (by rfl), if_pos rfl]
    by_cases h0 : sp < 0
    · rw [br_t (dec_t h0), if_pos (.inl h0)]
    by_cases h1 : (n.ss.length : Int) ≤ sp
    · rw [br_f (dec_f h0), br_t (dec_t (by simpa [iN] using h1)), if_pos (.inr h1)]
    · rw [br_f (dec_f h0), br_f (dec_f (by simpa [iN] using h1)), if_neg (by omega)]
def opB (n : NetD) (sh : List Bool) (sp : Int) : Bool := match n.ss[sp.toNat]? with | some s => openB sh s | none => false
theorem shu_ex (L : List Int) (kk c : Nat) (hc : c ≤ 1000) (hk : kk ≤ 50000) : ∃ p : List Bool × Nat, p.1.length = c ∧ p.2 ≤ kk + 10 ∧ CT Try.prog 28 [some (tapeB L kk)] [.ptr 0 0 0, .int .i64 (c : Int)] [some (tapeB L p.2)] (.lst (boL p.1)) := by
  have r := nextZ_rng L kk 3 (by omega) (by omega)
  have loop : ∀ (m : Nat) (s : List Bool) (k : Nat), s.length = c → k + 10 * m ≤ 60000 → ∃ (s' : List Bool) (k' : Nat), s'.length = c ∧ k' ≤ k + m ∧ MReach (shuStep L kk (c : Int)) (some (.inl (.l0 s (m : Int) k))) (([some (tapeB L k')], .lst (boL s')) : Ret) := by
    intro m
    induction m with
    | zero =>
      intro s k hs _
      refine ⟨s, k, hs, by omega, .to ?_ (.ret _)⟩
      show shuS0 L kk c s 0 k = _
      unfold shuS0
      rw [br_f (by simp)]; rfl
    | succ m ih =>
      intro s k hs hkm
      by_cases h0 : (0 : Int) < c
      · have r2 := nextZ_rng L k (c : Int) (by omega) (by omega)
        obtain ⟨s', k', g1, g2, g3⟩ := ih (s.set (0 + (nextZ L k (c : Int)).toNat) true) (k + 1) (by simpa using hs) (by omega)
        refine ⟨s', k', g1, by omega, .to ?_ g3⟩
        show shuS0 L kk c s ((m + 1 : Nat) : Int) k = _
        unfold shuS0
        rw [br_t (dec_t (by omega)), br_t (dec_t h0), gu_t (by omega), gu_t r2.1, gu_t (by simp only [iN]; omega), gu_t (by rw [List.length_map, hs]; show 0 + _ + 1 ≤ _; omega), wrapS (((m + 1 : Nat) : Int) - 1) (by omega) (by omega), show ((m + 1 : Nat) : Int) - 1 = (m : Int) by omega]
      · refine ⟨s, k, hs, by omega, .to ?_ (.ret _)⟩
        show shuS0 L kk c s ((m + 1 : Nat) : Int) k = _
        unfold shuS0
        rw [br_t (dec_t (by omega)), br_f (dec_f h0)]; rfl
  obtain ⟨q, hq⟩ : ∃ q : Nat, nextZ L kk 3 = q := ⟨(nextZ L kk 3).toNat, by omega⟩
  obtain ⟨s', k', g1, g2, g3⟩ := loop q (List.replicate c false) (kk + 1) (by simp) (by omega)
  refine ⟨(s', k'), g1, by show k' ≤ _; omega, shu_ct L kk c ([some (tapeB L k')], .lst (boL s')) ?_⟩
  unfold shuEn
  rw [gu_t (by omega), gu_t (by omega), gu_t (by omega), gu_t (by omega), hq, Int.toNat_natCast]
  exact g3
theorem shu_exP (L : List Int) (kk c : Nat) : ∃ p : List Bool × Nat, c ≤ 1000 → kk ≤ 50000 → p.1.length = c ∧ p.2 ≤ kk + 10 ∧ CT Try.prog 28 [some (tapeB L kk)] [.ptr 0 0 0, .int .i64 (c : Int)] [some (tapeB L p.2)] (.lst (boL p.1)) := by
  by_cases h : c ≤ 1000 ∧ kk ≤ 50000
  · obtain ⟨p, a⟩ := shu_ex L kk c h.1 h.2
    exact ⟨p, fun _ _ => a⟩
  · exact ⟨([], 0), fun a b => absurd ⟨a, b⟩ h⟩
@[irreducible] noncomputable def shuL (L : List Int) (kk c : Nat) : List Bool := (Classical.choose (shu_exP L kk c)).1
@[irreducible] noncomputable def shuK (L : List Int) (kk c : Nat) : Nat := (Classical.choose (shu_exP L kk c)).2
theorem shu_spec {L : List Int} {kk c : Nat} (h : c ≤ 1000) (hk : kk ≤ 50000) : (shuL L kk c).length = c ∧ shuK L kk c ≤ kk + 10 ∧ CT Try.prog 28 [some (tapeB L kk)] [.ptr 0 0 0, .int .i64 (c : Int)] [some (tapeB L (shuK L kk c))] (.lst (boL (shuL L kk c))) := by unfold shuL shuK; exact Classical.choose_spec (shu_exP L kk c) h hk
theorem shut_ct (L : List Int) (kk c : Nat) (h : c ≤ 1000) (hk : kk ≤ 50000) : CT Try.prog 28 [some (tapeB L kk)] [.ptr 0 0 0, .int .i64 (iN c)] [some (tapeB L (shuK L kk c))] (.lst (boL (shuL L kk c))) := (shu_spec h hk).2.2
noncomputable def cntZ (n : NetD) : Int := if valB n = true then (celN n : Int) else 0
noncomputable def cntE (n : NetD) : Int := if valB n = true then 0 else 20
theorem cnt_c {n : NetD} (hrw : Rows n.nx) : CT Try.prog 84 [] [netA n] [] (.tup [.int .i64 (cntZ n), .int .i64 (cntE n)]) := by
  refine cnt_ct n ([], _) (.val ?_)
  unfold cntEn cntZ cntE
  rw [gu_t hrw]
  cases hv : valB n with
  | false => rfl
  | true => rw [br_f (by rfl), gu_t (valB_iff.1 hv)]; rfl
theorem csE_zero {n : NetD} {sp : Int} (h : csE n sp = 0) : ValidN n ∧ 0 ≤ sp ∧ sp < n.ss.length := by
  unfold csE at h
  split at h
  · rename_i hv
    split at h
    · omega
    · exact ⟨valB_iff.1 hv, by omega, by omega⟩
  · omega
inductive cOpPc where
  | l0 (v0 : Bool) (v1 : SpuD) (v2 : Int)
noncomputable def cOpSt (n : NetD) (sh : List Bool) (sp : Int) : cOpPc → St
  | .l0 v0 v1 v2 => St.mk 62 [(1, AV.lst (boL sh)), (9, AV.ptr 0 0 0), (10, AV.bool v0), (45, iv v1.k), (46, iv v2)] [some (Blk.mk [sA v1] 6 true true none)]
def cOpHd : cOpPc → Nat
  | .l0 _ _ _ => 0
noncomputable def cOpEn (n : NetD) (sh : List Bool) (sp : Int) : Option (cOpPc ⊕ Ret) :=
  gu (Rows n.nx) <|
  br (csE n sp != 0)
  (some (.inr ([], AV.tup [AV.bool false, AV.int IntKind.i64 (csE n sp)])))
  (gu (ValidN n) <|
   br (iN (boL sh).length != iN (celN n))
   (some (.inr ([], AV.tup [AV.bool false, AV.int IntKind.i64 19])))
   (gu (0 ≤ sp) <|
    el (n.ss) (sp.toNat) fun (x28 : SpuD) =>
    gu (0 ≤ x28.i) <|
    el (sh) (x28.i.toNat) fun (x33 : Bool) =>
    br (!x33)
    (gu (0 ≤ x28.o) <|
     el (sh) (x28.o.toNat) fun (x40 : Bool) =>
     some (.inl (.l0 (!x40) (x28) ((0 : Int)))))
    (some (.inl (.l0 (false) (x28) ((0 : Int)))))))
noncomputable def cOpS0 (n : NetD) (sh : List Bool) (sp : Int) (v0 : Bool) (v1 : SpuD) (v2 : Int) : Option (cOpPc ⊕ Ret) :=
  br (decide (v2 < v1.k))
  (br (v0)
   (gu (0 ≤ IntKind.i64.wrap (v1.b + v2)) <|
    el (sh) ((IntKind.i64.wrap (v1.b + v2)).toNat) fun (x56 : Bool) =>
    some (.inl (.l0 (!x56) (v1) (IntKind.i64.wrap (v2 + 1)))))
   (some (.inl (.l0 (false) (v1) (IntKind.i64.wrap (v2 + 1))))))
  (some (.inr ([], AV.tup [AV.bool v0, AV.int IntKind.i64 0])))
noncomputable def cOpStep (n : NetD) (sh : List Bool) (sp : Int) : cOpPc → Option (cOpPc ⊕ Ret)
  | .l0 v0 v1 v2 => cOpS0 n sh sp v0 v1 v2
theorem cOpEn_ok (n : NetD) (sh : List Bool) (sp : Int) (o : cOpPc ⊕ Ret) (h : cOpEn n sh sp = some o) : Arr Try.prog Try.f36 0 (cOpSt n sh sp) cOpHd (bodyOf Try.f36) [] { n := Try.f36.ntmps, fr := enumF 0 ([netA n, .lst (boL sh), .int .i64 sp]), hp := ([]) } o :=
 Scr.ok h mix (
 .rn 0 [] [] [] [] (al (u2 t3)) <|
 .gu fun a0 =>
 have c0 := checkSpur_ct a0 (sp);
 .rn 1 [] [] [(14, hK c0 [] [])] [] (aj (u2 (u2 (aj (k2 (aj t9 (ak (al (c0))))) s2))) (al (u2 (u2 s2)))) <|
 .br (fun a1 =>
 .rt [31] [] [] [] [] [] (aj (aj a1 (al (u2 (ak s2)))) (al t3)))
 (fun a1 =>
 .gu fun a2 =>
 have c1 := ccount_ct a2;
 .rn 0 [30] [] [(23, hK c1 [] [])] [] (aj a1 (al (u2 (u2 (u2 (aj (ak (aj t9 (al (c1)))) (aj t3 s2))))))) <|
 .br (fun a3 =>
  .rt [39] [] [] [] [] [] (aj (aj a3 (al t3)) (al t3)))
 (fun a3 =>
  .gu fun a4 =>
  .el fun x28 a5 =>
  .rn 0 [38] [(28, sA x28)] [] [] (aj a3 (al (u2 (u2 (u2 (aj (k2 (aj a4 (getMap (f := sA) a5))) (u2 (ak (al (k2 n11)))))))))) <|
  .gu fun a6 =>
  .el fun x33 a7 =>
  .br (fun a8 =>
  .gu fun a9 =>
  .el fun x40 a10 =>
  .lp [73] [(33, AV.bool x33), (40, AV.bool x40)] [] [] [] [1] [1, 9, 10, 45, 46] (aj (aj (u2 (u2 (u2 (aj (k2 (aj a6 (getMap (f := AV.bool) a7))) (u2 (u2 (u2 (ag a8 (ag a8 (ag a8 (aj (aj a8 (k2 (aj a9 (getMap (f := AV.bool) a10)))) (ag a8 (ag a8 (ag a8 s2)))))))))))))) (al (u2 (u2 t2)))) t7))
  (fun a8 =>
  .lp [72] [(33, AV.bool x33)] [] [] [] [1] [1, 9, 10, 45, 46] (aj (aj (u2 (u2 (u2 (aj (k2 (aj a6 (getMap (f := AV.bool) a7))) (u2 (u2 (u2 (aj a8 (aj a8 (aj a8 (aj a8 (aj a8 (aj a8 (ag a8 s2)))))))))))))) (al (u2 (u2 t2)))) t7))))) (by kernel_rfl)
theorem cOpS0_ok (n : NetD) (sh : List Bool) (sp : Int) (v0 : Bool) (v1 : SpuD) (v2 : Int) (o : cOpPc ⊕ Ret) (h : cOpS0 n sh sp v0 v1 v2 = some o) : Arr Try.prog Try.f36 0 (cOpSt n sh sp) cOpHd (headC Try.f36 0) (.rnd (headC Try.f36 0) :: headK Try.f36 0) (cOpSt n sh sp (.l0 v0 v1 v2)) o :=
 Scr.ok h mix (
 .rn 0 [] [] [] [] (al (al t3)) <|
 .br (fun a0 =>
 .rn 0 [95] [] [] [] (aj a0 (al (u2 s2))) <|
 .br (fun a1 =>
  .gu fun a2 =>
  .el fun x56 a3 =>
  .lp [101] [(56, AV.bool x56)] [] [] [] [0] [1, 9, 10, 45, 46] (aj (aj (u2 (u2 (ag a1 (ag a1 (ag a1 (ag a1 (aj (aj a1 t3) (aj (aj a1 (k2 (aj a2 (getMap (f := AV.bool) a3)))) (ag a1 (ag a1 (ag a1 s2))))))))))) (al (u2 s2))) t7))
 (fun a1 =>
  .lp [100] [] [] [] [] [0] [1, 9, 10, 45, 46] (aj (aj (u2 (u2 (aj a1 (aj a1 (aj a1 (aj a1 (aj a1 (aj a1 (aj a1 (aj a1 (ag a1 s2))))))))))) (al (u2 s2))) t7)))
 (fun a0 =>
 .rt [94] [] [] [] [] [] (aj (aj a0 (al (u2 (u2 t2)))) (al t3)))) (by kernel_rfl)
theorem cOp_ct (n : NetD) (sh : List Bool) (sp : Int) (r : Ret) (h : MReach (cOpStep n sh sp) (cOpEn n sh sp) r) : CT Try.prog 36 ([]) ([netA n, .lst (boL sh), .int .i64 sp]) r.1 r.2 :=
  CT.mach (fn := Try.f36) (c := bodyOf Try.f36) (S := cOpSt n sh sp) (hd := cOpHd) Try.func36 (by kernel_rfl) (Nat.le_of_ble_eq_true rfl)
    (fun s o ho => match s, ho with
      | .l0 v0 v1 v2, ho => cOpS0_ok n sh sp v0 v1 v2 o ho
    )
    (fun o ho => cOpEn_ok n sh sp o ho) h
noncomputable def cOB (n : NetD) (sh : List Bool) (sp : Int) : Bool := valB n && decide (0 ≤ sp) && decide (sp < n.ss.length) && decide (sh.length = celN n) && opB n sh sp
noncomputable def cOE (n : NetD) (sh : List Bool) (sp : Int) : Int := if csE n sp = 0 then (if sh.length = celN n then 0 else 19) else csE n sp
def shB (sh : List Bool) (s : SpuD) (j : Nat) : Bool := sh.getD (s.b + (j : Int)).toNat false
theorem fnd_or {p : Nat → Bool} : ∀ (k i : Nat), (fnd p i (k + 1)).isSome = ((fnd p i k).isSome || p (i + k)) := by
  intro k
  induction k with
  | zero => intro i; simp only [fnd, Nat.add_zero]; cases p i <;> rfl
  | succ k ih =>
    intro i
    have h := ih (i + 1)
    rw [show i + (k + 1) = i + 1 + k by omega]
    show (fnd p i ((k + 1) + 1)).isSome = ((fnd p i (k + 1)).isSome || p (i + 1 + k))
    unfold fnd
    cases p i with
    | true => rfl
    | false => exact h
def opJ (sh : List Bool) (s : SpuD) (j : Nat) : Bool := !(sh.getD s.i.toNat false) && !(sh.getD s.o.toNat false) && !(fnd (shB sh s) 0 j).isSome
theorem opJ_succ (sh : List Bool) (s : SpuD) (j : Nat) : opJ sh s (j + 1) = (opJ sh s j && !shB sh s j) := by
  unfold opJ
  rw [fnd_or, Nat.zero_add]
  cases sh.getD s.i.toNat false <;> cases sh.getD s.o.toNat false <;> cases (fnd (shB sh s) 0 j).isSome <;> cases shB sh s j <;> rfl
theorem opJ_end (sh : List Bool) (s : SpuD) : opJ sh s s.k.toNat = openB sh s := rfl
theorem get_sh {sh : List Bool} {c : Int} (h0 : 0 ≤ c) (h1 : c < sh.length) : sh[c.toNat]? = some (sh.getD c.toNat false) := by
  have hl : c.toNat < sh.length := by omega
  rw [List.getD_eq_getElem?_getD, List.getElem?_eq_getElem hl]; rfl
theorem cOpen_ct {n : NetD} (hrw : Rows n.nx) (sh : List Bool) (sp : Int) : CT Try.prog 36 [] [netA n, .lst (boL sh), .int .i64 sp] [] (.tup [.bool (cOB n sh sp), .int .i64 (cOE n sh sp)]) := by
  refine cOp_ct n sh sp ([], _) ?_
  unfold cOpEn cOB cOE
  rw [gu_t hrw]
  by_cases h : csE n sp = 0
  · obtain ⟨hv, h0, h1⟩ := csE_zero h
    obtain ⟨i, rfl⟩ : ∃ i : Nat, sp = i := ⟨sp.toNat, by omega⟩
    obtain ⟨s, hs⟩ : ∃ s, n.ss[i]? = some s := ⟨_, List.getElem?_eq_getElem (by omega)⟩
    have e := hv.ends hs
    have sb := hv.sb hs
    rw [br_f (by simp [h]), gu_t hv, if_pos h, valB_iff.2 hv, dec_t h0, dec_t h1]
    by_cases hl : sh.length = celN n
    · rw [br_f (by simp [iN, boL, hl]), gu_t h0, Int.toNat_natCast, el_t hs, gu_t e.1, el_t (get_sh e.1 (by omega)), dec_t hl, if_pos hl]
      have ho : opB n sh (i : Int) = openB sh s := by unfold opB; rw [Int.toNat_natCast, hs]
      rw [ho, ← opJ_end]
      simp only [Bool.true_and]
      have loop : MReach (cOpStep n sh (i : Int)) (some (.inl (.l0 (opJ sh s 0) s 0))) (([], .tup [.bool (opJ sh s s.k.toNat), .int .i64 0]) : Ret) := by
        refine loop_up (fun j => cOpPc.l0 (opJ sh s j) s (j : Int)) s.k.toNat (fun j hj hr => .to ?_ hr) (.to ?_ (.ret _))
        · show cOpS0 n sh i _ s j = _
          unfold cOpS0
          rw [br_t (dec_t (by omega)), opJ_succ, wrapS (s.b + (j : Int)) (by omega) (by omega), wrap_nat j (by omega)]
          cases opJ sh s j with
          | false => rfl
          | true =>
            rw [br_t rfl, gu_t (by omega), el_t (get_sh (by omega) (by omega))]; rfl
        · show cOpS0 n sh i _ s _ = _
          unfold cOpS0
          rw [br_f (dec_f (by omega))]
      have z : opJ sh s 0 = (!(sh.getD s.i.toNat false) && !(sh.getD s.o.toNat false)) := by unfold opJ; simp [fnd]
      rw [z] at loop
      cases h3 : sh.getD s.i.toNat false with
      | true => rw [h3] at loop; exact loop
      | false =>
        rw [h3] at loop
        rw [br_t (by rfl), gu_t (by omega), el_t (get_sh e.2.2.1 (by omega))]
        exact loop
    · rw [br_t (by simp [iN, boL]; omega), dec_f hl, if_neg hl]; simp; exact .ret _
  · rw [br_t (by simpa using h), if_neg h]
    have : (valB n && decide (0 ≤ sp) && decide (sp < n.ss.length)) = false := by
      cases hv : valB n with
      | false => rfl
      | true =>
        unfold csE at h
        rw [if_pos hv] at h
        by_cases a : 0 ≤ sp
        · by_cases b : sp < n.ss.length
          · rw [if_neg (by omega)] at h; exact absurd rfl h
          · simp [b]
        · simp [a]
    rw [this]; exact .ret _
theorem cOB_ok {n : NetD} (hv : ValidN n) {sh : List Bool} (hl : sh.length = celN n) {sp : Int} (h : 0 ≤ sp ∧ sp < n.ss.length) : cOB n sh sp = opB n sh sp := by
  unfold cOB; rw [valB_iff.2 hv, dec_t h.1, dec_t h.2, dec_t hl]; rfl
noncomputable def chcSt (n : NetD) (sh : List Bool) (fl : Int) : Empty → St
  | x => x.elim
def chcHd : Empty → Nat
  | x => x.elim
noncomputable def chcEn (n : NetD) (sh : List Bool) (fl : Int) : Option (Empty ⊕ Ret) :=
  gu (Rows n.nx) <|
  br (cntE n != 0)
  (some (.inr ([], AV.int IntKind.i64 (cntE n))))
  (br (iN (boL sh).length != cntZ n)
   (some (.inr ([], AV.int IntKind.i64 19)))
   (br (decide (fl < 0))
    (some (.inr ([], AV.int IntKind.i64 19)))
    (br (decide (8 < fl))
     (some (.inr ([], AV.int IntKind.i64 19)))
     (some (.inr ([], AV.int IntKind.i64 0))))))
noncomputable def chcStep (n : NetD) (sh : List Bool) (fl : Int) : Empty → Option (Empty ⊕ Ret)
  | x => x.elim
theorem chcEn_ok (n : NetD) (sh : List Bool) (fl : Int) (o : Empty ⊕ Ret) (h : chcEn n sh fl = some o) : Arr Try.prog Try.f62 0 (chcSt n sh fl) chcHd (bodyOf Try.f62) [] { n := Try.f62.ntmps, fr := enumF 0 ([netA n, .lst (boL sh), .int .i64 fl]), hp := ([]) } o :=
 Scr.ok h mix (
 .rn 0 [] [] [] [] (al (u2 t2)) <|
 .gu fun a0 =>
 have c0 := cnt_c a0;
 .rn 1 [] [] [(11, hK c0 [] [])] [] (aj (u2 (aj (ak (aj t9 (al (c0)))) (u2 (u2 (u2 (u2 s2)))))) (al (u2 (u2 s2)))) <|
 .br (fun a1 =>
 .rt [29] [] [] [] [] [] (aj (aj a1 (al (u2 s2))) t2))
 (fun a1 =>
 .br (fun a2 =>
  .rt [28, 47] [] [] [] [] [] (aj (aj a1 (aj (u2 (u2 (u2 (aj t3 (u2 (aj a2 (aj a2 (ag a2 (u2 (k2 (aj t3 s2))))))))))) (ak s2))) t2))
 (fun a2 =>
  .br (fun a3 =>
  .rt [28, 46, 55] [] [] [] [] [] (aj (aj a1 (aj (u2 (u2 (u2 (aj t3 (u2 (ag a2 (ag a2 (ag a2 (u2 (aj a3 (aj a3 (ag a3 s2)))))))))))) (ak s2))) t2))
  (fun a3 =>
  .rn 0 [28, 46, 54] [] [] [] (aj a1 (al (u2 (u2 (u2 (aj t3 (u2 (ag a2 (ag a2 (ag a2 (u2 (ag a3 (ag a3 (ag a3 s2)))))))))))))) <|
  .br (fun a4 =>
   .rt [46, 54, 37] [] [] [] [] [] (aj (aj a4 s2) t2))
  (fun a4 =>
   .rt [46, 54, 36] [] [] [] [] [] (aj (aj a4 s2) t2)))))) (by kernel_rfl)
theorem chc_ct (n : NetD) (sh : List Bool) (fl : Int) (r : Ret) (h : MReach (chcStep n sh fl) (chcEn n sh fl) r) : CT Try.prog 62 ([]) ([netA n, .lst (boL sh), .int .i64 fl]) r.1 r.2 :=
  CT.mach (fn := Try.f62) (c := bodyOf Try.f62) (S := chcSt n sh fl) (hd := chcHd) Try.func62 (by kernel_rfl) (Nat.le_of_ble_eq_true rfl)
    (fun s o ho => match s, ho with
      | x, _ => x.elim)
    (fun o ho => chcEn_ok n sh fl o ho) h
inductive mutPc where
  | l0 (v0 : Int)
  | l1 (v0 : Int) (v1 : Bool) (v2 : Bool) (v3 : Bool) (v4 : Bool) (v5 : Bool) (v6 : Bool) (v7 : Bool) (v8 : Bool) (v9 : Bool) (v10 : Bool) (v11 : Bool) (v12 : Bool) (v13 : Bool) (v14 : Bool) (v15 : Bool) (v16 : Bool) (v17 : Bool) (v18 : Bool) (v19 : Bool) (v20 : Bool) (v21 : Bool) (v22 : Bool) (v23 : Bool) (v24 : Bool) (v25 : Bool) (v26 : Bool) (v27 : Bool) (v28 : Bool) (v29 : Bool) (v30 : Bool) (v31 : Bool) (v32 : Bool) (v33 : Bool) (v34 : Bool) (v35 : Bool) (v36 : Bool) (v37 : Bool) (v38 : Bool) (v39 : Bool) (v40 : Bool) (v41 : Bool) (v42 : Bool) (v43 : Bool) (v44 : Bool) (v45 : Bool) (v46 : Bool) (v47 : Bool) (v48 : Bool)
noncomputable def mutSt (g : List (List Int)) (sh : List Bool) : mutPc → St
  | .l0 v0 => St.mk 66 [(0, AV.lst (gL g)), (1, AV.lst (boL sh)), (6, AV.lst (gL (rvO g))), (27, AV.lst (boL sh)), (28, iv (iN (boL sh).length)), (29, iv v0)] []
  | .l1 v0 v1 v2 v3 v4 v5 v6 v7 v8 v9 v10 v11 v12 v13 v14 v15 v16 v17 v18 v19 v20 v21 v22 v23 v24 v25 v26 v27 v28 v29 v30 v31 v32 v33 v34 v35 v36 v37 v38 v39 v40 v41 v42 v43 v44 v45 v46 v47 v48 => St.mk 66 [(10, AV.ptr 0 0 0), (11, AV.ptr 1 0 0), (43, AV.lst (boL sh)), (44, iv (iN (boL sh).length)), (45, iv v0)] [some (Blk.mk [AV.agg [AV.bool v1, AV.bool v2, AV.bool v3, AV.bool v4, AV.bool v5, AV.bool v6, AV.bool v7, AV.bool v8, AV.bool v9, AV.bool v10, AV.bool v11, AV.bool v12, AV.bool v13, AV.bool v14, AV.bool v15, AV.bool v16, AV.bool v17, AV.bool v18, AV.bool v19, AV.bool v20, AV.bool v21, AV.bool v22, AV.bool v23, AV.bool v24]] 24 true true none), some (Blk.mk [AV.agg [AV.bool v25, AV.bool v26, AV.bool v27, AV.bool v28, AV.bool v29, AV.bool v30, AV.bool v31, AV.bool v32, AV.bool v33, AV.bool v34, AV.bool v35, AV.bool v36, AV.bool v37, AV.bool v38, AV.bool v39, AV.bool v40, AV.bool v41, AV.bool v42, AV.bool v43, AV.bool v44, AV.bool v45, AV.bool v46, AV.bool v47, AV.bool v48]] 24 true true none)]
def mutHd : mutPc → Nat
  | .l0 _ => 0
  | .l1 _ _ _ _ _ _ _ _ _ _ _ _ _ _ _ _ _ _ _ _ _ _ _ _ _ _ _ _ _ _ _ _ _ _ _ _ _ _ _ _ _ _ _ _ _ _ _ _ _ => 1
noncomputable def mutEn (g : List (List Int)) (sh : List Bool) : Option (mutPc ⊕ Ret) :=
  gu (Rows g) <|
  br (rvE g != 0)
  (some (.inr ([], AV.tup [AV.bool false, AV.int IntKind.i64 (rvE g)])))
  (br (iN (boL sh).length != iN (gL g).length)
   (some (.inr ([], AV.tup [AV.bool false, AV.int IntKind.i64 19])))
   (some (.inl (.l0 ((0 : Int))))))
noncomputable def mutS0 (g : List (List Int)) (sh : List Bool) (v0 : Int) : Option (mutPc ⊕ Ret) :=
  br (decide (v0 < iN (boL sh).length))
  (gu (0 ≤ v0) <|
   el (sh) (v0.toNat) fun (x32 : Bool) =>
   br (x32)
   (some (.inl (.l0 (IntKind.i64.wrap (v0 + 1)))))
   (gu (GOk g) <|
    gu (sh.length = g.length) <|
    gu (0 ≤ v0 ∧ v0 < iN g.length) <|
    gu (GOk (rvO g)) <|
    gu (sh.length = (rvO g).length) <|
    gu (0 ≤ v0 ∧ v0 < iN (rvO g).length) <|
    some (.inl (.l1 ((0 : Int)) (mkB g sh v0.toNat 0) (mkB g sh v0.toNat 1) (mkB g sh v0.toNat 2) (mkB g sh v0.toNat 3) (mkB g sh v0.toNat 4) (mkB g sh v0.toNat 5) (mkB g sh v0.toNat 6) (mkB g sh v0.toNat 7) (mkB g sh v0.toNat 8) (mkB g sh v0.toNat 9) (mkB g sh v0.toNat 10) (mkB g sh v0.toNat 11) (mkB g sh v0.toNat 12) (mkB g sh v0.toNat 13) (mkB g sh v0.toNat 14) (mkB g sh v0.toNat 15) (mkB g sh v0.toNat 16) (mkB g sh v0.toNat 17) (mkB g sh v0.toNat 18) (mkB g sh v0.toNat 19) (mkB g sh v0.toNat 20) (mkB g sh v0.toNat 21) (mkB g sh v0.toNat 22) (mkB g sh v0.toNat 23) (mkB (rvO g) sh v0.toNat 0) (mkB (rvO g) sh v0.toNat 1) (mkB (rvO g) sh v0.toNat 2) (mkB (rvO g) sh v0.toNat 3) (mkB (rvO g) sh v0.toNat 4) (mkB (rvO g) sh v0.toNat 5) (mkB (rvO g) sh v0.toNat 6) (mkB (rvO g) sh v0.toNat 7) (mkB (rvO g) sh v0.toNat 8) (mkB (rvO g) sh v0.toNat 9) (mkB (rvO g) sh v0.toNat 10) (mkB (rvO g) sh v0.toNat 11) (mkB (rvO g) sh v0.toNat 12) (mkB (rvO g) sh v0.toNat 13) (mkB (rvO g) sh v0.toNat 14) (mkB (rvO g) sh v0.toNat 15) (mkB (rvO g) sh v0.toNat 16) (mkB (rvO g) sh v0.toNat 17) (mkB (rvO g) sh v0.toNat 18) (mkB (rvO g) sh v0.toNat 19) (mkB (rvO g) sh v0.toNat 20) (mkB (rvO g) sh v0.toNat 21) (mkB (rvO g) sh v0.toNat 22) (mkB (rvO g) sh v0.toNat 23)))))
  (some (.inr ([], AV.tup [AV.bool false, AV.int IntKind.i64 0])))
noncomputable def mutS1 (g : List (List Int)) (sh : List Bool) (v0 : Int) (v1 : Bool) (v2 : Bool) (v3 : Bool) (v4 : Bool) (v5 : Bool) (v6 : Bool) (v7 : Bool) (v8 : Bool) (v9 : Bool) (v10 : Bool) (v11 : Bool) (v12 : Bool) (v13 : Bool) (v14 : Bool) (v15 : Bool) (v16 : Bool) (v17 : Bool) (v18 : Bool) (v19 : Bool) (v20 : Bool) (v21 : Bool) (v22 : Bool) (v23 : Bool) (v24 : Bool) (v25 : Bool) (v26 : Bool) (v27 : Bool) (v28 : Bool) (v29 : Bool) (v30 : Bool) (v31 : Bool) (v32 : Bool) (v33 : Bool) (v34 : Bool) (v35 : Bool) (v36 : Bool) (v37 : Bool) (v38 : Bool) (v39 : Bool) (v40 : Bool) (v41 : Bool) (v42 : Bool) (v43 : Bool) (v44 : Bool) (v45 : Bool) (v46 : Bool) (v47 : Bool) (v48 : Bool) : Option (mutPc ⊕ Ret) :=
  br (decide (v0 < iN (boL sh).length))
  (gu (0 ≤ v0) <|
   el (sh) (v0.toNat) fun (x48 : Bool) =>
   br (!x48)
   (gu (v0 < 24) <|
    el ([v1, v2, v3, v4, v5, v6, v7, v8, v9, v10, v11, v12, v13, v14, v15, v16, v17, v18, v19, v20, v21, v22, v23, v24]) (0 + v0.toNat * 1) fun (x55 : Bool) =>
    br (!x55)
    (some (.inr ([], AV.tup [AV.bool false, AV.int IntKind.i64 0])))
    (el ([v25, v26, v27, v28, v29, v30, v31, v32, v33, v34, v35, v36, v37, v38, v39, v40, v41, v42, v43, v44, v45, v46, v47, v48]) (0 + v0.toNat * 1) fun (x60 : Bool) =>
     br (!x60)
     (some (.inr ([], AV.tup [AV.bool false, AV.int IntKind.i64 0])))
     (some (.inl (.l1 (IntKind.i64.wrap (v0 + 1)) (v1) (v2) (v3) (v4) (v5) (v6) (v7) (v8) (v9) (v10) (v11) (v12) (v13) (v14) (v15) (v16) (v17) (v18) (v19) (v20) (v21) (v22) (v23) (v24) (v25) (v26) (v27) (v28) (v29) (v30) (v31) (v32) (v33) (v34) (v35) (v36) (v37) (v38) (v39) (v40) (v41) (v42) (v43) (v44) (v45) (v46) (v47) (v48))))))
   (some (.inl (.l1 (IntKind.i64.wrap (v0 + 1)) (v1) (v2) (v3) (v4) (v5) (v6) (v7) (v8) (v9) (v10) (v11) (v12) (v13) (v14) (v15) (v16) (v17) (v18) (v19) (v20) (v21) (v22) (v23) (v24) (v25) (v26) (v27) (v28) (v29) (v30) (v31) (v32) (v33) (v34) (v35) (v36) (v37) (v38) (v39) (v40) (v41) (v42) (v43) (v44) (v45) (v46) (v47) (v48)))))
  (some (.inr ([], AV.tup [AV.bool true, AV.int IntKind.i64 0])))
noncomputable def mutStep (g : List (List Int)) (sh : List Bool) : mutPc → Option (mutPc ⊕ Ret)
  | .l0 v0 => mutS0 g sh v0
  | .l1 v0 v1 v2 v3 v4 v5 v6 v7 v8 v9 v10 v11 v12 v13 v14 v15 v16 v17 v18 v19 v20 v21 v22 v23 v24 v25 v26 v27 v28 v29 v30 v31 v32 v33 v34 v35 v36 v37 v38 v39 v40 v41 v42 v43 v44 v45 v46 v47 v48 => mutS1 g sh v0 v1 v2 v3 v4 v5 v6 v7 v8 v9 v10 v11 v12 v13 v14 v15 v16 v17 v18 v19 v20 v21 v22 v23 v24 v25 v26 v27 v28 v29 v30 v31 v32 v33 v34 v35 v36 v37 v38 v39 v40 v41 v42 v43 v44 v45 v46 v47 v48
theorem mutEn_ok (g : List (List Int)) (sh : List Bool) (o : mutPc ⊕ Ret) (h : mutEn g sh = some o) : Arr Try.prog Try.f35 0 (mutSt g sh) mutHd (bodyOf Try.f35) [] { n := Try.f35.ntmps, fr := enumF 0 ([.lst (gL g), .lst (boL sh)]), hp := ([]) } o :=
 Scr.ok h mix (
 .rn 0 [] [] [] [] (al t3) <|
 .gu fun a0 =>
 have c0 := rev_c a0;
 .rn 1 [] [] [(16, hK c0 [] [])] [] (aj (u2 (aj (k2 (al (c0))) (u2 (u2 (u2 (u2 s2)))))) (al (u2 s2))) <|
 .br (fun a1 =>
 .rt [41] [] [] [] [] [] (aj (aj a1 (al (u2 (ak s2)))) (al t3)))
 (fun a1 =>
 .rn 0 [40] [] [] [] (aj a1 (al (u2 (u2 (u2 (u2 (al t3))))))) <|
 .br (fun a2 =>
  .rt [53] [] [] [] [] [] (aj (aj a2 (al t3)) (al t3)))
 (fun a2 =>
  .lp [52] [] [] [] [] [] [0, 1, 6, 27, 28, 29] (aj (aj a2 (al (u2 (u2 t2)))) t7)))) (by kernel_rfl)
theorem mutS0_ok (g : List (List Int)) (sh : List Bool) (v0 : Int) (o : mutPc ⊕ Ret) (h : mutS0 g sh v0 = some o) : Arr Try.prog Try.f35 0 (mutSt g sh) mutHd (headC Try.f35 0) (.rnd (headC Try.f35 0) :: headK Try.f35 0) (mutSt g sh (.l0 v0)) o :=
 Scr.ok h mix (
 .rn 0 [] [] [] [] (al (al t3)) <|
 .br (fun a0 =>
 .gu fun a1 =>
 .el fun x32 a2 =>
 .rn 1 [61] [(32, AV.bool x32)] [] [] (aj a0 (aj (u2 (aj (k2 (aj a1 (getMap (f := AV.bool) a2))) (u2 (u2 s2)))) (al s2))) <|
 .br (fun a3 =>
  .lp [69] [] [] [] [] [] [0, 1, 6, 27, 28, 29] (aj (aj a3 (al (u2 s2))) t7))
 (fun a3 =>
  .gu fun a4 =>
  .gu fun a5 =>
  .gu fun a6 =>
  .gu fun a7 =>
  .gu fun a8 =>
  .gu fun a9 =>
  have c0 := fd_m a4 a5 a6;
  have c1 := fd_m a7 a8 a9;
  .lp [68] [] [(38, hK c0 [] []), (42, hK c1 [] [])] [] [] [0, 1] [10, 11, 43, 44, 45] (aj (aj a3 (aj (u2 (u2 (u2 (aj (ak (k5 (al (c0)))) (u2 (u2 (u2 (aj (ak (k5 (al (c1)))) (k2 (aj (k2 n11) (al (k2 n11)))))))))))) (al (u2 (u2 t2))))) t8)))
 (fun a0 =>
 .rt [60] [] [] [] [] [] (aj (aj a0 (al t3)) (al t3)))) (by kernel_rfl)
theorem mutS1_ok (g : List (List Int)) (sh : List Bool) (v0 : Int) (v1 : Bool) (v2 : Bool) (v3 : Bool) (v4 : Bool) (v5 : Bool) (v6 : Bool) (v7 : Bool) (v8 : Bool) (v9 : Bool) (v10 : Bool) (v11 : Bool) (v12 : Bool) (v13 : Bool) (v14 : Bool) (v15 : Bool) (v16 : Bool) (v17 : Bool) (v18 : Bool) (v19 : Bool) (v20 : Bool) (v21 : Bool) (v22 : Bool) (v23 : Bool) (v24 : Bool) (v25 : Bool) (v26 : Bool) (v27 : Bool) (v28 : Bool) (v29 : Bool) (v30 : Bool) (v31 : Bool) (v32 : Bool) (v33 : Bool) (v34 : Bool) (v35 : Bool) (v36 : Bool) (v37 : Bool) (v38 : Bool) (v39 : Bool) (v40 : Bool) (v41 : Bool) (v42 : Bool) (v43 : Bool) (v44 : Bool) (v45 : Bool) (v46 : Bool) (v47 : Bool) (v48 : Bool) (o : mutPc ⊕ Ret) (h : mutS1 g sh v0 v1 v2 v3 v4 v5 v6 v7 v8 v9 v10 v11 v12 v13 v14 v15 v16 v17 v18 v19 v20 v21 v22 v23 v24 v25 v26 v27 v28 v29 v30 v31 v32 v33 v34 v35 v36 v37 v38 v39 v40 v41 v42 v43 v44 v45 v46 v47 v48 = some o) : Arr Try.prog Try.f35 0 (mutSt g sh) mutHd (headC Try.f35 1) (.rnd (headC Try.f35 1) :: headK Try.f35 1) (mutSt g sh (.l1 v0 v1 v2 v3 v4 v5 v6 v7 v8 v9 v10 v11 v12 v13 v14 v15 v16 v17 v18 v19 v20 v21 v22 v23 v24 v25 v26 v27 v28 v29 v30 v31 v32 v33 v34 v35 v36 v37 v38 v39 v40 v41 v42 v43 v44 v45 v46 v47 v48)) o :=
 Scr.ok h mix (
 .rn 0 [] [] [] [] (al (al t3)) <|
 .br (fun a0 =>
 .gu fun a1 =>
 .el fun x48 a2 =>
 .rn 0 [93] [(48, AV.bool x48)] [] [] (aj a0 (al (u2 (aj (k2 (aj a1 (getMap (f := AV.bool) a2))) (u2 (u2 s2)))))) <|
 .br (fun a3 =>
  .gu fun a4 =>
  .el fun x55 a5 =>
  .br (fun a6 =>
  .rt [105, 115] [(55, AV.tup [AV.bool x55])] [] [] [] [] (aj (aj (u2 (u2 (u2 (ag a3 (aj (aj a3 (k2 (aj a1 a4))) (aj (aj a3 (ak (getMap (f := AV.bool) a5))) (ag a3 (ag a3 (aj a6 (aj a6 (aj a6 (aj a6 (aj (aj a3 (aj a6 t2)) (al (aj a3 t2))))))))))))))) (ak (al t3))) (al t3)))
  (fun a6 =>
  .el fun x60 a7 =>
  .rn 0 [105, 114] [(55, AV.tup [AV.bool x55]), (60, AV.tup [AV.bool x60])] [] [] (al (u2 (u2 (u2 (ag a3 (aj (aj a3 (k2 (aj a1 a4))) (aj (aj a3 (ak (getMap (f := AV.bool) a5))) (ag a3 (ag a3 (ag a6 (aj (aj a6 (k2 (aj a1 a4))) (aj (aj a6 (ak (getMap (f := AV.bool) a7))) (ag a6 (aj (aj a3 (aj a6 t2)) (al (aj a3 t2)))))))))))))))) <|
  .br (fun a8 =>
   .rt [105, 114, 127] [] [] [] [] [] (aj (aj a8 (al t3)) (al t3)))
  (fun a8 =>
   .lp [105, 114, 126] [] [] [] [] [0, 1] [10, 11, 43, 44, 45] (aj (aj a8 (al (u2 s2))) t8))))
 (fun a3 =>
  .lp [104] [] [] [] [] [0, 1] [10, 11, 43, 44, 45] (aj (aj (u2 (u2 (u2 (aj a3 (aj a3 (aj a3 (aj a3 (aj a3 (ak (k3 (aj a3 (al (aj a3 t2))))))))))))) (ak (al (u2 s2)))) t8)))
 (fun a0 =>
 .rt [92] [] [] [] [] [] (aj (aj a0 (al t3)) (al t3)))) (by kernel_rfl)
theorem mut_ct (g : List (List Int)) (sh : List Bool) (r : Ret) (h : MReach (mutStep g sh) (mutEn g sh) r) : CT Try.prog 35 ([]) ([.lst (gL g), .lst (boL sh)]) r.1 r.2 :=
  CT.mach (fn := Try.f35) (c := bodyOf Try.f35) (S := mutSt g sh) (hd := mutHd) Try.func35 (by kernel_rfl) (Nat.le_of_ble_eq_true rfl)
    (fun s o ho => match s, ho with
      | .l0 v0, ho => mutS0_ok g sh v0 o ho
      | .l1 v0 v1 v2 v3 v4 v5 v6 v7 v8 v9 v10 v11 v12 v13 v14 v15 v16 v17 v18 v19 v20 v21 v22 v23 v24 v25 v26 v27 v28 v29 v30 v31 v32 v33 v34 v35 v36 v37 v38 v39 v40 v41 v42 v43 v44 v45 v46 v47 v48, ho => mutS1_ok g sh v0 v1 v2 v3 v4 v5 v6 v7 v8 v9 v10 v11 v12 v13 v14 v15 v16 v17 v18 v19 v20 v21 v22 v23 v24 v25 v26 v27 v28 v29 v30 v31 v32 v33 v34 v35 v36 v37 v38 v39 v40 v41 v42 v43 v44 v45 v46 v47 v48 o ho
    )
    (fun o ho => mutEn_ok g sh o ho) h
theorem Rcv.open1 {g : List (List Int)} {s : List Bool} {v k : Nat} (h : Rcv g s v k) : s.getD v true = false := by
  induction h with
  | refl h => exact h
  | step _ _ _ ih => exact ih
theorem Rcv.trans {g : List (List Int)} {s : List Bool} {a b c : Nat} (h : Rcv g s a b) (k : Rcv g s b c) : Rcv g s a c := by
  induction k with
  | refl _ => exact h
  | step _ hw ho ih => exact .step ih hw ho
theorem addEs_mem (v : Nat) : ∀ (l : List Int) (R : List (List Int)) (w : Nat) (y : Int), (∀ z ∈ l, 0 ≤ z ∧ z < (R.length : Int)) → (y ∈ (l.foldl (addE v) R).getD w [] ↔ y ∈ R.getD w [] ∨ (y = (v : Int) ∧ (w : Int) ∈ l)) := by
  intro l
  induction l with
  | nil => intro R w y _; simp
  | cons x l ih =>
    intro R w y hl
    rw [List.foldl_cons, ih _ _ _ (fun z hz => by rw [addE_len]; exact hl z (List.mem_cons_of_mem _ hz))]
    obtain ⟨x0, x1⟩ := hl x (List.mem_cons_self ..)
    have e : (addE v R x).getD w [] = if x.toNat = w then R.getD w [] ++ [(v : Int)] else R.getD w [] := by
      unfold addE
      rw [List.getD_eq_getElem?_getD, List.getElem?_set]
      by_cases hx : x.toNat = w
      · subst hx; rw [if_pos rfl, if_pos (by omega), if_pos rfl]; rfl
      · rw [if_neg hx, if_neg hx, ← List.getD_eq_getElem?_getD]
    rw [e, List.mem_cons]
    by_cases hx : x.toNat = w
    · have hwx : (w : Int) = x := by omega
      rw [if_pos hx, List.mem_append, List.mem_singleton]
      constructor
      · rintro ((h | h) | ⟨h1, h2⟩)
        · exact .inl h
        · exact .inr ⟨h, .inl hwx⟩
        · exact .inr ⟨h1, .inr h2⟩
      · rintro (h | ⟨h1, h2⟩)
        · exact .inl (.inl h)
        · exact .inl (.inr h1)
    · have hwx : (w : Int) ≠ x := by omega
      rw [if_neg hx]
      constructor
      · rintro (h | ⟨h1, h2⟩)
        · exact .inl h
        · exact .inr ⟨h1, .inr h2⟩
      · rintro (h | ⟨h1, h2⟩)
        · exact .inl h
        · rcases h2 with h2 | h2
          · exact absurd h2 hwx
          · exact .inr ⟨h1, h2⟩
theorem revI_mem {g : List (List Int)} (hr : ∀ v, v < g.length → ∀ w ∈ g.getD v [], 0 ≤ w ∧ w < (g.length : Int)) (w : Nat) (y : Int) : ∀ i, i ≤ g.length → (y ∈ (revI g i).getD w [] ↔ ∃ x : Nat, x < i ∧ y = (x : Int) ∧ (w : Int) ∈ g.getD x []) := by
  intro i
  induction i with
  | zero =>
    intro _
    have : (revI g 0).getD w [] = [] := by
      unfold revI
      rw [List.range_zero, List.foldl_nil, List.getD_eq_getElem?_getD, List.getElem?_replicate]; split <;> rfl
    rw [this]
    constructor
    · intro h; cases h
    · rintro ⟨x, h, _⟩; exact absurd h (Nat.not_lt_zero _)
  | succ i ih =>
    intro hi
    rw [revI_succ, addEs_mem i _ _ _ _ (fun z hz => by rw [revI_len]; exact hr i (by omega) z hz), ih (by omega)]
    constructor
    · rintro (⟨x, h1, h2⟩ | ⟨h1, h2⟩)
      · exact ⟨x, by omega, h2⟩
      · exact ⟨i, by omega, h1, h2⟩
    · rintro ⟨x, h1, h2, h3⟩
      by_cases hx : x = i
      · subst hx; exact .inr ⟨h2, h3⟩
      · exact .inl ⟨x, by omega, h2, h3⟩
theorem revG_mem {g : List (List Int)} (hg : GOk g) (w : Nat) (y : Int) : y ∈ (revG g).getD w [] ↔ ∃ x : Nat, x < g.length ∧ y = (x : Int) ∧ (w : Int) ∈ g.getD x [] := revI_mem (fun v hv => (hg.row v hv).2) w y g.length (Nat.le_refl _)
theorem val_gok {g : List (List Int)} (hrw : Rows g) (h : valZ g = true) : GOk g := by
  obtain ⟨h1, h2⟩ := val_ok hrw h
  exact ⟨h1, fun v hv => ⟨by have := (h2 v hv).1; omega, (h2 v hv).2⟩⟩
theorem revG_gok {g : List (List Int)} (hrw : Rows g) (h : valZ g = true) : GOk (revG g) := by
  obtain ⟨h1, h2⟩ := val_ok hrw h
  have hl : (revG g).length = g.length := revI_len g _
  refine ⟨by omega, fun v hv => ⟨?_, fun w hw => ?_⟩⟩
  · have := revI_getD (fun v hv => (h2 v hv).1) v g.length (Nat.le_refl _)
    unfold revG; omega
  · obtain ⟨x, hx, rfl, _⟩ := (revG_mem (val_gok hrw h) v w).1 hw
    omega
theorem rcv_rev {g : List (List Int)} (hg : GOk g) {s : List Bool} {v u : Nat} (h : Rcv (revG g) s v u) : Rcv g s u v := by
  induction h with
  | refl h => exact .refl h
  | @step u w _ hw ho ih =>
    obtain ⟨x, hx, e, h2⟩ := (revG_mem hg u _).1 hw
    have : x = w := by omega
    subst this
    exact (Rcv.step (.refl ho) h2 ih.open1).trans ih
theorem mem_lt {g : List (List Int)} {x : Nat} {y : Int} (h : y ∈ g.getD x []) : x < g.length := by
  rcases Nat.lt_or_ge x g.length with h1 | h1
  · exact h1
  · rw [List.getD_eq_getElem?_getD, List.getElem?_eq_none h1] at h; cases h
theorem rcv_vre {g : List (List Int)} (hg : GOk g) {s : List Bool} {u v : Nat} (h : Rcv g s u v) : Rcv (revG g) s v u := by
  induction h with
  | refl h => exact .refl h
  | @step a w h1 hw ho ih =>
    exact (Rcv.step (.refl ho) ((revG_mem hg w _).2 ⟨a, mem_lt hw, rfl, hw⟩) ih.open1).trans ih
def Mut2 (g : List (List Int)) (s : List Bool) : Prop := chk4 g s = 0 ∧ (∃ v, s.getD v true = false) ∧ ∀ v w, s.getD v true = false → s.getD w true = false → Rcv g s v w
open Classical in
noncomputable def muB (g : List (List Int)) (s : List Bool) : Bool := decide (Mut2 g s)
theorem muB_t {g : List (List Int)} {s : List Bool} (h : Mut2 g s) : muB g s = true := by unfold muB; exact @decide_eq_true _ (Classical.propDecidable _) h
theorem muB_f {g : List (List Int)} {s : List Bool} (h : ¬ Mut2 g s) : muB g s = false := by unfold muB; exact @decide_eq_false _ (Classical.propDecidable _) h
theorem chk4_val {g : List (List Int)} {s : List Bool} : chk4 g s = if valZ g = true then (if s.length ≠ g.length then 19 else 0) else 20 := by
  unfold chk4 valZ
  by_cases h1 : 24 < g.length
  · rw [if_pos h1, if_neg (by simp [h1])]
  · rw [if_neg h1]
    cases hb : badG g with
    | true => rw [if_pos rfl, if_neg (by simp)]
    | false =>
      have e : (!decide (24 < g.length) && !false) = true := by simp [h1]
      rw [if_neg (show ¬ (false = true) by simp), if_pos e]
theorem opn_lt {s : List Bool} {v : Nat} (h : s.getD v true = false) : v < s.length := by
  rcases Nat.lt_or_ge v s.length with h1 | h1
  · exact h1
  · rw [List.getD_eq_getElem?_getD, List.getElem?_eq_none h1] at h; cases h
noncomputable def muA (n : Nat → Bool) (b : Nat → Bool) (k : Int) : mutPc := .l1 k (n 0) (n 1) (n 2) (n 3) (n 4) (n 5) (n 6) (n 7) (n 8) (n 9) (n 10) (n 11) (n 12) (n 13) (n 14) (n 15) (n 16) (n 17) (n 18) (n 19) (n 20) (n 21) (n 22) (n 23) (b 0) (b 1) (b 2) (b 3) (b 4) (b 5) (b 6) (b 7) (b 8) (b 9) (b 10) (b 11) (b 12) (b 13) (b 14) (b 15) (b 16) (b 17) (b 18) (b 19) (b 20) (b 21) (b 22) (b 23)
theorem mut_c {g : List (List Int)} {s : List Bool} (hrw : Rows g) : CT Try.prog 35 [] [.lst (gL g), .lst (boL s)] [] (.tup [.bool (muB g s), .int .i64 (chk4 g s)]) := by
  refine mut_ct g s ([], _) ?_
  unfold mutEn
  rw [gu_t hrw, chk4_val]
  have hlg := gL_len g
  have hlb := boL_len s
  cases hv : valZ g with
  | false =>
    have : rvE g = 20 := by unfold rvE; rw [hv]; rfl
    rw [this, if_neg (by simp), muB_f (fun h => by have := h.1; rw [chk4_val, hv] at this; cases this)]
    exact .ret _
  | true =>
    have hE : rvE g = 0 := by unfold rvE; rw [if_pos hv]
    have hO : rvO g = revG g := by unfold rvO; rw [if_pos hv]
    rw [hE, br_f (by rfl), if_pos rfl]
    by_cases hl : s.length ≠ g.length
    · rw [br_t (bne_iff_ne.2 (by rw [hlb, hlg]; simp only [iN]; omega)), if_pos hl, muB_f (fun h => by have := h.1; rw [chk4_val, if_pos hv, if_pos hl] at this; cases this)]
      exact .ret _
    rw [br_f (by rw [hlb, hlg]; simp only [Decidable.not_not] at hl; rw [hl]; simp), if_neg hl]
    have hl : s.length = g.length := by omega
    have hc : chk4 g s = 0 := by rw [chk4_val, if_pos hv, if_neg (by omega)]
    have hg := val_gok hrw hv
    have hg2 := revG_gok hrw hv
    have hrl : (revG g).length = g.length := revI_len g _
    have h24 := hg.len
    have key : ∀ (j k : Nat), k + j = g.length → (∀ v, v < k → s.getD v true = true) → MReach (mutStep g s) (some (.inl (.l0 (k : Int)))) (([], .tup [.bool (muB g s), .int .i64 0]) : Ret) := by
      intro j
      induction j with
      | zero =>
        intro k hk hall
        refine .to (show mutS0 g s k = some (.inr ([], .tup [.bool false, .int .i64 0])) from ?_) ?_
        · unfold mutS0; rw [br_f (dec_f (by rw [hlb]; simp only [iN]; omega))]
        · rw [muB_f fun ⟨_, ⟨v, hv⟩, _⟩ => by rw [hall v (by have := opn_lt hv; omega)] at hv; cases hv]
          exact .ret _
      | succ j ih =>
        intro k hk hall
        have hkl : k < s.length := by omega
        have hsk := getE true hkl
        have wk := wrap_nat k (by omega)
        cases hso : s.getD k true with
        | true =>
          refine .to (show mutS0 g s k = some (.inl (.l0 ((k + 1 : Nat) : Int))) from ?_) (ih (k + 1) (by omega) fun v hv => ?_)
          · unfold mutS0
            rw [br_t (dec_t (by rw [hlb]; simp only [iN]; omega)), gu_t (by omega), Int.toNat_natCast, el_t hsk, hso, br_t rfl, wk]
          · rcases Nat.lt_or_ge v k with h | h
            · exact hall v h
            · have : v = k := by omega
              subst this; exact hso
        | false =>
          refine .to (show mutS0 g s k = some (.inl (muA (mkB g s k) (mkB (revG g) s k) 0)) from ?_) ?_
          · unfold mutS0
            rw [br_t (dec_t (by rw [hlb]; simp only [iN]; omega)), gu_t (by omega), Int.toNat_natCast, el_t hsk, hso, br_f rfl, gu_t hg, gu_t hl, gu_t ⟨by omega, by simp only [iN]; omega⟩, hO, gu_t hg2, gu_t (by omega), gu_t ⟨by omega, by simp only [iN]; omega⟩]
            rfl
          have inner : ∀ (i q : Nat), q + i = g.length → (∀ w, w < q → s.getD w true = false → Rcv g s k w ∧ Rcv g s w k) → MReach (mutStep g s) (some (.inl (muA (mkB g s k) (mkB (revG g) s k) (q : Int)))) (([], .tup [.bool (muB g s), .int .i64 0]) : Ret) := by
            intro i
            induction i with
            | zero =>
              intro q hq hok
              refine .to (show mutS1 g s q (mkB g s k 0) (mkB g s k 1) (mkB g s k 2) (mkB g s k 3) (mkB g s k 4) (mkB g s k 5) (mkB g s k 6) (mkB g s k 7) (mkB g s k 8) (mkB g s k 9) (mkB g s k 10) (mkB g s k 11) (mkB g s k 12) (mkB g s k 13) (mkB g s k 14) (mkB g s k 15) (mkB g s k 16) (mkB g s k 17) (mkB g s k 18) (mkB g s k 19) (mkB g s k 20) (mkB g s k 21) (mkB g s k 22) (mkB g s k 23) (mkB (revG g) s k 0) (mkB (revG g) s k 1) (mkB (revG g) s k 2) (mkB (revG g) s k 3) (mkB (revG g) s k 4) (mkB (revG g) s k 5) (mkB (revG g) s k 6) (mkB (revG g) s k 7) (mkB (revG g) s k 8) (mkB (revG g) s k 9) (mkB (revG g) s k 10) (mkB (revG g) s k 11) (mkB (revG g) s k 12) (mkB (revG g) s k 13) (mkB (revG g) s k 14) (mkB (revG g) s k 15) (mkB (revG g) s k 16) (mkB (revG g) s k 17) (mkB (revG g) s k 18) (mkB (revG g) s k 19) (mkB (revG g) s k 20) (mkB (revG g) s k 21) (mkB (revG g) s k 22) (mkB (revG g) s k 23) = some (.inr ([], .tup [.bool true, .int .i64 0])) from ?_) ?_
              · unfold mutS1
                rw [br_f (dec_f (by rw [hlb]; simp only [iN]; omega))]
              · rw [muB_t ⟨hc, ⟨k, hso⟩, fun v w hv hw => (hok v (by have := opn_lt hv; omega) hv).2.trans (hok w (by have := opn_lt hw; omega) hw).1⟩]
                exact .ret _
            | succ i ihi =>
              intro q hq hok
              have hql : q < s.length := by omega
              have hsq := getE true hql
              have wq := wrap_nat q (by omega)
              have ga := arr_get (mkB g s k) (k := q) (by omega)
              have gb := arr_get (mkB (revG g) s k) (k := q) (by omega)
              have nxt : (s.getD q true = false → Rcv g s k q ∧ Rcv g s q k) → ∀ w, w < q + 1 → s.getD w true = false → Rcv g s k w ∧ Rcv g s w k := fun h w hw ho => by
                rcases Nat.lt_or_ge w q with h1 | h1
                · exact hok w h1 ho
                · have : w = q := by omega
                  subst this; exact h ho
              cases hsqo : s.getD q true with
              | true =>
                refine .to (show mutS1 g s q (mkB g s k 0) (mkB g s k 1) (mkB g s k 2) (mkB g s k 3) (mkB g s k 4) (mkB g s k 5) (mkB g s k 6) (mkB g s k 7) (mkB g s k 8) (mkB g s k 9) (mkB g s k 10) (mkB g s k 11) (mkB g s k 12) (mkB g s k 13) (mkB g s k 14) (mkB g s k 15) (mkB g s k 16) (mkB g s k 17) (mkB g s k 18) (mkB g s k 19) (mkB g s k 20) (mkB g s k 21) (mkB g s k 22) (mkB g s k 23) (mkB (revG g) s k 0) (mkB (revG g) s k 1) (mkB (revG g) s k 2) (mkB (revG g) s k 3) (mkB (revG g) s k 4) (mkB (revG g) s k 5) (mkB (revG g) s k 6) (mkB (revG g) s k 7) (mkB (revG g) s k 8) (mkB (revG g) s k 9) (mkB (revG g) s k 10) (mkB (revG g) s k 11) (mkB (revG g) s k 12) (mkB (revG g) s k 13) (mkB (revG g) s k 14) (mkB (revG g) s k 15) (mkB (revG g) s k 16) (mkB (revG g) s k 17) (mkB (revG g) s k 18) (mkB (revG g) s k 19) (mkB (revG g) s k 20) (mkB (revG g) s k 21) (mkB (revG g) s k 22) (mkB (revG g) s k 23) = some (.inl (muA (mkB g s k) (mkB (revG g) s k) ((q + 1 : Nat) : Int))) from ?_) (ihi (q + 1) (by omega) (nxt fun h => by rw [hsqo] at h; cases h))
                unfold mutS1
                rw [br_t (dec_t (by rw [hlb]; simp only [iN]; omega)), gu_t (by omega), Int.toNat_natCast, el_t hsq, hsqo, br_f (by rfl), wq]; rfl
              | false =>
                cases hm : mkB g s k q with
                | false =>
                  refine .to (show mutS1 g s q (mkB g s k 0) (mkB g s k 1) (mkB g s k 2) (mkB g s k 3) (mkB g s k 4) (mkB g s k 5) (mkB g s k 6) (mkB g s k 7) (mkB g s k 8) (mkB g s k 9) (mkB g s k 10) (mkB g s k 11) (mkB g s k 12) (mkB g s k 13) (mkB g s k 14) (mkB g s k 15) (mkB g s k 16) (mkB g s k 17) (mkB g s k 18) (mkB g s k 19) (mkB g s k 20) (mkB g s k 21) (mkB g s k 22) (mkB g s k 23) (mkB (revG g) s k 0) (mkB (revG g) s k 1) (mkB (revG g) s k 2) (mkB (revG g) s k 3) (mkB (revG g) s k 4) (mkB (revG g) s k 5) (mkB (revG g) s k 6) (mkB (revG g) s k 7) (mkB (revG g) s k 8) (mkB (revG g) s k 9) (mkB (revG g) s k 10) (mkB (revG g) s k 11) (mkB (revG g) s k 12) (mkB (revG g) s k 13) (mkB (revG g) s k 14) (mkB (revG g) s k 15) (mkB (revG g) s k 16) (mkB (revG g) s k 17) (mkB (revG g) s k 18) (mkB (revG g) s k 19) (mkB (revG g) s k 20) (mkB (revG g) s k 21) (mkB (revG g) s k 22) (mkB (revG g) s k 23) = some (.inr ([], .tup [.bool false, .int .i64 0])) from ?_) ?_
                  · unfold mutS1
                    rw [br_t (dec_t (by rw [hlb]; simp only [iN]; omega)), gu_t (by omega), Int.toNat_natCast, el_t hsq, hsqo, br_t (by rfl), gu_t (by omega), el_t ga, hm, br_t (by rfl)]
                  · rw [muB_f fun h => by
                      have := mkB_iff.2 (h.2.2 k q hso hsqo)
                      rw [hm] at this; cases this]
                    exact .ret _
                | true =>
                  cases hm2 : mkB (revG g) s k q with
                  | false =>
                    refine .to (show mutS1 g s q (mkB g s k 0) (mkB g s k 1) (mkB g s k 2) (mkB g s k 3) (mkB g s k 4) (mkB g s k 5) (mkB g s k 6) (mkB g s k 7) (mkB g s k 8) (mkB g s k 9) (mkB g s k 10) (mkB g s k 11) (mkB g s k 12) (mkB g s k 13) (mkB g s k 14) (mkB g s k 15) (mkB g s k 16) (mkB g s k 17) (mkB g s k 18) (mkB g s k 19) (mkB g s k 20) (mkB g s k 21) (mkB g s k 22) (mkB g s k 23) (mkB (revG g) s k 0) (mkB (revG g) s k 1) (mkB (revG g) s k 2) (mkB (revG g) s k 3) (mkB (revG g) s k 4) (mkB (revG g) s k 5) (mkB (revG g) s k 6) (mkB (revG g) s k 7) (mkB (revG g) s k 8) (mkB (revG g) s k 9) (mkB (revG g) s k 10) (mkB (revG g) s k 11) (mkB (revG g) s k 12) (mkB (revG g) s k 13) (mkB (revG g) s k 14) (mkB (revG g) s k 15) (mkB (revG g) s k 16) (mkB (revG g) s k 17) (mkB (revG g) s k 18) (mkB (revG g) s k 19) (mkB (revG g) s k 20) (mkB (revG g) s k 21) (mkB (revG g) s k 22) (mkB (revG g) s k 23) = some (.inr ([], .tup [.bool false, .int .i64 0])) from ?_) ?_
                    · unfold mutS1
                      rw [br_t (dec_t (by rw [hlb]; simp only [iN]; omega)), gu_t (by omega), Int.toNat_natCast, el_t hsq, hsqo, br_t (by rfl), gu_t (by omega), el_t ga, hm, br_f (by rfl), el_t gb, hm2, br_t (by rfl)]
                    · rw [muB_f fun h => by
                        have := mkB_iff.2 (rcv_vre hg (h.2.2 q k hsqo hso))
                        rw [hm2] at this; cases this]
                      exact .ret _
                  | true =>
                    refine .to (show mutS1 g s q (mkB g s k 0) (mkB g s k 1) (mkB g s k 2) (mkB g s k 3) (mkB g s k 4) (mkB g s k 5) (mkB g s k 6) (mkB g s k 7) (mkB g s k 8) (mkB g s k 9) (mkB g s k 10) (mkB g s k 11) (mkB g s k 12) (mkB g s k 13) (mkB g s k 14) (mkB g s k 15) (mkB g s k 16) (mkB g s k 17) (mkB g s k 18) (mkB g s k 19) (mkB g s k 20) (mkB g s k 21) (mkB g s k 22) (mkB g s k 23) (mkB (revG g) s k 0) (mkB (revG g) s k 1) (mkB (revG g) s k 2) (mkB (revG g) s k 3) (mkB (revG g) s k 4) (mkB (revG g) s k 5) (mkB (revG g) s k 6) (mkB (revG g) s k 7) (mkB (revG g) s k 8) (mkB (revG g) s k 9) (mkB (revG g) s k 10) (mkB (revG g) s k 11) (mkB (revG g) s k 12) (mkB (revG g) s k 13) (mkB (revG g) s k 14) (mkB (revG g) s k 15) (mkB (revG g) s k 16) (mkB (revG g) s k 17) (mkB (revG g) s k 18) (mkB (revG g) s k 19) (mkB (revG g) s k 20) (mkB (revG g) s k 21) (mkB (revG g) s k 22) (mkB (revG g) s k 23) = some (.inl (muA (mkB g s k) (mkB (revG g) s k) ((q + 1 : Nat) : Int))) from ?_) (ihi (q + 1) (by omega) (nxt fun _ => ⟨mkB_iff.1 hm, rcv_rev hg (mkB_iff.1 hm2)⟩))
                    unfold mutS1
                    rw [br_t (dec_t (by rw [hlb]; simp only [iN]; omega)), gu_t (by omega), Int.toNat_natCast, el_t hsq, hsqo, br_t (by rfl), gu_t (by omega), el_t ga, hm, br_f (by rfl), el_t gb, hm2, br_f (by rfl), wq]; rfl
          exact inner g.length 0 (by omega) fun w hw => absurd hw (Nat.not_lt_zero _)
    exact key g.length 0 (by omega) fun v h => absurd h (Nat.not_lt_zero _)
noncomputable def chE (n : NetD) (sh : List Bool) (fl : Int) : Int := if valB n = true then (if sh.length = celN n ∧ 0 ≤ fl ∧ fl ≤ 8 then 0 else 19) else 20
theorem chE_ok {n : NetD} {sh : List Bool} {fl : Int} (h : chE n sh fl = 0) : ValidN n ∧ sh.length = celN n ∧ 0 ≤ fl ∧ fl ≤ 8 := by
  unfold chE at h
  split at h
  · rename_i hv
    split at h
    · rename_i hx; exact ⟨valB_iff.1 hv, hx⟩
    · cases h
  · cases h
theorem chE_zero {n : NetD} {sh : List Bool} {fl : Int} (hv : ValidN n) (hl : sh.length = celN n) (h : 0 ≤ fl ∧ fl ≤ 8) : chE n sh fl = 0 := by
  unfold chE; rw [if_pos (valB_iff.2 hv), if_pos ⟨hl, h⟩]
theorem chc_c {n : NetD} (sh : List Bool) (fl : Int) (hrw : Rows n.nx) : CT Try.prog 62 [] [netA n, .lst (boL sh), .int .i64 fl] [] (.int .i64 (chE n sh fl)) := by
  refine chc_ct n sh fl ([], _) (.val ?_)
  unfold chcEn chE cntE cntZ
  rw [gu_t hrw]
  cases hv : valB n with
  | false => rfl
  | true =>
    rw [if_pos rfl, if_pos rfl, if_pos rfl, br_f (by rfl), boL_len]
    by_cases h1 : sh.length = celN n
    · rw [br_f (by simp [iN, h1])]
      by_cases h2 : fl < 0
      · rw [br_t (dec_t h2), if_neg (by omega)]
      · by_cases h3 : 8 < fl
        · rw [br_f (dec_f h2), br_t (dec_t h3), if_neg (by omega)]
        · rw [br_f (dec_f h2), br_f (dec_f h3), if_pos ⟨h1, by omega, by omega⟩]
    · rw [br_t (bne_iff_ne.2 (by simp only [iN]; omega)), if_neg (by omega)]
def slT (n : NetD) (sh : List Bool) (i : Nat) : Int := if (n.ss.getD i s0).dep = true ∧ opB n sh (i : Int) = true then (n.ss.getD i s0).k else 0
def slI (n : NetD) (sh : List Bool) : Nat → Int
  | 0 => 0
  | i + 1 => slI n sh i + slT n sh i
def slS (n : NetD) (sh : List Bool) : Int := slI n sh n.ss.length
theorem slT_rng {n : NetD} (hv : ValidN n) (sh : List Bool) {i : Nat} (hi : i < n.ss.length) : 0 ≤ slT n sh i ∧ slT n sh i ≤ 1000 := by
  have hs := getE s0 hi
  have hb := hv.sb hs
  have hc := hv.cel
  unfold slT
  split <;> omega
theorem slI_rng {n : NetD} (hv : ValidN n) (sh : List Bool) : ∀ i, i ≤ n.ss.length → 0 ≤ slI n sh i ∧ slI n sh i ≤ 1000 * i := by
  intro i
  induction i with
  | zero => intro _; exact ⟨Int.le_refl _, Int.le_refl _⟩
  | succ i ih =>
    intro hi
    have h1 := ih (by omega)
    have h2 := slT_rng hv sh (i := i) (by omega)
    show 0 ≤ slI n sh i + slT n sh i ∧ slI n sh i + slT n sh i ≤ _
    omega
def wth (sh : List Bool) (c : Int) : List Bool := sh.set c.toNat true
theorem wth_len (sh : List Bool) (c : Int) : (wth sh c).length = sh.length := by unfold wth; simp
inductive sloPc where
  | l0 (v0 : Int) (v1 : Int)
noncomputable def sloSt (n : NetD) (sh : List Bool) : sloPc → St
  | .l0 v0 v1 => St.mk 44 [(1, AV.lst (boL sh)), (2, AV.ptr 0 0 0), (7, iv v0), (19, AV.lst (List.map sA n.ss)), (20, iv (iN (List.map sA n.ss).length)), (21, iv v1)] [some (Blk.mk [netA n] 8 true true none)]
def sloHd : sloPc → Nat
  | .l0 _ _ => 0
noncomputable def sloEn (n : NetD) (sh : List Bool) : Option (sloPc ⊕ Ret) :=
  gu (Rows n.nx) <|
  br (chE n sh 0 != 0)
  (some (.inr ([], AV.tup [AV.int IntKind.i64 0, AV.int IntKind.i64 (chE n sh 0)])))
  (some (.inl (.l0 ((0 : Int)) ((0 : Int)))))
noncomputable def sloS0 (n : NetD) (sh : List Bool) (v0 : Int) (v1 : Int) : Option (sloPc ⊕ Ret) :=
  br (decide (v1 < iN (List.map sA n.ss).length))
  (gu (0 ≤ v1) <|
   el (n.ss) (v1.toNat) fun (x24 : SpuD) =>
   gu (Rows n.nx) <|
   br (cOB n sh v1)
   (br (x24.dep)
    (some (.inl (.l0 (IntKind.i64.wrap (v0 + x24.k)) (IntKind.i64.wrap (v1 + 1)))))
    (some (.inl (.l0 (v0) (IntKind.i64.wrap (v1 + 1))))))
   (some (.inl (.l0 (v0) (IntKind.i64.wrap (v1 + 1))))))
  (some (.inr ([], AV.tup [AV.int IntKind.i64 v0, AV.int IntKind.i64 0])))
noncomputable def sloStep (n : NetD) (sh : List Bool) : sloPc → Option (sloPc ⊕ Ret)
  | .l0 v0 v1 => sloS0 n sh v0 v1
theorem sloEn_ok (n : NetD) (sh : List Bool) (o : sloPc ⊕ Ret) (h : sloEn n sh = some o) : Arr Try.prog Try.f29 0 (sloSt n sh) sloHd (bodyOf Try.f29) [] { n := Try.f29.ntmps, fr := enumF 0 ([netA n, .lst (boL sh)]), hp := ([]) } o :=
 Scr.ok h mix (
 .rn 0 [] [] [] [] (al (u2 t3)) <|
 .gu fun a0 =>
 have c0 := chc_c (sh) (0) a0;
 .rn 1 [] [] [(14, hK c0 [] [])] [] (aj (u2 (u2 (aj (k2 (aj t9 (k2 (al (c0))))) s2))) (al (u2 s2))) <|
 .br (fun a1 =>
 .rt [33] [] [] [] [] [] (aj (aj a1 (al (u2 (ak s2)))) (al t3)))
 (fun a1 =>
 .lp [32] [] [] [] [] [0] [1, 2, 7, 19, 20, 21] (aj (aj a1 (u2 (al (u2 (u2 (u2 t2)))))) t8))) (by kernel_rfl)
theorem sloS0_ok (n : NetD) (sh : List Bool) (v0 : Int) (v1 : Int) (o : sloPc ⊕ Ret) (h : sloS0 n sh v0 v1 = some o) : Arr Try.prog Try.f29 0 (sloSt n sh) sloHd (headC Try.f29 0) (.rnd (headC Try.f29 0) :: headK Try.f29 0) (sloSt n sh (.l0 v0 v1)) o :=
 Scr.ok h mix (
 .rn 0 [] [] [] [] (al (al t3)) <|
 .br (fun a0 =>
 .gu fun a1 =>
 .el fun x24 a2 =>
 .rn 0 [45] [(24, sA x24)] [] [] (aj a0 (al (u2 (aj (k2 (aj a1 (getMap (f := sA) a2))) (u2 (ak (u2 (al (k2 n11))))))))) <|
 .gu fun a3 =>
 have c0 := cOpen_ct a3 (sh) (v1);
 .rn 0 [] [] [(30, hK c0 [] [])] [] (al (u2 (u2 (u2 (aj (k3 (aj t9 (k2 (al (c0))))) (u2 (u2 (u2 (u2 s2))))))))) <|
 .br (fun a4 =>
  .rn 0 [69] [] [] [] (al (u2 (u2 (ag a4 (ag a4 (al (aj a4 t2))))))) <|
  .br (fun a5 =>
  .lp [69, 75] [] [] [] [] [0] [1, 2, 7, 19, 20, 21] (aj (aj a5 (aj (u2 (u2 (u2 (aj t3 s2)))) (al (u2 s2)))) t8))
  (fun a5 =>
  .lp [69, 74] [] [] [] [] [0] [1, 2, 7, 19, 20, 21] (aj (aj a5 (al (u2 s2))) t8)))
 (fun a4 =>
  .lp [68] [] [] [] [] [0] [1, 2, 7, 19, 20, 21] (aj (aj (u2 (u2 (aj a4 (aj a4 (al (aj a4 t2)))))) (ak (al (u2 s2)))) t8)))
 (fun a0 =>
 .rt [44] [] [] [] [] [] (aj (aj a0 (al (u2 (u2 t2)))) (al t3)))) (by kernel_rfl)
theorem slo_ct (n : NetD) (sh : List Bool) (r : Ret) (h : MReach (sloStep n sh) (sloEn n sh) r) : CT Try.prog 29 ([]) ([netA n, .lst (boL sh)]) r.1 r.2 :=
  CT.mach (fn := Try.f29) (c := bodyOf Try.f29) (S := sloSt n sh) (hd := sloHd) Try.func29 (by kernel_rfl) (Nat.le_of_ble_eq_true rfl)
    (fun s o ho => match s, ho with
      | .l0 v0 v1, ho => sloS0_ok n sh v0 v1 o ho
    )
    (fun o ho => sloEn_ok n sh o ho) h
noncomputable def slZ (n : NetD) (sh : List Bool) : Int := if chE n sh 0 = 0 then slS n sh else 0
theorem slo_c {n : NetD} (sh : List Bool) (hrw : Rows n.nx) : CT Try.prog 29 [] [netA n, .lst (boL sh)] [] (.tup [.int .i64 (slZ n sh), .int .i64 (chE n sh 0)]) := by
  refine slo_ct n sh ([], _) ?_
  have hn : (List.map sA n.ss).length = n.ss.length := List.length_map _
  unfold sloEn slZ
  rw [gu_t hrw]
  by_cases h : chE n sh 0 = 0
  case neg => rw [br_t (bne_iff_ne.2 h), if_neg h]; exact .ret _
  obtain ⟨hv, hl, _⟩ := chE_ok h
  have hss : n.ss.length ≤ 100000 := by have := hv.ns; omega
  rw [br_f (by rw [h]; rfl), if_pos h, h]
  refine loop_up (fun j => sloPc.l0 (slI n sh j) (j : Int)) n.ss.length (fun j hj hr => .to ?_ hr) (.to ?_ (.ret _))
  · show sloS0 n sh (slI n sh j) j = _
    have hs := getE s0 hj
    have hb := slI_rng hv sh j (by omega)
    have ht := slT_rng hv sh hj
    unfold sloS0
    rw [br_t (dec_t (by rw [hn]; simp only [iN]; omega)), gu_t (by omega), Int.toNat_natCast, el_t hs, wrap_nat j (by omega), gu_t hrw, cOB_ok hv hl ⟨by omega, by omega⟩]
    show _ = some (Sum.inl (sloPc.l0 (slI n sh j + slT n sh j) ((j + 1 : Nat) : Int)))
    unfold slT at ht ⊢
    cases ho : opB n sh (j : Int) with
    | false => rw [br_f rfl, if_neg (fun h => by cases h.2), Int.add_zero]
    | true =>
      rw [br_t rfl]
      cases hd : (n.ss.getD j s0).dep with
      | false => rw [br_f rfl, if_neg (fun h => by cases h.1), Int.add_zero]
      | true =>
        rw [hd, ho, if_pos ⟨rfl, rfl⟩] at ht
        rw [br_t rfl, if_pos ⟨rfl, rfl⟩, wrap_in (by omega) (by omega)]
  · show sloS0 n sh (slI n sh n.ss.length) n.ss.length = _
    unfold sloS0
    rw [br_f (dec_f (by rw [hn]; simp only [iN]; omega))]; rfl
noncomputable def caB (n : NetD) (sh : List Bool) (fl : Int) : Bool := muB n.nx (sh.take n.bs.length) && decide (fl ≤ slS n sh)
theorem tk_eq (n : NetD) (sh : List Bool) : List.take ((List.map bA n.bs).length - Int.toNat 0) (List.drop (Int.toNat 0) sh) = sh.take n.bs.length := by
  rw [List.length_map]; rfl
theorem bs_le {n : NetD} (hv : ValidN n) {sh : List Bool} (hl : sh.length = celN n) : n.bs.length ≤ sh.length := by
  rw [hl]; exact hv.cel.2.1
theorem bo_one (sh : List Bool) : ∀ (e : AV), e ∈ boL sh → e.cells.length = 1 := fun e he => by
  unfold boL at he; obtain ⟨b, _, rfl⟩ := List.mem_map.1 he; rfl
noncomputable def carSt (n : NetD) (sh : List Bool) (fl : Int) : Empty → St
  | x => x.elim
def carHd : Empty → Nat
  | x => x.elim
noncomputable def carEn (n : NetD) (sh : List Bool) (fl : Int) : Option (Empty ⊕ Ret) :=
  gu (Rows n.nx) <|
  br (chE n sh fl != 0)
  (some (.inr ([], AV.tup [AV.bool false, AV.int IntKind.i64 (chE n sh fl)])))
  (gu (∀ (e : AV), e ∈ boL sh → e.cells.length = 1) <|
   gu (iN (List.map bA n.bs).length ≤ iN (boL sh).length) <|
   br (muB n.nx (List.take ((List.map bA n.bs).length - Int.toNat 0) (List.drop (Int.toNat 0) sh)))
   (some (.inr ([], AV.tup [AV.bool (decide (fl ≤ slZ n sh)), AV.int IntKind.i64 0])))
   (some (.inr ([], AV.tup [AV.bool false, AV.int IntKind.i64 0]))))
noncomputable def carStep (n : NetD) (sh : List Bool) (fl : Int) : Empty → Option (Empty ⊕ Ret)
  | x => x.elim
theorem carEn_ok (n : NetD) (sh : List Bool) (fl : Int) (o : Empty ⊕ Ret) (h : carEn n sh fl = some o) : Arr Try.prog Try.f31 0 (carSt n sh fl) carHd (bodyOf Try.f31) [] { n := Try.f31.ntmps, fr := enumF 0 ([netA n, .lst (boL sh), .int .i64 fl]), hp := ([]) } o :=
 Scr.ok h mix (
 .rn 0 [] [] [] [] (al (u2 t3)) <|
 .gu fun a0 =>
 have c0 := chc_c (sh) (fl) a0;
 .rn 1 [] [] [(16, hK c0 [] [])] [] (aj (u2 (u2 (u2 (aj (k3 (aj t9 (k2 (al (c0))))) s2)))) (al (u2 s2))) <|
 .br (fun a1 =>
 .rt [37] [] [] [] [] [] (aj (aj a1 (al (u2 (ak s2)))) (al t3)))
 (fun a1 =>
 have c1 := slo_c (sh) a0;
 .rn 0 [36] [] [(23, hK c1 [] [])] [] (aj a1 (al (u2 (u2 (aj (k2 (aj t9 (ak (al (c1))))) (u2 (u2 (u2 (u2 s2))))))))) <|
 .gu fun a2 =>
 .gu fun a3 =>
 have c2 := mut_c a0;
 .rn 0 [] [] [(34, hK c2 [] [])] [] (al (u2 (u2 (u2 (u2 (u2 (u2 (aj (k2 (aj a2 (aj (show (0 : Int) ≤ (0 : Int) from (by first | exact Nat.le_of_ble_eq_true rfl | decide)) (aj (show 0 ≤ iN (List.map bA n.bs).length from (Int.natCast_nonneg _)) (aj a3 (show iN (boL sh).length ≤ iN (boL sh).length by omega)))))) (aj (ak (k3 (al (show CT Try.prog 35 [] [AV.lst (gL n.nx), AV.lst (List.take ((List.map bA n.bs).length - Int.toNat 0) (List.drop (Int.toNat 0) (boL sh)))] [] (AV.tup [AV.bool (muB n.nx (List.take ((List.map bA n.bs).length - Int.toNat 0) (List.drop (Int.toNat 0) sh))), iv (chk4 n.nx (List.take ((List.map bA n.bs).length - Int.toNat 0) (List.drop (Int.toNat 0) sh)))]) from CT.eqs (c2) (by first | (simp [gL, boL, lI, sA, bA]; done) | (simp [gL, boL, lI, sA, bA]; rfl) | (simp only [netA, List.map_append, List.map_set, List.map_cons, List.map_nil]; rfl)) (by first | (simp [gL, boL, lI, sA, bA]; done) | (simp [gL, boL, lI, sA, bA]; rfl) | (simp only [netA, List.map_append, List.map_set, List.map_cons, List.map_nil]; rfl)))))) (u2 (u2 (u2 (u2 s2))))))))))))) <|
 .br (fun a4 =>
  .rt [77] [] [] [] [] [] (aj (al (u2 (u2 (ag a4 (ag a4 (aj (aj a4 t3) (ag a4 (u2 t2)))))))) (al t3)))
 (fun a4 =>
  .rt [76] [] [] [] [] [] (aj (al (u2 (u2 (aj a4 (aj a4 (aj a4 (ag a4 (u2 t2)))))))) (al t3))))) (by kernel_rfl)
theorem car_ct (n : NetD) (sh : List Bool) (fl : Int) (r : Ret) (h : MReach (carStep n sh fl) (carEn n sh fl) r) : CT Try.prog 31 ([]) ([netA n, .lst (boL sh), .int .i64 fl]) r.1 r.2 :=
  CT.mach (fn := Try.f31) (c := bodyOf Try.f31) (S := carSt n sh fl) (hd := carHd) Try.func31 (by kernel_rfl) (Nat.le_of_ble_eq_true rfl)
    (fun s o ho => match s, ho with
      | x, _ => x.elim)
    (fun o ho => carEn_ok n sh fl o ho) h
noncomputable def caO (n : NetD) (sh : List Bool) (fl : Int) : Bool := if chE n sh fl = 0 then caB n sh fl else false
theorem slZ_ok {n : NetD} {sh : List Bool} (hv : ValidN n) (hl : sh.length = celN n) : slZ n sh = slS n sh := by
  unfold slZ; rw [if_pos (chE_zero hv hl (by omega))]
theorem car_c {n : NetD} (sh : List Bool) (fl : Int) (hrw : Rows n.nx) : CT Try.prog 31 [] [netA n, .lst (boL sh), .int .i64 fl] [] (.tup [.bool (caO n sh fl), .int .i64 (chE n sh fl)]) := by
  refine car_ct n sh fl ([], _) (.val ?_)
  unfold carEn caO
  rw [gu_t hrw]
  by_cases h : chE n sh fl = 0
  case neg => rw [br_t (bne_iff_ne.2 h), if_neg h]
  obtain ⟨hv, hl, _⟩ := chE_ok h
  have hb := bs_le hv hl
  rw [br_f (by rw [h]; rfl), if_pos h, h, gu_t (bo_one sh), gu_t (by rw [boL_len, List.length_map]; simp only [iN]; omega), tk_eq, slZ_ok hv hl]
  unfold caB
  cases muB n.nx (sh.take n.bs.length) <;> rfl
noncomputable def alB (n : NetD) (sh : List Bool) (bk fl : Int) : Bool := !(sh.getD bk.toNat true) && caB n (wth sh bk) fl
noncomputable def allSt (n : NetD) (sh : List Bool) (bk fl : Int) : Empty → St
  | x => x.elim
def allHd : Empty → Nat
  | x => x.elim
noncomputable def allEn (n : NetD) (sh : List Bool) (bk fl : Int) : Option (Empty ⊕ Ret) :=
  gu (Rows n.nx) <|
  br (chE n sh fl != 0)
  (some (.inr ([], AV.tup [AV.bool false, AV.int IntKind.i64 (chE n sh fl)])))
  (br (decide (bk < 0))
   (some (.inr ([], AV.tup [AV.bool false, AV.int IntKind.i64 19])))
   (br (decide (iN (List.map bA n.bs).length ≤ bk))
    (some (.inr ([], AV.tup [AV.bool false, AV.int IntKind.i64 19])))
    (gu (0 ≤ bk) <|
     el (sh) (bk.toNat) fun (x33 : Bool) =>
     br (x33)
     (some (.inr ([], AV.tup [AV.bool false, AV.int IntKind.i64 0])))
     (gu (1 * iN (boL sh).length ≤ 281474976710656) <|
      gu (iN (boL sh).length ≤ 9223372036854775807) <|
      gu (∀ (e : AV), e ∈ boL sh → e.cells.length = 1) <|
      gu (bk < iN (boL sh).length) <|
      gu ((0 + bk.toNat).succ.le ([] ++ List.take (min (boL sh).length (boL sh).length) (boL sh) ++ List.drop (0 + min (boL sh).length (boL sh).length) (List.replicate (boL sh).length (AV.bool false))).length) <|
      some (.inr ([], AV.tup [AV.bool (caO n ((List.take (min (boL sh).length (boL sh).length) sh ++ List.drop (0 + min (boL sh).length (boL sh).length) (List.replicate (boL sh).length false)).set (0 + bk.toNat) true) fl), AV.int IntKind.i64 (chE n ((List.take (min (boL sh).length (boL sh).length) sh ++ List.drop (0 + min (boL sh).length (boL sh).length) (List.replicate (boL sh).length false)).set (0 + bk.toNat) true) fl)]))))))
noncomputable def allStep (n : NetD) (sh : List Bool) (bk fl : Int) : Empty → Option (Empty ⊕ Ret)
  | x => x.elim
theorem allEn_ok (n : NetD) (sh : List Bool) (bk fl : Int) (o : Empty ⊕ Ret) (h : allEn n sh bk fl = some o) : Arr Try.prog Try.f33 0 (allSt n sh bk fl) allHd (bodyOf Try.f33) [] { n := Try.f33.ntmps, fr := enumF 0 ([netA n, .lst (boL sh), .int .i64 bk, .int .i64 fl]), hp := ([]) } o :=
 Scr.ok h mix (
 .rn 0 [] [] [] [] (al (u2 t3)) <|
 .gu fun a0 =>
 have c0 := chc_c (sh) (fl) a0;
 .rn 1 [] [] [(15, hK c0 [] [])] [] (aj (u2 (u2 (u2 (aj (k3 (aj t9 (k2 (al (c0))))) s2)))) (al (u2 (u2 s2)))) <|
 .br (fun a1 =>
 .rt [33] [] [] [] [] [] (aj (aj a1 (al (u2 (ak s2)))) (al t3)))
 (fun a1 =>
 .br (fun a2 =>
  .rt [32, 47] [] [] [] [] [] (aj (aj a1 (aj (u2 (u2 (u2 (aj a2 (aj a2 (aj a2 (aj a2 (aj a2 (ag a2 s2))))))))) (ak (al t3)))) (al t3)))
 (fun a2 =>
  .rn 0 [32, 46] [] [] [] (aj a1 (al (u2 (u2 (u2 (ag a2 (ag a2 (ag a2 (ag a2 (aj (aj a2 t3) (ag a2 s2))))))))))) <|
  .br (fun a3 =>
  .rt [46, 41] [] [] [] [] [] (aj (aj a3 (al t3)) (al t3)))
  (fun a3 =>
  .gu fun a4 =>
  .el fun x33 a5 =>
  .rn 0 [46, 40] [(33, AV.bool x33)] [] [] (aj a3 (al (u2 (u2 (aj (k2 (aj a4 (getMap (f := AV.bool) a5))) (u2 s2)))))) <|
  .br (fun a6 =>
   .rt [46, 61] [] [] [] [] [] (aj (aj a6 (al t3)) (al t3)))
  (fun a6 =>
   .gu fun a7 =>
   .gu fun a8 =>
   .rn 0 [46, 60] [] [] [] (aj a6 (al (u2 (u2 (aj (k2 (aj (show 0 ≤ iN (boL sh).length from (Int.natCast_nonneg _)) (aj (show iN (boL sh).length ≤ iN (boL sh).length by omega) (aj a7 a8)))) s2))))) <|
   .gu fun a9 =>
   .rn 0 [46] [] [] [] (al (u2 (u2 (al (k2 (aj (show 0 + (boL sh).length ≤ (List.replicate (boL sh).length (AV.bool false)).length by simp) a9)))))) <|
   .gu fun a10 =>
   .gu fun a11 =>
   have c1 := car_c ((List.take (min (boL sh).length (boL sh).length) sh ++ List.drop (0 + min (boL sh).length (boL sh).length) (List.replicate (boL sh).length false)).set (0 + bk.toNat) true) (fl) a0;
   .rt [46] [] [(47, hK c1 [] [1])] [] [] [] (aj (aj (u2 (u2 (aj (k2 (aj a4 a10)) (al (ak a11))))) (al (u2 (u2 (u2 (aj (k3 (aj t9 (aj (show (boL sh).length = (([] ++ List.take (min (boL sh).length (boL sh).length) (boL sh) ++ List.drop (0 + min (boL sh).length (boL sh).length) (List.replicate (boL sh).length (AV.bool false))).set (0 + bk.toNat) (AV.bool true)).length by simp) (ak (aj (show CT Try.prog 31 [] [AV.agg [AV.lst (List.map bA n.bs), AV.lst (gL n.nx), AV.lst (List.map sA n.ss), AV.lst (List.map (iv) n.rs), iv n.q, iv n.a, iv n.d, iv n.p], AV.lst (([] ++ List.take (min (boL sh).length (boL sh).length) (boL sh) ++ List.drop (0 + min (boL sh).length (boL sh).length) (List.replicate (boL sh).length (AV.bool false))).set (0 + bk.toNat) (AV.bool true)), iv fl] [] (AV.tup [AV.bool (caO n ((List.take (min (boL sh).length (boL sh).length) sh ++ List.drop (0 + min (boL sh).length (boL sh).length) (List.replicate (boL sh).length false)).set (0 + bk.toNat) true) fl), iv (chE n ((List.take (min (boL sh).length (boL sh).length) sh ++ List.drop (0 + min (boL sh).length (boL sh).length) (List.replicate (boL sh).length false)).set (0 + bk.toNat) true) fl)]) from CT.eqs (c1) (by first | (simp only [netA, boL, lI, List.map_append, List.map_set, List.map_take, List.map_drop, List.map_replicate, List.nil_append]; done) | (simp only [netA, boL, lI, List.map_append, List.map_set, List.map_take, List.map_drop, List.map_replicate, List.nil_append]; rfl) | (simp [gL, boL, lI, sA, bA]; done) | (simp [gL, boL, lI, sA, bA]; rfl) | (simp only [netA, List.map_append, List.map_set, List.map_cons, List.map_nil]; rfl)) (by first | (simp only [netA, boL, lI, List.map_append, List.map_set, List.map_take, List.map_drop, List.map_replicate, List.nil_append]; done) | (simp only [netA, boL, lI, List.map_append, List.map_set, List.map_take, List.map_drop, List.map_replicate, List.nil_append]; rfl) | (simp [gL, boL, lI, sA, bA]; done) | (simp [gL, boL, lI, sA, bA]; rfl) | (simp only [netA, List.map_append, List.map_set, List.map_cons, List.map_nil]; rfl))) (show ∀ (blk : Blk), blk ∈ [] → ImmB blk from (by intro _ h; cases h))))))) (u2 (u2 (u2 s2))))))))) (al t3))))))) (by kernel_rfl)
theorem all_ct (n : NetD) (sh : List Bool) (bk fl : Int) (r : Ret) (h : MReach (allStep n sh bk fl) (allEn n sh bk fl) r) : CT Try.prog 33 ([]) ([netA n, .lst (boL sh), .int .i64 bk, .int .i64 fl]) r.1 r.2 :=
  CT.mach (fn := Try.f33) (c := bodyOf Try.f33) (S := allSt n sh bk fl) (hd := allHd) Try.func33 (by kernel_rfl) (Nat.le_of_ble_eq_true rfl)
    (fun s o ho => match s, ho with
      | x, _ => x.elim)
    (fun o ho => allEn_ok n sh bk fl o ho) h
noncomputable def alE (n : NetD) (sh : List Bool) (bk fl : Int) : Int := if chE n sh fl = 0 then (if 0 ≤ bk ∧ bk < (n.bs.length : Int) then 0 else 19) else chE n sh fl
noncomputable def alO (n : NetD) (sh : List Bool) (bk fl : Int) : Bool := if alE n sh bk fl = 0 then alB n sh bk fl else false
theorem alE_bad {n : NetD} {sh : List Bool} {bk fl : Int} (h : chE n sh fl ≠ 0) : alE n sh bk fl = chE n sh fl ∧ alO n sh bk fl = false := by
  have e : alE n sh bk fl = chE n sh fl := by unfold alE; rw [if_neg h]
  exact ⟨e, by unfold alO; rw [if_neg (by rw [e]; exact h)]⟩
theorem alE_out {n : NetD} {sh : List Bool} {bk fl : Int} (h : chE n sh fl = 0) (hb : ¬ (0 ≤ bk ∧ bk < (n.bs.length : Int))) : alE n sh bk fl = 19 ∧ alO n sh bk fl = false := by
  have e : alE n sh bk fl = 19 := by unfold alE; rw [if_pos h, if_neg hb]
  exact ⟨e, by unfold alO; rw [if_neg (by omega)]⟩
theorem alE_in {n : NetD} {sh : List Bool} {bk fl : Int} (h : chE n sh fl = 0) (hb : 0 ≤ bk ∧ bk < (n.bs.length : Int)) : alE n sh bk fl = 0 ∧ alO n sh bk fl = alB n sh bk fl := by
  have e : alE n sh bk fl = 0 := by unfold alE; rw [if_pos h, if_pos hb]
  exact ⟨e, by unfold alO; rw [if_pos e]⟩
theorem all_c {n : NetD} (sh : List Bool) (bk fl : Int) (hrw : Rows n.nx) : CT Try.prog 33 [] [netA n, .lst (boL sh), .int .i64 bk, .int .i64 fl] [] (.tup [.bool (alO n sh bk fl), .int .i64 (alE n sh bk fl)]) := by
  refine all_ct n sh bk fl ([], _) (.val ?_)
  unfold allEn
  rw [gu_t hrw]
  by_cases h : chE n sh fl = 0
  case neg => rw [br_t (bne_iff_ne.2 h), (alE_bad h).1, (alE_bad h).2]
  obtain ⟨hv, hl, hf⟩ := chE_ok h
  have hb := bs_le hv hl
  have hc := hv.cel
  rw [br_f (by rw [h]; rfl)]
  by_cases h1 : bk < 0
  · rw [br_t (dec_t h1), (alE_out h (by omega)).1, (alE_out h (by omega)).2]
  by_cases h2 : (n.bs.length : Int) ≤ bk
  · rw [br_f (dec_f h1), br_t (dec_t (by rw [List.length_map]; exact h2)), (alE_out h (by omega)).1, (alE_out h (by omega)).2]
  have hs := getE true (show bk.toNat < sh.length by omega)
  have hL := boL_len sh
  have e : (List.take (min (boL sh).length (boL sh).length) sh ++ List.drop (0 + min (boL sh).length (boL sh).length) (List.replicate (boL sh).length false)).set (0 + bk.toNat) true = wth sh bk := by
    rw [hL, Nat.min_self, List.take_length, Nat.zero_add, Nat.zero_add, List.drop_of_length_le (by simp), List.append_nil]; rfl
  rw [br_f (dec_f h1), br_f (dec_f (by rw [List.length_map]; exact h2)), (alE_in h ⟨by omega, by omega⟩).1, (alE_in h ⟨by omega, by omega⟩).2, gu_t (by omega), el_t hs, e]
  unfold alB
  cases sh.getD bk.toNat true with
  | true => rfl
  | false =>
    have hc2 : chE n (wth sh bk) fl = 0 := chE_zero hv (by rw [wth_len]; exact hl) hf
    rw [br_f (by rfl), gu_t (by rw [hL]; simp only [iN]; omega), gu_t (by rw [hL]; simp only [iN]; omega), gu_t (bo_one sh), gu_t (by rw [hL]; simp only [iN]; omega), gu_t (show Nat.le _ _ from (show 0 + bk.toNat + 1 ≤ _ by simp only [List.nil_append, List.length_append, List.length_take, List.length_drop, List.length_replicate, hL]; omega)), hc2]
    unfold caO
    rw [if_pos hc2]; rfl
noncomputable def lnSt : Empty → St
  | x => x.elim
def lnHd : Empty → Nat
  | x => x.elim
noncomputable def lnEn : Option (Empty ⊕ Ret) :=
  some (.inr ([], AV.agg [AV.lst [AV.agg [AV.str (ByteArray.mk #[97]), AV.int IntKind.i64 0, AV.int IntKind.i64 0], AV.agg [AV.str (ByteArray.mk #[98]), AV.int IntKind.i64 0, AV.int IntKind.i64 0], AV.agg [AV.str (ByteArray.mk #[99]), AV.int IntKind.i64 0, AV.int IntKind.i64 0]], AV.lst [AV.lst [AV.int IntKind.i64 1], AV.lst [AV.int IntKind.i64 0, AV.int IntKind.i64 2], AV.lst [AV.int IntKind.i64 1]], AV.lst [AV.agg [AV.str (ByteArray.mk #[100]), AV.bool true, AV.int IntKind.i64 0, AV.int IntKind.i64 0, AV.int IntKind.i64 1, AV.int IntKind.i64 3], AV.agg [AV.str (ByteArray.mk #[101]), AV.bool true, AV.int IntKind.i64 2, AV.int IntKind.i64 2, AV.int IntKind.i64 2, AV.int IntKind.i64 4]], AV.nils, AV.int IntKind.i64 1, AV.int IntKind.i64 0, AV.int IntKind.i64 0, AV.int IntKind.i64 1]))
noncomputable def lnStep : Empty → Option (Empty ⊕ Ret)
  | x => x.elim
theorem lnEn_ok (o : Empty ⊕ Ret) (h : lnEn = some o) : Arr Try.prog Try.f61 0 (lnSt) lnHd (bodyOf Try.f61) [] { n := Try.f61.ntmps, fr := enumF 0 ([]), hp := ([]) } o :=
 Scr.ok h mix (
 .rt [] [(4, AV.lst []), (5, AV.lst []), (6, AV.lst []), (7, AV.lst []), (8, AV.lst []), (11, AV.lst [])] [] [] [] [] (aj (u2 (al (k3 (aj t4 (k3 (aj t4 (k2 (aj t3 (ak (aj t5 (al (k2 n11)))))))))))) (al t9))) (by kernel_rfl)
theorem ln_ct (r : Ret) (h : MReach (lnStep) (lnEn) r) : CT Try.prog 61 ([]) ([]) r.1 r.2 :=
  CT.mach (fn := Try.f61) (c := bodyOf Try.f61) (S := lnSt) (hd := lnHd) Try.func61 (by kernel_rfl) (Nat.le_of_ble_eq_true rfl)
    (fun s o ho => match s, ho with
      | x, _ => x.elim)
    (fun o ho => lnEn_ok o ho) h
theorem ln_exP : ∃ n : NetD, n = ⟨[⟨⟨#[97]⟩, 0, 0⟩, ⟨⟨#[98]⟩, 0, 0⟩, ⟨⟨#[99]⟩, 0, 0⟩], [[1], [0, 2], [1]], [⟨⟨#[100]⟩, true, 0, 0, 1, 3⟩, ⟨⟨#[101]⟩, true, 2, 2, 2, 4⟩], [], 1, 0, 0, 1⟩ := ⟨_, rfl⟩
@[irreducible] noncomputable def lnN : NetD := Classical.choose ln_exP
theorem lnN_eq : lnN = ⟨[⟨⟨#[97]⟩, 0, 0⟩, ⟨⟨#[98]⟩, 0, 0⟩, ⟨⟨#[99]⟩, 0, 0⟩], [[1], [0, 2], [1]], [⟨⟨#[100]⟩, true, 0, 0, 1, 3⟩, ⟨⟨#[101]⟩, true, 2, 2, 2, 4⟩], [], 1, 0, 0, 1⟩ := by unfold lnN; exact Classical.choose_spec ln_exP
theorem VR_wka {φ : Phi} {A : Nat → Prop} {w : World} {cs : List AV} {v : Value} (h : VR φ A w (.agg cs) v) : VR φ A w (.agg (cs.map wk1)) v := by
  cases h with
  | imm _ _ h =>
    cases h with
    | agg _ vs hl h =>
      refine .agg _ vs (by simpa using hl) fun i c v hc hv => ?_
      rw [List.getElem?_map] at hc
      obtain ⟨c', hc', rfl⟩ := Option.map_eq_some_iff.1 hc
      exact (VR.imm _ _ (h i c' v hc' hv)).wk1
  | agg _ vs hl h =>
    refine .agg _ vs (by simpa using hl) fun i c v hc hv => ?_
    rw [List.getElem?_map] at hc
    obtain ⟨c', hc', rfl⟩ := Option.map_eq_some_iff.1 hc
    exact (h i c' v hc' hv).wk1
theorem ln_c : CT Try.prog 61 [] [] [] (netA lnN) := by
  rw [lnN_eq]
  exact (ln_ct _ (.val (show lnEn = some (.inr _) by unfold lnEn; exact rfl))).less fun _ _ _ _ h => VR_wka h
theorem lnN_rows : Rows lnN.nx := by
  rw [lnN_eq]
  intro v hv
  match v, hv with
  | 0, _ => decide
  | 1, _ => decide
  | 2, _ => decide
  | v + 3, hv => simp at hv; try omega
theorem lnN_ok : ValidN lnN := by
  rw [lnN_eq]
  refine ⟨by decide +kernel, rfl, by decide, by decide, by decide +kernel, ?_, ?_, ?_, ?_, ?_⟩
  · intro i b h
    match i, h with
    | 0, h => cases h; exact ⟨by decide +kernel, by decide +kernel, by decide +kernel, by decide +kernel⟩
    | 1, h => cases h; exact ⟨by decide +kernel, by decide +kernel, by decide +kernel, by decide +kernel⟩
    | 2, h => cases h; exact ⟨by decide +kernel, by decide +kernel, by decide +kernel, by decide +kernel⟩
    | i + 3, h => simp at h
  · intro i s h
    match i, h with
    | 0, h => cases h; exact ⟨by decide +kernel, by decide +kernel, by decide +kernel, by decide +kernel, by decide +kernel⟩
    | 1, h => cases h; exact ⟨by decide +kernel, by decide +kernel, by decide +kernel, by decide +kernel, by decide +kernel⟩
    | i + 2, h => simp at h
  · decide +kernel
  · exact ⟨3, ⟨⟨#[100]⟩, true, 0, 0, 1, 3⟩, by simp, rfl, by decide, by decide⟩
  · intro i c h
    cases h
theorem lnN_cel : celN lnN = 6 := by rw [lnN_eq]; decide +kernel
def s6 : List Bool := [false, false, false, false, false, false]
theorem ln_ch (fl : Int) (h : 0 ≤ fl ∧ fl ≤ 8) : chE lnN s6 fl = 0 := chE_zero lnN_ok (by rw [lnN_cel]; rfl) h
theorem ln_sl : slZ lnN s6 = 3 := by
  rw [slZ_ok lnN_ok (by rw [lnN_cel]; rfl), lnN_eq]; decide +kernel
theorem ln_e (bk fl : Int) (hb : 0 ≤ bk ∧ bk < 3) (h : 0 ≤ fl ∧ fl ≤ 8) : alE lnN s6 bk fl = 0 ∧ alO lnN s6 bk fl = alB lnN s6 bk fl := alE_in (ln_ch fl h) (by rw [lnN_eq]; exact hb)
theorem lnA : alB lnN s6 0 2 = true := by
  unfold alB caB
  have h1 : muB lnN.nx ((wth s6 0).take lnN.bs.length) = true := by
    rw [lnN_eq]
    refine muB_t ⟨by decide +kernel, ⟨1, rfl⟩, fun v w hv hw => ?_⟩
    have h11 : Rcv [[1], [0, 2], [1]] [true, false, false] 1 1 := .refl rfl
    have h22 : Rcv [[1], [0, 2], [1]] [true, false, false] 2 2 := .refl rfl
    have h12 : Rcv [[1], [0, 2], [1]] [true, false, false] 1 2 := .step h11 (by decide) rfl
    have h21 : Rcv [[1], [0, 2], [1]] [true, false, false] 2 1 := .step h22 (by decide) rfl
    have key : ∀ x : Nat, ((wth s6 0).take 3).getD x true = false → x = 1 ∨ x = 2 := fun x hx => by
      match x, hx with
      | 0, hx => cases hx
      | 1, _ => exact .inl rfl
      | 2, _ => exact .inr rfl
      | x + 3, hx => simp [wth, s6] at hx
    rcases key v hv with rfl | rfl <;> rcases key w hw with rfl | rfl
    · exact h11
    · exact h12
    · exact h21
    · exact h22
  have h2 : decide ((2 : Int) ≤ slS lnN (wth s6 0)) = true := by rw [lnN_eq]; decide +kernel
  rw [h1, h2]; rfl
theorem lnB : alB lnN s6 1 1 = false := by
  unfold alB caB
  have h1 : muB lnN.nx ((wth s6 1).take lnN.bs.length) = false := by
    rw [lnN_eq]
    refine muB_f fun h => ?_
    have h02 := h.2.2 0 2 rfl rfl
    have key : ∀ k, Rcv [[1], [0, 2], [1]] ((wth s6 1).take 3) 0 k → k = 0 := fun k hk => by
      induction hk with
      | refl _ => rfl
      | @step u w _ hw ho ih =>
        subst ih
        have : w = 1 := by
          have : (w : Int) ∈ ([1] : List Int) := hw
          have := List.mem_singleton.1 this
          omega
        subst this; cases ho
    exact absurd (key 2 h02) (by decide)
  rw [h1]; simp
theorem lnC : alB lnN s6 2 2 = false := by
  unfold alB caB
  have h2 : decide ((2 : Int) ≤ slS lnN (wth s6 2)) = false := by rw [lnN_eq]; decide +kernel
  rw [h2]; simp
theorem allK0 : CT Try.prog 33 [] [netA lnN, .lst (boL s6), .int .i64 0, .int .i64 2] [] (.tup [.bool true, .int .i64 0]) := by
  have h := all_c s6 0 2 lnN_rows
  rwa [(ln_e 0 2 (by omega) (by omega)).1, (ln_e 0 2 (by omega) (by omega)).2, lnA] at h
theorem allK1 : CT Try.prog 33 [] [netA lnN, .lst (boL s6), .int .i64 1, .int .i64 1] [] (.tup [.bool false, .int .i64 0]) := by
  have h := all_c s6 1 1 lnN_rows
  rwa [(ln_e 1 1 (by omega) (by omega)).1, (ln_e 1 1 (by omega) (by omega)).2, lnB] at h
theorem allK2 : CT Try.prog 33 [] [netA lnN, .lst (boL s6), .int .i64 2, .int .i64 2] [] (.tup [.bool false, .int .i64 0]) := by
  have h := all_c s6 2 2 lnN_rows
  rwa [(ln_e 2 2 (by omega) (by omega)).1, (ln_e 2 2 (by omega) (by omega)).2, lnC] at h
theorem sloK : CT Try.prog 29 [] [netA lnN, .lst (boL s6)] [] (.tup [.int .i64 3, .int .i64 0]) := by
  have h := slo_c s6 lnN_rows
  rwa [ln_sl, ln_ch 0 (by omega)] at h
noncomputable def knoSt : Empty → St
  | x => x.elim
def knoHd : Empty → Nat
  | x => x.elim
noncomputable def knoEn : Option (Empty ⊕ Ret) :=
  some (.inr ([], AV.bool true))
noncomputable def knoStep : Empty → Option (Empty ⊕ Ret)
  | x => x.elim
theorem knoEn_ok (o : Empty ⊕ Ret) (h : knoEn = some o) : Arr Try.prog Try.f27 0 (knoSt) knoHd (bodyOf Try.f27) [] { n := Try.f27.ntmps, fr := enumF 0 ([]), hp := ([]) } o :=
 Scr.ok h mix (
 have c0 := ln_c;
 have c1 := allK0;
 have c2 := allK1;
 have c3 := allK2;
 have c4 := sloK;
 .rt [] [] [(11, hK c0 [] []), (16, hK c1 [] [0]), (22, hK c2 [] [0]), (28, hK c3 [] [0]), (34, hK c4 [] [0])] [] [] [] (aj (u2 (aj (aj (al (c0)) (aj (aj (show (0 : Int) ≤ (6 : Int) from (by first | exact Nat.le_of_ble_eq_true rfl | decide)) (aj (show (6 : Int) ≤ (6 : Int) from (by first | exact Nat.le_of_ble_eq_true rfl | decide)) (aj (show (6 : Int) ≤ (281474976710656 : Int) from (by first | exact Nat.le_of_ble_eq_true rfl | decide)) (show (6 : Int) ≤ (9223372036854775807 : Int) from (by first | exact Nat.le_of_ble_eq_true rfl | decide))))) (ak (aj (k2 n11) s2)))) (aj (u2 (u2 (aj (k2 (aj t9 (aj (show nat_lit 6 = nat_lit 6 from rfl) (k2 (aj (c1) (show ∀ (blk : Blk), blk ∈ [] → ImmB blk from (by intro _ h; cases h))))))) (u2 (u2 (u2 (u2 s2))))))) (aj (u2 (u2 (aj (k2 (aj t9 (aj (show nat_lit 6 = nat_lit 6 from rfl) (k2 (aj (c2) (show ∀ (blk : Blk), blk ∈ [] → ImmB blk from (by intro _ h; cases h))))))) (u2 (u2 (u2 (u2 s2))))))) (aj (u2 (u2 (aj (k2 (aj t9 (aj (show nat_lit 6 = nat_lit 6 from rfl) (k2 (aj (c3) (show ∀ (blk : Blk), blk ∈ [] → ImmB blk from (by intro _ h; cases h))))))) (u2 (u2 (u2 (u2 s2))))))) (aj (u2 (u2 (aj (k2 (aj t9 (aj (show nat_lit 6 = nat_lit 6 from rfl) (aj (c4) (show ∀ (blk : Blk), blk ∈ [] → ImmB blk from (by intro _ h; cases h)))))) (u2 (u2 (u2 (u2 s2))))))) (al (u2 (u2 (u2 (aj t3 (aj t3 (aj t3 (u2 (aj t3 (aj t3 (aj t3 (u2 (aj t3 (aj t3 (aj t3 (u2 (aj t3 (aj t3 (u2 (aj t3 (aj t3 (aj t3 (u2 (aj t3 (aj t3 (aj t3 (u2 (aj t3 (aj t3 (aj t3 s2)))))))))))))))))))))))))))))))))))) t2)) (by kernel_rfl)
theorem kno_ct (r : Ret) (h : MReach (knoStep) (knoEn) r) : CT Try.prog 27 ([]) ([]) r.1 r.2 :=
  CT.mach (fn := Try.f27) (c := bodyOf Try.f27) (S := knoSt) (hd := knoHd) Try.func27 (by kernel_rfl) (Nat.le_of_ble_eq_true rfl)
    (fun s o ho => match s, ho with
      | x, _ => x.elim)
    (fun o ho => knoEn_ok o ho) h
theorem kno_c : CT Try.prog 27 [] [] [] (.bool true) := kno_ct ([], _) (.val (show knoEn = _ by unfold knoEn; rfl))
noncomputable def clOSt (ls : List Int) (fl ce : Int) : Empty → St
  | x => x.elim
def clOHd : Empty → Nat
  | x => x.elim
noncomputable def clOEn (ls : List Int) (fl ce : Int) : Option (Empty ⊕ Ret) :=
  gu (ValidN (looM ls 0 8)) <|
  gu (celN (looM ls 0 8) ≤ 1000) <|
  gu (looK ls 0 8 ≤ 50000) <|
  gu (Rows (looM ls 0 8).nx) <|
  gu (∀ (e : AV), e ∈ boL (shuL ls (looK ls 0 8) (celN (looM ls 0 8))) → e.cells.length = 1) <|
  gu ((boL (shuL ls (looK ls 0 8) (celN (looM ls 0 8)))).length ≤ 9223372036854775807) <|
  gu ((boL (shuL ls (looK ls 0 8) (celN (looM ls 0 8)))).length * 1 ≤ 140737488355328) <|
  gu (0 ≤ cutZ ce (iN (celN (looM ls 0 8)))) <|
  gu (cutZ ce (iN (celN (looM ls 0 8))) < iN (boL (shuL ls (looK ls 0 8) (celN (looM ls 0 8)))).length) <|
  gu ((0 + (cutZ ce (iN (celN (looM ls 0 8)))).toNat).succ.le (boL (shuL ls (looK ls 0 8) (celN (looM ls 0 8)))).length) <|
  br (chE (looM ls 0 8) (shuL ls (looK ls 0 8) (celN (looM ls 0 8))) (IntKind.i64.wrap (1 + cutZ fl 8)) == 0)
  (br (chE (looM ls 0 8) (shuL ls (looK ls 0 8) (celN (looM ls 0 8))) (IntKind.i64.wrap (IntKind.i64.wrap (1 + cutZ fl 8) - 1)) == 0)
   (br (chE (looM ls 0 8) (shuL ls (looK ls 0 8) (celN (looM ls 0 8))) 0 == 0)
    (br (chE (looM ls 0 8) ((shuL ls (looK ls 0 8) (celN (looM ls 0 8))).set (0 + (cutZ ce (iN (celN (looM ls 0 8)))).toNat) true) 0 == 0)
     (br (!caO (looM ls 0 8) (shuL ls (looK ls 0 8) (celN (looM ls 0 8))) (IntKind.i64.wrap (1 + cutZ fl 8)))
      (some (.inr ([], AV.bool (decide (slZ (looM ls 0 8) ((shuL ls (looK ls 0 8) (celN (looM ls 0 8))).set (0 + (cutZ ce (iN (celN (looM ls 0 8)))).toNat) true) ≤ slZ (looM ls 0 8) (shuL ls (looK ls 0 8) (celN (looM ls 0 8))))))))
      (br (caO (looM ls 0 8) (shuL ls (looK ls 0 8) (celN (looM ls 0 8))) (IntKind.i64.wrap (IntKind.i64.wrap (1 + cutZ fl 8) - 1)))
       (some (.inr ([], AV.bool (decide (slZ (looM ls 0 8) ((shuL ls (looK ls 0 8) (celN (looM ls 0 8))).set (0 + (cutZ ce (iN (celN (looM ls 0 8)))).toNat) true) ≤ slZ (looM ls 0 8) (shuL ls (looK ls 0 8) (celN (looM ls 0 8))))))))
       (some (.inr ([], AV.bool false)))))
     (some (.inr ([], AV.bool false))))
    (some (.inr ([], AV.bool false))))
   (some (.inr ([], AV.bool false))))
  (some (.inr ([], AV.bool false)))
noncomputable def clOStep (ls : List Int) (fl ce : Int) : Empty → Option (Empty ⊕ Ret)
  | x => x.elim
theorem clOEn_ok (ls : List Int) (fl ce : Int) (o : Empty ⊕ Ret) (h : clOEn ls fl ce = some o) : Arr Try.prog Try.f8 0 (clOSt ls fl ce) clOHd (bodyOf Try.f8) [] { n := Try.f8.ntmps, fr := enumF 0 ([lI ls, .int .i64 fl, .int .i64 ce]), hp := ([]) } o :=
 Scr.ok h mix (
 have c0 := kno_c;
 have c1 := loose_ct (ls) (0) (8) (show nat_lit 0 ≤ (5000 : Nat) from (by first | exact Nat.le_of_ble_eq_true rfl | decide)) (show (1 : Int) ≤ (8 : Int) ∧ (8 : Int) ≤ (20 : Int) from ⟨(by first | exact Nat.le_of_ble_eq_true rfl | decide), (by first | exact Nat.le_of_ble_eq_true rfl | decide)⟩);
 .rn 3 [] [] [(21, hK c0 [] []), (27, hK c1 [0] [])] [] (u2 (aj (aj (al (c0)) s2) (ak (aj (u2 (u2 (u2 s2))) (al (u2 (aj (ak (k3 (al (c1)))) (ak (al (k2 n11)))))))))) <|
 .gu fun a0 =>
 have c2 := cells_ct a0;
 .rn 0 [] [] [(29, hK c2 [] [])] [] (al (u2 (aj (ak (aj t9 (al (c2)))) s2))) <|
 .gu fun a1 =>
 .gu fun a2 =>
 have c3 := shut_ct (ls) (looK ls 0 8) (celN (looM ls 0 8)) a1 a2;
 have c4 := cut_ct (fl) (8);
 .rn 1 [] [] [(32, hK c3 [0] []), (34, hK c4 [] [])] [] (aj (u2 (u2 (aj (k5 (al (c3))) s2))) (al (u2 (aj (k3 (al (c4))) (u2 s2))))) <|
 .gu fun a3 =>
 have c5 := car_c (shuL ls (looK ls 0 8) (celN (looM ls 0 8))) (IntKind.i64.wrap (1 + cutZ fl 8)) a3;
 have c6 := car_c (shuL ls (looK ls 0 8) (celN (looM ls 0 8))) (IntKind.i64.wrap (IntKind.i64.wrap (1 + cutZ fl 8) - 1)) a3;
 .rn 1 [] [] [(40, hK c5 [] []), (48, hK c6 [] [])] [] (aj (u2 (u2 (u2 (aj (k3 (aj t9 (k2 (al (c5))))) (u2 (u2 (u2 (u2 s2)))))))) (al (u2 (u2 (u2 (u2 (aj (k3 (aj t9 (k2 (al (c6))))) (u2 (u2 (u2 (u2 s2))))))))))) <|
 .gu fun a4 =>
 .gu fun a5 =>
 .gu fun a6 =>
 .rn 0 [] [] [] [] (al (u2 (aj (ak (aj a4 (aj a5 a6))) s2))) <|
 .gu fun a7 =>
 .gu fun a8 =>
 .gu fun a9 =>
 have c7 := cut_ct (ce) (iN (celN (looM ls 0 8)));
 have c8 := slo_c (shuL ls (looK ls 0 8) (celN (looM ls 0 8))) a3;
 have c9 := slo_c ((shuL ls (looK ls 0 8) (celN (looM ls 0 8))).set (0 + (cutZ ce (iN (celN (looM ls 0 8)))).toNat) true) a3;
 .rn 2 [] [] [(56, hK c7 [] []), (61, hK c8 [] []), (67, hK c9 [] [2])] [] (aj (u2 (u2 (u2 (aj (ak (k3 (al (c7)))) (aj (k2 (aj a7 a8)) (al (ak a9))))))) (aj (u2 (u2 (aj (k2 (aj t9 (ak (al (c8))))) (u2 (u2 (u2 (u2 s2))))))) (al (u2 (u2 (aj (k2 (aj t9 (aj (show (boL (shuL ls (looK ls 0 8) (celN (looM ls 0 8)))).length = ((boL (shuL ls (looK ls 0 8) (celN (looM ls 0 8)))).set (0 + (cutZ ce (iN (celN (looM ls 0 8)))).toNat) (AV.bool true)).length by simp) (aj (show CT Try.prog 29 [] [AV.agg [AV.lst (List.map bA (looM ls 0 8).bs), AV.lst (gL (looM ls 0 8).nx), AV.lst (List.map sA (looM ls 0 8).ss), AV.lst (List.map (iv) (looM ls 0 8).rs), iv (looM ls 0 8).q, iv (looM ls 0 8).a, iv (looM ls 0 8).d, iv (looM ls 0 8).p], AV.lst ((boL (shuL ls (looK ls 0 8) (celN (looM ls 0 8)))).set (0 + (cutZ ce (iN (celN (looM ls 0 8)))).toNat) (AV.bool true))] [] (AV.tup [iv (slZ (looM ls 0 8) ((shuL ls (looK ls 0 8) (celN (looM ls 0 8))).set (0 + (cutZ ce (iN (celN (looM ls 0 8)))).toNat) true)), iv (chE (looM ls 0 8) ((shuL ls (looK ls 0 8) (celN (looM ls 0 8))).set (0 + (cutZ ce (iN (celN (looM ls 0 8)))).toNat) true) 0)]) from CT.eqs (c9) (by first | (simp only [netA,boL, List.map_append, List.map_set, List.map_take, List.map_drop, List.map_replicate, List.nil_append]; done) | (simp only [netA,boL, List.map_append, List.map_set, List.map_take, List.map_drop, List.map_replicate, List.nil_append]; rfl) | (simp [gL, boL, lI, sA, bA]; done) | (simp [gL, boL, lI, sA, bA]; rfl) | (simp only [netA, List.map_append, List.map_set, List.map_cons, List.map_nil]; rfl)) (by first | (simp only [netA,boL, List.map_append, List.map_set, List.map_take, List.map_drop, List.map_replicate, List.nil_append]; done) | (simp only [netA,boL, List.map_append, List.map_set, List.map_take, List.map_drop, List.map_replicate, List.nil_append]; rfl) | (simp [gL, boL, lI, sA, bA]; done) | (simp [gL, boL, lI, sA, bA]; rfl) | (simp only [netA, List.map_append, List.map_set, List.map_cons, List.map_nil]; rfl))) (show ∀ (blk : Blk), blk ∈ [] → ImmB blk from (by intro _ h; cases h)))))) (u2 (u2 (u2 (u2 s2)))))))))) <|
 .br (fun a10 =>
 .br (fun a11 =>
  .br (fun a12 =>
  .br (fun a13 =>
   .br (fun a14 =>
   .rt [145, 153, 161, 169, 175] [] [] [] [] [] (aj (al (u2 (u2 (u2 (ag a10 (ag a10 (ag a10 (u2 (ag a11 (ag a11 (ag a11 (u2 (ag a12 (ag a12 (ag a12 (u2 (ag a13 (ag a13 (ag a13 (aj a14 (aj (aj a13 (aj a14 t2)) (ag a13 (u2 (aj t3 (aj t3 (aj t4 (aj t3 s2))))))))))))))))))))))))))) t2))
   (fun a14 =>
   .br (fun a15 =>
    .rt [145, 153, 161, 169, 174, 183] [] [] [] [] [] (aj (al (u2 (u2 (u2 (ag a10 (ag a10 (ag a10 (u2 (ag a11 (ag a11 (ag a11 (u2 (ag a12 (ag a12 (ag a12 (u2 (ag a13 (ag a13 (ag a13 (ag a14 (aj (aj a13 (aj a14 t2)) (ag a13 (u2 (ag a15 (ag a15 (aj (aj a15 t3) (ag a15 s2))))))))))))))))))))))))))) t2))
   (fun a15 =>
    .rt [145, 153, 161, 169, 174, 182] [] [] [] [] [] (aj (al (u2 (u2 (u2 (ag a10 (ag a10 (ag a10 (u2 (ag a11 (ag a11 (ag a11 (u2 (ag a12 (ag a12 (ag a12 (u2 (ag a13 (ag a13 (ag a13 (ag a14 (aj (aj a13 (aj a14 t2)) (ag a13 (u2 (aj a15 (aj a15 (aj a15 (ag a15 s2))))))))))))))))))))))))))) t2))))
  (fun a13 =>
   .rt [145, 153, 161, 168] [] [] [] [] [] (aj (al (u2 (u2 (u2 (ag a10 (ag a10 (ag a10 (u2 (ag a11 (ag a11 (ag a11 (u2 (ag a12 (ag a12 (ag a12 (u2 (aj a13 (aj a13 (aj a13 (ak (aj a13 (ag a13 (u2 (k3 (aj t3 s2))))))))))))))))))))))))) t2)))
  (fun a12 =>
  .rt [145, 153, 160] [] [] [] [] [] (aj (al (u2 (u2 (u2 (ag a10 (ag a10 (ag a10 (u2 (ag a11 (ag a11 (ag a11 (u2 (aj a12 (aj a12 (ag a12 (u2 (k5 (aj t3 (u2 (k3 (aj t3 s2))))))))))))))))))))) t2)))
 (fun a11 =>
  .rt [145, 152] [] [] [] [] [] (aj (al (u2 (u2 (u2 (ag a10 (ag a10 (ag a10 (u2 (aj a11 (aj a11 (ag a11 (u2 (k2 (aj t3 (u2 (k5 (aj t3 (u2 (k3 (aj t3 s2)))))))))))))))))))) t2)))
 (fun a10 =>
 .rt [144] [] [] [] [] [] (aj (al (u2 (u2 (u2 (aj a10 (aj a10 (ag a10 (u2 (k2 (aj t3 (u2 (k2 (aj t3 (u2 (k5 (aj t3 (u2 (k3 (aj t3 s2))))))))))))))))))) t2))) (by kernel_rfl)
theorem clO_ct (ls : List Int) (fl ce : Int) (r : Ret) (h : MReach (clOStep ls fl ce) (clOEn ls fl ce) r) : CT Try.prog 8 ([]) ([lI ls, .int .i64 fl, .int .i64 ce]) r.1 r.2 :=
  CT.mach (fn := Try.f8) (c := bodyOf Try.f8) (S := clOSt ls fl ce) (hd := clOHd) Try.func8 (by kernel_rfl) (Nat.le_of_ble_eq_true rfl)
    (fun s o ho => match s, ho with
      | x, _ => x.elim)
    (fun o ho => clOEn_ok ls fl ce o ho) h
theorem wth_get {sh : List Bool} {c : Int} {x : Nat} (h : (wth sh c).getD x false = false) : sh.getD x false = false := by
  unfold wth at h
  rw [List.getD_eq_getElem?_getD, List.getElem?_set] at h
  split at h
  · split at h
    · cases h
    · rename_i h1 h2
      rw [List.getD_eq_getElem?_getD, List.getElem?_eq_none (by omega)]; rfl
  · rw [List.getD_eq_getElem?_getD]; exact h
theorem openB_wth {sh : List Bool} {c : Int} {s : SpuD} (h : openB (wth sh c) s = true) : openB sh s = true := by
  unfold openB at h ⊢
  simp only [Bool.and_eq_true, Bool.not_eq_true'] at h ⊢
  obtain ⟨⟨h1, h2⟩, h3⟩ := h
  refine ⟨⟨wth_get h1, wth_get h2⟩, ?_⟩
  rw [fnd_false (fun i a b => wth_get (c := c) ?_)]; rfl
  cases hf : fnd (fun j => (wth sh c).getD (s.b + (j : Int)).toNat false) 0 s.k.toNat with
  | some i => rw [hf] at h3; cases h3
  | none => exact fnd_none hf i a b
theorem opB_wth {n : NetD} {sh : List Bool} {c sp : Int} (h : opB n (wth sh c) sp = true) : opB n sh sp = true := by
  unfold opB at h ⊢
  cases hs : n.ss[sp.toNat]? with
  | none => rw [hs] at h; cases h
  | some s => rw [hs] at h; exact openB_wth h
theorem slI_wth {n : NetD} (hv : ValidN n) (sh : List Bool) (c : Int) : ∀ i, i ≤ n.ss.length → slI n (wth sh c) i ≤ slI n sh i := by
  intro i
  induction i with
  | zero => intro _; exact Int.le_refl _
  | succ i ih =>
    intro hi
    have h1 := ih (by omega)
    have h2 := slT_rng hv sh (i := i) (by omega)
    have h3 : slT n (wth sh c) i ≤ slT n sh i := by
      unfold slT at h2 ⊢
      by_cases h : (n.ss.getD i s0).dep = true ∧ opB n (wth sh c) (i : Int) = true
      · rw [if_pos h, if_pos ⟨h.1, opB_wth h.2⟩]; exact Int.le_refl _
      · rw [if_neg h]; exact h2.1
    show slI n (wth sh c) i + slT n (wth sh c) i ≤ slI n sh i + slT n sh i
    omega
theorem cuZ_rng (v n : Int) (h1 : 1 ≤ n) (h2 : n ≤ 100000) : 0 ≤ cutZ v n ∧ cutZ v n < n := by
  unfold cutZ
  split
  · omega
  · have ha := Int.tmod_lt_of_pos v (show 0 < n by omega)
    have hb := Int.lt_tmod_of_pos v (show 0 < n by omega)
    split
    · rw [wrapS _ (by omega) (by omega)]; omega
    · omega
theorem clO_run (ls : List Int) (fl ce : Int) : CT Try.prog 8 [] [lI ls, .int .i64 fl, .int .i64 ce] [] (.bool true) := by
  refine clO_ct ls fl ce ([], .bool true) (.val ?_)
  have hs := loo_spec (L := ls) (kk := 0) (most := 8) (by omega) (by omega)
  have hce := hs.1.v.cel
  have hnb := hs.1.v.nb24
  have hsh := shu_spec (L := ls) (kk := looK ls 0 8) (c := celN (looM ls 0 8)) (by omega) (by omega)
  have hk := cuZ_rng fl 8 (by omega) (by omega)
  have hc := cuZ_rng ce (iN (celN (looM ls 0 8))) (by simp only [iN]; omega) (by simp only [iN]; omega)
  have hv := hs.1.v
  have hrw := hs.1.rows
  unfold clOEn
  rw [gu_t hv, gu_t (by omega), gu_t (by omega), gu_t hrw]
  generalize shuL ls (looK ls 0 8) (celN (looM ls 0 8)) = sh at *
  generalize looM ls 0 8 = n at *
  generalize cutZ ce (iN (celN n)) = c at *
  generalize cutZ fl 8 = k at *
  have hl := hsh.1
  have hL := boL_len sh
  simp only [iN] at hc
  have w1 : IntKind.i64.wrap (1 + k) = 1 + k := wrap_in (by omega) (by omega)
  have w2 : IntKind.i64.wrap (1 + k - 1) = k := by rw [wrap_in (by omega) (by omega)]; omega
  rw [gu_t (bo_one sh), gu_t (by omega), gu_t (by omega), gu_t hc.1, gu_t (by rw [hL]; simp only [iN]; omega), gu_t (show Nat.le _ _ from (show 0 + c.toNat + 1 ≤ (boL sh).length by omega)), w1, w2, Nat.zero_add]
  have hw : sh.set c.toNat true = wth sh c := rfl
  have hwl : (wth sh c).length = celN n := by rw [wth_len]; exact hl
  have e1 := chE_zero hv hl (fl := 1 + k) (by omega)
  have e2 := chE_zero hv hl (fl := k) (by omega)
  have e3 := chE_zero hv hl (fl := 0) (by omega)
  have e4 := chE_zero hv hwl (fl := 0) (by omega)
  have hsl : decide (slZ n (wth sh c) ≤ slZ n sh) = true := by
    rw [slZ_ok hv hl, slZ_ok hv hwl]
    exact dec_t (slI_wth hv sh c _ (Nat.le_refl _))
  rw [hw, e1, e2, e3, e4, br_t (by rfl), br_t (by rfl), br_t (by rfl), br_t (by rfl), hsl]
  have a1 : caO n sh (1 + k) = caB n sh (1 + k) := by unfold caO; rw [if_pos e1]
  have a2 : caO n sh k = caB n sh k := by unfold caO; rw [if_pos e2]
  rw [a1, a2]
  cases h : caB n sh (1 + k) with
  | false => rfl
  | true =>
    have : caB n sh k = true := by
      unfold caB at h ⊢
      simp only [Bool.and_eq_true, decide_eq_true_eq] at h ⊢
      exact ⟨h.1, by omega⟩
    rw [this]; rfl
theorem closureMonotone_row (avs : List AV) (h : ShVs Try.prog 6 Try.f8.params.toList avs) : CT Try.prog 8 [] avs [] (.bool true) := by
  rw [Try.params8] at h
  obtain ⟨a, _, rfl, ka, h⟩ := h.consD
  obtain ⟨b, _, rfl, kb, h⟩ := h.consD
  obtain ⟨c, _, rfl, kc, h⟩ := h.consD
  obtain rfl := h.nilD
  obtain ⟨_, _, he, rfl⟩ := ka.sliceD Try.underlying22
  obtain ⟨l, rfl⟩ := rdInts he
  obtain ⟨x, _, rfl⟩ := kb.intD Try.underlying3
  obtain ⟨y, _, rfl⟩ := kc.intD Try.underlying3
  exact clO_run l x y
end Go.Proofs.Ytlogjpmajgbgaaa

/- Parts of the proof: Ce2m, CeC, Ce3m, CeD, Da1m, DaA, Da2m, DaB, Da3m, DaC, Da4m, DaD, Da5m, Da6m, DaE, Da7m, DaF, Db3m, Db2m, Db1m, DbA, DbB, DbC, DbD, DbE, DbF. -/
import Derived.Test.YtlogjpmajgbgaaaDoorProg
import Derived.KernelRfl
import Derived.Test.YtlogjpmajgbgaaaDoorCellsFindsCardM6
open Go Go.AX Go.Proofs
set_option maxRecDepth 100000
set_option maxHeartbeats 4000000
set_option linter.unusedVariables false
set_option linter.unusedSimpArgs false
namespace Go.Proofs.YtlogjpmajgbgaaaDoor
inductive cnxPc where
  | l0 (v0 : List Int) (v1 : Int)
noncomputable def cnxSt (n : NetD) (c : Int) : cnxPc → St
  | .l0 v0 v1 => St.mk 68 [(1, iv c), (9, AV.sl 0 0 v0.length), (51, AV.lst (List.map sA n.ss)), (52, iv (iN (List.map sA n.ss).length)), (53, iv v1)] [some (Blk.mk (List.map (iv) v0) 1 true true none)]
def cnxHd : cnxPc → Nat
  | .l0 _ _ => 0
noncomputable def cnxEn (n : NetD) (c : Int) : Option (cnxPc ⊕ Ret) :=
  gu (Rows n.nx) <|
  br (ckE n c != 0)
  (some (.inr ([], AV.tup [AV.nils, AV.int IntKind.i64 (ckE n c)])))
  (gu (ValidN n) <|
   gu (-1000 ≤ c ∧ c ≤ 1000) <|
   br (decide (0 ≤ plI n c))
   (gu (0 ≤ plI n c) <|
    el (n.ss) ((plI n c).toNat) fun (x30 : SpuD) =>
    br (decide (plJ n c < x30.k))
    (some (.inr ([], AV.tup [AV.lst [AV.int IntKind.i64 (IntKind.i64.wrap (c + 1))], AV.int IntKind.i64 0])))
    (el (n.ss) ((plI n c).toNat) fun (x40 : SpuD) =>
     some (.inr ([], AV.tup [AV.lst [AV.int IntKind.i64 x40.o], AV.int IntKind.i64 0]))))
   (gu (0 ≤ c) <|
    el (n.nx) (c.toNat) fun (x47 : List Int) =>
    gu (∀ (e : AV), e ∈ List.map (AV.int IntKind.i64) x47 → e.cells.length = 1) <|
    gu ((List.map (AV.int IntKind.i64) x47).length ≤ 9223372036854775807) <|
    gu ((List.map (AV.int IntKind.i64) x47).length * 8 ≤ 140737488355328) <|
    some (.inl (.l0 (x47) ((0 : Int))))))
noncomputable def cnxS0 (n : NetD) (c : Int) (v0 : List Int) (v1 : Int) : Option (cnxPc ⊕ Ret) :=
  br (decide (v1 < iN (List.map sA n.ss).length))
  (gu (0 ≤ v1) <|
   el (n.ss) (v1.toNat) fun (x55 : SpuD) =>
   br (x55.i == c)
   (gu ((List.map (AV.int IntKind.i64) v0).length + [AV.int IntKind.i64 x55.b].length ≤ 9223372036854775807) <|
    gu (((List.map (AV.int IntKind.i64) v0).length + [AV.int IntKind.i64 x55.b].length) * 8 ≤ 140737488355328) <|
    some (.inl (.l0 (v0 ++ [x55.b]) (IntKind.i64.wrap (v1 + 1)))))
   (some (.inl (.l0 (v0) (IntKind.i64.wrap (v1 + 1))))))
  (some (.inr ([], AV.tup [AV.lst (List.map (AV.int IntKind.i64) v0), AV.int IntKind.i64 0])))
noncomputable def cnxStep (n : NetD) (c : Int) : cnxPc → Option (cnxPc ⊕ Ret)
  | .l0 v0 v1 => cnxS0 n c v0 v1
theorem cnxEn_ok (n : NetD) (c : Int) (o : cnxPc ⊕ Ret) (h : cnxEn n c = some o) : Arr Tryd.prog Tryd.f11 0 (cnxSt n c) cnxHd (bodyOf Tryd.f11) [] { n := Tryd.f11.ntmps, fr := enumF 0 ([netA n, .int .i64 c]), hp := ([]) } o :=
 Scr.ok h mix (
 .rn 0 [] [] [] [] (al (u2 t3)) <|
 .gu fun a0 =>
 have c0 := ck_c (n) (c) a0;
 .rn 1 [] [] [(14, hK c0 [] [])] [] (aj (u2 (u2 (aj (k2 (aj t9 (ak (al (c0))))) s2))) (al (u2 s2))) <|
 .br (fun a1 =>
 .rt [33] [] [] [] [] [] (aj (aj a1 (al (u2 (ak s2)))) (al t3)))
 (fun a1 =>
 .gu fun a2 =>
 .gu fun a3 =>
 have c1 := place_ct a2 (c) a3;
 .rn 1 [32] [] [(21, hK c1 [] [])] [] (aj a1 (aj (u2 (u2 (aj (k2 (aj t9 (ak (al (c1))))) (u2 (u2 (u2 (u2 s2))))))) (al (u2 s2)))) <|
 .br (fun a4 =>
  .gu fun a5 =>
  .el fun x30 a6 =>
  .rn 0 [51] [(30, sA x30)] [] [] (aj a4 (al (u2 (u2 (u2 (u2 (aj (k2 (aj a5 (getMap (f := sA) a6))) (u2 (u2 (al t3)))))))))) <|
  .br (fun a7 =>
  .rt [67] [] [] [] [] [1] (aj (aj a7 (al (u2 (u2 (u2 (u2 t2)))))) (al (aj (show 1 = [iv (IntKind.i64.wrap (c + 1))].length by simp) t2))))
  (fun a7 =>
  .el fun x40 a8 =>
  .rt [66] [(40, sA x40)] [] [] [] [1] (aj (aj a7 (al (u2 (u2 (u2 (aj (k2 (aj a5 (getMap (f := sA) a8))) (u2 (u2 (u2 (u2 t2)))))))))) (al (aj (show 1 = [iv x40.o].length by simp) t2)))))
 (fun a4 =>
  .gu fun a5 =>
  .el fun x47 a6 =>
  .gu fun a7 =>
  .gu fun a8 =>
  .gu fun a9 =>
  .lq [50] [(47, lI x47)] [] [] [] [1] [1, 9, 51, 52, 53] (up [(9, AV.sl 0 0 (List.map (iv) x47).length)] [] (cnxSt n c (.l0 (x47) ((0 : Int))))) (aj (aj a4 (aj (u2 (u2 (u2 (aj (k2 (aj a5 (getMap (f := lI) a6))) (u2 (aj (ak (aj a7 (aj a8 a9))) s2)))))) (al (u2 (u2 (u2 t2)))))) t7) (by simp [up, upF, upV, upH, upB, cnxSt, gL, boL, lI, sA, bA])))) (by kernel_rfl)
theorem cnxS0_ok (n : NetD) (c : Int) (v0 : List Int) (v1 : Int) (o : cnxPc ⊕ Ret) (h : cnxS0 n c v0 v1 = some o) : Arr Tryd.prog Tryd.f11 0 (cnxSt n c) cnxHd (headC Tryd.f11 0) (.rnd (headC Tryd.f11 0) :: headK Tryd.f11 0) (cnxSt n c (.l0 v0 v1)) o :=
 Scr.ok h mix (
 .rn 0 [] [] [] [] (al (al t3)) <|
 .br (fun a0 =>
 .gu fun a1 =>
 .el fun x55 a2 =>
 .rn 1 [109] [(55, sA x55)] [] [] (aj a0 (aj (aj (k2 (aj a1 (getMap (f := sA) a2))) (u2 (ak (al (k2 n11))))) (al (u2 (u2 (u2 (al t3))))))) <|
 .br (fun a3 =>
  .gu fun a4 =>
  .gu fun a5 =>
  .lq [121] [] [] [] [] [3] [1, 9, 51, 52, 53] (up [(9, AV.sl 0 0 ((List.map (iv) v0).length + [iv x55.b].length))] [(0, List.map (iv) v0 ++ [iv x55.b])] (cnxSt n c (.l0 (v0 ++ [x55.b]) (IntKind.i64.wrap (v1 + 1))))) (aj (aj a3 (aj (u2 (u2 (u2 (u2 (aj (k2 (aj (show (List.map (iv) v0).length = v0.length by simp) (aj (aj (show nat_lit 1 = nat_lit 1 from rfl) (show 1 ≤ [iv x55.b].length by simp)) (aj a4 a5)))) s2))))) (al (u2 s2)))) t7) (by simp [up, upF, upV, upH, upB, cnxSt, gL, boL, lI, sA, bA]))
 (fun a3 =>
  .lp [120] [] [] [] [] [0] [1, 9, 51, 52, 53] (aj (aj a3 (al (u2 s2))) t7)))
 (fun a0 =>
 .rt [108] [] [] [] [] [0] (aj (aj a0 (al (u2 (u2 t2)))) (al (aj (show v0.length = (List.map (iv) v0).length by simp) t2))))) (by kernel_rfl)
theorem cnx_ct (n : NetD) (c : Int) (r : Ret) (h : MReach (cnxStep n c) (cnxEn n c) r) : CT Tryd.prog 11 ([]) ([netA n, .int .i64 c]) r.1 r.2 :=
  CT.mach (fn := Tryd.f11) (c := bodyOf Tryd.f11) (S := cnxSt n c) (hd := cnxHd) Tryd.func11 (by kernel_rfl) (Nat.le_of_ble_eq_true rfl)
    (fun s o ho => match s, ho with
      | .l0 v0 v1, ho => cnxS0_ok n c v0 v1 o ho
    )
    (fun o ho => cnxEn_ok n c o ho) h
inductive rnxPc where
  | l0 (v0 : List Int) (v1 : Int)
noncomputable def rnxSt (n : NetD) (c : Int) : rnxPc → St
  | .l0 v0 v1 => St.mk 63 [(1, iv c), (2, AV.ptr 0 0 0), (7, AV.sl 1 0 v0.length), (8, iv v1)] [some (Blk.mk [netA n] 8 true true none), some (Blk.mk (List.map (iv) v0) 1 true true none)]
def rnxHd : rnxPc → Nat
  | .l0 _ _ => 0
noncomputable def rnxEn (n : NetD) (c : Int) : Option (rnxPc ⊕ Ret) :=
  gu (ValidN n) <|
  gu (-1000 ≤ c ∧ c ≤ 1000) <|
  br (decide (0 ≤ plI n c))
  (gu (0 ≤ plI n c ∧ plI n c < iN n.ss.length) <|
   br (c == headS (n.ss.getD (plI n c).toNat s0))
   (gu (0 ≤ plI n c) <|
    el (n.ss) ((plI n c).toNat) fun (x25 : SpuD) =>
    some (.inr ([], AV.lst [AV.int IntKind.i64 x25.o])))
   (some (.inr ([], AV.lst [AV.int IntKind.i64 (IntKind.i64.wrap (c + 1))]))))
  (gu (0 ≤ c) <|
   el (n.nx) (c.toNat) fun (x35 : List Int) =>
   gu (∀ (e : AV), e ∈ List.map (AV.int IntKind.i64) x35 → e.cells.length = 1) <|
   gu ((List.map (AV.int IntKind.i64) x35).length ≤ 9223372036854775807) <|
   gu ((List.map (AV.int IntKind.i64) x35).length * 8 ≤ 140737488355328) <|
   some (.inl (.l0 (x35) ((0 : Int)))))
noncomputable def rnxS0 (n : NetD) (c : Int) (v0 : List Int) (v1 : Int) : Option (rnxPc ⊕ Ret) :=
  br (decide (v1 < iN (List.map sA n.ss).length))
  (gu (0 ≤ v1) <|
   el (n.ss) (v1.toNat) fun (x48 : SpuD) =>
   br (x48.i == c)
   (el (n.ss) (v1.toNat) fun (x57 : SpuD) =>
    gu ((List.map (AV.int IntKind.i64) v0).length + [AV.int IntKind.i64 x57.b].length ≤ 9223372036854775807) <|
    gu (((List.map (AV.int IntKind.i64) v0).length + [AV.int IntKind.i64 x57.b].length) * 8 ≤ 140737488355328) <|
    some (.inl (.l0 (v0 ++ [x57.b]) (IntKind.i64.wrap (v1 + 1)))))
   (some (.inl (.l0 (v0) (IntKind.i64.wrap (v1 + 1))))))
  (some (.inr ([], AV.lst (List.map (AV.int IntKind.i64) v0))))
noncomputable def rnxStep (n : NetD) (c : Int) : rnxPc → Option (rnxPc ⊕ Ret)
  | .l0 v0 v1 => rnxS0 n c v0 v1
theorem rnxEn_ok (n : NetD) (c : Int) (o : rnxPc ⊕ Ret) (h : rnxEn n c = some o) : Arr Tryd.prog Tryd.f41 0 (rnxSt n c) rnxHd (bodyOf Tryd.f41) [] { n := Tryd.f41.ntmps, fr := enumF 0 ([netA n, .int .i64 c]), hp := ([]) } o :=
 Scr.ok h mix (
 .rn 0 [] [] [] [] (al (u2 t2)) <|
 .gu fun a0 =>
 .gu fun a1 =>
 have c0 := rplace_ct a0 (c) a1;
 .rn 1 [] [] [(12, hK c0 [] [])] [] (aj (u2 (u2 (aj (k2 (aj t9 (ak (al (c0))))) (u2 (u2 (u2 (u2 s2))))))) (al (u2 s2))) <|
 .br (fun a2 =>
 .gu fun a3 =>
 have c1 := hd_c (n) (plI n c) a0 a3;
 .rn 0 [33] [] [(20, hK c1 [] [])] [] (aj a2 (al (u2 (u2 (u2 (aj (k2 (aj t9 (ak (al (c1))))) (al t3))))))) <|
 .br (fun a4 =>
  .gu fun a5 =>
  .el fun x25 a6 =>
  .rt [43] [(25, sA x25)] [] [] [] [1] (aj (aj a4 (al (u2 (u2 (u2 (aj (k2 (aj a5 (getMap (f := sA) a6))) (u2 (u2 (u2 s2))))))))) (al (show 1 = [iv x25.o].length by simp))))
 (fun a4 =>
  .rt [42] [] [] [] [] [1] (aj (aj a4 (al (u2 (u2 (u2 s2))))) (al (show 1 = [iv (IntKind.i64.wrap (c + 1))].length by simp)))))
 (fun a2 =>
 .gu fun a3 =>
 .el fun x35 a4 =>
 .gu fun a5 =>
 .gu fun a6 =>
 .gu fun a7 =>
 .lq [32] [(35, lI x35)] [] [] [] [0, 1] [1, 2, 7, 8] (up [(7, AV.sl 1 0 (List.map (iv) x35).length)] [] (rnxSt n c (.l0 (x35) ((0 : Int))))) (aj (aj a2 (aj (u2 (u2 (u2 (aj (k2 (aj a3 (getMap (f := lI) a4))) (u2 (aj (ak (aj a5 (aj a6 a7))) s2)))))) s2)) t7) (by simp [up, upF, upV, upH, upB, rnxSt, gL, boL, lI, sA, bA]))) (by kernel_rfl)
theorem rnxS0_ok (n : NetD) (c : Int) (v0 : List Int) (v1 : Int) (o : rnxPc ⊕ Ret) (h : rnxS0 n c v0 v1 = some o) : Arr Tryd.prog Tryd.f41 0 (rnxSt n c) rnxHd (headC Tryd.f41 0) (.rnd (headC Tryd.f41 0) :: headK Tryd.f41 0) (rnxSt n c (.l0 v0 v1)) o :=
 Scr.ok h mix (
 .rn 0 [] [] [] [] (al (u2 (u2 (u2 (u2 (al t3)))))) <|
 .br (fun a0 =>
 .gu fun a1 =>
 .el fun x48 a2 =>
 .rn 0 [85] [(48, sA x48)] [] [] (aj a0 (al (u2 (u2 (u2 (aj (k2 (aj a1 (getMap (f := sA) a2))) (u2 (u2 (u2 (al t3)))))))))) <|
 .br (fun a3 =>
  .el fun x57 a4 =>
  .gu fun a5 =>
  .gu fun a6 =>
  .lq [105] [(57, sA x57)] [] [] [] [0, 3] [1, 2, 7, 8] (up [(7, AV.sl 1 0 ((List.map (iv) v0).length + [iv x57.b].length))] [(1, List.map (iv) v0 ++ [iv x57.b])] (rnxSt n c (.l0 (v0 ++ [x57.b]) (IntKind.i64.wrap (v1 + 1))))) (aj (aj a3 (aj (u2 (u2 (u2 (u2 (aj (k2 (aj a1 (getMap (f := sA) a4))) (u2 (u2 (u2 (aj (k2 (aj (show (List.map (iv) v0).length = v0.length by simp) (aj (aj (show nat_lit 1 = nat_lit 1 from rfl) (show 1 ≤ [iv x57.b].length by simp)) (aj a5 a6)))) s2))))))))) (al (u2 (u2 s2))))) t7) (by simp [up, upF, upV, upH, upB, rnxSt, gL, boL, lI, sA, bA]))
 (fun a3 =>
  .lp [104] [] [] [] [] [0, 1] [1, 2, 7, 8] (aj (aj a3 (al (u2 (u2 s2)))) t7)))
 (fun a0 =>
 .rt [84] [] [] [] [] [1] (aj (aj a0 (al (u2 s2))) (al (show v0.length = (List.map (iv) v0).length by simp))))) (by kernel_rfl)
theorem rnx_ct (n : NetD) (c : Int) (r : Ret) (h : MReach (rnxStep n c) (rnxEn n c) r) : CT Tryd.prog 41 ([]) ([netA n, .int .i64 c]) r.1 r.2 :=
  CT.mach (fn := Tryd.f41) (c := bodyOf Tryd.f41) (S := rnxSt n c) (hd := rnxHd) Tryd.func41 (by kernel_rfl) (Nat.le_of_ble_eq_true rfl)
    (fun s o ho => match s, ho with
      | .l0 v0 v1, ho => rnxS0_ok n c v0 v1 o ho
    )
    (fun o ho => rnxEn_ok n c o ho) h
end Go.Proofs.YtlogjpmajgbgaaaDoor
namespace Go.Proofs.YtlogjpmajgbgaaaDoor
noncomputable def nxS (n : NetD) (c : Int) (i : Nat) : List Int := n.nx.getD c.toNat [] ++ ((n.ss.take i).filter fun s => s.i == c).map fun s => s.b
theorem nxS_step {n : NetD} {c : Int} {i : Nat} (hi : i < n.ss.length) : nxS n c (i + 1) = if ((n.ss.getD i s0).i == c) = true then nxS n c i ++ [(n.ss.getD i s0).b] else nxS n c i := by
  unfold nxS
  rw [List.take_add_one, getE s0 hi, Option.toList_some, List.filter_append, List.map_append]
  by_cases h : ((n.ss.getD i s0).i == c) = true
  · rw [if_pos h, List.filter_cons, if_pos h, ← List.append_assoc]; rfl
  · rw [if_neg h, List.filter_cons, if_neg h]; simp
theorem nxS_len {n : NetD} (hrw : Rows n.nx) (hv : ValidN n) {c : Int} (h0 : 0 ≤ c) (h1 : c < (n.bs.length : Int)) (i : Nat) : (nxS n c i).length ≤ 100 := by
  have h2 := (hv.lanes hrw (show c.toNat < n.bs.length by omega)).2
  have h3 := List.length_filter_le (fun s : SpuD => s.i == c) (n.ss.take i)
  have h4 : (n.ss.take i).length ≤ n.ss.length := by rw [List.length_take]; omega
  have ns := hv.ns
  unfold nxS
  rw [List.length_append, List.length_map]; omega
theorem nxS_all {n : NetD} {c : Int} (h : plF n c = none) : nxS n c n.ss.length = nxtL n c := by
  unfold nxS nxtL; rw [h, List.take_length]
theorem plI_some {n : NetD} {c : Int} {i : Nat} (h : plF n c = some i) : plI n c = (i : Int) ∧ plJ n c = c - (n.ss.getD i s0).b + 1 := by
  unfold plI plJ; rw [h]; exact ⟨rfl, rfl⟩
theorem plI_none {n : NetD} {c : Int} (h : plF n c = none) : plI n c = -1 := by unfold plI; rw [h]
theorem cnext_c (n : NetD) (c : Int) (hrw : Rows n.nx) : CT Tryd.prog 11 [] [netA n, .int .i64 c] [] (.tup [lI (nxO n c), .int .i64 (ckE n c)]) := by
  unfold nxO
  by_cases h : ckE n c = 0
  · obtain ⟨hv, h0, h1⟩ := ckE_ok h
    have hce := hv.cel
    rw [if_pos h, h]
    refine cnx_ct n c ([], _) ?_
    unfold cnxEn
    rw [gu_t hrw, br_f (by rw [h]; rfl), gu_t hv, gu_t (by omega)]
    cases hp : plF n c with
    | some i =>
      obtain ⟨s, hs, hg, g1, g2, hl⟩ := plF_some hp
      obtain ⟨e1, e2⟩ := plI_some hp
      unfold nxtL
      rw [hp, e1, e2]
      simp only [hg]
      rw [br_t (dec_t (by omega)), gu_t (by omega), Int.toNat_natCast, el_t hs]
      unfold headS
      by_cases hh : c = s.b + s.k - 1
      · rw [br_f (dec_f (by omega)), el_t hs, if_pos hh]; exact .ret _
      · rw [br_t (dec_t (by omega)), if_neg hh, wrap_in (by omega) (by omega)]; exact .ret _
    | none =>
      have hb := plF_block hv h0 h1 hp
      have hnl := hv.nx
      have hrl := (hv.lanes hrw (show c.toNat < n.bs.length by omega)).2
      rw [plI_none hp, br_f (by rfl), gu_t h0, el_t (getE [] (show c.toNat < n.nx.length by omega)), gu_t (fun e he => by obtain ⟨x, _, rfl⟩ := List.mem_map.1 he; rfl), gu_t (by simp only [List.length_map]; omega), gu_t (by simp only [List.length_map]; omega), ← nxS_all hp]
      have e0 : n.nx.getD c.toNat [] = nxS n c 0 := by unfold nxS; simp
      rw [e0]
      refine loop_up (fun i => cnxPc.l0 (nxS n c i) (i : Int)) n.ss.length (fun i hi h => ?_) ?_
      · refine .to (show cnxS0 n c (nxS n c i) i = _ from ?_) h
        have hsl := nxS_len hrw hv h0 hb i
        have ns := hv.ns
        unfold cnxS0
        rw [rngG s0 hi, nxS_step hi, wrap_nat i (by omega)]
        by_cases hc : ((n.ss.getD i s0).i == c) = true
        · rw [br_t hc, if_pos hc, gu_t (by simp only [List.length_map, List.length_singleton]; omega), gu_t (by simp only [List.length_map, List.length_singleton]; omega)]
        · rw [br_f (Bool.eq_false_iff.2 hc), if_neg hc]
      · refine .to (show cnxS0 n c _ n.ss.length = _ from ?_) (.ret _)
        unfold cnxS0
        rw [rngE]; rfl
  · rw [if_neg h]
    exact (cnx_ct n c ([], _) (.val (show cnxEn n c = _ by unfold cnxEn; rw [gu_t hrw, br_t (bne_iff_ne.2 h)]))).to rfl rfl
theorem rnext_c (n : NetD) (c : Int) (hrw : Rows n.nx) (hk : ckE n c = 0) : CT Tryd.prog 41 [] [netA n, .int .i64 c] [] (lI (nxtL n c)) := by
  obtain ⟨hv, h0, h1⟩ := ckE_ok hk
  have hce := hv.cel
  refine rnx_ct n c ([], _) ?_
  unfold rnxEn
  rw [gu_t hv, gu_t (by omega)]
  cases hp : plF n c with
  | some i =>
    obtain ⟨s, hs, hg, g1, g2, hl⟩ := plF_some hp
    obtain ⟨e1, e2⟩ := plI_some hp
    unfold nxtL
    rw [hp, e1]
    simp only [hg]
    rw [br_t (dec_t (by omega)), gu_t ⟨by omega, by simp only [iN]; omega⟩, Int.toNat_natCast, hg]
    by_cases hh : c = headS s
    · rw [br_t (beq_iff_eq.2 hh), gu_t (by omega), el_t hs, if_pos hh]; exact .ret _
    · rw [br_f (beq_eq_false_iff_ne.2 hh), if_neg hh, wrap_in (by omega) (by omega)]; exact .ret _
  | none =>
    have hb := plF_block hv h0 h1 hp
    have hnl := hv.nx
    have hrl := (hv.lanes hrw (show c.toNat < n.bs.length by omega)).2
    rw [plI_none hp, br_f (by rfl), gu_t h0, el_t (getE [] (show c.toNat < n.nx.length by omega)), gu_t (fun e he => by obtain ⟨x, _, rfl⟩ := List.mem_map.1 he; rfl), gu_t (by simp only [List.length_map]; omega), gu_t (by simp only [List.length_map]; omega), ← nxS_all hp]
    have e0 : n.nx.getD c.toNat [] = nxS n c 0 := by unfold nxS; simp
    rw [e0]
    refine loop_up (fun i => rnxPc.l0 (nxS n c i) (i : Int)) n.ss.length (fun i hi h => ?_) ?_
    · refine .to (show rnxS0 n c (nxS n c i) i = _ from ?_) h
      have hsl := nxS_len hrw hv h0 hb i
      have ns := hv.ns
      unfold rnxS0
      rw [rngG s0 hi, nxS_step hi, wrap_nat i (by omega)]
      by_cases hc : ((n.ss.getD i s0).i == c) = true
      · rw [br_t hc, if_pos hc, elG s0 hi, gu_t (by simp only [List.length_map, List.length_singleton]; omega), gu_t (by simp only [List.length_map, List.length_singleton]; omega)]
      · rw [br_f (Bool.eq_false_iff.2 hc), if_neg hc]
    · refine .to (show rnxS0 n c _ n.ss.length = _ from ?_) (.ret _)
      unfold rnxS0
      rw [rngE]
inductive folPc where
  | l0 (v0 : Int)
noncomputable def folSt (n : NetD) (q w : Int) : folPc → St
  | .l0 v0 => St.mk 27 [(2, iv w), (17, AV.lst (List.map (iv) (nxO n q))), (18, iv (iN (List.map (iv) (nxO n q)).length)), (19, iv v0)] []
def folHd : folPc → Nat
  | .l0 _ => 0
noncomputable def folEn (n : NetD) (q w : Int) : Option (folPc ⊕ Ret) :=
  gu (Rows n.nx) <|
  some (.inl (.l0 ((0 : Int))))
noncomputable def folS0 (n : NetD) (q w : Int) (v0 : Int) : Option (folPc ⊕ Ret) :=
  br (decide (v0 < iN (List.map (AV.int IntKind.i64) (nxO n q)).length))
  (gu (0 ≤ v0) <|
   el (nxO n q) (v0.toNat) fun (x21 : Int) =>
   br (x21 == w)
   (some (.inr ([], AV.bool true)))
   (some (.inl (.l0 (IntKind.i64.wrap (v0 + 1))))))
  (some (.inr ([], AV.bool false)))
noncomputable def folStep (n : NetD) (q w : Int) : folPc → Option (folPc ⊕ Ret)
  | .l0 v0 => folS0 n q w v0
theorem folEn_ok (n : NetD) (q w : Int) (o : folPc ⊕ Ret) (h : folEn n q w = some o) : Arr Tryd.prog Tryd.f12 0 (folSt n q w) folHd (bodyOf Tryd.f12) [] { n := Tryd.f12.ntmps, fr := enumF 0 ([netA n, .int .i64 q, .int .i64 w]), hp := ([]) } o :=
 Scr.ok h mix (
 .rn 0 [] [] [] [] (al (u2 t2)) <|
 .gu fun a0 =>
 have c0 := cnext_c (n) (q) a0;
 .lp [] [] [(14, hK c0 [] [])] [] [] [] [2, 17, 18, 19] (aj (aj (u2 (u2 (aj (k2 (aj t9 (ak (al (c0))))) (u2 (u2 (u2 (u2 s2))))))) (al (u2 (u2 t2)))) t5)) (by kernel_rfl)
theorem folS0_ok (n : NetD) (q w : Int) (v0 : Int) (o : folPc ⊕ Ret) (h : folS0 n q w v0 = some o) : Arr Tryd.prog Tryd.f12 0 (folSt n q w) folHd (headC Tryd.f12 0) (.rnd (headC Tryd.f12 0) :: headK Tryd.f12 0) (folSt n q w (.l0 v0)) o :=
 Scr.ok h mix (
 .rn 0 [] [] [] [] (al (al t3)) <|
 .br (fun a0 =>
 .gu fun a1 =>
 .el fun x21 a2 =>
 .rn 1 [41] [(21, iv x21)] [] [] (aj a0 (aj (aj (k2 (aj a1 (getMap (f := iv) a2))) (u2 s2)) (al (u2 (u2 (al t3)))))) <|
 .br (fun a3 =>
  .rt [51] [] [] [] [] [] (aj (aj a3 s2) t2))
 (fun a3 =>
  .lp [50] [] [] [] [] [] [2, 17, 18, 19] (aj (aj a3 (al (u2 s2))) t5)))
 (fun a0 =>
 .rt [40] [] [] [] [] [] (aj (aj a0 s2) t2))) (by kernel_rfl)
theorem fol_ct (n : NetD) (q w : Int) (r : Ret) (h : MReach (folStep n q w) (folEn n q w) r) : CT Tryd.prog 12 ([]) ([netA n, .int .i64 q, .int .i64 w]) r.1 r.2 :=
  CT.mach (fn := Tryd.f12) (c := bodyOf Tryd.f12) (S := folSt n q w) (hd := folHd) Tryd.func12 (by kernel_rfl) (Nat.le_of_ble_eq_true rfl)
    (fun s o ho => match s, ho with
      | .l0 v0, ho => folS0_ok n q w v0 o ho
    )
    (fun o ho => folEn_ok n q w o ho) h
noncomputable def rfoSt (n : NetD) (q w : Int) : Empty → St
  | x => x.elim
def rfoHd : Empty → Nat
  | x => x.elim
noncomputable def rfoEn (n : NetD) (q w : Int) : Option (Empty ⊕ Ret) :=
  gu (Rows n.nx) <|
  br (ckE n q == 0)
  (br (ckE n w == 0)
   (gu (ckE n q = 0) <|
    gu ((nxtL n q).length ≤ 1000000) <|
    some (.inr ([], AV.bool (hasZ (nxtL n q) w))))
   (some (.inr ([], AV.bool false))))
  (some (.inr ([], AV.bool false)))
noncomputable def rfoStep (n : NetD) (q w : Int) : Empty → Option (Empty ⊕ Ret)
  | x => x.elim
theorem rfoEn_ok (n : NetD) (q w : Int) (o : Empty ⊕ Ret) (h : rfoEn n q w = some o) : Arr Tryd.prog Tryd.f25 0 (rfoSt n q w) rfoHd (bodyOf Tryd.f25) [] { n := Tryd.f25.ntmps, fr := enumF 0 ([netA n, .int .i64 q, .int .i64 w]), hp := ([]) } o :=
 Scr.ok h mix (
 .rn 0 [] [] [] [] (al (u2 t2)) <|
 .gu fun a0 =>
 .br (fun a1 =>
 .br (fun a2 =>
  .gu fun a3 =>
  .gu fun a4 =>
  have c0 := rck_c (n) (q) a0;
  have c1 := rck_c (n) (w) a0;
  have c2 := rnext_c (n) (q) a0 a3;
  have c3 := has_ct (nxtL n q) (w) a4;
  .rt [23, 35] [] [(9, hK c0 [] []), (14, hK c1 [] []), (20, hK c2 [] []), (22, hK c3 [] [])] [] [] [] (aj (al (u2 (u2 (aj (k2 (aj t9 (ak (al (c0))))) (u2 (u2 (ag a1 (ag a1 (aj (aj a1 (k2 (aj t9 (ak (al (c1)))))) (ag a1 (ag a1 (u2 (ag a2 (ag a2 (aj (aj a2 (k2 (aj t9 (ak (al (c2)))))) (ag a2 (aj (aj a2 (ak (k3 (al (c3))))) (ag a2 s2)))))))))))))))))) t2))
 (fun a2 =>
  have c0 := rck_c (n) (q) a0;
  have c1 := rck_c (n) (w) a0;
  .rt [23, 34] [] [(9, hK c0 [] []), (14, hK c1 [] [])] [] [] [] (aj (al (u2 (u2 (aj (k2 (aj t9 (ak (al (c0))))) (u2 (u2 (ag a1 (ag a1 (aj (aj a1 (k2 (aj t9 (ak (al (c1)))))) (ag a1 (ag a1 (u2 (aj a2 (aj a2 (aj a2 (aj a2 (aj a2 (ag a2 s2)))))))))))))))))) t2)))
 (fun a1 =>
 have c0 := rck_c (n) (q) a0;
 .rt [22] [] [(9, hK c0 [] [])] [] [] [] (aj (al (u2 (u2 (aj (k2 (aj t9 (ak (al (c0))))) (u2 (u2 (aj a1 (aj a1 (aj a1 (aj a1 (ag a1 (u2 (k5 (aj t3 s2)))))))))))))) t2))) (by kernel_rfl)
theorem rfo_ct (n : NetD) (q w : Int) (r : Ret) (h : MReach (rfoStep n q w) (rfoEn n q w) r) : CT Tryd.prog 25 ([]) ([netA n, .int .i64 q, .int .i64 w]) r.1 r.2 :=
  CT.mach (fn := Tryd.f25) (c := bodyOf Tryd.f25) (S := rfoSt n q w) (hd := rfoHd) Tryd.func25 (by kernel_rfl) (Nat.le_of_ble_eq_true rfl)
    (fun s o ho => match s, ho with
      | x, _ => x.elim)
    (fun o ho => rfoEn_ok n q w o ho) h
theorem cfol_c (n : NetD) (q w : Int) (hrw : Rows n.nx) : CT Tryd.prog 12 [] [netA n, .int .i64 q, .int .i64 w] [] (.bool (folB n q w)) := by
  refine fol_ct n q w ([], _) ?_
  have hl := nxO_len hrw q
  unfold folEn
  rw [gu_t hrw]
  refine (loop_fnd (fun i => folPc.l0 (i : Int)) (nxO n q).length (fun i => (nxO n q).getD i 0 == w) (rF := fun _ => ([], .bool true)) (r := ([], .bool false)) (fun i hi hp => ?_) (fun i r hi hp hr => ?_) (fun _ => ?_)).res ?_
  · refine .to (show folS0 n q w i = _ from ?_) (.ret _)
    unfold folS0
    rw [rngG 0 hi, br_t hp]
  · refine .to (show folS0 n q w i = _ from ?_) hr
    unfold folS0
    rw [rngG 0 hi, br_f hp, wrap_nat i (by omega)]
  · refine .to (show folS0 n q w (nxO n q).length = _ from ?_) (.ret _)
    unfold folS0; rw [rngE]
  · unfold folB hasZ
    cases fnd (fun i => (nxO n q).getD i 0 == w) 0 (nxO n q).length <;> rfl
theorem rfol_c (n : NetD) (q w : Int) (hrw : Rows n.nx) : CT Tryd.prog 25 [] [netA n, .int .i64 q, .int .i64 w] [] (.bool (folB n q w)) := by
  refine rfo_ct n q w ([], _) (.val ?_)
  unfold rfoEn
  rw [gu_t hrw]
  by_cases h1 : ckE n q = 0
  · rw [br_t (beq_iff_eq.2 h1)]
    by_cases h2 : ckE n w = 0
    · have hl := nxO_len hrw q
      have e : nxO n q = nxtL n q := by unfold nxO; rw [if_pos h1]
      rw [e] at hl
      rw [br_t (beq_iff_eq.2 h2), gu_t h1, gu_t (by omega)]
      unfold folB; rw [e]
    · rw [br_f (beq_eq_false_iff_ne.2 h2)]
      cases hf : folB n q w with
      | true => exact absurd (folB_rng hrw hf).2 h2
      | false => rfl
  · rw [br_f (beq_eq_false_iff_ne.2 h1)]
    cases hf : folB n q w with
    | true => exact absurd (folB_rng hrw hf).1 h1
    | false => rfl
noncomputable def ckSSt (n : NetD) (sp : Int) : Empty → St
  | x => x.elim
def ckSHd : Empty → Nat
  | x => x.elim
noncomputable def ckSEn (n : NetD) (sp : Int) : Option (Empty ⊕ Ret) :=
  gu (Rows n.nx) <|
  br (!valB n)
  (some (.inr ([], AV.int IntKind.i64 20)))
  (br (decide (sp < 0))
   (some (.inr ([], AV.int IntKind.i64 19)))
   (br (decide (iN (List.map sA n.ss).length ≤ sp))
    (some (.inr ([], AV.int IntKind.i64 19)))
    (some (.inr ([], AV.int IntKind.i64 0)))))
noncomputable def ckSStep (n : NetD) (sp : Int) : Empty → Option (Empty ⊕ Ret)
  | x => x.elim
theorem ckSEn_ok (n : NetD) (sp : Int) (o : Empty ⊕ Ret) (h : ckSEn n sp = some o) : Arr Tryd.prog Tryd.f37 0 (ckSSt n sp) ckSHd (bodyOf Tryd.f37) [] { n := Tryd.f37.ntmps, fr := enumF 0 ([netA n, .int .i64 sp]), hp := ([]) } o :=
 Scr.ok h mix (
 .rn 0 [] [] [] [] (al (u2 t2)) <|
 .gu fun a0 =>
 have c0 := valid_net_ct a0;
 .rn 0 [] [] [(7, hK c0 [] [])] [] (al (u2 (aj (ak (aj t9 (al (c0)))) (u2 s2)))) <|
 .br (fun a1 =>
 .rt [11] [] [] [] [] [] (aj (aj a1 s2) t2))
 (fun a1 =>
 .br (fun a2 =>
  .rt [10, 25] [] [] [] [] [] (aj (aj a1 (aj (u2 (u2 (u2 (aj a2 (aj a2 (aj a2 (aj a2 (aj a2 (ag a2 s2))))))))) (ak s2))) t2))
 (fun a2 =>
  .rn 0 [10, 24] [] [] [] (aj a1 (al (u2 (u2 (u2 (ag a2 (ag a2 (ag a2 (ag a2 (aj (aj a2 t3) (ag a2 s2))))))))))) <|
  .br (fun a3 =>
  .rt [24, 19] [] [] [] [] [] (aj (aj a3 s2) t2))
  (fun a3 =>
  .rt [24, 18] [] [] [] [] [] (aj (aj a3 s2) t2))))) (by kernel_rfl)
theorem ckS_ct (n : NetD) (sp : Int) (r : Ret) (h : MReach (ckSStep n sp) (ckSEn n sp) r) : CT Tryd.prog 37 ([]) ([netA n, .int .i64 sp]) r.1 r.2 :=
  CT.mach (fn := Tryd.f37) (c := bodyOf Tryd.f37) (S := ckSSt n sp) (hd := ckSHd) Tryd.func37 (by kernel_rfl) (Nat.le_of_ble_eq_true rfl)
    (fun s o ho => match s, ho with
      | x, _ => x.elim)
    (fun o ho => ckSEn_ok n sp o ho) h
noncomputable def cntSt (n : NetD) : Empty → St
  | x => x.elim
def cntHd : Empty → Nat
  | x => x.elim
noncomputable def cntEn (n : NetD) : Option (Empty ⊕ Ret) :=
  gu (Rows n.nx) <|
  br (!valB n)
  (some (.inr ([], AV.tup [AV.int IntKind.i64 0, AV.int IntKind.i64 20])))
  (gu (ValidN n) <|
   some (.inr ([], AV.tup [AV.int IntKind.i64 (iN (celN n)), AV.int IntKind.i64 0])))
noncomputable def cntStep (n : NetD) : Empty → Option (Empty ⊕ Ret)
  | x => x.elim
theorem cntEn_ok (n : NetD) (o : Empty ⊕ Ret) (h : cntEn n = some o) : Arr Tryd.prog Tryd.f10 0 (cntSt n) cntHd (bodyOf Tryd.f10) [] { n := Tryd.f10.ntmps, fr := enumF 0 ([netA n]), hp := ([]) } o :=
 Scr.ok h mix (
 .rn 0 [] [] [] [] (al (u2 t3)) <|
 .gu fun a0 =>
 have c0 := valid_net_ct a0;
 .rn 0 [] [] [(5, hK c0 [] [])] [] (al (u2 (aj (ak (aj t9 (al (c0)))) s2))) <|
 .br (fun a1 =>
 .rt [13] [] [] [] [] [] (aj (aj a1 (al t3)) (al t3)))
 (fun a1 =>
 .gu fun a2 =>
 have c1 := ccount_ct a2;
 .rt [12] [] [(8, hK c1 [] [])] [] [] [] (aj (aj a1 (al (u2 (aj (ak (aj t9 (al (c1)))) (u2 t2))))) (al t3)))) (by kernel_rfl)
theorem cnt_ct (n : NetD) (r : Ret) (h : MReach (cntStep n) (cntEn n) r) : CT Tryd.prog 10 ([]) ([netA n]) r.1 r.2 :=
  CT.mach (fn := Tryd.f10) (c := bodyOf Tryd.f10) (S := cntSt n) (hd := cntHd) Tryd.func10 (by kernel_rfl) (Nat.le_of_ble_eq_true rfl)
    (fun s o ho => match s, ho with
      | x, _ => x.elim)
    (fun o ho => cntEn_ok n o ho) h
noncomputable def rcnSt (n : NetD) : Empty → St
  | x => x.elim
def rcnHd : Empty → Nat
  | x => x.elim
noncomputable def rcnEn (n : NetD) : Option (Empty ⊕ Ret) :=
  gu (Rows n.nx) <|
  br (!valB n)
  (some (.inr ([], AV.tup [AV.int IntKind.i64 0, AV.int IntKind.i64 20])))
  (gu (ValidN n) <|
   some (.inr ([], AV.tup [AV.int IntKind.i64 (iN (celN n)), AV.int IntKind.i64 0])))
noncomputable def rcnStep (n : NetD) : Empty → Option (Empty ⊕ Ret)
  | x => x.elim
theorem rcnEn_ok (n : NetD) (o : Empty ⊕ Ret) (h : rcnEn n = some o) : Arr Tryd.prog Tryd.f23 0 (rcnSt n) rcnHd (bodyOf Tryd.f23) [] { n := Tryd.f23.ntmps, fr := enumF 0 ([netA n]), hp := ([]) } o :=
 Scr.ok h mix (
 .rn 0 [] [] [] [] (al (u2 t3)) <|
 .gu fun a0 =>
 have c0 := rvalid_net_ct a0;
 .rn 0 [] [] [(5, hK c0 [] [])] [] (al (u2 (aj (ak (aj t9 (al (c0)))) s2))) <|
 .br (fun a1 =>
 .rt [13] [] [] [] [] [] (aj (aj a1 (al t3)) (al t3)))
 (fun a1 =>
 .gu fun a2 =>
 have c1 := cells_ct a2;
 .rt [12] [] [(8, hK c1 [] [])] [] [] [] (aj (aj a1 (al (u2 (aj (ak (aj t9 (al (c1)))) (u2 t2))))) (al t3)))) (by kernel_rfl)
theorem rcn_ct (n : NetD) (r : Ret) (h : MReach (rcnStep n) (rcnEn n) r) : CT Tryd.prog 23 ([]) ([netA n]) r.1 r.2 :=
  CT.mach (fn := Tryd.f23) (c := bodyOf Tryd.f23) (S := rcnSt n) (hd := rcnHd) Tryd.func23 (by kernel_rfl) (Nat.le_of_ble_eq_true rfl)
    (fun s o ho => match s, ho with
      | x, _ => x.elim)
    (fun o ho => rcnEn_ok n o ho) h
noncomputable def plcSt (n : NetD) (c : Int) : Empty → St
  | x => x.elim
def plcHd : Empty → Nat
  | x => x.elim
noncomputable def plcEn (n : NetD) (c : Int) : Option (Empty ⊕ Ret) :=
  gu (Rows n.nx) <|
  br (ckE n c != 0)
  (some (.inr ([], AV.tup [AV.int IntKind.i64 0, AV.int IntKind.i64 0, AV.int IntKind.i64 (ckE n c)])))
  (gu (ValidN n) <|
   gu (-1000 ≤ c ∧ c ≤ 1000) <|
   some (.inr ([], AV.tup [AV.int IntKind.i64 (plI n c), AV.int IntKind.i64 (plJ n c), AV.int IntKind.i64 0])))
noncomputable def plcStep (n : NetD) (c : Int) : Empty → Option (Empty ⊕ Ret)
  | x => x.elim
theorem plcEn_ok (n : NetD) (c : Int) (o : Empty ⊕ Ret) (h : plcEn n c = some o) : Arr Tryd.prog Tryd.f16 0 (plcSt n c) plcHd (bodyOf Tryd.f16) [] { n := Tryd.f16.ntmps, fr := enumF 0 ([netA n, .int .i64 c]), hp := ([]) } o :=
 Scr.ok h mix (
 .rn 0 [] [] [] [] (al (u2 t4)) <|
 .gu fun a0 =>
 have c0 := ck_c (n) (c) a0;
 .rn 1 [] [] [(12, hK c0 [] [])] [] (aj (u2 (u2 (aj (k2 (aj t9 (ak (al (c0))))) s2))) (al (u2 s2))) <|
 .br (fun a1 =>
 .rt [29] [] [] [] [] [] (aj (aj a1 (al (u2 (k2 s2)))) (al t4)))
 (fun a1 =>
 .gu fun a2 =>
 .gu fun a3 =>
 have c1 := place_ct a2 (c) a3;
 .rt [28] [] [(19, hK c1 [] [])] [] [] [] (aj (aj a1 (aj (u2 (u2 (aj (k2 (aj t9 (ak (al (c1))))) (u2 (u2 (u2 (u2 s2))))))) (al (u2 (u2 (u2 (u2 t2))))))) (al t4)))) (by kernel_rfl)
theorem plc_ct (n : NetD) (c : Int) (r : Ret) (h : MReach (plcStep n c) (plcEn n c) r) : CT Tryd.prog 16 ([]) ([netA n, .int .i64 c]) r.1 r.2 :=
  CT.mach (fn := Tryd.f16) (c := bodyOf Tryd.f16) (S := plcSt n c) (hd := plcHd) Tryd.func16 (by kernel_rfl) (Nat.le_of_ble_eq_true rfl)
    (fun s o ho => match s, ho with
      | x, _ => x.elim)
    (fun o ho => plcEn_ok n c o ho) h
noncomputable def rpcSt (n : NetD) (c : Int) : Empty → St
  | x => x.elim
def rpcHd : Empty → Nat
  | x => x.elim
noncomputable def rpcEn (n : NetD) (c : Int) : Option (Empty ⊕ Ret) :=
  gu (Rows n.nx) <|
  br (ckE n c != 0)
  (some (.inr ([], AV.tup [AV.int IntKind.i64 0, AV.int IntKind.i64 0, AV.int IntKind.i64 (ckE n c)])))
  (gu (ValidN n) <|
   gu (-1000 ≤ c ∧ c ≤ 1000) <|
   some (.inr ([], AV.tup [AV.int IntKind.i64 (plI n c), AV.int IntKind.i64 (plJ n c), AV.int IntKind.i64 0])))
noncomputable def rpcStep (n : NetD) (c : Int) : Empty → Option (Empty ⊕ Ret)
  | x => x.elim
theorem rpcEn_ok (n : NetD) (c : Int) (o : Empty ⊕ Ret) (h : rpcEn n c = some o) : Arr Tryd.prog Tryd.f24 0 (rpcSt n c) rpcHd (bodyOf Tryd.f24) [] { n := Tryd.f24.ntmps, fr := enumF 0 ([netA n, .int .i64 c]), hp := ([]) } o :=
 Scr.ok h mix (
 .rn 0 [] [] [] [] (al (u2 t4)) <|
 .gu fun a0 =>
 have c0 := rck_c (n) (c) a0;
 .rn 1 [] [] [(12, hK c0 [] [])] [] (aj (u2 (u2 (aj (k2 (aj t9 (ak (al (c0))))) s2))) (al (u2 s2))) <|
 .br (fun a1 =>
 .rt [29] [] [] [] [] [] (aj (aj a1 (al (u2 (k2 s2)))) (al t4)))
 (fun a1 =>
 .gu fun a2 =>
 .gu fun a3 =>
 have c1 := rplace_ct a2 (c) a3;
 .rt [28] [] [(19, hK c1 [] [])] [] [] [] (aj (aj a1 (aj (u2 (u2 (aj (k2 (aj t9 (ak (al (c1))))) (u2 (u2 (u2 (u2 s2))))))) (al (u2 (u2 (u2 (u2 t2))))))) (al t4)))) (by kernel_rfl)
theorem rpc_ct (n : NetD) (c : Int) (r : Ret) (h : MReach (rpcStep n c) (rpcEn n c) r) : CT Tryd.prog 24 ([]) ([netA n, .int .i64 c]) r.1 r.2 :=
  CT.mach (fn := Tryd.f24) (c := bodyOf Tryd.f24) (S := rpcSt n c) (hd := rpcHd) Tryd.func24 (by kernel_rfl) (Nat.le_of_ble_eq_true rfl)
    (fun s o ho => match s, ho with
      | x, _ => x.elim)
    (fun o ho => rpcEn_ok n c o ho) h
noncomputable def rhoSt (n : NetD) (q : Int) : Empty → St
  | x => x.elim
def rhoHd : Empty → Nat
  | x => x.elim
noncomputable def rhoEn (n : NetD) (q : Int) : Option (Empty ⊕ Ret) :=
  gu (Rows n.nx) <|
  br (!valB n)
  (some (.inr ([], AV.tup [AV.int IntKind.i64 0, AV.int IntKind.i64 20])))
  (br (decide (q < 0))
   (some (.inr ([], AV.tup [AV.int IntKind.i64 0, AV.int IntKind.i64 19])))
   (br (decide (iN (List.map sA n.ss).length ≤ q))
    (some (.inr ([], AV.tup [AV.int IntKind.i64 0, AV.int IntKind.i64 19])))
    (gu (ValidN n) <|
     gu (0 ≤ q ∧ q < iN n.ss.length) <|
     some (.inr ([], AV.tup [AV.int IntKind.i64 (headS (n.ss.getD q.toNat s0)), AV.int IntKind.i64 0])))))
noncomputable def rhoStep (n : NetD) (q : Int) : Empty → Option (Empty ⊕ Ret)
  | x => x.elim
theorem rhoEn_ok (n : NetD) (q : Int) (o : Empty ⊕ Ret) (h : rhoEn n q = some o) : Arr Tryd.prog Tryd.f26 0 (rhoSt n q) rhoHd (bodyOf Tryd.f26) [] { n := Tryd.f26.ntmps, fr := enumF 0 ([netA n, .int .i64 q]), hp := ([]) } o :=
 Scr.ok h mix (
 .rn 0 [] [] [] [] (al (u2 t3)) <|
 .gu fun a0 =>
 have c0 := rvalid_net_ct a0;
 .rn 0 [] [] [(7, hK c0 [] [])] [] (al (u2 (aj (ak (aj t9 (al (c0)))) s2))) <|
 .br (fun a1 =>
 .rt [17] [] [] [] [] [] (aj (aj a1 (al t3)) (al t3)))
 (fun a1 =>
 .br (fun a2 =>
  .rt [16, 23] [] [] [] [] [] (aj (aj a1 (aj (u2 (u2 (u2 (aj a2 (aj a2 (aj a2 (aj a2 (aj a2 (al (aj a2 t2)))))))))) (ak (al t3)))) (al t3)))
 (fun a2 =>
  .rn 0 [16, 22] [] [] [] (aj a1 (al (u2 (u2 (u2 (ag a2 (ag a2 (ag a2 (ag a2 (aj (aj a2 t3) (al (aj a2 t2)))))))))))) <|
  .br (fun a3 =>
  .rt [22, 35] [] [] [] [] [] (aj (aj a3 (al t3)) (al t3)))
  (fun a3 =>
  .gu fun a4 =>
  .gu fun a5 =>
  have c1 := hd_c (n) (q) a4 a5;
  .rt [22, 34] [] [(20, hK c1 [] [])] [] [] [] (aj (aj a3 (al (u2 (u2 (aj (k2 (aj t9 (ak (al (c1))))) (u2 t2)))))) (al t3)))))) (by kernel_rfl)
theorem rho_ct (n : NetD) (q : Int) (r : Ret) (h : MReach (rhoStep n q) (rhoEn n q) r) : CT Tryd.prog 26 ([]) ([netA n, .int .i64 q]) r.1 r.2 :=
  CT.mach (fn := Tryd.f26) (c := bodyOf Tryd.f26) (S := rhoSt n q) (hd := rhoHd) Tryd.func26 (by kernel_rfl) (Nat.le_of_ble_eq_true rfl)
    (fun s o ho => match s, ho with
      | x, _ => x.elim)
    (fun o ho => rhoEn_ok n q o ho) h
noncomputable def rnoSt (n : NetD) (c : Int) : Empty → St
  | x => x.elim
def rnoHd : Empty → Nat
  | x => x.elim
noncomputable def rnoEn (n : NetD) (c : Int) : Option (Empty ⊕ Ret) :=
  gu (Rows n.nx) <|
  br (ckE n c != 0)
  (some (.inr ([], AV.tup [AV.nils, AV.int IntKind.i64 (ckE n c)])))
  (gu (ckE n c = 0) <|
   some (.inr ([], AV.tup [AV.lst (List.map (AV.int IntKind.i64) (nxtL n c)), AV.int IntKind.i64 0])))
noncomputable def rnoStep (n : NetD) (c : Int) : Empty → Option (Empty ⊕ Ret)
  | x => x.elim
theorem rnoEn_ok (n : NetD) (c : Int) (o : Empty ⊕ Ret) (h : rnoEn n c = some o) : Arr Tryd.prog Tryd.f27 0 (rnoSt n c) rnoHd (bodyOf Tryd.f27) [] { n := Tryd.f27.ntmps, fr := enumF 0 ([netA n, .int .i64 c]), hp := ([]) } o :=
 Scr.ok h mix (
 .rn 0 [] [] [] [] (al (u2 t3)) <|
 .gu fun a0 =>
 have c0 := rck_c (n) (c) a0;
 .rn 1 [] [] [(9, hK c0 [] [])] [] (aj (u2 (u2 (aj (k2 (aj t9 (ak (al (c0))))) s2))) (al (u2 s2))) <|
 .br (fun a1 =>
 .rt [23] [] [] [] [] [] (aj (aj a1 (al (u2 (ak s2)))) (al t3)))
 (fun a1 =>
 .gu fun a2 =>
 have c1 := rnext_c (n) (c) a0 a2;
 .rt [22] [] [(15, hK c1 [] [])] [] [] [] (aj (aj a1 (al (u2 (u2 (aj (k2 (aj t9 (ak (al (c1))))) (u2 t2)))))) (al t3)))) (by kernel_rfl)
theorem rno_ct (n : NetD) (c : Int) (r : Ret) (h : MReach (rnoStep n c) (rnoEn n c) r) : CT Tryd.prog 27 ([]) ([netA n, .int .i64 c]) r.1 r.2 :=
  CT.mach (fn := Tryd.f27) (c := bodyOf Tryd.f27) (S := rnoSt n c) (hd := rnoHd) Tryd.func27 (by kernel_rfl) (Nat.le_of_ble_eq_true rfl)
    (fun s o ho => match s, ho with
      | x, _ => x.elim)
    (fun o ho => rnoEn_ok n c o ho) h
inductive shuPc where
  | l0 (v0 : List Bool) (v1 : Int) (v2 : Nat)
noncomputable def shuSt (L : List Int) (kk : Nat) (c : Int) : shuPc → St
  | .l0 v0 v1 v2 => St.mk 25 [(0, AV.ptr 0 0 0), (1, iv c), (5, AV.sl 1 0 v0.length), (6, iv v1)] [some (tapeB L v2), some (Blk.mk (List.map AV.bool v0) 1 true true none)]
def shuHd : shuPc → Nat
  | .l0 _ _ _ => 0
noncomputable def shuEn (L : List Int) (kk : Nat) (c : Int) : Option (shuPc ⊕ Ret) :=
  gu (0 ≤ c) <|
  gu (1 * c ≤ 281474976710656) <|
  gu (c ≤ 9223372036854775807) <|
  gu (kk < 9223372036854775807) <|
  some (.inl (.l0 (List.replicate c.toNat false) (nextZ L kk 3) (kk + 1)))
noncomputable def shuS0 (L : List Int) (kk : Nat) (c : Int) (v0 : List Bool) (v1 : Int) (v2 : Nat) : Option (shuPc ⊕ Ret) :=
  br (decide (0 < v1))
  (br (decide (0 < c))
   (gu (v2 < 9223372036854775807) <|
    gu (0 ≤ nextZ L v2 c) <|
    gu (nextZ L v2 c < iN v0.length) <|
    gu ((0 + (nextZ L v2 c).toNat).succ.le (List.map AV.bool v0).length) <|
    some (.inl (.l0 (v0.set (0 + (nextZ L v2 c).toNat) true) (IntKind.i64.wrap (v1 - 1)) (v2 + 1))))
   (some (.inr ([some (Blk.mk [AV.agg [AV.lst (List.map (AV.int IntKind.i64) L), AV.int IntKind.i64 (iN v2)]] 2 true true none)], AV.lst (List.map AV.bool v0)))))
  (some (.inr ([some (Blk.mk [AV.agg [AV.lst (List.map (AV.int IntKind.i64) L), AV.int IntKind.i64 (iN v2)]] 2 true true none)], AV.lst (List.map AV.bool v0))))
noncomputable def shuStep (L : List Int) (kk : Nat) (c : Int) : shuPc → Option (shuPc ⊕ Ret)
  | .l0 v0 v1 v2 => shuS0 L kk c v0 v1 v2
theorem shuEn_ok (L : List Int) (kk : Nat) (c : Int) (o : shuPc ⊕ Ret) (h : shuEn L kk c = some o) : Arr Tryd.prog Tryd.f21 1 (shuSt L kk c) shuHd (bodyOf Tryd.f21) [] { n := Tryd.f21.ntmps, fr := enumF 0 ([.ptr 0 0 0, .int .i64 c]), hp := ([some (tapeB L kk)]) } o :=
 Scr.ok h mix (
 .rn 0 [] [] [] [] s2 <|
 .gu fun a0 =>
 .gu fun a1 =>
 .gu fun a2 =>
 .rn 0 [] [] [] [] (al (u2 (aj (k2 (aj a0 (aj (show c ≤ c by omega) (aj a1 a2)))) s2))) <|
 .gu fun a3 =>
 have c0 := next_ct (L) (kk) (3) a3;
 .lq [] [] [(10, hK c0 [0] [])] [] [] [0, 1] [0, 1, 5, 6] (up [(5, AV.sl 1 0 c.toNat)] [(1, List.replicate c.toNat (AV.bool false))] (shuSt L kk c (.l0 (List.replicate c.toNat false) (nextZ L kk 3) (kk + 1)))) (aj (al (u2 (aj (ak (k3 (al (c0)))) s2))) t7) (by simp [up, upF, upV, upH, upB, shuSt, gL, boL, lI, sA, bA])) (by kernel_rfl)
theorem shuS0_ok (L : List Int) (kk : Nat) (c : Int) (v0 : List Bool) (v1 : Int) (v2 : Nat) (o : shuPc ⊕ Ret) (h : shuS0 L kk c v0 v1 v2 = some o) : Arr Tryd.prog Tryd.f21 1 (shuSt L kk c) shuHd (headC Tryd.f21 0) (.rnd (headC Tryd.f21 0) :: headK Tryd.f21 0) (shuSt L kk c (.l0 v0 v1 v2)) o :=
 Scr.ok h mix (
 .br (fun a0 =>
 .rn 0 [27] [] [] [] (al (u2 (u2 (u2 (ag a0 (ag a0 (al (aj a0 t2)))))))) <|
 .br (fun a1 =>
  .gu fun a2 =>
  .gu fun a3 =>
  .gu fun a4 =>
  .gu fun a5 =>
  have c0 := next_ct (L) (v2) (c) a2;
  .lq [27, 33] [] [(22, hK c0 [0] [])] [] [] [0, 1] [0, 1, 5, 6] (up [(5, AV.sl 1 0 v0.length)] [(1, (List.map AV.bool v0).set (0 + (nextZ L v2 c).toNat) (AV.bool true))] (shuSt L kk c (.l0 (v0.set (0 + (nextZ L v2 c).toNat) true) (IntKind.i64.wrap (v1 - 1)) (v2 + 1)))) (aj (aj a1 (aj (u2 (u2 (u2 (aj (k5 (al (c0))) (aj (k2 (aj a3 a4)) (al (ak a5))))))) (al (u2 (u2 s2))))) t7) (by simp [up, upF, upV, upH, upB, shuSt, gL, boL, lI, sA, bA]))
 (fun a1 =>
  .rt [27, 32] [] [] [] [0] [1] (aj (aj a1 (al (u2 s2))) (aj (show v0.length = (List.map AV.bool v0).length by simp) t2))))
 (fun a0 =>
 .rt [26] [] [] [] [0] [1] (aj (aj (u2 (u2 (u2 (aj a0 (aj a0 (al (aj a0 t2))))))) (ak (al (u2 s2)))) (aj (show v0.length = (List.map AV.bool v0).length by simp) t2)))) (by kernel_rfl)
theorem shu_ct (L : List Int) (kk : Nat) (c : Int) (r : Ret) (h : MReach (shuStep L kk c) (shuEn L kk c) r) : CT Tryd.prog 21 ([some (tapeB L kk)]) ([.ptr 0 0 0, .int .i64 c]) r.1 r.2 :=
  CT.mach (fn := Tryd.f21) (c := bodyOf Tryd.f21) (S := shuSt L kk c) (hd := shuHd) Tryd.func21 (by kernel_rfl) (Nat.le_of_ble_eq_true rfl)
    (fun s o ho => match s, ho with
      | .l0 v0 v1 v2, ho => shuS0_ok L kk c v0 v1 v2 o ho
    )
    (fun o ho => shuEn_ok L kk c o ho) h
noncomputable def sm1St : Empty → St
  | x => x.elim
def sm1Hd : Empty → Nat
  | x => x.elim
noncomputable def sm1En : Option (Empty ⊕ Ret) :=
  some (.inr ([], AV.str ((ByteArray.mk #[48, 49, 50, 51, 52, 53, 54, 55, 56, 57, 97, 98, 99, 100, 101, 102, 103, 104, 105, 106, 107, 108, 109, 110, 111, 112, 113, 114, 115, 116, 117, 118, 119, 120, 121, 122]).extract (Int.toNat 1) (Int.toNat 2))))
noncomputable def sm1Step : Empty → Option (Empty ⊕ Ret)
  | x => x.elim
theorem sm1En_ok (o : Empty ⊕ Ret) (h : sm1En = some o) : Arr Tryd.prog Tryd.f63 0 (sm1St) sm1Hd (bodyOf Tryd.f63) [] { n := Tryd.f63.ntmps, fr := enumF 0 ([.int .i64 1]), hp := ([]) } o :=
 Scr.ok h mix (
 .rt [] [] [] [] [] [] (aj (u2 (aj (u2 s2) (ak (al (u2 (u2 (u2 (aj (k2 (aj (show (0 : Int) ≤ (1 : Int) from (by first | exact Nat.le_of_ble_eq_true rfl | decide)) (aj (show (1 : Int) ≤ (2 : Int) from (by first | exact Nat.le_of_ble_eq_true rfl | decide)) (show (2 : Int) ≤ (36 : Int) from (by first | exact Nat.le_of_ble_eq_true rfl | decide))))) s2)))))))) t2)) (by kernel_rfl)
theorem sm1_ct (r : Ret) (h : MReach (sm1Step) (sm1En) r) : CT Tryd.prog 63 ([]) ([.int .i64 1]) r.1 r.2 :=
  CT.mach (fn := Tryd.f63) (c := bodyOf Tryd.f63) (S := sm1St) (hd := sm1Hd) Tryd.func63 (by kernel_rfl) (Nat.le_of_ble_eq_true rfl)
    (fun s o ho => match s, ho with
      | x, _ => x.elim)
    (fun o ho => sm1En_ok o ho) h
noncomputable def sm2St : Empty → St
  | x => x.elim
def sm2Hd : Empty → Nat
  | x => x.elim
noncomputable def sm2En : Option (Empty ⊕ Ret) :=
  some (.inr ([], AV.str ((ByteArray.mk #[48, 49, 50, 51, 52, 53, 54, 55, 56, 57, 97, 98, 99, 100, 101, 102, 103, 104, 105, 106, 107, 108, 109, 110, 111, 112, 113, 114, 115, 116, 117, 118, 119, 120, 121, 122]).extract (Int.toNat 2) (Int.toNat 3))))
noncomputable def sm2Step : Empty → Option (Empty ⊕ Ret)
  | x => x.elim
theorem sm2En_ok (o : Empty ⊕ Ret) (h : sm2En = some o) : Arr Tryd.prog Tryd.f63 0 (sm2St) sm2Hd (bodyOf Tryd.f63) [] { n := Tryd.f63.ntmps, fr := enumF 0 ([.int .i64 2]), hp := ([]) } o :=
 Scr.ok h mix (
 .rt [] [] [] [] [] [] (aj (u2 (aj (u2 s2) (ak (al (u2 (u2 (u2 (aj (k2 (aj (show (0 : Int) ≤ (2 : Int) from (by first | exact Nat.le_of_ble_eq_true rfl | decide)) (aj (show (2 : Int) ≤ (3 : Int) from (by first | exact Nat.le_of_ble_eq_true rfl | decide)) (show (3 : Int) ≤ (36 : Int) from (by first | exact Nat.le_of_ble_eq_true rfl | decide))))) s2)))))))) t2)) (by kernel_rfl)
theorem sm2_ct (r : Ret) (h : MReach (sm2Step) (sm2En) r) : CT Tryd.prog 63 ([]) ([.int .i64 2]) r.1 r.2 :=
  CT.mach (fn := Tryd.f63) (c := bodyOf Tryd.f63) (S := sm2St) (hd := sm2Hd) Tryd.func63 (by kernel_rfl) (Nat.le_of_ble_eq_true rfl)
    (fun s o ho => match s, ho with
      | x, _ => x.elim)
    (fun o ho => sm2En_ok o ho) h
noncomputable def sm3St : Empty → St
  | x => x.elim
def sm3Hd : Empty → Nat
  | x => x.elim
noncomputable def sm3En : Option (Empty ⊕ Ret) :=
  some (.inr ([], AV.str ((ByteArray.mk #[48, 49, 50, 51, 52, 53, 54, 55, 56, 57, 97, 98, 99, 100, 101, 102, 103, 104, 105, 106, 107, 108, 109, 110, 111, 112, 113, 114, 115, 116, 117, 118, 119, 120, 121, 122]).extract (Int.toNat 3) (Int.toNat 4))))
noncomputable def sm3Step : Empty → Option (Empty ⊕ Ret)
  | x => x.elim
theorem sm3En_ok (o : Empty ⊕ Ret) (h : sm3En = some o) : Arr Tryd.prog Tryd.f63 0 (sm3St) sm3Hd (bodyOf Tryd.f63) [] { n := Tryd.f63.ntmps, fr := enumF 0 ([.int .i64 3]), hp := ([]) } o :=
 Scr.ok h mix (
 .rt [] [] [] [] [] [] (aj (u2 (aj (u2 s2) (ak (al (u2 (u2 (u2 (aj (k2 (aj (show (0 : Int) ≤ (3 : Int) from (by first | exact Nat.le_of_ble_eq_true rfl | decide)) (aj (show (3 : Int) ≤ (4 : Int) from (by first | exact Nat.le_of_ble_eq_true rfl | decide)) (show (4 : Int) ≤ (36 : Int) from (by first | exact Nat.le_of_ble_eq_true rfl | decide))))) s2)))))))) t2)) (by kernel_rfl)
theorem sm3_ct (r : Ret) (h : MReach (sm3Step) (sm3En) r) : CT Tryd.prog 63 ([]) ([.int .i64 3]) r.1 r.2 :=
  CT.mach (fn := Tryd.f63) (c := bodyOf Tryd.f63) (S := sm3St) (hd := sm3Hd) Tryd.func63 (by kernel_rfl) (Nat.le_of_ble_eq_true rfl)
    (fun s o ho => match s, ho with
      | x, _ => x.elim)
    (fun o ho => sm3En_ok o ho) h
noncomputable def sm4St : Empty → St
  | x => x.elim
def sm4Hd : Empty → Nat
  | x => x.elim
noncomputable def sm4En : Option (Empty ⊕ Ret) :=
  some (.inr ([], AV.str ((ByteArray.mk #[48, 49, 50, 51, 52, 53, 54, 55, 56, 57, 97, 98, 99, 100, 101, 102, 103, 104, 105, 106, 107, 108, 109, 110, 111, 112, 113, 114, 115, 116, 117, 118, 119, 120, 121, 122]).extract (Int.toNat 4) (Int.toNat 5))))
noncomputable def sm4Step : Empty → Option (Empty ⊕ Ret)
  | x => x.elim
theorem sm4En_ok (o : Empty ⊕ Ret) (h : sm4En = some o) : Arr Tryd.prog Tryd.f63 0 (sm4St) sm4Hd (bodyOf Tryd.f63) [] { n := Tryd.f63.ntmps, fr := enumF 0 ([.int .i64 4]), hp := ([]) } o :=
 Scr.ok h mix (
 .rt [] [] [] [] [] [] (aj (u2 (aj (u2 s2) (ak (al (u2 (u2 (u2 (aj (k2 (aj (show (0 : Int) ≤ (4 : Int) from (by first | exact Nat.le_of_ble_eq_true rfl | decide)) (aj (show (4 : Int) ≤ (5 : Int) from (by first | exact Nat.le_of_ble_eq_true rfl | decide)) (show (5 : Int) ≤ (36 : Int) from (by first | exact Nat.le_of_ble_eq_true rfl | decide))))) s2)))))))) t2)) (by kernel_rfl)
theorem sm4_ct (r : Ret) (h : MReach (sm4Step) (sm4En) r) : CT Tryd.prog 63 ([]) ([.int .i64 4]) r.1 r.2 :=
  CT.mach (fn := Tryd.f63) (c := bodyOf Tryd.f63) (S := sm4St) (hd := sm4Hd) Tryd.func63 (by kernel_rfl) (Nat.le_of_ble_eq_true rfl)
    (fun s o ho => match s, ho with
      | x, _ => x.elim)
    (fun o ho => sm4En_ok o ho) h
noncomputable def csE (n : NetD) (sp : Int) : Int := if valB n = true then (if sp < 0 ∨ (n.ss.length : Int) ≤ sp then 19 else 0) else 20
theorem checkSpur_ct {n : NetD} (hrw : Rows n.nx) (sp : Int) : CT Tryd.prog 37 [] [netA n, .int .i64 sp] [] (.int .i64 (csE n sp)) := by
  refine ckS_ct n sp ([], _) (.val ?_)
  unfold ckSEn csE
  rw [gu_t hrw]
  cases hv : valB n with
  | false => rfl
  | true =>
    rw [br_f (by rfl), if_pos rfl]
    by_cases h0 : sp < 0
    · rw [br_t (dec_t h0), if_pos (.inl h0)]
    by_cases h1 : (n.ss.length : Int) ≤ sp
    · rw [br_f (dec_f h0), br_t (dec_t (by simpa [iN] using h1)), if_pos (.inr h1)]
    · rw [br_f (dec_f h0), br_f (dec_f (by simpa [iN] using h1)), if_neg (by omega)]
def opB (n : NetD) (sh : List Bool) (sp : Int) : Bool := match n.ss[sp.toNat]? with | some s => openB sh s | none => false
theorem ropen_ct (n : NetD) (sh : List Bool) (sp : Int) (hv : ValidN n) (hsh : sh.length = celN n) (hi : 0 ≤ sp ∧ sp < n.ss.length) : CT Tryd.prog 43 [] [netA n, .lst (boL sh), .int .i64 sp] [] (.bool (opB n sh sp)) := by
  obtain ⟨j, rfl⟩ : ∃ j : Nat, sp = j := ⟨sp.toNat, by omega⟩
  have hl : j < n.ss.length := by omega
  have h := open_ct hv hsh (List.getElem?_eq_getElem hl)
  unfold opB
  rw [Int.toNat_natCast, List.getElem?_eq_getElem hl]
  exact h
theorem shu_ex (L : List Int) (kk c : Nat) (hc : c ≤ 1000) (hk : kk ≤ 50000) : ∃ p : List Bool × Nat, p.1.length = c ∧ p.2 ≤ kk + 10 ∧ CT Tryd.prog 21 [some (tapeB L kk)] [.ptr 0 0 0, .int .i64 (c : Int)] [some (tapeB L p.2)] (.lst (boL p.1)) := by
  have r := nextZ_rng L kk 3 (by omega) (by omega)
  have loop : ∀ (m : Nat) (s : List Bool) (k : Nat), s.length = c → k + 10 * m ≤ 60000 → ∃ (s' : List Bool) (k' : Nat), s'.length = c ∧ k' ≤ k + m ∧ MReach (shuStep L kk (c : Int)) (some (.inl (.l0 s (m : Int) k))) (([some (tapeB L k')], .lst (boL s')) : Ret) := by
    intro m
    induction m with
    | zero =>
      intro s k hs _
      refine ⟨s, k, hs, by omega, .to ?_ (.ret _)⟩
      show shuS0 L kk c s 0 k = _
      unfold shuS0
      rw [br_f (by simp)]; rfl
    | succ m ih =>
      intro s k hs hkm
      by_cases h0 : (0 : Int) < c
      · have r2 := nextZ_rng L k (c : Int) (by omega) (by omega)
        obtain ⟨s', k', g1, g2, g3⟩ := ih (s.set (0 + (nextZ L k (c : Int)).toNat) true) (k + 1) (by simpa using hs) (by omega)
        refine ⟨s', k', g1, by omega, .to ?_ g3⟩
        show shuS0 L kk c s ((m + 1 : Nat) : Int) k = _
        unfold shuS0
        rw [br_t (dec_t (by omega)), br_t (dec_t h0), gu_t (by omega), gu_t r2.1, gu_t (by simp only [iN]; omega), gu_t (by rw [List.length_map, hs]; show 0 + _ + 1 ≤ _; omega), wrapS (((m + 1 : Nat) : Int) - 1) (by omega) (by omega), show ((m + 1 : Nat) : Int) - 1 = (m : Int) by omega]
      · refine ⟨s, k, hs, by omega, .to ?_ (.ret _)⟩
        show shuS0 L kk c s ((m + 1 : Nat) : Int) k = _
        unfold shuS0
        rw [br_t (dec_t (by omega)), br_f (dec_f h0)]; rfl
  obtain ⟨q, hq⟩ : ∃ q : Nat, nextZ L kk 3 = q := ⟨(nextZ L kk 3).toNat, by omega⟩
  obtain ⟨s', k', g1, g2, g3⟩ := loop q (List.replicate c false) (kk + 1) (by simp) (by omega)
  refine ⟨(s', k'), g1, by show k' ≤ _; omega, shu_ct L kk c ([some (tapeB L k')], .lst (boL s')) ?_⟩
  unfold shuEn
  rw [gu_t (by omega), gu_t (by omega), gu_t (by omega), gu_t (by omega), hq, Int.toNat_natCast]
  exact g3
theorem shu_exP (L : List Int) (kk c : Nat) : ∃ p : List Bool × Nat, c ≤ 1000 → kk ≤ 50000 → p.1.length = c ∧ p.2 ≤ kk + 10 ∧ CT Tryd.prog 21 [some (tapeB L kk)] [.ptr 0 0 0, .int .i64 (c : Int)] [some (tapeB L p.2)] (.lst (boL p.1)) := by
  by_cases h : c ≤ 1000 ∧ kk ≤ 50000
  · obtain ⟨p, a⟩ := shu_ex L kk c h.1 h.2
    exact ⟨p, fun _ _ => a⟩
  · exact ⟨([], 0), fun a b => absurd ⟨a, b⟩ h⟩
@[irreducible] noncomputable def shuL (L : List Int) (kk c : Nat) : List Bool := (Classical.choose (shu_exP L kk c)).1
@[irreducible] noncomputable def shuK (L : List Int) (kk c : Nat) : Nat := (Classical.choose (shu_exP L kk c)).2
theorem shu_spec {L : List Int} {kk c : Nat} (h : c ≤ 1000) (hk : kk ≤ 50000) : (shuL L kk c).length = c ∧ shuK L kk c ≤ kk + 10 ∧ CT Tryd.prog 21 [some (tapeB L kk)] [.ptr 0 0 0, .int .i64 (c : Int)] [some (tapeB L (shuK L kk c))] (.lst (boL (shuL L kk c))) := by unfold shuL shuK; exact Classical.choose_spec (shu_exP L kk c) h hk
theorem shut_ct (L : List Int) (kk c : Nat) (h : c ≤ 1000) (hk : kk ≤ 50000) : CT Tryd.prog 21 [some (tapeB L kk)] [.ptr 0 0 0, .int .i64 (iN c)] [some (tapeB L (shuK L kk c))] (.lst (boL (shuL L kk c))) := (shu_spec h hk).2.2
noncomputable def cntZ (n : NetD) : Int := if valB n = true then (celN n : Int) else 0
noncomputable def cntE (n : NetD) : Int := if valB n = true then 0 else 20
theorem cnt_c {n : NetD} (hrw : Rows n.nx) : CT Tryd.prog 10 [] [netA n] [] (.tup [.int .i64 (cntZ n), .int .i64 (cntE n)]) := by
  refine cnt_ct n ([], _) (.val ?_)
  unfold cntEn cntZ cntE
  rw [gu_t hrw]
  cases hv : valB n with
  | false => rfl
  | true => rw [br_f (by rfl), gu_t (valB_iff.1 hv)]; rfl
theorem rcn_c {n : NetD} (hrw : Rows n.nx) : CT Tryd.prog 23 [] [netA n] [] (.tup [.int .i64 (cntZ n), .int .i64 (cntE n)]) := by
  refine rcn_ct n ([], _) (.val ?_)
  unfold rcnEn cntZ cntE
  rw [gu_t hrw]
  cases hv : valB n with
  | false => rfl
  | true => rw [br_f (by rfl), gu_t (valB_iff.1 hv)]; rfl
noncomputable def pliZ (n : NetD) (c : Int) : Int := if ckE n c = 0 then plI n c else 0
noncomputable def pljZ (n : NetD) (c : Int) : Int := if ckE n c = 0 then plJ n c else 0
theorem plc_c (n : NetD) (c : Int) (hrw : Rows n.nx) : CT Tryd.prog 16 [] [netA n, .int .i64 c] [] (.tup [.int .i64 (pliZ n c), .int .i64 (pljZ n c), .int .i64 (ckE n c)]) := by
  refine plc_ct n c ([], _) (.val ?_)
  unfold plcEn pliZ pljZ
  rw [gu_t hrw]
  by_cases h : ckE n c = 0
  · obtain ⟨hv, h0, h1⟩ := ckE_ok h
    have := hv.cel
    rw [br_f (by rw [h]; rfl), gu_t hv, gu_t (by omega), if_pos h, if_pos h, h]
  · rw [br_t (bne_iff_ne.2 h), if_neg h, if_neg h]
theorem rpc_c (n : NetD) (c : Int) (hrw : Rows n.nx) : CT Tryd.prog 24 [] [netA n, .int .i64 c] [] (.tup [.int .i64 (pliZ n c), .int .i64 (pljZ n c), .int .i64 (ckE n c)]) := by
  refine rpc_ct n c ([], _) (.val ?_)
  unfold rpcEn pliZ pljZ
  rw [gu_t hrw]
  by_cases h : ckE n c = 0
  · obtain ⟨hv, h0, h1⟩ := ckE_ok h
    have := hv.cel
    rw [br_f (by rw [h]; rfl), gu_t hv, gu_t (by omega), if_pos h, if_pos h, h]
  · rw [br_t (bne_iff_ne.2 h), if_neg h, if_neg h]
noncomputable def hdZ (n : NetD) (q : Int) : Int := if csE n q = 0 then headS (n.ss.getD q.toNat s0) else 0
theorem csE_zero {n : NetD} {sp : Int} (h : csE n sp = 0) : ValidN n ∧ 0 ≤ sp ∧ sp < n.ss.length := by
  unfold csE at h
  split at h
  · rename_i hv
    split at h
    · omega
    · exact ⟨valB_iff.1 hv, by omega, by omega⟩
  · omega
theorem rho_c (n : NetD) (q : Int) (hrw : Rows n.nx) : CT Tryd.prog 26 [] [netA n, .int .i64 q] [] (.tup [.int .i64 (hdZ n q), .int .i64 (csE n q)]) := by
  refine rho_ct n q ([], _) (.val ?_)
  unfold rhoEn hdZ
  rw [gu_t hrw]
  by_cases h : csE n q = 0
  · obtain ⟨hv, h0, h1⟩ := csE_zero h
    rw [br_f (by rw [valB_iff.2 hv]; rfl), br_f (dec_f (by omega)), br_f (dec_f (by simp only [iN, List.length_map]; omega)), gu_t hv, gu_t ⟨by omega, by omega⟩, if_pos h, h]
  · rw [if_neg h]
    unfold csE at h ⊢
    cases hv : valB n with
    | false => rfl
    | true =>
      rw [hv, if_pos rfl] at h
      rw [br_f (by rfl), if_pos rfl]
      by_cases h0 : q < 0
      · rw [br_t (dec_t h0), if_pos (.inl h0)]
      · by_cases h1 : (n.ss.length : Int) ≤ q
        · rw [br_f (dec_f h0), br_t (dec_t (by simp only [iN, List.length_map]; omega)), if_pos (.inr h1)]
        · exact absurd (if_neg (by omega)) h
theorem rno_c (n : NetD) (c : Int) (hrw : Rows n.nx) : CT Tryd.prog 27 [] [netA n, .int .i64 c] [] (.tup [lI (nxO n c), .int .i64 (ckE n c)]) := by
  unfold nxO
  by_cases h : ckE n c = 0
  · rw [if_pos h]
    exact rno_ct n c ([], _) (.val (show rnoEn n c = _ by unfold rnoEn; rw [gu_t hrw, br_f (by rw [h]; rfl), gu_t h, h]; rfl))
  · rw [if_neg h]
    exact (rno_ct n c ([], _) (.val (show rnoEn n c = _ by unfold rnoEn; rw [gu_t hrw, br_t (bne_iff_ne.2 h)]))).to rfl rfl
theorem sml_c (k : Nat) (h : 1 ≤ k ∧ k ≤ 4) : CT Tryd.prog 63 [] [.int .i64 (iN k)] [] (.str (digB k)) := by
  obtain rfl | rfl | rfl | rfl : k = 1 ∨ k = 2 ∨ k = 3 ∨ k = 4 := by omega
  · exact sm1_ct ([], _) (.val (show sm1En = _ by unfold sm1En; first | rfl | decide +kernel))
  · exact sm2_ct ([], _) (.val (show sm2En = _ by unfold sm2En; first | rfl | decide +kernel))
  · exact sm3_ct ([], _) (.val (show sm3En = _ by unfold sm3En; first | rfl | decide +kernel))
  · exact sm4_ct ([], _) (.val (show sm4En = _ by unfold sm4En; first | rfl | decide +kernel))
theorem sm1_c : CT Tryd.prog 63 [] [.int .i64 1] [] (.str (digB 1)) := sml_c 1 (by omega)
theorem sm2_c : CT Tryd.prog 63 [] [.int .i64 2] [] (.str (digB 2)) := sml_c 2 (by omega)
theorem sm3_c : CT Tryd.prog 63 [] [.int .i64 3] [] (.str (digB 3)) := sml_c 3 (by omega)
theorem sm4_c : CT Tryd.prog 63 [] [.int .i64 4] [] (.str (digB 4)) := sml_c 4 (by omega)
theorem dg_c (k : Int) (h : 1 ≤ k ∧ k ≤ 4) : CT Tryd.prog 44 [] [.int .i64 k] [] (.str (digB k.toNat)) := by
  have := digits_ct k.toNat (by omega)
  rwa [show iN k.toNat = k from by simp only [iN]; omega] at this
noncomputable def hd9St (n : NetD) (q : Int) : Empty → St
  | x => x.elim
def hd9Hd : Empty → Nat
  | x => x.elim
noncomputable def hd9En (n : NetD) (q : Int) : Option (Empty ⊕ Ret) :=
  gu (Rows n.nx) <|
  br (csE n q != 0)
  (some (.inr ([], AV.tup [AV.int IntKind.i64 0, AV.int IntKind.i64 (csE n q)])))
  (gu (0 ≤ q) <|
   el (n.ss) (q.toNat) fun (x16 : SpuD) =>
   el (n.ss) (q.toNat) fun (x22 : SpuD) =>
   some (.inr ([], AV.tup [AV.int IntKind.i64 (IntKind.i64.wrap (IntKind.i64.wrap (x16.b + x22.k) - 1)), AV.int IntKind.i64 0])))
noncomputable def hd9Step (n : NetD) (q : Int) : Empty → Option (Empty ⊕ Ret)
  | x => x.elim
theorem hd9En_ok (n : NetD) (q : Int) (o : Empty ⊕ Ret) (h : hd9En n q = some o) : Arr Tryd.prog Tryd.f15 0 (hd9St n q) hd9Hd (bodyOf Tryd.f15) [] { n := Tryd.f15.ntmps, fr := enumF 0 ([netA n, .int .i64 q]), hp := ([]) } o :=
 Scr.ok h mix (
 .rn 0 [] [] [] [] (al (u2 t3)) <|
 .gu fun a0 =>
 have c0 := checkSpur_ct a0 (q);
 .rn 1 [] [] [(9, hK c0 [] [])] [] (aj (u2 (u2 (aj (k2 (aj t9 (ak (al (c0))))) s2))) (al (u2 s2))) <|
 .br (fun a1 =>
 .rt [23] [] [] [] [] [] (aj (aj a1 (al (u2 (ak s2)))) (al t3)))
 (fun a1 =>
 .gu fun a2 =>
 .el fun x16 a3 =>
 .el fun x22 a4 =>
 .rt [22] [(16, sA x16), (22, sA x22)] [] [] [] [] (aj (aj a1 (al (u2 (u2 (u2 (aj (k2 (aj a2 (getMap (f := sA) a3))) (u2 (u2 (u2 (u2 (u2 (aj (k2 (aj a2 (getMap (f := sA) a4))) (u2 (u2 (aj t3 (u2 (u2 t2))))))))))))))))) (al t3)))) (by kernel_rfl)
theorem hd9_ct (n : NetD) (q : Int) (r : Ret) (h : MReach (hd9Step n q) (hd9En n q) r) : CT Tryd.prog 15 ([]) ([netA n, .int .i64 q]) r.1 r.2 :=
  CT.mach (fn := Tryd.f15) (c := bodyOf Tryd.f15) (S := hd9St n q) (hd := hd9Hd) Tryd.func15 (by kernel_rfl) (Nat.le_of_ble_eq_true rfl)
    (fun s o ho => match s, ho with
      | x, _ => x.elim)
    (fun o ho => hd9En_ok n q o ho) h
inductive cOpPc where
  | l0 (v0 : Bool) (v1 : SpuD) (v2 : Int)
noncomputable def cOpSt (n : NetD) (sh : List Bool) (sp : Int) : cOpPc → St
  | .l0 v0 v1 v2 => St.mk 62 [(1, AV.lst (boL sh)), (9, AV.ptr 0 0 0), (10, AV.bool v0), (45, iv v1.k), (46, iv v2)] [some (Blk.mk [sA v1] 6 true true none)]
def cOpHd : cOpPc → Nat
  | .l0 _ _ _ => 0
noncomputable def cOpEn (n : NetD) (sh : List Bool) (sp : Int) : Option (cOpPc ⊕ Ret) :=
  gu (Rows n.nx) <|
  br (csE n sp != 0)
  (some (.inr ([], AV.tup [AV.bool false, AV.int IntKind.i64 (csE n sp)])))
  (gu (ValidN n) <|
   br (iN (boL sh).length != iN (celN n))
   (some (.inr ([], AV.tup [AV.bool false, AV.int IntKind.i64 19])))
   (gu (0 ≤ sp) <|
    el (n.ss) (sp.toNat) fun (x28 : SpuD) =>
    gu (0 ≤ x28.i) <|
    el (sh) (x28.i.toNat) fun (x33 : Bool) =>
    br (!x33)
    (gu (0 ≤ x28.o) <|
     el (sh) (x28.o.toNat) fun (x40 : Bool) =>
     some (.inl (.l0 (!x40) (x28) ((0 : Int)))))
    (some (.inl (.l0 (false) (x28) ((0 : Int)))))))
noncomputable def cOpS0 (n : NetD) (sh : List Bool) (sp : Int) (v0 : Bool) (v1 : SpuD) (v2 : Int) : Option (cOpPc ⊕ Ret) :=
  br (decide (v2 < v1.k))
  (br (v0)
   (gu (0 ≤ IntKind.i64.wrap (v1.b + v2)) <|
    el (sh) ((IntKind.i64.wrap (v1.b + v2)).toNat) fun (x56 : Bool) =>
    some (.inl (.l0 (!x56) (v1) (IntKind.i64.wrap (v2 + 1)))))
   (some (.inl (.l0 (false) (v1) (IntKind.i64.wrap (v2 + 1))))))
  (some (.inr ([], AV.tup [AV.bool v0, AV.int IntKind.i64 0])))
noncomputable def cOpStep (n : NetD) (sh : List Bool) (sp : Int) : cOpPc → Option (cOpPc ⊕ Ret)
  | .l0 v0 v1 v2 => cOpS0 n sh sp v0 v1 v2
theorem cOpEn_ok (n : NetD) (sh : List Bool) (sp : Int) (o : cOpPc ⊕ Ret) (h : cOpEn n sh sp = some o) : Arr Tryd.prog Tryd.f19 0 (cOpSt n sh sp) cOpHd (bodyOf Tryd.f19) [] { n := Tryd.f19.ntmps, fr := enumF 0 ([netA n, .lst (boL sh), .int .i64 sp]), hp := ([]) } o :=
 Scr.ok h mix (
 .rn 0 [] [] [] [] (al (u2 t3)) <|
 .gu fun a0 =>
 have c0 := checkSpur_ct a0 (sp);
 .rn 1 [] [] [(14, hK c0 [] [])] [] (aj (u2 (u2 (aj (k2 (aj t9 (ak (al (c0))))) s2))) (al (u2 (u2 s2)))) <|
 .br (fun a1 =>
 .rt [31] [] [] [] [] [] (aj (aj a1 (al (u2 (ak s2)))) (al t3)))
 (fun a1 =>
 .gu fun a2 =>
 have c1 := ccount_ct a2;
 .rn 0 [30] [] [(23, hK c1 [] [])] [] (aj a1 (al (u2 (u2 (u2 (aj (ak (aj t9 (al (c1)))) (aj t3 s2))))))) <|
 .br (fun a3 =>
  .rt [39] [] [] [] [] [] (aj (aj a3 (al t3)) (al t3)))
 (fun a3 =>
  .gu fun a4 =>
  .el fun x28 a5 =>
  .rn 0 [38] [(28, sA x28)] [] [] (aj a3 (al (u2 (u2 (u2 (aj (k2 (aj a4 (getMap (f := sA) a5))) (u2 (ak (al (k2 n11)))))))))) <|
  .gu fun a6 =>
  .el fun x33 a7 =>
  .br (fun a8 =>
  .gu fun a9 =>
  .el fun x40 a10 =>
  .lp [73] [(33, AV.bool x33), (40, AV.bool x40)] [] [] [] [1] [1, 9, 10, 45, 46] (aj (aj (u2 (u2 (u2 (aj (k2 (aj a6 (getMap (f := AV.bool) a7))) (u2 (u2 (u2 (ag a8 (ag a8 (ag a8 (aj (aj a8 (k2 (aj a9 (getMap (f := AV.bool) a10)))) (ag a8 (ag a8 (ag a8 s2)))))))))))))) (al (u2 (u2 t2)))) t7))
  (fun a8 =>
  .lp [72] [(33, AV.bool x33)] [] [] [] [1] [1, 9, 10, 45, 46] (aj (aj (u2 (u2 (u2 (aj (k2 (aj a6 (getMap (f := AV.bool) a7))) (u2 (u2 (u2 (aj a8 (aj a8 (aj a8 (aj a8 (aj a8 (aj a8 (ag a8 s2)))))))))))))) (al (u2 (u2 t2)))) t7))))) (by kernel_rfl)
theorem cOpS0_ok (n : NetD) (sh : List Bool) (sp : Int) (v0 : Bool) (v1 : SpuD) (v2 : Int) (o : cOpPc ⊕ Ret) (h : cOpS0 n sh sp v0 v1 v2 = some o) : Arr Tryd.prog Tryd.f19 0 (cOpSt n sh sp) cOpHd (headC Tryd.f19 0) (.rnd (headC Tryd.f19 0) :: headK Tryd.f19 0) (cOpSt n sh sp (.l0 v0 v1 v2)) o :=
 Scr.ok h mix (
 .rn 0 [] [] [] [] (al (al t3)) <|
 .br (fun a0 =>
 .rn 0 [95] [] [] [] (aj a0 (al (u2 s2))) <|
 .br (fun a1 =>
  .gu fun a2 =>
  .el fun x56 a3 =>
  .lp [101] [(56, AV.bool x56)] [] [] [] [0] [1, 9, 10, 45, 46] (aj (aj (u2 (u2 (ag a1 (ag a1 (ag a1 (ag a1 (aj (aj a1 t3) (aj (aj a1 (k2 (aj a2 (getMap (f := AV.bool) a3)))) (ag a1 (ag a1 (ag a1 s2))))))))))) (al (u2 s2))) t7))
 (fun a1 =>
  .lp [100] [] [] [] [] [0] [1, 9, 10, 45, 46] (aj (aj (u2 (u2 (aj a1 (aj a1 (aj a1 (aj a1 (aj a1 (aj a1 (aj a1 (aj a1 (ag a1 s2))))))))))) (al (u2 s2))) t7)))
 (fun a0 =>
 .rt [94] [] [] [] [] [] (aj (aj a0 (al (u2 (u2 t2)))) (al t3)))) (by kernel_rfl)
theorem cOp_ct (n : NetD) (sh : List Bool) (sp : Int) (r : Ret) (h : MReach (cOpStep n sh sp) (cOpEn n sh sp) r) : CT Tryd.prog 19 ([]) ([netA n, .lst (boL sh), .int .i64 sp]) r.1 r.2 :=
  CT.mach (fn := Tryd.f19) (c := bodyOf Tryd.f19) (S := cOpSt n sh sp) (hd := cOpHd) Tryd.func19 (by kernel_rfl) (Nat.le_of_ble_eq_true rfl)
    (fun s o ho => match s, ho with
      | .l0 v0 v1 v2, ho => cOpS0_ok n sh sp v0 v1 v2 o ho
    )
    (fun o ho => cOpEn_ok n sh sp o ho) h
noncomputable def rooSt (n : NetD) (sh : List Bool) (sp : Int) : Empty → St
  | x => x.elim
def rooHd : Empty → Nat
  | x => x.elim
noncomputable def rooEn (n : NetD) (sh : List Bool) (sp : Int) : Option (Empty ⊕ Ret) :=
  gu (Rows n.nx) <|
  br (!valB n)
  (some (.inr ([], AV.tup [AV.bool false, AV.int IntKind.i64 20])))
  (br (decide (sp < 0))
   (some (.inr ([], AV.tup [AV.bool false, AV.int IntKind.i64 19])))
   (br (decide (iN (List.map sA n.ss).length ≤ sp))
    (some (.inr ([], AV.tup [AV.bool false, AV.int IntKind.i64 19])))
    (gu (ValidN n) <|
     br (iN (boL sh).length != iN (celN n))
     (some (.inr ([], AV.tup [AV.bool false, AV.int IntKind.i64 19])))
     (gu (sh.length = celN n) <|
      gu (0 ≤ sp ∧ sp < iN n.ss.length) <|
      some (.inr ([], AV.tup [AV.bool (opB n sh sp), AV.int IntKind.i64 0]))))))
noncomputable def rooStep (n : NetD) (sh : List Bool) (sp : Int) : Empty → Option (Empty ⊕ Ret)
  | x => x.elim
theorem rooEn_ok (n : NetD) (sh : List Bool) (sp : Int) (o : Empty ⊕ Ret) (h : rooEn n sh sp = some o) : Arr Tryd.prog Tryd.f28 0 (rooSt n sh sp) rooHd (bodyOf Tryd.f28) [] { n := Tryd.f28.ntmps, fr := enumF 0 ([netA n, .lst (boL sh), .int .i64 sp]), hp := ([]) } o :=
 Scr.ok h mix (
 .rn 0 [] [] [] [] (al (u2 t3)) <|
 .gu fun a0 =>
 have c0 := rvalid_net_ct a0;
 .rn 0 [] [] [(9, hK c0 [] [])] [] (al (u2 (aj (ak (aj t9 (al (c0)))) s2))) <|
 .br (fun a1 =>
 .rt [21] [] [] [] [] [] (aj (aj a1 (al t3)) (al t3)))
 (fun a1 =>
 .br (fun a2 =>
  .rt [20, 27] [] [] [] [] [] (aj (aj a1 (aj (u2 (u2 (u2 (aj a2 (aj a2 (aj a2 (aj a2 (aj a2 (ag a2 (u2 (k5 (al t3)))))))))))) (ak (al t3)))) (al t3)))
 (fun a2 =>
  .br (fun a3 =>
  .rt [20, 26, 41] [] [] [] [] [] (aj (aj a1 (aj (u2 (u2 (u2 (ag a2 (ag a2 (ag a2 (ag a2 (aj (aj a2 t3) (ag a2 (u2 (aj a3 (aj a3 (aj a3 (aj a3 (aj a3 (al (aj a3 t2))))))))))))))))) (ak (al t3)))) (al t3)))
  (fun a3 =>
  .gu fun a4 =>
  have c1 := cells_ct a4;
  .rn 0 [20, 26, 40] [] [(24, hK c1 [] [])] [] (aj a1 (al (u2 (u2 (u2 (ag a2 (ag a2 (ag a2 (ag a2 (aj (aj a2 t3) (ag a2 (u2 (ag a3 (ag a3 (ag a3 (aj (aj a3 (ak (aj t9 (al (c1))))) (aj (aj a3 t3) (al (aj a3 t2))))))))))))))))))) <|
  .br (fun a5 =>
   .rt [26, 40, 53] [] [] [] [] [] (aj (aj a5 (al t3)) (al t3)))
  (fun a5 =>
   .gu fun a6 =>
   .gu fun a7 =>
   have c2 := ropen_ct (n) (sh) (sp) a4 a6 a7;
   .rt [26, 40, 52] [] [(30, hK c2 [] [])] [] [] [] (aj (aj a5 (al (u2 (u2 (u2 (aj (k3 (aj t9 (k2 (al (c2))))) (u2 t2))))))) (al t3))))))) (by kernel_rfl)
theorem roo_ct (n : NetD) (sh : List Bool) (sp : Int) (r : Ret) (h : MReach (rooStep n sh sp) (rooEn n sh sp) r) : CT Tryd.prog 28 ([]) ([netA n, .lst (boL sh), .int .i64 sp]) r.1 r.2 :=
  CT.mach (fn := Tryd.f28) (c := bodyOf Tryd.f28) (S := rooSt n sh sp) (hd := rooHd) Tryd.func28 (by kernel_rfl) (Nat.le_of_ble_eq_true rfl)
    (fun s o ho => match s, ho with
      | x, _ => x.elim)
    (fun o ho => rooEn_ok n sh sp o ho) h
noncomputable def rnmSt (n : NetD) (c : Int) : Empty → St
  | x => x.elim
def rnmHd : Empty → Nat
  | x => x.elim
noncomputable def rnmEn (n : NetD) (c : Int) : Option (Empty ⊕ Ret) :=
  gu (Rows n.nx) <|
  br (ckE n c != 0)
  (some (.inr ([], AV.tup [AV.str (ByteArray.mk #[]), AV.int IntKind.i64 (ckE n c)])))
  (gu (ValidN n) <|
   gu (-1000 ≤ c ∧ c ≤ 1000) <|
   br (decide (plI n c < 0))
   (gu (0 ≤ c) <|
    el (n.bs) (c.toNat) fun (x26 : BlkD) =>
    some (.inr ([], AV.tup [AV.str x26.nm, AV.int IntKind.i64 0])))
   (gu (0 ≤ plI n c) <|
    el (n.ss) ((plI n c).toNat) fun (x32 : SpuD) =>
    gu ((x32.nm.size + 1).le 9223372036854775807) <|
    gu (1 ≤ plJ n c ∧ plJ n c ≤ 4) <|
    gu (((x32.nm ++ ByteArray.mk #[47]).size + (digB (plJ n c).toNat).size).le 9223372036854775807) <|
    some (.inr ([], AV.tup [AV.str (x32.nm ++ ByteArray.mk #[47] ++ digB (plJ n c).toNat), AV.int IntKind.i64 0]))))
noncomputable def rnmStep (n : NetD) (c : Int) : Empty → Option (Empty ⊕ Ret)
  | x => x.elim
theorem rnmEn_ok (n : NetD) (c : Int) (o : Empty ⊕ Ret) (h : rnmEn n c = some o) : Arr Tryd.prog Tryd.f29 0 (rnmSt n c) rnmHd (bodyOf Tryd.f29) [] { n := Tryd.f29.ntmps, fr := enumF 0 ([netA n, .int .i64 c]), hp := ([]) } o :=
 Scr.ok h mix (
 .rn 0 [] [] [] [] (al (u2 t3)) <|
 .gu fun a0 =>
 have c0 := rck_c (n) (c) a0;
 .rn 1 [] [] [(11, hK c0 [] [])] [] (aj (u2 (u2 (aj (k2 (aj t9 (ak (al (c0))))) s2))) (al (u2 s2))) <|
 .br (fun a1 =>
 .rt [27] [] [] [] [] [] (aj (aj a1 (al (u2 (ak s2)))) (al t3)))
 (fun a1 =>
 .gu fun a2 =>
 .gu fun a3 =>
 have c1 := rplace_ct a2 (c) a3;
 .rn 1 [26] [] [(18, hK c1 [] [])] [] (aj a1 (aj (u2 (u2 (aj (k2 (aj t9 (ak (al (c1))))) (u2 (u2 (u2 (u2 s2))))))) (al (u2 s2)))) <|
 .br (fun a4 =>
  .gu fun a5 =>
  .el fun x26 a6 =>
  .rt [45] [(26, bA x26)] [] [] [] [] (aj (aj a4 (al (u2 (u2 (u2 (aj (k2 (aj a5 (getMap (f := bA) a6))) (u2 (u2 (u2 t2))))))))) (al t3)))
 (fun a4 =>
  .gu fun a5 =>
  .el fun x32 a6 =>
  .gu fun a7 =>
  .gu fun a8 =>
  .gu fun a9 =>
  have c2 := dg_c (plJ n c) a8;
  .rt [44] [(32, sA x32)] [(37, hK c2 [] [])] [] [] [] (aj (aj a4 (al (u2 (u2 (u2 (aj (k2 (aj a5 (getMap (f := sA) a6))) (u2 (u2 (aj (ak a7) (u2 (aj (k2 (al (c2))) (aj (k2 a9) (u2 t2))))))))))))) (al t3))))) (by kernel_rfl)
theorem rnm_ct (n : NetD) (c : Int) (r : Ret) (h : MReach (rnmStep n c) (rnmEn n c) r) : CT Tryd.prog 29 ([]) ([netA n, .int .i64 c]) r.1 r.2 :=
  CT.mach (fn := Tryd.f29) (c := bodyOf Tryd.f29) (S := rnmSt n c) (hd := rnmHd) Tryd.func29 (by kernel_rfl) (Nat.le_of_ble_eq_true rfl)
    (fun s o ho => match s, ho with
      | x, _ => x.elim)
    (fun o ho => rnmEn_ok n c o ho) h
noncomputable def ex9St : Empty → St
  | x => x.elim
def ex9Hd : Empty → Nat
  | x => x.elim
noncomputable def ex9En : Option (Empty ⊕ Ret) :=
  some (.inr ([], AV.agg [AV.lst [AV.agg [AV.str (ByteArray.mk #[97]), AV.int IntKind.i64 0, AV.int IntKind.i64 0], AV.agg [AV.str (ByteArray.mk #[98]), AV.int IntKind.i64 0, AV.int IntKind.i64 0]], AV.lst [AV.lst [AV.int IntKind.i64 1], AV.lst [AV.int IntKind.i64 0]], AV.lst [AV.agg [AV.str (ByteArray.mk #[100]), AV.bool true, AV.int IntKind.i64 0, AV.int IntKind.i64 1, AV.int IntKind.i64 2, AV.int IntKind.i64 2]], AV.lst [AV.int IntKind.i64 3], AV.int IntKind.i64 4, AV.int IntKind.i64 2, AV.int IntKind.i64 1, AV.int IntKind.i64 8]))
noncomputable def ex9Step : Empty → Option (Empty ⊕ Ret)
  | x => x.elim
theorem ex9En_ok (o : Empty ⊕ Ret) (h : ex9En = some o) : Arr Tryd.prog Tryd.f30 0 (ex9St) ex9Hd (bodyOf Tryd.f30) [] { n := Tryd.f30.ntmps, fr := enumF 0 ([]), hp := ([]) } o :=
 Scr.ok h mix (
 .rt [] [(3, AV.lst []), (4, AV.lst []), (5, AV.lst []), (6, AV.lst []), (8, AV.lst []), (9, AV.lst [])] [] [] [] [] (aj (u2 (al (k2 (aj t3 (k2 (aj t3 (ak (u2 (k2 (aj t6 (al (k2 n11)))))))))))) (al t9))) (by kernel_rfl)
theorem ex9_ct (r : Ret) (h : MReach (ex9Step) (ex9En) r) : CT Tryd.prog 30 ([]) ([]) r.1 r.2 :=
  CT.mach (fn := Tryd.f30) (c := bodyOf Tryd.f30) (S := ex9St) (hd := ex9Hd) Tryd.func30 (by kernel_rfl) (Nat.le_of_ble_eq_true rfl)
    (fun s o ho => match s, ho with
      | x, _ => x.elim)
    (fun o ho => ex9En_ok o ho) h
noncomputable def fi1St : Empty → St
  | x => x.elim
def fi1Hd : Empty → Nat
  | x => x.elim
noncomputable def fi1En : Option (Empty ⊕ Ret) :=
  some (.inr ([], AV.str (digB 1)))
noncomputable def fi1Step : Empty → Option (Empty ⊕ Ret)
  | x => x.elim
theorem fi1En_ok (o : Empty ⊕ Ret) (h : fi1En = some o) : Arr Tryd.prog Tryd.f59 0 (fi1St) fi1Hd (bodyOf Tryd.f59) [] { n := Tryd.f59.ntmps, fr := enumF 0 ([.int .i64 1, .int .i64 10]), hp := ([]) } o :=
 Scr.ok h mix (
 have c0 := sm1_c;
 .rt [] [] [(19, hK c0 [] [])] [] [] [] (aj (u2 (aj (u2 s2) (ak (aj (u2 (u2 (u2 (aj t3 (aj t3 (al t3)))))) (ak (al (u2 (aj (k2 (al (c0))) s2)))))))) t2)) (by kernel_rfl)
theorem fi1_ct (r : Ret) (h : MReach (fi1Step) (fi1En) r) : CT Tryd.prog 59 ([]) ([.int .i64 1, .int .i64 10]) r.1 r.2 :=
  CT.mach (fn := Tryd.f59) (c := bodyOf Tryd.f59) (S := fi1St) (hd := fi1Hd) Tryd.func59 (by kernel_rfl) (Nat.le_of_ble_eq_true rfl)
    (fun s o ho => match s, ho with
      | x, _ => x.elim)
    (fun o ho => fi1En_ok o ho) h
noncomputable def fi2St : Empty → St
  | x => x.elim
def fi2Hd : Empty → Nat
  | x => x.elim
noncomputable def fi2En : Option (Empty ⊕ Ret) :=
  some (.inr ([], AV.str (digB 2)))
noncomputable def fi2Step : Empty → Option (Empty ⊕ Ret)
  | x => x.elim
theorem fi2En_ok (o : Empty ⊕ Ret) (h : fi2En = some o) : Arr Tryd.prog Tryd.f59 0 (fi2St) fi2Hd (bodyOf Tryd.f59) [] { n := Tryd.f59.ntmps, fr := enumF 0 ([.int .i64 2, .int .i64 10]), hp := ([]) } o :=
 Scr.ok h mix (
 have c0 := sm2_c;
 .rt [] [] [(19, hK c0 [] [])] [] [] [] (aj (u2 (aj (u2 s2) (ak (aj (u2 (u2 (u2 (aj t3 (aj t3 (al t3)))))) (ak (al (u2 (aj (k2 (al (c0))) s2)))))))) t2)) (by kernel_rfl)
theorem fi2_ct (r : Ret) (h : MReach (fi2Step) (fi2En) r) : CT Tryd.prog 59 ([]) ([.int .i64 2, .int .i64 10]) r.1 r.2 :=
  CT.mach (fn := Tryd.f59) (c := bodyOf Tryd.f59) (S := fi2St) (hd := fi2Hd) Tryd.func59 (by kernel_rfl) (Nat.le_of_ble_eq_true rfl)
    (fun s o ho => match s, ho with
      | x, _ => x.elim)
    (fun o ho => fi2En_ok o ho) h
noncomputable def fi3St : Empty → St
  | x => x.elim
def fi3Hd : Empty → Nat
  | x => x.elim
noncomputable def fi3En : Option (Empty ⊕ Ret) :=
  some (.inr ([], AV.str (digB 3)))
noncomputable def fi3Step : Empty → Option (Empty ⊕ Ret)
  | x => x.elim
theorem fi3En_ok (o : Empty ⊕ Ret) (h : fi3En = some o) : Arr Tryd.prog Tryd.f59 0 (fi3St) fi3Hd (bodyOf Tryd.f59) [] { n := Tryd.f59.ntmps, fr := enumF 0 ([.int .i64 3, .int .i64 10]), hp := ([]) } o :=
 Scr.ok h mix (
 have c0 := sm3_c;
 .rt [] [] [(19, hK c0 [] [])] [] [] [] (aj (u2 (aj (u2 s2) (ak (aj (u2 (u2 (u2 (aj t3 (aj t3 (al t3)))))) (ak (al (u2 (aj (k2 (al (c0))) s2)))))))) t2)) (by kernel_rfl)
theorem fi3_ct (r : Ret) (h : MReach (fi3Step) (fi3En) r) : CT Tryd.prog 59 ([]) ([.int .i64 3, .int .i64 10]) r.1 r.2 :=
  CT.mach (fn := Tryd.f59) (c := bodyOf Tryd.f59) (S := fi3St) (hd := fi3Hd) Tryd.func59 (by kernel_rfl) (Nat.le_of_ble_eq_true rfl)
    (fun s o ho => match s, ho with
      | x, _ => x.elim)
    (fun o ho => fi3En_ok o ho) h
noncomputable def fi4St : Empty → St
  | x => x.elim
def fi4Hd : Empty → Nat
  | x => x.elim
noncomputable def fi4En : Option (Empty ⊕ Ret) :=
  some (.inr ([], AV.str (digB 4)))
noncomputable def fi4Step : Empty → Option (Empty ⊕ Ret)
  | x => x.elim
theorem fi4En_ok (o : Empty ⊕ Ret) (h : fi4En = some o) : Arr Tryd.prog Tryd.f59 0 (fi4St) fi4Hd (bodyOf Tryd.f59) [] { n := Tryd.f59.ntmps, fr := enumF 0 ([.int .i64 4, .int .i64 10]), hp := ([]) } o :=
 Scr.ok h mix (
 have c0 := sm4_c;
 .rt [] [] [(19, hK c0 [] [])] [] [] [] (aj (u2 (aj (u2 s2) (ak (aj (u2 (u2 (u2 (aj t3 (aj t3 (al t3)))))) (ak (al (u2 (aj (k2 (al (c0))) s2)))))))) t2)) (by kernel_rfl)
theorem fi4_ct (r : Ret) (h : MReach (fi4Step) (fi4En) r) : CT Tryd.prog 59 ([]) ([.int .i64 4, .int .i64 10]) r.1 r.2 :=
  CT.mach (fn := Tryd.f59) (c := bodyOf Tryd.f59) (S := fi4St) (hd := fi4Hd) Tryd.func59 (by kernel_rfl) (Nat.le_of_ble_eq_true rfl)
    (fun s o ho => match s, ho with
      | x, _ => x.elim)
    (fun o ho => fi4En_ok o ho) h
noncomputable def cOB (n : NetD) (sh : List Bool) (sp : Int) : Bool := valB n && decide (0 ≤ sp) && decide (sp < n.ss.length) && decide (sh.length = celN n) && opB n sh sp
noncomputable def cOE (n : NetD) (sh : List Bool) (sp : Int) : Int := if csE n sp = 0 then (if sh.length = celN n then 0 else 19) else csE n sp
def shB (sh : List Bool) (s : SpuD) (j : Nat) : Bool := sh.getD (s.b + (j : Int)).toNat false
theorem fnd_or {p : Nat → Bool} : ∀ (k i : Nat), (fnd p i (k + 1)).isSome = ((fnd p i k).isSome || p (i + k)) := by
  intro k
  induction k with
  | zero => intro i; simp only [fnd, Nat.add_zero]; cases p i <;> rfl
  | succ k ih =>
    intro i
    have h := ih (i + 1)
    rw [show i + (k + 1) = i + 1 + k by omega]
    show (fnd p i ((k + 1) + 1)).isSome = ((fnd p i (k + 1)).isSome || p (i + 1 + k))
    unfold fnd
    cases p i with
    | true => rfl
    | false => exact h
def opJ (sh : List Bool) (s : SpuD) (j : Nat) : Bool := !(sh.getD s.i.toNat false) && !(sh.getD s.o.toNat false) && !(fnd (shB sh s) 0 j).isSome
theorem opJ_succ (sh : List Bool) (s : SpuD) (j : Nat) : opJ sh s (j + 1) = (opJ sh s j && !shB sh s j) := by
  unfold opJ
  rw [fnd_or, Nat.zero_add]
  cases sh.getD s.i.toNat false <;> cases sh.getD s.o.toNat false <;> cases (fnd (shB sh s) 0 j).isSome <;> cases shB sh s j <;> rfl
theorem opJ_end (sh : List Bool) (s : SpuD) : opJ sh s s.k.toNat = openB sh s := rfl
theorem get_sh {sh : List Bool} {c : Int} (h0 : 0 ≤ c) (h1 : c < sh.length) : sh[c.toNat]? = some (sh.getD c.toNat false) := by
  have hl : c.toNat < sh.length := by omega
  rw [List.getD_eq_getElem?_getD, List.getElem?_eq_getElem hl]; rfl
theorem cOpen_ct {n : NetD} (hrw : Rows n.nx) (sh : List Bool) (sp : Int) : CT Tryd.prog 19 [] [netA n, .lst (boL sh), .int .i64 sp] [] (.tup [.bool (cOB n sh sp), .int .i64 (cOE n sh sp)]) := by
  refine cOp_ct n sh sp ([], _) ?_
  unfold cOpEn cOB cOE
  rw [gu_t hrw]
  by_cases h : csE n sp = 0
  · obtain ⟨hv, h0, h1⟩ := csE_zero h
    obtain ⟨i, rfl⟩ : ∃ i : Nat, sp = i := ⟨sp.toNat, by omega⟩
    obtain ⟨s, hs⟩ : ∃ s, n.ss[i]? = some s := ⟨_, List.getElem?_eq_getElem (by omega)⟩
    have e := hv.ends hs
    have sb := hv.sb hs
    rw [br_f (by simp [h]), gu_t hv, if_pos h, valB_iff.2 hv, dec_t h0, dec_t h1]
    by_cases hl : sh.length = celN n
    · rw [br_f (by simp [iN, boL, hl]), gu_t h0, Int.toNat_natCast, el_t hs, gu_t e.1, el_t (get_sh e.1 (by omega)), dec_t hl, if_pos hl]
      have ho : opB n sh (i : Int) = openB sh s := by unfold opB; rw [Int.toNat_natCast, hs]
      rw [ho, ← opJ_end]
      simp only [Bool.true_and]
      have loop : MReach (cOpStep n sh (i : Int)) (some (.inl (.l0 (opJ sh s 0) s 0))) (([], .tup [.bool (opJ sh s s.k.toNat), .int .i64 0]) : Ret) := by
        refine loop_up (fun j => cOpPc.l0 (opJ sh s j) s (j : Int)) s.k.toNat (fun j hj hr => .to ?_ hr) (.to ?_ (.ret _))
        · show cOpS0 n sh i _ s j = _
          unfold cOpS0
          rw [br_t (dec_t (by omega)), opJ_succ, wrapS (s.b + (j : Int)) (by omega) (by omega), wrap_nat j (by omega)]
          cases opJ sh s j with
          | false => rfl
          | true =>
            rw [br_t rfl, gu_t (by omega), el_t (get_sh (by omega) (by omega))]; rfl
        · show cOpS0 n sh i _ s _ = _
          unfold cOpS0
          rw [br_f (dec_f (by omega))]
      have z : opJ sh s 0 = (!(sh.getD s.i.toNat false) && !(sh.getD s.o.toNat false)) := by unfold opJ; simp [fnd]
      rw [z] at loop
      cases h3 : sh.getD s.i.toNat false with
      | true => rw [h3] at loop; exact loop
      | false =>
        rw [h3] at loop
        rw [br_t (by rfl), gu_t (by omega), el_t (get_sh e.2.2.1 (by omega))]
        exact loop
    · rw [br_t (by simp [iN, boL]; omega), dec_f hl, if_neg hl]; simp; exact .ret _
  · rw [br_t (by simpa using h), if_neg h]
    have : (valB n && decide (0 ≤ sp) && decide (sp < n.ss.length)) = false := by
      cases hv : valB n with
      | false => rfl
      | true =>
        unfold csE at h
        rw [if_pos hv] at h
        by_cases a : 0 ≤ sp
        · by_cases b : sp < n.ss.length
          · rw [if_neg (by omega)] at h; exact absurd rfl h
          · simp [b]
        · simp [a]
    rw [this]; exact .ret _
theorem hd9_c (n : NetD) (q : Int) (hrw : Rows n.nx) : CT Tryd.prog 15 [] [netA n, .int .i64 q] [] (.tup [.int .i64 (hdZ n q), .int .i64 (csE n q)]) := by
  refine hd9_ct n q ([], _) (.val ?_)
  unfold hd9En hdZ
  rw [gu_t hrw]
  by_cases h : csE n q = 0
  · obtain ⟨hv, h0, h1⟩ := csE_zero h
    have hs := getE s0 (show q.toNat < n.ss.length by omega)
    have hb := hv.sb hs
    rw [br_f (by rw [h]; rfl), gu_t h0, el_t hs, el_t hs, if_pos h, h]
    unfold headS
    generalize n.ss.getD q.toNat s0 = s at hb
    have w1 : IntKind.i64.wrap (s.b + s.k) = s.b + s.k := wrap_in (by omega) (by omega)
    have w2 : IntKind.i64.wrap (s.b + s.k - 1) = s.b + s.k - 1 := wrap_in (by omega) (by omega)
    rw [w1, w2]
  · rw [br_t (bne_iff_ne.2 h), if_neg h]
theorem roo_c {n : NetD} (hrw : Rows n.nx) (sh : List Bool) (sp : Int) : CT Tryd.prog 28 [] [netA n, .lst (boL sh), .int .i64 sp] [] (.tup [.bool (cOB n sh sp), .int .i64 (cOE n sh sp)]) := by
  have hL : (List.map AV.bool sh).length = sh.length := List.length_map _
  refine roo_ct n sh sp ([], _) (.val ?_)
  unfold rooEn cOB cOE csE
  rw [gu_t hrw]
  cases hv : valB n with
  | false => rfl
  | true =>
    rw [br_f (by rfl)]
    by_cases h0 : sp < 0
    · rw [br_t (dec_t h0), dec_f (show ¬ 0 ≤ sp by omega)]; simp [h0]
    · by_cases h1 : (n.ss.length : Int) ≤ sp
      · rw [br_f (dec_f h0), br_t (dec_t (by simp only [iN, List.length_map]; omega)), dec_f (show ¬ sp < n.ss.length by omega)]; simp [h1]
      · by_cases h2 : sh.length = celN n
        · rw [br_f (dec_f h0), br_f (dec_f (by simp only [iN, List.length_map]; omega)), gu_t (valB_iff.1 hv), br_f (by simp [iN, boL, h2]), gu_t h2, gu_t ⟨by omega, by simp only [iN]; omega⟩, dec_t (show 0 ≤ sp by omega), dec_t (show sp < n.ss.length by omega), dec_t h2]
          simp [h0, h1, h2]
        · rw [br_f (dec_f h0), br_f (dec_f (by simp only [iN, List.length_map]; omega)), gu_t (valB_iff.1 hv), br_t (by simp [iN, boL]; omega), dec_f h2]
          simp [h0, h1, h2]
theorem fi1_c : CT Tryd.prog 59 [] [.int .i64 1, .int .i64 10] [] (.str (digB 1)) := fi1_ct ([], _) (.val (show fi1En = _ by unfold fi1En; rfl))
theorem fi2_c : CT Tryd.prog 59 [] [.int .i64 2, .int .i64 10] [] (.str (digB 2)) := fi2_ct ([], _) (.val (show fi2En = _ by unfold fi2En; rfl))
theorem fi3_c : CT Tryd.prog 59 [] [.int .i64 3, .int .i64 10] [] (.str (digB 3)) := fi3_ct ([], _) (.val (show fi3En = _ by unfold fi3En; rfl))
theorem fi4_c : CT Tryd.prog 59 [] [.int .i64 4, .int .i64 10] [] (.str (digB 4)) := fi4_ct ([], _) (.val (show fi4En = _ by unfold fi4En; rfl))
noncomputable def ii1St : Empty → St
  | x => x.elim
def ii1Hd : Empty → Nat
  | x => x.elim
noncomputable def ii1En : Option (Empty ⊕ Ret) :=
  some (.inr ([], AV.str (digB 1)))
noncomputable def ii1Step : Empty → Option (Empty ⊕ Ret)
  | x => x.elim
theorem ii1En_ok (o : Empty ⊕ Ret) (h : ii1En = some o) : Arr Tryd.prog Tryd.f51 0 (ii1St) ii1Hd (bodyOf Tryd.f51) [] { n := Tryd.f51.ntmps, fr := enumF 0 ([.int .i64 1]), hp := ([]) } o :=
 Scr.ok h mix (
 have c0 := fi1_c;
 .rt [] [] [(4, hK c0 [] [])] [] [] [] (aj (u2 (al (u2 (aj (k3 (al (c0))) s2)))) t2)) (by kernel_rfl)
theorem ii1_ct (r : Ret) (h : MReach (ii1Step) (ii1En) r) : CT Tryd.prog 51 ([]) ([.int .i64 1]) r.1 r.2 :=
  CT.mach (fn := Tryd.f51) (c := bodyOf Tryd.f51) (S := ii1St) (hd := ii1Hd) Tryd.func51 (by kernel_rfl) (Nat.le_of_ble_eq_true rfl)
    (fun s o ho => match s, ho with
      | x, _ => x.elim)
    (fun o ho => ii1En_ok o ho) h
noncomputable def ii2St : Empty → St
  | x => x.elim
def ii2Hd : Empty → Nat
  | x => x.elim
noncomputable def ii2En : Option (Empty ⊕ Ret) :=
  some (.inr ([], AV.str (digB 2)))
noncomputable def ii2Step : Empty → Option (Empty ⊕ Ret)
  | x => x.elim
theorem ii2En_ok (o : Empty ⊕ Ret) (h : ii2En = some o) : Arr Tryd.prog Tryd.f51 0 (ii2St) ii2Hd (bodyOf Tryd.f51) [] { n := Tryd.f51.ntmps, fr := enumF 0 ([.int .i64 2]), hp := ([]) } o :=
 Scr.ok h mix (
 have c0 := fi2_c;
 .rt [] [] [(4, hK c0 [] [])] [] [] [] (aj (u2 (al (u2 (aj (k3 (al (c0))) s2)))) t2)) (by kernel_rfl)
theorem ii2_ct (r : Ret) (h : MReach (ii2Step) (ii2En) r) : CT Tryd.prog 51 ([]) ([.int .i64 2]) r.1 r.2 :=
  CT.mach (fn := Tryd.f51) (c := bodyOf Tryd.f51) (S := ii2St) (hd := ii2Hd) Tryd.func51 (by kernel_rfl) (Nat.le_of_ble_eq_true rfl)
    (fun s o ho => match s, ho with
      | x, _ => x.elim)
    (fun o ho => ii2En_ok o ho) h
noncomputable def ii3St : Empty → St
  | x => x.elim
def ii3Hd : Empty → Nat
  | x => x.elim
noncomputable def ii3En : Option (Empty ⊕ Ret) :=
  some (.inr ([], AV.str (digB 3)))
noncomputable def ii3Step : Empty → Option (Empty ⊕ Ret)
  | x => x.elim
theorem ii3En_ok (o : Empty ⊕ Ret) (h : ii3En = some o) : Arr Tryd.prog Tryd.f51 0 (ii3St) ii3Hd (bodyOf Tryd.f51) [] { n := Tryd.f51.ntmps, fr := enumF 0 ([.int .i64 3]), hp := ([]) } o :=
 Scr.ok h mix (
 have c0 := fi3_c;
 .rt [] [] [(4, hK c0 [] [])] [] [] [] (aj (u2 (al (u2 (aj (k3 (al (c0))) s2)))) t2)) (by kernel_rfl)
theorem ii3_ct (r : Ret) (h : MReach (ii3Step) (ii3En) r) : CT Tryd.prog 51 ([]) ([.int .i64 3]) r.1 r.2 :=
  CT.mach (fn := Tryd.f51) (c := bodyOf Tryd.f51) (S := ii3St) (hd := ii3Hd) Tryd.func51 (by kernel_rfl) (Nat.le_of_ble_eq_true rfl)
    (fun s o ho => match s, ho with
      | x, _ => x.elim)
    (fun o ho => ii3En_ok o ho) h
noncomputable def ii4St : Empty → St
  | x => x.elim
def ii4Hd : Empty → Nat
  | x => x.elim
noncomputable def ii4En : Option (Empty ⊕ Ret) :=
  some (.inr ([], AV.str (digB 4)))
noncomputable def ii4Step : Empty → Option (Empty ⊕ Ret)
  | x => x.elim
theorem ii4En_ok (o : Empty ⊕ Ret) (h : ii4En = some o) : Arr Tryd.prog Tryd.f51 0 (ii4St) ii4Hd (bodyOf Tryd.f51) [] { n := Tryd.f51.ntmps, fr := enumF 0 ([.int .i64 4]), hp := ([]) } o :=
 Scr.ok h mix (
 have c0 := fi4_c;
 .rt [] [] [(4, hK c0 [] [])] [] [] [] (aj (u2 (al (u2 (aj (k3 (al (c0))) s2)))) t2)) (by kernel_rfl)
theorem ii4_ct (r : Ret) (h : MReach (ii4Step) (ii4En) r) : CT Tryd.prog 51 ([]) ([.int .i64 4]) r.1 r.2 :=
  CT.mach (fn := Tryd.f51) (c := bodyOf Tryd.f51) (S := ii4St) (hd := ii4Hd) Tryd.func51 (by kernel_rfl) (Nat.le_of_ble_eq_true rfl)
    (fun s o ho => match s, ho with
      | x, _ => x.elim)
    (fun o ho => ii4En_ok o ho) h
theorem ii1_c : CT Tryd.prog 51 [] [.int .i64 1] [] (.str (digB 1)) := ii1_ct ([], _) (.val (show ii1En = _ by unfold ii1En; rfl))
theorem ii2_c : CT Tryd.prog 51 [] [.int .i64 2] [] (.str (digB 2)) := ii2_ct ([], _) (.val (show ii2En = _ by unfold ii2En; rfl))
theorem ii3_c : CT Tryd.prog 51 [] [.int .i64 3] [] (.str (digB 3)) := ii3_ct ([], _) (.val (show ii3En = _ by unfold ii3En; rfl))
theorem ii4_c : CT Tryd.prog 51 [] [.int .i64 4] [] (.str (digB 4)) := ii4_ct ([], _) (.val (show ii4En = _ by unfold ii4En; rfl))
noncomputable def it1St : Empty → St
  | x => x.elim
def it1Hd : Empty → Nat
  | x => x.elim
noncomputable def it1En : Option (Empty ⊕ Ret) :=
  some (.inr ([], AV.str (digB 1)))
noncomputable def it1Step : Empty → Option (Empty ⊕ Ret)
  | x => x.elim
theorem it1En_ok (o : Empty ⊕ Ret) (h : it1En = some o) : Arr Tryd.prog Tryd.f36 0 (it1St) it1Hd (bodyOf Tryd.f36) [] { n := Tryd.f36.ntmps, fr := enumF 0 ([.int .i64 1]), hp := ([]) } o :=
 Scr.ok h mix (
 have c0 := ii1_c;
 .rt [] [] [(4, hK c0 [] [])] [] [] [] (aj (u2 (al (u2 (aj (k2 (al (c0))) s2)))) t2)) (by kernel_rfl)
theorem it1_ct (r : Ret) (h : MReach (it1Step) (it1En) r) : CT Tryd.prog 36 ([]) ([.int .i64 1]) r.1 r.2 :=
  CT.mach (fn := Tryd.f36) (c := bodyOf Tryd.f36) (S := it1St) (hd := it1Hd) Tryd.func36 (by kernel_rfl) (Nat.le_of_ble_eq_true rfl)
    (fun s o ho => match s, ho with
      | x, _ => x.elim)
    (fun o ho => it1En_ok o ho) h
noncomputable def it2St : Empty → St
  | x => x.elim
def it2Hd : Empty → Nat
  | x => x.elim
noncomputable def it2En : Option (Empty ⊕ Ret) :=
  some (.inr ([], AV.str (digB 2)))
noncomputable def it2Step : Empty → Option (Empty ⊕ Ret)
  | x => x.elim
theorem it2En_ok (o : Empty ⊕ Ret) (h : it2En = some o) : Arr Tryd.prog Tryd.f36 0 (it2St) it2Hd (bodyOf Tryd.f36) [] { n := Tryd.f36.ntmps, fr := enumF 0 ([.int .i64 2]), hp := ([]) } o :=
 Scr.ok h mix (
 have c0 := ii2_c;
 .rt [] [] [(4, hK c0 [] [])] [] [] [] (aj (u2 (al (u2 (aj (k2 (al (c0))) s2)))) t2)) (by kernel_rfl)
theorem it2_ct (r : Ret) (h : MReach (it2Step) (it2En) r) : CT Tryd.prog 36 ([]) ([.int .i64 2]) r.1 r.2 :=
  CT.mach (fn := Tryd.f36) (c := bodyOf Tryd.f36) (S := it2St) (hd := it2Hd) Tryd.func36 (by kernel_rfl) (Nat.le_of_ble_eq_true rfl)
    (fun s o ho => match s, ho with
      | x, _ => x.elim)
    (fun o ho => it2En_ok o ho) h
noncomputable def it3St : Empty → St
  | x => x.elim
def it3Hd : Empty → Nat
  | x => x.elim
noncomputable def it3En : Option (Empty ⊕ Ret) :=
  some (.inr ([], AV.str (digB 3)))
noncomputable def it3Step : Empty → Option (Empty ⊕ Ret)
  | x => x.elim
theorem it3En_ok (o : Empty ⊕ Ret) (h : it3En = some o) : Arr Tryd.prog Tryd.f36 0 (it3St) it3Hd (bodyOf Tryd.f36) [] { n := Tryd.f36.ntmps, fr := enumF 0 ([.int .i64 3]), hp := ([]) } o :=
 Scr.ok h mix (
 have c0 := ii3_c;
 .rt [] [] [(4, hK c0 [] [])] [] [] [] (aj (u2 (al (u2 (aj (k2 (al (c0))) s2)))) t2)) (by kernel_rfl)
theorem it3_ct (r : Ret) (h : MReach (it3Step) (it3En) r) : CT Tryd.prog 36 ([]) ([.int .i64 3]) r.1 r.2 :=
  CT.mach (fn := Tryd.f36) (c := bodyOf Tryd.f36) (S := it3St) (hd := it3Hd) Tryd.func36 (by kernel_rfl) (Nat.le_of_ble_eq_true rfl)
    (fun s o ho => match s, ho with
      | x, _ => x.elim)
    (fun o ho => it3En_ok o ho) h
noncomputable def it4St : Empty → St
  | x => x.elim
def it4Hd : Empty → Nat
  | x => x.elim
noncomputable def it4En : Option (Empty ⊕ Ret) :=
  some (.inr ([], AV.str (digB 4)))
noncomputable def it4Step : Empty → Option (Empty ⊕ Ret)
  | x => x.elim
theorem it4En_ok (o : Empty ⊕ Ret) (h : it4En = some o) : Arr Tryd.prog Tryd.f36 0 (it4St) it4Hd (bodyOf Tryd.f36) [] { n := Tryd.f36.ntmps, fr := enumF 0 ([.int .i64 4]), hp := ([]) } o :=
 Scr.ok h mix (
 have c0 := ii4_c;
 .rt [] [] [(4, hK c0 [] [])] [] [] [] (aj (u2 (al (u2 (aj (k2 (al (c0))) s2)))) t2)) (by kernel_rfl)
theorem it4_ct (r : Ret) (h : MReach (it4Step) (it4En) r) : CT Tryd.prog 36 ([]) ([.int .i64 4]) r.1 r.2 :=
  CT.mach (fn := Tryd.f36) (c := bodyOf Tryd.f36) (S := it4St) (hd := it4Hd) Tryd.func36 (by kernel_rfl) (Nat.le_of_ble_eq_true rfl)
    (fun s o ho => match s, ho with
      | x, _ => x.elim)
    (fun o ho => it4En_ok o ho) h
theorem it1_c : CT Tryd.prog 36 [] [.int .i64 1] [] (.str (digB 1)) := it1_ct ([], _) (.val (show it1En = _ by unfold it1En; rfl))
theorem it2_c : CT Tryd.prog 36 [] [.int .i64 2] [] (.str (digB 2)) := it2_ct ([], _) (.val (show it2En = _ by unfold it2En; rfl))
theorem it3_c : CT Tryd.prog 36 [] [.int .i64 3] [] (.str (digB 3)) := it3_ct ([], _) (.val (show it3En = _ by unfold it3En; rfl))
theorem it4_c : CT Tryd.prog 36 [] [.int .i64 4] [] (.str (digB 4)) := it4_ct ([], _) (.val (show it4En = _ by unfold it4En; rfl))
theorem it_c (k : Int) (h : 1 ≤ k ∧ k ≤ 4) : CT Tryd.prog 36 [] [.int .i64 k] [] (.str (digB k.toNat)) := by
  obtain rfl | rfl | rfl | rfl : k = 1 ∨ k = 2 ∨ k = 3 ∨ k = 4 := by omega
  · exact it1_c
  · exact it2_c
  · exact it3_c
  · exact it4_c
noncomputable def namSt (n : NetD) (c : Int) : Empty → St
  | x => x.elim
def namHd : Empty → Nat
  | x => x.elim
noncomputable def namEn (n : NetD) (c : Int) : Option (Empty ⊕ Ret) :=
  gu (Rows n.nx) <|
  br (ckE n c != 0)
  (some (.inr ([], AV.tup [AV.str (ByteArray.mk #[]), AV.int IntKind.i64 (ckE n c)])))
  (gu (ValidN n) <|
   gu (-1000 ≤ c ∧ c ≤ 1000) <|
   br (decide (plI n c < 0))
   (gu (0 ≤ c) <|
    el (n.bs) (c.toNat) fun (x26 : BlkD) =>
    some (.inr ([], AV.tup [AV.str x26.nm, AV.int IntKind.i64 0])))
   (gu (0 ≤ plI n c) <|
    el (n.ss) ((plI n c).toNat) fun (x32 : SpuD) =>
    gu ((x32.nm.size + 1).le 9223372036854775807) <|
    gu (1 ≤ plJ n c ∧ plJ n c ≤ 4) <|
    gu (((x32.nm ++ ByteArray.mk #[47]).size + (digB (plJ n c).toNat).size).le 9223372036854775807) <|
    some (.inr ([], AV.tup [AV.str (x32.nm ++ ByteArray.mk #[47] ++ digB (plJ n c).toNat), AV.int IntKind.i64 0]))))
noncomputable def namStep (n : NetD) (c : Int) : Empty → Option (Empty ⊕ Ret)
  | x => x.elim
theorem namEn_ok (n : NetD) (c : Int) (o : Empty ⊕ Ret) (h : namEn n c = some o) : Arr Tryd.prog Tryd.f14 0 (namSt n c) namHd (bodyOf Tryd.f14) [] { n := Tryd.f14.ntmps, fr := enumF 0 ([netA n, .int .i64 c]), hp := ([]) } o :=
 Scr.ok h mix (
 .rn 0 [] [] [] [] (al (u2 t3)) <|
 .gu fun a0 =>
 have c0 := ck_c (n) (c) a0;
 .rn 1 [] [] [(11, hK c0 [] [])] [] (aj (u2 (u2 (aj (k2 (aj t9 (ak (al (c0))))) s2))) (al (u2 s2))) <|
 .br (fun a1 =>
 .rt [27] [] [] [] [] [] (aj (aj a1 (al (u2 (ak s2)))) (al t3)))
 (fun a1 =>
 .gu fun a2 =>
 .gu fun a3 =>
 have c1 := place_ct a2 (c) a3;
 .rn 1 [26] [] [(18, hK c1 [] [])] [] (aj a1 (aj (u2 (u2 (aj (k2 (aj t9 (ak (al (c1))))) (u2 (u2 (u2 (u2 s2))))))) (al (u2 s2)))) <|
 .br (fun a4 =>
  .gu fun a5 =>
  .el fun x26 a6 =>
  .rt [45] [(26, bA x26)] [] [] [] [] (aj (aj a4 (al (u2 (u2 (u2 (aj (k2 (aj a5 (getMap (f := bA) a6))) (u2 (u2 (u2 t2))))))))) (al t3)))
 (fun a4 =>
  .gu fun a5 =>
  .el fun x32 a6 =>
  .gu fun a7 =>
  .gu fun a8 =>
  .gu fun a9 =>
  have c2 := it_c (plJ n c) a8;
  .rt [44] [(32, sA x32)] [(37, hK c2 [] [])] [] [] [] (aj (aj a4 (al (u2 (u2 (u2 (aj (k2 (aj a5 (getMap (f := sA) a6))) (u2 (u2 (aj (ak a7) (u2 (aj (k2 (al (c2))) (aj (k2 a9) (u2 t2))))))))))))) (al t3))))) (by kernel_rfl)
theorem nam_ct (n : NetD) (c : Int) (r : Ret) (h : MReach (namStep n c) (namEn n c) r) : CT Tryd.prog 14 ([]) ([netA n, .int .i64 c]) r.1 r.2 :=
  CT.mach (fn := Tryd.f14) (c := bodyOf Tryd.f14) (S := namSt n c) (hd := namHd) Tryd.func14 (by kernel_rfl) (Nat.le_of_ble_eq_true rfl)
    (fun s o ho => match s, ho with
      | x, _ => x.elim)
    (fun o ho => namEn_ok n c o ho) h
inductive sinPc where
  | l0 (v0 : Int)
noncomputable def sinSt (l q : List Int) : sinPc → St
  | .l0 v0 => St.mk 26 [(0, AV.lst (List.map (iv) l)), (1, AV.lst (List.map (iv) q)), (5, iv v0)] []
def sinHd : sinPc → Nat
  | .l0 _ => 0
noncomputable def sinEn (l q : List Int) : Option (sinPc ⊕ Ret) :=
  br (iN (List.map (AV.int IntKind.i64) l).length != iN (List.map (AV.int IntKind.i64) q).length)
  (some (.inr ([], AV.bool false)))
  (some (.inl (.l0 ((0 : Int)))))
noncomputable def sinS0 (l q : List Int) (v0 : Int) : Option (sinPc ⊕ Ret) :=
  br (decide (v0 < iN (List.map (AV.int IntKind.i64) l).length))
  (gu (0 ≤ v0) <|
   el (l) (v0.toNat) fun (x19 : Int) =>
   el (q) (v0.toNat) fun (x23 : Int) =>
   br (x19 != x23)
   (some (.inr ([], AV.bool false)))
   (some (.inl (.l0 (IntKind.i64.wrap (v0 + 1))))))
  (some (.inr ([], AV.bool true)))
noncomputable def sinStep (l q : List Int) : sinPc → Option (sinPc ⊕ Ret)
  | .l0 v0 => sinS0 l q v0
theorem sinEn_ok (l q : List Int) (o : sinPc ⊕ Ret) (h : sinEn l q = some o) : Arr Tryd.prog Tryd.f17 0 (sinSt l q) sinHd (bodyOf Tryd.f17) [] { n := Tryd.f17.ntmps, fr := enumF 0 ([lI l, lI q]), hp := ([]) } o :=
 Scr.ok h mix (
 .rn 1 [] [] [] [] (u2 (al (u2 (u2 (u2 (u2 (al t3))))))) <|
 .br (fun a0 =>
 .rt [21] [] [] [] [] [] (aj (aj a0 s2) t2))
 (fun a0 =>
 .lp [20] [] [] [] [] [] [0, 1, 5] (aj (aj a0 s2) t4))) (by kernel_rfl)
theorem sinS0_ok (l q : List Int) (v0 : Int) (o : sinPc ⊕ Ret) (h : sinS0 l q v0 = some o) : Arr Tryd.prog Tryd.f17 0 (sinSt l q) sinHd (headC Tryd.f17 0) (.rnd (headC Tryd.f17 0) :: headK Tryd.f17 0) (sinSt l q (.l0 v0)) o :=
 Scr.ok h mix (
 .rn 0 [] [] [] [] (al (u2 (u2 (u2 (al t3))))) <|
 .br (fun a0 =>
 .gu fun a1 =>
 .el fun x19 a2 =>
 .el fun x23 a3 =>
 .rn 0 [29] [(19, iv x19), (23, iv x23)] [] [] (aj a0 (al (u2 (u2 (aj (k2 (aj a1 (getMap (f := iv) a2))) (u2 (u2 (u2 (aj (k2 (aj a1 (getMap (f := iv) a3))) (u2 (al t3))))))))))) <|
 .br (fun a4 =>
  .rt [51] [] [] [] [] [] (aj (aj a4 s2) t2))
 (fun a4 =>
  .lp [50] [] [] [] [] [] [0, 1, 5] (aj (aj a4 (al (u2 (u2 s2)))) t4)))
 (fun a0 =>
 .rt [28] [] [] [] [] [] (aj (aj a0 s2) t2))) (by kernel_rfl)
theorem sin_ct (l q : List Int) (r : Ret) (h : MReach (sinStep l q) (sinEn l q) r) : CT Tryd.prog 17 ([]) ([lI l, lI q]) r.1 r.2 :=
  CT.mach (fn := Tryd.f17) (c := bodyOf Tryd.f17) (S := sinSt l q) (hd := sinHd) Tryd.func17 (by kernel_rfl) (Nat.le_of_ble_eq_true rfl)
    (fun s o ho => match s, ho with
      | .l0 v0, ho => sinS0_ok l q v0 o ho
    )
    (fun o ho => sinEn_ok l q o ho) h
noncomputable def namZ (n : NetD) (c : Int) : ByteArray := if ckE n c = 0 then (match plF n c with | some i => (n.ss.getD i s0).nm ++ ⟨#[47]⟩ ++ digB (plJ n c).toNat | none => (n.bs.getD c.toNat ⟨⟨#[]⟩, 0, 0⟩).nm) else ⟨#[]⟩
theorem nm_size {s : ByteArray} (h : nmB s = true) : s.size ≤ 12 := by
  unfold nmB at h
  simp only [Bool.and_eq_true, Bool.not_eq_true', decide_eq_false_iff_not, iN] at h
  omega
theorem dig_size (k : Nat) : (digB k).size ≤ 2 := by unfold digB; split <;> exact Nat.le_of_ble_eq_true rfl
theorem pl_slot {n : NetD} (hv : ValidN n) {c : Int} {i : Nat} (h : plF n c = some i) : 1 ≤ plJ n c ∧ plJ n c ≤ 4 ∧ 0 ≤ plI n c ∧ plI n c = (i : Int) ∧ i < n.ss.length := by
  obtain ⟨s, hs, hg, g1, g2, hl⟩ := plF_some h
  obtain ⟨e1, e2⟩ := plI_some h
  have := hv.sb hs
  rw [e1, e2, hg]; exact ⟨by omega, by omega, by omega, rfl, hl⟩
theorem nam_c (n : NetD) (c : Int) (hrw : Rows n.nx) : CT Tryd.prog 14 [] [netA n, .int .i64 c] [] (.tup [.str (namZ n c), .int .i64 (ckE n c)]) := by
  refine nam_ct n c ([], _) (.val ?_)
  unfold namEn namZ
  rw [gu_t hrw]
  by_cases h : ckE n c = 0
  · obtain ⟨hv, h0, h1⟩ := ckE_ok h
    have hce := hv.cel
    rw [br_f (by rw [h]; rfl), gu_t hv, gu_t (by omega), if_pos h]
    cases hp : plF n c with
    | some i =>
      obtain ⟨g1, g2, g3, g4, g5⟩ := pl_slot hv hp
      have hs := getE s0 g5
      have z1 := nm_size (hv.spu i _ hs).nm
      have z2 := dig_size (plJ n c).toNat
      have z3 : ((n.ss.getD i s0).nm ++ (⟨#[47]⟩ : ByteArray)).size = (n.ss.getD i s0).nm.size + 1 := by rw [ByteArray.size_append]; rfl
      rw [br_f (dec_f (by omega)), g4, gu_t (by omega), Int.toNat_natCast, el_t hs, gu_t (show Nat.le _ _ from (show (n.ss.getD i s0).nm.size + 1 ≤ 9223372036854775807 by omega)), gu_t ⟨g1, g2⟩, gu_t (show Nat.le _ _ from (show ((n.ss.getD i s0).nm ++ (⟨#[47]⟩ : ByteArray)).size + (digB (plJ n c).toNat).size ≤ 9223372036854775807 by omega)), h]
    | none =>
      have hb := plF_block hv h0 h1 hp
      rw [plI_none hp, br_t (by rfl), gu_t h0, el_t (getE ⟨⟨#[]⟩, 0, 0⟩ (show c.toNat < n.bs.length by omega)), h]
  · rw [br_t (bne_iff_ne.2 h), if_neg h]
theorem rnm_c (n : NetD) (c : Int) (hrw : Rows n.nx) : CT Tryd.prog 29 [] [netA n, .int .i64 c] [] (.tup [.str (namZ n c), .int .i64 (ckE n c)]) := by
  refine rnm_ct n c ([], _) (.val ?_)
  unfold rnmEn namZ
  rw [gu_t hrw]
  by_cases h : ckE n c = 0
  · obtain ⟨hv, h0, h1⟩ := ckE_ok h
    have hce := hv.cel
    rw [br_f (by rw [h]; rfl), gu_t hv, gu_t (by omega), if_pos h]
    cases hp : plF n c with
    | some i =>
      obtain ⟨g1, g2, g3, g4, g5⟩ := pl_slot hv hp
      have hs := getE s0 g5
      have z1 := nm_size (hv.spu i _ hs).nm
      have z2 := dig_size (plJ n c).toNat
      have z3 : ((n.ss.getD i s0).nm ++ (⟨#[47]⟩ : ByteArray)).size = (n.ss.getD i s0).nm.size + 1 := by rw [ByteArray.size_append]; rfl
      rw [br_f (dec_f (by omega)), g4, gu_t (by omega), Int.toNat_natCast, el_t hs, gu_t (show Nat.le _ _ from (show (n.ss.getD i s0).nm.size + 1 ≤ 9223372036854775807 by omega)), gu_t ⟨g1, g2⟩, gu_t (show Nat.le _ _ from (show ((n.ss.getD i s0).nm ++ (⟨#[47]⟩ : ByteArray)).size + (digB (plJ n c).toNat).size ≤ 9223372036854775807 by omega)), h]
    | none =>
      have hb := plF_block hv h0 h1 hp
      rw [plI_none hp, br_t (by rfl), gu_t h0, el_t (getE ⟨⟨#[]⟩, 0, 0⟩ (show c.toNat < n.bs.length by omega)), h]
  · rw [br_t (bne_iff_ne.2 h), if_neg h]
theorem sin_c (l q : List Int) (hl : l.length ≤ 1000000) : CT Tryd.prog 17 [] [lI l, lI q] [] (.bool (decide (l = q))) := by
  refine sin_ct l q ([], _) ?_
  unfold sinEn
  by_cases hlen : l.length = q.length
  · rw [br_f (by simp [iN, hlen])]
    refine (loop_fnd (fun i => sinPc.l0 (i : Int)) l.length (fun i => l.getD i 0 != q.getD i 0) (rF := fun i => ([], .bool false)) (r := ([], .bool true)) (fun i hi hp => ?_) (fun i r hi hp hr => ?_) (fun _ => ?_)).res ?_
    · refine .to (show sinS0 l q i = _ from ?_) (.ret _)
      unfold sinS0
      rw [rngG 0 hi, elG 0 (show i < q.length by omega), br_t hp]
    · refine .to (show sinS0 l q i = _ from ?_) hr
      unfold sinS0
      rw [rngG 0 hi, elG 0 (show i < q.length by omega), br_f hp, wrap_nat i (by omega)]
    · refine .to (show sinS0 l q l.length = _ from ?_) (.ret _)
      unfold sinS0; rw [rngE]
    · cases hf : fnd (fun i => l.getD i 0 != q.getD i 0) 0 l.length with
      | some i =>
        obtain ⟨h, _, _⟩ := fnd_some hf
        rw [dec_f]
        rintro rfl
        simp at h
      | none =>
        rw [dec_t]
        apply List.ext_getElem? fun i => ?_
        by_cases hi : i < l.length
        · have := fnd_none hf i (by omega) (by omega)
          rw [getE 0 hi, getE 0 (show i < q.length by omega)]
          simpa using this
        · rw [List.getElem?_eq_none (by omega), List.getElem?_eq_none (by omega)]
  · rw [br_t (by simp [iN]; omega), dec_f (fun h => hlen (by rw [h]))]; exact .ret _
theorem ex9_exP : ∃ n : NetD, n = ⟨[⟨⟨#[97]⟩, 0, 0⟩, ⟨⟨#[98]⟩, 0, 0⟩], [[1], [0]], [⟨⟨#[100]⟩, true, 0, 1, 2, 2⟩], [3], 4, 2, 1, 8⟩ := ⟨_, rfl⟩
@[irreducible] noncomputable def exN : NetD := Classical.choose ex9_exP
theorem exN_eq : exN = ⟨[⟨⟨#[97]⟩, 0, 0⟩, ⟨⟨#[98]⟩, 0, 0⟩], [[1], [0]], [⟨⟨#[100]⟩, true, 0, 1, 2, 2⟩], [3], 4, 2, 1, 8⟩ := by unfold exN; exact Classical.choose_spec ex9_exP
theorem ex9_c : CT Tryd.prog 30 [] [] [] (netA exN) := by
  rw [exN_eq]
  exact ex9_ct _ (.val (show ex9En = some (.inr _) by unfold ex9En; exact rfl))
theorem exN_rows : Rows exN.nx := by
  rw [exN_eq]
  intro v hv
  match v, hv with
  | 0, _ => decide
  | 1, _ => decide
  | v + 2, hv => simp at hv; try omega
theorem exN_ok : ValidN exN := by
  rw [exN_eq]
  refine ⟨by decide +kernel, rfl, by decide, by decide, by decide +kernel, ?_, ?_, ?_, ?_, ?_⟩
  · intro i b h
    match i, h with
    | 0, h => cases h; exact ⟨by decide +kernel, by decide +kernel, by decide +kernel, by decide +kernel⟩
    | 1, h => cases h; exact ⟨by decide +kernel, by decide +kernel, by decide +kernel, by decide +kernel⟩
    | i + 2, h => simp at h
  · intro i s h
    match i, h with
    | 0, h => cases h; exact ⟨by decide +kernel, by decide +kernel, by decide +kernel, by decide +kernel, by decide +kernel⟩
    | i + 1, h => simp at h
  · decide +kernel
  · exact ⟨2, ⟨⟨#[100]⟩, true, 0, 1, 2, 2⟩, by simp, rfl, by decide, by decide⟩
  · intro i c h
    match i, h with
    | 0, h => cases h; exact ⟨⟨⟨⟨#[100]⟩, true, 0, 1, 2, 2⟩, by simp, rfl, by decide, by decide⟩, by simp⟩
    | i + 1, h => simp at h
theorem exN_cel : celN exN = 4 := by rw [exN_eq]; decide +kernel
theorem exN_ck (c : Int) (h : 0 ≤ c ∧ c < 4) : ckE exN c = 0 := ckE_of exN_ok h.1 (by rw [exN_cel]; exact h.2)
theorem nxK0_c : CT Tryd.prog 11 [] [netA exN, .int .i64 0] [] (.tup [lI [1, 2], .int .i64 0]) := by
  have h := cnext_c exN 0 exN_rows
  have e : nxO exN 0 = [1, 2] := by unfold nxO; rw [if_pos (exN_ck 0 (by omega)), exN_eq]; decide +kernel
  rwa [e, exN_ck 0 (by omega)] at h
theorem nxK3_c : CT Tryd.prog 11 [] [netA exN, .int .i64 3] [] (.tup [lI [1], .int .i64 0]) := by
  have h := cnext_c exN 3 exN_rows
  have e : nxO exN 3 = [1] := by unfold nxO; rw [if_pos (exN_ck 3 (by omega)), exN_eq]; decide +kernel
  rwa [e, exN_ck 3 (by omega)] at h
theorem cntK_c : CT Tryd.prog 10 [] [netA exN] [] (.tup [.int .i64 4, .int .i64 0]) := by
  have h := cnt_c exN_rows
  have e : cntZ exN = 4 := by unfold cntZ; rw [if_pos (valB_iff.2 exN_ok), exN_cel]; rfl
  have e2 : cntE exN = 0 := by unfold cntE; rw [if_pos (valB_iff.2 exN_ok)]
  rwa [e, e2] at h
theorem namK_c : CT Tryd.prog 14 [] [netA exN, .int .i64 3] [] (.tup [.str ⟨#[100, 47, 50]⟩, .int .i64 0]) := by
  have h := nam_c exN 3 exN_rows
  have e : namZ exN 3 = ⟨#[100, 47, 50]⟩ := by unfold namZ; rw [if_pos (exN_ck 3 (by omega)), exN_eq]; decide +kernel
  rwa [e, exN_ck 3 (by omega)] at h
theorem folK_c : CT Tryd.prog 12 [] [netA exN, .int .i64 2, .int .i64 3] [] (.bool true) := by
  have h := cfol_c exN 2 3 exN_rows
  have e : folB exN 2 3 = true := by
    have e1 : nxO exN 2 = [3] := by unfold nxO; rw [if_pos (exN_ck 2 (by omega)), exN_eq]; decide +kernel
    unfold folB; rw [e1]; decide +kernel
  rwa [e] at h
theorem si12_c : CT Tryd.prog 17 [] [lI [1, 2], lI [1, 2]] [] (.bool true) := sameInts_ct [1, 2] (by decide)
theorem si1_c : CT Tryd.prog 17 [] [lI [1], lI [1]] [] (.bool true) := sameInts_ct [1] (by decide)
noncomputable def kn9St : Empty → St
  | x => x.elim
def kn9Hd : Empty → Nat
  | x => x.elim
noncomputable def kn9En : Option (Empty ⊕ Ret) :=
  some (.inr ([], AV.bool true))
noncomputable def kn9Step : Empty → Option (Empty ⊕ Ret)
  | x => x.elim
theorem kn9En_ok (o : Empty ⊕ Ret) (h : kn9En = some o) : Arr Tryd.prog Tryd.f8 0 (kn9St) kn9Hd (bodyOf Tryd.f8) [] { n := Tryd.f8.ntmps, fr := enumF 0 ([]), hp := ([]) } o :=
 Scr.ok h mix (
 have c0 := ex9_c;
 have c1 := nxK0_c;
 have c2 := nxK3_c;
 have c3 := cntK_c;
 have c4 := namK_c;
 have c5 := si12_c;
 have c6 := si1_c;
 have c7 := folK_c;
 .rt [] [] [(10, hK c0 [] []), (13, hK c1 [] []), (18, hK c2 [] []), (23, hK c3 [] []), (28, hK c4 [] []), (48, hK c5 [] [1]), (53, hK c6 [] [2]), (65, hK c7 [] [])] [] [] [] (aj (u2 (aj (aj (al (c0)) (ak (al (k2 n11)))) (aj (u2 (aj (ak (aj t9 (ak (al (c1))))) (u2 (u2 (u2 (u2 s2)))))) (aj (u2 (aj (ak (aj t9 (ak (al (c2))))) (u2 (u2 (u2 (u2 s2)))))) (aj (u2 (aj (ak (aj t9 (al (c3)))) (u2 (u2 (u2 (u2 s2)))))) (aj (u2 (aj (ak (aj t9 (ak (al (c4))))) (u2 (u2 (u2 (u2 s2)))))) (al (u2 (u2 (u2 (aj t3 (aj t3 (aj t3 (u2 (aj t3 (aj t3 (aj t3 (u2 (aj t3 (aj t3 (aj t3 (u2 (aj t3 (u2 (aj (ak (k3 (aj (show nat_lit 2 = nat_lit 2 from rfl) (aj (c5) (show ∀ (blk : Blk), blk ∈ [] → ImmB blk from (by intro _ h; cases h)))))) (aj t3 (u2 (aj t3 (u2 (aj (ak (k3 (aj (show nat_lit 1 = nat_lit 1 from rfl) (aj (c6) (show ∀ (blk : Blk), blk ∈ [] → ImmB blk from (by intro _ h; cases h)))))) (aj t3 (u2 (aj t3 (aj t3 (aj t3 (u2 (aj t3 (aj t3 (aj t3 (u2 (aj t3 (aj (k2 (aj t9 (k2 (al (c7))))) (aj t3 s2))))))))))))))))))))))))))))))))))))))))))) t2)) (by kernel_rfl)
theorem kn9_ct (r : Ret) (h : MReach (kn9Step) (kn9En) r) : CT Tryd.prog 8 ([]) ([]) r.1 r.2 :=
  CT.mach (fn := Tryd.f8) (c := bodyOf Tryd.f8) (S := kn9St) (hd := kn9Hd) Tryd.func8 (by kernel_rfl) (Nat.le_of_ble_eq_true rfl)
    (fun s o ho => match s, ho with
      | x, _ => x.elim)
    (fun o ho => kn9En_ok o ho) h
theorem kn9_c : CT Tryd.prog 8 [] [] [] (.bool true) := by
  refine kn9_ct ([], _) (.val ?_)
  unfold kn9En
  rfl
inductive ceFPc where
  | l0 (v0 : List Bool) (v1 : Int) (v2 : NetD) (v3 : Int) (v4 : Int) (v5 : Int) (v6 : Nat)
noncomputable def ceFSt (n : NetD) (sh : List Bool) (p q w : Int) (ls : List Int) : ceFPc → St
  | .l0 v0 v1 v2 v3 v4 v5 v6 => St.mk 233 [(1, AV.lst (List.map AV.bool v0)), (4, AV.ptr 0 0 0), (6, AV.ptr 1 0 0), (9, AV.ptr 2 0 0), (10, iv v1)] [some (Blk.mk [AV.agg [AV.lst (List.map bA v2.bs), AV.lst (List.map lI v2.nx), AV.lst (List.map sA v2.ss), AV.lst (List.map (iv) v2.rs), iv v2.q, iv v2.a, iv v2.d, iv v2.p]] 8 true true none), some (Blk.mk [AV.agg [iv v3, iv v4, iv v5]] 3 true true none), some (tapeB ls v6)]
def ceFHd : ceFPc → Nat
  | .l0 _ _ _ _ _ _ _ => 0
noncomputable def ceFEn (n : NetD) (sh : List Bool) (p q w : Int) (ls : List Int) : Option (ceFPc ⊕ Ret) :=
  some (.inl (.l0 (sh) ((0 : Int)) (n) (p) (q) (w) (nat_lit 0)))
noncomputable def ceFS0 (n : NetD) (sh : List Bool) (p q w : Int) (ls : List Int) (v0 : List Bool) (v1 : Int) (v2 : NetD) (v3 : Int) (v4 : Int) (v5 : Int) (v6 : Nat) : Option (ceFPc ⊕ Ret) :=
  br (decide (v1 < 2))
  (br (v1 == 1)
   (gu (v6 ≤ 5000) <|
    gu (ValidN (looM ls v6 8)) <|
    gu (celN (looM ls v6 8) ≤ 1000) <|
    gu (looK ls v6 8 ≤ 50000) <|
    gu (shuK ls (looK ls v6 8) (celN (looM ls v6 8)) < 9223372036854775807) <|
    gu (shuK ls (looK ls v6 8) (celN (looM ls v6 8)) + 1 < 9223372036854775807) <|
    gu (shuK ls (looK ls v6 8) (celN (looM ls v6 8)) + 1 + 1 < 9223372036854775807) <|
    gu (Rows (looM ls v6 8).nx) <|
    br (cntZ (looM ls v6 8) != cntZ (looM ls v6 8))
    (some (.inr ([], AV.bool false)))
    (br (cntE (looM ls v6 8) != cntE (looM ls v6 8))
     (some (.inr ([], AV.bool false)))
     (br (pliZ (looM ls v6 8) (IntKind.i64.wrap (nextZ ls (shuK ls (looK ls v6 8) (celN (looM ls v6 8))) (IntKind.i64.wrap (iN (celN (looM ls v6 8)) + 2)) - 1)) != pliZ (looM ls v6 8) (IntKind.i64.wrap (nextZ ls (shuK ls (looK ls v6 8) (celN (looM ls v6 8))) (IntKind.i64.wrap (iN (celN (looM ls v6 8)) + 2)) - 1)))
      (some (.inr ([], AV.bool false)))
      (br (pljZ (looM ls v6 8) (IntKind.i64.wrap (nextZ ls (shuK ls (looK ls v6 8) (celN (looM ls v6 8))) (IntKind.i64.wrap (iN (celN (looM ls v6 8)) + 2)) - 1)) != pljZ (looM ls v6 8) (IntKind.i64.wrap (nextZ ls (shuK ls (looK ls v6 8) (celN (looM ls v6 8))) (IntKind.i64.wrap (iN (celN (looM ls v6 8)) + 2)) - 1)))
       (some (.inr ([], AV.bool false)))
       (br (ckE (looM ls v6 8) (IntKind.i64.wrap (nextZ ls (shuK ls (looK ls v6 8) (celN (looM ls v6 8))) (IntKind.i64.wrap (iN (celN (looM ls v6 8)) + 2)) - 1)) != ckE (looM ls v6 8) (IntKind.i64.wrap (nextZ ls (shuK ls (looK ls v6 8) (celN (looM ls v6 8))) (IntKind.i64.wrap (iN (celN (looM ls v6 8)) + 2)) - 1)))
        (some (.inr ([], AV.bool false)))
        (br (!folB (looM ls v6 8) (IntKind.i64.wrap (nextZ ls (shuK ls (looK ls v6 8) (celN (looM ls v6 8))) (IntKind.i64.wrap (iN (celN (looM ls v6 8)) + 2)) - 1)) (IntKind.i64.wrap (nextZ ls (shuK ls (looK ls v6 8) (celN (looM ls v6 8)) + 1) (IntKind.i64.wrap (iN (celN (looM ls v6 8)) + 2)) - 1)) == folB (looM ls v6 8) (IntKind.i64.wrap (nextZ ls (shuK ls (looK ls v6 8) (celN (looM ls v6 8))) (IntKind.i64.wrap (iN (celN (looM ls v6 8)) + 2)) - 1)) (IntKind.i64.wrap (nextZ ls (shuK ls (looK ls v6 8) (celN (looM ls v6 8)) + 1) (IntKind.i64.wrap (iN (celN (looM ls v6 8)) + 2)) - 1)))
         (some (.inr ([], AV.bool false)))
         (br (hdZ (looM ls v6 8) (IntKind.i64.wrap (nextZ ls (shuK ls (looK ls v6 8) (celN (looM ls v6 8)) + 1 + 1) (IntKind.i64.wrap (iN (List.map sA (looM ls v6 8).ss).length + 2)) - 1)) != hdZ (looM ls v6 8) (IntKind.i64.wrap (nextZ ls (shuK ls (looK ls v6 8) (celN (looM ls v6 8)) + 1 + 1) (IntKind.i64.wrap (iN (List.map sA (looM ls v6 8).ss).length + 2)) - 1)))
          (some (.inr ([], AV.bool false)))
          (br (csE (looM ls v6 8) (IntKind.i64.wrap (nextZ ls (shuK ls (looK ls v6 8) (celN (looM ls v6 8)) + 1 + 1) (IntKind.i64.wrap (iN (List.map sA (looM ls v6 8).ss).length + 2)) - 1)) != csE (looM ls v6 8) (IntKind.i64.wrap (nextZ ls (shuK ls (looK ls v6 8) (celN (looM ls v6 8)) + 1 + 1) (IntKind.i64.wrap (iN (List.map sA (looM ls v6 8).ss).length + 2)) - 1)))
           (some (.inr ([], AV.bool false)))
           (gu ((nxO (looM ls v6 8) (IntKind.i64.wrap (nextZ ls (shuK ls (looK ls v6 8) (celN (looM ls v6 8))) (IntKind.i64.wrap (iN (celN (looM ls v6 8)) + 2)) - 1))).length ≤ 1000000) <|
            br (!decide (nxO (looM ls v6 8) (IntKind.i64.wrap (nextZ ls (shuK ls (looK ls v6 8) (celN (looM ls v6 8))) (IntKind.i64.wrap (iN (celN (looM ls v6 8)) + 2)) - 1)) = nxO (looM ls v6 8) (IntKind.i64.wrap (nextZ ls (shuK ls (looK ls v6 8) (celN (looM ls v6 8))) (IntKind.i64.wrap (iN (celN (looM ls v6 8)) + 2)) - 1))))
            (some (.inr ([], AV.bool false)))
            (br (!cOB (looM ls v6 8) (shuL ls (looK ls v6 8) (celN (looM ls v6 8))) (IntKind.i64.wrap (nextZ ls (shuK ls (looK ls v6 8) (celN (looM ls v6 8)) + 1 + 1) (IntKind.i64.wrap (iN (List.map sA (looM ls v6 8).ss).length + 2)) - 1)) == cOB (looM ls v6 8) (shuL ls (looK ls v6 8) (celN (looM ls v6 8))) (IntKind.i64.wrap (nextZ ls (shuK ls (looK ls v6 8) (celN (looM ls v6 8)) + 1 + 1) (IntKind.i64.wrap (iN (List.map sA (looM ls v6 8).ss).length + 2)) - 1)))
             (some (.inr ([], AV.bool false)))
             (br (cOE (looM ls v6 8) (shuL ls (looK ls v6 8) (celN (looM ls v6 8))) (IntKind.i64.wrap (nextZ ls (shuK ls (looK ls v6 8) (celN (looM ls v6 8)) + 1 + 1) (IntKind.i64.wrap (iN (List.map sA (looM ls v6 8).ss).length + 2)) - 1)) != cOE (looM ls v6 8) (shuL ls (looK ls v6 8) (celN (looM ls v6 8))) (IntKind.i64.wrap (nextZ ls (shuK ls (looK ls v6 8) (celN (looM ls v6 8)) + 1 + 1) (IntKind.i64.wrap (iN (List.map sA (looM ls v6 8).ss).length + 2)) - 1)))
              (some (.inr ([], AV.bool false)))
              (br (!(namZ (looM ls v6 8) (IntKind.i64.wrap (nextZ ls (shuK ls (looK ls v6 8) (celN (looM ls v6 8))) (IntKind.i64.wrap (iN (celN (looM ls v6 8)) + 2)) - 1))).toList == (namZ (looM ls v6 8) (IntKind.i64.wrap (nextZ ls (shuK ls (looK ls v6 8) (celN (looM ls v6 8))) (IntKind.i64.wrap (iN (celN (looM ls v6 8)) + 2)) - 1))).toList)
               (some (.inr ([], AV.bool false)))
               (some (.inl (.l0 (shuL ls (looK ls v6 8) (celN (looM ls v6 8))) (IntKind.i64.wrap (v1 + 1)) (looM ls v6 8) (IntKind.i64.wrap (nextZ ls (shuK ls (looK ls v6 8) (celN (looM ls v6 8))) (IntKind.i64.wrap (iN (celN (looM ls v6 8)) + 2)) - 1)) (IntKind.i64.wrap (nextZ ls (shuK ls (looK ls v6 8) (celN (looM ls v6 8)) + 1) (IntKind.i64.wrap (iN (celN (looM ls v6 8)) + 2)) - 1)) (IntKind.i64.wrap (nextZ ls (shuK ls (looK ls v6 8) (celN (looM ls v6 8)) + 1 + 1) (IntKind.i64.wrap (iN (List.map sA (looM ls v6 8).ss).length + 2)) - 1)) (shuK ls (looK ls v6 8) (celN (looM ls v6 8)) + 1 + 1 + 1))))))))))))))))
   (gu (Rows v2.nx) <|
    br (cntZ v2 != cntZ v2)
    (some (.inr ([], AV.bool false)))
    (br (cntE v2 != cntE v2)
     (some (.inr ([], AV.bool false)))
     (br (pliZ v2 v3 != pliZ v2 v3)
      (some (.inr ([], AV.bool false)))
      (br (pljZ v2 v3 != pljZ v2 v3)
       (some (.inr ([], AV.bool false)))
       (br (ckE v2 v3 != ckE v2 v3)
        (some (.inr ([], AV.bool false)))
        (br (!folB v2 v3 v4 == folB v2 v3 v4)
         (some (.inr ([], AV.bool false)))
         (br (hdZ v2 v5 != hdZ v2 v5)
          (some (.inr ([], AV.bool false)))
          (br (csE v2 v5 != csE v2 v5)
           (some (.inr ([], AV.bool false)))
           (gu ((nxO v2 v3).length ≤ 1000000) <|
            br (!decide (nxO v2 v3 = nxO v2 v3))
            (some (.inr ([], AV.bool false)))
            (br (!cOB v2 v0 v5 == cOB v2 v0 v5)
             (some (.inr ([], AV.bool false)))
             (br (cOE v2 v0 v5 != cOE v2 v0 v5)
              (some (.inr ([], AV.bool false)))
              (br (!(namZ v2 v3).toList == (namZ v2 v3).toList)
               (some (.inr ([], AV.bool false)))
               (some (.inl (.l0 (v0) (IntKind.i64.wrap (v1 + 1)) (v2) (v3) (v4) (v5) (v6)))))))))))))))))
  (some (.inr ([], AV.bool true)))
noncomputable def ceFStep (n : NetD) (sh : List Bool) (p q w : Int) (ls : List Int) : ceFPc → Option (ceFPc ⊕ Ret)
  | .l0 v0 v1 v2 v3 v4 v5 v6 => ceFS0 n sh p q w ls v0 v1 v2 v3 v4 v5 v6
theorem ceFEn_ok (n : NetD) (sh : List Bool) (p q w : Int) (ls : List Int) (o : ceFPc ⊕ Ret) (h : ceFEn n sh p q w ls = some o) : Arr Tryd.prog Tryd.f7 0 (ceFSt n sh p q w ls) ceFHd (bodyOf Tryd.f7) [] { n := Tryd.f7.ntmps, fr := enumF 0 ([netA n, .lst (boL sh), .agg [.int .i64 p, .int .i64 q, .int .i64 w], lI ls]), hp := ([]) } o :=
 Scr.ok h mix (
 have c0 := kn9_c;
 .lp [] [] [(38, hK c0 [] [])] [] [] [0, 1, 2] [1, 4, 6, 9, 10] (aj (aj (u2 (u2 t2)) (aj (aj (al (c0)) s2) (ak (aj (u2 (u2 (u2 s2))) s2)))) t9)) (by kernel_rfl)
theorem ceFS0_ok (n : NetD) (sh : List Bool) (p q w : Int) (ls : List Int) (v0 : List Bool) (v1 : Int) (v2 : NetD) (v3 : Int) (v4 : Int) (v5 : Int) (v6 : Nat) (o : ceFPc ⊕ Ret) (h : ceFS0 n sh p q w ls v0 v1 v2 v3 v4 v5 v6 = some o) : Arr Tryd.prog Tryd.f7 0 (ceFSt n sh p q w ls) ceFHd (headC Tryd.f7 0) (.rnd (headC Tryd.f7 0) :: headK Tryd.f7 0) (ceFSt n sh p q w ls (.l0 v0 v1 v2 v3 v4 v5 v6)) o :=
 Scr.ok h mix (
 .rn 0 [] [] [] [] (al (u2 s2)) <|
 .br (fun a0 =>
 .rn 0 [89] [] [] [] (aj a0 (al (u2 s2))) <|
 .br (fun a1 =>
  .gu fun a2 =>
  have c0 := loose_ct (ls) (v6) (8) a2 (show (1 : Int) ≤ (8 : Int) ∧ (8 : Int) ≤ (20 : Int) from ⟨(by first | exact Nat.le_of_ble_eq_true rfl | decide), (by first | exact Nat.le_of_ble_eq_true rfl | decide)⟩);
  .rn 0 [97] [] [(50, hK c0 [2] [])] [] (aj a1 (al (u2 (aj (ak (k3 (al (c0)))) (al (k2 (show Nat.le 1 [AV.agg [AV.lst (List.map bA v2.bs), AV.lst (List.map lI v2.nx), AV.lst (List.map sA v2.ss), AV.lst (List.map (iv) v2.rs), iv v2.q, iv v2.a, iv v2.d, iv v2.p]].length from (Nat.le_of_ble_eq_true rfl)))))))) <|
  .gu fun a3 =>
  have c1 := cells_ct a3;
  .rn 0 [] [] [(52, hK c1 [] [])] [] (al (u2 (aj (ak (aj t9 (al (c1)))) s2))) <|
  .gu fun a4 =>
  .gu fun a5 =>
  have c2 := shut_ct (ls) (looK ls v6 8) (celN (looM ls v6 8)) a4 a5;
  .rn 0 [] [] [(55, hK c2 [2] [])] [] (al (u2 (u2 (aj (k5 (al (c2))) s2)))) <|
  .gu fun a6 =>
  .gu fun a7 =>
  .gu fun a8 =>
  have c3 := next_ct (ls) (shuK ls (looK ls v6 8) (celN (looM ls v6 8))) (IntKind.i64.wrap (iN (celN (looM ls v6 8)) + 2)) a6;
  have c4 := next_ct (ls) (shuK ls (looK ls v6 8) (celN (looM ls v6 8)) + 1) (IntKind.i64.wrap (iN (celN (looM ls v6 8)) + 2)) a7;
  have c5 := next_ct (ls) (shuK ls (looK ls v6 8) (celN (looM ls v6 8)) + 1 + 1) (IntKind.i64.wrap (iN (List.map sA (looM ls v6 8).ss).length + 2)) a8;
  .rn 0 [] [] [(59, hK c3 [2] []), (64, hK c4 [2] []), (71, hK c5 [2] [])] [] (al (u2 (u2 (u2 (aj (k5 (al (c3))) (u2 (u2 (u2 (u2 (aj (k5 (al (c4))) (u2 (u2 (u2 (u2 (u2 (u2 (aj (k5 (al (c5))) (u2 (aj t4 (al (k2 (show Nat.le 1 [AV.agg [iv v3, iv v4, iv v5]].length from (Nat.le_of_ble_eq_true rfl))))))))))))))))))))))) <|
  .gu fun a9 =>
  have c6 := cnt_c a9;
  have c7 := rcn_c a9;
  have c8 := plc_c (looM ls v6 8) (IntKind.i64.wrap (nextZ ls (shuK ls (looK ls v6 8) (celN (looM ls v6 8))) (IntKind.i64.wrap (iN (celN (looM ls v6 8)) + 2)) - 1)) a9;
  have c9 := rpc_c (looM ls v6 8) (IntKind.i64.wrap (nextZ ls (shuK ls (looK ls v6 8) (celN (looM ls v6 8))) (IntKind.i64.wrap (iN (celN (looM ls v6 8)) + 2)) - 1)) a9;
  .rn 3 [] [] [(76, hK c6 [] []), (81, hK c7 [] []), (88, hK c8 [] []), (96, hK c9 [] [])] [] (aj (u2 (aj (ak (aj t9 (al (c6)))) (u2 (u2 (u2 (u2 s2)))))) (aj (u2 (aj (ak (aj t9 (al (c7)))) (u2 (u2 (u2 (u2 s2)))))) (aj (u2 (aj (ak (aj (show (0 : Int) ≤ (0 : Int) from (by first | exact Nat.le_of_ble_eq_true rfl | decide)) (show (0 : Int) < (3 : Int) from (by first | exact Nat.le_of_ble_eq_true rfl | decide)))) (u2 (aj (k2 (aj t9 (ak (al (c8))))) (u2 (u2 (u2 (u2 (u2 (u2 s2)))))))))) (al (u2 (aj (ak (aj (show (0 : Int) ≤ (0 : Int) from (by first | exact Nat.le_of_ble_eq_true rfl | decide)) (show (0 : Int) < (3 : Int) from (by first | exact Nat.le_of_ble_eq_true rfl | decide)))) (u2 (aj (k2 (aj t9 (ak (al (c9))))) (u2 (u2 (u2 (u2 (u2 (u2 s2)))))))))))))) <|
  .br (fun a10 =>
  .rt [207] [] [] [] [] [] (aj (aj (u2 (u2 (aj t3 (u2 (aj a10 (aj a10 (aj a10 (ag a10 (u2 (k3 (aj t3 (u2 (k3 (aj t3 (u2 (k3 (aj t3 (u2 (k3 (k5 (k5 (al t3)))))))))))))))))))))) (ak s2)) t2))
  (fun a10 =>
  .br (fun a11 =>
   .rt [206, 217] [] [] [] [] [] (aj (aj (u2 (u2 (aj t3 (u2 (ag a10 (ag a10 (aj (aj a10 t3) (ag a10 (u2 (aj a11 (aj a11 (aj a11 (ag a11 (u2 (k3 (aj t3 (u2 (k3 (aj t3 (u2 (k3 (k5 (k5 (al t3)))))))))))))))))))))))) (ak s2)) t2))
  (fun a11 =>
   .br (fun a12 =>
   .rt [206, 216, 227] [] [] [] [] [] (aj (aj (u2 (u2 (aj t3 (u2 (ag a10 (ag a10 (aj (aj a10 t3) (ag a10 (u2 (ag a11 (ag a11 (aj (aj a11 t3) (ag a11 (u2 (aj a12 (aj a12 (aj a12 (ag a12 (u2 (k3 (aj t3 (u2 (k3 (k5 (k5 (al t3)))))))))))))))))))))))))) (ak s2)) t2))
   (fun a12 =>
   .br (fun a13 =>
    .rt [206, 216, 226, 237] [] [] [] [] [] (aj (aj (u2 (u2 (aj t3 (u2 (ag a10 (ag a10 (aj (aj a10 t3) (ag a10 (u2 (ag a11 (ag a11 (aj (aj a11 t3) (ag a11 (u2 (ag a12 (ag a12 (aj (aj a12 t3) (ag a12 (u2 (aj a13 (aj a13 (aj a13 (ag a13 (u2 (k3 (k5 (k5 (al t3)))))))))))))))))))))))))))) (ak s2)) t2))
   (fun a13 =>
    .br (fun a14 =>
    .rt [206, 216, 226, 236, 247] [] [] [] [] [] (aj (aj (u2 (u2 (aj t3 (u2 (ag a10 (ag a10 (aj (aj a10 t3) (ag a10 (u2 (ag a11 (ag a11 (aj (aj a11 t3) (ag a11 (u2 (ag a12 (ag a12 (aj (aj a12 t3) (ag a12 (u2 (ag a13 (ag a13 (aj (aj a13 t3) (ag a13 (u2 (aj a14 (aj a14 (aj a14 (aj a14 (aj a14 (aj a14 (aj a14 (aj a14 (aj a14 (aj a14 (aj a14 (aj a14 (aj a14 (al (aj a14 t2))))))))))))))))))))))))))))))))))))))) (ak s2)) t2))
    (fun a14 =>
    have c10 := cfol_c (looM ls v6 8) (IntKind.i64.wrap (nextZ ls (shuK ls (looK ls v6 8) (celN (looM ls v6 8))) (IntKind.i64.wrap (iN (celN (looM ls v6 8)) + 2)) - 1)) (IntKind.i64.wrap (nextZ ls (shuK ls (looK ls v6 8) (celN (looM ls v6 8)) + 1) (IntKind.i64.wrap (iN (celN (looM ls v6 8)) + 2)) - 1)) a9;
    have c11 := rfol_c (looM ls v6 8) (IntKind.i64.wrap (nextZ ls (shuK ls (looK ls v6 8) (celN (looM ls v6 8))) (IntKind.i64.wrap (iN (celN (looM ls v6 8)) + 2)) - 1)) (IntKind.i64.wrap (nextZ ls (shuK ls (looK ls v6 8) (celN (looM ls v6 8)) + 1) (IntKind.i64.wrap (iN (celN (looM ls v6 8)) + 2)) - 1)) a9;
    .rn 0 [206, 216, 226, 236, 246] [] [(129, hK c10 [] []), (135, hK c11 [] [])] [] (al (u2 (u2 (aj t3 (u2 (ag a10 (ag a10 (aj (aj a10 t3) (ag a10 (u2 (ag a11 (ag a11 (aj (aj a11 t3) (ag a11 (u2 (ag a12 (ag a12 (aj (aj a12 t3) (ag a12 (u2 (ag a13 (ag a13 (aj (aj a13 t3) (ag a13 (u2 (ag a14 (aj (aj a14 (ak (aj (show (0 : Int) ≤ (0 : Int) from (by first | exact Nat.le_of_ble_eq_true rfl | decide)) (show (0 : Int) < (3 : Int) from (by first | exact Nat.le_of_ble_eq_true rfl | decide))))) (ag a14 (aj (aj a14 (ak (aj (show (0 : Int) ≤ (1 : Int) from (by first | exact Nat.le_of_ble_eq_true rfl | decide)) (show (1 : Int) < (3 : Int) from (by first | exact Nat.le_of_ble_eq_true rfl | decide))))) (ag a14 (aj (aj a14 (k3 (aj t9 (k2 (al (c10)))))) (ag a14 (aj (aj a14 (ak (aj (show (0 : Int) ≤ (0 : Int) from (by first | exact Nat.le_of_ble_eq_true rfl | decide)) (show (0 : Int) < (3 : Int) from (by first | exact Nat.le_of_ble_eq_true rfl | decide))))) (ag a14 (aj (aj a14 (ak (aj (show (0 : Int) ≤ (1 : Int) from (by first | exact Nat.le_of_ble_eq_true rfl | decide)) (show (1 : Int) < (3 : Int) from (by first | exact Nat.le_of_ble_eq_true rfl | decide))))) (ag a14 (aj (aj a14 (k3 (aj t9 (k2 (al (c11)))))) (aj (aj a14 t3) (al (aj a14 t2)))))))))))))))))))))))))))))))))))))))) <|
    .br (fun a15 =>
     .rt [206, 216, 226, 236, 246, 275] [] [] [] [] [] (aj (aj a15 s2) t2))
    (fun a15 =>
     have c12 := hd9_c (looM ls v6 8) (IntKind.i64.wrap (nextZ ls (shuK ls (looK ls v6 8) (celN (looM ls v6 8)) + 1 + 1) (IntKind.i64.wrap (iN (List.map sA (looM ls v6 8).ss).length + 2)) - 1)) a9;
     have c13 := rho_c (looM ls v6 8) (IntKind.i64.wrap (nextZ ls (shuK ls (looK ls v6 8) (celN (looM ls v6 8)) + 1 + 1) (IntKind.i64.wrap (iN (List.map sA (looM ls v6 8).ss).length + 2)) - 1)) a9;
     have c14 := cnext_c (looM ls v6 8) (IntKind.i64.wrap (nextZ ls (shuK ls (looK ls v6 8) (celN (looM ls v6 8))) (IntKind.i64.wrap (iN (celN (looM ls v6 8)) + 2)) - 1)) a9;
     have c15 := rno_c (looM ls v6 8) (IntKind.i64.wrap (nextZ ls (shuK ls (looK ls v6 8) (celN (looM ls v6 8))) (IntKind.i64.wrap (iN (celN (looM ls v6 8)) + 2)) - 1)) a9;
     .rn 3 [206, 216, 226, 236, 246, 274] [] [(142, hK c12 [] []), (149, hK c13 [] []), (156, hK c14 [] []), (163, hK c15 [] [])] [] (aj a15 (aj (u2 (aj (ak (aj (show (0 : Int) ≤ (2 : Int) from (by first | exact Nat.le_of_ble_eq_true rfl | decide)) (show (2 : Int) < (3 : Int) from (by first | exact Nat.le_of_ble_eq_true rfl | decide)))) (u2 (aj (k2 (aj t9 (ak (al (c12))))) (u2 (u2 (u2 (u2 s2)))))))) (aj (u2 (aj (ak (aj (show (0 : Int) ≤ (2 : Int) from (by first | exact Nat.le_of_ble_eq_true rfl | decide)) (show (2 : Int) < (3 : Int) from (by first | exact Nat.le_of_ble_eq_true rfl | decide)))) (u2 (aj (k2 (aj t9 (ak (al (c13))))) (u2 (u2 (u2 (u2 s2)))))))) (aj (u2 (aj (ak (aj (show (0 : Int) ≤ (0 : Int) from (by first | exact Nat.le_of_ble_eq_true rfl | decide)) (show (0 : Int) < (3 : Int) from (by first | exact Nat.le_of_ble_eq_true rfl | decide)))) (u2 (aj (k2 (aj t9 (ak (al (c14))))) (u2 (u2 (u2 (u2 s2)))))))) (al (u2 (aj (ak (aj (show (0 : Int) ≤ (0 : Int) from (by first | exact Nat.le_of_ble_eq_true rfl | decide)) (show (0 : Int) < (3 : Int) from (by first | exact Nat.le_of_ble_eq_true rfl | decide)))) (u2 (aj (k2 (aj t9 (ak (al (c15))))) (u2 (u2 (u2 (u2 s2))))))))))))) <|
     .br (fun a16 =>
     .rt [206, 216, 226, 236, 246, 339] [] [] [] [] [] (aj (aj (u2 (u2 (aj t3 (u2 (aj a16 (aj a16 (aj a16 (ag a16 (u2 (k3 (aj t3 (u2 (ak (k3 (al t3))))))))))))))) (ak s2)) t2))
     (fun a16 =>
     .br (fun a17 =>
      .rt [206, 216, 226, 236, 246, 338, 349] [] [] [] [] [] (aj (aj (u2 (u2 (aj t3 (u2 (ag a16 (ag a16 (aj (aj a16 t3) (ag a16 (u2 (aj a17 (aj a17 (aj a17 (ag a17 (u2 (ak (k3 (al t3))))))))))))))))) (ak s2)) t2))
     (fun a17 =>
      .gu fun a18 =>
      have c16 := sin_c (nxO (looM ls v6 8) (IntKind.i64.wrap (nextZ ls (shuK ls (looK ls v6 8) (celN (looM ls v6 8))) (IntKind.i64.wrap (iN (celN (looM ls v6 8)) + 2)) - 1))) (nxO (looM ls v6 8) (IntKind.i64.wrap (nextZ ls (shuK ls (looK ls v6 8) (celN (looM ls v6 8))) (IntKind.i64.wrap (iN (celN (looM ls v6 8)) + 2)) - 1))) a18;
      .rn 0 [206, 216, 226, 236, 246, 338, 348, 358] [] [(182, hK c16 [] [])] [] (al (u2 (u2 (aj t3 (u2 (ag a16 (ag a16 (aj (aj a16 t3) (ag a16 (u2 (ag a17 (ag a17 (aj (aj a17 t3) (ag a17 (u2 (ag a14 (ag a14 (aj (aj a14 (ak (k3 (al (c16))))) (ag a14 (al (aj a14 t2))))))))))))))))))))) <|
      .br (fun a19 =>
      .rt [206, 216, 226, 236, 246, 338, 348, 358, 369] [] [] [] [] [] (aj (aj a19 s2) t2))
      (fun a19 =>
      have c17 := cOpen_ct a9 (shuL ls (looK ls v6 8) (celN (looM ls v6 8))) (IntKind.i64.wrap (nextZ ls (shuK ls (looK ls v6 8) (celN (looM ls v6 8)) + 1 + 1) (IntKind.i64.wrap (iN (List.map sA (looM ls v6 8).ss).length + 2)) - 1));
      have c18 := roo_c a9 (shuL ls (looK ls v6 8) (celN (looM ls v6 8))) (IntKind.i64.wrap (nextZ ls (shuK ls (looK ls v6 8) (celN (looM ls v6 8)) + 1 + 1) (IntKind.i64.wrap (iN (List.map sA (looM ls v6 8).ss).length + 2)) - 1));
      have c19 := nam_c (looM ls v6 8) (IntKind.i64.wrap (nextZ ls (shuK ls (looK ls v6 8) (celN (looM ls v6 8))) (IntKind.i64.wrap (iN (celN (looM ls v6 8)) + 2)) - 1)) a9;
      have c20 := rnm_c (looM ls v6 8) (IntKind.i64.wrap (nextZ ls (shuK ls (looK ls v6 8) (celN (looM ls v6 8))) (IntKind.i64.wrap (iN (celN (looM ls v6 8)) + 2)) - 1)) a9;
      .rn 3 [206, 216, 226, 236, 246, 338, 348, 358, 368] [] [(190, hK c17 [] []), (198, hK c18 [] []), (205, hK c19 [] []), (212, hK c20 [] [])] [] (aj a19 (aj (u2 (u2 (aj (ak (aj (show (0 : Int) ≤ (2 : Int) from (by first | exact Nat.le_of_ble_eq_true rfl | decide)) (show (2 : Int) < (3 : Int) from (by first | exact Nat.le_of_ble_eq_true rfl | decide)))) (u2 (aj (k3 (aj t9 (k2 (al (c17))))) (u2 (u2 (u2 (u2 s2))))))))) (aj (u2 (u2 (aj (ak (aj (show (0 : Int) ≤ (2 : Int) from (by first | exact Nat.le_of_ble_eq_true rfl | decide)) (show (2 : Int) < (3 : Int) from (by first | exact Nat.le_of_ble_eq_true rfl | decide)))) (u2 (aj (k3 (aj t9 (k2 (al (c18))))) (u2 (u2 (u2 (u2 s2))))))))) (aj (u2 (aj (ak (aj (show (0 : Int) ≤ (0 : Int) from (by first | exact Nat.le_of_ble_eq_true rfl | decide)) (show (0 : Int) < (3 : Int) from (by first | exact Nat.le_of_ble_eq_true rfl | decide)))) (u2 (aj (k2 (aj t9 (ak (al (c19))))) (u2 (u2 (u2 (u2 s2)))))))) (al (u2 (aj (ak (aj (show (0 : Int) ≤ (0 : Int) from (by first | exact Nat.le_of_ble_eq_true rfl | decide)) (show (0 : Int) < (3 : Int) from (by first | exact Nat.le_of_ble_eq_true rfl | decide)))) (u2 (aj (k2 (aj t9 (ak (al (c20))))) (u2 (u2 (u2 (u2 s2))))))))))))) <|
      .br (fun a20 =>
       .rt [206, 216, 226, 236, 246, 338, 348, 358, 437] [] [] [] [] [] (aj (aj (u2 (u2 (aj t3 (u2 (aj a20 (aj a20 (aj a20 (ag a20 (u2 (k3 (aj t3 (u2 (k3 (al t3)))))))))))))) (ak s2)) t2))
      (fun a20 =>
       .br (fun a21 =>
       .rt [206, 216, 226, 236, 246, 338, 348, 358, 436, 447] [] [] [] [] [] (aj (aj (u2 (u2 (aj t3 (u2 (ag a20 (ag a20 (aj (aj a20 t3) (ag a20 (u2 (aj a21 (aj a21 (aj a21 (ag a21 (u2 (k3 (al t3)))))))))))))))) (ak s2)) t2))
       (fun a21 =>
       .br (fun a22 =>
        .rt [206, 216, 226, 236, 246, 338, 348, 358, 436, 446, 457] [] [] [] [] [] (aj (aj (u2 (u2 (aj t3 (u2 (ag a20 (ag a20 (aj (aj a20 t3) (ag a20 (u2 (ag a21 (ag a21 (aj (aj a21 t3) (ag a21 (u2 (aj a22 (aj a22 (aj a22 (al (aj a22 t2))))))))))))))))))) (ak s2)) t2))
       (fun a22 =>
        .lp [206, 216, 226, 236, 246, 338, 348, 358, 436, 446, 456, 464] [] [] [] [] [0, 1, 2] [1, 4, 6, 9, 10] (aj (aj (u2 (u2 (aj t3 (u2 (ag a20 (ag a20 (aj (aj a20 t3) (ag a20 (u2 (ag a21 (ag a21 (aj (aj a21 t3) (ag a21 (u2 (ag a22 (ag a22 (aj (aj a22 t3) (al (aj a22 t2))))))))))))))))))) (aj a14 (al (u2 (u2 s2))))) t9))))))))))))))
 (fun a1 =>
  .gu fun a2 =>
  have c0 := cnt_c a2;
  have c1 := rcn_c a2;
  have c2 := plc_c (v2) (v3) a2;
  have c3 := rpc_c (v2) (v3) a2;
  .rn 3 [96] [] [(76, hK c0 [] []), (81, hK c1 [] []), (88, hK c2 [] []), (96, hK c3 [] [])] [] (aj a1 (aj (u2 (aj (ak (aj t9 (al (c0)))) (u2 (u2 (u2 (u2 s2)))))) (aj (u2 (aj (ak (aj t9 (al (c1)))) (u2 (u2 (u2 (u2 s2)))))) (aj (u2 (aj (ak (aj (show (0 : Int) ≤ (0 : Int) from (by first | exact Nat.le_of_ble_eq_true rfl | decide)) (show (0 : Int) < (3 : Int) from (by first | exact Nat.le_of_ble_eq_true rfl | decide)))) (u2 (aj (k2 (aj t9 (ak (al (c2))))) (u2 (u2 (u2 (u2 (u2 (u2 s2)))))))))) (al (u2 (aj (ak (aj (show (0 : Int) ≤ (0 : Int) from (by first | exact Nat.le_of_ble_eq_true rfl | decide)) (show (0 : Int) < (3 : Int) from (by first | exact Nat.le_of_ble_eq_true rfl | decide)))) (u2 (aj (k2 (aj t9 (ak (al (c3))))) (u2 (u2 (u2 (u2 (u2 (u2 s2))))))))))))))) <|
  .br (fun a3 =>
  .rt [207] [] [] [] [] [] (aj (aj (u2 (u2 (aj t3 (u2 (aj a3 (aj a3 (aj a3 (ag a3 (u2 (k3 (aj t3 (u2 (k3 (aj t3 (u2 (k3 (aj t3 (u2 (k3 (k5 (k5 (al t3)))))))))))))))))))))) (ak s2)) t2))
  (fun a3 =>
  .br (fun a4 =>
   .rt [206, 217] [] [] [] [] [] (aj (aj (u2 (u2 (aj t3 (u2 (ag a3 (ag a3 (aj (aj a3 t3) (ag a3 (u2 (aj a4 (aj a4 (aj a4 (ag a4 (u2 (k3 (aj t3 (u2 (k3 (aj t3 (u2 (k3 (k5 (k5 (al t3)))))))))))))))))))))))) (ak s2)) t2))
  (fun a4 =>
   .br (fun a5 =>
   .rt [206, 216, 227] [] [] [] [] [] (aj (aj (u2 (u2 (aj t3 (u2 (ag a3 (ag a3 (aj (aj a3 t3) (ag a3 (u2 (ag a4 (ag a4 (aj (aj a4 t3) (ag a4 (u2 (aj a5 (aj a5 (aj a5 (ag a5 (u2 (k3 (aj t3 (u2 (k3 (k5 (k5 (al t3)))))))))))))))))))))))))) (ak s2)) t2))
   (fun a5 =>
   .br (fun a6 =>
    .rt [206, 216, 226, 237] [] [] [] [] [] (aj (aj (u2 (u2 (aj t3 (u2 (ag a3 (ag a3 (aj (aj a3 t3) (ag a3 (u2 (ag a4 (ag a4 (aj (aj a4 t3) (ag a4 (u2 (ag a5 (ag a5 (aj (aj a5 t3) (ag a5 (u2 (aj a6 (aj a6 (aj a6 (ag a6 (u2 (k3 (k5 (k5 (al t3)))))))))))))))))))))))))))) (ak s2)) t2))
   (fun a6 =>
    .br (fun a7 =>
    .rt [206, 216, 226, 236, 247] [] [] [] [] [] (aj (aj (u2 (u2 (aj t3 (u2 (ag a3 (ag a3 (aj (aj a3 t3) (ag a3 (u2 (ag a4 (ag a4 (aj (aj a4 t3) (ag a4 (u2 (ag a5 (ag a5 (aj (aj a5 t3) (ag a5 (u2 (ag a6 (ag a6 (aj (aj a6 t3) (ag a6 (u2 (aj a7 (aj a7 (aj a7 (aj a7 (aj a7 (aj a7 (aj a7 (aj a7 (aj a7 (aj a7 (aj a7 (aj a7 (aj a7 (al (aj a7 t2))))))))))))))))))))))))))))))))))))))) (ak s2)) t2))
    (fun a7 =>
    have c4 := cfol_c (v2) (v3) (v4) a2;
    have c5 := rfol_c (v2) (v3) (v4) a2;
    .rn 0 [206, 216, 226, 236, 246] [] [(129, hK c4 [] []), (135, hK c5 [] [])] [] (al (u2 (u2 (aj t3 (u2 (ag a3 (ag a3 (aj (aj a3 t3) (ag a3 (u2 (ag a4 (ag a4 (aj (aj a4 t3) (ag a4 (u2 (ag a5 (ag a5 (aj (aj a5 t3) (ag a5 (u2 (ag a6 (ag a6 (aj (aj a6 t3) (ag a6 (u2 (ag a7 (aj (aj a7 (ak (aj (show (0 : Int) ≤ (0 : Int) from (by first | exact Nat.le_of_ble_eq_true rfl | decide)) (show (0 : Int) < (3 : Int) from (by first | exact Nat.le_of_ble_eq_true rfl | decide))))) (ag a7 (aj (aj a7 (ak (aj (show (0 : Int) ≤ (1 : Int) from (by first | exact Nat.le_of_ble_eq_true rfl | decide)) (show (1 : Int) < (3 : Int) from (by first | exact Nat.le_of_ble_eq_true rfl | decide))))) (ag a7 (aj (aj a7 (k3 (aj t9 (k2 (al (c4)))))) (ag a7 (aj (aj a7 (ak (aj (show (0 : Int) ≤ (0 : Int) from (by first | exact Nat.le_of_ble_eq_true rfl | decide)) (show (0 : Int) < (3 : Int) from (by first | exact Nat.le_of_ble_eq_true rfl | decide))))) (ag a7 (aj (aj a7 (ak (aj (show (0 : Int) ≤ (1 : Int) from (by first | exact Nat.le_of_ble_eq_true rfl | decide)) (show (1 : Int) < (3 : Int) from (by first | exact Nat.le_of_ble_eq_true rfl | decide))))) (ag a7 (aj (aj a7 (k3 (aj t9 (k2 (al (c5)))))) (aj (aj a7 t3) (al (aj a7 t2)))))))))))))))))))))))))))))))))))))))) <|
    .br (fun a8 =>
     .rt [206, 216, 226, 236, 246, 275] [] [] [] [] [] (aj (aj a8 s2) t2))
    (fun a8 =>
     have c6 := hd9_c (v2) (v5) a2;
     have c7 := rho_c (v2) (v5) a2;
     have c8 := cnext_c (v2) (v3) a2;
     have c9 := rno_c (v2) (v3) a2;
     .rn 3 [206, 216, 226, 236, 246, 274] [] [(142, hK c6 [] []), (149, hK c7 [] []), (156, hK c8 [] []), (163, hK c9 [] [])] [] (aj a8 (aj (u2 (aj (ak (aj (show (0 : Int) ≤ (2 : Int) from (by first | exact Nat.le_of_ble_eq_true rfl | decide)) (show (2 : Int) < (3 : Int) from (by first | exact Nat.le_of_ble_eq_true rfl | decide)))) (u2 (aj (k2 (aj t9 (ak (al (c6))))) (u2 (u2 (u2 (u2 s2)))))))) (aj (u2 (aj (ak (aj (show (0 : Int) ≤ (2 : Int) from (by first | exact Nat.le_of_ble_eq_true rfl | decide)) (show (2 : Int) < (3 : Int) from (by first | exact Nat.le_of_ble_eq_true rfl | decide)))) (u2 (aj (k2 (aj t9 (ak (al (c7))))) (u2 (u2 (u2 (u2 s2)))))))) (aj (u2 (aj (ak (aj (show (0 : Int) ≤ (0 : Int) from (by first | exact Nat.le_of_ble_eq_true rfl | decide)) (show (0 : Int) < (3 : Int) from (by first | exact Nat.le_of_ble_eq_true rfl | decide)))) (u2 (aj (k2 (aj t9 (ak (al (c8))))) (u2 (u2 (u2 (u2 s2)))))))) (al (u2 (aj (ak (aj (show (0 : Int) ≤ (0 : Int) from (by first | exact Nat.le_of_ble_eq_true rfl | decide)) (show (0 : Int) < (3 : Int) from (by first | exact Nat.le_of_ble_eq_true rfl | decide)))) (u2 (aj (k2 (aj t9 (ak (al (c9))))) (u2 (u2 (u2 (u2 s2))))))))))))) <|
     .br (fun a9 =>
     .rt [206, 216, 226, 236, 246, 339] [] [] [] [] [] (aj (aj (u2 (u2 (aj t3 (u2 (aj a9 (aj a9 (aj a9 (ag a9 (u2 (k3 (aj t3 (u2 (ak (k3 (al t3))))))))))))))) (ak s2)) t2))
     (fun a9 =>
     .br (fun a10 =>
      .rt [206, 216, 226, 236, 246, 338, 349] [] [] [] [] [] (aj (aj (u2 (u2 (aj t3 (u2 (ag a9 (ag a9 (aj (aj a9 t3) (ag a9 (u2 (aj a10 (aj a10 (aj a10 (ag a10 (u2 (ak (k3 (al t3))))))))))))))))) (ak s2)) t2))
     (fun a10 =>
      .gu fun a11 =>
      have c10 := sin_c (nxO v2 v3) (nxO v2 v3) a11;
      .rn 0 [206, 216, 226, 236, 246, 338, 348, 358] [] [(182, hK c10 [] [])] [] (al (u2 (u2 (aj t3 (u2 (ag a9 (ag a9 (aj (aj a9 t3) (ag a9 (u2 (ag a10 (ag a10 (aj (aj a10 t3) (ag a10 (u2 (ag a7 (ag a7 (aj (aj a7 (ak (k3 (al (c10))))) (ag a7 (al (aj a7 t2))))))))))))))))))))) <|
      .br (fun a12 =>
      .rt [206, 216, 226, 236, 246, 338, 348, 358, 369] [] [] [] [] [] (aj (aj a12 s2) t2))
      (fun a12 =>
      have c11 := cOpen_ct a2 (v0) (v5);
      have c12 := roo_c a2 (v0) (v5);
      have c13 := nam_c (v2) (v3) a2;
      have c14 := rnm_c (v2) (v3) a2;
      .rn 3 [206, 216, 226, 236, 246, 338, 348, 358, 368] [] [(190, hK c11 [] []), (198, hK c12 [] []), (205, hK c13 [] []), (212, hK c14 [] [])] [] (aj a12 (aj (u2 (u2 (aj (ak (aj (show (0 : Int) ≤ (2 : Int) from (by first | exact Nat.le_of_ble_eq_true rfl | decide)) (show (2 : Int) < (3 : Int) from (by first | exact Nat.le_of_ble_eq_true rfl | decide)))) (u2 (aj (k3 (aj t9 (k2 (al (c11))))) (u2 (u2 (u2 (u2 s2))))))))) (aj (u2 (u2 (aj (ak (aj (show (0 : Int) ≤ (2 : Int) from (by first | exact Nat.le_of_ble_eq_true rfl | decide)) (show (2 : Int) < (3 : Int) from (by first | exact Nat.le_of_ble_eq_true rfl | decide)))) (u2 (aj (k3 (aj t9 (k2 (al (c12))))) (u2 (u2 (u2 (u2 s2))))))))) (aj (u2 (aj (ak (aj (show (0 : Int) ≤ (0 : Int) from (by first | exact Nat.le_of_ble_eq_true rfl | decide)) (show (0 : Int) < (3 : Int) from (by first | exact Nat.le_of_ble_eq_true rfl | decide)))) (u2 (aj (k2 (aj t9 (ak (al (c13))))) (u2 (u2 (u2 (u2 s2)))))))) (al (u2 (aj (ak (aj (show (0 : Int) ≤ (0 : Int) from (by first | exact Nat.le_of_ble_eq_true rfl | decide)) (show (0 : Int) < (3 : Int) from (by first | exact Nat.le_of_ble_eq_true rfl | decide)))) (u2 (aj (k2 (aj t9 (ak (al (c14))))) (u2 (u2 (u2 (u2 s2))))))))))))) <|
      .br (fun a13 =>
       .rt [206, 216, 226, 236, 246, 338, 348, 358, 437] [] [] [] [] [] (aj (aj (u2 (u2 (aj t3 (u2 (aj a13 (aj a13 (aj a13 (ag a13 (u2 (k3 (aj t3 (u2 (k3 (al t3)))))))))))))) (ak s2)) t2))
      (fun a13 =>
       .br (fun a14 =>
       .rt [206, 216, 226, 236, 246, 338, 348, 358, 436, 447] [] [] [] [] [] (aj (aj (u2 (u2 (aj t3 (u2 (ag a13 (ag a13 (aj (aj a13 t3) (ag a13 (u2 (aj a14 (aj a14 (aj a14 (ag a14 (u2 (k3 (al t3)))))))))))))))) (ak s2)) t2))
       (fun a14 =>
       .br (fun a15 =>
        .rt [206, 216, 226, 236, 246, 338, 348, 358, 436, 446, 457] [] [] [] [] [] (aj (aj (u2 (u2 (aj t3 (u2 (ag a13 (ag a13 (aj (aj a13 t3) (ag a13 (u2 (ag a14 (ag a14 (aj (aj a14 t3) (ag a14 (u2 (aj a15 (aj a15 (aj a15 (al (aj a15 t2))))))))))))))))))) (ak s2)) t2))
       (fun a15 =>
        .lp [206, 216, 226, 236, 246, 338, 348, 358, 436, 446, 456, 464] [] [] [] [] [0, 1, 2] [1, 4, 6, 9, 10] (aj (aj (u2 (u2 (aj t3 (u2 (ag a13 (ag a13 (aj (aj a13 t3) (ag a13 (u2 (ag a14 (ag a14 (aj (aj a14 t3) (ag a14 (u2 (ag a15 (ag a15 (aj (aj a15 t3) (al (aj a15 t2))))))))))))))))))) (aj a7 (al (u2 (u2 s2))))) t9)))))))))))))))
 (fun a0 =>
 .rt [88] [] [] [] [] [] (aj (aj a0 s2) t2))) (by kernel_rfl)
theorem ceF_ct (n : NetD) (sh : List Bool) (p q w : Int) (ls : List Int) (r : Ret) (h : MReach (ceFStep n sh p q w ls) (ceFEn n sh p q w ls) r) : CT Tryd.prog 7 ([]) ([netA n, .lst (boL sh), .agg [.int .i64 p, .int .i64 q, .int .i64 w], lI ls]) r.1 r.2 :=
  CT.mach (fn := Tryd.f7) (c := bodyOf Tryd.f7) (S := ceFSt n sh p q w ls) (hd := ceFHd) Tryd.func7 (by kernel_rfl) (Nat.le_of_ble_eq_true rfl)
    (fun s o ho => match s, ho with
      | .l0 v0 v1 v2 v3 v4 v5 v6, ho => ceFS0_ok n sh p q w ls v0 v1 v2 v3 v4 v5 v6 o ho
    )
    (fun o ho => ceFEn_ok n sh p q w ls o ho) h
theorem nbb (b : Bool) : (!b == b) = false := by cases b <;> rfl
theorem ceF_leaf {σ : Type} {n : NetD} (hrw : Rows n.nx) (sh : List Bool) (p q w : Int) {F Y : Option σ} :
    gu (Rows n.nx) (br (cntZ n != cntZ n) F (br (cntE n != cntE n) F (br (pliZ n p != pliZ n p) F (br (pljZ n p != pljZ n p) F (br (ckE n p != ckE n p) F (br (!folB n p q == folB n p q) F (br (hdZ n w != hdZ n w) F (br (csE n w != csE n w) F (gu ((nxO n p).length ≤ 1000000) (br (!decide (nxO n p = nxO n p)) F (br (!cOB n sh w == cOB n sh w) F (br (cOE n sh w != cOE n sh w) F (br (!(namZ n p).toList == (namZ n p).toList) F Y))))))))))))) = Y := by
  have := nxO_len hrw p
  rw [gu_t hrw, br_f (bne_self_eq_false _), br_f (bne_self_eq_false _), br_f (bne_self_eq_false _), br_f (bne_self_eq_false _), br_f (bne_self_eq_false _), br_f (nbb _), br_f (bne_self_eq_false _), br_f (bne_self_eq_false _), gu_t (by omega), br_f (by simp), br_f (nbb _), br_f (bne_self_eq_false _), br_f (by simp)]
theorem ceF_run {n : NetD} (hrw : Rows n.nx) (sh : List Bool) (p q w : Int) (ls : List Int) : CT Tryd.prog 7 [] [netA n, .lst (boL sh), .agg [.int .i64 p, .int .i64 q, .int .i64 w], lI ls] [] (.bool true) := by
  refine ceF_ct n sh p q w ls ([], .bool true) ?_
  have hs := loo_spec (L := ls) (kk := 0) (most := 8) (by omega) (by omega)
  have hce := hs.1.v.cel
  have hsh := shu_spec (L := ls) (kk := looK ls 0 8) (c := celN (looM ls 0 8)) (by omega) (by omega)
  have fin : ∀ z0 z2 z3 z4 z5 z6, MReach (ceFStep n sh p q w ls) (some (.inl (.l0 z0 (IntKind.i64.wrap (1 + 1)) z2 z3 z4 z5 z6))) (([], .bool true) : Ret) := fun z0 z2 z3 z4 z5 z6 => by
    refine .to (show ceFS0 n sh p q w ls z0 _ z2 z3 z4 z5 z6 = _ from ?_) (.ret _)
    unfold ceFS0
    rw [br_f (by rfl)]
  unfold ceFEn
  refine .to (show ceFS0 n sh p q w ls sh 0 n p q w 0 = some (.inl (.l0 sh 1 n p q w 0)) from ?_) (.to (show ceFS0 n sh p q w ls sh 1 n p q w 0 = _ from rfl) ?_)
  · unfold ceFS0
    rw [br_t (by rfl), br_f (by rfl), ceF_leaf hrw sh p q w]
    rfl
  · unfold ceFS0
    rw [br_t (by rfl), br_t (by rfl), gu_t (by omega), gu_t hs.1.v, gu_t (by omega), gu_t (by omega), gu_t (by omega), gu_t (by omega), gu_t (by omega), ceF_leaf hs.1.rows]
    exact fin _ _ _ _ _ _
theorem rdInts {n : Nat} {es : List AV} (h : ∀ x ∈ es, ShV Tryd.prog n 3 x) : ∃ L : List Int, es = L.map (AV.int .i64) := by
  induction es with
  | nil => exact ⟨[], rfl⟩
  | cons x es ih =>
    obtain ⟨L, rfl⟩ := ih fun y hy => h y (List.mem_cons_of_mem _ hy)
    obtain ⟨i, _, rfl⟩ := (h x (by simp)).intD Tryd.underlying3
    exact ⟨i :: L, rfl⟩
theorem rdBools {n : Nat} {es : List AV} (h : ∀ x ∈ es, ShV Tryd.prog n 4 x) : ∃ s : List Bool, es = s.map AV.bool := by
  induction es with
  | nil => exact ⟨[], rfl⟩
  | cons x es ih =>
    obtain ⟨L, rfl⟩ := ih fun y hy => h y (List.mem_cons_of_mem _ hy)
    obtain ⟨i, rfl⟩ := (h x (by simp)).boolD Tryd.underlying4
    exact ⟨i :: L, rfl⟩
theorem rdBlkD67 {n : Nat} {a : AV} (h : ShV Tryd.prog (n + 1) 67 a) : ∃ x : BlkD, a = bA x := by
  obtain ⟨_, hs, rfl⟩ := h.structD Tryd.underlying67
  obtain ⟨_, _, rfl, g0, hs⟩ := hs.consD
  obtain ⟨_, _, rfl, g1, hs⟩ := hs.consD
  obtain ⟨_, _, rfl, g2, hs⟩ := hs.consD
  obtain rfl := hs.nilD
  obtain ⟨x0, _, rfl⟩ := g0.strD Tryd.underlying9
  obtain ⟨x1, _, rfl⟩ := g1.intD Tryd.underlying3
  obtain ⟨x2, _, rfl⟩ := g2.intD Tryd.underlying3
  exact ⟨⟨x0, x1, x2⟩, rfl⟩
theorem rdBlkDs67 {n : Nat} {es : List AV} (h : ∀ x ∈ es, ShV Tryd.prog (n + 1) 67 x) : ∃ L : List BlkD, es = L.map bA := by
  induction es with
  | nil => exact ⟨[], rfl⟩
  | cons x es ih =>
    obtain ⟨L, rfl⟩ := ih fun y hy => h y (List.mem_cons_of_mem _ hy)
    obtain ⟨f, rfl⟩ := rdBlkD67 (h x (by simp))
    exact ⟨f :: L, rfl⟩
theorem rdSpuD41 {n : Nat} {a : AV} (h : ShV Tryd.prog (n + 1) 41 a) : ∃ x : SpuD, a = sA x := by
  obtain ⟨_, hs, rfl⟩ := h.structD Tryd.underlying41
  obtain ⟨_, _, rfl, g0, hs⟩ := hs.consD
  obtain ⟨_, _, rfl, g1, hs⟩ := hs.consD
  obtain ⟨_, _, rfl, g2, hs⟩ := hs.consD
  obtain ⟨_, _, rfl, g3, hs⟩ := hs.consD
  obtain ⟨_, _, rfl, g4, hs⟩ := hs.consD
  obtain ⟨_, _, rfl, g5, hs⟩ := hs.consD
  obtain rfl := hs.nilD
  obtain ⟨x0, _, rfl⟩ := g0.strD Tryd.underlying9
  obtain ⟨x1, rfl⟩ := g1.boolD Tryd.underlying4
  obtain ⟨x2, _, rfl⟩ := g2.intD Tryd.underlying3
  obtain ⟨x3, _, rfl⟩ := g3.intD Tryd.underlying3
  obtain ⟨x4, _, rfl⟩ := g4.intD Tryd.underlying3
  obtain ⟨x5, _, rfl⟩ := g5.intD Tryd.underlying3
  exact ⟨⟨x0, x1, x2, x3, x4, x5⟩, rfl⟩
theorem rdSpuDs41 {n : Nat} {es : List AV} (h : ∀ x ∈ es, ShV Tryd.prog (n + 1) 41 x) : ∃ L : List SpuD, es = L.map sA := by
  induction es with
  | nil => exact ⟨[], rfl⟩
  | cons x es ih =>
    obtain ⟨L, rfl⟩ := ih fun y hy => h y (List.mem_cons_of_mem _ hy)
    obtain ⟨f, rfl⟩ := rdSpuD41 (h x (by simp))
    exact ⟨f :: L, rfl⟩
theorem rdRows25 {n : Nat} {es : List AV} (h : ∀ x ∈ es, ShV Tryd.prog (n + 1) 22 x) : ∃ g : List (List Int), es = gL g ∧ Rows g := by
  have key : ∃ g : List (List Int), es = gL g ∧ ∀ r ∈ g, r.length ≤ 9223372036854775807 := by
    induction es with
    | nil => exact ⟨[], rfl, fun r hr => by cases hr⟩
    | cons x es ih =>
      obtain ⟨g, rfl, hg⟩ := ih fun y hy => h y (List.mem_cons_of_mem _ hy)
      obtain ⟨ls, hm, hl, rfl⟩ := (h x (by simp)).sliceD Tryd.underlying22
      obtain ⟨L, rfl⟩ := rdInts hl
      refine ⟨L :: g, rfl, fun r hr => ?_⟩
      rcases List.mem_cons.1 hr with rfl | hr
      · simpa [maxLen] using hm
      · exact hg r hr
  obtain ⟨g, e, hg⟩ := key
  refine ⟨g, e, fun v hv => ?_⟩
  rw [List.getD_eq_getElem?_getD, List.getElem?_eq_getElem hv]
  exact hg _ (List.getElem_mem hv)
theorem rdNet30 {n : Nat} {a : AV} (h : ShV Tryd.prog (n + 4) 30 a) : ∃ x : NetD, a = netA x ∧ Rows x.nx := by
  obtain ⟨_, hs, rfl⟩ := h.structD Tryd.underlying30
  obtain ⟨_, _, rfl, g0, hs⟩ := hs.consD
  obtain ⟨_, _, rfl, g1, hs⟩ := hs.consD
  obtain ⟨_, _, rfl, g2, hs⟩ := hs.consD
  obtain ⟨_, _, rfl, g3, hs⟩ := hs.consD
  obtain ⟨_, _, rfl, g4, hs⟩ := hs.consD
  obtain rfl := hs.nilD
  obtain ⟨_, _, h0, rfl⟩ := g0.sliceD Tryd.underlying24
  obtain ⟨bs, rfl⟩ := rdBlkDs67 h0
  obtain ⟨_, _, h1, rfl⟩ := g1.sliceD Tryd.underlying25
  obtain ⟨nx, rfl, hnx⟩ := rdRows25 h1
  obtain ⟨_, _, h2, rfl⟩ := g2.sliceD Tryd.underlying26
  obtain ⟨ss, rfl⟩ := rdSpuDs41 h2
  obtain ⟨_, _, h3, rfl⟩ := g3.sliceD Tryd.underlying22
  obtain ⟨rs, rfl⟩ := rdInts h3
  obtain ⟨_, h4, rfl⟩ := g4.structD Tryd.underlying28
  obtain ⟨_, _, rfl, k0, h4⟩ := h4.consD
  obtain ⟨_, _, rfl, k1, h4⟩ := h4.consD
  obtain ⟨_, _, rfl, k2, h4⟩ := h4.consD
  obtain ⟨_, _, rfl, k3, h4⟩ := h4.consD
  obtain rfl := h4.nilD
  obtain ⟨q, _, rfl⟩ := k0.intD Tryd.underlying3
  obtain ⟨a, _, rfl⟩ := k1.intD Tryd.underlying3
  obtain ⟨d, _, rfl⟩ := k2.intD Tryd.underlying3
  obtain ⟨p, _, rfl⟩ := k3.intD Tryd.underlying3
  exact ⟨⟨bs, nx, ss, rs, q, a, d, p⟩, rfl, hnx⟩
theorem cellsFinds_row (avs : List AV) (h : ShVs Tryd.prog 6 Tryd.f7.params.toList avs) : CT Tryd.prog 7 [] avs [] (.bool true) := by
  rw [Tryd.params7] at h
  obtain ⟨a, _, rfl, ka, h⟩ := h.consD
  obtain ⟨b, _, rfl, kb, h⟩ := h.consD
  obtain ⟨c, _, rfl, kc, h⟩ := h.consD
  obtain ⟨d, _, rfl, kd, h⟩ := h.consD
  obtain rfl := h.nilD
  obtain ⟨n, rfl, hrw⟩ := rdNet30 ka
  obtain ⟨_, _, hb, rfl⟩ := kb.sliceD Tryd.underlying52
  obtain ⟨u, rfl⟩ := rdBools hb
  obtain ⟨_, hd, rfl⟩ := kc.arrayD Tryd.underlying56
  obtain ⟨_, _, rfl, g1, hd⟩ := hd.consD
  obtain ⟨_, _, rfl, g2, hd⟩ := hd.consD
  obtain ⟨_, _, rfl, g3, hd⟩ := hd.consD
  obtain rfl := hd.nilD
  obtain ⟨x, _, rfl⟩ := g1.intD Tryd.underlying3
  obtain ⟨y, _, rfl⟩ := g2.intD Tryd.underlying3
  obtain ⟨z, _, rfl⟩ := g3.intD Tryd.underlying3
  obtain ⟨_, _, he, rfl⟩ := kd.sliceD Tryd.underlying22
  obtain ⟨l, rfl⟩ := rdInts he
  exact ceF_run hrw u x y z l
end Go.Proofs.YtlogjpmajgbgaaaDoor

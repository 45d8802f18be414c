/- Parts of the proof: Tk5m, TkK, Tk6m, TkI, TkM, Tk7m, TkR, TkN, TkO, TkS, Tk8m, TkT, Tl1m, TlA, Tl4m, TlD. -/
import Derived.Test.YteohjokcoddnjaaProg
import Derived.KernelRfl
import Derived.Test.YteohjokcoddnjaaTokenMovesM4
open Go Go.AX Go.Proofs
set_option maxRecDepth 100000
set_option maxHeartbeats 4000000
set_option linter.unusedVariables false
set_option linter.unusedSimpArgs false
namespace Go.Proofs.Yteohjokcoddnjaa
noncomputable def cycSt (g : List (List Int)) : Empty → St
  | x => x.elim
def cycHd : Empty → Nat
  | x => x.elim
noncomputable def cycEn (g : List (List Int)) : Option (Empty ⊕ Ret) :=
  gu (Rows g) <|
  br (!valZ g)
  (some (.inr ([], AV.tup [AV.nils, AV.int IntKind.i64 20])))
  (gu (1 * iN (gL g).length ≤ 281474976710656) <|
   gu (iN (gL g).length ≤ 9223372036854775807) <|
   gu ((gL g).length = g.length) <|
   br (iN (List.map (AV.int IntKind.i64) (girW g)).length == 0)
   (some (.inr ([], AV.tup [AV.nils, AV.int IntKind.i64 25])))
   (some (.inr ([], AV.tup [AV.lst (List.map (AV.int IntKind.i64) (girW g)), AV.int IntKind.i64 0]))))
noncomputable def cycStep (g : List (List Int)) : Empty → Option (Empty ⊕ Ret)
  | x => x.elim
theorem cycEn_ok (g : List (List Int)) (o : Empty ⊕ Ret) (h : cycEn g = some o) : Arr Try.prog Try.f65 0 (cycSt g) cycHd (bodyOf Try.f65) [] { n := Try.f65.ntmps, fr := enumF 0 ([.lst (gL g)]), hp := ([]) } o :=
 Scr.ok h mix (
 .rn 0 [] [] [] [] (al t3) <|
 .gu fun a0 =>
 have c0 := valid59_ct a0;
 .rn 0 [] [] [(8, hK c0 [] [])] [] (al (u2 (aj (k2 (al (c0))) s2))) <|
 .br (fun a1 =>
 .rt [19] [] [] [] [] [] (aj (aj a1 (al t3)) (al t3)))
 (fun a1 =>
 .gu fun a2 =>
 .gu fun a3 =>
 .gu fun a4 =>
 have c1 := gir_c (g) ((gL g).length) a0 a4;
 .rn 1 [18] [(14, AV.lst [])] [(15, hK c1 [] [])] [] (aj a1 (aj (u2 (u2 (u2 (aj (k2 (aj (show 0 ≤ iN (gL g).length from (Int.natCast_nonneg _)) (aj (show iN (gL g).length ≤ iN (gL g).length by omega) (aj a2 a3)))) (aj (ak (k3 (al (c1)))) (u2 (u2 (u2 (u2 (u2 (u2 s2))))))))))) (al (u2 (u2 s2))))) <|
 .br (fun a5 =>
  .rt [43] [] [] [] [] [] (aj (aj a5 (al t3)) (al t3)))
 (fun a5 =>
  .rt [42] [] [] [] [] [] (aj (aj a5 (al (u2 (u2 t2)))) (al t3))))) (by kernel_rfl)
theorem cyc_ct (g : List (List Int)) (r : Ret) (h : MReach (cycStep g) (cycEn g) r) : CT Try.prog 65 ([]) ([.lst (gL g)]) r.1 r.2 :=
  CT.mach (fn := Try.f65) (c := bodyOf Try.f65) (S := cycSt g) (hd := cycHd) Try.func65 (by kernel_rfl) (Nat.le_of_ble_eq_true rfl)
    (fun s o ho => match s, ho with
      | x, _ => x.elim)
    (fun o ho => cycEn_ok g o ho) h
inductive trePc where
  | l0 (v0 : List Int) (v1 : Int) (v2 : Int) (v3 : Int) (v4 : Int) (v5 : Int) (v6 : Int) (v7 : Int) (v8 : Int) (v9 : Int) (v10 : Int) (v11 : Int) (v12 : Int) (v13 : Int) (v14 : Int) (v15 : Int) (v16 : Int) (v17 : Int) (v18 : Int) (v19 : Int) (v20 : Int) (v21 : Int) (v22 : Int) (v23 : Int) (v24 : Int) (v25 : Int)
noncomputable def treSt (g : List (List Int)) (l : List MvD) : trePc → St
  | .l0 v0 v1 v2 v3 v4 v5 v6 v7 v8 v9 v10 v11 v12 v13 v14 v15 v16 v17 v18 v19 v20 v21 v22 v23 v24 v25 => St.mk 112 [(0, AV.lst (gL g)), (6, AV.ptr 0 0 0), (7, AV.sl 1 0 v0.length), (19, AV.lst (List.map mvA l)), (20, iv (iN (List.map mvA l).length)), (21, iv v1)] [some (Blk.mk [AV.agg [iv v2, iv v3, iv v4, iv v5, iv v6, iv v7, iv v8, iv v9, iv v10, iv v11, iv v12, iv v13, iv v14, iv v15, iv v16, iv v17, iv v18, iv v19, iv v20, iv v21, iv v22, iv v23, iv v24, iv v25]] 24 true true none), some (Blk.mk (List.map (iv) v0) 1 true true none)]
def treHd : trePc → Nat
  | .l0 _ _ _ _ _ _ _ _ _ _ _ _ _ _ _ _ _ _ _ _ _ _ _ _ _ _ => 0
noncomputable def treEn (g : List (List Int)) (l : List MvD) : Option (trePc ⊕ Ret) :=
  gu (Rows g) <|
  br (!valZ g)
  (some (.inr ([], AV.tup [AV.nils, AV.int IntKind.i64 20])))
  (br (decide (1200 < iN (List.map mvA l).length))
   (some (.inr ([], AV.tup [AV.nils, AV.int IntKind.i64 14])))
   (some (.inl (.l0 ([]) ((0 : Int)) ((0 : Int)) ((0 : Int)) ((0 : Int)) ((0 : Int)) ((0 : Int)) ((0 : Int)) ((0 : Int)) ((0 : Int)) ((0 : Int)) ((0 : Int)) ((0 : Int)) ((0 : Int)) ((0 : Int)) ((0 : Int)) ((0 : Int)) ((0 : Int)) ((0 : Int)) ((0 : Int)) ((0 : Int)) ((0 : Int)) ((0 : Int)) ((0 : Int)) ((0 : Int)) ((0 : Int))))))
noncomputable def treS0 (g : List (List Int)) (l : List MvD) (v0 : List Int) (v1 : Int) (v2 : Int) (v3 : Int) (v4 : Int) (v5 : Int) (v6 : Int) (v7 : Int) (v8 : Int) (v9 : Int) (v10 : Int) (v11 : Int) (v12 : Int) (v13 : Int) (v14 : Int) (v15 : Int) (v16 : Int) (v17 : Int) (v18 : Int) (v19 : Int) (v20 : Int) (v21 : Int) (v22 : Int) (v23 : Int) (v24 : Int) (v25 : Int) : Option (trePc ⊕ Ret) :=
  br (decide (v1 < iN (List.map mvA l).length))
  (gu (0 ≤ v1) <|
   el (l) (v1.toNat) fun (x23 : MvD) =>
   br (decide (x23.o < 0))
   (some (.inr ([], AV.tup [AV.nils, AV.int IntKind.i64 24])))
   (br (decide (iN (gL g).length ≤ x23.o))
    (some (.inr ([], AV.tup [AV.nils, AV.int IntKind.i64 24])))
    (gu (0 ≤ x23.o) <|
     gu (x23.o < 24) <|
     el ([v2, v3, v4, v5, v6, v7, v8, v9, v10, v11, v12, v13, v14, v15, v16, v17, v18, v19, v20, v21, v22, v23, v24, v25]) (0 + x23.o.toNat * 1) fun (x39 : Int) =>
     br (decide (0 < x39))
     (some (.inr ([], AV.tup [AV.nils, AV.int IntKind.i64 24])))
     (br (decide (x23.t < 0))
      (some (.inr ([], AV.tup [AV.nils, AV.int IntKind.i64 24])))
      (br (decide (iN v0.length < x23.t))
       (some (.inr ([], AV.tup [AV.nils, AV.int IntKind.i64 24])))
       (br (!(x23.t == iN v0.length) == (x23.f == -1))
        (some (.inr ([], AV.tup [AV.nils, AV.int IntKind.i64 24])))
        (br (!x23.t == iN v0.length)
         (gu (0 ≤ x23.t) <|
          gu (x23.t < iN v0.length) <|
          el (v0) (0 + x23.t.toNat) fun (x72 : Int) =>
          br (x72 != x23.f)
          (some (.inr ([], AV.tup [AV.nils, AV.int IntKind.i64 24])))
          (gu (0 ≤ x23.f) <|
           el (g) (x23.f.toNat) fun (x80 : List Int) =>
           gu (x80.length ≤ 1000000) <|
           br (!hasZ x80 x23.o)
           (some (.inr ([], AV.tup [AV.nils, AV.int IntKind.i64 24])))
           (br (x23.t == iN v0.length)
            (gu ((List.map (AV.int IntKind.i64) v0).length + [AV.int IntKind.i64 x23.o].length ≤ 9223372036854775807) <|
             gu (((List.map (AV.int IntKind.i64) v0).length + [AV.int IntKind.i64 x23.o].length) * 8 ≤ 140737488355328) <|
             gu ((0 + x23.o.toNat * 1 + 1).le 24) <|
             some (.inl (.l0 (v0 ++ [x23.o]) (IntKind.i64.wrap (v1 + 1)) (bif Nat.beq 0 (0 + x23.o.toNat * 1) then IntKind.i64.wrap (x23.t + 1) else v2) (bif Nat.beq 1 (0 + x23.o.toNat * 1) then IntKind.i64.wrap (x23.t + 1) else v3) (bif Nat.beq 2 (0 + x23.o.toNat * 1) then IntKind.i64.wrap (x23.t + 1) else v4) (bif Nat.beq 3 (0 + x23.o.toNat * 1) then IntKind.i64.wrap (x23.t + 1) else v5) (bif Nat.beq 4 (0 + x23.o.toNat * 1) then IntKind.i64.wrap (x23.t + 1) else v6) (bif Nat.beq 5 (0 + x23.o.toNat * 1) then IntKind.i64.wrap (x23.t + 1) else v7) (bif Nat.beq 6 (0 + x23.o.toNat * 1) then IntKind.i64.wrap (x23.t + 1) else v8) (bif Nat.beq 7 (0 + x23.o.toNat * 1) then IntKind.i64.wrap (x23.t + 1) else v9) (bif Nat.beq 8 (0 + x23.o.toNat * 1) then IntKind.i64.wrap (x23.t + 1) else v10) (bif Nat.beq 9 (0 + x23.o.toNat * 1) then IntKind.i64.wrap (x23.t + 1) else v11) (bif Nat.beq 10 (0 + x23.o.toNat * 1) then IntKind.i64.wrap (x23.t + 1) else v12) (bif Nat.beq 11 (0 + x23.o.toNat * 1) then IntKind.i64.wrap (x23.t + 1) else v13) (bif Nat.beq 12 (0 + x23.o.toNat * 1) then IntKind.i64.wrap (x23.t + 1) else v14) (bif Nat.beq 13 (0 + x23.o.toNat * 1) then IntKind.i64.wrap (x23.t + 1) else v15) (bif Nat.beq 14 (0 + x23.o.toNat * 1) then IntKind.i64.wrap (x23.t + 1) else v16) (bif Nat.beq 15 (0 + x23.o.toNat * 1) then IntKind.i64.wrap (x23.t + 1) else v17) (bif Nat.beq 16 (0 + x23.o.toNat * 1) then IntKind.i64.wrap (x23.t + 1) else v18) (bif Nat.beq 17 (0 + x23.o.toNat * 1) then IntKind.i64.wrap (x23.t + 1) else v19) (bif Nat.beq 18 (0 + x23.o.toNat * 1) then IntKind.i64.wrap (x23.t + 1) else v20) (bif Nat.beq 19 (0 + x23.o.toNat * 1) then IntKind.i64.wrap (x23.t + 1) else v21) (bif Nat.beq 20 (0 + x23.o.toNat * 1) then IntKind.i64.wrap (x23.t + 1) else v22) (bif Nat.beq 21 (0 + x23.o.toNat * 1) then IntKind.i64.wrap (x23.t + 1) else v23) (bif Nat.beq 22 (0 + x23.o.toNat * 1) then IntKind.i64.wrap (x23.t + 1) else v24) (bif Nat.beq 23 (0 + x23.o.toNat * 1) then IntKind.i64.wrap (x23.t + 1) else v25))))
            (gu (x23.f < 24) <|
             gu ((0 + x23.f.toNat * 1 + 1).le 24) <|
             gu ((0 + x23.t.toNat).succ.le (List.map (AV.int IntKind.i64) v0).length) <|
             gu ((0 + x23.o.toNat * 1 + 1).le 24) <|
             some (.inl (.l0 (v0.set (0 + x23.t.toNat) x23.o) (IntKind.i64.wrap (v1 + 1)) (bif Nat.beq 0 (0 + x23.o.toNat * 1) then IntKind.i64.wrap (x23.t + 1) else bif Nat.beq 0 (0 + x23.f.toNat * 1) then 0 else v2) (bif Nat.beq 1 (0 + x23.o.toNat * 1) then IntKind.i64.wrap (x23.t + 1) else bif Nat.beq 1 (0 + x23.f.toNat * 1) then 0 else v3) (bif Nat.beq 2 (0 + x23.o.toNat * 1) then IntKind.i64.wrap (x23.t + 1) else bif Nat.beq 2 (0 + x23.f.toNat * 1) then 0 else v4) (bif Nat.beq 3 (0 + x23.o.toNat * 1) then IntKind.i64.wrap (x23.t + 1) else bif Nat.beq 3 (0 + x23.f.toNat * 1) then 0 else v5) (bif Nat.beq 4 (0 + x23.o.toNat * 1) then IntKind.i64.wrap (x23.t + 1) else bif Nat.beq 4 (0 + x23.f.toNat * 1) then 0 else v6) (bif Nat.beq 5 (0 + x23.o.toNat * 1) then IntKind.i64.wrap (x23.t + 1) else bif Nat.beq 5 (0 + x23.f.toNat * 1) then 0 else v7) (bif Nat.beq 6 (0 + x23.o.toNat * 1) then IntKind.i64.wrap (x23.t + 1) else bif Nat.beq 6 (0 + x23.f.toNat * 1) then 0 else v8) (bif Nat.beq 7 (0 + x23.o.toNat * 1) then IntKind.i64.wrap (x23.t + 1) else bif Nat.beq 7 (0 + x23.f.toNat * 1) then 0 else v9) (bif Nat.beq 8 (0 + x23.o.toNat * 1) then IntKind.i64.wrap (x23.t + 1) else bif Nat.beq 8 (0 + x23.f.toNat * 1) then 0 else v10) (bif Nat.beq 9 (0 + x23.o.toNat * 1) then IntKind.i64.wrap (x23.t + 1) else bif Nat.beq 9 (0 + x23.f.toNat * 1) then 0 else v11) (bif Nat.beq 10 (0 + x23.o.toNat * 1) then IntKind.i64.wrap (x23.t + 1) else bif Nat.beq 10 (0 + x23.f.toNat * 1) then 0 else v12) (bif Nat.beq 11 (0 + x23.o.toNat * 1) then IntKind.i64.wrap (x23.t + 1) else bif Nat.beq 11 (0 + x23.f.toNat * 1) then 0 else v13) (bif Nat.beq 12 (0 + x23.o.toNat * 1) then IntKind.i64.wrap (x23.t + 1) else bif Nat.beq 12 (0 + x23.f.toNat * 1) then 0 else v14) (bif Nat.beq 13 (0 + x23.o.toNat * 1) then IntKind.i64.wrap (x23.t + 1) else bif Nat.beq 13 (0 + x23.f.toNat * 1) then 0 else v15) (bif Nat.beq 14 (0 + x23.o.toNat * 1) then IntKind.i64.wrap (x23.t + 1) else bif Nat.beq 14 (0 + x23.f.toNat * 1) then 0 else v16) (bif Nat.beq 15 (0 + x23.o.toNat * 1) then IntKind.i64.wrap (x23.t + 1) else bif Nat.beq 15 (0 + x23.f.toNat * 1) then 0 else v17) (bif Nat.beq 16 (0 + x23.o.toNat * 1) then IntKind.i64.wrap (x23.t + 1) else bif Nat.beq 16 (0 + x23.f.toNat * 1) then 0 else v18) (bif Nat.beq 17 (0 + x23.o.toNat * 1) then IntKind.i64.wrap (x23.t + 1) else bif Nat.beq 17 (0 + x23.f.toNat * 1) then 0 else v19) (bif Nat.beq 18 (0 + x23.o.toNat * 1) then IntKind.i64.wrap (x23.t + 1) else bif Nat.beq 18 (0 + x23.f.toNat * 1) then 0 else v20) (bif Nat.beq 19 (0 + x23.o.toNat * 1) then IntKind.i64.wrap (x23.t + 1) else bif Nat.beq 19 (0 + x23.f.toNat * 1) then 0 else v21) (bif Nat.beq 20 (0 + x23.o.toNat * 1) then IntKind.i64.wrap (x23.t + 1) else bif Nat.beq 20 (0 + x23.f.toNat * 1) then 0 else v22) (bif Nat.beq 21 (0 + x23.o.toNat * 1) then IntKind.i64.wrap (x23.t + 1) else bif Nat.beq 21 (0 + x23.f.toNat * 1) then 0 else v23) (bif Nat.beq 22 (0 + x23.o.toNat * 1) then IntKind.i64.wrap (x23.t + 1) else bif Nat.beq 22 (0 + x23.f.toNat * 1) then 0 else v24) (bif Nat.beq 23 (0 + x23.o.toNat * 1) then IntKind.i64.wrap (x23.t + 1) else bif Nat.beq 23 (0 + x23.f.toNat * 1) then 0 else v25)))))))
         (br (x23.t == iN v0.length)
          (gu ((List.map (AV.int IntKind.i64) v0).length + [AV.int IntKind.i64 x23.o].length ≤ 9223372036854775807) <|
           gu (((List.map (AV.int IntKind.i64) v0).length + [AV.int IntKind.i64 x23.o].length) * 8 ≤ 140737488355328) <|
           gu ((0 + x23.o.toNat * 1 + 1).le 24) <|
           some (.inl (.l0 (v0 ++ [x23.o]) (IntKind.i64.wrap (v1 + 1)) (bif Nat.beq 0 (0 + x23.o.toNat * 1) then IntKind.i64.wrap (x23.t + 1) else v2) (bif Nat.beq 1 (0 + x23.o.toNat * 1) then IntKind.i64.wrap (x23.t + 1) else v3) (bif Nat.beq 2 (0 + x23.o.toNat * 1) then IntKind.i64.wrap (x23.t + 1) else v4) (bif Nat.beq 3 (0 + x23.o.toNat * 1) then IntKind.i64.wrap (x23.t + 1) else v5) (bif Nat.beq 4 (0 + x23.o.toNat * 1) then IntKind.i64.wrap (x23.t + 1) else v6) (bif Nat.beq 5 (0 + x23.o.toNat * 1) then IntKind.i64.wrap (x23.t + 1) else v7) (bif Nat.beq 6 (0 + x23.o.toNat * 1) then IntKind.i64.wrap (x23.t + 1) else v8) (bif Nat.beq 7 (0 + x23.o.toNat * 1) then IntKind.i64.wrap (x23.t + 1) else v9) (bif Nat.beq 8 (0 + x23.o.toNat * 1) then IntKind.i64.wrap (x23.t + 1) else v10) (bif Nat.beq 9 (0 + x23.o.toNat * 1) then IntKind.i64.wrap (x23.t + 1) else v11) (bif Nat.beq 10 (0 + x23.o.toNat * 1) then IntKind.i64.wrap (x23.t + 1) else v12) (bif Nat.beq 11 (0 + x23.o.toNat * 1) then IntKind.i64.wrap (x23.t + 1) else v13) (bif Nat.beq 12 (0 + x23.o.toNat * 1) then IntKind.i64.wrap (x23.t + 1) else v14) (bif Nat.beq 13 (0 + x23.o.toNat * 1) then IntKind.i64.wrap (x23.t + 1) else v15) (bif Nat.beq 14 (0 + x23.o.toNat * 1) then IntKind.i64.wrap (x23.t + 1) else v16) (bif Nat.beq 15 (0 + x23.o.toNat * 1) then IntKind.i64.wrap (x23.t + 1) else v17) (bif Nat.beq 16 (0 + x23.o.toNat * 1) then IntKind.i64.wrap (x23.t + 1) else v18) (bif Nat.beq 17 (0 + x23.o.toNat * 1) then IntKind.i64.wrap (x23.t + 1) else v19) (bif Nat.beq 18 (0 + x23.o.toNat * 1) then IntKind.i64.wrap (x23.t + 1) else v20) (bif Nat.beq 19 (0 + x23.o.toNat * 1) then IntKind.i64.wrap (x23.t + 1) else v21) (bif Nat.beq 20 (0 + x23.o.toNat * 1) then IntKind.i64.wrap (x23.t + 1) else v22) (bif Nat.beq 21 (0 + x23.o.toNat * 1) then IntKind.i64.wrap (x23.t + 1) else v23) (bif Nat.beq 22 (0 + x23.o.toNat * 1) then IntKind.i64.wrap (x23.t + 1) else v24) (bif Nat.beq 23 (0 + x23.o.toNat * 1) then IntKind.i64.wrap (x23.t + 1) else v25))))
          (gu (0 ≤ x23.f) <|
           gu (x23.f < 24) <|
           gu ((0 + x23.f.toNat * 1 + 1).le 24) <|
           gu (0 ≤ x23.t) <|
           gu (x23.t < iN v0.length) <|
           gu ((0 + x23.t.toNat).succ.le (List.map (AV.int IntKind.i64) v0).length) <|
           gu ((0 + x23.o.toNat * 1 + 1).le 24) <|
           some (.inl (.l0 (v0.set (0 + x23.t.toNat) x23.o) (IntKind.i64.wrap (v1 + 1)) (bif Nat.beq 0 (0 + x23.o.toNat * 1) then IntKind.i64.wrap (x23.t + 1) else bif Nat.beq 0 (0 + x23.f.toNat * 1) then 0 else v2) (bif Nat.beq 1 (0 + x23.o.toNat * 1) then IntKind.i64.wrap (x23.t + 1) else bif Nat.beq 1 (0 + x23.f.toNat * 1) then 0 else v3) (bif Nat.beq 2 (0 + x23.o.toNat * 1) then IntKind.i64.wrap (x23.t + 1) else bif Nat.beq 2 (0 + x23.f.toNat * 1) then 0 else v4) (bif Nat.beq 3 (0 + x23.o.toNat * 1) then IntKind.i64.wrap (x23.t + 1) else bif Nat.beq 3 (0 + x23.f.toNat * 1) then 0 else v5) (bif Nat.beq 4 (0 + x23.o.toNat * 1) then IntKind.i64.wrap (x23.t + 1) else bif Nat.beq 4 (0 + x23.f.toNat * 1) then 0 else v6) (bif Nat.beq 5 (0 + x23.o.toNat * 1) then IntKind.i64.wrap (x23.t + 1) else bif Nat.beq 5 (0 + x23.f.toNat * 1) then 0 else v7) (bif Nat.beq 6 (0 + x23.o.toNat * 1) then IntKind.i64.wrap (x23.t + 1) else bif Nat.beq 6 (0 + x23.f.toNat * 1) then 0 else v8) (bif Nat.beq 7 (0 + x23.o.toNat * 1) then IntKind.i64.wrap (x23.t + 1) else bif Nat.beq 7 (0 + x23.f.toNat * 1) then 0 else v9) (bif Nat.beq 8 (0 + x23.o.toNat * 1) then IntKind.i64.wrap (x23.t + 1) else bif Nat.beq 8 (0 + x23.f.toNat * 1) then 0 else v10) (bif Nat.beq 9 (0 + x23.o.toNat * 1) then IntKind.i64.wrap (x23.t + 1) else bif Nat.beq 9 (0 + x23.f.toNat * 1) then 0 else v11) (bif Nat.beq 10 (0 + x23.o.toNat * 1) then IntKind.i64.wrap (x23.t + 1) else bif Nat.beq 10 (0 + x23.f.toNat * 1) then 0 else v12) (bif Nat.beq 11 (0 + x23.o.toNat * 1) then IntKind.i64.wrap (x23.t + 1) else bif Nat.beq 11 (0 + x23.f.toNat * 1) then 0 else v13) (bif Nat.beq 12 (0 + x23.o.toNat * 1) then IntKind.i64.wrap (x23.t + 1) else bif Nat.beq 12 (0 + x23.f.toNat * 1) then 0 else v14) (bif Nat.beq 13 (0 + x23.o.toNat * 1) then IntKind.i64.wrap (x23.t + 1) else bif Nat.beq 13 (0 + x23.f.toNat * 1) then 0 else v15) (bif Nat.beq 14 (0 + x23.o.toNat * 1) then IntKind.i64.wrap (x23.t + 1) else bif Nat.beq 14 (0 + x23.f.toNat * 1) then 0 else v16) (bif Nat.beq 15 (0 + x23.o.toNat * 1) then IntKind.i64.wrap (x23.t + 1) else bif Nat.beq 15 (0 + x23.f.toNat * 1) then 0 else v17) (bif Nat.beq 16 (0 + x23.o.toNat * 1) then IntKind.i64.wrap (x23.t + 1) else bif Nat.beq 16 (0 + x23.f.toNat * 1) then 0 else v18) (bif Nat.beq 17 (0 + x23.o.toNat * 1) then IntKind.i64.wrap (x23.t + 1) else bif Nat.beq 17 (0 + x23.f.toNat * 1) then 0 else v19) (bif Nat.beq 18 (0 + x23.o.toNat * 1) then IntKind.i64.wrap (x23.t + 1) else bif Nat.beq 18 (0 + x23.f.toNat * 1) then 0 else v20) (bif Nat.beq 19 (0 + x23.o.toNat * 1) then IntKind.i64.wrap (x23.t + 1) else bif Nat.beq 19 (0 + x23.f.toNat * 1) then 0 else v21) (bif Nat.beq 20 (0 + x23.o.toNat * 1) then IntKind.i64.wrap (x23.t + 1) else bif Nat.beq 20 (0 + x23.f.toNat * 1) then 0 else v22) (bif Nat.beq 21 (0 + x23.o.toNat * 1) then IntKind.i64.wrap (x23.t + 1) else bif Nat.beq 21 (0 + x23.f.toNat * 1) then 0 else v23) (bif Nat.beq 22 (0 + x23.o.toNat * 1) then IntKind.i64.wrap (x23.t + 1) else bif Nat.beq 22 (0 + x23.f.toNat * 1) then 0 else v24) (bif Nat.beq 23 (0 + x23.o.toNat * 1) then IntKind.i64.wrap (x23.t + 1) else bif Nat.beq 23 (0 + x23.f.toNat * 1) then 0 else v25))))))))))))
  (some (.inr ([some (Blk.mk (List.map (AV.int IntKind.i64) v0) 1 true true none)], AV.tup [AV.sl 0 0 v0.length, AV.int IntKind.i64 0])))
noncomputable def treStep (g : List (List Int)) (l : List MvD) : trePc → Option (trePc ⊕ Ret)
  | .l0 v0 v1 v2 v3 v4 v5 v6 v7 v8 v9 v10 v11 v12 v13 v14 v15 v16 v17 v18 v19 v20 v21 v22 v23 v24 v25 => treS0 g l v0 v1 v2 v3 v4 v5 v6 v7 v8 v9 v10 v11 v12 v13 v14 v15 v16 v17 v18 v19 v20 v21 v22 v23 v24 v25
theorem treEn_ok (g : List (List Int)) (l : List MvD) (o : trePc ⊕ Ret) (h : treEn g l = some o) : Arr Try.prog Try.f23 0 (treSt g l) treHd (bodyOf Try.f23) [] { n := Try.f23.ntmps, fr := enumF 0 ([.lst (gL g), .lst (l.map mvA)]), hp := ([]) } o :=
 Scr.ok h mix (
 .rn 0 [] [] [] [] (al t3) <|
 .gu fun a0 =>
 have c0 := valid59_ct a0;
 .rn 0 [] [] [(13, hK c0 [] [])] [] (al (u2 (aj (k2 (al (c0))) (u2 s2)))) <|
 .br (fun a1 =>
 .rt [23] [] [] [] [] [] (aj (aj a1 (al t3)) (al t3)))
 (fun a1 =>
 .rn 0 [22] [] [] [] (aj a1 (al (u2 (u2 (u2 s2))))) <|
 .br (fun a2 =>
  .rt [31] [] [] [] [] [] (aj (aj a2 (al t3)) (al t3)))
 (fun a2 =>
  .lp [30] [] [] [] [(7, 1)] [0, 1] [0, 6, 7, 19, 20, 21] (aj (aj a2 (u2 (u2 (al (u2 (u2 t2)))))) t9)))) (by kernel_rfl)
theorem treS0_ok (g : List (List Int)) (l : List MvD) (v0 : List Int) (v1 : Int) (v2 : Int) (v3 : Int) (v4 : Int) (v5 : Int) (v6 : Int) (v7 : Int) (v8 : Int) (v9 : Int) (v10 : Int) (v11 : Int) (v12 : Int) (v13 : Int) (v14 : Int) (v15 : Int) (v16 : Int) (v17 : Int) (v18 : Int) (v19 : Int) (v20 : Int) (v21 : Int) (v22 : Int) (v23 : Int) (v24 : Int) (v25 : Int) (o : trePc ⊕ Ret) (h : treS0 g l v0 v1 v2 v3 v4 v5 v6 v7 v8 v9 v10 v11 v12 v13 v14 v15 v16 v17 v18 v19 v20 v21 v22 v23 v24 v25 = some o) : Arr Try.prog Try.f23 0 (treSt g l) treHd (headC Try.f23 0) (.rnd (headC Try.f23 0) :: headK Try.f23 0) (treSt g l (.l0 v0 v1 v2 v3 v4 v5 v6 v7 v8 v9 v10 v11 v12 v13 v14 v15 v16 v17 v18 v19 v20 v21 v22 v23 v24 v25)) o :=
 Scr.ok h mix (
 .rn 0 [] [] [] [] (al (al t3)) <|
 .br (fun a0 =>
 .gu fun a1 =>
 .el fun x23 a2 =>
 .rn 0 [45] [(23, mvA x23)] [] [] (aj a0 (al (aj (k2 (aj a1 (getMap (f := mvA) a2))) (u2 (ak (al (k2 n11))))))) <|
 .br (fun a3 =>
  .rt [57] [] [] [] [] [] (aj (aj (u2 (u2 (u2 (u2 (aj a3 (aj a3 (aj a3 (aj a3 (aj a3 (ag a3 (u2 (k5 (aj t3 (u2 (k3 (aj t3 (u2 (k5 (al t3))))))))))))))))))) (ak (al t3))) (al t3)))
 (fun a3 =>
  .br (fun a4 =>
  .rt [56, 71] [] [] [] [] [] (aj (aj (u2 (u2 (u2 (u2 (ag a3 (ag a3 (ag a3 (ag a3 (aj (aj a3 t3) (ag a3 (u2 (aj a4 (aj a4 (aj a4 (aj a4 (aj a4 (ag a4 (u2 (k3 (aj t3 (u2 (k5 (al t3))))))))))))))))))))))) (ak (al t3))) (al t3)))
  (fun a4 =>
  .gu fun a5 =>
  .gu fun a6 =>
  .el fun x39 a7 =>
  .br (fun a8 =>
   .rt [56, 70, 85] [(39, AV.tup [iv x39])] [] [] [] [] (aj (aj (u2 (u2 (u2 (u2 (ag a3 (ag a3 (ag a3 (ag a3 (aj (aj a3 t3) (ag a3 (u2 (ag a4 (ag a4 (aj (aj a4 (k2 (aj a5 a6))) (aj (aj a4 (ak (getMap (f := iv) a7))) (ag a4 (ag a4 (u2 (aj a8 (aj a8 (aj a8 (ag a8 (u2 (k5 (al t3))))))))))))))))))))))))) (ak (al t3))) (al t3)))
  (fun a8 =>
   .br (fun a9 =>
   .rt [56, 70, 84, 95] [(39, AV.tup [iv x39])] [] [] [] [] (aj (aj (u2 (u2 (u2 (u2 (ag a3 (ag a3 (ag a3 (ag a3 (aj (aj a3 t3) (ag a3 (u2 (ag a4 (ag a4 (aj (aj a4 (k2 (aj a5 a6))) (aj (aj a4 (ak (getMap (f := iv) a7))) (ag a4 (ag a4 (u2 (ag a8 (ag a8 (ag a8 (ag a8 (u2 (aj a9 (aj a9 (aj a9 (aj a9 (aj a9 (al (aj a9 t2)))))))))))))))))))))))))))))) (ak (al t3))) (al t3)))
   (fun a9 =>
   .rn 0 [56, 70, 84, 94] [(39, AV.tup [iv x39])] [] [] (al (u2 (u2 (u2 (u2 (ag a3 (ag a3 (ag a3 (ag a3 (aj (aj a3 t3) (ag a3 (u2 (ag a4 (ag a4 (aj (aj a4 (k2 (aj a5 a6))) (aj (aj a4 (ak (getMap (f := iv) a7))) (ag a4 (ag a4 (u2 (ag a8 (ag a8 (ag a8 (ag a8 (u2 (ag a9 (ag a9 (ag a9 (ag a9 (aj (aj a9 t3) (al (aj a9 t2))))))))))))))))))))))))))))))) <|
   .br (fun a10 =>
    .rt [56, 70, 84, 94, 107] [] [] [] [] [] (aj (aj a10 (al t3)) (al t3)))
   (fun a10 =>
    .rn 0 [56, 70, 84, 94, 106] [] [] [] (aj a10 (al (u2 (u2 (u2 (u2 (aj t3 s2))))))) <|
    .br (fun a11 =>
    .rt [56, 70, 84, 94, 129] [] [] [] [] [] (aj (aj (u2 (u2 (u2 (u2 (aj t3 (u2 (aj a11 (aj a11 (aj a11 (ak (k3 (k5 (k5 (k5 (aj a11 (al (aj a11 t2))))))))))))))))) (ak (al t3))) (al t3)))
    (fun a11 =>
    .br (fun a12 =>
     .gu fun a13 =>
     .gu fun a14 =>
     .el fun x72 a15 =>
     .br (fun a16 =>
     .rt [56, 70, 84, 94, 128, 135, 153] [(72, iv x72)] [] [] [] [] (aj (aj (u2 (u2 (u2 (u2 (aj t3 (u2 (ag a11 (ag a11 (ag a11 (ag a12 (ag a12 (ag a12 (aj (aj a12 (k2 (aj a13 a14))) (aj (aj a12 (ak (getMap (f := iv) a15))) (ag a12 (ag a12 (aj (aj a12 t3) (ag a12 (aj a16 (aj a16 (aj a16 (aj a16 (aj a16 (aj a16 (aj a16 (aj a16 (aj a16 (aj (aj a12 (aj a16 t2)) (aj (aj a11 (aj a12 t2)) (al (aj a11 t2))))))))))))))))))))))))))))))) (ak (al t3))) (al t3)))
     (fun a16 =>
     .gu fun a17 =>
     .el fun x80 a18 =>
     .gu fun a19 =>
     have c0 := con_c (x80) (x23.o) a19;
     .rn 0 [56, 70, 84, 94, 128, 135, 152] [(72, iv x72), (80, lI x80)] [(84, hK c0 [] [])] [] (al (u2 (u2 (u2 (u2 (aj t3 (u2 (ag a11 (ag a11 (ag a11 (ag a12 (ag a12 (ag a12 (aj (aj a12 (k2 (aj a13 a14))) (aj (aj a12 (ak (getMap (f := iv) a15))) (ag a12 (ag a12 (aj (aj a12 t3) (ag a12 (ag a16 (ag a16 (ag a16 (aj (aj a16 (k2 (aj a17 (getMap (f := lI) a18)))) (ag a16 (ag a16 (ag a16 (aj (aj a16 (ak (k3 (al (c0))))) (ag a16 (aj (aj a12 (aj a16 t2)) (aj (aj a11 (aj a12 t2)) (al (aj a11 t2)))))))))))))))))))))))))))))))) <|
     .br (fun a20 =>
      .rt [56, 70, 84, 94, 128, 135, 152, 177] [] [] [] [] [] (aj (aj a20 (al t3)) (al t3)))
     (fun a20 =>
      .rn 0 [56, 70, 84, 94, 128, 135, 152, 176] [] [] [] (aj a20 (al s2)) <|
      .br (fun a21 =>
      .gu fun a22 =>
      .gu fun a23 =>
      .rn 0 [56, 70, 84, 94, 128, 135, 152, 179] [] [] [] (aj a21 (al (u2 (u2 (u2 (u2 (aj (k2 (aj (show (List.map (iv) v0).length = v0.length by simp) (aj (aj (show nat_lit 1 = nat_lit 1 from rfl) (show 1 ≤ [iv x23.o].length by simp)) (aj a22 a23)))) s2))))))) <|
      .gu fun a24 =>
      .lq [56, 70, 84, 94, 128, 135, 152] [(109, AV.tup [AV.unk])] [] [] [] [0, 4] [0, 6, 7, 19, 20, 21] (up [(7, AV.sl 1 0 ((List.map (iv) v0).length + [iv x23.o].length))] [(1, List.map (iv) v0 ++ [iv x23.o])] (treSt g l (.l0 (v0 ++ [x23.o]) (IntKind.i64.wrap (v1 + 1)) (bif Nat.beq 0 (0 + x23.o.toNat * 1) then IntKind.i64.wrap (x23.t + 1) else v2) (bif Nat.beq 1 (0 + x23.o.toNat * 1) then IntKind.i64.wrap (x23.t + 1) else v3) (bif Nat.beq 2 (0 + x23.o.toNat * 1) then IntKind.i64.wrap (x23.t + 1) else v4) (bif Nat.beq 3 (0 + x23.o.toNat * 1) then IntKind.i64.wrap (x23.t + 1) else v5) (bif Nat.beq 4 (0 + x23.o.toNat * 1) then IntKind.i64.wrap (x23.t + 1) else v6) (bif Nat.beq 5 (0 + x23.o.toNat * 1) then IntKind.i64.wrap (x23.t + 1) else v7) (bif Nat.beq 6 (0 + x23.o.toNat * 1) then IntKind.i64.wrap (x23.t + 1) else v8) (bif Nat.beq 7 (0 + x23.o.toNat * 1) then IntKind.i64.wrap (x23.t + 1) else v9) (bif Nat.beq 8 (0 + x23.o.toNat * 1) then IntKind.i64.wrap (x23.t + 1) else v10) (bif Nat.beq 9 (0 + x23.o.toNat * 1) then IntKind.i64.wrap (x23.t + 1) else v11) (bif Nat.beq 10 (0 + x23.o.toNat * 1) then IntKind.i64.wrap (x23.t + 1) else v12) (bif Nat.beq 11 (0 + x23.o.toNat * 1) then IntKind.i64.wrap (x23.t + 1) else v13) (bif Nat.beq 12 (0 + x23.o.toNat * 1) then IntKind.i64.wrap (x23.t + 1) else v14) (bif Nat.beq 13 (0 + x23.o.toNat * 1) then IntKind.i64.wrap (x23.t + 1) else v15) (bif Nat.beq 14 (0 + x23.o.toNat * 1) then IntKind.i64.wrap (x23.t + 1) else v16) (bif Nat.beq 15 (0 + x23.o.toNat * 1) then IntKind.i64.wrap (x23.t + 1) else v17) (bif Nat.beq 16 (0 + x23.o.toNat * 1) then IntKind.i64.wrap (x23.t + 1) else v18) (bif Nat.beq 17 (0 + x23.o.toNat * 1) then IntKind.i64.wrap (x23.t + 1) else v19) (bif Nat.beq 18 (0 + x23.o.toNat * 1) then IntKind.i64.wrap (x23.t + 1) else v20) (bif Nat.beq 19 (0 + x23.o.toNat * 1) then IntKind.i64.wrap (x23.t + 1) else v21) (bif Nat.beq 20 (0 + x23.o.toNat * 1) then IntKind.i64.wrap (x23.t + 1) else v22) (bif Nat.beq 21 (0 + x23.o.toNat * 1) then IntKind.i64.wrap (x23.t + 1) else v23) (bif Nat.beq 22 (0 + x23.o.toNat * 1) then IntKind.i64.wrap (x23.t + 1) else v24) (bif Nat.beq 23 (0 + x23.o.toNat * 1) then IntKind.i64.wrap (x23.t + 1) else v25)))) (aj (aj (u2 (u2 (u2 (u2 (u2 (aj (k2 (aj a5 a6)) (al (k2 a24)))))))) (al (u2 s2))) t9) (by simp [up, upF, upV, upH, upB, treSt, gL, boL, lI, mvA]))
      (fun a21 =>
      .gu fun a22 =>
      .gu fun a23 =>
      .rn 0 [56, 70, 84, 94, 128, 135, 152, 178] [(97, AV.tup [AV.unk])] [] [] (aj a21 (al (u2 (u2 (aj (k2 (aj a17 a22)) (al (ak a23))))))) <|
      .gu fun a24 =>
      .rn 0 [56, 70, 84, 94, 128, 135, 152] [] [] [] (al (u2 (u2 (u2 (u2 (u2 (aj (k2 (aj a13 a14)) (al (k2 a24))))))))) <|
      .gu fun a25 =>
      .lq [56, 70, 84, 94, 128, 135, 152] [(109, AV.tup [AV.unk])] [] [] [] [0, 1] [0, 6, 7, 19, 20, 21] (up [(7, AV.sl 1 0 v0.length)] [(1, (List.map (iv) v0).set (0 + x23.t.toNat) (iv x23.o))] (treSt g l (.l0 (v0.set (0 + x23.t.toNat) x23.o) (IntKind.i64.wrap (v1 + 1)) (bif Nat.beq 0 (0 + x23.o.toNat * 1) then IntKind.i64.wrap (x23.t + 1) else bif Nat.beq 0 (0 + x23.f.toNat * 1) then 0 else v2) (bif Nat.beq 1 (0 + x23.o.toNat * 1) then IntKind.i64.wrap (x23.t + 1) else bif Nat.beq 1 (0 + x23.f.toNat * 1) then 0 else v3) (bif Nat.beq 2 (0 + x23.o.toNat * 1) then IntKind.i64.wrap (x23.t + 1) else bif Nat.beq 2 (0 + x23.f.toNat * 1) then 0 else v4) (bif Nat.beq 3 (0 + x23.o.toNat * 1) then IntKind.i64.wrap (x23.t + 1) else bif Nat.beq 3 (0 + x23.f.toNat * 1) then 0 else v5) (bif Nat.beq 4 (0 + x23.o.toNat * 1) then IntKind.i64.wrap (x23.t + 1) else bif Nat.beq 4 (0 + x23.f.toNat * 1) then 0 else v6) (bif Nat.beq 5 (0 + x23.o.toNat * 1) then IntKind.i64.wrap (x23.t + 1) else bif Nat.beq 5 (0 + x23.f.toNat * 1) then 0 else v7) (bif Nat.beq 6 (0 + x23.o.toNat * 1) then IntKind.i64.wrap (x23.t + 1) else bif Nat.beq 6 (0 + x23.f.toNat * 1) then 0 else v8) (bif Nat.beq 7 (0 + x23.o.toNat * 1) then IntKind.i64.wrap (x23.t + 1) else bif Nat.beq 7 (0 + x23.f.toNat * 1) then 0 else v9) (bif Nat.beq 8 (0 + x23.o.toNat * 1) then IntKind.i64.wrap (x23.t + 1) else bif Nat.beq 8 (0 + x23.f.toNat * 1) then 0 else v10) (bif Nat.beq 9 (0 + x23.o.toNat * 1) then IntKind.i64.wrap (x23.t + 1) else bif Nat.beq 9 (0 + x23.f.toNat * 1) then 0 else v11) (bif Nat.beq 10 (0 + x23.o.toNat * 1) then IntKind.i64.wrap (x23.t + 1) else bif Nat.beq 10 (0 + x23.f.toNat * 1) then 0 else v12) (bif Nat.beq 11 (0 + x23.o.toNat * 1) then IntKind.i64.wrap (x23.t + 1) else bif Nat.beq 11 (0 + x23.f.toNat * 1) then 0 else v13) (bif Nat.beq 12 (0 + x23.o.toNat * 1) then IntKind.i64.wrap (x23.t + 1) else bif Nat.beq 12 (0 + x23.f.toNat * 1) then 0 else v14) (bif Nat.beq 13 (0 + x23.o.toNat * 1) then IntKind.i64.wrap (x23.t + 1) else bif Nat.beq 13 (0 + x23.f.toNat * 1) then 0 else v15) (bif Nat.beq 14 (0 + x23.o.toNat * 1) then IntKind.i64.wrap (x23.t + 1) else bif Nat.beq 14 (0 + x23.f.toNat * 1) then 0 else v16) (bif Nat.beq 15 (0 + x23.o.toNat * 1) then IntKind.i64.wrap (x23.t + 1) else bif Nat.beq 15 (0 + x23.f.toNat * 1) then 0 else v17) (bif Nat.beq 16 (0 + x23.o.toNat * 1) then IntKind.i64.wrap (x23.t + 1) else bif Nat.beq 16 (0 + x23.f.toNat * 1) then 0 else v18) (bif Nat.beq 17 (0 + x23.o.toNat * 1) then IntKind.i64.wrap (x23.t + 1) else bif Nat.beq 17 (0 + x23.f.toNat * 1) then 0 else v19) (bif Nat.beq 18 (0 + x23.o.toNat * 1) then IntKind.i64.wrap (x23.t + 1) else bif Nat.beq 18 (0 + x23.f.toNat * 1) then 0 else v20) (bif Nat.beq 19 (0 + x23.o.toNat * 1) then IntKind.i64.wrap (x23.t + 1) else bif Nat.beq 19 (0 + x23.f.toNat * 1) then 0 else v21) (bif Nat.beq 20 (0 + x23.o.toNat * 1) then IntKind.i64.wrap (x23.t + 1) else bif Nat.beq 20 (0 + x23.f.toNat * 1) then 0 else v22) (bif Nat.beq 21 (0 + x23.o.toNat * 1) then IntKind.i64.wrap (x23.t + 1) else bif Nat.beq 21 (0 + x23.f.toNat * 1) then 0 else v23) (bif Nat.beq 22 (0 + x23.o.toNat * 1) then IntKind.i64.wrap (x23.t + 1) else bif Nat.beq 22 (0 + x23.f.toNat * 1) then 0 else v24) (bif Nat.beq 23 (0 + x23.o.toNat * 1) then IntKind.i64.wrap (x23.t + 1) else bif Nat.beq 23 (0 + x23.f.toNat * 1) then 0 else v25)))) (aj (aj (u2 (u2 (u2 (u2 (u2 (aj (k2 (aj a5 a6)) (al (k2 a25)))))))) (al (u2 s2))) t9) (by simp [up, upF, upV, upH, upB, treSt, gL, boL, lI, mvA])))))
    (fun a12 =>
     .rn 1 [56, 70, 84, 94, 128, 134] [] [] [] (aj (u2 (u2 (u2 (u2 (aj t3 (u2 (ag a11 (ag a11 (ag a11 (aj a12 (aj a12 (aj a12 (aj a12 (aj a12 (aj a12 (aj a12 (aj a12 (aj a12 (ak (k3 (k5 (aj a12 (aj (aj a11 (aj a12 t2)) (al (aj a11 t2))))))))))))))))))))))))) (ak (al s2))) <|
     .br (fun a13 =>
     .gu fun a14 =>
     .gu fun a15 =>
     .rn 0 [56, 70, 84, 94, 128, 134, 179] [] [] [] (aj a13 (al (u2 (u2 (u2 (u2 (aj (k2 (aj (show (List.map (iv) v0).length = v0.length by simp) (aj (aj (show nat_lit 1 = nat_lit 1 from rfl) (show 1 ≤ [iv x23.o].length by simp)) (aj a14 a15)))) s2))))))) <|
     .gu fun a16 =>
     .lq [56, 70, 84, 94, 128, 134] [(109, AV.tup [AV.unk])] [] [] [] [0, 4] [0, 6, 7, 19, 20, 21] (up [(7, AV.sl 1 0 ((List.map (iv) v0).length + [iv x23.o].length))] [(1, List.map (iv) v0 ++ [iv x23.o])] (treSt g l (.l0 (v0 ++ [x23.o]) (IntKind.i64.wrap (v1 + 1)) (bif Nat.beq 0 (0 + x23.o.toNat * 1) then IntKind.i64.wrap (x23.t + 1) else v2) (bif Nat.beq 1 (0 + x23.o.toNat * 1) then IntKind.i64.wrap (x23.t + 1) else v3) (bif Nat.beq 2 (0 + x23.o.toNat * 1) then IntKind.i64.wrap (x23.t + 1) else v4) (bif Nat.beq 3 (0 + x23.o.toNat * 1) then IntKind.i64.wrap (x23.t + 1) else v5) (bif Nat.beq 4 (0 + x23.o.toNat * 1) then IntKind.i64.wrap (x23.t + 1) else v6) (bif Nat.beq 5 (0 + x23.o.toNat * 1) then IntKind.i64.wrap (x23.t + 1) else v7) (bif Nat.beq 6 (0 + x23.o.toNat * 1) then IntKind.i64.wrap (x23.t + 1) else v8) (bif Nat.beq 7 (0 + x23.o.toNat * 1) then IntKind.i64.wrap (x23.t + 1) else v9) (bif Nat.beq 8 (0 + x23.o.toNat * 1) then IntKind.i64.wrap (x23.t + 1) else v10) (bif Nat.beq 9 (0 + x23.o.toNat * 1) then IntKind.i64.wrap (x23.t + 1) else v11) (bif Nat.beq 10 (0 + x23.o.toNat * 1) then IntKind.i64.wrap (x23.t + 1) else v12) (bif Nat.beq 11 (0 + x23.o.toNat * 1) then IntKind.i64.wrap (x23.t + 1) else v13) (bif Nat.beq 12 (0 + x23.o.toNat * 1) then IntKind.i64.wrap (x23.t + 1) else v14) (bif Nat.beq 13 (0 + x23.o.toNat * 1) then IntKind.i64.wrap (x23.t + 1) else v15) (bif Nat.beq 14 (0 + x23.o.toNat * 1) then IntKind.i64.wrap (x23.t + 1) else v16) (bif Nat.beq 15 (0 + x23.o.toNat * 1) then IntKind.i64.wrap (x23.t + 1) else v17) (bif Nat.beq 16 (0 + x23.o.toNat * 1) then IntKind.i64.wrap (x23.t + 1) else v18) (bif Nat.beq 17 (0 + x23.o.toNat * 1) then IntKind.i64.wrap (x23.t + 1) else v19) (bif Nat.beq 18 (0 + x23.o.toNat * 1) then IntKind.i64.wrap (x23.t + 1) else v20) (bif Nat.beq 19 (0 + x23.o.toNat * 1) then IntKind.i64.wrap (x23.t + 1) else v21) (bif Nat.beq 20 (0 + x23.o.toNat * 1) then IntKind.i64.wrap (x23.t + 1) else v22) (bif Nat.beq 21 (0 + x23.o.toNat * 1) then IntKind.i64.wrap (x23.t + 1) else v23) (bif Nat.beq 22 (0 + x23.o.toNat * 1) then IntKind.i64.wrap (x23.t + 1) else v24) (bif Nat.beq 23 (0 + x23.o.toNat * 1) then IntKind.i64.wrap (x23.t + 1) else v25)))) (aj (aj (u2 (u2 (u2 (u2 (u2 (aj (k2 (aj a5 a6)) (al (k2 a16)))))))) (al (u2 s2))) t9) (by simp [up, upF, upV, upH, upB, treSt, gL, boL, lI, mvA]))
     (fun a13 =>
     .gu fun a14 =>
     .gu fun a15 =>
     .gu fun a16 =>
     .rn 0 [56, 70, 84, 94, 128, 134, 178] [(97, AV.tup [AV.unk])] [] [] (aj a13 (al (u2 (u2 (aj (k2 (aj a14 a15)) (al (ak a16))))))) <|
     .gu fun a17 =>
     .gu fun a18 =>
     .gu fun a19 =>
     .rn 0 [56, 70, 84, 94, 128, 134] [] [] [] (al (u2 (u2 (u2 (u2 (u2 (aj (k2 (aj a17 a18)) (al (k2 a19))))))))) <|
     .gu fun a20 =>
     .lq [56, 70, 84, 94, 128, 134] [(109, AV.tup [AV.unk])] [] [] [] [0, 1] [0, 6, 7, 19, 20, 21] (up [(7, AV.sl 1 0 v0.length)] [(1, (List.map (iv) v0).set (0 + x23.t.toNat) (iv x23.o))] (treSt g l (.l0 (v0.set (0 + x23.t.toNat) x23.o) (IntKind.i64.wrap (v1 + 1)) (bif Nat.beq 0 (0 + x23.o.toNat * 1) then IntKind.i64.wrap (x23.t + 1) else bif Nat.beq 0 (0 + x23.f.toNat * 1) then 0 else v2) (bif Nat.beq 1 (0 + x23.o.toNat * 1) then IntKind.i64.wrap (x23.t + 1) else bif Nat.beq 1 (0 + x23.f.toNat * 1) then 0 else v3) (bif Nat.beq 2 (0 + x23.o.toNat * 1) then IntKind.i64.wrap (x23.t + 1) else bif Nat.beq 2 (0 + x23.f.toNat * 1) then 0 else v4) (bif Nat.beq 3 (0 + x23.o.toNat * 1) then IntKind.i64.wrap (x23.t + 1) else bif Nat.beq 3 (0 + x23.f.toNat * 1) then 0 else v5) (bif Nat.beq 4 (0 + x23.o.toNat * 1) then IntKind.i64.wrap (x23.t + 1) else bif Nat.beq 4 (0 + x23.f.toNat * 1) then 0 else v6) (bif Nat.beq 5 (0 + x23.o.toNat * 1) then IntKind.i64.wrap (x23.t + 1) else bif Nat.beq 5 (0 + x23.f.toNat * 1) then 0 else v7) (bif Nat.beq 6 (0 + x23.o.toNat * 1) then IntKind.i64.wrap (x23.t + 1) else bif Nat.beq 6 (0 + x23.f.toNat * 1) then 0 else v8) (bif Nat.beq 7 (0 + x23.o.toNat * 1) then IntKind.i64.wrap (x23.t + 1) else bif Nat.beq 7 (0 + x23.f.toNat * 1) then 0 else v9) (bif Nat.beq 8 (0 + x23.o.toNat * 1) then IntKind.i64.wrap (x23.t + 1) else bif Nat.beq 8 (0 + x23.f.toNat * 1) then 0 else v10) (bif Nat.beq 9 (0 + x23.o.toNat * 1) then IntKind.i64.wrap (x23.t + 1) else bif Nat.beq 9 (0 + x23.f.toNat * 1) then 0 else v11) (bif Nat.beq 10 (0 + x23.o.toNat * 1) then IntKind.i64.wrap (x23.t + 1) else bif Nat.beq 10 (0 + x23.f.toNat * 1) then 0 else v12) (bif Nat.beq 11 (0 + x23.o.toNat * 1) then IntKind.i64.wrap (x23.t + 1) else bif Nat.beq 11 (0 + x23.f.toNat * 1) then 0 else v13) (bif Nat.beq 12 (0 + x23.o.toNat * 1) then IntKind.i64.wrap (x23.t + 1) else bif Nat.beq 12 (0 + x23.f.toNat * 1) then 0 else v14) (bif Nat.beq 13 (0 + x23.o.toNat * 1) then IntKind.i64.wrap (x23.t + 1) else bif Nat.beq 13 (0 + x23.f.toNat * 1) then 0 else v15) (bif Nat.beq 14 (0 + x23.o.toNat * 1) then IntKind.i64.wrap (x23.t + 1) else bif Nat.beq 14 (0 + x23.f.toNat * 1) then 0 else v16) (bif Nat.beq 15 (0 + x23.o.toNat * 1) then IntKind.i64.wrap (x23.t + 1) else bif Nat.beq 15 (0 + x23.f.toNat * 1) then 0 else v17) (bif Nat.beq 16 (0 + x23.o.toNat * 1) then IntKind.i64.wrap (x23.t + 1) else bif Nat.beq 16 (0 + x23.f.toNat * 1) then 0 else v18) (bif Nat.beq 17 (0 + x23.o.toNat * 1) then IntKind.i64.wrap (x23.t + 1) else bif Nat.beq 17 (0 + x23.f.toNat * 1) then 0 else v19) (bif Nat.beq 18 (0 + x23.o.toNat * 1) then IntKind.i64.wrap (x23.t + 1) else bif Nat.beq 18 (0 + x23.f.toNat * 1) then 0 else v20) (bif Nat.beq 19 (0 + x23.o.toNat * 1) then IntKind.i64.wrap (x23.t + 1) else bif Nat.beq 19 (0 + x23.f.toNat * 1) then 0 else v21) (bif Nat.beq 20 (0 + x23.o.toNat * 1) then IntKind.i64.wrap (x23.t + 1) else bif Nat.beq 20 (0 + x23.f.toNat * 1) then 0 else v22) (bif Nat.beq 21 (0 + x23.o.toNat * 1) then IntKind.i64.wrap (x23.t + 1) else bif Nat.beq 21 (0 + x23.f.toNat * 1) then 0 else v23) (bif Nat.beq 22 (0 + x23.o.toNat * 1) then IntKind.i64.wrap (x23.t + 1) else bif Nat.beq 22 (0 + x23.f.toNat * 1) then 0 else v24) (bif Nat.beq 23 (0 + x23.o.toNat * 1) then IntKind.i64.wrap (x23.t + 1) else bif Nat.beq 23 (0 + x23.f.toNat * 1) then 0 else v25)))) (aj (aj (u2 (u2 (u2 (u2 (u2 (aj (k2 (aj a5 a6)) (al (k2 a20)))))))) (al (u2 s2))) t9) (by simp [up, upF, upV, upH, upB, treSt, gL, boL, lI, mvA]))))))))))
 (fun a0 =>
 .rt [44] [] [] [] [1] [] (aj (aj a0 (al (u2 (u2 t2)))) (aj t3 t2)))) (by kernel_rfl)
theorem tre_ct (g : List (List Int)) (l : List MvD) (r : Ret) (h : MReach (treStep g l) (treEn g l) r) : CT Try.prog 23 ([]) ([.lst (gL g), .lst (l.map mvA)]) r.1 r.2 :=
  CT.mach (fn := Try.f23) (c := bodyOf Try.f23) (S := treSt g l) (hd := treHd) Try.func23 (by kernel_rfl) (Nat.le_of_ble_eq_true rfl)
    (fun s o ho => match s, ho with
      | .l0 v0 v1 v2 v3 v4 v5 v6 v7 v8 v9 v10 v11 v12 v13 v14 v15 v16 v17 v18 v19 v20 v21 v22 v23 v24 v25, ho => treS0_ok g l v0 v1 v2 v3 v4 v5 v6 v7 v8 v9 v10 v11 v12 v13 v14 v15 v16 v17 v18 v19 v20 v21 v22 v23 v24 v25 o ho
    )
    (fun o ho => treEn_ok g l o ho) h
end Go.Proofs.Yteohjokcoddnjaa
namespace Go.Proofs.Yteohjokcoddnjaa
theorem virtTup {f : FuncId} {hin hout : List (Option Blk)} {args : List AV} {k : IntKind} {e : Int} (z : Nat) (h : CT Try.prog f hin args hout (.tup [.nils, .int k e])) : CT Try.prog f hin args (hout ++ [some (Blk.mk [] z true true none)]) (.tup [.sl hout.length 0 0, .int k e]) := by
  intro φ A w vs h1 h2 h3 h4 h5
  refine (h φ A w vs h1 h2 h3 h4 h5).mono fun e w' ⟨v, φ', he, C⟩ => ⟨v, φ', he, ?_⟩
  have hnone : φ' hout.length = none := C.out _ (Nat.le_refl _)
  have hmut : ∀ r, Mut φ' (nth (hout ++ [some (Blk.mk [] z true true none)])) r → Mut φ' (nth hout) r := by
    rintro r ⟨b, blk', z', g1, g2, g3⟩
    rcases nth_snoc g1 with g | ⟨rfl, rfl⟩
    · exact ⟨b, blk', z', g, g2, g3⟩
    · rw [hnone] at g3; cases g3
  have hok : ∀ r, Ok A w.heap.size φ' (nth hout) w' r → Ok A w.heap.size φ' (nth (hout ++ [some (Blk.mk [] z true true none)])) w' r := fun r ⟨g1, g2, g3⟩ => ⟨g1, g2, fun h => g3 (hmut r h)⟩
  have brm : ∀ {b : Nat} {blk : Blk}, BR φ' (Ok A w.heap.size φ' (nth hout) w') w' b blk → BR φ' (Ok A w.heap.size φ' (nth (hout ++ [some (Blk.mk [] z true true none)])) w') w' b blk := by
    rintro b blk (h1 | ⟨r, cs, T, h1, h2, h3, h5⟩ | h1)
    · exact .inl h1
    · refine .inr (.inl ⟨r, cs, T, h1, h2, h3, fun i e he => ⟨(h5 i e he).1, fun j c hc => ?_⟩⟩)
      obtain ⟨g3, v, g4, g5⟩ := (h5 i e he).2 j c hc
      exact ⟨g3, v, g4, g5.mono (fun _ _ h => h) hok (fun _ _ => rfl) (fun _ => Nat.le_refl _)⟩
    · exact .inr (.inr h1)
  have hlen : (hout ++ [some (Blk.mk [] z true true none)]).length = hout.length + 1 := by simp
  have hs : ∀ b r z', (nth (hout ++ [some (Blk.mk [] z true true none)]) b).isSome = true → φ' b = some (r, z') → (nth hout b).isSome = true := by
    intro b r z' g1 g2
    obtain ⟨blk', g⟩ := Option.isSome_iff_exists.1 g1
    rcases nth_snoc g with g | ⟨rfl, _⟩
    · rw [g]; rfl
    · rw [hnone] at g2; cases g2
  refine ⟨C.par, C.keep, fun r hr => C.mutd r (hmut r hr), ⟨fun b blk' hb' => ?_, fun b blk' hb' hf => ?_, fun b b' r z1 z2 g1 g2 g3 g4 => C.heap.inj b b' r z1 z2 (hs b r z1 g1 g3) (hs b' r z2 g2 g4) g3 g4⟩, ?_, fun b hb' => C.out b (by rw [hlen] at hb'; omega), by have := C.len; rw [hlen]; omega, C.own⟩
  · rcases nth_snoc hb' with g | ⟨rfl, rfl⟩
    · exact brm (C.heap.blk b blk' g)
    · exact .inl ⟨rfl, hnone, rfl, rfl⟩
  · rcases nth_snoc hb' with g | ⟨rfl, rfl⟩
    · exact C.heap.flat b blk' g hf
    · intro e he; cases he
  · obtain ⟨us, rfl, hl, hh⟩ := C.val.tup_inv
    match us, hl with
    | [u0, u1], _ =>
      have a0 := hh 0 _ _ rfl rfl
      have a1 := hh 1 _ _ rfl rfl
      refine .tup _ _ rfl fun i c u hc hu => ?_
      match i, hc, hu with
      | 0, hc, hu => cases hc; cases hu; rw [a0.nils_inv]; exact .slnil _ 0 none
      | 1, hc, hu => cases hc; cases hu; rw [a1.int_inv]; exact .imm _ _ (.int _ _)
theorem getSt {l : List Int} {t j : Nat} {x : Int} (ht : t < l.length) : (l.set t x).getD j 0 = if j = t then x else l.getD j 0 := by
  rw [List.getD_eq_getElem?_getD, List.getElem?_set]
  by_cases h : t = j
  · rw [if_pos h, if_pos ht, if_pos h.symm]; rfl
  · rw [if_neg h, if_neg (fun e => h e.symm), List.getD_eq_getElem?_getD]
theorem idxZ_no {l : List Int} {v : Int} (h : v ∉ l) : idxZ l v = -1 := by
  have := idxZ_neg.1 h
  have := idxZ_ge l v
  omega
theorem idxZ_set {l : List Int} {t : Nat} {x v : Int} (hn : l.Nodup) (ht : t < l.length) (hx : x ∉ l) : idxZ (l.set t x) v = if v = x then (t : Int) else if v = l.getD t 0 then -1 else idxZ l v := by
  have hs := nd_set (i := t) hn hx
  have hl : (l.set t x).length = l.length := List.length_set
  by_cases h1 : v = x
  · rw [if_pos h1]
    exact idxZ_uniq hs (by rw [hl]; exact ht) (by rw [getSt ht, if_pos rfl, h1])
  rw [if_neg h1]
  by_cases h2 : v = l.getD t 0
  · rw [if_pos h2]
    refine idxZ_no fun e => ?_
    obtain ⟨j, hj, e⟩ := mem_get e
    rw [hl] at hj
    rw [getSt ht] at e
    split at e
    · exact h1 e.symm
    · rename_i hjt
      exact hjt (nd_inj hn hj ht (by rw [e, h2]))
  · rw [if_neg h2]
    by_cases h3 : v ∈ l
    · obtain ⟨j, hj, e⟩ := mem_get h3
      have hjt : j ≠ t := fun h => h2 (by rw [← e, h])
      rw [idxZ_uniq hn hj e]
      exact idxZ_uniq hs (by rw [hl]; exact hj) (by rw [getSt ht, if_neg hjt, e])
    · rw [idxZ_no h3]
      refine idxZ_no fun e => ?_
      rcases List.mem_or_eq_of_mem_set e with e | e
      · exact h3 e
      · exact h1 e
noncomputable def bdP (p : List Int) (v : Nat) : Int := idxZ p (v : Int) + 1
theorem bdP_snoc {p : List Int} {o : Int} (h0 : 0 ≤ o) (hx : o ∉ p) (v : Nat) : (bif Nat.beq v (0 + o.toNat * 1) then (p.length : Int) + 1 else bdP p v) = bdP (p ++ [o]) v := by
  rw [beqM, Nat.zero_add, Nat.mul_one]
  unfold bdP
  rw [idxZ_snoc]
  have hneg := idxZ_neg.1 hx
  by_cases e : v = o.toNat
  · rw [if_pos e]
    have e2 : o = (v : Int) := by omega
    rw [e2] at hneg
    rw [if_neg (by omega), if_pos e2]
  · rw [if_neg e]
    by_cases h : 0 ≤ idxZ p (v : Int)
    · rw [if_pos h]
    · rw [if_neg h, if_neg (by omega)]
      have := idxZ_ge p (v : Int)
      omega
theorem bdP_set {p : List Int} {t : Nat} {o : Int} (hn : p.Nodup) (ht : t < p.length) (h0 : 0 ≤ o) (hx : o ∉ p) (hf : 0 ≤ p.getD t 0) (v : Nat) : (bif Nat.beq v (0 + o.toNat * 1) then (t : Int) + 1 else bif Nat.beq v (0 + (p.getD t 0).toNat * 1) then 0 else bdP p v) = bdP (p.set t o) v := by
  rw [beqM, beqM, Nat.zero_add, Nat.mul_one, Nat.zero_add, Nat.mul_one]
  unfold bdP
  rw [idxZ_set hn ht hx]
  by_cases e : v = o.toNat
  · rw [if_pos e, if_pos (show (v : Int) = o by omega)]
  · rw [if_neg e, if_neg (show ¬ (v : Int) = o by omega)]
    by_cases e2 : v = (p.getD t 0).toNat
    · rw [if_pos e2, if_pos (show (v : Int) = p.getD t 0 by omega)]; rfl
    · rw [if_neg e2, if_neg (show ¬ (v : Int) = p.getD t 0 by omega)]
noncomputable def repO (g : List (List Int)) (l : List MvD) : List Int × Int := if valZ g = false then ([], 20) else if 1200 < l.length then ([], 14) else match repL g l [] with
  | some p => (p, 0)
  | none => ([], 24)
noncomputable def repRt : Option (List Int) → Ret
  | some p => ([some (Blk.mk (p.map (AV.int .i64)) 1 true true none)], .tup [.sl 0 0 p.length, .int .i64 0])
  | none => ([], .tup [.nils, .int .i64 24])
theorem getDr {α : Type} {l : List α} {i : Nat} {x : α} {ms : List α} (h : l.drop i = x :: ms) : l[i]? = some x ∧ l.drop (i + 1) = ms ∧ i < l.length := by
  have h0 : (l.drop i)[0]? = some x := by rw [h]; rfl
  rw [List.getElem?_drop, Nat.add_zero] at h0
  refine ⟨h0, ?_, (List.getElem?_eq_some_iff.1 h0).1⟩
  rw [← List.drop_drop, h]; rfl
theorem rep_mk {f : FuncId} {g : List (List Int)} {l : List MvD} (h20 : valZ g = false → CT Try.prog f [] [.lst (gL g), .lst (l.map mvA)] [] (.tup [.nils, .int .i64 20])) (h14 : valZ g = true → 1200 < l.length → CT Try.prog f [] [.lst (gL g), .lst (l.map mvA)] [] (.tup [.nils, .int .i64 14]))
    (hr : valZ g = true → l.length ≤ 1200 → CT Try.prog f [] [.lst (gL g), .lst (l.map mvA)] (repRt (repL g l [])).1 (repRt (repL g l [])).2) :
    CT Try.prog f [] [.lst (gL g), .lst (l.map mvA)] [some (Blk.mk ((repO g l).1.map (AV.int .i64)) 1 true true none)] (.tup [.sl 0 0 (repO g l).1.length, .int .i64 (repO g l).2]) := by
  unfold repO
  cases hv : valZ g with
  | false => exact virtTup 1 (h20 hv)
  | true =>
    rw [if_neg (by simp)]
    by_cases h : 1200 < l.length
    · rw [if_pos h]; exact virtTup 1 (h14 hv h)
    · rw [if_neg h]
      have := hr hv (by omega)
      cases hp : repL g l [] with
      | some p => rw [hp] at this; exact this
      | none => rw [hp] at this; exact virtTup 1 this
noncomputable def treL (p : List Int) (i : Int) (f : Nat → Int) : trePc := .l0 p i (f 0) (f 1) (f 2) (f 3) (f 4) (f 5) (f 6) (f 7) (f 8) (f 9) (f 10) (f 11) (f 12) (f 13) (f 14) (f 15) (f 16) (f 17) (f 18) (f 19) (f 20) (f 21) (f 22) (f 23)
theorem tre_run {g : List (List Int)} {l : List MvD} (hrw : Rows g) (hv : valZ g = true) (hl : l.length ≤ 1200) : ∀ (ms : List MvD) (i : Nat) (p : List Int), l.drop i = ms → RI g p → MReach (treStep g l) (some (.inl (treL p (i : Int) (bdP p)))) (repRt (repL g ms p)) := by
  have h24 := (valZ_ok hrw hv).1.len
  intro ms
  induction ms with
  | nil =>
    intro i p hd hp
    have hi : l.length ≤ i := List.drop_eq_nil_iff.1 hd
    refine .to (show treS0 g l p i (bdP p 0) (bdP p 1) (bdP p 2) (bdP p 3) (bdP p 4) (bdP p 5) (bdP p 6) (bdP p 7) (bdP p 8) (bdP p 9) (bdP p 10) (bdP p 11) (bdP p 12) (bdP p 13) (bdP p 14) (bdP p 15) (bdP p 16) (bdP p 17) (bdP p 18) (bdP p 19) (bdP p 20) (bdP p 21) (bdP p 22) (bdP p 23) = _ from ?_) (.ret _)
    unfold treS0
    rw [br_f (dec_f (by simp only [iN, List.length_map]; omega))]; rfl
  | cons m ms ih =>
    intro i p hd hp
    obtain ⟨h1, h2, h3⟩ := getDr hd
    have hpl := hp.len
    have bad : ∀ {y}, repS g p m = none → treS0 g l p i (bdP p 0) (bdP p 1) (bdP p 2) (bdP p 3) (bdP p 4) (bdP p 5) (bdP p 6) (bdP p 7) (bdP p 8) (bdP p 9) (bdP p 10) (bdP p 11) (bdP p 12) (bdP p 13) (bdP p 14) (bdP p 15) (bdP p 16) (bdP p 17) (bdP p 18) (bdP p 19) (bdP p 20) (bdP p 21) (bdP p 22) (bdP p 23) = some (.inr ([], AV.tup [AV.nils, AV.int IntKind.i64 24])) → y = repL g (m :: ms) p → MReach (treStep g l) (some (.inl (treL p (i : Int) (bdP p)))) (repRt y) := by
      intro y e1 e2 e3
      rw [e3, repL, e1]
      exact .to (show treS0 g l p i (bdP p 0) (bdP p 1) (bdP p 2) (bdP p 3) (bdP p 4) (bdP p 5) (bdP p 6) (bdP p 7) (bdP p 8) (bdP p 9) (bdP p 10) (bdP p 11) (bdP p 12) (bdP p 13) (bdP p 14) (bdP p 15) (bdP p 16) (bdP p 17) (bdP p 18) (bdP p 19) (bdP p 20) (bdP p 21) (bdP p 22) (bdP p 23) = _ from e2) (.ret _)
    have good : ∀ {y} (p' : List Int), repS g p m = some p' → treS0 g l p i (bdP p 0) (bdP p 1) (bdP p 2) (bdP p 3) (bdP p 4) (bdP p 5) (bdP p 6) (bdP p 7) (bdP p 8) (bdP p 9) (bdP p 10) (bdP p 11) (bdP p 12) (bdP p 13) (bdP p 14) (bdP p 15) (bdP p 16) (bdP p 17) (bdP p 18) (bdP p 19) (bdP p 20) (bdP p 21) (bdP p 22) (bdP p 23) = some (.inl (treL p' ((i + 1 : Nat) : Int) (bdP p'))) → y = repL g (m :: ms) p → MReach (treStep g l) (some (.inl (treL p (i : Int) (bdP p)))) (repRt y) := by
      intro y p' e1 e2 e3
      rw [e3, repL, e1]
      exact .to (show treS0 g l p i (bdP p 0) (bdP p 1) (bdP p 2) (bdP p 3) (bdP p 4) (bdP p 5) (bdP p 6) (bdP p 7) (bdP p 8) (bdP p 9) (bdP p 10) (bdP p 11) (bdP p 12) (bdP p 13) (bdP p 14) (bdP p 15) (bdP p 16) (bdP p 17) (bdP p 18) (bdP p 19) (bdP p 20) (bdP p 21) (bdP p 22) (bdP p 23) = _ from e2) (ih (i + 1) p' h2 (hp.step e1))
    have start : ∀ {α : Type} {f : MvD → Option α} {y : Option α}, br (decide ((i : Int) < iN (List.map mvA l).length)) (gu (0 ≤ (i : Int)) (el l (i : Int).toNat f)) y = f m := rngS h1
    by_cases c1 : m.o < 0
    · refine bad (by unfold repS; rw [if_pos (.inl c1)]) (by unfold treS0; rw [start, br_t (dec_t c1)]) rfl
    by_cases c2 : (g.length : Int) ≤ m.o
    · refine bad (by unfold repS; rw [if_pos (.inr (.inl c2))]) (by unfold treS0; rw [start, br_f (dec_f c1), br_t (dec_t (by simp only [iN, gL_len]; exact c2))]) rfl
    have hbd : decide (0 < bdP p m.o.toNat) = hasZ p m.o := by
      unfold bdP; rw [← idxZ_has, Int.toNat_of_nonneg (by omega)]
      exact decide_eq_decide.2 (by omega)
    cases c3 : hasZ p m.o with
    | true => exact bad (by unfold repS; rw [if_pos (.inr (.inr c3))]) (by unfold treS0; rw [start, br_f (dec_f c1), br_f (dec_f (by simp only [iN, gL_len]; exact c2)), gu_t (by omega), gu_t (by omega), get24 (f := bdP p) (by omega), hbd, br_t c3]) rfl
    | false =>
    have hnb : ¬ (m.o < 0 ∨ (g.length : Int) ≤ m.o ∨ hasZ p m.o = true) := by rw [c3]; rintro (e | e | e); exact c1 e; exact c2 e; cases e
    have hno := hasZ_false c3
    have hle : ∀ x : Int, x < (g.length : Int) → (0 + x.toNat * 1 + 1).le 24 := fun x hx => by show (0 + x.toNat * 1 + 1) ≤ 24; omega
    by_cases c6 : m.t < 0
    · refine bad (by unfold repS; rw [if_neg hnb, if_neg (fun e => by omega), if_neg (fun e => by omega)]) ?_ rfl
      unfold treS0
      rw [start, br_f (dec_f c1), br_f (dec_f (by simp only [iN, gL_len]; exact c2)), gu_t (by omega), gu_t (by omega), get24 (f := bdP p) (by omega), hbd, br_f c3, br_t (dec_t c6)]
    by_cases c7 : (p.length : Int) < m.t
    · refine bad (by unfold repS; rw [if_neg hnb, if_neg (fun e => by omega), if_neg (fun e => by omega)]) ?_ rfl
      unfold treS0
      rw [start, br_f (dec_f c1), br_f (dec_f (by simp only [iN, gL_len]; exact c2)), gu_t (by omega), gu_t (by omega), get24 (f := bdP p) (by omega), hbd, br_f c3, br_f (dec_f c6), br_t (dec_t (by simp only [iN]; exact c7))]
    by_cases c5 : m.t = (p.length : Int)
    · have hb5 : (m.t == iN p.length) = true := beq_iff_eq.2 (by simp only [iN]; exact c5)
      by_cases c4 : m.f = -1
      · refine good (p ++ [m.o]) (by unfold repS; rw [if_neg hnb, if_pos ⟨c4, c5⟩]) ?_ rfl
        have hst : some (Sum.inl (treL (p ++ [m.o]) ((i + 1 : Nat) : Int) (bdP (p ++ [m.o])))) = (some (Sum.inl (trePc.l0 (p ++ [m.o]) ((i + 1 : Nat) : Int) (bif Nat.beq 0 (0 + m.o.toNat * 1) then (p.length : Int) + 1 else bdP p 0) (bif Nat.beq 1 (0 + m.o.toNat * 1) then (p.length : Int) + 1 else bdP p 1) (bif Nat.beq 2 (0 + m.o.toNat * 1) then (p.length : Int) + 1 else bdP p 2) (bif Nat.beq 3 (0 + m.o.toNat * 1) then (p.length : Int) + 1 else bdP p 3) (bif Nat.beq 4 (0 + m.o.toNat * 1) then (p.length : Int) + 1 else bdP p 4) (bif Nat.beq 5 (0 + m.o.toNat * 1) then (p.length : Int) + 1 else bdP p 5) (bif Nat.beq 6 (0 + m.o.toNat * 1) then (p.length : Int) + 1 else bdP p 6) (bif Nat.beq 7 (0 + m.o.toNat * 1) then (p.length : Int) + 1 else bdP p 7) (bif Nat.beq 8 (0 + m.o.toNat * 1) then (p.length : Int) + 1 else bdP p 8) (bif Nat.beq 9 (0 + m.o.toNat * 1) then (p.length : Int) + 1 else bdP p 9) (bif Nat.beq 10 (0 + m.o.toNat * 1) then (p.length : Int) + 1 else bdP p 10) (bif Nat.beq 11 (0 + m.o.toNat * 1) then (p.length : Int) + 1 else bdP p 11) (bif Nat.beq 12 (0 + m.o.toNat * 1) then (p.length : Int) + 1 else bdP p 12) (bif Nat.beq 13 (0 + m.o.toNat * 1) then (p.length : Int) + 1 else bdP p 13) (bif Nat.beq 14 (0 + m.o.toNat * 1) then (p.length : Int) + 1 else bdP p 14) (bif Nat.beq 15 (0 + m.o.toNat * 1) then (p.length : Int) + 1 else bdP p 15) (bif Nat.beq 16 (0 + m.o.toNat * 1) then (p.length : Int) + 1 else bdP p 16) (bif Nat.beq 17 (0 + m.o.toNat * 1) then (p.length : Int) + 1 else bdP p 17) (bif Nat.beq 18 (0 + m.o.toNat * 1) then (p.length : Int) + 1 else bdP p 18) (bif Nat.beq 19 (0 + m.o.toNat * 1) then (p.length : Int) + 1 else bdP p 19) (bif Nat.beq 20 (0 + m.o.toNat * 1) then (p.length : Int) + 1 else bdP p 20) (bif Nat.beq 21 (0 + m.o.toNat * 1) then (p.length : Int) + 1 else bdP p 21) (bif Nat.beq 22 (0 + m.o.toNat * 1) then (p.length : Int) + 1 else bdP p 22) (bif Nat.beq 23 (0 + m.o.toNat * 1) then (p.length : Int) + 1 else bdP p 23))) : Option (trePc ⊕ Ret)) := by
          unfold treL; simp only [bdP_snoc (Int.not_lt.1 c1) hno]
        rw [hst]
        unfold treS0
        rw [start, br_f (dec_f c1), br_f (dec_f (by simp only [iN, gL_len]; exact c2)), gu_t (by omega), gu_t (by omega), get24 (f := bdP p) (by omega), hbd, br_f c3, br_f (dec_f c6), br_f (dec_f (by simp only [iN]; exact c7)), hb5, beq_iff_eq.2 c4, br_f (show (!true == true) = false from rfl), br_f (show (!true) = false from rfl), br_t rfl, gu_t (by simp only [List.length_map, List.length_singleton]; omega), gu_t (by simp only [List.length_map, List.length_singleton]; omega), gu_t (hle _ (by omega)), wrap_nat i (by omega), c5, wrap_in (by omega) (by omega)]
      · refine bad (by unfold repS; rw [if_neg hnb, if_neg (fun e => c4 e.1), if_neg (fun e => by omega)]) ?_ rfl
        unfold treS0
        rw [start, br_f (dec_f c1), br_f (dec_f (by simp only [iN, gL_len]; exact c2)), gu_t (by omega), gu_t (by omega), get24 (f := bdP p) (by omega), hbd, br_f c3, br_f (dec_f c6), br_f (dec_f (by simp only [iN]; exact c7)), hb5, beq_eq_false_iff_ne.2 c4, br_t (show (!true == false) = true from rfl)]
    · have hb5 : (m.t == iN p.length) = false := beq_eq_false_iff_ne.2 (by simp only [iN]; exact c5)
      have hti : m.t.toNat < p.length := by omega
      have hge := (hp.rg _ (get_mem hti))
      by_cases c4 : m.f = -1
      · refine bad (by unfold repS; rw [if_neg hnb, if_neg (fun e => c5 e.2), if_neg (fun e => by omega)]) ?_ rfl
        unfold treS0
        rw [start, br_f (dec_f c1), br_f (dec_f (by simp only [iN, gL_len]; exact c2)), gu_t (by omega), gu_t (by omega), get24 (f := bdP p) (by omega), hbd, br_f c3, br_f (dec_f c6), br_f (dec_f (by simp only [iN]; exact c7)), hb5, beq_iff_eq.2 c4, br_t (show (!false == true) = true from rfl)]
      · by_cases c8 : m.f = p.getD m.t.toNat 0
        · have hfl : m.f.toNat < g.length := by omega
          cases c9 : hasZ (g.getD m.f.toNat []) m.o with
          | true =>
            refine good (p.set m.t.toNat m.o) (by unfold repS; rw [if_neg hnb, if_neg (fun e => c4 e.1), if_pos ⟨by omega, by omega, c8, c9⟩]) ?_ rfl
            have hst : some (Sum.inl (treL (p.set m.t.toNat m.o) ((i + 1 : Nat) : Int) (bdP (p.set m.t.toNat m.o)))) = (some (Sum.inl (trePc.l0 (p.set m.t.toNat m.o) ((i + 1 : Nat) : Int) (bif Nat.beq 0 (0 + m.o.toNat * 1) then (m.t.toNat : Int) + 1 else bif Nat.beq 0 (0 + (p.getD m.t.toNat 0).toNat * 1) then 0 else bdP p 0) (bif Nat.beq 1 (0 + m.o.toNat * 1) then (m.t.toNat : Int) + 1 else bif Nat.beq 1 (0 + (p.getD m.t.toNat 0).toNat * 1) then 0 else bdP p 1) (bif Nat.beq 2 (0 + m.o.toNat * 1) then (m.t.toNat : Int) + 1 else bif Nat.beq 2 (0 + (p.getD m.t.toNat 0).toNat * 1) then 0 else bdP p 2) (bif Nat.beq 3 (0 + m.o.toNat * 1) then (m.t.toNat : Int) + 1 else bif Nat.beq 3 (0 + (p.getD m.t.toNat 0).toNat * 1) then 0 else bdP p 3) (bif Nat.beq 4 (0 + m.o.toNat * 1) then (m.t.toNat : Int) + 1 else bif Nat.beq 4 (0 + (p.getD m.t.toNat 0).toNat * 1) then 0 else bdP p 4) (bif Nat.beq 5 (0 + m.o.toNat * 1) then (m.t.toNat : Int) + 1 else bif Nat.beq 5 (0 + (p.getD m.t.toNat 0).toNat * 1) then 0 else bdP p 5) (bif Nat.beq 6 (0 + m.o.toNat * 1) then (m.t.toNat : Int) + 1 else bif Nat.beq 6 (0 + (p.getD m.t.toNat 0).toNat * 1) then 0 else bdP p 6) (bif Nat.beq 7 (0 + m.o.toNat * 1) then (m.t.toNat : Int) + 1 else bif Nat.beq 7 (0 + (p.getD m.t.toNat 0).toNat * 1) then 0 else bdP p 7) (bif Nat.beq 8 (0 + m.o.toNat * 1) then (m.t.toNat : Int) + 1 else bif Nat.beq 8 (0 + (p.getD m.t.toNat 0).toNat * 1) then 0 else bdP p 8) (bif Nat.beq 9 (0 + m.o.toNat * 1) then (m.t.toNat : Int) + 1 else bif Nat.beq 9 (0 + (p.getD m.t.toNat 0).toNat * 1) then 0 else bdP p 9) (bif Nat.beq 10 (0 + m.o.toNat * 1) then (m.t.toNat : Int) + 1 else bif Nat.beq 10 (0 + (p.getD m.t.toNat 0).toNat * 1) then 0 else bdP p 10) (bif Nat.beq 11 (0 + m.o.toNat * 1) then (m.t.toNat : Int) + 1 else bif Nat.beq 11 (0 + (p.getD m.t.toNat 0).toNat * 1) then 0 else bdP p 11) (bif Nat.beq 12 (0 + m.o.toNat * 1) then (m.t.toNat : Int) + 1 else bif Nat.beq 12 (0 + (p.getD m.t.toNat 0).toNat * 1) then 0 else bdP p 12) (bif Nat.beq 13 (0 + m.o.toNat * 1) then (m.t.toNat : Int) + 1 else bif Nat.beq 13 (0 + (p.getD m.t.toNat 0).toNat * 1) then 0 else bdP p 13) (bif Nat.beq 14 (0 + m.o.toNat * 1) then (m.t.toNat : Int) + 1 else bif Nat.beq 14 (0 + (p.getD m.t.toNat 0).toNat * 1) then 0 else bdP p 14) (bif Nat.beq 15 (0 + m.o.toNat * 1) then (m.t.toNat : Int) + 1 else bif Nat.beq 15 (0 + (p.getD m.t.toNat 0).toNat * 1) then 0 else bdP p 15) (bif Nat.beq 16 (0 + m.o.toNat * 1) then (m.t.toNat : Int) + 1 else bif Nat.beq 16 (0 + (p.getD m.t.toNat 0).toNat * 1) then 0 else bdP p 16) (bif Nat.beq 17 (0 + m.o.toNat * 1) then (m.t.toNat : Int) + 1 else bif Nat.beq 17 (0 + (p.getD m.t.toNat 0).toNat * 1) then 0 else bdP p 17) (bif Nat.beq 18 (0 + m.o.toNat * 1) then (m.t.toNat : Int) + 1 else bif Nat.beq 18 (0 + (p.getD m.t.toNat 0).toNat * 1) then 0 else bdP p 18) (bif Nat.beq 19 (0 + m.o.toNat * 1) then (m.t.toNat : Int) + 1 else bif Nat.beq 19 (0 + (p.getD m.t.toNat 0).toNat * 1) then 0 else bdP p 19) (bif Nat.beq 20 (0 + m.o.toNat * 1) then (m.t.toNat : Int) + 1 else bif Nat.beq 20 (0 + (p.getD m.t.toNat 0).toNat * 1) then 0 else bdP p 20) (bif Nat.beq 21 (0 + m.o.toNat * 1) then (m.t.toNat : Int) + 1 else bif Nat.beq 21 (0 + (p.getD m.t.toNat 0).toNat * 1) then 0 else bdP p 21) (bif Nat.beq 22 (0 + m.o.toNat * 1) then (m.t.toNat : Int) + 1 else bif Nat.beq 22 (0 + (p.getD m.t.toNat 0).toNat * 1) then 0 else bdP p 22) (bif Nat.beq 23 (0 + m.o.toNat * 1) then (m.t.toNat : Int) + 1 else bif Nat.beq 23 (0 + (p.getD m.t.toNat 0).toNat * 1) then 0 else bdP p 23))) : Option (trePc ⊕ Ret)) := by
              unfold treL; simp only [bdP_set hp.nd hti (Int.not_lt.1 c1) hno hge.1]
            have hwt : IntKind.i64.wrap (m.t + 1) = (m.t.toNat : Int) + 1 := by rw [wrap_in (by omega) (by omega)]; omega
            rw [hst]
            unfold treS0
            rw [start, br_f (dec_f c1), br_f (dec_f (by simp only [iN, gL_len]; exact c2)), gu_t (by omega), gu_t (by omega), get24 (f := bdP p) (by omega), hbd, br_f c3, br_f (dec_f c6), br_f (dec_f (by simp only [iN]; exact c7)), hb5, beq_eq_false_iff_ne.2 c4, br_f (show (!false == false) = false from rfl), br_t (show (!false) = true from rfl), gu_t (by omega), gu_t (by simp only [iN]; omega), Nat.zero_add, el_t (getE 0 hti), br_f (by rw [c8]; exact bne_self_eq_false _), gu_t (by omega), el_t (getE [] hfl), gu_t (valZ_row hrw hv hfl), br_f (by rw [c9]; rfl), br_f rfl, gu_t (by omega), gu_t (hle _ (by omega)), gu_t (show m.t.toNat.succ.le (List.map (AV.int .i64) p).length by show m.t.toNat + 1 ≤ _; rw [List.length_map]; exact hti), gu_t (hle _ (by omega)), wrap_nat i (by omega), hwt, ← c8]
          | false =>
            refine bad (by unfold repS; rw [if_neg hnb, if_neg (fun e => c4 e.1), if_neg (fun e => by rw [c9] at e; cases e.2.2.2)]) ?_ rfl
            unfold treS0
            rw [start, br_f (dec_f c1), br_f (dec_f (by simp only [iN, gL_len]; exact c2)), gu_t (by omega), gu_t (by omega), get24 (f := bdP p) (by omega), hbd, br_f c3, br_f (dec_f c6), br_f (dec_f (by simp only [iN]; exact c7)), hb5, beq_eq_false_iff_ne.2 c4, br_f (show (!false == false) = false from rfl), br_t (show (!false) = true from rfl), gu_t (by omega), gu_t (by simp only [iN]; omega), Nat.zero_add, el_t (getE 0 hti), br_f (by rw [c8]; exact bne_self_eq_false _), gu_t (by omega), el_t (getE [] hfl), gu_t (valZ_row hrw hv hfl), br_t (by rw [c9]; rfl)]
        · refine bad (by unfold repS; rw [if_neg hnb, if_neg (fun e => c4 e.1), if_neg (fun e => c8 e.2.2.1)]) ?_ rfl
          unfold treS0
          rw [start, br_f (dec_f c1), br_f (dec_f (by simp only [iN, gL_len]; exact c2)), gu_t (by omega), gu_t (by omega), get24 (f := bdP p) (by omega), hbd, br_f c3, br_f (dec_f c6), br_f (dec_f (by simp only [iN]; exact c7)), hb5, beq_eq_false_iff_ne.2 c4, br_f (show (!false == false) = false from rfl), br_t (show (!false) = true from rfl), gu_t (by omega), gu_t (by simp only [iN]; omega), Nat.zero_add, el_t (getE 0 hti), br_t (bne_iff_ne.2 (fun e => c8 e.symm))]
theorem treplay_c (g : List (List Int)) (l : List MvD) (hrw : Rows g) : CT Try.prog 23 [] [.lst (gL g), .lst (l.map mvA)] [some (Blk.mk ((repO g l).1.map (AV.int .i64)) 1 true true none)] (.tup [.sl 0 0 (repO g l).1.length, .int .i64 (repO g l).2]) := by
  refine rep_mk (fun hv => tre_ct g l ([], _) (.val (show treEn g l = _ by unfold treEn; rw [gu_t hrw, hv, br_t (by rfl)]))) (fun hv hl => tre_ct g l ([], _) (.val (show treEn g l = _ by unfold treEn; rw [gu_t hrw, hv, br_f (by rfl), br_t (dec_t (by simp only [iN, List.length_map]; omega))]))) fun hv hl => ?_
  have e0 : some (Sum.inl (treL [] ((0 : Nat) : Int) (bdP []))) = (some (Sum.inl (trePc.l0 [] 0 0 0 0 0 0 0 0 0 0 0 0 0 0 0 0 0 0 0 0 0 0 0 0 0)) : Option (trePc ⊕ Ret)) := rfl
  exact tre_ct g l _ (.eq (show treEn g l = some (Sum.inl (treL [] ((0 : Nat) : Int) (bdP []))) by unfold treEn; rw [gu_t hrw, hv, br_f (by rfl), br_f (dec_f (by simp only [iN, List.length_map]; omega)), e0]) (tre_run hrw hv hl l 0 [] rfl (RI.nil g)))
noncomputable def tstSt (g : List (List Int)) (q w : List Int) : Empty → St
  | x => x.elim
def tstHd : Empty → Nat
  | x => x.elim
noncomputable def tstEn (g : List (List Int)) (q w : List Int) : Option (Empty ⊕ Ret) :=
  gu (Rows g) <|
  br (freE g q w == 0)
  (br (iN (List.map (AV.int IntKind.i64) (freL g q w)).length == 0)
   (gu (w.length ≤ 1000000) <|
    some (.inr ([], AV.bool (w.any fun x => decide (0 ≤ x)))))
   (some (.inr ([], AV.bool false))))
  (some (.inr ([], AV.bool false)))
noncomputable def tstStep (g : List (List Int)) (q w : List Int) : Empty → Option (Empty ⊕ Ret)
  | x => x.elim
theorem tstEn_ok (g : List (List Int)) (q w : List Int) (o : Empty ⊕ Ret) (h : tstEn g q w = some o) : Arr Try.prog Try.f20 0 (tstSt g q w) tstHd (bodyOf Try.f20) [] { n := Try.f20.ntmps, fr := enumF 0 ([.lst (gL g), lI q, lI w]), hp := ([]) } o :=
 Scr.ok h mix (
 .rn 0 [] [] [] [] s2 <|
 .gu fun a0 =>
 have c0 := tfree_c (g) (q) (w) a0;
 .rn 0 [] [] [(13, hK c0 [] [])] [] (al (u2 (u2 (u2 (aj (ak (k5 (al (c0)))) (u2 (u2 (u2 (u2 s2))))))))) <|
 .br (fun a1 =>
 .br (fun a2 =>
  .gu fun a3 =>
  have c1 := cfn_c (w) a3;
  .rt [37, 47] [] [(25, hK c1 [] [])] [] [] [] (aj (al (u2 (u2 (u2 (ag a1 (ag a1 (ag a1 (ag a1 (u2 (ag a2 (aj (aj a2 (k3 (al (c1)))) (ag a2 s2)))))))))))) t2))
 (fun a2 =>
  .rt [37, 46] [] [] [] [] [] (aj (al (u2 (u2 (u2 (ag a1 (ag a1 (ag a1 (ag a1 (u2 (aj a2 (aj a2 (ag a2 s2)))))))))))) t2)))
 (fun a1 =>
 .rt [36] [] [] [] [] [] (aj (al (u2 (u2 (u2 (aj a1 (aj a1 (aj a1 (ag a1 (u2 (k2 (aj t3 s2))))))))))) t2))) (by kernel_rfl)
theorem tst_ct (g : List (List Int)) (q w : List Int) (r : Ret) (h : MReach (tstStep g q w) (tstEn g q w) r) : CT Try.prog 20 ([]) ([.lst (gL g), lI q, lI w]) r.1 r.2 :=
  CT.mach (fn := Try.f20) (c := bodyOf Try.f20) (S := tstSt g q w) (hd := tstHd) Try.func20 (by kernel_rfl) (Nat.le_of_ble_eq_true rfl)
    (fun s o ho => match s, ho with
      | x, _ => x.elim)
    (fun o ho => tstEn_ok g q w o ho) h
inductive sinPc where
  | l0 (v0 : Int)
noncomputable def sinSt (l q : List Int) : sinPc → St
  | .l0 v0 => St.mk 26 [(0, AV.lst (List.map (iv) l)), (1, AV.lst (List.map (iv) q)), (5, iv v0)] []
def sinHd : sinPc → Nat
  | .l0 _ => 0
noncomputable def sinEn (l q : List Int) : Option (sinPc ⊕ Ret) :=
  br (iN (List.map (AV.int IntKind.i64) l).length != iN (List.map (AV.int IntKind.i64) q).length)
  (some (.inr ([], AV.bool false)))
  (some (.inl (.l0 ((0 : Int)))))
noncomputable def sinS0 (l q : List Int) (v0 : Int) : Option (sinPc ⊕ Ret) :=
  br (decide (v0 < iN (List.map (AV.int IntKind.i64) l).length))
  (gu (0 ≤ v0) <|
   el (l) (v0.toNat) fun (x19 : Int) =>
   el (q) (v0.toNat) fun (x23 : Int) =>
   br (x19 != x23)
   (some (.inr ([], AV.bool false)))
   (some (.inl (.l0 (IntKind.i64.wrap (v0 + 1))))))
  (some (.inr ([], AV.bool true)))
noncomputable def sinStep (l q : List Int) : sinPc → Option (sinPc ⊕ Ret)
  | .l0 v0 => sinS0 l q v0
theorem sinEn_ok (l q : List Int) (o : sinPc ⊕ Ret) (h : sinEn l q = some o) : Arr Try.prog Try.f25 0 (sinSt l q) sinHd (bodyOf Try.f25) [] { n := Try.f25.ntmps, fr := enumF 0 ([lI l, lI q]), hp := ([]) } o :=
 Scr.ok h mix (
 .rn 1 [] [] [] [] (u2 (al (u2 (u2 (u2 (u2 (al t3))))))) <|
 .br (fun a0 =>
 .rt [21] [] [] [] [] [] (aj (aj a0 s2) t2))
 (fun a0 =>
 .lp [20] [] [] [] [] [] [0, 1, 5] (aj (aj a0 s2) t4))) (by kernel_rfl)
theorem sinS0_ok (l q : List Int) (v0 : Int) (o : sinPc ⊕ Ret) (h : sinS0 l q v0 = some o) : Arr Try.prog Try.f25 0 (sinSt l q) sinHd (headC Try.f25 0) (.rnd (headC Try.f25 0) :: headK Try.f25 0) (sinSt l q (.l0 v0)) o :=
 Scr.ok h mix (
 .rn 0 [] [] [] [] (al (u2 (u2 (u2 (al t3))))) <|
 .br (fun a0 =>
 .gu fun a1 =>
 .el fun x19 a2 =>
 .el fun x23 a3 =>
 .rn 0 [29] [(19, iv x19), (23, iv x23)] [] [] (aj a0 (al (u2 (u2 (aj (k2 (aj a1 (getMap (f := iv) a2))) (u2 (u2 (u2 (aj (k2 (aj a1 (getMap (f := iv) a3))) (u2 (al t3))))))))))) <|
 .br (fun a4 =>
  .rt [51] [] [] [] [] [] (aj (aj a4 s2) t2))
 (fun a4 =>
  .lp [50] [] [] [] [] [] [0, 1, 5] (aj (aj a4 (al (u2 (u2 s2)))) t4)))
 (fun a0 =>
 .rt [28] [] [] [] [] [] (aj (aj a0 s2) t2))) (by kernel_rfl)
theorem sin_ct (l q : List Int) (r : Ret) (h : MReach (sinStep l q) (sinEn l q) r) : CT Try.prog 25 ([]) ([lI l, lI q]) r.1 r.2 :=
  CT.mach (fn := Try.f25) (c := bodyOf Try.f25) (S := sinSt l q) (hd := sinHd) Try.func25 (by kernel_rfl) (Nat.le_of_ble_eq_true rfl)
    (fun s o ho => match s, ho with
      | .l0 v0, ho => sinS0_ok l q v0 o ho
    )
    (fun o ho => sinEn_ok l q o ho) h
theorem graph_exP (L : List Int) (kk : Nat) (most : Int) : ∃ p : List (List Int) × Nat, kk ≤ 100000 → (0 ≤ most ∧ most ≤ 20) → valZ p.1 = true ∧ Rows p.1 ∧ (p.1.length : Int) ≤ most ∧ p.2 ≤ kk + 200 ∧ CT Try.prog 16 [some (tapeB L kk)] [.ptr 0 0 0, .int .i64 most] [some (tapeB L p.2)] (.lst (gL p.1)) := by
  by_cases h : kk ≤ 100000 ∧ (0 ≤ most ∧ most ≤ 20)
  · obtain ⟨hk, h0, h1⟩ := h
    obtain ⟨g, k, n, a, b, c, d⟩ := graph_ex L kk most.toNat (by omega) (by omega)
    obtain ⟨ho, ha⟩ := b.ok (by omega) (by omega) (s := opn g) (by simp [opn, b.len])
    rw [Int.toNat_of_nonneg h0] at d
    exact ⟨(g, k), fun _ _ => ⟨chk_val (chk4_of ho ha), rows_ok ho, by rw [b.len]; omega, c, d⟩⟩
  · exact ⟨([], 0), fun a b => absurd ⟨a, b⟩ h⟩
@[irreducible] noncomputable def graM (L : List Int) (kk : Nat) (most : Int) : List (List Int) := (Classical.choose (graph_exP L kk most)).1
@[irreducible] noncomputable def graK (L : List Int) (kk : Nat) (most : Int) : Nat := (Classical.choose (graph_exP L kk most)).2
theorem gra_spec {L : List Int} {kk : Nat} {most : Int} (h : kk ≤ 100000) (hm : 0 ≤ most ∧ most ≤ 20) : valZ (graM L kk most) = true ∧ Rows (graM L kk most) ∧ ((graM L kk most).length : Int) ≤ most ∧ graK L kk most ≤ kk + 200 ∧ CT Try.prog 16 [some (tapeB L kk)] [.ptr 0 0 0, .int .i64 most] [some (tapeB L (graK L kk most))] (.lst (gL (graM L kk most))) := by
  unfold graM graK; exact Classical.choose_spec (graph_exP L kk most) h hm
theorem graph_c (L : List Int) (kk : Nat) (most : Int) (h : kk ≤ 100000) (hm : 0 ≤ most ∧ most ≤ 20) : CT Try.prog 16 [some (tapeB L kk)] [.ptr 0 0 0, .int .i64 most] [some (tapeB L (graK L kk most))] (.lst (gL (graM L kk most))) := (gra_spec h hm).2.2.2.2
noncomputable def cycL (g : List (List Int)) : List Int := if valZ g = true then girW g else []
noncomputable def cycE (g : List (List Int)) : Int := if valZ g = true then (if girW g = [] then 25 else 0) else 20
theorem val24 {g : List (List Int)} (hv : valZ g = true) : g.length ≤ 24 := by
  unfold valZ at hv
  simp only [Bool.and_eq_true, Bool.not_eq_true', decide_eq_false_iff_not] at hv
  omega
theorem cyc_c (g : List (List Int)) (hrw : Rows g) : CT Try.prog 65 [] [.lst (gL g)] [] (.tup [lI (cycL g), .int .i64 (cycE g)]) := by
  unfold cycL cycE
  have hl := gL_len g
  cases hv : valZ g with
  | false => exact (cyc_ct g ([], _) (.val (show cycEn g = _ by unfold cycEn; rw [gu_t hrw, hv, br_t (by rfl)]))).to rfl rfl
  | true =>
    have h24 := val24 hv
    rw [if_pos rfl, if_pos rfl]
    cases hw : girW g with
    | nil => exact (cyc_ct g ([], _) (.val (show cycEn g = _ by unfold cycEn; rw [gu_t hrw, hv, br_f (by rfl), gu_t (by simp only [iN]; omega), gu_t (by simp only [iN]; omega), gu_t hl, hw, br_t (by rfl)]))).to rfl rfl
    | cons x r => exact (cyc_ct g ([], _) (.val (show cycEn g = _ by unfold cycEn; rw [gu_t hrw, hv, br_f (by rfl), gu_t (by simp only [iN]; omega), gu_t (by simp only [iN]; omega), gu_t hl, hw, br_f (by rw [beq_eq_false_iff_ne]; simp only [iN, List.length_map, List.length_cons]; omega)]))).to rfl rfl
theorem tst_c (g : List (List Int)) (q w : List Int) (hrw : Rows g) : CT Try.prog 20 [] [.lst (gL g), lI q, lI w] [] (.bool (stkB g q w)) := by
  refine tst_ct g q w ([], _) ?_
  unfold tstEn stkB
  rw [gu_t hrw]
  unfold freE freL
  cases hp : posB g q w with
  | false => rw [if_neg (by simp), br_f (by rfl)]; exact .ret _
  | true =>
    have hP := posB_iff.1 hp
    have hl := hP.len
    have hc := hP.cap
    rw [if_pos rfl, if_pos rfl, br_t (by rfl)]
    cases hf : frT q w with
    | nil => rw [br_t (by rfl), gu_t (by omega)]; exact .ret _
    | cons x r => rw [br_f (by rw [beq_eq_false_iff_ne]; simp only [iN, List.length_map, List.length_cons]; omega)]; exact .ret _
theorem sin_c (l q : List Int) (hl : l.length ≤ 1000000) : CT Try.prog 25 [] [lI l, lI q] [] (.bool (decide (l = q))) := by
  refine sin_ct l q ([], _) ?_
  unfold sinEn
  by_cases hlen : l.length = q.length
  · rw [br_f (by simp [iN, hlen])]
    refine (loop_fnd (fun i => sinPc.l0 (i : Int)) l.length (fun i => l.getD i 0 != q.getD i 0) (rF := fun i => ([], .bool false)) (r := ([], .bool true)) (fun i hi hp => ?_) (fun i r hi hp hr => ?_) (fun _ => ?_)).res ?_
    · refine .to (show sinS0 l q i = _ from ?_) (.ret _)
      unfold sinS0
      rw [rngG 0 hi, elG 0 (show i < q.length by omega), br_t hp]
    · refine .to (show sinS0 l q i = _ from ?_) hr
      unfold sinS0
      rw [rngG 0 hi, elG 0 (show i < q.length by omega), br_f hp, wrap_nat i (by omega)]
    · refine .to (show sinS0 l q l.length = _ from ?_) (.ret _)
      unfold sinS0; rw [rngE]
    · cases hf : fnd (fun i => l.getD i 0 != q.getD i 0) 0 l.length with
      | some i =>
        obtain ⟨h, _, _⟩ := fnd_some hf
        rw [dec_f]
        rintro rfl
        simp at h
      | none =>
        rw [dec_t]
        apply List.ext_getElem? fun i => ?_
        by_cases hi : i < l.length
        · have := fnd_none hf i (by omega) (by omega)
          rw [getE 0 hi, getE 0 (show i < q.length by omega)]
          simpa using this
        · rw [List.getElem?_eq_none (by omega), List.getElem?_eq_none (by omega)]
  · rw [br_t (by simp [iN]; omega), dec_f (fun h => hlen (by rw [h]))]; exact .ret _
structure PosI (g : List (List Int)) (q w : List Int) : Prop where
  len : q.length = w.length
  rg : ∀ i : Nat, i < q.length → 0 ≤ q.getD i 0 ∧ q.getD i 0 < (g.length : Int)
  nd : q.Nodup
  wt : ∀ i : Nat, i < q.length → w.getD i 0 = -1 ∨ w.getD i 0 ∈ g.getD (q.getD i 0).toNat []
theorem PosI.snoc {g : List (List Int)} {q w : List Int} (h : PosI g q w) {v x : Int} (h0 : 0 ≤ v) (h1 : v < (g.length : Int)) (hn : v ∉ q) (hx : x = -1 ∨ x ∈ g.getD v.toNat []) : PosI g (q ++ [v]) (w ++ [x]) := by
  have hl := h.len
  refine ⟨by simp [hl], fun i hi => ?_, nodup_snoc h.nd hn, fun i hi => ?_⟩
  · rw [List.length_append, List.length_singleton] at hi
    rw [getD_snoc]
    by_cases e : i < q.length
    · rw [if_pos e]; exact h.rg i e
    · rw [if_neg e, if_pos (by omega)]; exact ⟨h0, h1⟩
  · rw [List.length_append, List.length_singleton] at hi
    rw [getD_snoc, getD_snoc]
    by_cases e : i < q.length
    · rw [if_pos e, if_pos (show i < w.length by omega)]; exact h.wt i e
    · rw [if_neg e, if_pos (show i = q.length by omega), if_neg (show ¬ i < w.length by omega), if_pos (show i = w.length by omega)]; exact hx
theorem PosI.pos {g : List (List Int)} {q w : List Int} (h : PosI g q w) (hv : valZ g = true) (hc : q.length ≤ 24) : PosP g q w := ⟨hv, h.len, hc, h.rg, h.nd, h.wt⟩
inductive tfiPc where
  | l0 (v0 : List Int) (v1 : Int) (v2 : Int)
  | l1 (v0 : List Int) (v1 : List MvD) (v2 : Int)
  | l2 (v0 : List Int) (v1 : List MvD) (v2 : Int) (v3 : Int) (v4 : List Int) (v5 : Nat) (v6 : Int)
noncomputable def tfiSt (g : List (List Int)) (z : Int) : tfiPc → St
  | .l0 v0 v1 v2 => St.mk 129 [(0, AV.lst (gL g)), (1, iv z), (6, AV.lst (List.map (iv) (cycL g))), (8, AV.lst (List.map (iv) v0)), (9, iv v1), (41, AV.lst (List.map (iv) (cycL g))), (42, iv (iN (List.map (iv) (cycL g)).length)), (43, iv v2)] []
  | .l1 v0 v1 v2 => St.mk 129 [(8, AV.lst (List.map (iv) v0)), (14, AV.sl 0 0 v1.length), (103, iv (iN (List.map (iv) (cycL g)).length)), (104, iv v2)] [some (Blk.mk (List.map mvA v1) 3 true true none)]
  | .l2 v0 v1 v2 v3 v4 v5 v6 => St.mk 129 [(8, AV.lst (List.map (iv) v0)), (14, AV.sl 0 0 v1.length), (15, iv v2), (16, iv v3), (103, iv (iN (List.map (iv) (cycL g)).length)), (104, iv v2), (112, AV.lst (List.map (iv) v4)), (113, iv (iN v5)), (114, iv v6)] [some (Blk.mk (List.map mvA v1) 3 true true none)]
def tfiHd : tfiPc → Nat
  | .l0 _ _ _ => 0
  | .l1 _ _ _ => 1
  | .l2 _ _ _ _ _ _ _ => 2
noncomputable def tfiEn (g : List (List Int)) (z : Int) : Option (tfiPc ⊕ Ret) :=
  gu (Rows g) <|
  br (cycE g == 20)
  (some (.inr ([], AV.tup [AV.nils, AV.int IntKind.i64 (cycE g)])))
  (br (decide (z < 0))
   (some (.inr ([], AV.tup [AV.nils, AV.int IntKind.i64 19])))
   (br (decide (iN (gL g).length ≤ z))
    (some (.inr ([], AV.tup [AV.nils, AV.int IntKind.i64 19])))
    (br (cycE g != 0)
     (some (.inr ([], AV.tup [AV.nils, AV.int IntKind.i64 (cycE g)])))
     (some (.inl (.l0 ([]) ((-1 : Int)) ((0 : Int))))))))
noncomputable def tfiS0 (g : List (List Int)) (z : Int) (v0 : List Int) (v1 : Int) (v2 : Int) : Option (tfiPc ⊕ Ret) :=
  br (decide (v2 < iN (List.map (AV.int IntKind.i64) (cycL g)).length))
  (gu (0 ≤ v2) <|
   el (cycL g) (v2.toNat) fun (x46 : Int) =>
   gu (1 * iN (gL g).length ≤ 281474976710656) <|
   gu (iN (gL g).length ≤ 9223372036854775807) <|
   gu (Rows g) <|
   gu ((gL g).length = g.length) <|
   br (valZ g)
   (gu (0 ≤ z ∧ z < iN g.length) <|
    gu (0 ≤ x46 ∧ x46 < iN g.length) <|
    br (decide (0 < iN (List.map (AV.int IntKind.i64) (pthL g z x46)).length))
    (br (decide (v1 < 0))
     (some (.inl (.l0 (pthL g z x46) (v2) (IntKind.i64.wrap (v2 + 1)))))
     (br (decide (iN (List.map (AV.int IntKind.i64) (pthL g z x46)).length < iN (List.map (AV.int IntKind.i64) v0).length))
      (some (.inl (.l0 (pthL g z x46) (v2) (IntKind.i64.wrap (v2 + 1)))))
      (br (iN (List.map (AV.int IntKind.i64) (pthL g z x46)).length == iN (List.map (AV.int IntKind.i64) v0).length)
       (gu (0 ≤ v1) <|
        el (cycL g) (v1.toNat) fun (x81 : Int) =>
        br (decide (x46 < x81))
        (some (.inl (.l0 (pthL g z x46) (v2) (IntKind.i64.wrap (v2 + 1)))))
        (some (.inl (.l0 (v0) (v1) (IntKind.i64.wrap (v2 + 1))))))
       (some (.inl (.l0 (v0) (v1) (IntKind.i64.wrap (v2 + 1))))))))
    (some (.inl (.l0 (v0) (v1) (IntKind.i64.wrap (v2 + 1))))))
   (none))
  (br (decide (v1 < 0))
   (some (.inr ([], AV.tup [AV.nils, AV.int IntKind.i64 25])))
   (gu (∀ (e : AV), e ∈ List.map (AV.int IntKind.i64) (cycL g) → e.cells.length = 1) <|
    gu (0 ≤ IntKind.i64.wrap (v1 + 1)) <|
    gu (IntKind.i64.wrap (v1 + 1) ≤ iN (List.map (AV.int IntKind.i64) (cycL g)).length) <|
    gu (0 ≤ v1) <|
    gu (v1 ≤ iN (List.map (AV.int IntKind.i64) (cycL g)).length) <|
    gu ([v0, List.take ((List.map (AV.int IntKind.i64) (cycL g)).length - (IntKind.i64.wrap (v1 + 1)).toNat) (List.drop (IntKind.i64.wrap (v1 + 1)).toNat (cycL g)), List.take (v1.toNat - Int.toNat 0) (List.drop (Int.toNat 0) (cycL g))].length ≤ 1000 ∧ ∀ (r : List Int), r ∈ [v0, List.take ((List.map (AV.int IntKind.i64) (cycL g)).length - (IntKind.i64.wrap (v1 + 1)).toNat) (List.drop (IntKind.i64.wrap (v1 + 1)).toNat (cycL g)), List.take (v1.toNat - Int.toNat 0) (List.drop (Int.toNat 0) (cycL g))] → r.length ≤ 1000000) <|
    some (.inl (.l1 ([v0, List.take ((List.map (AV.int IntKind.i64) (cycL g)).length - (IntKind.i64.wrap (v1 + 1)).toNat) (List.drop (IntKind.i64.wrap (v1 + 1)).toNat (cycL g)), List.take (v1.toNat - Int.toNat 0) (List.drop (Int.toNat 0) (cycL g))].flatten) ([]) ((0 : Int))))))
noncomputable def tfiS1 (g : List (List Int)) (z : Int) (v0 : List Int) (v1 : List MvD) (v2 : Int) : Option (tfiPc ⊕ Ret) :=
  br (decide (v2 < iN (List.map (AV.int IntKind.i64) (cycL g)).length))
  (gu (∀ (e : AV), e ∈ List.map (AV.int IntKind.i64) v0 → e.cells.length = 1) <|
   gu (0 ≤ IntKind.i64.wrap (iN (List.map (AV.int IntKind.i64) v0).length - v2)) <|
   gu (IntKind.i64.wrap (iN (List.map (AV.int IntKind.i64) v0).length - v2) ≤ iN (List.map (AV.int IntKind.i64) v0).length) <|
   some (.inl (.l2 (v0) (v1) (v2) ((-1 : Int)) (List.take ((IntKind.i64.wrap (iN (List.map (AV.int IntKind.i64) v0).length - v2)).toNat - Int.toNat 0) (List.drop (Int.toNat 0) v0)) ((List.take ((IntKind.i64.wrap (iN (List.map (AV.int IntKind.i64) v0).length - v2)).toNat - Int.toNat 0) (List.drop (Int.toNat 0) (List.map (AV.int IntKind.i64) v0))).length) ((0 : Int)))))
  (some (.inr ([], AV.tup [AV.lst (List.map mvA v1), AV.int IntKind.i64 0])))
noncomputable def tfiS2 (g : List (List Int)) (z : Int) (v0 : List Int) (v1 : List MvD) (v2 : Int) (v3 : Int) (v4 : List Int) (v5 : Nat) (v6 : Int) : Option (tfiPc ⊕ Ret) :=
  br (decide (v6 < iN v5))
  (gu (0 ≤ v6) <|
   el (v4) (v6.toNat) fun (x116 : Int) =>
   gu ((List.map mvA v1).length + [AV.agg [AV.int IntKind.i64 v2, AV.int IntKind.i64 v3, AV.int IntKind.i64 x116]].length ≤ 9223372036854775807) <|
   gu (((List.map mvA v1).length + [AV.agg [AV.int IntKind.i64 v2, AV.int IntKind.i64 v3, AV.int IntKind.i64 x116]].length) * 24 ≤ 140737488355328) <|
   some (.inl (.l2 (v0) (v1 ++ [MvD.mk v2 v3 x116]) (v2) (x116) (v4) (v5) (IntKind.i64.wrap (v6 + 1)))))
  (some (.inl (.l1 (v0) (v1) (IntKind.i64.wrap (v2 + 1)))))
noncomputable def tfiStep (g : List (List Int)) (z : Int) : tfiPc → Option (tfiPc ⊕ Ret)
  | .l0 v0 v1 v2 => tfiS0 g z v0 v1 v2
  | .l1 v0 v1 v2 => tfiS1 g z v0 v1 v2
  | .l2 v0 v1 v2 v3 v4 v5 v6 => tfiS2 g z v0 v1 v2 v3 v4 v5 v6
theorem tfiEn_ok (g : List (List Int)) (z : Int) (o : tfiPc ⊕ Ret) (h : tfiEn g z = some o) : Arr Try.prog Try.f29 0 (tfiSt g z) tfiHd (bodyOf Try.f29) [] { n := Try.f29.ntmps, fr := enumF 0 ([.lst (gL g), .int .i64 z]), hp := ([]) } o :=
 Scr.ok h mix (
 .rn 0 [] [] [] [] (al t3) <|
 .gu fun a0 =>
 have c0 := cyc_c (g) a0;
 .rn 1 [] [] [(21, hK c0 [] [])] [] (aj (u2 (aj (k2 (al (c0))) (u2 (u2 (u2 (u2 s2)))))) (al (u2 (u2 s2)))) <|
 .br (fun a1 =>
 .rt [49] [] [] [] [] [] (aj (aj a1 (al (u2 (ak s2)))) (al t3)))
 (fun a1 =>
 .br (fun a2 =>
  .rt [48, 63] [] [] [] [] [] (aj (aj a1 (aj (u2 (u2 (u2 (aj a2 (aj a2 (aj a2 (aj a2 (ag a2 s2)))))))) (ak (al t3)))) (al t3)))
 (fun a2 =>
  .rn 0 [48, 62] [] [] [] (aj a1 (al (u2 (u2 (u2 (ag a2 (ag a2 (ag a2 (aj (aj a2 t3) (ag a2 s2)))))))))) <|
  .br (fun a3 =>
  .rt [62, 57] [] [] [] [] [] (aj (aj a3 (al t3)) (al t3)))
  (fun a3 =>
  .rn 0 [62, 56] [] [] [] (aj a3 (al (u2 (u2 s2)))) <|
  .br (fun a4 =>
   .rt [62, 75] [] [] [] [] [] (aj (aj a4 (al (u2 (ak s2)))) (al t3)))
  (fun a4 =>
   .lp [62, 74] [] [] [] [(8, 1000)] [] [0, 1, 6, 8, 9, 41, 42, 43] (aj (aj a4 (u2 (u2 (al (u2 (u2 t2)))))) t9)))))) (by kernel_rfl)
theorem tfiS0_ok (g : List (List Int)) (z : Int) (v0 : List Int) (v1 : Int) (v2 : Int) (o : tfiPc ⊕ Ret) (h : tfiS0 g z v0 v1 v2 = some o) : Arr Try.prog Try.f29 0 (tfiSt g z) tfiHd (headC Try.f29 0) (.rnd (headC Try.f29 0) :: headK Try.f29 0) (tfiSt g z (.l0 v0 v1 v2)) o :=
 Scr.ok h mix (
 .rn 0 [] [] [] [] (al (al t3)) <|
 .br (fun a0 =>
 .gu fun a1 =>
 .el fun x46 a2 =>
 .rn 0 [89] [(46, iv x46)] [] [] (aj a0 (al (u2 (aj (k2 (aj a1 (getMap (f := iv) a2))) (u2 (u2 s2)))))) <|
 .gu fun a3 =>
 .gu fun a4 =>
 .gu fun a5 =>
 .gu fun a6 =>
 .br (fun a7 =>
  .gu fun a8 =>
  .gu fun a9 =>
  have c0 := path_c (g) ((gL g).length) (z) (x46) a5 a6 a7 a8 a9;
  .rn 0 [] [(52, AV.lst [])] [(55, hK c0 [] [])] [] (al (u2 (u2 (u2 (aj (k2 (aj (show 0 ≤ iN (gL g).length from (Int.natCast_nonneg _)) (aj (show iN (gL g).length ≤ iN (gL g).length by omega) (aj a3 a4)))) (u2 (u2 (aj (k3 (k5 (al (c0)))) (u2 (u2 (u2 (u2 s2)))))))))))) <|
  .br (fun a10 =>
  .br (fun a11 =>
   .lp [123, 129] [] [] [] [] [] [0, 1, 6, 8, 9, 41, 42, 43] (aj (aj (u2 (u2 (u2 (u2 (ag a10 (ag a10 (ag a10 (aj a11 (aj a11 (aj a11 (aj a11 (aj a11 (aj (aj a10 (aj a11 t2)) (ag a10 (k3 (k5 (k5 (aj (aj a10 t3) (al (aj a10 t2)))))))))))))))))))) (ak (aj (u2 (u2 (u2 s2))) (al (u2 s2))))) t9))
  (fun a11 =>
   .br (fun a12 =>
   .lp [123, 128, 143] [] [] [] [] [] [0, 1, 6, 8, 9, 41, 42, 43] (aj (aj (u2 (u2 (u2 (u2 (ag a10 (ag a10 (ag a10 (ag a11 (ag a11 (ag a11 (ag a11 (aj (aj a11 t3) (aj (aj a10 (aj a11 t2)) (ag a10 (aj a12 (aj a12 (aj a12 (aj a12 (aj a12 (aj a12 (ak (k5 (aj a12 (aj (aj a10 (aj a12 t2)) (al (aj a10 t2)))))))))))))))))))))))))) (ak (aj (u2 (u2 (u2 s2))) (al (u2 s2))))) t9))
   (fun a12 =>
   .br (fun a13 =>
    .gu fun a14 =>
    .el fun x81 a15 =>
    .rn 0 [123, 128, 142, 155] [(81, iv x81)] [] [] (al (u2 (u2 (u2 (u2 (ag a10 (ag a10 (ag a10 (ag a11 (ag a11 (ag a11 (ag a11 (aj (aj a11 t3) (aj (aj a10 (aj a11 t2)) (ag a10 (ag a12 (ag a12 (ag a12 (ag a12 (aj (aj a12 t3) (ag a12 (ag a13 (ag a13 (ag a13 (aj (aj a13 (k2 (aj a14 (getMap (f := iv) a15)))) (ag a13 (aj (aj a13 t3) (aj (aj a12 (aj a13 t2)) (aj (aj a10 (aj a12 t2)) (al (aj a10 t2))))))))))))))))))))))))))))))) <|
    .br (fun a16 =>
    .lp [123, 128, 142, 155, 173] [] [] [] [] [] [0, 1, 6, 8, 9, 41, 42, 43] (aj (aj a16 (aj (u2 (u2 (u2 s2))) (al (u2 s2)))) t9))
    (fun a16 =>
    .lp [123, 128, 142, 155, 172] [] [] [] [] [] [0, 1, 6, 8, 9, 41, 42, 43] (aj (aj a16 (al (u2 s2))) t9)))
   (fun a13 =>
    .lp [123, 128, 142, 154] [] [] [] [] [] [0, 1, 6, 8, 9, 41, 42, 43] (aj (aj (u2 (u2 (u2 (u2 (ag a10 (ag a10 (ag a10 (ag a11 (ag a11 (ag a11 (ag a11 (aj (aj a11 t3) (aj (aj a10 (aj a11 t2)) (ag a10 (ag a12 (ag a12 (ag a12 (ag a12 (aj (aj a12 t3) (ag a12 (aj a13 (aj a13 (aj a13 (aj a13 (aj a13 (aj a13 (aj (aj a12 (aj a13 t2)) (aj (aj a10 (aj a12 t2)) (al (aj a10 t2)))))))))))))))))))))))))))))) (ak (al (u2 s2)))) t9)))))
  (fun a10 =>
  .lp [122] [] [] [] [] [] [0, 1, 6, 8, 9, 41, 42, 43] (aj (aj (u2 (u2 (u2 (u2 (aj a10 (aj a10 (aj a10 (k5 (aj a10 (aj a10 (k3 (k5 (k5 (aj a10 (al (aj a10 t2)))))))))))))))) (ak (al (u2 s2)))) t9)))
 (fun a7 =>
  .no))
 (fun a0 =>
 .rn 0 [88] [] [] [] (aj a0 (al (u2 s2))) <|
 .br (fun a1 =>
  .rt [183] [] [] [] [] [] (aj (aj a1 (al t3)) (al t3)))
 (fun a1 =>
  .gu fun a2 =>
  .gu fun a3 =>
  .gu fun a4 =>
  .gu fun a5 =>
  .gu fun a6 =>
  .gu fun a7 =>
  have c0 := cct_c ([v0, List.take ((List.map (iv) (cycL g)).length - (IntKind.i64.wrap (v1 + 1)).toNat) (List.drop (IntKind.i64.wrap (v1 + 1)).toNat (cycL g)), List.take (v1.toNat - Int.toNat 0) (List.drop (Int.toNat 0) (cycL g))]) a7;
  .lp [182] [(100, AV.lst [])] [(101, hK c0 [] [])] [] [(14, 3)] [0] [8, 14, 103, 104] (aj (aj a1 (aj (u2 (u2 (u2 (u2 (aj (k2 (aj a2 (aj a3 (aj a4 (aj (show iN (List.map (iv) (cycL g)).length ≤ iN (List.map (iv) (cycL g)).length by omega) (show iN (List.map (iv) (cycL g)).length ≤ iN (List.map (iv) (cycL g)).length by omega)))))) (u2 (u2 (aj (k2 (aj a2 (aj (show (0 : Int) ≤ (0 : Int) from (by first | exact Nat.le_of_ble_eq_true rfl | decide)) (aj a5 (aj a6 (show iN (List.map (iv) (cycL g)).length ≤ iN (List.map (iv) (cycL g)).length by omega)))))) (aj t4 (aj (k2 (al (show CT Try.prog 66 [] [AV.lst [AV.lst (List.map (iv) v0), AV.lst (List.take ((List.map (iv) (cycL g)).length - (IntKind.i64.wrap (v1 + 1)).toNat) (List.drop (IntKind.i64.wrap (v1 + 1)).toNat (List.map (iv) (cycL g)))), AV.lst (List.take (v1.toNat - Int.toNat 0) (List.drop (Int.toNat 0) (List.map (iv) (cycL g))))]] [] (AV.lst (List.map (iv) [v0, List.take ((List.map (iv) (cycL g)).length - (IntKind.i64.wrap (v1 + 1)).toNat) (List.drop (IntKind.i64.wrap (v1 + 1)).toNat (cycL g)), List.take (v1.toNat - Int.toNat 0) (List.drop (Int.toNat 0) (cycL g))].flatten)) from CT.eqs (c0) (by simp [gL, boL, lI, mvA]) (by simp [gL, boL, lI, mvA])))) s2)))))))))) (u2 (al (u2 (u2 t2)))))) t6)))) (by kernel_rfl)
theorem tfiS1_ok (g : List (List Int)) (z : Int) (v0 : List Int) (v1 : List MvD) (v2 : Int) (o : tfiPc ⊕ Ret) (h : tfiS1 g z v0 v1 v2 = some o) : Arr Try.prog Try.f29 0 (tfiSt g z) tfiHd (headC Try.f29 1) (.rnd (headC Try.f29 1) :: headK Try.f29 1) (tfiSt g z (.l1 v0 v1 v2)) o :=
 Scr.ok h mix (
 .rn 0 [] [] [] [] (al (al t3)) <|
 .br (fun a0 =>
 .rn 1 [211] [] [] [] (aj a0 (aj (u2 s2) s2)) <|
 .gu fun a1 =>
 .gu fun a2 =>
 .gu fun a3 =>
 .lq [] [] [] [] [] [0] [8, 14, 15, 16, 103, 104, 112, 113, 114] (up [(112, AV.lst (List.take ((IntKind.i64.wrap (iN (List.map (iv) v0).length - v2)).toNat - Int.toNat 0) (List.drop (Int.toNat 0) (List.map (iv) v0))))] [] (tfiSt g z (.l2 (v0) (v1) (v2) ((-1 : Int)) (List.take ((IntKind.i64.wrap (iN (List.map (iv) v0).length - v2)).toNat - Int.toNat 0) (List.drop (Int.toNat 0) v0)) ((List.take ((IntKind.i64.wrap (iN (List.map (iv) v0).length - v2)).toNat - Int.toNat 0) (List.drop (Int.toNat 0) (List.map (iv) v0))).length) ((0 : Int))))) (aj (al (u2 (u2 (u2 (u2 (aj t3 (aj (k2 (aj a1 (aj (show (0 : Int) ≤ (0 : Int) from (by first | exact Nat.le_of_ble_eq_true rfl | decide)) (aj a2 (aj a3 (show iN (List.map (iv) v0).length ≤ iN (List.map (iv) v0).length by omega)))))) (u2 t2)))))))) (k2 t9)) (by simp [up, upF, upV, upH, upB, tfiSt, gL, boL, lI, mvA]))
 (fun a0 =>
 .rt [210] [] [] [] [] [0] (aj (aj a0 (al (u2 (u2 t2)))) (al (aj (show v1.length = (List.map mvA v1).length by simp) t2))))) (by kernel_rfl)
theorem tfiS2_ok (g : List (List Int)) (z : Int) (v0 : List Int) (v1 : List MvD) (v2 : Int) (v3 : Int) (v4 : List Int) (v5 : Nat) (v6 : Int) (o : tfiPc ⊕ Ret) (h : tfiS2 g z v0 v1 v2 v3 v4 v5 v6 = some o) : Arr Try.prog Try.f29 0 (tfiSt g z) tfiHd (headC Try.f29 2) (.rnd (headC Try.f29 2) :: headK Try.f29 2) (tfiSt g z (.l2 v0 v1 v2 v3 v4 v5 v6)) o :=
 Scr.ok h mix (
 .rn 0 [] [] [] [] (al (al t3)) <|
 .br (fun a0 =>
 .gu fun a1 =>
 .el fun x116 a2 =>
 .rn 0 [231] [(116, iv x116)] [] [] (aj a0 (al (aj (k2 (aj a1 (getMap (f := iv) a2))) (u2 s2)))) <|
 .gu fun a3 =>
 .gu fun a4 =>
 .lq [] [] [] [] [] [2] [8, 14, 15, 16, 103, 104, 112, 113, 114] (up [(14, AV.sl 0 0 ((List.map mvA v1).length + [AV.agg [iv v2, iv v3, iv x116]].length))] [(0, List.map mvA v1 ++ [AV.agg [iv v2, iv v3, iv x116]])] (tfiSt g z (.l2 (v0) (v1 ++ [MvD.mk v2 v3 x116]) (v2) (x116) (v4) (v5) (IntKind.i64.wrap (v6 + 1))))) (aj (aj (u2 (u2 (u2 (u2 (aj t4 (u2 (aj (k2 (aj (show (List.map mvA v1).length = v1.length by simp) (aj (aj (show nat_lit 3 = nat_lit 3 from rfl) (show 1 ≤ [AV.agg [iv v2, iv v3, iv x116]].length by simp)) (aj a3 a4)))) s2))))))) (aj (u2 s2) (al (u2 s2)))) (k2 t9)) (by simp [up, upF, upV, upH, upB, tfiSt, gL, boL, lI, mvA]))
 (fun a0 =>
 .lp [230] [] [] [] [] [0] [8, 14, 103, 104] (aj (aj a0 (al (u2 s2))) t6))) (by kernel_rfl)
theorem tfi_ct (g : List (List Int)) (z : Int) (r : Ret) (h : MReach (tfiStep g z) (tfiEn g z) r) : CT Try.prog 29 ([]) ([.lst (gL g), .int .i64 z]) r.1 r.2 :=
  CT.mach (fn := Try.f29) (c := bodyOf Try.f29) (S := tfiSt g z) (hd := tfiHd) Try.func29 (by kernel_rfl) (Nat.le_of_ble_eq_true rfl)
    (fun s o ho => match s, ho with
      | .l0 v0 v1 v2, ho => tfiS0_ok g z v0 v1 v2 o ho
      | .l1 v0 v1 v2, ho => tfiS1_ok g z v0 v1 v2 o ho
      | .l2 v0 v1 v2 v3 v4 v5 v6, ho => tfiS2_ok g z v0 v1 v2 v3 v4 v5 v6 o ho
    )
    (fun o ho => tfiEn_ok g z o ho) h
theorem girW_cls {g : List (List Int)} (hrw : Rows g) (hv : valZ g = true) (hne : girW g ≠ []) : OkG g (opn g) ∧ Asc g ∧ ClsP g (opn g) (girW g) ∧ (girW g).Nodup ∧ (girW g).length ≤ 24 := by
  have hc4 := valZ_chk hv
  obtain ⟨hg, has⟩ := chk4_ok hrw hc4
  have eg : girW g = girN g (opn g) g.length := by unfold girW girL; rw [if_pos hc4]
  rw [eg] at hne ⊢
  obtain ⟨h1, h2⟩ := girth_cls hg hne
  have hn := nd_take h2
  have := rng_len hn (n := g.length) fun x hx => ⟨(h1.2.1 x hx).1, (h1.2.1 x hx).2.1⟩
  have := hg.len
  exact ⟨hg, has, h1, hn, by omega⟩
theorem fill_way {g : List (List Int)} {v : Int} (hrw : Rows g) (hv : valZ g = true) (h0 : 0 ≤ v) (h1 : v < (g.length : Int)) :
    bstN (dsT g v) (girW g) (girW g).length = -1 ∨ ∃ b m : Nat, bstN (dsT g v) (girW g) (girW g).length = (b : Int) ∧ WayH g v (girW g) b m ∧ m ≤ 24 ∧ (girW g).length ≤ 24 := by
  rcases bstN_spec (dsT g v) (girW g) (girW g).length with ⟨e, h⟩ | ⟨b, hb, e, hd, hmn⟩
  · exact .inl e
  · have hne : girW g ≠ [] := fun e => by rw [e] at hb; simp at hb
    obtain ⟨hg, has, hc, hn, h24⟩ := girW_cls hrw hv hne
    obtain ⟨m, hm⟩ : ∃ m : Nat, dsT g v ((girW g).getD b 0) = (m : Int) := ⟨(dsT g v ((girW g).getD b 0)).toNat, by omega⟩
    have hW : WayH g v (girW g) b m := ⟨hg, h0, h1, hc, hn, hb, hm, hmn⟩
    have hbd := hW.dst.bnd v.toNat (by omega)
    have := hg.len
    exact .inr ⟨b, m, e, hW, by unfold dsT at hm; omega, h24⟩
theorem girW_rg {g : List (List Int)} (hrw : Rows g) (hv : valZ g = true) {i : Nat} (hi : i < (girW g).length) : 0 ≤ (girW g).getD i 0 ∧ (girW g).getD i 0 < (g.length : Int) := by
  have hne : girW g ≠ [] := fun e => by rw [e] at hi; simp at hi
  obtain ⟨_, _, hc, _, _⟩ := girW_cls hrw hv hne
  have := hc.2.1 _ (get_mem hi)
  exact ⟨this.1, this.2.1⟩
theorem girW_24 {g : List (List Int)} (hrw : Rows g) (hv : valZ g = true) : (girW g).length ≤ 24 := by
  by_cases hne : girW g = []
  · rw [hne]; simp
  · exact (girW_cls hrw hv hne).2.2.2.2
theorem dsT_bnd {g : List (List Int)} {v x : Int} (hrw : Rows g) (hv : valZ g = true) (h0 : 0 ≤ v) (h1 : v < (g.length : Int)) (h2 : 0 ≤ x) (h3 : x < (g.length : Int)) : -1 ≤ dsT g v x ∧ dsT g v x < 24 := by
  obtain ⟨hg, _⟩ := valZ_ok hrw hv
  have hD := dst_ok hg (goal := x.toNat) (by omega)
  have := hD.bnd v.toNat (by omega)
  have := hg.len
  unfold dsT
  omega
noncomputable def bstP (g : List (List Int)) (v : Int) (b : Int) : List Int := if b < 0 then [] else pthL g v ((girW g).getD b.toNat 0)
theorem fillN_mv {l : List Int} {i : Nat} : fillN l i ++ mvN i l (l.length - i) = fillN l (i + 1) := (fillN_succ l i).symm
theorem mv_step {k : Nat} {l : List Int} {j : Nat} {a x : Int} (ha : a = if j = 0 then -1 else l.getD (j - 1) 0) (hx : x = l.getD j 0) : mvN k l j ++ [MvD.mk (k : Int) a x] = mvN k l (j + 1) := by
  rw [mvN_succ, ha, hx]
theorem fillO_20 {g : List (List Int)} {v : Int} (h : valZ g = false) : fillO g v = ([], 20) := by unfold fillO; rw [if_pos h]
theorem fillO_19 {g : List (List Int)} {v : Int} (h : valZ g = true) (hr : v < 0 ∨ (g.length : Int) ≤ v) : fillO g v = ([], 19) := by unfold fillO; rw [if_neg (by rw [h]; simp), if_pos hr]
theorem fillO_25 {g : List (List Int)} {v : Int} (h : valZ g = true) (h0 : 0 ≤ v) (h1 : v < (g.length : Int)) (hb : bstN (dsT g v) (girW g) (girW g).length < 0) : fillO g v = ([], 25) := by unfold fillO; rw [if_neg (by rw [h]; simp), if_neg (by omega), if_pos hb]
theorem fillO_0 {g : List (List Int)} {v : Int} (h : valZ g = true) (h0 : 0 ≤ v) (h1 : v < (g.length : Int)) {b : Nat} (hb : bstN (dsT g v) (girW g) (girW g).length = (b : Int)) : fillO g v = (fillN (wayO g v (girW g) b) (girW g).length, 0) := by
  unfold fillO; rw [if_neg (by rw [h]; simp), if_neg (by omega), if_neg (by omega), hb]; rfl
theorem tfi_walk {g : List (List Int)} {z : Int} {l : List Int} (hc : cycL g = girW g) (hW : (girW g).length ≤ 24) (hl : l.length ≤ 100) (hWl : (girW g).length ≤ l.length) :
    MReach (tfiStep g z) (some (.inl (.l1 l [] 0))) ([], .tup [.lst ((fillN l (girW g).length).map mvA), .int .i64 0]) := by
  have hfl : ∀ i, i ≤ (girW g).length → (fillN l i).length ≤ 2400 := fun i hi => by
    have := fillN_len l i
    have := Nat.mul_le_mul (show i ≤ 24 by omega) hl
    omega
  refine loop_up (fun i => tfiPc.l1 l (fillN l i) (i : Int)) (girW g).length (fun i hi h => ?_) ?_
  · have hw : IntKind.i64.wrap (iN (List.map (AV.int IntKind.i64) l).length - (i : Int)) = ((l.length - i : Nat) : Int) := by
      rw [wrap_in] <;> simp only [iN, List.length_map] <;> omega
    have ht : List.take (((l.length - i : Nat) : Int).toNat - Int.toNat 0) (List.drop (Int.toNat 0) l) = l.take (l.length - i) := by rw [Int.toNat_natCast]; rfl
    have ht2 : (List.take (((l.length - i : Nat) : Int).toNat - Int.toNat 0) (List.drop (Int.toNat 0) (List.map (AV.int IntKind.i64) l))).length = l.length - i := by
      rw [Int.toNat_natCast]; show (List.take (l.length - i) (List.map (AV.int IntKind.i64) l)).length = _
      rw [List.length_take, List.length_map]; omega
    refine .to (show tfiS1 g z l (fillN l i) i = some (.inl (.l2 l (fillN l i ++ mvN i l 0) i (if (0 : Nat) = 0 then -1 else l.getD (0 - 1) 0) (l.take (l.length - i)) (l.length - i) ((0 : Nat) : Int))) from ?_) ?_
    · unfold tfiS1
      rw [hc, br_t (dec_t (by simp only [iN, List.length_map]; omega)), gu_t (fun e he => by obtain ⟨x, _, rfl⟩ := List.mem_map.1 he; rfl), hw, gu_t (by omega), gu_t (by simp only [iN, List.length_map]; omega), ht, ht2, if_pos rfl]
      show _ = some (Sum.inl (tfiPc.l2 l (fillN l i ++ []) _ _ _ _ _))
      rw [List.append_nil]; rfl
    refine loop_up (fun j => tfiPc.l2 l (fillN l i ++ mvN i l j) i (if j = 0 then -1 else l.getD (j - 1) 0) (l.take (l.length - i)) (l.length - i) (j : Int)) (l.length - i) (fun j hj h => ?_) ?_
    · refine .to (show tfiS2 g z l _ i _ _ _ j = _ from ?_) h
      unfold tfiS2
      have h1 := hfl i (by omega)
      have h2 := mvN_len i l j
      rw [br_t (dec_t (by simp only [iN]; omega)), gu_t (by omega), elG 0 (show j < (l.take (l.length - i)).length by rw [List.length_take]; omega), getD_takeZ hj, gu_t (by simp only [List.length_map, List.length_append, List.length_singleton]; omega), gu_t (by simp only [List.length_map, List.length_append, List.length_singleton]; omega), wrap_nat j (by omega), List.append_assoc, mv_step rfl rfl]
      rfl
    · refine .to (show tfiS2 g z l _ i _ _ _ (l.length - i : Nat) = _ from ?_) h
      unfold tfiS2
      rw [br_f (dec_f (by simp only [iN]; omega)), fillN_mv, wrap_nat i (by omega)]
  · refine .to (show tfiS1 g z l _ (girW g).length = _ from ?_) (.ret _)
    unfold tfiS1
    rw [hc, rngE]
theorem tfill_c (g : List (List Int)) (z : Int) (hrw : Rows g) : CT Try.prog 29 [] [.lst (gL g), .int .i64 z] [] (.tup [.lst ((fillO g z).1.map mvA), .int .i64 (fillO g z).2]) := by
  have hgl := gL_len g
  cases hv : valZ g with
  | false =>
    rw [fillO_20 hv]
    have e : cycE g = 20 := by unfold cycE; rw [hv]; rfl
    exact (tfi_ct g z ([], _) (.val (show tfiEn g z = _ by unfold tfiEn; rw [gu_t hrw, e, br_t (by rfl)]))).to rfl rfl
  | true =>
  have h24 := val24 hv
  have e20 : (cycE g == 20) = false := by unfold cycE; rw [hv, if_pos rfl]; split <;> rfl
  by_cases h0 : z < 0
  · rw [fillO_19 hv (.inl h0)]
    exact (tfi_ct g z ([], _) (.val (show tfiEn g z = _ by unfold tfiEn; rw [gu_t hrw, br_f e20, br_t (dec_t h0)]))).to rfl rfl
  by_cases h1 : (g.length : Int) ≤ z
  · rw [fillO_19 hv (.inr h1)]
    exact (tfi_ct g z ([], _) (.val (show tfiEn g z = _ by unfold tfiEn; rw [gu_t hrw, br_f e20, br_f (dec_f h0), br_t (dec_t (by simp only [iN, hgl]; exact h1))]))).to rfl rfl
  have h0 := Int.not_lt.1 h0
  have h1 := Int.not_le.1 h1
  by_cases hw : girW g = []
  · have e : cycE g = 25 := by unfold cycE; rw [hv, if_pos rfl, if_pos hw]
    rw [fillO_25 hv h0 h1 (by rw [hw]; show (-1 : Int) < 0; omega)]
    exact (tfi_ct g z ([], _) (.val (show tfiEn g z = _ by unfold tfiEn; rw [gu_t hrw, br_f e20, br_f (dec_f (by omega)), br_f (dec_f (by simp only [iN, hgl]; omega)), e, br_t (by rfl)]))).to rfl rfl
  have e0 : cycE g = 0 := by unfold cycE; rw [hv, if_pos rfl, if_neg hw]
  have hc : cycL g = girW g := by unfold cycL; rw [hv, if_pos rfl]
  have hW24 := girW_24 hrw hv
  have hen : tfiEn g z = some (.inl (.l0 (bstP g z (bstN (dsT g z) (girW g) 0)) (bstN (dsT g z) (girW g) 0) ((0 : Nat) : Int))) := by
    unfold tfiEn; rw [gu_t hrw, br_f e20, br_f (dec_f (by omega)), br_f (dec_f (by simp only [iN, hgl]; omega)), e0, br_f (by rfl)]; rfl
  have hbl : ∀ i, i ≤ (girW g).length → bstN (dsT g z) (girW g) i = -1 ∨ ∃ b : Nat, b < i ∧ bstN (dsT g z) (girW g) i = (b : Int) ∧ 0 ≤ dsT g z ((girW g).getD b 0) := fun i hi => by
    rcases bstN_spec (dsT g z) (girW g) i with ⟨e, _⟩ | ⟨b, hb, e, hd, _⟩
    · exact .inl e
    · exact .inr ⟨b, hb, e, hd⟩
  have hloop : ∀ r, MReach (tfiStep g z) (some (.inl (.l0 (bstP g z (bstN (dsT g z) (girW g) (girW g).length)) (bstN (dsT g z) (girW g) (girW g).length) ((girW g).length : Int)))) r → MReach (tfiStep g z) (tfiEn g z) r := by
    intro r hr
    rw [hen]
    refine loop_up (fun i => tfiPc.l0 (bstP g z (bstN (dsT g z) (girW g) i)) (bstN (dsT g z) (girW g) i) (i : Int)) (girW g).length (fun i hi h => ?_) hr
    refine .to (show tfiS0 g z _ _ i = _ from ?_) h
    have hx := girW_rg hrw hv hi
    have hd := dsT_bnd hrw hv h0 h1 hx.1 hx.2
    unfold tfiS0
    rw [hc, rngG 0 hi, gu_t (by simp only [iN]; omega), gu_t (by simp only [iN]; omega), gu_t hrw, gu_t hgl, hv, br_t rfl, gu_t ⟨h0, by simp only [iN]; exact h1⟩, gu_t ⟨hx.1, by simp only [iN]; exact hx.2⟩, wrap_nat i (by omega)]
    have hstep : bstN (dsT g z) (girW g) (i + 1) = bstF (dsT g z) (girW g) (bstN (dsT g z) (girW g) i) i := rfl
    rw [hstep]
    unfold bstF
    have take : bstP g z (i : Int) = pthL g z ((girW g).getD i 0) := by unfold bstP; rw [if_neg (by omega), Int.toNat_natCast]
    by_cases hp : 0 ≤ dsT g z ((girW g).getD i 0)
    · have hpl := pthL_len hp
      have hpi : iN (List.map (AV.int IntKind.i64) (pthL g z ((girW g).getD i 0))).length = dsT g z ((girW g).getD i 0) + 1 := by simp only [iN, List.length_map, hpl]; omega
      rw [hpi, br_t (dec_t (by omega))]
      rcases hbl i (by omega) with e | ⟨b, hb, e, hbd⟩
      · rw [e, br_t (by rfl), if_pos ⟨hp, .inl (by omega)⟩, take]
      · have hbl2 := pthL_len hbd
        have hbi : iN (List.map (AV.int IntKind.i64) (bstP g z (b : Int))).length = dsT g z ((girW g).getD b 0) + 1 := by unfold bstP; rw [if_neg (by omega), Int.toNat_natCast]; simp only [iN, List.length_map, hbl2]; omega
        rw [e, hbi, br_f (dec_f (by omega))]
        by_cases c1 : dsT g z ((girW g).getD i 0) < dsT g z ((girW g).getD b 0)
        · rw [br_t (dec_t (by omega)), if_pos ⟨hp, .inr (.inl (by rw [Int.toNat_natCast]; exact c1))⟩, take]
        · rw [br_f (dec_f (by omega))]
          by_cases c2 : dsT g z ((girW g).getD i 0) = dsT g z ((girW g).getD b 0)
          · rw [br_t (by rw [beq_iff_eq, c2]), gu_t (by omega), elG 0 (show b < (girW g).length by omega)]
            by_cases c3 : (girW g).getD i 0 < (girW g).getD b 0
            · rw [br_t (dec_t c3), if_pos ⟨hp, .inr (.inr ⟨by rw [Int.toNat_natCast]; exact c2, by rw [Int.toNat_natCast]; exact c3⟩)⟩, take]
            · rw [br_f (dec_f c3), if_neg (by rw [Int.toNat_natCast]; rintro ⟨_, h | h | h⟩ <;> omega)]
          · rw [br_f (by rw [beq_eq_false_iff_ne]; omega), if_neg (by rw [Int.toNat_natCast]; rintro ⟨_, h | h | h⟩ <;> omega)]
    · rw [pthL_nil (Int.not_le.1 hp), br_f (by rfl), if_neg (fun e => hp e.1)]
  rcases fill_way hrw hv h0 h1 with e | ⟨b, m, e, hH, hm, _⟩
  · rw [fillO_25 hv h0 h1 (by omega)]
    refine (tfi_ct g z ([], .tup [.nils, .int .i64 25]) (hloop _ ?_)).to rfl rfl
    rw [e]
    refine .to (show tfiS0 g z _ (-1) (girW g).length = _ from ?_) (.ret _)
    unfold tfiS0
    rw [hc, rngE, br_t (by rfl)]
  · rw [fillO_0 hv h0 h1 e]
    refine tfi_ct g z ([], _) (hloop _ ?_)
    rw [e]
    have hbW := hH.hb
    have hpm : 0 ≤ dsT g z ((girW g).getD b 0) := by rw [hH.hm]; omega
    have hbP : bstP g z (b : Int) = wkL g (distL g (opn g) ((girW g).getD b 0).toNat g.length) z.toNat (dsT g z ((girW g).getD b 0)).toNat := by
      unfold bstP pthL; rw [if_neg (by omega), Int.toNat_natCast, if_neg (by omega)]
    have hw1 : IntKind.i64.wrap ((b : Int) + 1) = ((b + 1 : Nat) : Int) := wrap_nat b (by omega)
    have hfl : [bstP g z (b : Int), List.take ((List.map (AV.int IntKind.i64) (girW g)).length - ((b + 1 : Nat) : Int).toNat) (List.drop ((b + 1 : Nat) : Int).toNat (girW g)), List.take ((b : Int).toNat - Int.toNat 0) (List.drop (Int.toNat 0) (girW g))].flatten = wayO g z (girW g) b := by
      rw [Int.toNat_natCast, Int.toNat_natCast, List.length_map, List.take_of_length_le (by rw [List.length_drop]; exact Nat.le_refl _), hbP]
      unfold wayO
      simp
    have hlen := hH.len
    have hrl : ∀ r ∈ [bstP g z (b : Int), List.take ((List.map (AV.int IntKind.i64) (girW g)).length - ((b + 1 : Nat) : Int).toNat) (List.drop ((b + 1 : Nat) : Int).toNat (girW g)), List.take ((b : Int).toNat - Int.toNat 0) (List.drop (Int.toNat 0) (girW g))], r.length ≤ 1000000 := fun r hr => by
      simp only [List.mem_cons, List.not_mem_nil, or_false] at hr
      rcases hr with rfl | rfl | rfl
      · rw [hbP, wkL_len, hH.hm]; omega
      · simp only [List.length_take, List.length_drop]; omega
      · simp only [List.length_take, List.length_drop]; omega
    refine .to (show tfiS0 g z _ (b : Int) (girW g).length = some (.inl (.l1 (wayO g z (girW g) b) [] 0)) from ?_) (tfi_walk hc hW24 (by omega) (by omega))
    unfold tfiS0
    rw [hc, rngE, br_f (dec_f (by omega)), gu_t (fun e he => by obtain ⟨x, _, rfl⟩ := List.mem_map.1 he; rfl), hw1, gu_t (by omega), gu_t (by simp only [iN, List.length_map]; omega), gu_t (by omega), gu_t (by simp only [iN, List.length_map]; omega), gu_t ⟨by simp, hrl⟩, hfl]
def kg3 : List (List Int) := [[1], [2], [0]]
def km3 : List MvD := [⟨0, -1, 0⟩, ⟨0, 0, 1⟩, ⟨0, 1, 2⟩, ⟨1, -1, 0⟩, ⟨1, 0, 1⟩, ⟨2, -1, 0⟩]
theorem kg3_rows : Rows kg3 := fun v hv => by
  match v, hv with
  | 0, _ => decide
  | 1, _ => decide
  | 2, _ => decide
theorem kg3_fre : freL kg3 [0, 1] [1, 2] = [1] := by decide +kernel
theorem kg3_freE : freE kg3 [0, 1] [1, 2] = 0 := by decide +kernel
theorem kg3_stk : stkB kg3 [0, 1, 2] [1, 2, 0] = true := by decide +kernel
theorem kg3_fill : fillO kg3 0 = (km3, 0) := by decide +kernel
theorem kg3_rep : repO kg3 km3 = ([2, 1, 0], 0) := by decide +kernel
theorem kfree_c : CT Try.prog 19 [] [.lst [.lst [.int .i64 1], .lst [.int .i64 2], .lst [.int .i64 0]], .lst [.int .i64 0, .int .i64 1], .lst [.int .i64 1, .int .i64 2]] [] (.tup [.lst [.int .i64 1], .int .i64 0]) := by
  have := tfree_c kg3 [0, 1] [1, 2] kg3_rows
  rw [kg3_fre, kg3_freE] at this
  exact this
theorem kfill_c : CT Try.prog 29 [] [.lst [.lst [.int .i64 1], .lst [.int .i64 2], .lst [.int .i64 0]], .int .i64 0] [] (.tup [.lst [.agg [.int .i64 0, .int .i64 (-1), .int .i64 0], .agg [.int .i64 0, .int .i64 0, .int .i64 1], .agg [.int .i64 0, .int .i64 1, .int .i64 2], .agg [.int .i64 1, .int .i64 (-1), .int .i64 0], .agg [.int .i64 1, .int .i64 0, .int .i64 1], .agg [.int .i64 2, .int .i64 (-1), .int .i64 0]], .int .i64 0]) := by
  have := tfill_c kg3 0 kg3_rows
  rw [kg3_fill] at this
  exact this
theorem krep_c : CT Try.prog 23 [] [.lst [.lst [.int .i64 1], .lst [.int .i64 2], .lst [.int .i64 0]], .lst [.agg [.int .i64 0, .int .i64 (-1), .int .i64 0], .agg [.int .i64 0, .int .i64 0, .int .i64 1], .agg [.int .i64 0, .int .i64 1, .int .i64 2], .agg [.int .i64 1, .int .i64 (-1), .int .i64 0], .agg [.int .i64 1, .int .i64 0, .int .i64 1], .agg [.int .i64 2, .int .i64 (-1), .int .i64 0]]]
    [some (Blk.mk [.int .i64 2, .int .i64 1, .int .i64 0] 1 true true none)] (.tup [.sl 0 0 3, .int .i64 0]) := by
  have := treplay_c kg3 km3 kg3_rows
  rw [kg3_rep] at this
  exact this
theorem kstk_c : CT Try.prog 20 [] [.lst [.lst [.int .i64 1], .lst [.int .i64 2], .lst [.int .i64 0]], .lst [.int .i64 0, .int .i64 1, .int .i64 2], .lst [.int .i64 1, .int .i64 2, .int .i64 0]] [] (.bool true) := by
  have := tst_c kg3 [0, 1, 2] [1, 2, 0] kg3_rows
  rw [kg3_stk] at this
  exact this
theorem ksin_c : CT Try.prog 25 [] [.lst [.int .i64 1], .lst [.int .i64 1]] [] (.bool true) := sameInts_ct [1] (by decide)
theorem ksin3_c : CT Try.prog 25 [] [.lst [.int .i64 2, .int .i64 1, .int .i64 0], .lst [.int .i64 2, .int .i64 1, .int .i64 0]] [] (.bool true) := sameInts_ct [2, 1, 0] (by decide)
noncomputable def knwSt : Empty → St
  | x => x.elim
def knwHd : Empty → Nat
  | x => x.elim
noncomputable def knwEn : Option (Empty ⊕ Ret) :=
  some (.inr ([], AV.bool true))
noncomputable def knwStep : Empty → Option (Empty ⊕ Ret)
  | x => x.elim
theorem knwEn_ok (o : Empty ⊕ Ret) (h : knwEn = some o) : Arr Try.prog Try.f15 0 (knwSt) knwHd (bodyOf Try.f15) [] { n := Try.f15.ntmps, fr := enumF 0 ([]), hp := ([]) } o :=
 Scr.ok h mix (
 have c0 := kfree_c;
 have c1 := kfill_c;
 have c2 := krep_c;
 have c3 := ksin_c;
 have c4 := ksin3_c;
 have c5 := kstk_c;
 .rt [] [(8, AV.lst []), (9, AV.lst []), (10, AV.lst []), (11, AV.lst []), (14, AV.lst []), (15, AV.lst []), (42, AV.lst []), (59, AV.lst []), (64, AV.lst []), (65, AV.lst [])] [(16, hK c0 [] []), (21, hK c1 [] []), (27, hK c2 [] []), (43, hK c3 [] []), (60, hK c4 [] [0]), (66, hK c5 [] [])] [] [] [] (aj (u2 (aj (k3 (aj t4 s2)) (aj (u2 (k2 (aj (ak (k5 (al (c0)))) (u2 (u2 (u2 (u2 s2))))))) (aj (u2 (aj (k3 (al (c1))) (u2 (u2 (u2 (u2 s2)))))) (aj (u2 (u2 (aj (ak (k3 (al (c2)))) (u2 (u2 (u2 (u2 s2))))))) (al (u2 (u2 (u2 (aj t3 (aj t3 (aj t3 (u2 (aj t3 (aj t3 (aj t3 (u2 (aj t3 (u2 (aj (k5 (al (c3))) (aj t3 (u2 (aj t3 (aj t3 (aj t3 (aj t3 (u2 (aj t3 (aj (k2 (show Int.NonNeg (1 : Int) from (by first | decide | exact Int.NonNeg.mk _))) (aj t3 (u2 (aj t4 (aj t3 (u2 (aj t3 (u2 (aj (k3 (aj (show nat_lit 3 = nat_lit 3 from rfl) (ak (aj (c4) (show ∀ (blk : Blk), blk ∈ [] → ImmB blk from (by intro _ h; cases h)))))) (aj t3 (u2 (aj t3 (u2 (u2 (aj (k2 (k5 (al (c5)))) (aj t3 s2)))))))))))))))))))))))))))))))))))))))))))) t2)) (by kernel_rfl)
theorem knw_ct (r : Ret) (h : MReach (knwStep) (knwEn) r) : CT Try.prog 15 ([]) ([]) r.1 r.2 :=
  CT.mach (fn := Try.f15) (c := bodyOf Try.f15) (S := knwSt) (hd := knwHd) Try.func15 (by kernel_rfl) (Nat.le_of_ble_eq_true rfl)
    (fun s o ho => match s, ho with
      | x, _ => x.elim)
    (fun o ho => knwEn_ok o ho) h
theorem known_c : CT Try.prog 15 [] [] [] (.bool true) := knw_ct ([], _) (.ret _)
theorem rdIntsT {n : Nat} {es : List AV} (h : ∀ x ∈ es, ShV Try.prog n 3 x) : ∃ L : List Int, es = L.map (AV.int .i64) := by
  induction es with
  | nil => exact ⟨[], rfl⟩
  | cons x es ih =>
    obtain ⟨L, rfl⟩ := ih fun y hy => h y (List.mem_cons_of_mem _ hy)
    obtain ⟨i, _, rfl⟩ := (h x (by simp)).intD Try.underlying3
    exact ⟨i :: L, rfl⟩
inductive movPc where
  | l0 (v0 : List MvD) (v1 : List Int) (v2 : Int) (v3 : Nat)
noncomputable def movSt (l : List Int) (c : Int) : movPc → St
  | .l0 v0 v1 v2 v3 => St.mk 133 [(1, iv c), (5, AV.ptr 0 0 0), (6, AV.lst (gL (graM l 0 8))), (7, AV.sl 1 0 v0.length), (8, AV.sl 2 0 v1.length), (9, iv v2)] [some (tapeB l v3), some (Blk.mk (List.map mvA v0) 3 true true none), some (Blk.mk (List.map (iv) v1) 1 true true none)]
def movHd : movPc → Nat
  | .l0 _ _ _ _ => 0
noncomputable def movEn (l : List Int) (c : Int) : Option (movPc ⊕ Ret) :=
  gu (graK l 0 8 < 9223372036854775807) <|
  some (.inl (.l0 ([]) ([]) (nextZ l (graK l 0 8) 30) (graK l 0 8 + 1)))
noncomputable def movS0 (l : List Int) (c : Int) (v0 : List MvD) (v1 : List Int) (v2 : Int) (v3 : Nat) : Option (movPc ⊕ Ret) :=
  br (decide (0 < v2))
  (br (decide (0 < iN (gL (graM l 0 8)).length))
   (gu (v3 < 9223372036854775807) <|
    br (decide (0 < iN v1.length))
    (gu (v3 + 1 < 9223372036854775807) <|
     br (decide (0 < nextZ l (v3 + 1) 3))
     (gu (v3 + 1 + 1 < 9223372036854775807) <|
      gu (0 ≤ nextZ l (v3 + 1 + 1) (iN v1.length)) <|
      gu (nextZ l (v3 + 1 + 1) (iN v1.length) < iN v1.length) <|
      el (v1) (0 + (nextZ l (v3 + 1 + 1) (iN v1.length)).toNat) fun (x57 : Int) =>
      gu (0 ≤ x57) <|
      el (graM l 0 8) (x57.toNat) fun (x62 : List Int) =>
      br (iN (List.map (AV.int IntKind.i64) x62).length == 0)
      (some (.inl (.l0 (v0) (v1) (IntKind.i64.wrap (v2 - 1)) (v3 + 1 + 1 + 1))))
      (el (graM l 0 8) (x57.toNat) fun (x69 : List Int) =>
       el (graM l 0 8) (x57.toNat) fun (x75 : List Int) =>
       gu (v3 + 1 + 1 + 1 < 9223372036854775807) <|
       gu (0 ≤ nextZ l (v3 + 1 + 1 + 1) (iN (List.map (AV.int IntKind.i64) x75).length)) <|
       el (x69) ((nextZ l (v3 + 1 + 1 + 1) (iN (List.map (AV.int IntKind.i64) x75).length)).toNat) fun (x79 : Int) =>
       gu (v1.length ≤ 1000000) <|
       br (hasZ v1 x79)
       (some (.inl (.l0 (v0) (v1) (IntKind.i64.wrap (v2 - 1)) (v3 + 1 + 1 + 1 + 1))))
       (gu ((List.map mvA v0).length + [AV.agg [AV.int IntKind.i64 (nextZ l (v3 + 1 + 1) (iN v1.length)), AV.int IntKind.i64 x57, AV.int IntKind.i64 x79]].length ≤ 9223372036854775807) <|
        gu (((List.map mvA v0).length + [AV.agg [AV.int IntKind.i64 (nextZ l (v3 + 1 + 1) (iN v1.length)), AV.int IntKind.i64 x57, AV.int IntKind.i64 x79]].length) * 24 ≤ 140737488355328) <|
        br (decide (x57 < 0))
        (gu ((List.map (AV.int IntKind.i64) v1).length + [AV.int IntKind.i64 x79].length ≤ 9223372036854775807) <|
         gu (((List.map (AV.int IntKind.i64) v1).length + [AV.int IntKind.i64 x79].length) * 8 ≤ 140737488355328) <|
         some (.inl (.l0 (v0 ++ [MvD.mk (nextZ l (v3 + 1 + 1) (iN v1.length)) x57 x79]) (v1 ++ [x79]) (IntKind.i64.wrap (v2 - 1)) (v3 + 1 + 1 + 1 + 1))))
        (gu ((0 + (nextZ l (v3 + 1 + 1) (iN v1.length)).toNat).succ.le (List.map (AV.int IntKind.i64) v1).length) <|
         some (.inl (.l0 (v0 ++ [MvD.mk (nextZ l (v3 + 1 + 1) (iN v1.length)) x57 x79]) (v1.set (0 + (nextZ l (v3 + 1 + 1) (iN v1.length)).toNat) x79) (IntKind.i64.wrap (v2 - 1)) (v3 + 1 + 1 + 1 + 1)))))))
     (gu (v1.length ≤ 1000000) <|
      br (hasZ v1 (nextZ l v3 (iN (gL (graM l 0 8)).length)))
      (some (.inl (.l0 (v0) (v1) (IntKind.i64.wrap (v2 - 1)) (v3 + 1 + 1))))
      (gu ((List.map mvA v0).length + [AV.agg [AV.int IntKind.i64 (iN v1.length), AV.int IntKind.i64 (-1), AV.int IntKind.i64 (nextZ l v3 (iN (gL (graM l 0 8)).length))]].length ≤ 9223372036854775807) <|
       gu (((List.map mvA v0).length + [AV.agg [AV.int IntKind.i64 (iN v1.length), AV.int IntKind.i64 (-1), AV.int IntKind.i64 (nextZ l v3 (iN (gL (graM l 0 8)).length))]].length) * 24 ≤ 140737488355328) <|
       gu ((List.map (AV.int IntKind.i64) v1).length + [AV.int IntKind.i64 (nextZ l v3 (iN (gL (graM l 0 8)).length))].length ≤ 9223372036854775807) <|
       gu (((List.map (AV.int IntKind.i64) v1).length + [AV.int IntKind.i64 (nextZ l v3 (iN (gL (graM l 0 8)).length))].length) * 8 ≤ 140737488355328) <|
       some (.inl (.l0 (v0 ++ [MvD.mk (iN v1.length) (-1) (nextZ l v3 (iN (gL (graM l 0 8)).length))]) (v1 ++ [nextZ l v3 (iN (gL (graM l 0 8)).length)]) (IntKind.i64.wrap (v2 - 1)) (v3 + 1 + 1))))))
    (gu (v1.length ≤ 1000000) <|
     br (hasZ v1 (nextZ l v3 (iN (gL (graM l 0 8)).length)))
     (some (.inl (.l0 (v0) (v1) (IntKind.i64.wrap (v2 - 1)) (v3 + 1))))
     (gu ((List.map mvA v0).length + [AV.agg [AV.int IntKind.i64 (iN v1.length), AV.int IntKind.i64 (-1), AV.int IntKind.i64 (nextZ l v3 (iN (gL (graM l 0 8)).length))]].length ≤ 9223372036854775807) <|
      gu (((List.map mvA v0).length + [AV.agg [AV.int IntKind.i64 (iN v1.length), AV.int IntKind.i64 (-1), AV.int IntKind.i64 (nextZ l v3 (iN (gL (graM l 0 8)).length))]].length) * 24 ≤ 140737488355328) <|
      gu ((List.map (AV.int IntKind.i64) v1).length + [AV.int IntKind.i64 (nextZ l v3 (iN (gL (graM l 0 8)).length))].length ≤ 9223372036854775807) <|
      gu (((List.map (AV.int IntKind.i64) v1).length + [AV.int IntKind.i64 (nextZ l v3 (iN (gL (graM l 0 8)).length))].length) * 8 ≤ 140737488355328) <|
      some (.inl (.l0 (v0 ++ [MvD.mk (iN v1.length) (-1) (nextZ l v3 (iN (gL (graM l 0 8)).length))]) (v1 ++ [nextZ l v3 (iN (gL (graM l 0 8)).length)]) (IntKind.i64.wrap (v2 - 1)) (v3 + 1))))))
   (gu (Rows (graM l 0 8)) <|
    gu (∀ (blk : Blk), blk ∈ [Blk.mk (List.map (AV.int IntKind.i64) (repO (graM l 0 8) v0).fst) 1 true true none] → ImmB blk) <|
    gu (0 ≤ cutZ c (IntKind.i64.wrap (iN v0.length + 1))) <|
    gu (cutZ c (IntKind.i64.wrap (iN v0.length + 1)) ≤ iN v0.length) <|
    gu (0 + ((cutZ c (IntKind.i64.wrap (iN v0.length + 1))).toNat - Int.toNat 0) ≤ (List.map mvA v0).length) <|
    gu (∀ (blk : Blk), blk ∈ [Blk.mk (List.map (AV.int IntKind.i64) (repO (graM l 0 8) (List.take ((cutZ c (IntKind.i64.wrap (iN v0.length + 1))).toNat - Int.toNat 0) (List.drop 0 v0))).fst) 1 true true none] → ImmB blk) <|
    br ((repO (graM l 0 8) v0).snd == 0)
    (br ((repO (graM l 0 8) (List.take ((cutZ c (IntKind.i64.wrap (iN v0.length + 1))).toNat - Int.toNat 0) (List.drop 0 v0))).snd == 0)
     (gu ((repO (graM l 0 8) v0).fst.length ≤ 1000000) <|
      some (.inr ([], AV.bool (decide ((repO (graM l 0 8) v0).fst = v1)))))
     (some (.inr ([], AV.bool false))))
    (some (.inr ([], AV.bool false)))))
  (gu (Rows (graM l 0 8)) <|
   gu (∀ (blk : Blk), blk ∈ [Blk.mk (List.map (AV.int IntKind.i64) (repO (graM l 0 8) v0).fst) 1 true true none] → ImmB blk) <|
   gu (0 ≤ cutZ c (IntKind.i64.wrap (iN v0.length + 1))) <|
   gu (cutZ c (IntKind.i64.wrap (iN v0.length + 1)) ≤ iN v0.length) <|
   gu (0 + ((cutZ c (IntKind.i64.wrap (iN v0.length + 1))).toNat - Int.toNat 0) ≤ (List.map mvA v0).length) <|
   gu (∀ (blk : Blk), blk ∈ [Blk.mk (List.map (AV.int IntKind.i64) (repO (graM l 0 8) (List.take ((cutZ c (IntKind.i64.wrap (iN v0.length + 1))).toNat - Int.toNat 0) (List.drop 0 v0))).fst) 1 true true none] → ImmB blk) <|
   br ((repO (graM l 0 8) v0).snd == 0)
   (br ((repO (graM l 0 8) (List.take ((cutZ c (IntKind.i64.wrap (iN v0.length + 1))).toNat - Int.toNat 0) (List.drop 0 v0))).snd == 0)
    (gu ((repO (graM l 0 8) v0).fst.length ≤ 1000000) <|
     some (.inr ([], AV.bool (decide ((repO (graM l 0 8) v0).fst = v1)))))
    (some (.inr ([], AV.bool false))))
   (some (.inr ([], AV.bool false))))
noncomputable def movStep (l : List Int) (c : Int) : movPc → Option (movPc ⊕ Ret)
  | .l0 v0 v1 v2 v3 => movS0 l c v0 v1 v2 v3
theorem movEn_ok (l : List Int) (c : Int) (o : movPc ⊕ Ret) (h : movEn l c = some o) : Arr Try.prog Try.f4 0 (movSt l c) movHd (bodyOf Try.f4) [] { n := Try.f4.ntmps, fr := enumF 0 ([lI l, .int .i64 c]), hp := ([]) } o :=
 Scr.ok h mix (
 have c0 := known_c;
 have c1 := graph_c (l) (0) (8) (show nat_lit 0 ≤ (100000 : Nat) from (by first | exact Nat.le_of_ble_eq_true rfl | decide)) (show (0 : Int) ≤ (8 : Int) ∧ (8 : Int) ≤ (20 : Int) from ⟨(by first | exact Nat.le_of_ble_eq_true rfl | decide), (by first | exact Nat.le_of_ble_eq_true rfl | decide)⟩);
 .rn 5 [] [] [(15, hK c0 [] []), (21, hK c1 [0] [])] [] (u2 (aj (aj (al (c0)) s2) (ak (aj (u2 (u2 (u2 s2))) (aj (u2 (aj (ak (k3 (al (c1)))) s2)) (u2 s2)))))) <|
 .gu fun a0 =>
 have c2 := next_ct (l) (graK l 0 8) (30) a0;
 .lp [] [] [(23, hK c2 [0] [])] [] [(8, 1), (7, 3)] [0, 2, 1] [1, 5, 6, 7, 8, 9] (aj (al (u2 (aj (ak (k3 (al (c2)))) s2))) (ak t9))) (by kernel_rfl)
theorem movS0_ok (l : List Int) (c : Int) (v0 : List MvD) (v1 : List Int) (v2 : Int) (v3 : Nat) (o : movPc ⊕ Ret) (h : movS0 l c v0 v1 v2 v3 = some o) : Arr Try.prog Try.f4 0 (movSt l c) movHd (headC Try.f4 0) (.rnd (headC Try.f4 0) :: headK Try.f4 0) (movSt l c (.l0 v0 v1 v2 v3)) o :=
 Scr.ok h mix (
 .br (fun a0 =>
 .rn 0 [53] [] [] [] (al (u2 (u2 (u2 (ag a0 (ag a0 (ag a0 (al (aj a0 t2))))))))) <|
 .br (fun a1 =>
  .gu fun a2 =>
  have c0 := next_ct (l) (v3) (iN (gL (graM l 0 8)).length) a2;
  .rn 0 [53, 61] [] [(38, hK c0 [0] [])] [] (aj a1 (al (u2 (u2 (u2 (u2 (u2 (aj (k5 (al (c0))) (aj t3 (ak (al (k2 n11)))))))))))) <|
  .br (fun a3 =>
  .gu fun a4 =>
  have c1 := next_ct (l) (v3 + 1) (3) a4;
  .rn 0 [53, 87] [] [(45, hK c1 [0] [])] [] (al (u2 (u2 (u2 (u2 (ag a3 (aj (aj a3 (ak (k3 (al (c1))))) (ag a3 (al (aj a3 t2)))))))))) <|
  .br (fun a5 =>
   .gu fun a6 =>
   have c2 := next_ct (l) (v3 + 1 + 1) (iN v1.length) a6;
   .rn 0 [53, 87, 95] [] [(51, hK c2 [0] [])] [] (aj a5 (al (u2 (u2 (u2 (aj (k5 (al (c2))) (u2 (al t3)))))))) <|
   .gu fun a7 =>
   .gu fun a8 =>
   .el fun x57 a9 =>
   .rn 0 [53, 87] [(57, iv x57)] [] [] (al (u2 (u2 (u2 (aj (k2 (aj a7 a8)) (aj (ak (getMap (f := iv) a9)) (u2 (al t3)))))))) <|
   .gu fun a10 =>
   .el fun x62 a11 =>
   .rn 0 [53, 87] [(62, lI x62)] [] [] (al (u2 (u2 (u2 (aj (k2 (aj a10 (getMap (f := lI) a11))) (u2 (u2 s2))))))) <|
   .br (fun a12 =>
   .lp [53, 87, 131] [] [] [] [] [0, 1, 2] [1, 5, 6, 7, 8, 9] (aj (aj a12 (al (u2 (u2 s2)))) (ak t9)))
   (fun a12 =>
   .el fun x69 a13 =>
   .el fun x75 a14 =>
   .gu fun a15 =>
   .gu fun a16 =>
   .el fun x79 a17 =>
   have c3 := next_ct (l) (v3 + 1 + 1 + 1) (iN (List.map (iv) x75).length) a15;
   .rn 0 [53, 87, 130] [(69, lI x69), (75, lI x75), (79, iv x79)] [(78, hK c3 [0] [])] [] (aj a12 (al (u2 (u2 (u2 (aj (k2 (aj a10 (getMap (f := lI) a13))) (u2 (u2 (u2 (u2 (u2 (aj (k2 (aj a10 (getMap (f := lI) a14))) (u2 (u2 (aj (k5 (al (c3))) (aj (k2 (aj a16 (getMap (f := iv) a17))) (u2 (u2 (al t3))))))))))))))))))) <|
   .gu fun a18 =>
   have c4 := has_ct (v1) (x79) a18;
   .rn 0 [53, 87] [] [(85, hK c4 [] [2])] [] (al (u2 (u2 (u2 (al (k2 (aj (show v1.length = (List.map (iv) v1).length by simp) (ak (aj (c4) (show ∀ (blk : Blk), blk ∈ [] → ImmB blk from (by intro _ h; cases h))))))))))) <|
   .br (fun a19 =>
    .lp [53, 87, 171] [] [] [] [] [0, 1, 2] [1, 5, 6, 7, 8, 9] (aj (aj a19 (al (u2 (u2 s2)))) (ak t9)))
   (fun a19 =>
    .gu fun a20 =>
    .gu fun a21 =>
    .rn 1 [53, 87, 170] [] [] [] (aj a19 (aj (u2 (u2 (u2 (aj (k2 (aj (show (List.map mvA v0).length = v0.length by simp) (aj (aj (show nat_lit 3 = nat_lit 3 from rfl) (show 1 ≤ [AV.agg [iv (nextZ l (v3 + 1 + 1) (iN v1.length)), iv x57, iv x79]].length by simp)) (aj a20 a21)))) s2)))) (al (u2 (u2 s2))))) <|
    .br (fun a22 =>
    .gu fun a23 =>
    .gu fun a24 =>
    .lq [53, 87, 185] [] [] [] [] [0, 5, 7] [1, 5, 6, 7, 8, 9] (up [(7, AV.sl 1 0 ((List.map mvA v0).length + [AV.agg [iv (nextZ l (v3 + 1 + 1) (iN v1.length)), iv x57, iv x79]].length)), (8, AV.sl 2 0 ((List.map (iv) v1).length + [iv x79].length))] [(1, List.map mvA v0 ++ [AV.agg [iv (nextZ l (v3 + 1 + 1) (iN v1.length)), iv x57, iv x79]]), (2, List.map (iv) v1 ++ [iv x79])] (movSt l c (.l0 (v0 ++ [MvD.mk (nextZ l (v3 + 1 + 1) (iN v1.length)) x57 x79]) (v1 ++ [x79]) (IntKind.i64.wrap (v2 - 1)) (v3 + 1 + 1 + 1 + 1)))) (aj (aj a22 (aj (u2 (u2 (u2 (u2 (aj (k2 (aj (show (List.map (iv) v1).length = v1.length by simp) (aj (aj (show nat_lit 1 = nat_lit 1 from rfl) (show 1 ≤ [iv x79].length by simp)) (aj a23 a24)))) s2))))) (al (u2 (u2 s2))))) (ak t9)) (by simp [up, upF, upV, upH, upB, movSt, gL, boL, lI, mvA]))
    (fun a22 =>
    .gu fun a23 =>
    .lq [53, 87, 184] [] [] [] [] [0, 5, 2] [1, 5, 6, 7, 8, 9] (up [(7, AV.sl 1 0 ((List.map mvA v0).length + [AV.agg [iv (nextZ l (v3 + 1 + 1) (iN v1.length)), iv x57, iv x79]].length)), (8, AV.sl 2 0 v1.length)] [(1, List.map mvA v0 ++ [AV.agg [iv (nextZ l (v3 + 1 + 1) (iN v1.length)), iv x57, iv x79]]), (2, (List.map (iv) v1).set (0 + (nextZ l (v3 + 1 + 1) (iN v1.length)).toNat) (iv x79))] (movSt l c (.l0 (v0 ++ [MvD.mk (nextZ l (v3 + 1 + 1) (iN v1.length)) x57 x79]) (v1.set (0 + (nextZ l (v3 + 1 + 1) (iN v1.length)).toNat) x79) (IntKind.i64.wrap (v2 - 1)) (v3 + 1 + 1 + 1 + 1)))) (aj (aj a22 (aj (u2 (u2 (u2 (u2 (u2 (aj (k2 (aj a7 a8)) (al (k2 a23)))))))) (al (u2 (u2 s2))))) (ak t9)) (by simp [up, upF, upV, upH, upB, movSt, gL, boL, lI, mvA])))))
  (fun a5 =>
   .gu fun a6 =>
   have c2 := has_ct (v1) (nextZ l v3 (iN (gL (graM l 0 8)).length)) a6;
   .rn 0 [53, 87, 94] [] [(85, hK c2 [] [2])] [] (aj a5 (al (u2 (u2 (u2 (al (k2 (aj (show v1.length = (List.map (iv) v1).length by simp) (ak (aj (c2) (show ∀ (blk : Blk), blk ∈ [] → ImmB blk from (by intro _ h; cases h)))))))))))) <|
   .br (fun a7 =>
   .lp [53, 87, 171] [] [] [] [] [0, 1, 2] [1, 5, 6, 7, 8, 9] (aj (aj a7 (al (u2 (u2 s2)))) (ak t9)))
   (fun a7 =>
   .gu fun a8 =>
   .gu fun a9 =>
   .rn 1 [53, 87, 170] [] [] [] (aj a7 (aj (u2 (u2 (u2 (aj (k2 (aj (show (List.map mvA v0).length = v0.length by simp) (aj (aj (show nat_lit 3 = nat_lit 3 from rfl) (show 1 ≤ [AV.agg [iv (iN v1.length), iv (-1), iv (nextZ l v3 (iN (gL (graM l 0 8)).length))]].length by simp)) (aj a8 a9)))) s2)))) (al (u2 (u2 s2))))) <|
   .gu fun a10 =>
   .gu fun a11 =>
   .lq [53, 87] [] [] [] [] [0, 5, 7] [1, 5, 6, 7, 8, 9] (up [(7, AV.sl 1 0 ((List.map mvA v0).length + [AV.agg [iv (iN v1.length), iv (-1), iv (nextZ l v3 (iN (gL (graM l 0 8)).length))]].length)), (8, AV.sl 2 0 ((List.map (iv) v1).length + [iv (nextZ l v3 (iN (gL (graM l 0 8)).length))].length))] [(1, List.map mvA v0 ++ [AV.agg [iv (iN v1.length), iv (-1), iv (nextZ l v3 (iN (gL (graM l 0 8)).length))]]), (2, List.map (iv) v1 ++ [iv (nextZ l v3 (iN (gL (graM l 0 8)).length))])] (movSt l c (.l0 (v0 ++ [MvD.mk (iN v1.length) (-1) (nextZ l v3 (iN (gL (graM l 0 8)).length))]) (v1 ++ [nextZ l v3 (iN (gL (graM l 0 8)).length)]) (IntKind.i64.wrap (v2 - 1)) (v3 + 1 + 1)))) (aj (ak (aj (u2 (u2 (u2 (u2 (aj (k2 (aj (show (List.map (iv) v1).length = v1.length by simp) (aj (aj (show nat_lit 1 = nat_lit 1 from rfl) (show 1 ≤ [iv (nextZ l v3 (iN (gL (graM l 0 8)).length))].length by simp)) (aj a10 a11)))) s2))))) (al (u2 (u2 s2))))) (ak t9)) (by simp [up, upF, upV, upH, upB, movSt, gL, boL, lI, mvA]))))
  (fun a3 =>
  .rn 0 [53, 86] [] [] [] (al (u2 (u2 (u2 (u2 (aj a3 (aj a3 (aj a3 (al (aj a3 t2)))))))))) <|
  .gu fun a4 =>
  have c1 := has_ct (v1) (nextZ l v3 (iN (gL (graM l 0 8)).length)) a4;
  .rn 0 [53, 86] [] [(85, hK c1 [] [2])] [] (ak (al (u2 (u2 (u2 (al (k2 (aj (show v1.length = (List.map (iv) v1).length by simp) (ak (aj (c1) (show ∀ (blk : Blk), blk ∈ [] → ImmB blk from (by intro _ h; cases h)))))))))))) <|
  .br (fun a5 =>
   .lp [53, 86, 171] [] [] [] [] [0, 1, 2] [1, 5, 6, 7, 8, 9] (aj (aj a5 (al (u2 (u2 s2)))) (ak t9)))
  (fun a5 =>
   .gu fun a6 =>
   .gu fun a7 =>
   .rn 1 [53, 86, 170] [] [] [] (aj a5 (aj (u2 (u2 (u2 (aj (k2 (aj (show (List.map mvA v0).length = v0.length by simp) (aj (aj (show nat_lit 3 = nat_lit 3 from rfl) (show 1 ≤ [AV.agg [iv (iN v1.length), iv (-1), iv (nextZ l v3 (iN (gL (graM l 0 8)).length))]].length by simp)) (aj a6 a7)))) s2)))) (al (u2 (u2 s2))))) <|
   .gu fun a8 =>
   .gu fun a9 =>
   .lq [53, 86] [] [] [] [] [0, 5, 7] [1, 5, 6, 7, 8, 9] (up [(7, AV.sl 1 0 ((List.map mvA v0).length + [AV.agg [iv (iN v1.length), iv (-1), iv (nextZ l v3 (iN (gL (graM l 0 8)).length))]].length)), (8, AV.sl 2 0 ((List.map (iv) v1).length + [iv (nextZ l v3 (iN (gL (graM l 0 8)).length))].length))] [(1, List.map mvA v0 ++ [AV.agg [iv (iN v1.length), iv (-1), iv (nextZ l v3 (iN (gL (graM l 0 8)).length))]]), (2, List.map (iv) v1 ++ [iv (nextZ l v3 (iN (gL (graM l 0 8)).length))])] (movSt l c (.l0 (v0 ++ [MvD.mk (iN v1.length) (-1) (nextZ l v3 (iN (gL (graM l 0 8)).length))]) (v1 ++ [nextZ l v3 (iN (gL (graM l 0 8)).length)]) (IntKind.i64.wrap (v2 - 1)) (v3 + 1)))) (aj (ak (aj (u2 (u2 (u2 (u2 (aj (k2 (aj (show (List.map (iv) v1).length = v1.length by simp) (aj (aj (show nat_lit 1 = nat_lit 1 from rfl) (show 1 ≤ [iv (nextZ l v3 (iN (gL (graM l 0 8)).length))].length by simp)) (aj a8 a9)))) s2))))) (al (u2 (u2 s2))))) (ak t9)) (by simp [up, upF, upV, upH, upB, movSt, gL, boL, lI, mvA]))))
 (fun a1 =>
  .gu fun a2 =>
  .gu fun a3 =>
  have c0 := treplay_c (graM l 0 8) (v0) a2;
  .rn 0 [53, 60] [] [(107, hK c0 [] [1])] [] (aj a1 (al (u2 (u2 (aj (k3 (aj (show v0.length = (List.map mvA v0).length by simp) (aj (c0) a3))) (u2 (u2 (u2 (u2 s2))))))))) <|
  .gu fun a4 =>
  .gu fun a5 =>
  .gu fun a6 =>
  .gu fun a7 =>
  have c1 := cut_ct (c) (IntKind.i64.wrap (iN v0.length + 1));
  have c2 := treplay_c (graM l 0 8) (List.take ((cutZ c (IntKind.i64.wrap (iN v0.length + 1))).toNat - Int.toNat 0) (List.drop 0 v0)) a2;
  .rn 0 [53] [] [(117, hK c1 [] []), (119, hK c2 [] [1001, 1])] [] (al (u2 (u2 (u2 (u2 (u2 (u2 (aj (ak (k3 (al (c1)))) (aj (k2 (aj (show (0 : Int) ≤ (0 : Int) from (by first | exact Nat.le_of_ble_eq_true rfl | decide)) (aj a4 (aj a5 (show iN v0.length ≤ iN v0.length by omega))))) (aj (k3 (aj a6 (aj (show CT Try.prog 23 [] [AV.lst (gL (graM l 0 8)), AV.lst (List.take ((cutZ c (IntKind.i64.wrap (iN v0.length + 1))).toNat - Int.toNat 0) (List.drop 0 (List.map mvA v0)))] [some (Blk.mk (List.map (iv) (repO (graM l 0 8) (List.take ((cutZ c (IntKind.i64.wrap (iN v0.length + 1))).toNat - Int.toNat 0) (List.drop 0 v0))).fst) 1 true true none)] (AV.tup [AV.sl 0 0 (repO (graM l 0 8) (List.take ((cutZ c (IntKind.i64.wrap (iN v0.length + 1))).toNat - Int.toNat 0) (List.drop 0 v0))).fst.length, iv (repO (graM l 0 8) (List.take ((cutZ c (IntKind.i64.wrap (iN v0.length + 1))).toNat - Int.toNat 0) (List.drop 0 v0))).snd]) from CT.eqs (c2) (by simp [gL, boL, lI, mvA]) (by simp [gL, boL, lI, mvA])) a7))) (u2 (u2 (u2 (u2 s2)))))))))))))) <|
  .br (fun a8 =>
  .br (fun a9 =>
   .gu fun a10 =>
   have c3 := sin_c ((repO (graM l 0 8) v0).fst) (v1) a10;
   .rt [53, 249, 257] [] [(131, hK c3 [] [3, 2])] [] [] [] (aj (al (u2 (u2 (u2 (ag a8 (ag a8 (ag a8 (u2 (ag a9 (ag a9 (aj (aj a9 (k2 (aj (show (repO (graM l 0 8) v0).fst.length = (List.map (iv) (repO (graM l 0 8) v0).fst).length by simp) (aj (show v1.length = (List.map (iv) v1).length by simp) (aj (c3) (show ∀ (blk : Blk), blk ∈ [] → ImmB blk from (by intro _ h; cases h))))))) (ag a9 s2)))))))))))) t2))
  (fun a9 =>
   .rt [53, 249, 256] [] [] [] [] [] (aj (al (u2 (u2 (u2 (ag a8 (ag a8 (ag a8 (u2 (aj a9 (aj a9 (aj a9 (ag a9 s2)))))))))))) t2)))
  (fun a8 =>
  .rt [53, 248] [] [] [] [] [] (aj (al (u2 (u2 (u2 (aj a8 (aj a8 (ag a8 (u2 (k3 (aj t3 s2)))))))))) t2))))
 (fun a0 =>
 .rn 0 [52] [] [] [] (al (u2 (u2 (u2 (aj a0 (aj a0 (aj a0 (al (aj a0 t2))))))))) <|
 .gu fun a1 =>
 .gu fun a2 =>
 have c0 := treplay_c (graM l 0 8) (v0) a1;
 .rn 0 [52] [] [(107, hK c0 [] [1])] [] (ak (al (u2 (u2 (aj (k3 (aj (show v0.length = (List.map mvA v0).length by simp) (aj (c0) a2))) (u2 (u2 (u2 (u2 s2))))))))) <|
 .gu fun a3 =>
 .gu fun a4 =>
 .gu fun a5 =>
 .gu fun a6 =>
 have c1 := cut_ct (c) (IntKind.i64.wrap (iN v0.length + 1));
 have c2 := treplay_c (graM l 0 8) (List.take ((cutZ c (IntKind.i64.wrap (iN v0.length + 1))).toNat - Int.toNat 0) (List.drop 0 v0)) a1;
 .rn 0 [52] [] [(117, hK c1 [] []), (119, hK c2 [] [1001, 1])] [] (al (u2 (u2 (u2 (u2 (u2 (u2 (aj (ak (k3 (al (c1)))) (aj (k2 (aj (show (0 : Int) ≤ (0 : Int) from (by first | exact Nat.le_of_ble_eq_true rfl | decide)) (aj a3 (aj a4 (show iN v0.length ≤ iN v0.length by omega))))) (aj (k3 (aj a5 (aj (show CT Try.prog 23 [] [AV.lst (gL (graM l 0 8)), AV.lst (List.take ((cutZ c (IntKind.i64.wrap (iN v0.length + 1))).toNat - Int.toNat 0) (List.drop 0 (List.map mvA v0)))] [some (Blk.mk (List.map (iv) (repO (graM l 0 8) (List.take ((cutZ c (IntKind.i64.wrap (iN v0.length + 1))).toNat - Int.toNat 0) (List.drop 0 v0))).fst) 1 true true none)] (AV.tup [AV.sl 0 0 (repO (graM l 0 8) (List.take ((cutZ c (IntKind.i64.wrap (iN v0.length + 1))).toNat - Int.toNat 0) (List.drop 0 v0))).fst.length, iv (repO (graM l 0 8) (List.take ((cutZ c (IntKind.i64.wrap (iN v0.length + 1))).toNat - Int.toNat 0) (List.drop 0 v0))).snd]) from CT.eqs (c2) (by simp [gL, boL, lI, mvA]) (by simp [gL, boL, lI, mvA])) a6))) (u2 (u2 (u2 (u2 s2)))))))))))))) <|
 .br (fun a7 =>
  .br (fun a8 =>
  .gu fun a9 =>
  have c3 := sin_c ((repO (graM l 0 8) v0).fst) (v1) a9;
  .rt [52, 249, 257] [] [(131, hK c3 [] [3, 2])] [] [] [] (aj (al (u2 (u2 (u2 (ag a7 (ag a7 (ag a7 (u2 (ag a8 (ag a8 (aj (aj a8 (k2 (aj (show (repO (graM l 0 8) v0).fst.length = (List.map (iv) (repO (graM l 0 8) v0).fst).length by simp) (aj (show v1.length = (List.map (iv) v1).length by simp) (aj (c3) (show ∀ (blk : Blk), blk ∈ [] → ImmB blk from (by intro _ h; cases h))))))) (ag a8 s2)))))))))))) t2))
  (fun a8 =>
  .rt [52, 249, 256] [] [] [] [] [] (aj (al (u2 (u2 (u2 (ag a7 (ag a7 (ag a7 (u2 (aj a8 (aj a8 (aj a8 (ag a8 s2)))))))))))) t2)))
 (fun a7 =>
  .rt [52, 248] [] [] [] [] [] (aj (al (u2 (u2 (u2 (aj a7 (aj a7 (ag a7 (u2 (k3 (aj t3 s2)))))))))) t2)))) (by kernel_rfl)
theorem mov_ct (l : List Int) (c : Int) (r : Ret) (h : MReach (movStep l c) (movEn l c) r) : CT Try.prog 4 ([]) ([lI l, .int .i64 c]) r.1 r.2 :=
  CT.mach (fn := Try.f4) (c := bodyOf Try.f4) (S := movSt l c) (hd := movHd) Try.func4 (by kernel_rfl) (Nat.le_of_ble_eq_true rfl)
    (fun s o ho => match s, ho with
      | .l0 v0 v1 v2 v3, ho => movS0_ok l c v0 v1 v2 v3 o ho
    )
    (fun o ho => movEn_ok l c o ho) h
structure MvI (g : List (List Int)) (m : List MvD) (p : List Int) : Prop where
  rep : repL g m [] = some p
  ri : RI g p
theorem MvI.step {g : List (List Int)} {m : List MvD} {p p' : List Int} {x : MvD} (h : MvI g m p) (e : repS g p x = some p') : MvI g (m ++ [x]) p' :=
  ⟨by rw [repL_app, h.rep]; show repL g [x] p = _; rw [repL_one, e], h.ri.step e⟩
theorem repS_in {g : List (List Int)} {p : List Int} {o : Int} (h0 : 0 ≤ o) (h1 : o < (g.length : Int)) (hn : o ∉ p) : repS g p ⟨(p.length : Int), -1, o⟩ = some (p ++ [o]) := by
  unfold repS
  rw [if_neg (by show ¬ (o < 0 ∨ _ ≤ o ∨ hasZ p o = true); rw [hasZ_no hn]; rintro (e | e | e); omega; omega; cases e), if_pos ⟨rfl, rfl⟩]
theorem repS_go {g : List (List Int)} {p : List Int} {o : Int} {t : Nat} (ht : t < p.length) (hp : RI g p) (h0 : 0 ≤ o) (h1 : o < (g.length : Int)) (hn : o ∉ p) (he : o ∈ g.getD (p.getD t 0).toNat []) : repS g p ⟨(t : Int), p.getD t 0, o⟩ = some (p.set t o) := by
  unfold repS
  have := (hp.rg _ (get_mem ht)).1
  rw [if_neg (by show ¬ (o < 0 ∨ _ ≤ o ∨ hasZ p o = true); rw [hasZ_no hn]; rintro (e | e | e); omega; omega; cases e), if_neg (by rintro ⟨e, _⟩; simp only at e; omega), if_pos ⟨by simp, by simp only; omega, by simp, hasZ_mem.2 he⟩]
  simp
theorem repO_of {g : List (List Int)} {m : List MvD} {p : List Int} (hv : valZ g = true) (hl : m.length ≤ 1200) (h : repL g m [] = some p) : repO g m = (p, 0) := by
  unfold repO; rw [if_neg (by rw [hv]; simp), if_neg (by omega), h]
theorem imm1m (l : List Int) : ∀ blk ∈ [Blk.mk (List.map (AV.int .i64) l) 1 true true none], ImmB blk := by
  intro blk hb
  rw [List.mem_singleton.1 hb]
  intro e he c hc
  obtain ⟨x, _, rfl⟩ := List.mem_map.1 he
  rw [List.mem_singleton.1 hc]; rfl
theorem cutZ_rng (v : Int) {n : Int} (h1 : 1 ≤ n) (h2 : n ≤ 100000) : 0 ≤ cutZ v n ∧ cutZ v n < n := by
  unfold cutZ
  split
  · omega
  · have ha := Int.tmod_lt_of_pos v (show 0 < n by omega)
    have hb := Int.lt_tmod_of_pos v (show 0 < n by omega)
    split
    · rw [wrapS _ (by omega) (by omega)]; omega
    · omega
theorem mov_end {l : List Int} {c : Int} {m : List MvD} {p : List Int} {v2 : Int} {v3 : Nat} (g1 : valZ (graM l 0 8) = true) (g2 : Rows (graM l 0 8)) (hI : MvI (graM l 0 8) m p) (hm : m.length ≤ 30) (h : ¬ (0 < v2 ∧ 0 < (graM l 0 8).length)) : movS0 l c m p v2 v3 = some (.inr ([], .bool true)) := by
  have hc := cutZ_rng c (n := (m.length : Int) + 1) (by omega) (by omega)
  have hwr : IntKind.i64.wrap (iN m.length + 1) = (m.length : Int) + 1 := by simp only [iN]; rw [wrap_in (by omega) (by omega)]
  have hr := repO_of g1 (by omega) hI.rep
  have htk : List.take ((cutZ c ((m.length : Int) + 1)).toNat - Int.toNat 0) (List.drop 0 m) = m.take (cutZ c ((m.length : Int) + 1)).toNat := by rw [List.drop_zero]; rfl
  obtain ⟨q, hq⟩ := repL_take hI.rep (cutZ c ((m.length : Int) + 1)).toNat
  have hr2 := repO_of g1 (by rw [List.length_take]; omega) hq
  have hpl := hI.ri.len
  have h24 := val24 g1
  have tail : ∀ {a b : Option (movPc ⊕ Ret)}, (gu (Rows (graM l 0 8)) <| gu (∀ (blk : Blk), blk ∈ [Blk.mk (List.map (AV.int IntKind.i64) (repO (graM l 0 8) m).fst) 1 true true none] → ImmB blk) <| gu (0 ≤ cutZ c (IntKind.i64.wrap (iN m.length + 1))) <| gu (cutZ c (IntKind.i64.wrap (iN m.length + 1)) ≤ iN m.length) <| gu (0 + ((cutZ c (IntKind.i64.wrap (iN m.length + 1))).toNat - Int.toNat 0) ≤ (List.map mvA m).length) <|
      gu (∀ (blk : Blk), blk ∈ [Blk.mk (List.map (AV.int IntKind.i64) (repO (graM l 0 8) (List.take ((cutZ c (IntKind.i64.wrap (iN m.length + 1))).toNat - Int.toNat 0) (List.drop 0 m))).fst) 1 true true none] → ImmB blk) <|
      br ((repO (graM l 0 8) m).snd == 0) (br ((repO (graM l 0 8) (List.take ((cutZ c (IntKind.i64.wrap (iN m.length + 1))).toNat - Int.toNat 0) (List.drop 0 m))).snd == 0) (gu ((repO (graM l 0 8) m).fst.length ≤ 1000000) <| some (.inr ([], AV.bool (decide ((repO (graM l 0 8) m).fst = p))))) a) b) = some (.inr ([], .bool true)) := by
    intro a b
    rw [hwr, htk, hr, hr2, gu_t g2, gu_t (imm1m _), gu_t hc.1, gu_t (by simp only [iN]; omega), gu_t (by simp only [List.length_map, show Int.toNat 0 = 0 from rfl]; omega), gu_t (imm1m _), br_t (by rfl), br_t (by rfl), gu_t (by show p.length ≤ _; omega), decide_eq_true rfl]
  unfold movS0
  have hgn : iN (gL (graM l 0 8)).length = ((graM l 0 8).length : Int) := by simp only [iN, gL_len]
  by_cases h2 : 0 < v2
  · rw [br_t (dec_t h2), br_f (dec_f (by rw [hgn]; omega)), tail]
  · rw [br_f (dec_f h2), tail]
theorem mov_run {l : List Int} {c : Int} (g1 : valZ (graM l 0 8) = true) (g2 : Rows (graM l 0 8)) : ∀ (n : Nat) (m : List MvD) (p : List Int) (k : Nat), MvI (graM l 0 8) m p → m.length + n ≤ 30 → k + 4 * n ≤ 100000 → MReach (movStep l c) (some (.inl (.l0 m p (n : Int) k))) ([], .bool true) := by
  have h24 := val24 g1
  have hgn : iN (gL (graM l 0 8)).length = ((graM l 0 8).length : Int) := by simp only [iN, gL_len]
  intro n
  induction n with
  | zero => intro m p k hI hm _; exact .to (show movS0 l c m p 0 k = _ from mov_end g1 g2 hI (by omega) (by omega)) (.ret _)
  | succ n ih =>
    intro m p k hI hm hk
    have hpl := hI.ri.len
    by_cases hg : (graM l 0 8).length = 0
    · exact .to (show movS0 l c m p ((n + 1 : Nat) : Int) k = _ from mov_end g1 g2 hI (by omega) (by omega)) (.ret _)
    have hwr : IntKind.i64.wrap (((n + 1 : Nat) : Int) - 1) = (n : Int) := by rw [wrap_in (by omega) (by omega)]; omega
    have r1 := nextZ_rng l k ((graM l 0 8).length : Int) (by omega) (by omega)
    have step : ∀ m2 p2 k2, MvI (graM l 0 8) m2 p2 → m2.length ≤ m.length + 1 → k2 ≤ k + 4 → movS0 l c m p ((n + 1 : Nat) : Int) k = some (.inl (.l0 m2 p2 (n : Int) k2)) → MReach (movStep l c) (some (.inl (.l0 m p ((n + 1 : Nat) : Int) k))) ([], .bool true) := fun m2 p2 k2 a b d e =>
      .to (show movS0 l c m p ((n + 1 : Nat) : Int) k = _ from e) (ih m2 p2 k2 a (by omega) (by omega))
    have hip : iN p.length = (p.length : Int) := rfl
    have enter : ∀ k2, k2 ≤ k + 4 → (∀ y, movS0 l c m p ((n + 1 : Nat) : Int) k = y → y = (gu (p.length ≤ 1000000) <|
        br (hasZ p (nextZ l k ((graM l 0 8).length : Int))) (some (.inl (.l0 (m) (p) (n : Int) k2)))
        (gu ((List.map mvA m).length + [AV.agg [AV.int .i64 (iN p.length), AV.int .i64 (-1), AV.int .i64 (nextZ l k ((graM l 0 8).length : Int))]].length ≤ 9223372036854775807) <|
         gu (((List.map mvA m).length + [AV.agg [AV.int .i64 (iN p.length), AV.int .i64 (-1), AV.int .i64 (nextZ l k ((graM l 0 8).length : Int))]].length) * 24 ≤ 140737488355328) <|
         gu ((List.map (AV.int .i64) p).length + [AV.int .i64 (nextZ l k ((graM l 0 8).length : Int))].length ≤ 9223372036854775807) <|
         gu (((List.map (AV.int .i64) p).length + [AV.int .i64 (nextZ l k ((graM l 0 8).length : Int))].length) * 8 ≤ 140737488355328) <|
         some (.inl (.l0 (m ++ [MvD.mk (iN p.length) (-1) (nextZ l k ((graM l 0 8).length : Int))]) (p ++ [nextZ l k ((graM l 0 8).length : Int)]) (n : Int) k2))))) → MReach (movStep l c) (some (.inl (.l0 m p ((n + 1 : Nat) : Int) k))) ([], .bool true) := by
      intro k2 hk2 he
      have he := he _ rfl
      cases hh : hasZ p (nextZ l k ((graM l 0 8).length : Int)) with
      | true =>
        refine step m p k2 hI (by omega) hk2 ?_
        rw [he, gu_t (by omega), hh, br_t rfl]
      | false =>
        refine step (m ++ [MvD.mk (iN p.length) (-1) (nextZ l k ((graM l 0 8).length : Int))]) (p ++ [nextZ l k ((graM l 0 8).length : Int)]) k2 (hI.step (repS_in r1.1 r1.2 (hasZ_false hh))) (by simp) hk2 ?_
        rw [he, gu_t (by omega), hh, br_f rfl, gu_t (by simp only [List.length_map, List.length_singleton]; omega), gu_t (by simp only [List.length_map, List.length_singleton]; omega), gu_t (by simp only [List.length_map, List.length_singleton]; omega), gu_t (by simp only [List.length_map, List.length_singleton]; omega)]
    by_cases hp0 : 0 < p.length
    · by_cases h3 : 0 < nextZ l (k + 1) 3
      · have r2 := nextZ_rng l (k + 1 + 1) (p.length : Int) (by omega) (by omega)
        obtain ⟨t, ht⟩ : ∃ t : Nat, nextZ l (k + 1 + 1) (p.length : Int) = (t : Int) := ⟨(nextZ l (k + 1 + 1) (p.length : Int)).toNat, by omega⟩
        have htl : t < p.length := by omega
        have hx := hI.ri.rg _ (get_mem htl)
        have hxl : (p.getD t 0).toNat < (graM l 0 8).length := by omega
        have hge := getE [] hxl
        have hi : ∀ r : List Int, iN (List.map (AV.int IntKind.i64) r).length = (r.length : Int) := fun r => by simp only [iN, List.length_map]
        have pre : ∀ {α : Type} {y : Option α} {f : Int → Option α}, (gu (0 ≤ nextZ l (k + 1 + 1) (iN p.length)) <| gu (nextZ l (k + 1 + 1) (iN p.length) < iN p.length) <| el p (0 + (nextZ l (k + 1 + 1) (iN p.length)).toNat) f) = f (p.getD t 0) := by
          intro α y f
          rw [hip, ht, gu_t (by omega), gu_t (by omega), Nat.zero_add, elG 0 htl]
        by_cases hr0 : ((graM l 0 8).getD (p.getD t 0).toNat []).length = 0
        · refine step m p (k + 1 + 1 + 1) hI (by omega) (by omega) ?_
          unfold movS0
          rw [br_t (dec_t (by omega)), hgn, br_t (dec_t (by omega)), gu_t (by omega), br_t (dec_t (by rw [hip]; omega)), gu_t (by omega), br_t (dec_t h3), gu_t (by omega), hip, ht, gu_t (by omega), gu_t (by omega), Nat.zero_add, elG 0 htl, gu_t hx.1, el_t hge, br_t (by rw [hi, hr0]; rfl), hwr]
        · have hrl : ((graM l 0 8).getD (p.getD t 0).toNat []).length ≤ 24 := by
            obtain ⟨hg2, ha⟩ := valZ_ok g2 g1
            have := asc_len hg2 ha hxl
            omega
          have r3 := nextZ_rng l (k + 1 + 1 + 1) (((graM l 0 8).getD (p.getD t 0).toNat []).length : Int) (by omega) (by omega)
          have hol : (nextZ l (k + 1 + 1 + 1) (((graM l 0 8).getD (p.getD t 0).toNat []).length : Int)).toNat < ((graM l 0 8).getD (p.getD t 0).toNat []).length := by omega
          have ho := ((valZ_ok g2 g1).1.row (p.getD t 0).toNat hxl).2 _ (get_mem hol)
          cases hh : hasZ p (((graM l 0 8).getD (p.getD t 0).toNat []).getD (nextZ l (k + 1 + 1 + 1) (((graM l 0 8).getD (p.getD t 0).toNat []).length : Int)).toNat 0) with
          | true =>
            refine step m p (k + 1 + 1 + 1 + 1) hI (by omega) (by omega) ?_
            unfold movS0
            rw [br_t (dec_t (by omega)), hgn, br_t (dec_t (by omega)), gu_t (by omega), br_t (dec_t (by rw [hip]; omega)), gu_t (by omega), br_t (dec_t h3), gu_t (by omega), hip, ht, gu_t (by omega), gu_t (by omega), Nat.zero_add, elG 0 htl, gu_t hx.1, el_t hge, hi, br_f (by rw [beq_eq_false_iff_ne]; omega), el_t hge, el_t hge, gu_t (by omega), hi, gu_t r3.1, el_t (getE 0 hol), gu_t (by omega), hh, br_t rfl, hwr]
          | false =>
            refine step (m ++ [MvD.mk (t : Int) (p.getD t 0) (((graM l 0 8).getD (p.getD t 0).toNat []).getD (nextZ l (k + 1 + 1 + 1) (((graM l 0 8).getD (p.getD t 0).toNat []).length : Int)).toNat 0)]) (p.set t (((graM l 0 8).getD (p.getD t 0).toNat []).getD (nextZ l (k + 1 + 1 + 1) (((graM l 0 8).getD (p.getD t 0).toNat []).length : Int)).toNat 0)) (k + 1 + 1 + 1 + 1) (hI.step (repS_go htl hI.ri ho.1 ho.2.1 (hasZ_false hh) (get_mem hol))) (by simp) (by omega) ?_
            unfold movS0
            rw [br_t (dec_t (by omega)), hgn, br_t (dec_t (by omega)), gu_t (by omega), br_t (dec_t (by rw [hip]; omega)), gu_t (by omega), br_t (dec_t h3), gu_t (by omega), hip, ht, gu_t (by omega), gu_t (by omega), Nat.zero_add, elG 0 htl, gu_t hx.1, el_t hge, hi, br_f (by rw [beq_eq_false_iff_ne]; omega), el_t hge, el_t hge, gu_t (by omega), hi, gu_t r3.1, el_t (getE 0 hol), gu_t (by omega), hh, br_f rfl, gu_t (by simp only [List.length_map, List.length_singleton]; omega), gu_t (by simp only [List.length_map, List.length_singleton]; omega), br_f (dec_f (by omega)), Int.toNat_natCast,
              gu_t (show t.succ.le (List.map (AV.int .i64) p).length by show t + 1 ≤ _; rw [List.length_map]; exact htl), hwr]
      · refine enter (k + 1 + 1) (by omega) fun y e => ?_
        rw [← e]
        unfold movS0
        rw [br_t (dec_t (by omega)), hgn, br_t (dec_t (by omega)), gu_t (by omega), br_t (dec_t (by rw [hip]; omega)), gu_t (by omega), br_f (dec_f h3), hwr]
    · refine enter (k + 1) (by omega) fun y e => ?_
      rw [← e]
      unfold movS0
      rw [br_t (dec_t (by omega)), hgn, br_t (dec_t (by omega)), gu_t (by omega), br_f (dec_f (by rw [hip]; omega)), hwr]
theorem tokenMoves_row (avs : List AV) (h : ShVs Try.prog 6 Try.f4.params.toList avs) : CT Try.prog 4 [] avs [] (.bool true) := by
  rw [Try.params4] at h
  obtain ⟨a, _, rfl, ka, h⟩ := h.consD
  obtain ⟨b, _, rfl, kb, h⟩ := h.consD
  obtain rfl := h.nilD
  obtain ⟨_, _, hd, rfl⟩ := ka.sliceD Try.underlying22
  obtain ⟨l, rfl⟩ := rdIntsT hd
  obtain ⟨c, _, rfl⟩ := kb.intD Try.underlying3
  refine mov_ct l c ([], .bool true) ?_
  obtain ⟨g1, g2, g3, g4, _⟩ := gra_spec (L := l) (kk := 0) (most := 8) (by omega) (by omega)
  have r := nextZ_rng l (graK l 0 8) 30 (by omega) (by omega)
  obtain ⟨n, hn⟩ : ∃ n : Nat, nextZ l (graK l 0 8) 30 = (n : Int) := ⟨(nextZ l (graK l 0 8) 30).toNat, by omega⟩
  unfold movEn
  rw [gu_t (by omega), hn]
  exact mov_run g1 g2 n [] [] _ ⟨rfl, RI.nil _⟩ (by simp; omega) (by omega)
end Go.Proofs.Yteohjokcoddnjaa

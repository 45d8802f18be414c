/- Parts of the proof: Cm3m, CmC, CmE, CmG, CmF, CmH, Rp1m, RpA, Rp2m, RpB, Rp3m, RpC, Cm4m, CmI, Rt12p, RtB, GiC, Gi2p, GiD, CmJ, Cm5m, CmK. -/
import Derived.Test.YtcgegbmnpjfjlaaProg
import Derived.KernelRfl
import Derived.Test.YtcgegbmnpjfjlaaGirthNoneM4
open Go Go.AX Go.Proofs
set_option maxRecDepth 100000
set_option maxHeartbeats 4000000
set_option linter.unusedVariables false
set_option linter.unusedSimpArgs false
namespace Go.Proofs.Ytcgegbmnpjfjlaa
inductive frmPc where
  | l0 (v0 : Int) (v1 : List Int) (v2 : List Int) (v3 : List Int) (v4 : Nat) (v5 : List Int) (v6 : Int) (v7 : List Int) (v8 : List Int)
  | l1 (v0 : Int) (v1 : List Int) (v2 : List Int) (v3 : List Int) (v4 : Nat) (v5 : List Int) (v6 : Int) (v7 : List Int) (v8 : List Int)
noncomputable def frmSt (g : List (List Int)) (sh : List Bool) (se lo ati pa hd nm : List Int) (c q : Int) : frmPc → St
  | .l0 v0 v1 v2 v3 v4 v5 v6 v7 v8 => St.mk 210 [(0, AV.ptr 0 0 0), (1, iv v0)] [some (Blk.mk [AV.agg [AV.lst (gL g), AV.lst (boL sh), AV.sl 1 0 v1.length, AV.sl 2 0 v2.length, AV.sl 3 0 v3.length, AV.sl 4 0 v4, AV.sl 5 0 v5.length, iv v6, AV.sl 6 0 v7.length]] 9 false true none), some (Blk.mk (List.map (iv) v1) 1 true true none), some (Blk.mk (List.map (iv) v2) 1 true true none), some (Blk.mk (List.map (iv) v3) 1 true true none), some (Blk.mk (List.map (iv) v8) 1 true true none), some (Blk.mk (List.map (iv) v5) 1 true true none), some (Blk.mk (List.map (iv) v7) 1 true true none)]
  | .l1 v0 v1 v2 v3 v4 v5 v6 v7 v8 => St.mk 210 [(0, AV.ptr 0 0 0), (1, iv v0)] [some (Blk.mk [AV.agg [AV.lst (gL g), AV.lst (boL sh), AV.sl 1 0 v1.length, AV.sl 2 0 v2.length, AV.sl 3 0 v3.length, AV.sl 4 0 v4, AV.sl 5 0 v5.length, iv v6, AV.sl 6 0 v7.length]] 9 false true none), some (Blk.mk (List.map (iv) v1) 1 true true none), some (Blk.mk (List.map (iv) v2) 1 true true none), some (Blk.mk (List.map (iv) v3) 1 true true none), some (Blk.mk (List.map (iv) v8) 1 true true none), some (Blk.mk (List.map (iv) v5) 1 true true none), some (Blk.mk (List.map (iv) v7) 1 true true none)]
def frmHd : frmPc → Nat
  | .l0 _ _ _ _ _ _ _ _ _ => 0
  | .l1 _ _ _ _ _ _ _ _ _ => 1
noncomputable def frmEn (g : List (List Int)) (sh : List Bool) (se lo ati pa hd nm : List Int) (c q : Int) : Option (frmPc ⊕ Ret) :=
  gu (0 ≤ q) <|
  gu (q < iN se.length) <|
  gu ((0 + q.toNat).succ.le (List.map (AV.int IntKind.i64) se).length) <|
  gu (q < iN lo.length) <|
  gu ((0 + q.toNat).succ.le (List.map (AV.int IntKind.i64) lo).length) <|
  gu ((List.map (AV.int IntKind.i64) pa).length + [AV.int IntKind.i64 q].length ≤ 9223372036854775807) <|
  gu (((List.map (AV.int IntKind.i64) pa).length + [AV.int IntKind.i64 q].length) * 8 ≤ 140737488355328) <|
  gu ((List.map (AV.int IntKind.i64) hd).length + [AV.int IntKind.i64 q].length ≤ 9223372036854775807) <|
  gu (((List.map (AV.int IntKind.i64) hd).length + [AV.int IntKind.i64 q].length) * 8 ≤ 140737488355328) <|
  gu (q < iN ati.length) <|
  el (ati) (0 + q.toNat) fun (x58 : Int) =>
  el (g) (q.toNat) fun (x64 : List Int) =>
  br (decide (x58 < iN (List.map (AV.int IntKind.i64) x64).length))
  (el (g) (q.toNat) fun (x73 : List Int) =>
   el (ati) (0 + q.toNat) fun (x81 : Int) =>
   gu (0 ≤ x81) <|
   el (x73) (x81.toNat) fun (x82 : Int) =>
   el (ati) (0 + q.toNat) fun (x90 : Int) =>
   gu ((0 + q.toNat).succ.le (List.map (AV.int IntKind.i64) ati).length) <|
   gu (0 ≤ x82) <|
   el (sh) (x82.toNat) fun (x98 : Bool) =>
   br (x98)
   (some (.inl (.l1 (q) (se.set (0 + q.toNat) (IntKind.i64.wrap (c + 1))) (lo.set (0 + q.toNat) (IntKind.i64.wrap (c + 1))) (ati.set (0 + q.toNat) (IntKind.i64.wrap (x90 + 1))) ((List.map (AV.int IntKind.i64) pa).length + [AV.int IntKind.i64 q].length) (hd ++ [q]) (IntKind.i64.wrap (c + 1)) (nm) (pa ++ [q]))))
   (gu (x82 < iN se.length) <|
    el (se.set (0 + q.toNat) (IntKind.i64.wrap (c + 1))) (0 + x82.toNat) fun (x106 : Int) =>
    br (x106 == 0)
    (some (.inl (.l0 (x82) (se.set (0 + q.toNat) (IntKind.i64.wrap (c + 1))) (lo.set (0 + q.toNat) (IntKind.i64.wrap (c + 1))) (ati.set (0 + q.toNat) (IntKind.i64.wrap (x90 + 1))) ((List.map (AV.int IntKind.i64) pa).length + [AV.int IntKind.i64 q].length) (hd ++ [q]) (IntKind.i64.wrap (c + 1)) (nm) (pa ++ [q]))))
    (gu (x82 < iN nm.length) <|
     el (nm) (0 + x82.toNat) fun (x115 : Int) =>
     br (decide (x115 < 0))
     (el (lo.set (0 + q.toNat) (IntKind.i64.wrap (c + 1))) (0 + q.toNat) fun (x128 : Int) =>
      el (se.set (0 + q.toNat) (IntKind.i64.wrap (c + 1))) (0 + x82.toNat) fun (x135 : Int) =>
      gu ((0 + q.toNat).succ.le ((List.map (AV.int IntKind.i64) lo).set (0 + q.toNat) (AV.int IntKind.i64 (IntKind.i64.wrap (c + 1)))).length) <|
      some (.inl (.l1 (q) (se.set (0 + q.toNat) (IntKind.i64.wrap (c + 1))) ((lo.set (0 + q.toNat) (IntKind.i64.wrap (c + 1))).set (0 + q.toNat) (if x135 < x128 then x135 else x128)) (ati.set (0 + q.toNat) (IntKind.i64.wrap (x90 + 1))) ((List.map (AV.int IntKind.i64) pa).length + [AV.int IntKind.i64 q].length) (hd ++ [q]) (IntKind.i64.wrap (c + 1)) (nm) (pa ++ [q]))))
     (some (.inl (.l1 (q) (se.set (0 + q.toNat) (IntKind.i64.wrap (c + 1))) (lo.set (0 + q.toNat) (IntKind.i64.wrap (c + 1))) (ati.set (0 + q.toNat) (IntKind.i64.wrap (x90 + 1))) ((List.map (AV.int IntKind.i64) pa).length + [AV.int IntKind.i64 q].length) (hd ++ [q]) (IntKind.i64.wrap (c + 1)) (nm) (pa ++ [q])))))))
  (gu (0 ≤ IntKind.i64.wrap (iN ((List.map (AV.int IntKind.i64) pa).length + [AV.int IntKind.i64 q].length) - 1)) <|
   gu (IntKind.i64.wrap (iN ((List.map (AV.int IntKind.i64) pa).length + [AV.int IntKind.i64 q].length) - 1) ≤ iN ((List.map (AV.int IntKind.i64) pa).length + [AV.int IntKind.i64 q].length)) <|
   el (lo.set (0 + q.toNat) (IntKind.i64.wrap (c + 1))) (0 + q.toNat) fun (x158 : Int) =>
   el (se.set (0 + q.toNat) (IntKind.i64.wrap (c + 1))) (0 + q.toNat) fun (x165 : Int) =>
   br (x158 == x165)
   (gu (CmI (hd ++ [q]) nm q ∧ se.length = (se.set (0 + q.toNat) (IntKind.i64.wrap (c + 1))).length ∧ lo.length = (lo.set (0 + q.toNat) (IntKind.i64.wrap (c + 1))).length ∧ ati.length = ati.length ∧ (IntKind.i64.wrap (iN ((List.map (AV.int IntKind.i64) pa).length + [AV.int IntKind.i64 q].length) - 1)).toNat = (List.take (IntKind.i64.wrap (iN ((List.map (AV.int IntKind.i64) pa).length + [AV.int IntKind.i64 q].length) - 1)).toNat (pa ++ [q])).length ∧ (List.map (AV.int IntKind.i64) hd).length + [AV.int IntKind.i64 q].length = (hd ++ [q]).length ∧ nm.length = nm.length) <|
    br (decide (0 < iN (IntKind.i64.wrap (iN ((List.map (AV.int IntKind.i64) pa).length + [AV.int IntKind.i64 q].length) - 1)).toNat))
    (gu (0 ≤ IntKind.i64.wrap (iN (IntKind.i64.wrap (iN ((List.map (AV.int IntKind.i64) pa).length + [AV.int IntKind.i64 q].length) - 1)).toNat - 1)) <|
     gu (IntKind.i64.wrap (iN (IntKind.i64.wrap (iN ((List.map (AV.int IntKind.i64) pa).length + [AV.int IntKind.i64 q].length) - 1)).toNat - 1) < iN (IntKind.i64.wrap (iN ((List.map (AV.int IntKind.i64) pa).length + [AV.int IntKind.i64 q].length) - 1)).toNat) <|
     el (List.take (IntKind.i64.wrap (iN ((List.map (AV.int IntKind.i64) pa).length + [AV.int IntKind.i64 q].length) - 1)).toNat (pa ++ [q])) (0 + (IntKind.i64.wrap (iN (IntKind.i64.wrap (iN ((List.map (AV.int IntKind.i64) pa).length + [AV.int IntKind.i64 q].length) - 1)).toNat - 1)).toNat) fun (x188 : Int) =>
     gu (0 ≤ x188) <|
     gu (x188 < iN (lo.set (0 + q.toNat) (IntKind.i64.wrap (c + 1))).length) <|
     el (lo.set (0 + q.toNat) (IntKind.i64.wrap (c + 1))) (0 + x188.toNat) fun (x200 : Int) =>
     gu (q < iN (lo.set (0 + q.toNat) (IntKind.i64.wrap (c + 1))).length) <|
     el (lo.set (0 + q.toNat) (IntKind.i64.wrap (c + 1))) (0 + q.toNat) fun (x207 : Int) =>
     gu ((0 + x188.toNat).succ.le (List.map (AV.int IntKind.i64) (lo.set (0 + q.toNat) (IntKind.i64.wrap (c + 1)))).length) <|
     some (.inl (.l1 (x188) (se.set (0 + q.toNat) (IntKind.i64.wrap (c + 1))) ((lo.set (0 + q.toNat) (IntKind.i64.wrap (c + 1))).set (0 + x188.toNat) (if x207 < x200 then x207 else x200)) (ati) ((IntKind.i64.wrap (iN ((List.map (AV.int IntKind.i64) pa).length + [AV.int IntKind.i64 q].length) - 1)).toNat) (cmH (hd ++ [q]) q) (IntKind.i64.wrap (c + 1)) (cmN nm (hd ++ [q]) q) (List.take (IntKind.i64.wrap (iN ((List.map (AV.int IntKind.i64) pa).length + [AV.int IntKind.i64 q].length) - 1)).toNat (pa ++ [q])))))
    (some (.inr ([some (Blk.mk [AV.agg [AV.lst (gL g), AV.lst (boL sh), AV.sl 1 0 (se.set (0 + q.toNat) (IntKind.i64.wrap (c + 1))).length, AV.sl 2 0 (lo.set (0 + q.toNat) (IntKind.i64.wrap (c + 1))).length, AV.sl 3 0 ati.length, AV.sl 4 0 (IntKind.i64.wrap (iN ((List.map (AV.int IntKind.i64) pa).length + [AV.int IntKind.i64 q].length) - 1)).toNat, AV.sl 5 0 (cmH (hd ++ [q]) q).length, AV.int IntKind.i64 (IntKind.i64.wrap (c + 1)), AV.sl 6 0 (cmN nm (hd ++ [q]) q).length]] 9 false true none), some (Blk.mk (List.map (AV.int IntKind.i64) (se.set (0 + q.toNat) (IntKind.i64.wrap (c + 1)))) 1 true true none), some (Blk.mk (List.map (AV.int IntKind.i64) (lo.set (0 + q.toNat) (IntKind.i64.wrap (c + 1)))) 1 true true none), some (Blk.mk (List.map (AV.int IntKind.i64) ati) 1 true true none), some (Blk.mk (List.map (AV.int IntKind.i64) (List.take (IntKind.i64.wrap (iN ((List.map (AV.int IntKind.i64) pa).length + [AV.int IntKind.i64 q].length) - 1)).toNat (pa ++ [q]))) 1 true true none), some (Blk.mk (List.map (AV.int IntKind.i64) (cmH (hd ++ [q]) q)) 1 true true none), some (Blk.mk (List.map (AV.int IntKind.i64) (cmN nm (hd ++ [q]) q)) 1 true true none)], AV.tup []))))
   (br (decide (0 < iN (IntKind.i64.wrap (iN ((List.map (AV.int IntKind.i64) pa).length + [AV.int IntKind.i64 q].length) - 1)).toNat))
    (gu (0 ≤ IntKind.i64.wrap (iN (IntKind.i64.wrap (iN ((List.map (AV.int IntKind.i64) pa).length + [AV.int IntKind.i64 q].length) - 1)).toNat - 1)) <|
     gu (IntKind.i64.wrap (iN (IntKind.i64.wrap (iN ((List.map (AV.int IntKind.i64) pa).length + [AV.int IntKind.i64 q].length) - 1)).toNat - 1) < iN (IntKind.i64.wrap (iN ((List.map (AV.int IntKind.i64) pa).length + [AV.int IntKind.i64 q].length) - 1)).toNat) <|
     el (List.take (IntKind.i64.wrap (iN ((List.map (AV.int IntKind.i64) pa).length + [AV.int IntKind.i64 q].length) - 1)).toNat (pa ++ [q])) (0 + (IntKind.i64.wrap (iN (IntKind.i64.wrap (iN ((List.map (AV.int IntKind.i64) pa).length + [AV.int IntKind.i64 q].length) - 1)).toNat - 1)).toNat) fun (x188 : Int) =>
     gu (0 ≤ x188) <|
     gu (x188 < iN lo.length) <|
     el (lo.set (0 + q.toNat) (IntKind.i64.wrap (c + 1))) (0 + x188.toNat) fun (x200 : Int) =>
     el (lo.set (0 + q.toNat) (IntKind.i64.wrap (c + 1))) (0 + q.toNat) fun (x207 : Int) =>
     gu ((0 + x188.toNat).succ.le ((List.map (AV.int IntKind.i64) lo).set (0 + q.toNat) (AV.int IntKind.i64 (IntKind.i64.wrap (c + 1)))).length) <|
     some (.inl (.l1 (x188) (se.set (0 + q.toNat) (IntKind.i64.wrap (c + 1))) ((lo.set (0 + q.toNat) (IntKind.i64.wrap (c + 1))).set (0 + x188.toNat) (if x207 < x200 then x207 else x200)) (ati) ((IntKind.i64.wrap (iN ((List.map (AV.int IntKind.i64) pa).length + [AV.int IntKind.i64 q].length) - 1)).toNat) (hd ++ [q]) (IntKind.i64.wrap (c + 1)) (nm) (List.take (IntKind.i64.wrap (iN ((List.map (AV.int IntKind.i64) pa).length + [AV.int IntKind.i64 q].length) - 1)).toNat (pa ++ [q])))))
    (some (.inr ([some (Blk.mk [AV.agg [AV.lst (gL g), AV.lst (boL sh), AV.sl 1 0 se.length, AV.sl 2 0 lo.length, AV.sl 3 0 ati.length, AV.sl 4 0 (IntKind.i64.wrap (iN ((List.map (AV.int IntKind.i64) pa).length + [AV.int IntKind.i64 q].length) - 1)).toNat, AV.sl 5 0 ((List.map (AV.int IntKind.i64) hd).length + [AV.int IntKind.i64 q].length), AV.int IntKind.i64 (IntKind.i64.wrap (c + 1)), AV.sl 6 0 nm.length]] 9 false true none), some (Blk.mk ((List.map (AV.int IntKind.i64) se).set (0 + q.toNat) (AV.int IntKind.i64 (IntKind.i64.wrap (c + 1)))) 1 true true none), some (Blk.mk ((List.map (AV.int IntKind.i64) lo).set (0 + q.toNat) (AV.int IntKind.i64 (IntKind.i64.wrap (c + 1)))) 1 true true none), some (Blk.mk (List.map (AV.int IntKind.i64) ati) 1 true true none), some (Blk.mk (List.take (IntKind.i64.wrap (iN ((List.map (AV.int IntKind.i64) pa).length + [AV.int IntKind.i64 q].length) - 1)).toNat (List.map (AV.int IntKind.i64) pa ++ [AV.int IntKind.i64 q])) 1 true true none), some (Blk.mk (List.map (AV.int IntKind.i64) hd ++ [AV.int IntKind.i64 q]) 1 true true none), some (Blk.mk (List.map (AV.int IntKind.i64) nm) 1 true true none)], AV.tup [])))))
noncomputable def frmS0 (g : List (List Int)) (sh : List Bool) (se lo ati pa hd nm : List Int) (c q : Int) (v0 : Int) (v1 : List Int) (v2 : List Int) (v3 : List Int) (v4 : Nat) (v5 : List Int) (v6 : Int) (v7 : List Int) (v8 : List Int) : Option (frmPc ⊕ Ret) :=
  gu (0 ≤ v0) <|
  gu (v0 < iN v1.length) <|
  gu ((0 + v0.toNat).succ.le (List.map (AV.int IntKind.i64) v1).length) <|
  gu (v0 < iN v2.length) <|
  gu ((0 + v0.toNat).succ.le (List.map (AV.int IntKind.i64) v2).length) <|
  gu ((List.map (AV.int IntKind.i64) v8).length = v4) <|
  gu ((List.map (AV.int IntKind.i64) v8).length + [AV.int IntKind.i64 v0].length ≤ 9223372036854775807) <|
  gu (((List.map (AV.int IntKind.i64) v8).length + [AV.int IntKind.i64 v0].length) * 8 ≤ 140737488355328) <|
  gu ((List.map (AV.int IntKind.i64) v5).length + [AV.int IntKind.i64 v0].length ≤ 9223372036854775807) <|
  gu (((List.map (AV.int IntKind.i64) v5).length + [AV.int IntKind.i64 v0].length) * 8 ≤ 140737488355328) <|
  gu (v0 < iN v3.length) <|
  el (v3) (0 + v0.toNat) fun (x58 : Int) =>
  el (g) (v0.toNat) fun (x64 : List Int) =>
  br (decide (x58 < iN (List.map (AV.int IntKind.i64) x64).length))
  (el (g) (v0.toNat) fun (x73 : List Int) =>
   el (v3) (0 + v0.toNat) fun (x81 : Int) =>
   gu (0 ≤ x81) <|
   el (x73) (x81.toNat) fun (x82 : Int) =>
   el (v3) (0 + v0.toNat) fun (x90 : Int) =>
   gu ((0 + v0.toNat).succ.le (List.map (AV.int IntKind.i64) v3).length) <|
   gu (0 ≤ x82) <|
   el (sh) (x82.toNat) fun (x98 : Bool) =>
   br (x98)
   (some (.inl (.l1 (v0) (v1.set (0 + v0.toNat) (IntKind.i64.wrap (v6 + 1))) (v2.set (0 + v0.toNat) (IntKind.i64.wrap (v6 + 1))) (v3.set (0 + v0.toNat) (IntKind.i64.wrap (x90 + 1))) ((List.map (AV.int IntKind.i64) v8).length + [AV.int IntKind.i64 v0].length) (v5 ++ [v0]) (IntKind.i64.wrap (v6 + 1)) (v7) (v8 ++ [v0]))))
   (gu (x82 < iN v1.length) <|
    el (v1.set (0 + v0.toNat) (IntKind.i64.wrap (v6 + 1))) (0 + x82.toNat) fun (x106 : Int) =>
    br (x106 == 0)
    (some (.inl (.l0 (x82) (v1.set (0 + v0.toNat) (IntKind.i64.wrap (v6 + 1))) (v2.set (0 + v0.toNat) (IntKind.i64.wrap (v6 + 1))) (v3.set (0 + v0.toNat) (IntKind.i64.wrap (x90 + 1))) ((List.map (AV.int IntKind.i64) v8).length + [AV.int IntKind.i64 v0].length) (v5 ++ [v0]) (IntKind.i64.wrap (v6 + 1)) (v7) (v8 ++ [v0]))))
    (gu (x82 < iN v7.length) <|
     el (v7) (0 + x82.toNat) fun (x115 : Int) =>
     br (decide (x115 < 0))
     (el (v2.set (0 + v0.toNat) (IntKind.i64.wrap (v6 + 1))) (0 + v0.toNat) fun (x128 : Int) =>
      el (v1.set (0 + v0.toNat) (IntKind.i64.wrap (v6 + 1))) (0 + x82.toNat) fun (x135 : Int) =>
      gu ((0 + v0.toNat).succ.le ((List.map (AV.int IntKind.i64) v2).set (0 + v0.toNat) (AV.int IntKind.i64 (IntKind.i64.wrap (v6 + 1)))).length) <|
      some (.inl (.l1 (v0) (v1.set (0 + v0.toNat) (IntKind.i64.wrap (v6 + 1))) ((v2.set (0 + v0.toNat) (IntKind.i64.wrap (v6 + 1))).set (0 + v0.toNat) (if x135 < x128 then x135 else x128)) (v3.set (0 + v0.toNat) (IntKind.i64.wrap (x90 + 1))) ((List.map (AV.int IntKind.i64) v8).length + [AV.int IntKind.i64 v0].length) (v5 ++ [v0]) (IntKind.i64.wrap (v6 + 1)) (v7) (v8 ++ [v0]))))
     (some (.inl (.l1 (v0) (v1.set (0 + v0.toNat) (IntKind.i64.wrap (v6 + 1))) (v2.set (0 + v0.toNat) (IntKind.i64.wrap (v6 + 1))) (v3.set (0 + v0.toNat) (IntKind.i64.wrap (x90 + 1))) ((List.map (AV.int IntKind.i64) v8).length + [AV.int IntKind.i64 v0].length) (v5 ++ [v0]) (IntKind.i64.wrap (v6 + 1)) (v7) (v8 ++ [v0])))))))
  (gu (0 ≤ IntKind.i64.wrap (iN ((List.map (AV.int IntKind.i64) v8).length + [AV.int IntKind.i64 v0].length) - 1)) <|
   gu (IntKind.i64.wrap (iN ((List.map (AV.int IntKind.i64) v8).length + [AV.int IntKind.i64 v0].length) - 1) ≤ iN ((List.map (AV.int IntKind.i64) v8).length + [AV.int IntKind.i64 v0].length)) <|
   el (v2.set (0 + v0.toNat) (IntKind.i64.wrap (v6 + 1))) (0 + v0.toNat) fun (x158 : Int) =>
   el (v1.set (0 + v0.toNat) (IntKind.i64.wrap (v6 + 1))) (0 + v0.toNat) fun (x165 : Int) =>
   br (x158 == x165)
   (gu (CmI (v5 ++ [v0]) v7 v0 ∧ v1.length = (v1.set (0 + v0.toNat) (IntKind.i64.wrap (v6 + 1))).length ∧ v2.length = (v2.set (0 + v0.toNat) (IntKind.i64.wrap (v6 + 1))).length ∧ v3.length = v3.length ∧ (IntKind.i64.wrap (iN ((List.map (AV.int IntKind.i64) v8).length + [AV.int IntKind.i64 v0].length) - 1)).toNat = (List.take (IntKind.i64.wrap (iN ((List.map (AV.int IntKind.i64) v8).length + [AV.int IntKind.i64 v0].length) - 1)).toNat (v8 ++ [v0])).length ∧ (List.map (AV.int IntKind.i64) v5).length + [AV.int IntKind.i64 v0].length = (v5 ++ [v0]).length ∧ v7.length = v7.length) <|
    br (decide (0 < iN (IntKind.i64.wrap (iN ((List.map (AV.int IntKind.i64) v8).length + [AV.int IntKind.i64 v0].length) - 1)).toNat))
    (gu (0 ≤ IntKind.i64.wrap (iN (IntKind.i64.wrap (iN ((List.map (AV.int IntKind.i64) v8).length + [AV.int IntKind.i64 v0].length) - 1)).toNat - 1)) <|
     gu (IntKind.i64.wrap (iN (IntKind.i64.wrap (iN ((List.map (AV.int IntKind.i64) v8).length + [AV.int IntKind.i64 v0].length) - 1)).toNat - 1) < iN (IntKind.i64.wrap (iN ((List.map (AV.int IntKind.i64) v8).length + [AV.int IntKind.i64 v0].length) - 1)).toNat) <|
     el (List.take (IntKind.i64.wrap (iN ((List.map (AV.int IntKind.i64) v8).length + [AV.int IntKind.i64 v0].length) - 1)).toNat (v8 ++ [v0])) (0 + (IntKind.i64.wrap (iN (IntKind.i64.wrap (iN ((List.map (AV.int IntKind.i64) v8).length + [AV.int IntKind.i64 v0].length) - 1)).toNat - 1)).toNat) fun (x188 : Int) =>
     gu (0 ≤ x188) <|
     gu (x188 < iN (v2.set (0 + v0.toNat) (IntKind.i64.wrap (v6 + 1))).length) <|
     el (v2.set (0 + v0.toNat) (IntKind.i64.wrap (v6 + 1))) (0 + x188.toNat) fun (x200 : Int) =>
     gu (v0 < iN (v2.set (0 + v0.toNat) (IntKind.i64.wrap (v6 + 1))).length) <|
     el (v2.set (0 + v0.toNat) (IntKind.i64.wrap (v6 + 1))) (0 + v0.toNat) fun (x207 : Int) =>
     gu ((0 + x188.toNat).succ.le (List.map (AV.int IntKind.i64) (v2.set (0 + v0.toNat) (IntKind.i64.wrap (v6 + 1)))).length) <|
     some (.inl (.l1 (x188) (v1.set (0 + v0.toNat) (IntKind.i64.wrap (v6 + 1))) ((v2.set (0 + v0.toNat) (IntKind.i64.wrap (v6 + 1))).set (0 + x188.toNat) (if x207 < x200 then x207 else x200)) (v3) ((IntKind.i64.wrap (iN ((List.map (AV.int IntKind.i64) v8).length + [AV.int IntKind.i64 v0].length) - 1)).toNat) (cmH (v5 ++ [v0]) v0) (IntKind.i64.wrap (v6 + 1)) (cmN v7 (v5 ++ [v0]) v0) (List.take (IntKind.i64.wrap (iN ((List.map (AV.int IntKind.i64) v8).length + [AV.int IntKind.i64 v0].length) - 1)).toNat (v8 ++ [v0])))))
    (some (.inr ([some (Blk.mk [AV.agg [AV.lst (gL g), AV.lst (boL sh), AV.sl 1 0 (v1.set (0 + v0.toNat) (IntKind.i64.wrap (v6 + 1))).length, AV.sl 2 0 (v2.set (0 + v0.toNat) (IntKind.i64.wrap (v6 + 1))).length, AV.sl 3 0 v3.length, AV.sl 4 0 (IntKind.i64.wrap (iN ((List.map (AV.int IntKind.i64) v8).length + [AV.int IntKind.i64 v0].length) - 1)).toNat, AV.sl 5 0 (cmH (v5 ++ [v0]) v0).length, AV.int IntKind.i64 (IntKind.i64.wrap (v6 + 1)), AV.sl 6 0 (cmN v7 (v5 ++ [v0]) v0).length]] 9 false true none), some (Blk.mk (List.map (AV.int IntKind.i64) (v1.set (0 + v0.toNat) (IntKind.i64.wrap (v6 + 1)))) 1 true true none), some (Blk.mk (List.map (AV.int IntKind.i64) (v2.set (0 + v0.toNat) (IntKind.i64.wrap (v6 + 1)))) 1 true true none), some (Blk.mk (List.map (AV.int IntKind.i64) v3) 1 true true none), some (Blk.mk (List.map (AV.int IntKind.i64) (List.take (IntKind.i64.wrap (iN ((List.map (AV.int IntKind.i64) v8).length + [AV.int IntKind.i64 v0].length) - 1)).toNat (v8 ++ [v0]))) 1 true true none), some (Blk.mk (List.map (AV.int IntKind.i64) (cmH (v5 ++ [v0]) v0)) 1 true true none), some (Blk.mk (List.map (AV.int IntKind.i64) (cmN v7 (v5 ++ [v0]) v0)) 1 true true none)], AV.tup []))))
   (br (decide (0 < iN (IntKind.i64.wrap (iN ((List.map (AV.int IntKind.i64) v8).length + [AV.int IntKind.i64 v0].length) - 1)).toNat))
    (gu (0 ≤ IntKind.i64.wrap (iN (IntKind.i64.wrap (iN ((List.map (AV.int IntKind.i64) v8).length + [AV.int IntKind.i64 v0].length) - 1)).toNat - 1)) <|
     gu (IntKind.i64.wrap (iN (IntKind.i64.wrap (iN ((List.map (AV.int IntKind.i64) v8).length + [AV.int IntKind.i64 v0].length) - 1)).toNat - 1) < iN (IntKind.i64.wrap (iN ((List.map (AV.int IntKind.i64) v8).length + [AV.int IntKind.i64 v0].length) - 1)).toNat) <|
     el (List.take (IntKind.i64.wrap (iN ((List.map (AV.int IntKind.i64) v8).length + [AV.int IntKind.i64 v0].length) - 1)).toNat (v8 ++ [v0])) (0 + (IntKind.i64.wrap (iN (IntKind.i64.wrap (iN ((List.map (AV.int IntKind.i64) v8).length + [AV.int IntKind.i64 v0].length) - 1)).toNat - 1)).toNat) fun (x188 : Int) =>
     gu (0 ≤ x188) <|
     gu (x188 < iN v2.length) <|
     el (v2.set (0 + v0.toNat) (IntKind.i64.wrap (v6 + 1))) (0 + x188.toNat) fun (x200 : Int) =>
     el (v2.set (0 + v0.toNat) (IntKind.i64.wrap (v6 + 1))) (0 + v0.toNat) fun (x207 : Int) =>
     gu ((0 + x188.toNat).succ.le ((List.map (AV.int IntKind.i64) v2).set (0 + v0.toNat) (AV.int IntKind.i64 (IntKind.i64.wrap (v6 + 1)))).length) <|
     some (.inl (.l1 (x188) (v1.set (0 + v0.toNat) (IntKind.i64.wrap (v6 + 1))) ((v2.set (0 + v0.toNat) (IntKind.i64.wrap (v6 + 1))).set (0 + x188.toNat) (if x207 < x200 then x207 else x200)) (v3) ((IntKind.i64.wrap (iN ((List.map (AV.int IntKind.i64) v8).length + [AV.int IntKind.i64 v0].length) - 1)).toNat) (v5 ++ [v0]) (IntKind.i64.wrap (v6 + 1)) (v7) (List.take (IntKind.i64.wrap (iN ((List.map (AV.int IntKind.i64) v8).length + [AV.int IntKind.i64 v0].length) - 1)).toNat (v8 ++ [v0])))))
    (some (.inr ([some (Blk.mk [AV.agg [AV.lst (gL g), AV.lst (boL sh), AV.sl 1 0 v1.length, AV.sl 2 0 v2.length, AV.sl 3 0 v3.length, AV.sl 4 0 (IntKind.i64.wrap (iN ((List.map (AV.int IntKind.i64) v8).length + [AV.int IntKind.i64 v0].length) - 1)).toNat, AV.sl 5 0 ((List.map (AV.int IntKind.i64) v5).length + [AV.int IntKind.i64 v0].length), AV.int IntKind.i64 (IntKind.i64.wrap (v6 + 1)), AV.sl 6 0 v7.length]] 9 false true none), some (Blk.mk ((List.map (AV.int IntKind.i64) v1).set (0 + v0.toNat) (AV.int IntKind.i64 (IntKind.i64.wrap (v6 + 1)))) 1 true true none), some (Blk.mk ((List.map (AV.int IntKind.i64) v2).set (0 + v0.toNat) (AV.int IntKind.i64 (IntKind.i64.wrap (v6 + 1)))) 1 true true none), some (Blk.mk (List.map (AV.int IntKind.i64) v3) 1 true true none), some (Blk.mk (List.take (IntKind.i64.wrap (iN ((List.map (AV.int IntKind.i64) v8).length + [AV.int IntKind.i64 v0].length) - 1)).toNat (List.map (AV.int IntKind.i64) v8 ++ [AV.int IntKind.i64 v0])) 1 true true none), some (Blk.mk (List.map (AV.int IntKind.i64) v5 ++ [AV.int IntKind.i64 v0]) 1 true true none), some (Blk.mk (List.map (AV.int IntKind.i64) v7) 1 true true none)], AV.tup [])))))
noncomputable def frmS1 (g : List (List Int)) (sh : List Bool) (se lo ati pa hd nm : List Int) (c q : Int) (v0 : Int) (v1 : List Int) (v2 : List Int) (v3 : List Int) (v4 : Nat) (v5 : List Int) (v6 : Int) (v7 : List Int) (v8 : List Int) : Option (frmPc ⊕ Ret) :=
  gu (0 ≤ v0) <|
  gu (v0 < iN v3.length) <|
  el (v3) (0 + v0.toNat) fun (x58 : Int) =>
  el (g) (v0.toNat) fun (x64 : List Int) =>
  br (decide (x58 < iN (List.map (AV.int IntKind.i64) x64).length))
  (el (g) (v0.toNat) fun (x73 : List Int) =>
   el (v3) (0 + v0.toNat) fun (x81 : Int) =>
   gu (0 ≤ x81) <|
   el (x73) (x81.toNat) fun (x82 : Int) =>
   el (v3) (0 + v0.toNat) fun (x90 : Int) =>
   gu ((0 + v0.toNat).succ.le (List.map (AV.int IntKind.i64) v3).length) <|
   gu (0 ≤ x82) <|
   el (sh) (x82.toNat) fun (x98 : Bool) =>
   br (x98)
   (some (.inl (.l1 (v0) (v1) (v2) (v3.set (0 + v0.toNat) (IntKind.i64.wrap (x90 + 1))) (v4) (v5) (v6) (v7) (v8))))
   (gu (x82 < iN v1.length) <|
    el (v1) (0 + x82.toNat) fun (x106 : Int) =>
    br (x106 == 0)
    (some (.inl (.l0 (x82) (v1) (v2) (v3.set (0 + v0.toNat) (IntKind.i64.wrap (x90 + 1))) (v4) (v5) (v6) (v7) (v8))))
    (gu (x82 < iN v7.length) <|
     el (v7) (0 + x82.toNat) fun (x115 : Int) =>
     br (decide (x115 < 0))
     (gu (v0 < iN v2.length) <|
      el (v2) (0 + v0.toNat) fun (x128 : Int) =>
      el (v1) (0 + x82.toNat) fun (x135 : Int) =>
      gu ((0 + v0.toNat).succ.le (List.map (AV.int IntKind.i64) v2).length) <|
      some (.inl (.l1 (v0) (v1) (v2.set (0 + v0.toNat) (if x135 < x128 then x135 else x128)) (v3.set (0 + v0.toNat) (IntKind.i64.wrap (x90 + 1))) (v4) (v5) (v6) (v7) (v8))))
     (some (.inl (.l1 (v0) (v1) (v2) (v3.set (0 + v0.toNat) (IntKind.i64.wrap (x90 + 1))) (v4) (v5) (v6) (v7) (v8)))))))
  (gu (0 ≤ IntKind.i64.wrap (iN v4 - 1)) <|
   gu (IntKind.i64.wrap (iN v4 - 1) ≤ iN v4) <|
   gu (v0 < iN v2.length) <|
   el (v2) (0 + v0.toNat) fun (x158 : Int) =>
   gu (v0 < iN v1.length) <|
   el (v1) (0 + v0.toNat) fun (x165 : Int) =>
   br (x158 == x165)
   (gu (CmI v5 v7 v0 ∧ v1.length = v1.length ∧ v2.length = v2.length ∧ v3.length = v3.length ∧ (IntKind.i64.wrap (iN v4 - 1)).toNat = (List.take (IntKind.i64.wrap (iN v4 - 1)).toNat v8).length ∧ v5.length = v5.length ∧ v7.length = v7.length) <|
    br (decide (0 < iN (IntKind.i64.wrap (iN v4 - 1)).toNat))
    (gu (0 ≤ IntKind.i64.wrap (iN (IntKind.i64.wrap (iN v4 - 1)).toNat - 1)) <|
     gu (IntKind.i64.wrap (iN (IntKind.i64.wrap (iN v4 - 1)).toNat - 1) < iN (IntKind.i64.wrap (iN v4 - 1)).toNat) <|
     el (List.take (IntKind.i64.wrap (iN v4 - 1)).toNat v8) (0 + (IntKind.i64.wrap (iN (IntKind.i64.wrap (iN v4 - 1)).toNat - 1)).toNat) fun (x188 : Int) =>
     gu (0 ≤ x188) <|
     gu (x188 < iN v2.length) <|
     el (v2) (0 + x188.toNat) fun (x200 : Int) =>
     el (v2) (0 + v0.toNat) fun (x207 : Int) =>
     gu ((0 + x188.toNat).succ.le (List.map (AV.int IntKind.i64) v2).length) <|
     some (.inl (.l1 (x188) (v1) (v2.set (0 + x188.toNat) (if x207 < x200 then x207 else x200)) (v3) ((IntKind.i64.wrap (iN v4 - 1)).toNat) (cmH v5 v0) (v6) (cmN v7 v5 v0) (List.take (IntKind.i64.wrap (iN v4 - 1)).toNat v8))))
    (some (.inr ([some (Blk.mk [AV.agg [AV.lst (gL g), AV.lst (boL sh), AV.sl 1 0 v1.length, AV.sl 2 0 v2.length, AV.sl 3 0 v3.length, AV.sl 4 0 (IntKind.i64.wrap (iN v4 - 1)).toNat, AV.sl 5 0 (cmH v5 v0).length, AV.int IntKind.i64 v6, AV.sl 6 0 (cmN v7 v5 v0).length]] 9 false true none), some (Blk.mk (List.map (AV.int IntKind.i64) v1) 1 true true none), some (Blk.mk (List.map (AV.int IntKind.i64) v2) 1 true true none), some (Blk.mk (List.map (AV.int IntKind.i64) v3) 1 true true none), some (Blk.mk (List.map (AV.int IntKind.i64) (List.take (IntKind.i64.wrap (iN v4 - 1)).toNat v8)) 1 true true none), some (Blk.mk (List.map (AV.int IntKind.i64) (cmH v5 v0)) 1 true true none), some (Blk.mk (List.map (AV.int IntKind.i64) (cmN v7 v5 v0)) 1 true true none)], AV.tup []))))
   (br (decide (0 < iN (IntKind.i64.wrap (iN v4 - 1)).toNat))
    (gu (0 ≤ IntKind.i64.wrap (iN (IntKind.i64.wrap (iN v4 - 1)).toNat - 1)) <|
     gu (IntKind.i64.wrap (iN (IntKind.i64.wrap (iN v4 - 1)).toNat - 1) < iN (IntKind.i64.wrap (iN v4 - 1)).toNat) <|
     el (List.take (IntKind.i64.wrap (iN v4 - 1)).toNat v8) (0 + (IntKind.i64.wrap (iN (IntKind.i64.wrap (iN v4 - 1)).toNat - 1)).toNat) fun (x188 : Int) =>
     gu (0 ≤ x188) <|
     gu (x188 < iN v2.length) <|
     el (v2) (0 + x188.toNat) fun (x200 : Int) =>
     el (v2) (0 + v0.toNat) fun (x207 : Int) =>
     gu ((0 + x188.toNat).succ.le (List.map (AV.int IntKind.i64) v2).length) <|
     some (.inl (.l1 (x188) (v1) (v2.set (0 + x188.toNat) (if x207 < x200 then x207 else x200)) (v3) ((IntKind.i64.wrap (iN v4 - 1)).toNat) (v5) (v6) (v7) (List.take (IntKind.i64.wrap (iN v4 - 1)).toNat v8))))
    (some (.inr ([some (Blk.mk [AV.agg [AV.lst (gL g), AV.lst (boL sh), AV.sl 1 0 v1.length, AV.sl 2 0 v2.length, AV.sl 3 0 v3.length, AV.sl 4 0 (IntKind.i64.wrap (iN v4 - 1)).toNat, AV.sl 5 0 v5.length, AV.int IntKind.i64 v6, AV.sl 6 0 v7.length]] 9 false true none), some (Blk.mk (List.map (AV.int IntKind.i64) v1) 1 true true none), some (Blk.mk (List.map (AV.int IntKind.i64) v2) 1 true true none), some (Blk.mk (List.map (AV.int IntKind.i64) v3) 1 true true none), some (Blk.mk (List.take (IntKind.i64.wrap (iN v4 - 1)).toNat (List.map (AV.int IntKind.i64) v8)) 1 true true none), some (Blk.mk (List.map (AV.int IntKind.i64) v5) 1 true true none), some (Blk.mk (List.map (AV.int IntKind.i64) v7) 1 true true none)], AV.tup [])))))
noncomputable def frmStep (g : List (List Int)) (sh : List Bool) (se lo ati pa hd nm : List Int) (c q : Int) : frmPc → Option (frmPc ⊕ Ret)
  | .l0 v0 v1 v2 v3 v4 v5 v6 v7 v8 => frmS0 g sh se lo ati pa hd nm c q v0 v1 v2 v3 v4 v5 v6 v7 v8
  | .l1 v0 v1 v2 v3 v4 v5 v6 v7 v8 => frmS1 g sh se lo ati pa hd nm c q v0 v1 v2 v3 v4 v5 v6 v7 v8
theorem frmEn_ok (g : List (List Int)) (sh : List Bool) (se lo ati pa hd nm : List Int) (c q : Int) (o : frmPc ⊕ Ret) (h : frmEn g sh se lo ati pa hd nm c q = some o) : Arr Try.prog Try.f19 1 (frmSt g sh se lo ati pa hd nm c q) frmHd (bodyOf Try.f19) [] { n := Try.f19.ntmps, fr := enumF 0 ([.ptr 0 0 0, .int .i64 q]), hp := ([some { es := [srA g sh (.sl 1 0 se.length) (.sl 2 0 lo.length) (.sl 3 0 ati.length) (.sl 5 0 pa.length) (.sl 6 0 hd.length) c (.sl 4 0 nm.length)], z := 9, flat := false }, some { es := se.map (AV.int .i64), z := 1 }, some { es := lo.map (AV.int .i64), z := 1 }, some { es := ati.map (AV.int .i64), z := 1 }, some { es := nm.map (AV.int .i64), z := 1 }, some { es := pa.map (AV.int .i64), z := 1 }, some { es := hd.map (AV.int .i64), z := 1 }]) } o :=
 Scr.ok h mix (
 .rn 1 [] [] [] [] (u2 (al (u2 (u2 (u2 (u2 (u2 (u2 (u2 (al t3)))))))))) <|
 .gu fun a0 =>
 .gu fun a1 =>
 .gu fun a2 =>
 .gu fun a3 =>
 .gu fun a4 =>
 .rn 0 [] [] [] [] (al (u2 (u2 (u2 (u2 (u2 (u2 (u2 (u2 (u2 (u2 (u2 (u2 (u2 (u2 (u2 (u2 (u2 (u2 (aj (k2 (aj a0 a1)) (aj (k2 a2) (aj (k2 (aj a0 a3)) (al (k2 a4)))))))))))))))))))))))) <|
 .gu fun a5 =>
 .gu fun a6 =>
 .gu fun a7 =>
 .gu fun a8 =>
 .rn 0 [] [] [] [] (al (u2 (u2 (u2 (u2 (u2 (u2 (u2 (u2 (aj (k2 (aj (show (List.map (iv) pa).length = pa.length by simp) (aj (aj (show nat_lit 1 = nat_lit 1 from rfl) (show 1 ≤ [iv q].length by simp)) (aj a5 a6)))) (u2 (u2 (u2 (u2 (u2 (u2 (aj (k2 (aj (show (List.map (iv) hd).length = hd.length by simp) (aj (aj (show nat_lit 1 = nat_lit 1 from rfl) (show 1 ≤ [iv q].length by simp)) (aj a7 a8)))) (u2 (u2 (aj t3 (u2 (u2 (al t3))))))))))))))))))))))) <|
 .gu fun a9 =>
 .el fun x58 a10 =>
 .el fun x64 a11 =>
 .rn 0 [] [(58, iv x58), (64, lI x64)] [] [] (al (u2 (u2 (u2 (u2 (u2 (aj (k2 (aj a0 a9)) (aj (ak (getMap (f := iv) a10)) (u2 (u2 (u2 (u2 (u2 (aj (k2 (aj a0 (getMap (f := lI) a11))) (u2 (u2 (al t3))))))))))))))))) <|
 .br (fun a12 =>
 .el fun x73 a13 =>
 .el fun x81 a14 =>
 .gu fun a15 =>
 .el fun x82 a16 =>
 .rn 0 [135] [(73, lI x73), (81, iv x81), (82, iv x82)] [] [] (aj a12 (al (u2 (u2 (u2 (u2 (u2 (aj (k2 (aj a0 (getMap (f := lI) a13))) (u2 (u2 (u2 (u2 (u2 (u2 (aj (k2 (aj a0 a9)) (aj (ak (getMap (f := iv) a14)) (aj (k2 (aj a15 (getMap (f := iv) a16))) (u2 s2)))))))))))))))))) <|
 .el fun x90 a17 =>
 .gu fun a18 =>
 .rn 0 [] [(90, iv x90)] [] [] (al (u2 (u2 (u2 (u2 (u2 (aj (k2 (aj a0 a9)) (aj (ak (getMap (f := iv) a17)) (u2 (aj (k2 (aj a0 a9)) (al (k2 a18)))))))))))) <|
 .gu fun a19 =>
 .el fun x98 a20 =>
 .rn 0 [] [(98, AV.bool x98)] [] [] (al (u2 (u2 (u2 (u2 (u2 (aj (k2 (aj a19 (getMap (f := AV.bool) a20))) s2))))))) <|
 .br (fun a21 =>
  .lq [199] [] [] [] [] [0, 1, 2, 3, 8, 10, 4] [0, 1] (up [] [(0, [AV.agg [AV.lst (gL g), AV.lst (boL sh), AV.sl 1 0 se.length, AV.sl 2 0 lo.length, AV.sl 3 0 ati.length, AV.sl 4 0 ((List.map (iv) pa).length + [iv q].length), AV.sl 5 0 ((List.map (iv) hd).length + [iv q].length), iv (IntKind.i64.wrap (c + 1)), AV.sl 6 0 nm.length]]), (1, (List.map (iv) se).set (0 + q.toNat) (iv (IntKind.i64.wrap (c + 1)))), (2, (List.map (iv) lo).set (0 + q.toNat) (iv (IntKind.i64.wrap (c + 1)))), (3, (List.map (iv) ati).set (0 + q.toNat) (iv (IntKind.i64.wrap (x90 + 1)))), (4, List.map (iv) pa ++ [iv q]), (5, List.map (iv) hd ++ [iv q])] (frmSt g sh se lo ati pa hd nm c q (.l1 (q) (se.set (0 + q.toNat) (IntKind.i64.wrap (c + 1))) (lo.set (0 + q.toNat) (IntKind.i64.wrap (c + 1))) (ati.set (0 + q.toNat) (IntKind.i64.wrap (x90 + 1))) ((List.map (iv) pa).length + [iv q].length) (hd ++ [q]) (IntKind.i64.wrap (c + 1)) (nm) (pa ++ [q])))) (aj (al a21) (k2 (aj (al (ak t9)) t7))) (by simp [up, upF, upV, upH, upB, frmSt, gL, boL, lI]))
 (fun a21 =>
  .gu fun a22 =>
  .el fun x106 a23 =>
  .rn 0 [198] [(106, iv x106)] [] [] (aj a21 (al (u2 (u2 (u2 (u2 (u2 (aj (k2 (aj a19 a22)) (aj (ak (show ((List.map (iv) se).set (0 + q.toNat) (iv (IntKind.i64.wrap (c + 1))))[0 + x82.toNat]? = some (iv x106) from getMapE (f := iv) a23 (by first | (simp only [boL, List.map_append, List.map_set, List.map_take, List.map_drop, List.map_replicate, List.nil_append]; done) | (simp only [boL, List.map_append, List.map_set, List.map_take, List.map_drop, List.map_replicate, List.nil_append]; rfl) | (simp [gL, boL, lI]; done) | (simp [gL, boL, lI]; rfl) | (simp only [boL, List.map_append, List.map_set, List.map_cons, List.map_nil]; rfl)))) s2))))))))) <|
  .br (fun a24 =>
  .lq [215] [] [] [] [] [0, 1, 2, 3, 8, 10, 4] [0, 1] (up [] [(0, [AV.agg [AV.lst (gL g), AV.lst (boL sh), AV.sl 1 0 se.length, AV.sl 2 0 lo.length, AV.sl 3 0 ati.length, AV.sl 4 0 ((List.map (iv) pa).length + [iv q].length), AV.sl 5 0 ((List.map (iv) hd).length + [iv q].length), iv (IntKind.i64.wrap (c + 1)), AV.sl 6 0 nm.length]]), (1, (List.map (iv) se).set (0 + q.toNat) (iv (IntKind.i64.wrap (c + 1)))), (2, (List.map (iv) lo).set (0 + q.toNat) (iv (IntKind.i64.wrap (c + 1)))), (3, (List.map (iv) ati).set (0 + q.toNat) (iv (IntKind.i64.wrap (x90 + 1)))), (4, List.map (iv) pa ++ [iv q]), (5, List.map (iv) hd ++ [iv q])] (frmSt g sh se lo ati pa hd nm c q (.l0 (x82) (se.set (0 + q.toNat) (IntKind.i64.wrap (c + 1))) (lo.set (0 + q.toNat) (IntKind.i64.wrap (c + 1))) (ati.set (0 + q.toNat) (IntKind.i64.wrap (x90 + 1))) ((List.map (iv) pa).length + [iv q].length) (hd ++ [q]) (IntKind.i64.wrap (c + 1)) (nm) (pa ++ [q])))) (aj (aj a24 (al (u2 s2))) (k2 (aj (al (ak t9)) t7))) (by simp [up, upF, upV, upH, upB, frmSt, gL, boL, lI]))
  (fun a24 =>
  .gu fun a25 =>
  .el fun x115 a26 =>
  .rn 0 [214] [(115, iv x115)] [] [] (aj a24 (al (u2 (u2 (u2 (u2 (u2 (aj (k2 (aj a19 a25)) (aj (ak (getMap (f := iv) a26)) s2))))))))) <|
  .br (fun a27 =>
   .el fun x128 a28 =>
   .el fun x135 a29 =>
   .gu fun a30 =>
   .lq [233] [(128, iv x128), (135, iv x135)] [] [] [] [0, 1, 2, 3, 8, 10, 4] [0, 1] (up [] [(0, [AV.agg [AV.lst (gL g), AV.lst (boL sh), AV.sl 1 0 se.length, AV.sl 2 0 lo.length, AV.sl 3 0 ati.length, AV.sl 4 0 ((List.map (iv) pa).length + [iv q].length), AV.sl 5 0 ((List.map (iv) hd).length + [iv q].length), iv (IntKind.i64.wrap (c + 1)), AV.sl 6 0 nm.length]]), (1, (List.map (iv) se).set (0 + q.toNat) (iv (IntKind.i64.wrap (c + 1)))), (2, ((List.map (iv) lo).set (0 + q.toNat) (iv (IntKind.i64.wrap (c + 1)))).set (0 + q.toNat) (iv (if x135 < x128 then x135 else x128))), (3, (List.map (iv) ati).set (0 + q.toNat) (iv (IntKind.i64.wrap (x90 + 1)))), (4, List.map (iv) pa ++ [iv q]), (5, List.map (iv) hd ++ [iv q])] (frmSt g sh se lo ati pa hd nm c q (.l1 (q) (se.set (0 + q.toNat) (IntKind.i64.wrap (c + 1))) ((lo.set (0 + q.toNat) (IntKind.i64.wrap (c + 1))).set (0 + q.toNat) (if x135 < x128 then x135 else x128)) (ati.set (0 + q.toNat) (IntKind.i64.wrap (x90 + 1))) ((List.map (iv) pa).length + [iv q].length) (hd ++ [q]) (IntKind.i64.wrap (c + 1)) (nm) (pa ++ [q])))) (aj (aj a27 (al (u2 (u2 (u2 (u2 (u2 (u2 (u2 (u2 (u2 (u2 (aj (k2 (aj a0 a3)) (aj (ak (show ((List.map (iv) lo).set (0 + q.toNat) (iv (IntKind.i64.wrap (c + 1))))[0 + q.toNat]? = some (iv x128) from getMapE (f := iv) a28 (by first | (simp only [boL, List.map_append, List.map_set, List.map_take, List.map_drop, List.map_replicate, List.nil_append]; done) | (simp only [boL, List.map_append, List.map_set, List.map_take, List.map_drop, List.map_replicate, List.nil_append]; rfl) | (simp [gL, boL, lI]; done) | (simp [gL, boL, lI]; rfl) | (simp only [boL, List.map_append, List.map_set, List.map_cons, List.map_nil]; rfl)))) (u2 (u2 (u2 (u2 (u2 (aj (k2 (aj a19 a22)) (aj (ak (show ((List.map (iv) se).set (0 + q.toNat) (iv (IntKind.i64.wrap (c + 1))))[0 + x82.toNat]? = some (iv x135) from getMapE (f := iv) a29 (by first | (simp only [boL, List.map_append, List.map_set, List.map_take, List.map_drop, List.map_replicate, List.nil_append]; done) | (simp only [boL, List.map_append, List.map_set, List.map_take, List.map_drop, List.map_replicate, List.nil_append]; rfl) | (simp [gL, boL, lI]; done) | (simp [gL, boL, lI]; rfl) | (simp only [boL, List.map_append, List.map_set, List.map_cons, List.map_nil]; rfl)))) (aj t3 (aj (k2 (aj a0 a3)) (al (k2 a30))))))))))))))))))))))))) (k2 (aj (al (ak t9)) t7))) (by simp [up, upF, upV, upH, upB, frmSt, gL, boL, lI]))
  (fun a27 =>
   .lq [232] [] [] [] [] [0, 1, 2, 3, 8, 10, 4] [0, 1] (up [] [(0, [AV.agg [AV.lst (gL g), AV.lst (boL sh), AV.sl 1 0 se.length, AV.sl 2 0 lo.length, AV.sl 3 0 ati.length, AV.sl 4 0 ((List.map (iv) pa).length + [iv q].length), AV.sl 5 0 ((List.map (iv) hd).length + [iv q].length), iv (IntKind.i64.wrap (c + 1)), AV.sl 6 0 nm.length]]), (1, (List.map (iv) se).set (0 + q.toNat) (iv (IntKind.i64.wrap (c + 1)))), (2, (List.map (iv) lo).set (0 + q.toNat) (iv (IntKind.i64.wrap (c + 1)))), (3, (List.map (iv) ati).set (0 + q.toNat) (iv (IntKind.i64.wrap (x90 + 1)))), (4, List.map (iv) pa ++ [iv q]), (5, List.map (iv) hd ++ [iv q])] (frmSt g sh se lo ati pa hd nm c q (.l1 (q) (se.set (0 + q.toNat) (IntKind.i64.wrap (c + 1))) (lo.set (0 + q.toNat) (IntKind.i64.wrap (c + 1))) (ati.set (0 + q.toNat) (IntKind.i64.wrap (x90 + 1))) ((List.map (iv) pa).length + [iv q].length) (hd ++ [q]) (IntKind.i64.wrap (c + 1)) (nm) (pa ++ [q])))) (aj (al a27) (k2 (aj (al (ak t9)) t7))) (by simp [up, upF, upV, upH, upB, frmSt, gL, boL, lI])))))
 (fun a12 =>
 .gu fun a13 =>
 .gu fun a14 =>
 .rn 0 [134] [(149, AV.unk)] [] [] (aj a12 (al (u2 (u2 (u2 (u2 (u2 (u2 (u2 (u2 (u2 (u2 (u2 (aj (k2 (aj a13 a14)) (u2 (u2 (al t3))))))))))))))))) <|
 .el fun x158 a15 =>
 .el fun x165 a16 =>
 .rn 0 [] [(158, iv x158), (165, iv x165)] [] [] (al (u2 (u2 (u2 (u2 (u2 (aj (k2 (aj a0 a3)) (aj (ak (show ((List.map (iv) lo).set (0 + q.toNat) (iv (IntKind.i64.wrap (c + 1))))[0 + q.toNat]? = some (iv x158) from getMapE (f := iv) a15 (by first | (simp only [boL, List.map_append, List.map_set, List.map_take, List.map_drop, List.map_replicate, List.nil_append]; done) | (simp only [boL, List.map_append, List.map_set, List.map_take, List.map_drop, List.map_replicate, List.nil_append]; rfl) | (simp [gL, boL, lI]; done) | (simp [gL, boL, lI]; rfl) | (simp only [boL, List.map_append, List.map_set, List.map_cons, List.map_nil]; rfl)))) (u2 (u2 (u2 (u2 (u2 (aj (k2 (aj a0 a1)) (aj (ak (show ((List.map (iv) se).set (0 + q.toNat) (iv (IntKind.i64.wrap (c + 1))))[0 + q.toNat]? = some (iv x165) from getMapE (f := iv) a16 (by first | (simp only [boL, List.map_append, List.map_set, List.map_take, List.map_drop, List.map_replicate, List.nil_append]; done) | (simp only [boL, List.map_append, List.map_set, List.map_take, List.map_drop, List.map_replicate, List.nil_append]; rfl) | (simp [gL, boL, lI]; done) | (simp [gL, boL, lI]; rfl) | (simp only [boL, List.map_append, List.map_set, List.map_cons, List.map_nil]; rfl)))) (al t3)))))))))))))))) <|
 .br (fun a17 =>
  .gu fun a18 =>
  have c0 := cmp_c (g) (sh) (se.set (0 + q.toNat) (IntKind.i64.wrap (c + 1))) (lo.set (0 + q.toNat) (IntKind.i64.wrap (c + 1))) (ati) (List.take (IntKind.i64.wrap (iN ((List.map (iv) pa).length + [iv q].length) - 1)).toNat (pa ++ [q])) (hd ++ [q]) (nm) (IntKind.i64.wrap (c + 1)) (q) (se.length) (lo.length) (ati.length) ((IntKind.i64.wrap (iN ((List.map (iv) pa).length + [iv q].length) - 1)).toNat) ((List.map (iv) hd).length + [iv q].length) (nm.length) a18;
  .rn 1 [333] [] [(169, hKO c0 [0, 1, 2, 3, 4, 8, 10] [])] [] (aj a17 (aj (u2 (u2 (al (ak (k3 (aj (al (ak t9)) (ak (k5 (show CTX Try.prog 23 [some (Blk.mk [AV.agg [AV.lst (gL g), AV.lst (boL sh), AV.sl 1 0 se.length, AV.sl 2 0 lo.length, AV.sl 3 0 ati.length, AV.sl 5 0 (IntKind.i64.wrap (iN ((List.map (iv) pa).length + [iv q].length) - 1)).toNat, AV.sl 6 0 ((List.map (iv) hd).length + [iv q].length), iv (IntKind.i64.wrap (c + 1)), AV.sl 4 0 nm.length]] 9 false true none), some (Blk.mk ((List.map (iv) se).set (0 + q.toNat) (iv (IntKind.i64.wrap (c + 1)))) 1 true true none), some (Blk.mk ((List.map (iv) lo).set (0 + q.toNat) (iv (IntKind.i64.wrap (c + 1)))) 1 true true none), some (Blk.mk (List.map (iv) ati) 1 true true none), some (Blk.mk (List.map (iv) nm) 1 true true none), some (Blk.mk (List.take (IntKind.i64.wrap (iN ((List.map (iv) pa).length + [iv q].length) - 1)).toNat (List.map (iv) pa ++ [iv q])) 1 true true none), some (Blk.mk (List.map (iv) hd ++ [iv q]) 1 true true none)] [AV.ptr 0 0 0, iv q] [some (Blk.mk [AV.agg [AV.lst (gL g), AV.lst (boL sh), AV.sl 1 0 (se.set (0 + q.toNat) (IntKind.i64.wrap (c + 1))).length, AV.sl 2 0 (lo.set (0 + q.toNat) (IntKind.i64.wrap (c + 1))).length, AV.sl 3 0 ati.length, AV.sl 4 0 (IntKind.i64.wrap (iN ((List.map (iv) pa).length + [iv q].length) - 1)).toNat, AV.sl 5 0 (cmH (hd ++ [q]) q).length, iv (IntKind.i64.wrap (c + 1)), AV.sl 6 0 (cmN nm (hd ++ [q]) q).length]] 9 false true none), some (Blk.mk (List.map (iv) (se.set (0 + q.toNat) (IntKind.i64.wrap (c + 1)))) 1 true true none), some (Blk.mk (List.map (iv) (lo.set (0 + q.toNat) (IntKind.i64.wrap (c + 1)))) 1 true true none), some (Blk.mk (List.map (iv) ati) 1 true true none), some (Blk.mk (List.map (iv) (List.take (IntKind.i64.wrap (iN ((List.map (iv) pa).length + [iv q].length) - 1)).toNat (pa ++ [q]))) 1 true true none), some (Blk.mk (List.map (iv) (cmH (hd ++ [q]) q)) 1 true true none), some (Blk.mk (List.map (iv) (cmN nm (hd ++ [q]) q)) 1 true true none)] (AV.tup []) from CTX.eqs (c0) (by first | (simp only [boL, List.map_append, List.map_set, List.map_take, List.map_drop, List.map_replicate, List.nil_append]; done) | (simp only [boL, List.map_append, List.map_set, List.map_take, List.map_drop, List.map_replicate, List.nil_append]; rfl) | (simp [gL, boL, lI]; done) | (simp [gL, boL, lI]; rfl) | (simp only [boL, List.map_append, List.map_set, List.map_cons, List.map_nil]; rfl)) (by first | (simp only [boL, List.map_append, List.map_set, List.map_take, List.map_drop, List.map_replicate, List.nil_append]; done) | (simp only [boL, List.map_append, List.map_set, List.map_take, List.map_drop, List.map_replicate, List.nil_append]; rfl) | (simp [gL, boL, lI]; done) | (simp [gL, boL, lI]; rfl) | (simp only [boL, List.map_append, List.map_set, List.map_cons, List.map_nil]; rfl))))))))))) (al (u2 (u2 (u2 (u2 (u2 s2)))))))) <|
  .br (fun a19 =>
  .gu fun a20 =>
  .gu fun a21 =>
  .el fun x188 a22 =>
  .rn 0 [351] [(188, iv x188)] [] [] (aj a19 (al (u2 (u2 (u2 (u2 (u2 (u2 (u2 (u2 (u2 (u2 (u2 (aj (k2 (aj a20 a21)) (aj (ak (getMap (f := iv) a22)) (u2 s2)))))))))))))))) <|
  .gu fun a23 =>
  .gu fun a24 =>
  .el fun x200 a25 =>
  .gu fun a26 =>
  .el fun x207 a27 =>
  .gu fun a28 =>
  .lq [] [(200, iv x200), (207, iv x207)] [] [] [] [0, 11, 12, 13, 14, 15, 16] [0, 1] (up [] [(0, [AV.agg [AV.lst (gL g), AV.lst (boL sh), AV.sl 1 0 (se.set (0 + q.toNat) (IntKind.i64.wrap (c + 1))).length, AV.sl 2 0 (lo.set (0 + q.toNat) (IntKind.i64.wrap (c + 1))).length, AV.sl 3 0 ati.length, AV.sl 4 0 (IntKind.i64.wrap (iN ((List.map (iv) pa).length + [iv q].length) - 1)).toNat, AV.sl 5 0 (cmH (hd ++ [q]) q).length, iv (IntKind.i64.wrap (c + 1)), AV.sl 6 0 (cmN nm (hd ++ [q]) q).length]]), (2, (List.map (iv) (lo.set (0 + q.toNat) (IntKind.i64.wrap (c + 1)))).set (0 + x188.toNat) (iv (if x207 < x200 then x207 else x200)))] (frmSt g sh se lo ati pa hd nm c q (.l1 (x188) (se.set (0 + q.toNat) (IntKind.i64.wrap (c + 1))) ((lo.set (0 + q.toNat) (IntKind.i64.wrap (c + 1))).set (0 + x188.toNat) (if x207 < x200 then x207 else x200)) (ati) ((IntKind.i64.wrap (iN ((List.map (iv) pa).length + [iv q].length) - 1)).toNat) (cmH (hd ++ [q]) q) (IntKind.i64.wrap (c + 1)) (cmN nm (hd ++ [q]) q) (List.take (IntKind.i64.wrap (iN ((List.map (iv) pa).length + [iv q].length) - 1)).toNat (pa ++ [q]))))) (aj (al (u2 (u2 (u2 (u2 (u2 (u2 (u2 (u2 (u2 (u2 (aj (k2 (aj a23 a24)) (aj (ak (getMap (f := iv) a25)) (u2 (u2 (u2 (u2 (u2 (aj (k2 (aj a0 a26)) (aj (ak (getMap (f := iv) a27)) (aj t3 (aj (k2 (aj a23 a24)) (al (k2 a28)))))))))))))))))))))))) (k2 (aj (al (ak t9)) t7))) (by simp [up, upF, upV, upH, upB, frmSt, gL, boL, lI]))
  (fun a19 =>
  .rt [350] [] [] [] [0, 11, 12, 13, 14, 15, 16] [] (aj (al a19) (ak (aj (al (ak t9)) t7)))))
 (fun a17 =>
  .rn 0 [332] [] [] [] (aj a17 (al (u2 (u2 (u2 (u2 (u2 s2))))))) <|
  .br (fun a18 =>
  .gu fun a19 =>
  .gu fun a20 =>
  .el fun x188 a21 =>
  .rn 0 [351] [(188, iv x188)] [] [] (aj a18 (al (u2 (u2 (u2 (u2 (u2 (u2 (u2 (u2 (u2 (u2 (u2 (aj (k2 (aj a19 a20)) (aj (ak (show (List.take (IntKind.i64.wrap (iN ((List.map (iv) pa).length + [iv q].length) - 1)).toNat (List.map (iv) pa ++ [iv q]))[0 + (IntKind.i64.wrap (iN (IntKind.i64.wrap (iN ((List.map (iv) pa).length + [iv q].length) - 1)).toNat - 1)).toNat]? = some (iv x188) from getMapE (f := iv) a21 (by first | (simp only [boL, List.map_append, List.map_set, List.map_take, List.map_drop, List.map_replicate, List.nil_append]; done) | (simp only [boL, List.map_append, List.map_set, List.map_take, List.map_drop, List.map_replicate, List.nil_append]; rfl) | (simp [gL, boL, lI]; done) | (simp [gL, boL, lI]; rfl) | (simp only [boL, List.map_append, List.map_set, List.map_cons, List.map_nil]; rfl)))) (u2 s2)))))))))))))))) <|
  .gu fun a22 =>
  .gu fun a23 =>
  .el fun x200 a24 =>
  .el fun x207 a25 =>
  .gu fun a26 =>
  .lq [] [(200, iv x200), (207, iv x207)] [] [] [] [0, 1, 2, 3, 8, 10, 4] [0, 1] (up [] [(0, [AV.agg [AV.lst (gL g), AV.lst (boL sh), AV.sl 1 0 se.length, AV.sl 2 0 lo.length, AV.sl 3 0 ati.length, AV.sl 4 0 (IntKind.i64.wrap (iN ((List.map (iv) pa).length + [iv q].length) - 1)).toNat, AV.sl 5 0 ((List.map (iv) hd).length + [iv q].length), iv (IntKind.i64.wrap (c + 1)), AV.sl 6 0 nm.length]]), (1, (List.map (iv) se).set (0 + q.toNat) (iv (IntKind.i64.wrap (c + 1)))), (2, ((List.map (iv) lo).set (0 + q.toNat) (iv (IntKind.i64.wrap (c + 1)))).set (0 + x188.toNat) (iv (if x207 < x200 then x207 else x200))), (4, List.take (IntKind.i64.wrap (iN ((List.map (iv) pa).length + [iv q].length) - 1)).toNat (List.map (iv) pa ++ [iv q])), (5, List.map (iv) hd ++ [iv q])] (frmSt g sh se lo ati pa hd nm c q (.l1 (x188) (se.set (0 + q.toNat) (IntKind.i64.wrap (c + 1))) ((lo.set (0 + q.toNat) (IntKind.i64.wrap (c + 1))).set (0 + x188.toNat) (if x207 < x200 then x207 else x200)) (ati) ((IntKind.i64.wrap (iN ((List.map (iv) pa).length + [iv q].length) - 1)).toNat) (hd ++ [q]) (IntKind.i64.wrap (c + 1)) (nm) (List.take (IntKind.i64.wrap (iN ((List.map (iv) pa).length + [iv q].length) - 1)).toNat (pa ++ [q]))))) (aj (al (u2 (u2 (u2 (u2 (u2 (u2 (u2 (u2 (u2 (u2 (aj (k2 (aj a22 a23)) (aj (ak (show ((List.map (iv) lo).set (0 + q.toNat) (iv (IntKind.i64.wrap (c + 1))))[0 + x188.toNat]? = some (iv x200) from getMapE (f := iv) a24 (by first | (simp only [boL, List.map_append, List.map_set, List.map_take, List.map_drop, List.map_replicate, List.nil_append]; done) | (simp only [boL, List.map_append, List.map_set, List.map_take, List.map_drop, List.map_replicate, List.nil_append]; rfl) | (simp [gL, boL, lI]; done) | (simp [gL, boL, lI]; rfl) | (simp only [boL, List.map_append, List.map_set, List.map_cons, List.map_nil]; rfl)))) (u2 (u2 (u2 (u2 (u2 (aj (k2 (aj a0 a3)) (aj (ak (show ((List.map (iv) lo).set (0 + q.toNat) (iv (IntKind.i64.wrap (c + 1))))[0 + q.toNat]? = some (iv x207) from getMapE (f := iv) a25 (by first | (simp only [boL, List.map_append, List.map_set, List.map_take, List.map_drop, List.map_replicate, List.nil_append]; done) | (simp only [boL, List.map_append, List.map_set, List.map_take, List.map_drop, List.map_replicate, List.nil_append]; rfl) | (simp [gL, boL, lI]; done) | (simp [gL, boL, lI]; rfl) | (simp only [boL, List.map_append, List.map_set, List.map_cons, List.map_nil]; rfl)))) (aj t3 (aj (k2 (aj a22 a23)) (al (k2 a26)))))))))))))))))))))))) (k2 (aj (al (ak t9)) t7))) (by simp [up, upF, upV, upH, upB, frmSt, gL, boL, lI]))
  (fun a18 =>
  .rt [350] [] [] [] [0, 1, 2, 3, 8, 10, 4] [] (aj (al a18) (ak (aj (al (ak t9)) t7))))))) (by kernel_rfl)
theorem frmS0_ok (g : List (List Int)) (sh : List Bool) (se lo ati pa hd nm : List Int) (c q : Int) (v0 : Int) (v1 : List Int) (v2 : List Int) (v3 : List Int) (v4 : Nat) (v5 : List Int) (v6 : Int) (v7 : List Int) (v8 : List Int) (o : frmPc ⊕ Ret) (h : frmS0 g sh se lo ati pa hd nm c q v0 v1 v2 v3 v4 v5 v6 v7 v8 = some o) : Arr Try.prog Try.f19 1 (frmSt g sh se lo ati pa hd nm c q) frmHd (headC Try.f19 0) (headK Try.f19 0) (frmSt g sh se lo ati pa hd nm c q (.l0 v0 v1 v2 v3 v4 v5 v6 v7 v8)) o :=
 Scr.ok h mix (
 .rn 0 [] [] [] [] (al (u2 (u2 (u2 (u2 (u2 (u2 (u2 (al t3))))))))) <|
 .gu fun a0 =>
 .gu fun a1 =>
 .gu fun a2 =>
 .gu fun a3 =>
 .gu fun a4 =>
 .rn 0 [] [] [] [] (al (u2 (u2 (u2 (u2 (u2 (u2 (u2 (u2 (u2 (u2 (u2 (u2 (u2 (u2 (u2 (u2 (u2 (u2 (aj (k2 (aj a0 a1)) (aj (k2 a2) (aj (k2 (aj a0 a3)) (al (k2 a4)))))))))))))))))))))))) <|
 .gu fun a5 =>
 .gu fun a6 =>
 .gu fun a7 =>
 .gu fun a8 =>
 .gu fun a9 =>
 .rn 0 [] [] [] [] (al (u2 (u2 (u2 (u2 (u2 (u2 (u2 (u2 (aj (k2 (aj a5 (aj (aj (show nat_lit 1 = nat_lit 1 from rfl) (show 1 ≤ [iv v0].length by simp)) (aj a6 a7)))) (u2 (u2 (u2 (u2 (u2 (u2 (aj (k2 (aj (show (List.map (iv) v5).length = v5.length by simp) (aj (aj (show nat_lit 1 = nat_lit 1 from rfl) (show 1 ≤ [iv v0].length by simp)) (aj a8 a9)))) (u2 (u2 (aj t3 (u2 (u2 (al t3))))))))))))))))))))))) <|
 .gu fun a10 =>
 .el fun x58 a11 =>
 .el fun x64 a12 =>
 .rn 0 [] [(58, iv x58), (64, lI x64)] [] [] (al (u2 (u2 (u2 (u2 (u2 (aj (k2 (aj a0 a10)) (aj (ak (getMap (f := iv) a11)) (u2 (u2 (u2 (u2 (u2 (aj (k2 (aj a0 (getMap (f := lI) a12))) (u2 (u2 (al t3))))))))))))))))) <|
 .br (fun a13 =>
 .el fun x73 a14 =>
 .el fun x81 a15 =>
 .gu fun a16 =>
 .el fun x82 a17 =>
 .rn 0 [135] [(73, lI x73), (81, iv x81), (82, iv x82)] [] [] (aj a13 (al (u2 (u2 (u2 (u2 (u2 (aj (k2 (aj a0 (getMap (f := lI) a14))) (u2 (u2 (u2 (u2 (u2 (u2 (aj (k2 (aj a0 a10)) (aj (ak (getMap (f := iv) a15)) (aj (k2 (aj a16 (getMap (f := iv) a17))) (u2 s2)))))))))))))))))) <|
 .el fun x90 a18 =>
 .gu fun a19 =>
 .rn 0 [] [(90, iv x90)] [] [] (al (u2 (u2 (u2 (u2 (u2 (aj (k2 (aj a0 a10)) (aj (ak (getMap (f := iv) a18)) (u2 (aj (k2 (aj a0 a10)) (al (k2 a19)))))))))))) <|
 .gu fun a20 =>
 .el fun x98 a21 =>
 .rn 0 [] [(98, AV.bool x98)] [] [] (al (u2 (u2 (u2 (u2 (u2 (aj (k2 (aj a20 (getMap (f := AV.bool) a21))) s2))))))) <|
 .br (fun a22 =>
  .lq [199] [] [] [] [] [0, 1, 2, 3, 8, 10, 6] [0, 1] (up [] [(0, [AV.agg [AV.lst (gL g), AV.lst (boL sh), AV.sl 1 0 v1.length, AV.sl 2 0 v2.length, AV.sl 3 0 v3.length, AV.sl 4 0 ((List.map (iv) v8).length + [iv v0].length), AV.sl 5 0 ((List.map (iv) v5).length + [iv v0].length), iv (IntKind.i64.wrap (v6 + 1)), AV.sl 6 0 v7.length]]), (1, (List.map (iv) v1).set (0 + v0.toNat) (iv (IntKind.i64.wrap (v6 + 1)))), (2, (List.map (iv) v2).set (0 + v0.toNat) (iv (IntKind.i64.wrap (v6 + 1)))), (3, (List.map (iv) v3).set (0 + v0.toNat) (iv (IntKind.i64.wrap (x90 + 1)))), (4, List.map (iv) v8 ++ [iv v0]), (5, List.map (iv) v5 ++ [iv v0])] (frmSt g sh se lo ati pa hd nm c q (.l1 (v0) (v1.set (0 + v0.toNat) (IntKind.i64.wrap (v6 + 1))) (v2.set (0 + v0.toNat) (IntKind.i64.wrap (v6 + 1))) (v3.set (0 + v0.toNat) (IntKind.i64.wrap (x90 + 1))) ((List.map (iv) v8).length + [iv v0].length) (v5 ++ [v0]) (IntKind.i64.wrap (v6 + 1)) (v7) (v8 ++ [v0])))) (aj (al a22) (k2 (aj (al (ak t9)) t7))) (by simp [up, upF, upV, upH, upB, frmSt, gL, boL, lI]))
 (fun a22 =>
  .gu fun a23 =>
  .el fun x106 a24 =>
  .rn 0 [198] [(106, iv x106)] [] [] (aj a22 (al (u2 (u2 (u2 (u2 (u2 (aj (k2 (aj a20 a23)) (aj (ak (show ((List.map (iv) v1).set (0 + v0.toNat) (iv (IntKind.i64.wrap (v6 + 1))))[0 + x82.toNat]? = some (iv x106) from getMapE (f := iv) a24 (by first | (simp only [boL, List.map_append, List.map_set, List.map_take, List.map_drop, List.map_replicate, List.nil_append]; done) | (simp only [boL, List.map_append, List.map_set, List.map_take, List.map_drop, List.map_replicate, List.nil_append]; rfl) | (simp [gL, boL, lI]; done) | (simp [gL, boL, lI]; rfl) | (simp only [boL, List.map_append, List.map_set, List.map_cons, List.map_nil]; rfl)))) s2))))))))) <|
  .br (fun a25 =>
  .lq [215] [] [] [] [] [0, 1, 2, 3, 8, 10, 6] [0, 1] (up [] [(0, [AV.agg [AV.lst (gL g), AV.lst (boL sh), AV.sl 1 0 v1.length, AV.sl 2 0 v2.length, AV.sl 3 0 v3.length, AV.sl 4 0 ((List.map (iv) v8).length + [iv v0].length), AV.sl 5 0 ((List.map (iv) v5).length + [iv v0].length), iv (IntKind.i64.wrap (v6 + 1)), AV.sl 6 0 v7.length]]), (1, (List.map (iv) v1).set (0 + v0.toNat) (iv (IntKind.i64.wrap (v6 + 1)))), (2, (List.map (iv) v2).set (0 + v0.toNat) (iv (IntKind.i64.wrap (v6 + 1)))), (3, (List.map (iv) v3).set (0 + v0.toNat) (iv (IntKind.i64.wrap (x90 + 1)))), (4, List.map (iv) v8 ++ [iv v0]), (5, List.map (iv) v5 ++ [iv v0])] (frmSt g sh se lo ati pa hd nm c q (.l0 (x82) (v1.set (0 + v0.toNat) (IntKind.i64.wrap (v6 + 1))) (v2.set (0 + v0.toNat) (IntKind.i64.wrap (v6 + 1))) (v3.set (0 + v0.toNat) (IntKind.i64.wrap (x90 + 1))) ((List.map (iv) v8).length + [iv v0].length) (v5 ++ [v0]) (IntKind.i64.wrap (v6 + 1)) (v7) (v8 ++ [v0])))) (aj (aj a25 (al (u2 s2))) (k2 (aj (al (ak t9)) t7))) (by simp [up, upF, upV, upH, upB, frmSt, gL, boL, lI]))
  (fun a25 =>
  .gu fun a26 =>
  .el fun x115 a27 =>
  .rn 0 [214] [(115, iv x115)] [] [] (aj a25 (al (u2 (u2 (u2 (u2 (u2 (aj (k2 (aj a20 a26)) (aj (ak (getMap (f := iv) a27)) s2))))))))) <|
  .br (fun a28 =>
   .el fun x128 a29 =>
   .el fun x135 a30 =>
   .gu fun a31 =>
   .lq [233] [(128, iv x128), (135, iv x135)] [] [] [] [0, 1, 2, 3, 8, 10, 6] [0, 1] (up [] [(0, [AV.agg [AV.lst (gL g), AV.lst (boL sh), AV.sl 1 0 v1.length, AV.sl 2 0 v2.length, AV.sl 3 0 v3.length, AV.sl 4 0 ((List.map (iv) v8).length + [iv v0].length), AV.sl 5 0 ((List.map (iv) v5).length + [iv v0].length), iv (IntKind.i64.wrap (v6 + 1)), AV.sl 6 0 v7.length]]), (1, (List.map (iv) v1).set (0 + v0.toNat) (iv (IntKind.i64.wrap (v6 + 1)))), (2, ((List.map (iv) v2).set (0 + v0.toNat) (iv (IntKind.i64.wrap (v6 + 1)))).set (0 + v0.toNat) (iv (if x135 < x128 then x135 else x128))), (3, (List.map (iv) v3).set (0 + v0.toNat) (iv (IntKind.i64.wrap (x90 + 1)))), (4, List.map (iv) v8 ++ [iv v0]), (5, List.map (iv) v5 ++ [iv v0])] (frmSt g sh se lo ati pa hd nm c q (.l1 (v0) (v1.set (0 + v0.toNat) (IntKind.i64.wrap (v6 + 1))) ((v2.set (0 + v0.toNat) (IntKind.i64.wrap (v6 + 1))).set (0 + v0.toNat) (if x135 < x128 then x135 else x128)) (v3.set (0 + v0.toNat) (IntKind.i64.wrap (x90 + 1))) ((List.map (iv) v8).length + [iv v0].length) (v5 ++ [v0]) (IntKind.i64.wrap (v6 + 1)) (v7) (v8 ++ [v0])))) (aj (aj a28 (al (u2 (u2 (u2 (u2 (u2 (u2 (u2 (u2 (u2 (u2 (aj (k2 (aj a0 a3)) (aj (ak (show ((List.map (iv) v2).set (0 + v0.toNat) (iv (IntKind.i64.wrap (v6 + 1))))[0 + v0.toNat]? = some (iv x128) from getMapE (f := iv) a29 (by first | (simp only [boL, List.map_append, List.map_set, List.map_take, List.map_drop, List.map_replicate, List.nil_append]; done) | (simp only [boL, List.map_append, List.map_set, List.map_take, List.map_drop, List.map_replicate, List.nil_append]; rfl) | (simp [gL, boL, lI]; done) | (simp [gL, boL, lI]; rfl) | (simp only [boL, List.map_append, List.map_set, List.map_cons, List.map_nil]; rfl)))) (u2 (u2 (u2 (u2 (u2 (aj (k2 (aj a20 a23)) (aj (ak (show ((List.map (iv) v1).set (0 + v0.toNat) (iv (IntKind.i64.wrap (v6 + 1))))[0 + x82.toNat]? = some (iv x135) from getMapE (f := iv) a30 (by first | (simp only [boL, List.map_append, List.map_set, List.map_take, List.map_drop, List.map_replicate, List.nil_append]; done) | (simp only [boL, List.map_append, List.map_set, List.map_take, List.map_drop, List.map_replicate, List.nil_append]; rfl) | (simp [gL, boL, lI]; done) | (simp [gL, boL, lI]; rfl) | (simp only [boL, List.map_append, List.map_set, List.map_cons, List.map_nil]; rfl)))) (aj t3 (aj (k2 (aj a0 a3)) (al (k2 a31))))))))))))))))))))))))) (k2 (aj (al (ak t9)) t7))) (by simp [up, upF, upV, upH, upB, frmSt, gL, boL, lI]))
  (fun a28 =>
   .lq [232] [] [] [] [] [0, 1, 2, 3, 8, 10, 6] [0, 1] (up [] [(0, [AV.agg [AV.lst (gL g), AV.lst (boL sh), AV.sl 1 0 v1.length, AV.sl 2 0 v2.length, AV.sl 3 0 v3.length, AV.sl 4 0 ((List.map (iv) v8).length + [iv v0].length), AV.sl 5 0 ((List.map (iv) v5).length + [iv v0].length), iv (IntKind.i64.wrap (v6 + 1)), AV.sl 6 0 v7.length]]), (1, (List.map (iv) v1).set (0 + v0.toNat) (iv (IntKind.i64.wrap (v6 + 1)))), (2, (List.map (iv) v2).set (0 + v0.toNat) (iv (IntKind.i64.wrap (v6 + 1)))), (3, (List.map (iv) v3).set (0 + v0.toNat) (iv (IntKind.i64.wrap (x90 + 1)))), (4, List.map (iv) v8 ++ [iv v0]), (5, List.map (iv) v5 ++ [iv v0])] (frmSt g sh se lo ati pa hd nm c q (.l1 (v0) (v1.set (0 + v0.toNat) (IntKind.i64.wrap (v6 + 1))) (v2.set (0 + v0.toNat) (IntKind.i64.wrap (v6 + 1))) (v3.set (0 + v0.toNat) (IntKind.i64.wrap (x90 + 1))) ((List.map (iv) v8).length + [iv v0].length) (v5 ++ [v0]) (IntKind.i64.wrap (v6 + 1)) (v7) (v8 ++ [v0])))) (aj (al a28) (k2 (aj (al (ak t9)) t7))) (by simp [up, upF, upV, upH, upB, frmSt, gL, boL, lI])))))
 (fun a13 =>
 .gu fun a14 =>
 .gu fun a15 =>
 .rn 0 [134] [(149, AV.unk)] [] [] (aj a13 (al (u2 (u2 (u2 (u2 (u2 (u2 (u2 (u2 (u2 (u2 (u2 (aj (k2 (aj a14 a15)) (u2 (u2 (al t3))))))))))))))))) <|
 .el fun x158 a16 =>
 .el fun x165 a17 =>
 .rn 0 [] [(158, iv x158), (165, iv x165)] [] [] (al (u2 (u2 (u2 (u2 (u2 (aj (k2 (aj a0 a3)) (aj (ak (show ((List.map (iv) v2).set (0 + v0.toNat) (iv (IntKind.i64.wrap (v6 + 1))))[0 + v0.toNat]? = some (iv x158) from getMapE (f := iv) a16 (by first | (simp only [boL, List.map_append, List.map_set, List.map_take, List.map_drop, List.map_replicate, List.nil_append]; done) | (simp only [boL, List.map_append, List.map_set, List.map_take, List.map_drop, List.map_replicate, List.nil_append]; rfl) | (simp [gL, boL, lI]; done) | (simp [gL, boL, lI]; rfl) | (simp only [boL, List.map_append, List.map_set, List.map_cons, List.map_nil]; rfl)))) (u2 (u2 (u2 (u2 (u2 (aj (k2 (aj a0 a1)) (aj (ak (show ((List.map (iv) v1).set (0 + v0.toNat) (iv (IntKind.i64.wrap (v6 + 1))))[0 + v0.toNat]? = some (iv x165) from getMapE (f := iv) a17 (by first | (simp only [boL, List.map_append, List.map_set, List.map_take, List.map_drop, List.map_replicate, List.nil_append]; done) | (simp only [boL, List.map_append, List.map_set, List.map_take, List.map_drop, List.map_replicate, List.nil_append]; rfl) | (simp [gL, boL, lI]; done) | (simp [gL, boL, lI]; rfl) | (simp only [boL, List.map_append, List.map_set, List.map_cons, List.map_nil]; rfl)))) (al t3)))))))))))))))) <|
 .br (fun a18 =>
  .gu fun a19 =>
  have c0 := cmp_c (g) (sh) (v1.set (0 + v0.toNat) (IntKind.i64.wrap (v6 + 1))) (v2.set (0 + v0.toNat) (IntKind.i64.wrap (v6 + 1))) (v3) (List.take (IntKind.i64.wrap (iN ((List.map (iv) v8).length + [iv v0].length) - 1)).toNat (v8 ++ [v0])) (v5 ++ [v0]) (v7) (IntKind.i64.wrap (v6 + 1)) (v0) (v1.length) (v2.length) (v3.length) ((IntKind.i64.wrap (iN ((List.map (iv) v8).length + [iv v0].length) - 1)).toNat) ((List.map (iv) v5).length + [iv v0].length) (v7.length) a19;
  .rn 1 [333] [] [(169, hKO c0 [0, 1, 2, 3, 6, 8, 10] [])] [] (aj a18 (aj (u2 (u2 (al (ak (k3 (aj (al (ak t9)) (ak (k5 (show CTX Try.prog 23 [some (Blk.mk [AV.agg [AV.lst (gL g), AV.lst (boL sh), AV.sl 1 0 v1.length, AV.sl 2 0 v2.length, AV.sl 3 0 v3.length, AV.sl 5 0 (IntKind.i64.wrap (iN ((List.map (iv) v8).length + [iv v0].length) - 1)).toNat, AV.sl 6 0 ((List.map (iv) v5).length + [iv v0].length), iv (IntKind.i64.wrap (v6 + 1)), AV.sl 4 0 v7.length]] 9 false true none), some (Blk.mk ((List.map (iv) v1).set (0 + v0.toNat) (iv (IntKind.i64.wrap (v6 + 1)))) 1 true true none), some (Blk.mk ((List.map (iv) v2).set (0 + v0.toNat) (iv (IntKind.i64.wrap (v6 + 1)))) 1 true true none), some (Blk.mk (List.map (iv) v3) 1 true true none), some (Blk.mk (List.map (iv) v7) 1 true true none), some (Blk.mk (List.take (IntKind.i64.wrap (iN ((List.map (iv) v8).length + [iv v0].length) - 1)).toNat (List.map (iv) v8 ++ [iv v0])) 1 true true none), some (Blk.mk (List.map (iv) v5 ++ [iv v0]) 1 true true none)] [AV.ptr 0 0 0, iv v0] [some (Blk.mk [AV.agg [AV.lst (gL g), AV.lst (boL sh), AV.sl 1 0 (v1.set (0 + v0.toNat) (IntKind.i64.wrap (v6 + 1))).length, AV.sl 2 0 (v2.set (0 + v0.toNat) (IntKind.i64.wrap (v6 + 1))).length, AV.sl 3 0 v3.length, AV.sl 4 0 (IntKind.i64.wrap (iN ((List.map (iv) v8).length + [iv v0].length) - 1)).toNat, AV.sl 5 0 (cmH (v5 ++ [v0]) v0).length, iv (IntKind.i64.wrap (v6 + 1)), AV.sl 6 0 (cmN v7 (v5 ++ [v0]) v0).length]] 9 false true none), some (Blk.mk (List.map (iv) (v1.set (0 + v0.toNat) (IntKind.i64.wrap (v6 + 1)))) 1 true true none), some (Blk.mk (List.map (iv) (v2.set (0 + v0.toNat) (IntKind.i64.wrap (v6 + 1)))) 1 true true none), some (Blk.mk (List.map (iv) v3) 1 true true none), some (Blk.mk (List.map (iv) (List.take (IntKind.i64.wrap (iN ((List.map (iv) v8).length + [iv v0].length) - 1)).toNat (v8 ++ [v0]))) 1 true true none), some (Blk.mk (List.map (iv) (cmH (v5 ++ [v0]) v0)) 1 true true none), some (Blk.mk (List.map (iv) (cmN v7 (v5 ++ [v0]) v0)) 1 true true none)] (AV.tup []) from CTX.eqs (c0) (by first | (simp only [boL, List.map_append, List.map_set, List.map_take, List.map_drop, List.map_replicate, List.nil_append]; done) | (simp only [boL, List.map_append, List.map_set, List.map_take, List.map_drop, List.map_replicate, List.nil_append]; rfl) | (simp [gL, boL, lI]; done) | (simp [gL, boL, lI]; rfl) | (simp only [boL, List.map_append, List.map_set, List.map_cons, List.map_nil]; rfl)) (by first | (simp only [boL, List.map_append, List.map_set, List.map_take, List.map_drop, List.map_replicate, List.nil_append]; done) | (simp only [boL, List.map_append, List.map_set, List.map_take, List.map_drop, List.map_replicate, List.nil_append]; rfl) | (simp [gL, boL, lI]; done) | (simp [gL, boL, lI]; rfl) | (simp only [boL, List.map_append, List.map_set, List.map_cons, List.map_nil]; rfl))))))))))) (al (u2 (u2 (u2 (u2 (u2 s2)))))))) <|
  .br (fun a20 =>
  .gu fun a21 =>
  .gu fun a22 =>
  .el fun x188 a23 =>
  .rn 0 [351] [(188, iv x188)] [] [] (aj a20 (al (u2 (u2 (u2 (u2 (u2 (u2 (u2 (u2 (u2 (u2 (u2 (aj (k2 (aj a21 a22)) (aj (ak (getMap (f := iv) a23)) (u2 s2)))))))))))))))) <|
  .gu fun a24 =>
  .gu fun a25 =>
  .el fun x200 a26 =>
  .gu fun a27 =>
  .el fun x207 a28 =>
  .gu fun a29 =>
  .lq [] [(200, iv x200), (207, iv x207)] [] [] [] [0, 11, 12, 13, 14, 15, 16] [0, 1] (up [] [(0, [AV.agg [AV.lst (gL g), AV.lst (boL sh), AV.sl 1 0 (v1.set (0 + v0.toNat) (IntKind.i64.wrap (v6 + 1))).length, AV.sl 2 0 (v2.set (0 + v0.toNat) (IntKind.i64.wrap (v6 + 1))).length, AV.sl 3 0 v3.length, AV.sl 4 0 (IntKind.i64.wrap (iN ((List.map (iv) v8).length + [iv v0].length) - 1)).toNat, AV.sl 5 0 (cmH (v5 ++ [v0]) v0).length, iv (IntKind.i64.wrap (v6 + 1)), AV.sl 6 0 (cmN v7 (v5 ++ [v0]) v0).length]]), (2, (List.map (iv) (v2.set (0 + v0.toNat) (IntKind.i64.wrap (v6 + 1)))).set (0 + x188.toNat) (iv (if x207 < x200 then x207 else x200)))] (frmSt g sh se lo ati pa hd nm c q (.l1 (x188) (v1.set (0 + v0.toNat) (IntKind.i64.wrap (v6 + 1))) ((v2.set (0 + v0.toNat) (IntKind.i64.wrap (v6 + 1))).set (0 + x188.toNat) (if x207 < x200 then x207 else x200)) (v3) ((IntKind.i64.wrap (iN ((List.map (iv) v8).length + [iv v0].length) - 1)).toNat) (cmH (v5 ++ [v0]) v0) (IntKind.i64.wrap (v6 + 1)) (cmN v7 (v5 ++ [v0]) v0) (List.take (IntKind.i64.wrap (iN ((List.map (iv) v8).length + [iv v0].length) - 1)).toNat (v8 ++ [v0]))))) (aj (al (u2 (u2 (u2 (u2 (u2 (u2 (u2 (u2 (u2 (u2 (aj (k2 (aj a24 a25)) (aj (ak (getMap (f := iv) a26)) (u2 (u2 (u2 (u2 (u2 (aj (k2 (aj a0 a27)) (aj (ak (getMap (f := iv) a28)) (aj t3 (aj (k2 (aj a24 a25)) (al (k2 a29)))))))))))))))))))))))) (k2 (aj (al (ak t9)) t7))) (by simp [up, upF, upV, upH, upB, frmSt, gL, boL, lI]))
  (fun a20 =>
  .rt [350] [] [] [] [0, 11, 12, 13, 14, 15, 16] [] (aj (al a20) (ak (aj (al (ak t9)) t7)))))
 (fun a18 =>
  .rn 0 [332] [] [] [] (aj a18 (al (u2 (u2 (u2 (u2 (u2 s2))))))) <|
  .br (fun a19 =>
  .gu fun a20 =>
  .gu fun a21 =>
  .el fun x188 a22 =>
  .rn 0 [351] [(188, iv x188)] [] [] (aj a19 (al (u2 (u2 (u2 (u2 (u2 (u2 (u2 (u2 (u2 (u2 (u2 (aj (k2 (aj a20 a21)) (aj (ak (show (List.take (IntKind.i64.wrap (iN ((List.map (iv) v8).length + [iv v0].length) - 1)).toNat (List.map (iv) v8 ++ [iv v0]))[0 + (IntKind.i64.wrap (iN (IntKind.i64.wrap (iN ((List.map (iv) v8).length + [iv v0].length) - 1)).toNat - 1)).toNat]? = some (iv x188) from getMapE (f := iv) a22 (by first | (simp only [boL, List.map_append, List.map_set, List.map_take, List.map_drop, List.map_replicate, List.nil_append]; done) | (simp only [boL, List.map_append, List.map_set, List.map_take, List.map_drop, List.map_replicate, List.nil_append]; rfl) | (simp [gL, boL, lI]; done) | (simp [gL, boL, lI]; rfl) | (simp only [boL, List.map_append, List.map_set, List.map_cons, List.map_nil]; rfl)))) (u2 s2)))))))))))))))) <|
  .gu fun a23 =>
  .gu fun a24 =>
  .el fun x200 a25 =>
  .el fun x207 a26 =>
  .gu fun a27 =>
  .lq [] [(200, iv x200), (207, iv x207)] [] [] [] [0, 1, 2, 3, 8, 10, 6] [0, 1] (up [] [(0, [AV.agg [AV.lst (gL g), AV.lst (boL sh), AV.sl 1 0 v1.length, AV.sl 2 0 v2.length, AV.sl 3 0 v3.length, AV.sl 4 0 (IntKind.i64.wrap (iN ((List.map (iv) v8).length + [iv v0].length) - 1)).toNat, AV.sl 5 0 ((List.map (iv) v5).length + [iv v0].length), iv (IntKind.i64.wrap (v6 + 1)), AV.sl 6 0 v7.length]]), (1, (List.map (iv) v1).set (0 + v0.toNat) (iv (IntKind.i64.wrap (v6 + 1)))), (2, ((List.map (iv) v2).set (0 + v0.toNat) (iv (IntKind.i64.wrap (v6 + 1)))).set (0 + x188.toNat) (iv (if x207 < x200 then x207 else x200))), (4, List.take (IntKind.i64.wrap (iN ((List.map (iv) v8).length + [iv v0].length) - 1)).toNat (List.map (iv) v8 ++ [iv v0])), (5, List.map (iv) v5 ++ [iv v0])] (frmSt g sh se lo ati pa hd nm c q (.l1 (x188) (v1.set (0 + v0.toNat) (IntKind.i64.wrap (v6 + 1))) ((v2.set (0 + v0.toNat) (IntKind.i64.wrap (v6 + 1))).set (0 + x188.toNat) (if x207 < x200 then x207 else x200)) (v3) ((IntKind.i64.wrap (iN ((List.map (iv) v8).length + [iv v0].length) - 1)).toNat) (v5 ++ [v0]) (IntKind.i64.wrap (v6 + 1)) (v7) (List.take (IntKind.i64.wrap (iN ((List.map (iv) v8).length + [iv v0].length) - 1)).toNat (v8 ++ [v0]))))) (aj (al (u2 (u2 (u2 (u2 (u2 (u2 (u2 (u2 (u2 (u2 (aj (k2 (aj a23 a24)) (aj (ak (show ((List.map (iv) v2).set (0 + v0.toNat) (iv (IntKind.i64.wrap (v6 + 1))))[0 + x188.toNat]? = some (iv x200) from getMapE (f := iv) a25 (by first | (simp only [boL, List.map_append, List.map_set, List.map_take, List.map_drop, List.map_replicate, List.nil_append]; done) | (simp only [boL, List.map_append, List.map_set, List.map_take, List.map_drop, List.map_replicate, List.nil_append]; rfl) | (simp [gL, boL, lI]; done) | (simp [gL, boL, lI]; rfl) | (simp only [boL, List.map_append, List.map_set, List.map_cons, List.map_nil]; rfl)))) (u2 (u2 (u2 (u2 (u2 (aj (k2 (aj a0 a3)) (aj (ak (show ((List.map (iv) v2).set (0 + v0.toNat) (iv (IntKind.i64.wrap (v6 + 1))))[0 + v0.toNat]? = some (iv x207) from getMapE (f := iv) a26 (by first | (simp only [boL, List.map_append, List.map_set, List.map_take, List.map_drop, List.map_replicate, List.nil_append]; done) | (simp only [boL, List.map_append, List.map_set, List.map_take, List.map_drop, List.map_replicate, List.nil_append]; rfl) | (simp [gL, boL, lI]; done) | (simp [gL, boL, lI]; rfl) | (simp only [boL, List.map_append, List.map_set, List.map_cons, List.map_nil]; rfl)))) (aj t3 (aj (k2 (aj a23 a24)) (al (k2 a27)))))))))))))))))))))))) (k2 (aj (al (ak t9)) t7))) (by simp [up, upF, upV, upH, upB, frmSt, gL, boL, lI]))
  (fun a19 =>
  .rt [350] [] [] [] [0, 1, 2, 3, 8, 10, 6] [] (aj (al a19) (ak (aj (al (ak t9)) t7))))))) (by kernel_rfl)
theorem frmS1_ok (g : List (List Int)) (sh : List Bool) (se lo ati pa hd nm : List Int) (c q : Int) (v0 : Int) (v1 : List Int) (v2 : List Int) (v3 : List Int) (v4 : Nat) (v5 : List Int) (v6 : Int) (v7 : List Int) (v8 : List Int) (o : frmPc ⊕ Ret) (h : frmS1 g sh se lo ati pa hd nm c q v0 v1 v2 v3 v4 v5 v6 v7 v8 = some o) : Arr Try.prog Try.f19 1 (frmSt g sh se lo ati pa hd nm c q) frmHd (headC Try.f19 1) (headK Try.f19 1) (frmSt g sh se lo ati pa hd nm c q (.l1 v0 v1 v2 v3 v4 v5 v6 v7 v8)) o :=
 Scr.ok h mix (
 .gu fun a0 =>
 .gu fun a1 =>
 .el fun x58 a2 =>
 .el fun x64 a3 =>
 .rn 0 [] [(58, iv x58), (64, lI x64)] [] [] (al (u2 (u2 (u2 (u2 (u2 (aj (k2 (aj a0 a1)) (aj (ak (getMap (f := iv) a2)) (u2 (u2 (u2 (u2 (u2 (aj (k2 (aj a0 (getMap (f := lI) a3))) (u2 (u2 (al t3))))))))))))))))) <|
 .br (fun a4 =>
 .el fun x73 a5 =>
 .el fun x81 a6 =>
 .gu fun a7 =>
 .el fun x82 a8 =>
 .rn 0 [135] [(73, lI x73), (81, iv x81), (82, iv x82)] [] [] (aj a4 (al (u2 (u2 (u2 (u2 (u2 (aj (k2 (aj a0 (getMap (f := lI) a5))) (u2 (u2 (u2 (u2 (u2 (u2 (aj (k2 (aj a0 a1)) (aj (ak (getMap (f := iv) a6)) (aj (k2 (aj a7 (getMap (f := iv) a8))) (u2 s2)))))))))))))))))) <|
 .el fun x90 a9 =>
 .gu fun a10 =>
 .rn 0 [] [(90, iv x90)] [] [] (al (u2 (u2 (u2 (u2 (u2 (aj (k2 (aj a0 a1)) (aj (ak (getMap (f := iv) a9)) (u2 (aj (k2 (aj a0 a1)) (al (k2 a10)))))))))))) <|
 .gu fun a11 =>
 .el fun x98 a12 =>
 .rn 0 [] [(98, AV.bool x98)] [] [] (al (u2 (u2 (u2 (u2 (u2 (aj (k2 (aj a11 (getMap (f := AV.bool) a12))) s2))))))) <|
 .br (fun a13 =>
  .lq [199] [] [] [] [] [0, 1, 2, 3, 4, 5, 6] [0, 1] (up [] [(0, [AV.agg [AV.lst (gL g), AV.lst (boL sh), AV.sl 1 0 v1.length, AV.sl 2 0 v2.length, AV.sl 3 0 v3.length, AV.sl 4 0 v4, AV.sl 5 0 v5.length, iv v6, AV.sl 6 0 v7.length]]), (3, (List.map (iv) v3).set (0 + v0.toNat) (iv (IntKind.i64.wrap (x90 + 1))))] (frmSt g sh se lo ati pa hd nm c q (.l1 (v0) (v1) (v2) (v3.set (0 + v0.toNat) (IntKind.i64.wrap (x90 + 1))) (v4) (v5) (v6) (v7) (v8)))) (aj (al a13) (k2 (aj (al (ak t9)) t7))) (by simp [up, upF, upV, upH, upB, frmSt, gL, boL, lI]))
 (fun a13 =>
  .gu fun a14 =>
  .el fun x106 a15 =>
  .rn 0 [198] [(106, iv x106)] [] [] (aj a13 (al (u2 (u2 (u2 (u2 (u2 (aj (k2 (aj a11 a14)) (aj (ak (getMap (f := iv) a15)) s2))))))))) <|
  .br (fun a16 =>
  .lq [215] [] [] [] [] [0, 1, 2, 3, 4, 5, 6] [0, 1] (up [] [(0, [AV.agg [AV.lst (gL g), AV.lst (boL sh), AV.sl 1 0 v1.length, AV.sl 2 0 v2.length, AV.sl 3 0 v3.length, AV.sl 4 0 v4, AV.sl 5 0 v5.length, iv v6, AV.sl 6 0 v7.length]]), (3, (List.map (iv) v3).set (0 + v0.toNat) (iv (IntKind.i64.wrap (x90 + 1))))] (frmSt g sh se lo ati pa hd nm c q (.l0 (x82) (v1) (v2) (v3.set (0 + v0.toNat) (IntKind.i64.wrap (x90 + 1))) (v4) (v5) (v6) (v7) (v8)))) (aj (aj a16 (al (u2 s2))) (k2 (aj (al (ak t9)) t7))) (by simp [up, upF, upV, upH, upB, frmSt, gL, boL, lI]))
  (fun a16 =>
  .gu fun a17 =>
  .el fun x115 a18 =>
  .rn 0 [214] [(115, iv x115)] [] [] (aj a16 (al (u2 (u2 (u2 (u2 (u2 (aj (k2 (aj a11 a17)) (aj (ak (getMap (f := iv) a18)) s2))))))))) <|
  .br (fun a19 =>
   .gu fun a20 =>
   .el fun x128 a21 =>
   .el fun x135 a22 =>
   .gu fun a23 =>
   .lq [233] [(128, iv x128), (135, iv x135)] [] [] [] [0, 1, 2, 3, 4, 5, 6] [0, 1] (up [] [(0, [AV.agg [AV.lst (gL g), AV.lst (boL sh), AV.sl 1 0 v1.length, AV.sl 2 0 v2.length, AV.sl 3 0 v3.length, AV.sl 4 0 v4, AV.sl 5 0 v5.length, iv v6, AV.sl 6 0 v7.length]]), (2, (List.map (iv) v2).set (0 + v0.toNat) (iv (if x135 < x128 then x135 else x128))), (3, (List.map (iv) v3).set (0 + v0.toNat) (iv (IntKind.i64.wrap (x90 + 1))))] (frmSt g sh se lo ati pa hd nm c q (.l1 (v0) (v1) (v2.set (0 + v0.toNat) (if x135 < x128 then x135 else x128)) (v3.set (0 + v0.toNat) (IntKind.i64.wrap (x90 + 1))) (v4) (v5) (v6) (v7) (v8)))) (aj (aj a19 (al (u2 (u2 (u2 (u2 (u2 (u2 (u2 (u2 (u2 (u2 (aj (k2 (aj a0 a20)) (aj (ak (getMap (f := iv) a21)) (u2 (u2 (u2 (u2 (u2 (aj (k2 (aj a11 a14)) (aj (ak (getMap (f := iv) a22)) (aj t3 (aj (k2 (aj a0 a20)) (al (k2 a23))))))))))))))))))))))))) (k2 (aj (al (ak t9)) t7))) (by simp [up, upF, upV, upH, upB, frmSt, gL, boL, lI]))
  (fun a19 =>
   .lq [232] [] [] [] [] [0, 1, 2, 3, 4, 5, 6] [0, 1] (up [] [(0, [AV.agg [AV.lst (gL g), AV.lst (boL sh), AV.sl 1 0 v1.length, AV.sl 2 0 v2.length, AV.sl 3 0 v3.length, AV.sl 4 0 v4, AV.sl 5 0 v5.length, iv v6, AV.sl 6 0 v7.length]]), (3, (List.map (iv) v3).set (0 + v0.toNat) (iv (IntKind.i64.wrap (x90 + 1))))] (frmSt g sh se lo ati pa hd nm c q (.l1 (v0) (v1) (v2) (v3.set (0 + v0.toNat) (IntKind.i64.wrap (x90 + 1))) (v4) (v5) (v6) (v7) (v8)))) (aj (al a19) (k2 (aj (al (ak t9)) t7))) (by simp [up, upF, upV, upH, upB, frmSt, gL, boL, lI])))))
 (fun a4 =>
 .gu fun a5 =>
 .gu fun a6 =>
 .rn 0 [134] [(149, AV.unk)] [] [] (aj a4 (al (u2 (u2 (u2 (u2 (u2 (u2 (u2 (u2 (u2 (u2 (u2 (aj (k2 (aj a5 a6)) (u2 (u2 (al t3))))))))))))))))) <|
 .gu fun a7 =>
 .el fun x158 a8 =>
 .gu fun a9 =>
 .el fun x165 a10 =>
 .rn 0 [] [(158, iv x158), (165, iv x165)] [] [] (al (u2 (u2 (u2 (u2 (u2 (aj (k2 (aj a0 a7)) (aj (ak (getMap (f := iv) a8)) (u2 (u2 (u2 (u2 (u2 (aj (k2 (aj a0 a9)) (aj (ak (getMap (f := iv) a10)) (al t3)))))))))))))))) <|
 .br (fun a11 =>
  .gu fun a12 =>
  have c0 := cmp_c (g) (sh) (v1) (v2) (v3) (List.take (IntKind.i64.wrap (iN v4 - 1)).toNat v8) (v5) (v7) (v6) (v0) (v1.length) (v2.length) (v3.length) ((IntKind.i64.wrap (iN v4 - 1)).toNat) (v5.length) (v7.length) a12;
  .rn 1 [333] [] [(169, hKO c0 [0, 1, 2, 3, 6, 4, 5] [])] [] (aj a11 (aj (u2 (u2 (al (ak (k3 (aj (al (ak t9)) (ak (k5 (show CTX Try.prog 23 [some (Blk.mk [AV.agg [AV.lst (gL g), AV.lst (boL sh), AV.sl 1 0 v1.length, AV.sl 2 0 v2.length, AV.sl 3 0 v3.length, AV.sl 5 0 (IntKind.i64.wrap (iN v4 - 1)).toNat, AV.sl 6 0 v5.length, iv v6, AV.sl 4 0 v7.length]] 9 false true none), some (Blk.mk (List.map (iv) v1) 1 true true none), some (Blk.mk (List.map (iv) v2) 1 true true none), some (Blk.mk (List.map (iv) v3) 1 true true none), some (Blk.mk (List.map (iv) v7) 1 true true none), some (Blk.mk (List.take (IntKind.i64.wrap (iN v4 - 1)).toNat (List.map (iv) v8)) 1 true true none), some (Blk.mk (List.map (iv) v5) 1 true true none)] [AV.ptr 0 0 0, iv v0] [some (Blk.mk [AV.agg [AV.lst (gL g), AV.lst (boL sh), AV.sl 1 0 v1.length, AV.sl 2 0 v2.length, AV.sl 3 0 v3.length, AV.sl 4 0 (IntKind.i64.wrap (iN v4 - 1)).toNat, AV.sl 5 0 (cmH v5 v0).length, iv v6, AV.sl 6 0 (cmN v7 v5 v0).length]] 9 false true none), some (Blk.mk (List.map (iv) v1) 1 true true none), some (Blk.mk (List.map (iv) v2) 1 true true none), some (Blk.mk (List.map (iv) v3) 1 true true none), some (Blk.mk (List.map (iv) (List.take (IntKind.i64.wrap (iN v4 - 1)).toNat v8)) 1 true true none), some (Blk.mk (List.map (iv) (cmH v5 v0)) 1 true true none), some (Blk.mk (List.map (iv) (cmN v7 v5 v0)) 1 true true none)] (AV.tup []) from CTX.eqs (c0) (by first | (simp only [boL, List.map_append, List.map_set, List.map_take, List.map_drop, List.map_replicate, List.nil_append]; done) | (simp only [boL, List.map_append, List.map_set, List.map_take, List.map_drop, List.map_replicate, List.nil_append]; rfl) | (simp [gL, boL, lI]; done) | (simp [gL, boL, lI]; rfl) | (simp only [boL, List.map_append, List.map_set, List.map_cons, List.map_nil]; rfl)) (by first | (simp only [boL, List.map_append, List.map_set, List.map_take, List.map_drop, List.map_replicate, List.nil_append]; done) | (simp only [boL, List.map_append, List.map_set, List.map_take, List.map_drop, List.map_replicate, List.nil_append]; rfl) | (simp [gL, boL, lI]; done) | (simp [gL, boL, lI]; rfl) | (simp only [boL, List.map_append, List.map_set, List.map_cons, List.map_nil]; rfl))))))))))) (al (u2 (u2 (u2 (u2 (u2 s2)))))))) <|
  .br (fun a13 =>
  .gu fun a14 =>
  .gu fun a15 =>
  .el fun x188 a16 =>
  .rn 0 [351] [(188, iv x188)] [] [] (aj a13 (al (u2 (u2 (u2 (u2 (u2 (u2 (u2 (u2 (u2 (u2 (u2 (aj (k2 (aj a14 a15)) (aj (ak (getMap (f := iv) a16)) (u2 s2)))))))))))))))) <|
  .gu fun a17 =>
  .gu fun a18 =>
  .el fun x200 a19 =>
  .el fun x207 a20 =>
  .gu fun a21 =>
  .lq [] [(200, iv x200), (207, iv x207)] [] [] [] [0, 7, 8, 9, 10, 11, 12] [0, 1] (up [] [(0, [AV.agg [AV.lst (gL g), AV.lst (boL sh), AV.sl 1 0 v1.length, AV.sl 2 0 v2.length, AV.sl 3 0 v3.length, AV.sl 4 0 (IntKind.i64.wrap (iN v4 - 1)).toNat, AV.sl 5 0 (cmH v5 v0).length, iv v6, AV.sl 6 0 (cmN v7 v5 v0).length]]), (2, (List.map (iv) v2).set (0 + x188.toNat) (iv (if x207 < x200 then x207 else x200)))] (frmSt g sh se lo ati pa hd nm c q (.l1 (x188) (v1) (v2.set (0 + x188.toNat) (if x207 < x200 then x207 else x200)) (v3) ((IntKind.i64.wrap (iN v4 - 1)).toNat) (cmH v5 v0) (v6) (cmN v7 v5 v0) (List.take (IntKind.i64.wrap (iN v4 - 1)).toNat v8)))) (aj (al (u2 (u2 (u2 (u2 (u2 (u2 (u2 (u2 (u2 (u2 (aj (k2 (aj a17 a18)) (aj (ak (getMap (f := iv) a19)) (u2 (u2 (u2 (u2 (u2 (aj (k2 (aj a0 a7)) (aj (ak (getMap (f := iv) a20)) (aj t3 (aj (k2 (aj a17 a18)) (al (k2 a21)))))))))))))))))))))))) (k2 (aj (al (ak t9)) t7))) (by simp [up, upF, upV, upH, upB, frmSt, gL, boL, lI]))
  (fun a13 =>
  .rt [350] [] [] [] [0, 7, 8, 9, 10, 11, 12] [] (aj (al a13) (ak (aj (al (ak t9)) t7)))))
 (fun a11 =>
  .rn 0 [332] [] [] [] (aj a11 (al (u2 (u2 (u2 (u2 (u2 s2))))))) <|
  .br (fun a12 =>
  .gu fun a13 =>
  .gu fun a14 =>
  .el fun x188 a15 =>
  .rn 0 [351] [(188, iv x188)] [] [] (aj a12 (al (u2 (u2 (u2 (u2 (u2 (u2 (u2 (u2 (u2 (u2 (u2 (aj (k2 (aj a13 a14)) (aj (ak (show (List.take (IntKind.i64.wrap (iN v4 - 1)).toNat (List.map (iv) v8))[0 + (IntKind.i64.wrap (iN (IntKind.i64.wrap (iN v4 - 1)).toNat - 1)).toNat]? = some (iv x188) from getMapE (f := iv) a15 (by first | (simp only [boL, List.map_append, List.map_set, List.map_take, List.map_drop, List.map_replicate, List.nil_append]; done) | (simp only [boL, List.map_append, List.map_set, List.map_take, List.map_drop, List.map_replicate, List.nil_append]; rfl) | (simp [gL, boL, lI]; done) | (simp [gL, boL, lI]; rfl) | (simp only [boL, List.map_append, List.map_set, List.map_cons, List.map_nil]; rfl)))) (u2 s2)))))))))))))))) <|
  .gu fun a16 =>
  .gu fun a17 =>
  .el fun x200 a18 =>
  .el fun x207 a19 =>
  .gu fun a20 =>
  .lq [] [(200, iv x200), (207, iv x207)] [] [] [] [0, 1, 2, 3, 4, 5, 6] [0, 1] (up [] [(0, [AV.agg [AV.lst (gL g), AV.lst (boL sh), AV.sl 1 0 v1.length, AV.sl 2 0 v2.length, AV.sl 3 0 v3.length, AV.sl 4 0 (IntKind.i64.wrap (iN v4 - 1)).toNat, AV.sl 5 0 v5.length, iv v6, AV.sl 6 0 v7.length]]), (2, (List.map (iv) v2).set (0 + x188.toNat) (iv (if x207 < x200 then x207 else x200))), (4, List.take (IntKind.i64.wrap (iN v4 - 1)).toNat (List.map (iv) v8))] (frmSt g sh se lo ati pa hd nm c q (.l1 (x188) (v1) (v2.set (0 + x188.toNat) (if x207 < x200 then x207 else x200)) (v3) ((IntKind.i64.wrap (iN v4 - 1)).toNat) (v5) (v6) (v7) (List.take (IntKind.i64.wrap (iN v4 - 1)).toNat v8)))) (aj (al (u2 (u2 (u2 (u2 (u2 (u2 (u2 (u2 (u2 (u2 (aj (k2 (aj a16 a17)) (aj (ak (getMap (f := iv) a18)) (u2 (u2 (u2 (u2 (u2 (aj (k2 (aj a0 a7)) (aj (ak (getMap (f := iv) a19)) (aj t3 (aj (k2 (aj a16 a17)) (al (k2 a20)))))))))))))))))))))))) (k2 (aj (al (ak t9)) t7))) (by simp [up, upF, upV, upH, upB, frmSt, gL, boL, lI]))
  (fun a12 =>
  .rt [350] [] [] [] [0, 1, 2, 3, 4, 5, 6] [] (aj (al a12) (ak (aj (al (ak t9)) t7))))))) (by kernel_rfl)
theorem frm_ct (g : List (List Int)) (sh : List Bool) (se lo ati pa hd nm : List Int) (c q : Int) (r : Ret) (h : MReach (frmStep g sh se lo ati pa hd nm c q) (frmEn g sh se lo ati pa hd nm c q) r) : CTX Try.prog 19 ([some { es := [srA g sh (.sl 1 0 se.length) (.sl 2 0 lo.length) (.sl 3 0 ati.length) (.sl 5 0 pa.length) (.sl 6 0 hd.length) c (.sl 4 0 nm.length)], z := 9, flat := false }, some { es := se.map (AV.int .i64), z := 1 }, some { es := lo.map (AV.int .i64), z := 1 }, some { es := ati.map (AV.int .i64), z := 1 }, some { es := nm.map (AV.int .i64), z := 1 }, some { es := pa.map (AV.int .i64), z := 1 }, some { es := hd.map (AV.int .i64), z := 1 }]) ([.ptr 0 0 0, .int .i64 q]) r.1 r.2 :=
  CTX.mach (fn := Try.f19) (c := bodyOf Try.f19) (S := frmSt g sh se lo ati pa hd nm c q) (hd := frmHd) Try.func19 (by kernel_rfl) (Nat.le_of_ble_eq_true rfl) (Nat.le_of_ble_eq_true rfl)
    (fun s o ho => match s, ho with
      | .l0 v0 v1 v2 v3 v4 v5 v6 v7 v8, ho => frmS0_ok g sh se lo ati pa hd nm c q v0 v1 v2 v3 v4 v5 v6 v7 v8 o ho
      | .l1 v0 v1 v2 v3 v4 v5 v6 v7 v8, ho => frmS1_ok g sh se lo ati pa hd nm c q v0 v1 v2 v3 v4 v5 v6 v7 v8 o ho
    )
    (fun o ho => frmEn_ok g sh se lo ati pa hd nm c q o ho) h
end Go.Proofs.Ytcgegbmnpjfjlaa
namespace Go.Proofs.Ytcgegbmnpjfjlaa
theorem frm_S0 {g : List (List Int)} {sh : List Bool} {se lo ati pa hd nm : List Int} {c q : Int} {v0 : Int} {v1 v2 v3 v5 v7 v8 : List Int} {v4 : Nat} {v6 : Int}
    (h0 : 0 ≤ v0) (h1 : v0 < (v1.length : Int)) (h2 : v0 < (v2.length : Int)) (h3 : v0 < (v3.length : Int)) (h4 : v8.length = v4) (h5 : v5.length ≤ 1000000) (h6 : v8.length ≤ 1000000) :
    frmS0 g sh se lo ati pa hd nm c q v0 v1 v2 v3 v4 v5 v6 v7 v8 = frmS1 g sh se lo ati pa hd nm c q v0 (v1.set v0.toNat (IntKind.i64.wrap (v6 + 1))) (v2.set v0.toNat (IntKind.i64.wrap (v6 + 1))) v3 (v4 + 1) (v5 ++ [v0]) (IntKind.i64.wrap (v6 + 1)) v7 (v8 ++ [v0]) := by
  subst h4
  unfold frmS0 frmS1
  simp (disch := first | assumption | (simp only [iN, List.length_set, List.length_map, List.length_append, List.length_singleton, Nat.zero_add, Nat.le_eq]; omega)) only [gu_t, List.length_map, List.length_set, List.length_append, List.length_singleton, Nat.zero_add, List.map_set, List.map_append, List.map_cons, List.map_nil, List.map_take, eq_self, and_true]
  rw [gu_t trivial, gu_t (by omega), gu_t (by omega), gu_t (by omega), gu_t (by omega)]
theorem frm_En {g : List (List Int)} {sh : List Bool} {se lo ati pa hd nm : List Int} {c q : Int}
    (h0 : 0 ≤ q) (h1 : q < (se.length : Int)) (h2 : q < (lo.length : Int)) (h3 : q < (ati.length : Int)) (h5 : hd.length ≤ 1000000) (h6 : pa.length ≤ 1000000) :
    frmEn g sh se lo ati pa hd nm c q = frmS1 g sh se lo ati pa hd nm c q q (se.set q.toNat (IntKind.i64.wrap (c + 1))) (lo.set q.toNat (IntKind.i64.wrap (c + 1))) ati (pa.length + 1) (hd ++ [q]) (IntKind.i64.wrap (c + 1)) nm (pa ++ [q]) := by
  unfold frmEn frmS1
  simp (disch := first | assumption | (simp only [iN, List.length_set, List.length_map, List.length_append, List.length_singleton, Nat.zero_add, Nat.le_eq]; omega)) only [gu_t, List.length_map, List.length_set, List.length_append, List.length_singleton, Nat.zero_add, List.map_set, List.map_append, List.map_cons, List.map_nil, List.map_take, eq_self, and_true]
  rw [gu_t (by omega), gu_t (by omega), gu_t (by omega), gu_t (by omega)]
variable {g : List (List Int)} {sh : List Bool} {x : TaS}
theorem cmFs_gI (m : Int) : ∀ (l nm : List Int) (y : Int), (∀ z ∈ l, 0 ≤ z ∧ z < (nm.length : Int)) → 0 ≤ y → gI (l.foldl (cmF m) nm) y = if y ∈ l then m else gI nm y
  | [], nm, y, _, _ => by simp
  | z :: l, nm, y, h, hy => by
    obtain ⟨z0, z1⟩ := h z List.mem_cons_self
    rw [List.foldl_cons, cmFs_gI m l _ y (fun a ha => by rw [cmF_len]; exact h a (List.mem_cons_of_mem _ ha)) hy]
    unfold cmF
    rw [gI_set z0 z1 hy]
    by_cases e1 : y ∈ l
    · simp [e1]
    · by_cases e2 : y = z
      · simp [e2]
      · simp [e1, e2]
theorem Inv.root (h : Inv g sh x) {v : Int} (hp : x.pa = [v]) : gI x.lo v = gI x.se v := by
  have hh : x.hd.head? = some v := by rw [← h.head, hp]; rfl
  have hm : v ∈ x.hd := List.mem_of_mem_head? hh
  have := (h.low v hm).1
  have := (h.low v hm).2 v hh
  omega
theorem Inv.pop2 (h : Inv g sh x) {p : List Int} {v : Int} (hp : x.pa = p ++ [v]) (hne : gI x.lo v ≠ gI x.se v) : Inv g sh { x with pa := p } ∧ p ≠ [] := by
  have hpn : p ≠ [] := by rintro rfl; exact hne (h.root hp)
  refine ⟨⟨h.l1, h.l2, h.l3, h.l4, h.hr, ?_, ?_, h.srt, h.mem, h.cnt, h.low, h.atb, h.un, h.len, fun i hi => ?_, ?_⟩, hpn⟩
  · have := h.sub; rw [hp] at this; exact (List.sublist_append_left p [v]).trans this
  · show p.head? = x.hd.head?
    rw [← h.head, hp]
    cases p with
    | nil => exact absurd rfl hpn
    | cons a r => rfl
  · have hi : i + 1 < p.length := hi
    have := h.chain i (by rw [hp]; simp; omega)
    rw [hp] at this
    simp only [List.getD_eq_getElem?_getD, List.getElem?_append_left hi, List.getElem?_append_left (show i < p.length by omega)] at this
    show p.getD (i + 1) 0 ∈ rowI g (p.getD i 0)
    rw [List.getD_eq_getElem?_getD, List.getD_eq_getElem?_getD]; exact this
  · rcases h.gb with ⟨_, k2, _⟩ | hB
    · exact absurd (k2 v (by rw [hp]; simp)) hne
    · exact .inr hB
theorem sub_split {p A B : List Int} {v : Int} (h : (p ++ [v]).Sublist (A ++ v :: B)) (hA : v ∉ A) (hB : v ∉ B) : p.Sublist A := by
  obtain ⟨a, b, e, ha, hb⟩ := List.sublist_append_iff.1 h
  have hbn : b ≠ [] := by
    rintro rfl
    rw [List.append_nil] at e
    exact hA (ha.subset (by rw [← e]; simp))
  have e1 : b = b.dropLast ++ [v] := by
    have h1 := (List.dropLast_concat_getLast hbn).symm
    have h2 : (p ++ [v]).getLast? = (a ++ b).getLast? := by rw [e]
    rw [List.getLast?_append, List.getLast?_append] at h2
    have h3 : b.getLast? = some v := by
      cases hq : b.getLast? with
      | none => exact absurd (List.getLast?_eq_none_iff.1 hq) hbn
      | some z => rw [hq] at h2; simpa using h2.symm
    rw [List.getLast?_eq_some_getLast hbn] at h3
    have h4 := Option.some.inj h3
    rw [h4] at h1; exact h1
  have hz : b.dropLast = [] := by
    cases hd : b.dropLast with
    | nil => rfl
    | cons z r =>
      exfalso
      rw [hd] at e1
      rw [e1] at hb
      cases hb with
      | cons _ hb => exact hB (hb.subset (by simp))
      | cons_cons _ hb => exact hB (hb.subset (by simp))
  rw [hz, List.nil_append] at e1
  rw [e1] at e
  have := List.append_inj_left' e rfl
  rw [this]; exact ha
theorem Inv.nd (h : Inv g sh x) : x.hd.Nodup := h.srt.imp fun hab e => by rw [e] at hab; omega
theorem Inv.pop1 (hg : OkG g sh) (h : Inv g sh x) {p A B : List Int} {v : Int} (hp : x.pa = p ++ [v]) (hA : x.hd = A ++ v :: B) (hv : gI x.lo v = gI x.se v) (ha : gI x.ati v = ((rowI g v).length : Int)) :
    Inv g sh { x with hd := A, nm := (v :: B).foldl (cmF (mnZ (v :: B))) x.nm, pa := p } ∧ (p = [] → A = []) := by
  have hnd := h.nd
  rw [hA] at hnd
  obtain ⟨n1, n2, n3⟩ := List.nodup_append.1 hnd
  have hvA : v ∉ A := fun hm => n3 v hm v List.mem_cons_self rfl
  have hvB : v ∉ B := (List.nodup_cons.1 n2).1
  have hin : ∀ y, y ∈ x.hd ↔ y ∈ A ∨ y ∈ v :: B := fun y => by rw [hA, List.mem_append]
  have hvh : v ∈ x.hd := (hin v).2 (.inr List.mem_cons_self)
  have hdis : ∀ y ∈ A, y ∉ v :: B := fun y hy hm => n3 y hy y hm rfl
  have hmm := mnZ_mem (l := v :: B) (by simp)
  generalize hm : mnZ (v :: B) = m at *
  have hm0 := h.hr m ((hin m).2 (.inr hmm))
  have e1 : ∀ y, 0 ≤ y → gI ((v :: B).foldl (cmF m) x.nm) y = if y ∈ v :: B then m else gI x.nm y := fun y hy => cmFs_gI m _ _ y (fun z hz => by have := h.hr z ((hin z).2 (.inr hz)); rw [h.l4]; exact ⟨this.1, this.2.1⟩) hy
  have hpA : p.Sublist A := by have := h.sub; rw [hp, hA] at this; exact sub_split this hvA hvB
  have hhead : p ≠ [] → A.head? = x.hd.head? := fun hpn => by
    rw [hA]
    cases A with
    | nil => exact absurd (List.sublist_nil.1 hpA) hpn
    | cons a r => rfl
  have hsA : A.Pairwise (fun a b => gI x.se a < gI x.se b) := by have := h.srt; rw [hA] at this; exact (List.pairwise_append.1 this).1
  have hpA0 : p = [] → A = [] := by
    rintro rfl
    have := h.head
    rw [hp, hA] at this
    cases A with
    | nil => rfl
    | cons a r => simp at this; subst this; simp at hvA
  refine ⟨⟨h.l1, h.l2, h.l3, ?_, fun y hy => h.hr y ((hin y).2 (.inl hy)), hpA, ?_, hsA, fun y y0 y1 => ?_, h.cnt, fun y hy => ?_, h.atb, fun y y0 y1 hz => ?_, ?_, fun i hi => ?_, ?_⟩, hpA0⟩
  · show ((v :: B).foldl (cmF m) x.nm).length = _
    rw [cmFs_len]; exact h.l4
  · show p.head? = A.head?
    by_cases hpn : p = []
    · rw [hpn, hpA0 hpn]
    · rw [hhead hpn, ← h.head, hp]
      cases p with
      | nil => exact absurd rfl hpn
      | cons a r => rfl
  · show y ∈ A ↔ gI x.se y ≠ 0 ∧ gI ((v :: B).foldl (cmF m) x.nm) y < 0
    rw [e1 y y0]
    have hy := h.mem y y0 y1
    rw [hin] at hy
    split
    · rename_i hb
      constructor
      · intro ha; exact absurd hb (hdis y ha)
      · rintro ⟨_, q⟩; omega
    · rename_i hb
      rw [← hy]; simp only [hb, or_false]
  · have hy' := (hin y).2 (.inl hy)
    refine ⟨(h.low y hy').1, fun a ha => ?_⟩
    refine (h.low y hy').2 a ?_
    have ha : A.head? = some a := ha
    rw [hA]
    cases A with
    | nil => simp at hy
    | cons b r => exact ha
  · refine ⟨(h.un y y0 y1 hz).1, ?_⟩
    show gI ((v :: B).foldl (cmF m) x.nm) y < 0
    rw [e1 y y0, if_neg]
    · exact (h.un y y0 y1 hz).2
    · intro hb
      exact ((h.mem y y0 y1).1 ((hin y).2 (.inr hb))).1 hz
  · have := h.len
    rw [hA] at this
    simp at this
    show (A.length : Int) ≤ x.c
    omega
  · have hi : i + 1 < p.length := hi
    have := h.chain i (by rw [hp]; simp; omega)
    rw [hp] at this
    simp only [List.getD_eq_getElem?_getD, List.getElem?_append_left hi, List.getElem?_append_left (show i < p.length by omega)] at this
    show p.getD (i + 1) 0 ∈ rowI g (p.getD i 0)
    rw [List.getD_eq_getElem?_getD, List.getD_eq_getElem?_getD]; exact this
  · rcases h.gb with ⟨k1, k2, fin, k3, k4, k5, k6⟩ | ⟨k1, k2⟩
    · left
      have hs : A ++ v :: B = p ++ [v] := by rw [← hA, ← hp]; exact k1
      have hl := hpA.length_le
      have hB : B = [] := by
        have := congrArg List.length hs
        simp at this
        exact List.eq_nil_of_length_eq_zero (by omega)
      subst hB
      obtain rfl : A = p := List.append_inj_left' hs rfl
      have hmv : m = v := by rw [← hm]; exact mnZ_one v
      subst hmv
      have hvr := h.hr m hvh
      have hlt : ∀ y ∈ A, gI x.se y < gI x.se m := fun y hy => by
        have := h.srt; rw [hA] at this
        exact (List.pairwise_append.1 this).2.2 y hy m (by simp)
      refine ⟨rfl, fun y hy => k2 y (by rw [hp]; exact List.mem_append_left _ hy), m :: fin, ⟨?_, fun w hw how => ?_, k3⟩, fun y y0 y1 => ?_, fun y hy => ?_, fun y hy j hj => ?_⟩
      · intro hmf
        have := (k4 m hvr.1 hvr.2.1).1 hmf
        have := ((h.mem m hvr.1 hvr.2.1).1 hvh).2
        omega
      · obtain ⟨r0, r1, r2⟩ := row_in hg hvr.1 hvr.2.1 hw
        obtain ⟨j, hj⟩ := List.getElem?_of_mem hw
        have hjl := (List.getElem?_eq_some_iff.1 hj).1
        have hjd : (rowI g m).getD j 0 = w := by rw [List.getD_eq_getElem?_getD, hj]; rfl
        have := k6 m (by rw [hp]; simp) j (by omega)
        rw [hjd] at this
        rcases this with q | q | ⟨q1, q2⟩
        · rw [how] at q; cases q
        · exact q
        · rw [hp] at q1
          rcases List.mem_append.1 q1 with q1 | q1
          · have := hlt w q1; omega
          · exact absurd (List.mem_singleton.1 q1) r2
      · show y ∈ m :: fin ↔ 0 ≤ gI ([m].foldl (cmF m) x.nm) y
        rw [e1 y y0, List.mem_cons, k4 y y0 y1]
        by_cases e : y = m
        · simp [e]; exact hvr.1
        · simp [e]
      · show 0 ≤ y ∧ gI ([m].foldl (cmF m) x.nm) y = y
        rcases List.mem_cons.1 hy with rfl | hy
        · rw [e1 y hvr.1, if_pos (by simp)]; exact ⟨hvr.1, rfl⟩
        · obtain ⟨y0, hk⟩ := k5 y hy
          rw [e1 y y0]
          refine ⟨y0, ?_⟩
          split
          · rename_i e; rw [List.mem_singleton] at e; exact e.symm
          · exact hk
      · have hyp : y ∈ x.pa := by rw [hp]; exact List.mem_append_left _ hy
        rcases k6 y hyp j hj with q | q | ⟨q1, q2⟩
        · exact .inl q
        · exact .inr (.inl (List.mem_cons_of_mem _ q))
        · rw [hp] at q1
          rcases List.mem_append.1 q1 with q1 | q1
          · exact .inr (.inr ⟨q1, q2⟩)
          · rw [List.mem_singleton.1 q1]; exact .inr (.inl List.mem_cons_self)
    · right
      refine ⟨k1, ?_⟩
      rcases k2 with ⟨y, hy, q⟩ | ⟨y, y0, y1, q1, q2⟩
      · rcases (hin y).1 hy with hy | hy
        · exact .inl ⟨y, hy, q⟩
        · right
          have hyv : y ≠ v := by rintro rfl; omega
          have hyr := h.hr y ((hin y).2 (.inr hy))
          have hvr := h.hr v hvh
          by_cases e : m = y
          · refine ⟨v, hvr.1, hvr.2.1, ?_, ?_⟩
            · show 0 ≤ gI ((v :: B).foldl (cmF m) x.nm) v
              rw [e1 v hvr.1, if_pos (by simp)]; exact hm0.1
            · show gI ((v :: B).foldl (cmF m) x.nm) v ≠ v
              rw [e1 v hvr.1, if_pos (by simp), e]; exact hyv
          · refine ⟨y, hyr.1, hyr.2.1, ?_, ?_⟩
            · show 0 ≤ gI ((v :: B).foldl (cmF m) x.nm) y
              rw [e1 y hyr.1, if_pos hy]; exact hm0.1
            · show gI ((v :: B).foldl (cmF m) x.nm) y ≠ y
              rw [e1 y hyr.1, if_pos hy]; exact e
      · right
        have hnb : y ∉ v :: B := fun hb => by
          have := ((h.mem y y0 y1).1 ((hin y).2 (.inr hb))).2; omega
        refine ⟨y, y0, y1, ?_, ?_⟩
        · show 0 ≤ gI ((v :: B).foldl (cmF m) x.nm) y
          rw [e1 y y0, if_neg hnb]; exact q1
        · show gI ((v :: B).foldl (cmF m) x.nm) y ≠ y
          rw [e1 y y0, if_neg hnb]; exact q2
theorem Inv.cyc (h : Inv g sh x) {p : List Int} {v w : Int} (hp : x.pa = p ++ [v]) (hw : w ∈ x.pa) (he : w ∈ rowI g v) : Cyc g sh := by
  obtain ⟨k, hk⟩ := List.getElem?_of_mem hw
  have hkl := (List.getElem?_eq_some_iff.1 hk).1
  have hd : ∀ i, (x.pa.drop k).getD i 0 = x.pa.getD (k + i) 0 := fun i => by rw [List.getD_eq_getElem?_getD, List.getElem?_drop, List.getD_eq_getElem?_getD]
  have hl : (x.pa.drop k).length = x.pa.length - k := List.length_drop
  have hpl : x.pa.length = p.length + 1 := by rw [hp]; simp
  refine ⟨x.pa.drop k, fun e => ?_, fun y hy => ?_, fun i hi => ?_⟩
  · have := congrArg List.length e
    rw [hl] at this; simp at this; omega
  · exact h.hr y (h.sub.subset (List.mem_of_mem_drop hy))
  · rw [hl] at hi
    rw [hd i, hl]
    by_cases e : i + 1 = x.pa.length - k
    · rw [e, Nat.mod_self, hd 0, Nat.add_zero, show k + i = p.length by omega]
      have e1 : x.pa.getD k 0 = w := by rw [List.getD_eq_getElem?_getD, hk]; rfl
      have e2 : x.pa.getD p.length 0 = v := by rw [hp, List.getD_eq_getElem?_getD, List.getElem?_append_right (Nat.le_refl _), Nat.sub_self]; rfl
      rw [e1, e2]; exact he
    · rw [Nat.mod_eq_of_lt (by omega), hd (i + 1)]
      exact h.chain (k + i) (by omega)
def frX (g : List (List Int)) (sh : List Bool) (y : TaS) : List (Option Blk) := [some { es := [srA g sh (.sl 1 0 y.se.length) (.sl 2 0 y.lo.length) (.sl 3 0 y.ati.length) (.sl 5 0 y.pa.length) (.sl 6 0 y.hd.length) y.c (.sl 4 0 y.nm.length)], z := 9, flat := false }, some { es := y.se.map (AV.int .i64), z := 1 }, some { es := y.lo.map (AV.int .i64), z := 1 }, some { es := y.ati.map (AV.int .i64), z := 1 }, some { es := y.nm.map (AV.int .i64), z := 1 }, some { es := y.pa.map (AV.int .i64), z := 1 }, some { es := y.hd.map (AV.int .i64), z := 1 }]
def frR (g : List (List Int)) (sh : List Bool) (y : TaS) : Ret := ([some { es := [srA g sh (.sl 1 0 y.se.length) (.sl 2 0 y.lo.length) (.sl 3 0 y.ati.length) (.sl 4 0 y.pa.length) (.sl 5 0 y.hd.length) y.c (.sl 6 0 y.nm.length)], z := 9, flat := false }, some { es := y.se.map (AV.int .i64), z := 1 }, some { es := y.lo.map (AV.int .i64), z := 1 }, some { es := y.ati.map (AV.int .i64), z := 1 }, some { es := y.pa.map (AV.int .i64), z := 1 }, some { es := y.hd.map (AV.int .i64), z := 1 }, some { es := y.nm.map (AV.int .i64), z := 1 }], .tup [])
def dgS (g : List (List Int)) : Int := (g.map fun r => (r.length : Int)).sum
theorem sum_set : ∀ (l : List Int) (i : Nat), i < l.length → (l.set i (l.getD i 0 + 1)).sum = l.sum + 1
  | [], i, h => by simp at h
  | x :: l, 0, _ => by simp; omega
  | x :: l, i + 1, h => by
    have := sum_set l i (by simpa using h)
    simp only [List.set_cons_succ, List.sum_cons, List.getD_cons_succ]
    omega
theorem sum_le : ∀ (l : List Int) (g : List (List Int)), l.length = g.length → (∀ i, i < g.length → l.getD i 0 ≤ ((g.getD i []).length : Int)) → l.sum ≤ dgS g
  | [], [], _, _ => by simp [dgS]
  | x :: l, r :: g, h, hh => by
    have h1 := hh 0 (by simp)
    have h2 := sum_le l g (by simpa using h) fun i hi => by simpa using hh (i + 1) (by simpa using hi)
    simp [dgS] at h1 h2 ⊢
    omega
  | [], _ :: _, h, _ => by simp at h
  | _ :: _, [], h, _ => by simp at h
theorem Inv.sum (h : Inv g sh x) : x.ati.sum ≤ dgS g := sum_le _ _ h.l3 fun i hi => by
  have := (h.atb (i : Int) (by omega) (by omega)).2
  unfold gI rowI at this
  simpa using this
theorem cm_split {hd nm : List Int} {v : Int} (h : v ∈ hd) : ∃ B, hd = cmH hd v ++ v :: B ∧ cmN nm hd v = (v :: B).foldl (cmF (mnZ (v :: B))) nm := by
  obtain ⟨i, hi, hi2, hi3, _⟩ := ixZ_in h
  have e : hd.drop i = v :: hd.drop (i + 1) := by
    rw [List.drop_eq_getElem_cons hi2]
    congr 1
    rw [List.getD_eq_getElem?_getD, List.getElem?_eq_getElem hi2] at hi3
    exact hi3
  refine ⟨hd.drop (i + 1), ?_, ?_⟩
  · unfold cmH
    rw [hi, Int.toNat_natCast, ← e, List.take_append_drop]
  · unfold cmN
    rw [hi, Int.toNat_natCast, e]
theorem shB_el {v : Int} (h0 : 0 ≤ v) (h1 : v < (sh.length : Int)) : sh[v.toNat]? = some (shB sh v) := getE false (by omega)
theorem row_el {v : Int} (h0 : 0 ≤ v) (h1 : v < (g.length : Int)) : g[v.toNat]? = some (rowI g v) := getE [] (by omega)
theorem frm_run (hg : OkG g sh) {C : Int} (hC : C ≤ 1000000) (e1 e2 e3 e4 e5 e6 : List Int) (e7 e8 : Int) : ∀ (k : Nat) (x : TaS) (p : List Int) (v : Int), Inv g sh x → x.pa = p ++ [v] →
    x.c + 2 * (dgS g - x.ati.sum) + x.pa.length ≤ C → 2 * (dgS g - x.ati.sum) + x.pa.length ≤ k →
    ∃ y, (Inv g sh y ∧ y.hd = [] ∧ y.pa = [] ∧ (∀ z, 0 ≤ z → z < (g.length : Int) → gI x.se z ≠ 0 → gI y.se z ≠ 0) ∧ y.c + 2 * (dgS g - y.ati.sum) ≤ C) ∧
      MReach (frmStep g sh e1 e2 e3 e4 e5 e6 e7 e8) (frmS1 g sh e1 e2 e3 e4 e5 e6 e7 e8 v x.se x.lo x.ati x.pa.length x.hd x.c x.nm x.pa) (frR g sh y) := by
  intro k
  induction k with
  | zero =>
    intro x p v h hp h1 h2
    have := h.sum
    rw [hp] at h2; simp at h2; omega
  | succ k ih =>
    intro x p v h hp h1 h2
    have hsum := h.sum
    have hl1 := h.l1
    have hl2 := h.l2
    have hl3 := h.l3
    have hl4 := h.l4
    have hpl : x.pa.length = p.length + 1 := by rw [hp]; simp
    have hvp : v ∈ x.pa := by rw [hp]; simp
    have hvh : v ∈ x.hd := h.sub.subset hvp
    obtain ⟨v0, v1, v2⟩ := h.hr v hvh
    have hat := h.atb v v0 v1
    have hc := h.cnt
    have hlen := h.len
    have hsl := h.sub.length_le
    have hrl : (rowI g v).length ≤ 9223372036854775807 := (hg.row v.toNat (by omega)).1
    have hset : (x.ati.set v.toNat (gI x.ati v + 1)).sum = x.ati.sum + 1 := sum_set x.ati v.toNat (by omega)
    have hS0 : ∀ a b c d e f i j l, frmStep g sh e1 e2 e3 e4 e5 e6 e7 e8 (.l0 a b c d e f i j l) = frmS0 g sh e1 e2 e3 e4 e5 e6 e7 e8 a b c d e f i j l := fun _ _ _ _ _ _ _ _ _ => rfl
    have hS1 : ∀ a b c d e f i j l, frmStep g sh e1 e2 e3 e4 e5 e6 e7 e8 (.l1 a b c d e f i j l) = frmS1 g sh e1 e2 e3 e4 e5 e6 e7 e8 a b c d e f i j l := fun _ _ _ _ _ _ _ _ _ => rfl
    unfold frmS1
    simp only [Nat.zero_add]
    rw [gu_t v0, gu_t (by simp only [iN]; omega), el_t (gI_el v0 (by omega)), el_t (row_el v0 v1)]
    by_cases hb : gI x.ati v < ((rowI g v).length : Int)
    · have hwm : (rowI g v)[(gI x.ati v).toNat]? = some ((rowI g v).getD (gI x.ati v).toNat 0) := getE 0 (by omega)
      generalize hw : (rowI g v).getD (gI x.ati v).toNat 0 = w at hwm
      have hwr := List.mem_of_getElem? hwm
      obtain ⟨w0, w1, w2⟩ := row_in hg v0 v1 hwr
      have hsh : w < (sh.length : Int) := by rw [hg.sh]; exact w1
      rw [br_t (decide_eq_true (by simp only [iN, List.length_map]; exact hb)), el_t (row_el v0 v1), el_t (gI_el v0 (by omega)), gu_t hat.1, el_t hwm, el_t (gI_el v0 (by omega)), gu_t (by rw [List.length_map]; show _ + 1 ≤ _; omega), gu_t w0, el_t (shB_el w0 hsh), wrap_in (x := gI x.ati v + 1) (by omega) (by omega)]
      cases hsw : shB sh w with
      | true =>
        rw [br_t rfl]
        obtain ⟨y, hy, hr⟩ := ih _ p v (h.bump hvh hb (fun _ => .inl (by rw [hw]; exact hsw)) hg) hp (by show x.c + 2 * (dgS g - (x.ati.set v.toNat (gI x.ati v + 1)).sum) + x.pa.length ≤ C; omega) (by show 2 * (dgS g - (x.ati.set v.toNat (gI x.ati v + 1)).sum) + x.pa.length ≤ k; omega)
        exact ⟨y, hy, .to (hS1 _ _ _ _ _ _ _ _ _) hr⟩
      | false =>
        rw [br_f rfl, gu_t (by simp only [iN]; omega), el_t (gI_el w0 (by omega))]
        by_cases hs : gI x.se w = 0
        · rw [br_t (by simp [hs])]
          have hE := h.enter w0 w1 hsw hs (fun p' v' hp' => by
            have := List.append_inj_right' (hp.symm.trans hp') rfl
            simp only [List.cons.injEq, and_true] at this
            rw [← this]; exact hwr)
          have hsv : gI x.se v ≠ 0 := ((h.mem v v0 v1).1 hvh).1
          have hvw : v ≠ w := fun e => w2 e.symm
          have f1 : gI (x.se.set w.toNat (x.c + 1)) v = gI x.se v := by rw [gI_set w0 (by omega) v0, if_neg hvw]
          have f2 : gI (x.se.set w.toNat (x.c + 1)) w = x.c + 1 := by rw [gI_set w0 (by omega) w0, if_pos rfl]
          have hB := hE.bump (v := v) (List.mem_append_left _ hvh) hb (fun _ => .inr (.inr ⟨by show (rowI g v).getD (gI x.ati v).toNat 0 ∈ x.pa ++ [w]; rw [hw]; simp, by
            show gI (x.se.set w.toNat (x.c + 1)) v < gI (x.se.set w.toNat (x.c + 1)) ((rowI g v).getD (gI x.ati v).toNat 0)
            rw [hw, f1, f2]; have := (hc.2 v v0 v1).2; omega⟩)) hg
          obtain ⟨y, ⟨y1, y2, y3, y4, y5⟩, hr⟩ := ih _ x.pa w hB rfl (by show x.c + 1 + 2 * (dgS g - (x.ati.set v.toNat (gI x.ati v + 1)).sum) + ((x.pa ++ [w]).length : Nat) ≤ C; simp; omega) (by show 2 * (dgS g - (x.ati.set v.toNat (gI x.ati v + 1)).sum) + ((x.pa ++ [w]).length : Nat) ≤ k; simp; omega)
          refine ⟨y, ⟨y1, y2, y3, fun z z0 z1 hz => y4 z z0 z1 ?_, y5⟩, .to (hS0 _ _ _ _ _ _ _ _ _) ?_⟩
          · show gI (x.se.set w.toNat (x.c + 1)) z ≠ 0
            rw [gI_set w0 (by omega) z0]
            split
            · omega
            · exact hz
          · rw [frm_S0 w0 (by omega) (by omega) (by rw [List.length_set]; omega) rfl (by omega) (by omega), wrap_in (x := x.c + 1) (by omega) (by omega)]
            simp only [List.length_append, List.length_singleton] at hr
            exact hr
        · rw [br_f (by simp [hs]), gu_t (by simp only [iN]; omega), el_t (gI_el w0 (by omega))]
          by_cases hn : gI x.nm w < 0
          · have hwh : w ∈ x.hd := (h.mem w w0 w1).2 ⟨hs, hn⟩
            rw [br_t (decide_eq_true hn), gu_t (by simp only [iN]; omega), el_t (gI_el v0 (by omega)), el_t (gI_el w0 (by omega)), gu_t (by rw [List.length_map]; show _ + 1 ≤ _; omega)]
            have hL := h.lower hvh (t := gI x.se w) (fun a ha => h.sehd ha hwh) (.inr (by
              rcases h.gb with hG | hB
              · exact h.cyc hp (hG.1 ▸ hwh) hwr
              · exact hB.1))
            have hB := hL.bump (v := v) hvh hb (fun hG => by
              exfalso
              obtain ⟨k1, k2, _⟩ := hG
              have k1 : x.hd = x.pa := k1
              have e3 := k2 v hvp
              have e3 : gI (x.lo.set v.toNat (if gI x.se w < gI x.lo v then gI x.se w else gI x.lo v)) v = gI x.se v := e3
              rw [gI_set v0 (by omega) v0, if_pos rfl] at e3
              have hwp : w ∈ p := by
                have := hwh
                rw [k1, hp] at this
                rcases List.mem_append.1 this with q | q
                · exact q
                · exact absurd (List.mem_singleton.1 q) w2
              have hlt : gI x.se w < gI x.se v := by
                have := h.srt
                rw [k1, hp] at this
                exact (List.pairwise_append.1 this).2.2 w hwp v (by simp)
              split at e3 <;> omega) hg
            obtain ⟨y, hy, hr⟩ := ih _ p v hB hp (by show x.c + 2 * (dgS g - (x.ati.set v.toNat (gI x.ati v + 1)).sum) + x.pa.length ≤ C; omega) (by show 2 * (dgS g - (x.ati.set v.toNat (gI x.ati v + 1)).sum) + x.pa.length ≤ k; omega)
            exact ⟨y, hy, .to (hS1 _ _ _ _ _ _ _ _ _) hr⟩
          · rw [br_f (decide_eq_false hn)]
            obtain ⟨y, hy, hr⟩ := ih _ p v (h.bump hvh hb (fun _ => .inr (.inl (by rw [hw]; omega))) hg) hp (by show x.c + 2 * (dgS g - (x.ati.set v.toNat (gI x.ati v + 1)).sum) + x.pa.length ≤ C; omega) (by show 2 * (dgS g - (x.ati.set v.toNat (gI x.ati v + 1)).sum) + x.pa.length ≤ k; omega)
            exact ⟨y, hy, .to (hS1 _ _ _ _ _ _ _ _ _) hr⟩
    · have ew : IntKind.i64.wrap (iN x.pa.length - 1) = (p.length : Int) := by rw [wrap_in (by simp only [iN]; omega) (by simp only [iN]; omega)]; simp only [iN]; omega
      have et : List.take p.length x.pa = p := by rw [hp]; simp
      have et2 : List.take p.length (List.map (AV.int .i64) x.pa) = List.map (AV.int .i64) p := by rw [← List.map_take, et]
      have ha : gI x.ati v = ((rowI g v).length : Int) := by omega
      simp only [ew, Int.toNat_natCast, et, et2]
      rw [br_f (decide_eq_false (by simp only [iN, List.length_map]; omega)), gu_t (by omega), gu_t (by simp only [iN]; omega), gu_t (by simp only [iN]; omega), el_t (gI_el v0 (by omega)), gu_t (by simp only [iN]; omega), el_t (gI_el v0 (by omega))]
      by_cases hv : gI x.lo v = gI x.se v
      · obtain ⟨B, hA, hN⟩ := cm_split (nm := x.nm) hvh
        obtain ⟨hP, hP0⟩ := h.pop1 hg hp hA hv ha
        rw [← hN] at hP
        rw [br_t (by simp [hv]), gu_t ⟨⟨hvh, by omega, fun y hy => by have := h.hr y hy; exact ⟨this.1, by rw [hl4]; exact this.2.1⟩⟩, by simp⟩]
        by_cases hpn : p = []
        · subst hpn
          rw [br_f (by rfl)]
          exact ⟨_, ⟨hP, hP0 rfl, rfl, fun _ _ _ h => h, by show x.c + 2 * (dgS g - x.ati.sum) ≤ C; omega⟩, .val rfl⟩
        · obtain ⟨p', u, rfl⟩ : ∃ p' u, p = p' ++ [u] := ⟨_, _, (List.dropLast_concat_getLast hpn).symm⟩
          have hup : u ∈ p' ++ [u] := by simp
          have huA : u ∈ cmH x.hd v := hP.sub.subset hup
          obtain ⟨u0, u1, _⟩ := hP.hr u huA
          have hui : (p' ++ [u])[p'.length]? = some u := by simp
          have hpl2 : (p' ++ [u]).length = p'.length + 1 := by simp
          have ew2 : IntKind.i64.wrap (iN (p' ++ [u]).length - 1) = (p'.length : Int) := by rw [wrap_in (by simp only [iN]; omega) (by simp only [iN]; omega)]; simp only [iN]; omega
          rw [ew2, Int.toNat_natCast, br_t (decide_eq_true (by simp only [iN]; omega)), gu_t (by omega), gu_t (by simp only [iN]; omega), el_t hui, gu_t u0, gu_t (by simp only [iN]; omega), el_t (gI_el u0 (by omega)), el_t (gI_el v0 (by omega)), gu_t (by rw [List.length_map]; show _ + 1 ≤ _; omega)]
          have hL := hP.lower (t := gI x.lo v) huA (fun a hq => (h.low v hvh).2 a (by
            have hq : (cmH x.hd v).head? = some a := hq
            rw [hA]
            cases hc2 : cmH x.hd v with
            | nil => rw [hc2] at huA; simp at huA
            | cons b r => rw [hc2] at hq; exact hq)) (by
            rcases h.gb with hG | hB
            · left
              have hup2 : u ∈ x.pa := by rw [hp]; exact List.mem_append_left _ hup
              have e3 := hG.2.1 u hup2
              have hlt : gI x.se u < gI x.se v := by
                have := h.srt
                rw [hG.1, hp] at this
                exact (List.pairwise_append.1 this).2.2 u hup v (by simp)
              show gI x.lo u ≤ gI x.lo v
              omega
            · exact .inr hB.1)
          obtain ⟨y, hy, hr⟩ := ih _ p' u hL rfl (by show x.c + 2 * (dgS g - x.ati.sum) + ((p' ++ [u]).length : Nat) ≤ C; omega) (by show 2 * (dgS g - x.ati.sum) + ((p' ++ [u]).length : Nat) ≤ k; omega)
          exact ⟨y, hy, .to (hS1 _ _ _ _ _ _ _ _ _) hr⟩
      · obtain ⟨hP, hpn⟩ := h.pop2 hp hv
        obtain ⟨p', u, rfl⟩ : ∃ p' u, p = p' ++ [u] := ⟨_, _, (List.dropLast_concat_getLast hpn).symm⟩
        have hup : u ∈ p' ++ [u] := by simp
        have huA : u ∈ x.hd := hP.sub.subset hup
        obtain ⟨u0, u1, _⟩ := hP.hr u huA
        have hui : (p' ++ [u])[p'.length]? = some u := by simp
        have hpl2 : (p' ++ [u]).length = p'.length + 1 := by simp
        have ew2 : IntKind.i64.wrap (iN (p' ++ [u]).length - 1) = (p'.length : Int) := by rw [wrap_in (by simp only [iN]; omega) (by simp only [iN]; omega)]; simp only [iN]; omega
        rw [br_f (by simp [hv]), ew2, Int.toNat_natCast, br_t (decide_eq_true (by simp only [iN]; omega)), gu_t (by omega), gu_t (by simp only [iN]; omega), el_t hui, gu_t u0, gu_t (by simp only [iN]; omega), el_t (gI_el u0 (by omega)), el_t (gI_el v0 (by omega)), gu_t (by rw [List.length_map]; show _ + 1 ≤ _; omega)]
        have hL := hP.lower (t := gI x.lo v) huA (fun a hq => (h.low v hvh).2 a hq) (by
          rcases h.gb with hG | hB
          · exact absurd (hG.2.1 v hvp) hv
          · exact .inr hB.1)
        obtain ⟨y, hy, hr⟩ := ih _ p' u hL rfl (by show x.c + 2 * (dgS g - x.ati.sum) + ((p' ++ [u]).length : Nat) ≤ C; omega) (by show 2 * (dgS g - x.ati.sum) + ((p' ++ [u]).length : Nat) ≤ k; omega)
        exact ⟨y, hy, .to (hS1 _ _ _ _ _ _ _ _ _) hr⟩
structure Idle (g : List (List Int)) (sh : List Bool) (x : TaS) : Prop where
  inv : Inv g sh x
  hd : x.hd = []
  pa : x.pa = []
structure FrI (g : List (List Int)) (sh : List Bool) (x : TaS) (q : Int) : Prop where
  ok : OkG g sh
  idle : Idle g sh x
  q0 : 0 ≤ q
  q1 : q < (g.length : Int)
  op : shB sh q = false
  un : gI x.se q = 0
  bd : x.c + 2 * (dgS g - x.ati.sum) ≤ 900000
structure FrO (g : List (List Int)) (sh : List Bool) (x : TaS) (q : Int) (y : TaS) : Prop where
  idle : Idle g sh y
  old : ∀ z, 0 ≤ z → z < (g.length : Int) → gI x.se z ≠ 0 → gI y.se z ≠ 0
  new : gI y.se q ≠ 0
  bd : y.c + 2 * (dgS g - y.ati.sum) ≤ x.c + 2 * (dgS g - x.ati.sum) + 2
theorem frm_exP (g : List (List Int)) (sh : List Bool) (x : TaS) (q : Int) : ∃ y : TaS, FrI g sh x q → FrO g sh x q y ∧ CTX Try.prog 19 (frX g sh x) [.ptr 0 0 0, .int .i64 q] (frR g sh y).1 (.tup []) := by
  by_cases hF : FrI g sh x q
  · obtain ⟨hg, ⟨hI, hd, hp⟩, q0, q1, qo, qu, hb⟩ := hF
    have hE := hI.enter q0 q1 qo qu (fun p v e => by rw [hp] at e; simp at e)
    have hsum := hI.sum
    have l1 := hI.l1
    have l2 := hI.l2
    have l3 := hI.l3
    have hc := hI.cnt
    have hpn : x.pa ++ [q] = [] ++ [q] := by rw [hp]
    obtain ⟨y, ⟨y1, y2, y3, y4, y5⟩, hr⟩ := frm_run hg (C := x.c + 2 * (dgS g - x.ati.sum) + 2) (by omega) x.se x.lo x.ati x.pa x.hd x.nm x.c q _ _ [] q hE hpn (by show x.c + 1 + 2 * (dgS g - x.ati.sum) + ((x.pa ++ [q]).length : Nat) ≤ _; rw [hp]; simp; omega) (Int.self_le_toNat _)
    refine ⟨y, fun _ => ⟨⟨⟨y1, y2, y3⟩, fun z z0 z1 hz => y4 z z0 z1 ?_, y4 q q0 q1 ?_, y5⟩, ?_⟩⟩
    · show gI (x.se.set q.toNat (x.c + 1)) z ≠ 0
      rw [gI_set q0 (by omega) z0]
      split
      · omega
      · exact hz
    · show gI (x.se.set q.toNat (x.c + 1)) q ≠ 0
      rw [gI_set q0 (by omega) q0, if_pos rfl]; omega
    · refine frm_ct g sh x.se x.lo x.ati x.pa x.hd x.nm x.c q (frR g sh y) ?_
      rw [frm_En q0 (by omega) (by omega) (by omega) (by rw [hd]; simp) (by rw [hp]; simp), wrap_in (by omega) (by omega)]
      simp only [List.length_append, List.length_singleton] at hr
      exact hr
  · exact ⟨x, fun h => absurd h hF⟩
@[irreducible] noncomputable def frY (g : List (List Int)) (sh : List Bool) (se lo ati pa hd nm : List Int) (c q : Int) : TaS := Classical.choose (frm_exP g sh ⟨se, lo, ati, hd, c, nm, pa⟩ q)
theorem frY_spec {g : List (List Int)} {sh : List Bool} {se lo ati pa hd nm : List Int} {c q : Int} (h : FrI g sh ⟨se, lo, ati, hd, c, nm, pa⟩ q) : FrO g sh ⟨se, lo, ati, hd, c, nm, pa⟩ q (frY g sh se lo ati pa hd nm c q) ∧ CTX Try.prog 19 (frX g sh ⟨se, lo, ati, hd, c, nm, pa⟩) [.ptr 0 0 0, .int .i64 q] (frR g sh (frY g sh se lo ati pa hd nm c q)).1 (.tup []) := by
  unfold frY; exact Classical.choose_spec (frm_exP g sh ⟨se, lo, ati, hd, c, nm, pa⟩ q) h
theorem frm_c (g : List (List Int)) (sh : List Bool) (se lo ati pa hd nm : List Int) (c q : Int) (n1 n2 n3 np nh n6 : Nat) (h : FrI g sh ⟨se, lo, ati, hd, c, nm, pa⟩ q ∧ n1 = se.length ∧ n2 = lo.length ∧ n3 = ati.length ∧ np = pa.length ∧ nh = hd.length ∧ n6 = nm.length) : CTX Try.prog 19 [some { es := [srA g sh (.sl 1 0 n1) (.sl 2 0 n2) (.sl 3 0 n3) (.sl 5 0 np) (.sl 6 0 nh) c (.sl 4 0 n6)], z := 9, flat := false }, some { es := se.map (AV.int .i64), z := 1 }, some { es := lo.map (AV.int .i64), z := 1 }, some { es := ati.map (AV.int .i64), z := 1 }, some { es := nm.map (AV.int .i64), z := 1 }, some { es := pa.map (AV.int .i64), z := 1 }, some { es := hd.map (AV.int .i64), z := 1 }] [.ptr 0 0 0, .int .i64 q]
    [some { es := [srA g sh (.sl 1 0 (frY g sh se lo ati pa hd nm c q).se.length) (.sl 2 0 (frY g sh se lo ati pa hd nm c q).lo.length) (.sl 3 0 (frY g sh se lo ati pa hd nm c q).ati.length) (.sl 4 0 (frY g sh se lo ati pa hd nm c q).pa.length) (.sl 5 0 (frY g sh se lo ati pa hd nm c q).hd.length) (frY g sh se lo ati pa hd nm c q).c (.sl 6 0 (frY g sh se lo ati pa hd nm c q).nm.length)], z := 9, flat := false }, some { es := (frY g sh se lo ati pa hd nm c q).se.map (AV.int .i64), z := 1 }, some { es := (frY g sh se lo ati pa hd nm c q).lo.map (AV.int .i64), z := 1 }, some { es := (frY g sh se lo ati pa hd nm c q).ati.map (AV.int .i64), z := 1 }, some { es := (frY g sh se lo ati pa hd nm c q).pa.map (AV.int .i64), z := 1 }, some { es := (frY g sh se lo ati pa hd nm c q).hd.map (AV.int .i64), z := 1 }, some { es := (frY g sh se lo ati pa hd nm c q).nm.map (AV.int .i64), z := 1 }] (.tup []) := by
  obtain ⟨h, rfl, rfl, rfl, rfl, rfl, rfl⟩ := h
  exact (frY_spec h).2
noncomputable def mulSSt (c : Int) : Empty → St
  | x => x.elim
def mulSHd : Empty → Nat
  | x => x.elim
noncomputable def mulSEn (c : Int) : Option (Empty ⊕ Ret) :=
  some (.inr ([], AV.tup [AV.int IntKind.u64 (IntKind.u64.wrap (IntKind.u64.wrap (IntKind.u64.wrap (0 * c.fdiv 4294967296) + (IntKind.u64.wrap (IntKind.u64.wrap (0 * IntKind.u64.wrap (iN (BitVec.ofInt 64 c &&& BitVec.ofInt 64 4294967295).toNat)) + (IntKind.u64.wrap (1 * IntKind.u64.wrap (iN (BitVec.ofInt 64 c &&& BitVec.ofInt 64 4294967295).toNat))).fdiv 4294967296)).fdiv 4294967296) + (IntKind.u64.wrap (IntKind.u64.wrap (iN (BitVec.ofInt 64 (IntKind.u64.wrap (IntKind.u64.wrap (0 * IntKind.u64.wrap (iN (BitVec.ofInt 64 c &&& BitVec.ofInt 64 4294967295).toNat)) + (IntKind.u64.wrap (1 * IntKind.u64.wrap (iN (BitVec.ofInt 64 c &&& BitVec.ofInt 64 4294967295).toNat))).fdiv 4294967296)) &&& BitVec.ofInt 64 4294967295).toNat) + IntKind.u64.wrap (1 * c.fdiv 4294967296))).fdiv 4294967296)), AV.int IntKind.u64 (IntKind.u64.wrap (1 * c))]))
noncomputable def mulSStep (c : Int) : Empty → Option (Empty ⊕ Ret)
  | x => x.elim
theorem mulSEn_ok (c : Int) (o : Empty ⊕ Ret) (h : mulSEn c = some o) : Arr Try.prog Try.f25 0 (mulSSt c) mulSHd (bodyOf Try.f25) [] { n := Try.f25.ntmps, fr := enumF 0 ([.int .u64 1, .int .u64 c]), hp := ([]) } o :=
 Scr.ok h mix (
 .rt [] [] [] [] [] [] (aj (aj t3 (aj (u2 (u2 s2)) (aj (u2 (aj (ak (show Int.NonNeg (32 : Int) from (by first | decide | exact Int.NonNeg.mk _))) s2)) (aj (u2 (u2 s2)) (aj (u2 (aj (ak (show Int.NonNeg (32 : Int) from (by first | decide | exact Int.NonNeg.mk _))) s2)) (aj (u2 (u2 (aj t3 s2))) (aj (u2 (u2 (aj t3 (u2 (aj (ak (show Int.NonNeg (32 : Int) from (by first | decide | exact Int.NonNeg.mk _))) (aj t3 s2)))))) (aj (u2 (u2 s2)) (aj (u2 (aj (ak (show Int.NonNeg (32 : Int) from (by first | decide | exact Int.NonNeg.mk _))) s2)) (aj (u2 (u2 (u2 (aj t3 (aj t3 s2))))) (aj (u2 (u2 (aj t3 (u2 (aj t3 (u2 (aj (ak (show Int.NonNeg (32 : Int) from (by first | decide | exact Int.NonNeg.mk _))) (aj t3 s2)))))))) (al (u2 (u2 (aj t3 s2))))))))))))))) (al t3))) (by kernel_rfl)
theorem mulS_ct (c : Int) (r : Ret) (h : MReach (mulSStep c) (mulSEn c) r) : CT Try.prog 25 ([]) ([.int .u64 1, .int .u64 c]) r.1 r.2 :=
  CT.mach (fn := Try.f25) (c := bodyOf Try.f25) (S := mulSSt c) (hd := mulSHd) Try.func25 (by kernel_rfl) (Nat.le_of_ble_eq_true rfl)
    (fun s o ho => match s, ho with
      | x, _ => x.elim)
    (fun o ho => mulSEn_ok c o ho) h
theorem mulS_fin : ∀ n : Fin 49, mulSEn ((n.val : Nat) : Int) = some (.inr ([], AV.tup [AV.int .u64 0, AV.int .u64 ((n.val : Nat) : Int)])) := fun n => by
  have h : ∀ n : Fin 49, (match mulSEn ((n.val : Nat) : Int) with | some (.inr ([], .tup [.int _ a, .int _ b])) => decide (a = 0) && decide (b = ((n.val : Nat) : Int)) | _ => false) = true := by decide +kernel
  have h := h n
  unfold mulSEn at h ⊢
  simp only [Bool.and_eq_true, decide_eq_true_eq] at h
  rw [h.1, h.2]
theorem mul64_c (c : Int) (h : 0 ≤ c ∧ c ≤ 48) : CT Try.prog 25 [] [.int .u64 1, .int .u64 c] [] (.tup [.int .u64 0, .int .u64 c]) := by
  refine mulS_ct c ([], _) (.val ?_)
  have := mulS_fin ⟨c.toNat, by omega⟩
  have e : ((c.toNat : Nat) : Int) = c := by omega
  simp only [e] at this
  exact this
noncomputable def mulTSt (c : Int) : Empty → St
  | x => x.elim
def mulTHd : Empty → Nat
  | x => x.elim
noncomputable def mulTEn (c : Int) : Option (Empty ⊕ Ret) :=
  gu (0 ≤ c ∧ c ≤ 48) <|
  some (.inr ([], AV.tup [AV.int IntKind.u64 0, AV.int IntKind.u64 c]))
noncomputable def mulTStep (c : Int) : Empty → Option (Empty ⊕ Ret)
  | x => x.elim
theorem mulTEn_ok (c : Int) (o : Empty ⊕ Ret) (h : mulTEn c = some o) : Arr Try.prog Try.f22 0 (mulTSt c) mulTHd (bodyOf Try.f22) [] { n := Try.f22.ntmps, fr := enumF 0 ([.int .u64 1, .int .u64 c]), hp := ([]) } o :=
 Scr.ok h mix (
 .rn 0 [] [] [] [] (al t3) <|
 .gu fun a0 =>
 have c0 := mul64_c (c) a0;
 .rt [] [] [(25, hK c0 [] [])] [] [] [] (aj (ak (aj (u2 (u2 (aj (ak (k3 (al (c0)))) (u2 (u2 (u2 (u2 s2))))))) (al (u2 (u2 (u2 s2)))))) (al t3))) (by kernel_rfl)
theorem mulT_ct (c : Int) (r : Ret) (h : MReach (mulTStep c) (mulTEn c) r) : CT Try.prog 22 ([]) ([.int .u64 1, .int .u64 c]) r.1 r.2 :=
  CT.mach (fn := Try.f22) (c := bodyOf Try.f22) (S := mulTSt c) (hd := mulTHd) Try.func22 (by kernel_rfl) (Nat.le_of_ble_eq_true rfl)
    (fun s o ho => match s, ho with
      | x, _ => x.elim)
    (fun o ho => mulTEn_ok c o ho) h
theorem mul_c (c : Int) (h : 0 ≤ c ∧ c ≤ 48) : CT Try.prog 22 [] [.int .u64 1, .int .u64 c] [] (.tup [.int .u64 0, .int .u64 c]) := by
  refine mulT_ct c ([], _) (.val ?_)
  unfold mulTEn
  rw [gu_t h]
inductive repPc where
  | l0 (v0 : Int) (v1 : List Int)
noncomputable def repSt (c : Int) : repPc → St
  | .l0 v0 v1 => St.mk 48 [(7, AV.sl 0 0 (IntKind.i64.wrap (IntKind.u64.wrap c)).toNat), (8, iv v0)] [some (Blk.mk (List.map (iv) v1) 1 true true none)]
def repHd : repPc → Nat
  | .l0 _ _ => 0
noncomputable def repEn (c : Int) : Option (repPc ⊕ Ret) :=
  br (decide (c < 0))
  (none)
  (gu (0 ≤ IntKind.u64.wrap c ∧ IntKind.u64.wrap c ≤ 48) <|
   br (decide (9223372036854775807 < IntKind.u64.wrap c))
   (none)
   (gu (0 ≤ IntKind.i64.wrap (IntKind.u64.wrap c)) <|
    gu (8 * IntKind.i64.wrap (IntKind.u64.wrap c) ≤ 281474976710656) <|
    gu (IntKind.i64.wrap (IntKind.u64.wrap c) ≤ 9223372036854775807) <|
    some (.inl (.l0 (iN (min 1 (IntKind.i64.wrap (IntKind.u64.wrap c)).toNat)) (List.take (min 1 (IntKind.i64.wrap (IntKind.u64.wrap c)).toNat) [-1] ++ List.drop (0 + min 1 (IntKind.i64.wrap (IntKind.u64.wrap c)).toNat) (List.replicate (IntKind.i64.wrap (IntKind.u64.wrap c)).toNat 0))))))
noncomputable def repS0 (c : Int) (v0 : Int) (v1 : List Int) : Option (repPc ⊕ Ret) :=
  br (decide (v0 < iN (IntKind.i64.wrap (IntKind.u64.wrap c)).toNat))
  (gu (0 ≤ v0) <|
   gu (v0 ≤ iN (IntKind.i64.wrap (IntKind.u64.wrap c)).toNat) <|
   gu (0 + v0.toNat + ((IntKind.i64.wrap (IntKind.u64.wrap c)).toNat - v0.toNat) ≤ (List.map (AV.int IntKind.i64) v1).length) <|
   gu (0 + (v0.toNat - Int.toNat 0) ≤ (List.map (AV.int IntKind.i64) v1).length) <|
   some (.inl (.l0 (IntKind.i64.wrap (v0 + iN (min (List.take (v0.toNat - Int.toNat 0) (List.drop 0 (List.map (AV.int IntKind.i64) v1))).length ((IntKind.i64.wrap (IntKind.u64.wrap c)).toNat - v0.toNat)))) (List.take (0 + v0.toNat) v1 ++ List.take (min (List.take (v0.toNat - Int.toNat 0) (List.drop 0 (List.map (AV.int IntKind.i64) v1))).length ((IntKind.i64.wrap (IntKind.u64.wrap c)).toNat - v0.toNat)) (List.take (v0.toNat - Int.toNat 0) (List.drop 0 v1)) ++ List.drop (0 + v0.toNat + min (List.take (v0.toNat - Int.toNat 0) (List.drop 0 (List.map (AV.int IntKind.i64) v1))).length ((IntKind.i64.wrap (IntKind.u64.wrap c)).toNat - v0.toNat)) v1))))
  (some (.inr ([some (Blk.mk (List.map (AV.int IntKind.i64) v1) 1 true true none)], AV.sl 0 0 (IntKind.i64.wrap (IntKind.u64.wrap c)).toNat)))
noncomputable def repStep (c : Int) : repPc → Option (repPc ⊕ Ret)
  | .l0 v0 v1 => repS0 c v0 v1
theorem repEn_ok (c : Int) (o : repPc ⊕ Ret) (h : repEn c = some o) : Arr Try.prog Try.f18 0 (repSt c) repHd (bodyOf Try.f18) [] { n := Try.f18.ntmps, fr := enumF 0 ([lI [-1], .int .i64 c]), hp := ([]) } o :=
 Scr.ok h mix (
 .rn 1 [] [] [] [] (u2 (al (u2 s2))) <|
 .br (fun a0 =>
 .no)
 (fun a0 =>
 .gu fun a1 =>
 have c0 := mul_c (IntKind.u64.wrap c) a1;
 .rn 1 [20] [] [(18, hK c0 [] [])] [] (aj a0 (aj (u2 (u2 (u2 (u2 (u2 (aj (ak (k3 (al (c0)))) (u2 (u2 (u2 (u2 s2)))))))))) (al (u2 (u2 (u2 (aj t3 (aj t3 (al t3))))))))) <|
 .br (fun a2 =>
  .no)
 (fun a2 =>
  .gu fun a3 =>
  .gu fun a4 =>
  .gu fun a5 =>
  .lq [52] [] [] [] [] [0] [7, 8] (up [] [(0, [] ++ List.take (min 1 (IntKind.i64.wrap (IntKind.u64.wrap c)).toNat) [iv (-1)] ++ List.drop (0 + min 1 (IntKind.i64.wrap (IntKind.u64.wrap c)).toNat) (List.replicate (IntKind.i64.wrap (IntKind.u64.wrap c)).toNat (iv 0)))] (repSt c (.l0 (iN (min 1 (IntKind.i64.wrap (IntKind.u64.wrap c)).toNat)) (List.take (min 1 (IntKind.i64.wrap (IntKind.u64.wrap c)).toNat) [-1] ++ List.drop (0 + min 1 (IntKind.i64.wrap (IntKind.u64.wrap c)).toNat) (List.replicate (IntKind.i64.wrap (IntKind.u64.wrap c)).toNat 0))))) (aj (aj a2 (aj (u2 (u2 (aj (k2 (aj a3 (aj (show IntKind.i64.wrap (IntKind.u64.wrap c) ≤ IntKind.i64.wrap (IntKind.u64.wrap c) by omega) (aj a4 a5)))) s2))) (al (u2 (u2 (aj (k2 (aj (show 0 + (IntKind.i64.wrap (IntKind.u64.wrap c)).toNat ≤ (List.replicate (IntKind.i64.wrap (IntKind.u64.wrap c)).toNat (iv 0)).length by simp) (show ∀ (e : AV), e ∈ [iv (-1 : Int)] → e.cells.length = nat_lit 1 from (by first | decide | exact Int.NonNeg.mk _)))) s2)))))) t4) (by simp [up, upF, upV, upH, upB, repSt, gL, boL, lI])))) (by kernel_rfl)
theorem repS0_ok (c : Int) (v0 : Int) (v1 : List Int) (o : repPc ⊕ Ret) (h : repS0 c v0 v1 = some o) : Arr Try.prog Try.f18 0 (repSt c) repHd (headC Try.f18 0) (headK Try.f18 0) (repSt c (.l0 v0 v1)) o :=
 Scr.ok h mix (
 .rn 0 [] [] [] [] (al (u2 (u2 (u2 (al t3))))) <|
 .br (fun a0 =>
 .gu fun a1 =>
 .gu fun a2 =>
 .gu fun a3 =>
 .gu fun a4 =>
 .lq [75] [] [] [] [] [0] [7, 8] (up [] [(0, List.take (0 + v0.toNat) (List.map (iv) v1) ++ List.take (min (List.take (v0.toNat - Int.toNat 0) (List.drop 0 (List.map (iv) v1))).length ((IntKind.i64.wrap (IntKind.u64.wrap c)).toNat - v0.toNat)) (List.take (v0.toNat - Int.toNat 0) (List.drop 0 (List.map (iv) v1))) ++ List.drop (0 + v0.toNat + min (List.take (v0.toNat - Int.toNat 0) (List.drop 0 (List.map (iv) v1))).length ((IntKind.i64.wrap (IntKind.u64.wrap c)).toNat - v0.toNat)) (List.map (iv) v1))] (repSt c (.l0 (IntKind.i64.wrap (v0 + iN (min (List.take (v0.toNat - Int.toNat 0) (List.drop 0 (List.map (iv) v1))).length ((IntKind.i64.wrap (IntKind.u64.wrap c)).toNat - v0.toNat)))) (List.take (0 + v0.toNat) v1 ++ List.take (min (List.take (v0.toNat - Int.toNat 0) (List.drop 0 (List.map (iv) v1))).length ((IntKind.i64.wrap (IntKind.u64.wrap c)).toNat - v0.toNat)) (List.take (v0.toNat - Int.toNat 0) (List.drop 0 v1)) ++ List.drop (0 + v0.toNat + min (List.take (v0.toNat - Int.toNat 0) (List.drop 0 (List.map (iv) v1))).length ((IntKind.i64.wrap (IntKind.u64.wrap c)).toNat - v0.toNat)) v1)))) (aj (aj a0 (al (u2 (u2 (u2 (aj (k2 (aj a1 (aj a2 (aj (show iN (IntKind.i64.wrap (IntKind.u64.wrap c)).toNat ≤ iN (IntKind.i64.wrap (IntKind.u64.wrap c)).toNat by omega) (show iN (IntKind.i64.wrap (IntKind.u64.wrap c)).toNat ≤ iN (IntKind.i64.wrap (IntKind.u64.wrap c)).toNat by omega))))) (u2 (u2 (aj (k2 (aj (show (0 : Int) ≤ (0 : Int) from (by first | exact Nat.le_of_ble_eq_true rfl | decide)) (aj a1 (aj a2 (show iN (IntKind.i64.wrap (IntKind.u64.wrap c)).toNat ≤ iN (IntKind.i64.wrap (IntKind.u64.wrap c)).toNat by omega))))) (aj (k2 (aj a3 (aj (show nat_lit 1 = nat_lit 1 from rfl) a4))) (aj t3 s2))))))))))) t4) (by simp [up, upF, upV, upH, upB, repSt, gL, boL, lI]))
 (fun a0 =>
 .rt [74] [] [] [] [0] [] (aj (aj a0 (al (u2 s2))) t3))) (by kernel_rfl)
theorem rep_ct (c : Int) (r : Ret) (h : MReach (repStep c) (repEn c) r) : CT Try.prog 18 ([]) ([lI [-1], .int .i64 c]) r.1 r.2 :=
  CT.mach (fn := Try.f18) (c := bodyOf Try.f18) (S := repSt c) (hd := repHd) Try.func18 (by kernel_rfl) (Nat.le_of_ble_eq_true rfl)
    (fun s o ho => match s, ho with
      | .l0 v0 v1, ho => repS0_ok c v0 v1 o ho
    )
    (fun o ho => repEn_ok c o ho) h
def rpV (c m : Nat) : List Int := List.replicate m (-1) ++ List.replicate (c - m) 0
theorem rpV_step {c m k : Nat} (hk : k ≤ m) (hc : m + k ≤ c) : List.take (0 + m) (rpV c m) ++ List.take k (List.take (m - 0) (List.drop 0 (rpV c m))) ++ List.drop (0 + m + k) (rpV c m) = rpV c (m + k) := by
  have e1 : List.take m (rpV c m) = List.replicate m (-1) := by unfold rpV; rw [List.take_append_of_le_length (by simp)]; simp
  have e2 : List.drop (m + k) (rpV c m) = List.replicate (c - (m + k)) 0 := by
    unfold rpV
    rw [List.drop_append, List.drop_of_length_le (by simp), List.length_replicate, List.nil_append, List.drop_replicate]; congr 1; omega
  rw [Nat.zero_add, Nat.sub_zero, List.drop_zero, e1, e2, List.take_replicate, Nat.min_eq_left hk, List.replicate_append_replicate]; rfl
theorem rpV_len {c m : Nat} (h : m ≤ c) : (rpV c m).length = c := by unfold rpV; simp; omega
theorem wrapU {x : Int} (h1 : 0 ≤ x) (h2 : x ≤ 9223372036854775807) : IntKind.u64.wrap x = x := by simp only [IntKind.wrap, IntKind.bits, IntKind.signed]; simp; omega
theorem wrapI {x : Int} (h1 : 0 ≤ x) (h2 : x ≤ 9223372036854775807) : IntKind.i64.wrap x = x := by simp only [IntKind.wrap, IntKind.bits, IntKind.signed]; simp; omega
theorem rep_c (x : Int) (h : 0 ≤ x ∧ x ≤ 48) : CT Try.prog 18 [] [lI [-1], .int .i64 x] [some (Blk.mk ((List.replicate x.toNat (-1)).map (AV.int .i64)) 1 true true none)] (.sl 0 0 x.toNat) := by
  obtain ⟨c, rfl⟩ : ∃ c : Nat, x = c := ⟨x.toNat, by omega⟩
  have h48 : c ≤ 48 := by omega
  refine rep_ct (c : Int) ([_], _) ?_
  have wu := wrapU (x := (c : Int)) (by omega) (by omega)
  have wi := wrapI (x := (c : Int)) (by omega) (by omega)
  have hS : ∀ a b, repStep (c : Int) (.l0 a b) = repS0 c a b := fun _ _ => rfl
  unfold repS0 at hS
  unfold repEn
  simp only [wu, wi, Int.toNat_natCast] at hS ⊢
  rw [br_f (decide_eq_false (by omega)), gu_t (by omega), br_f (decide_eq_false (by omega)), gu_t (by omega), gu_t (by omega), gu_t (by omega)]
  have key : ∀ (d m : Nat), c - m ≤ d → m ≤ c → (1 ≤ m ∨ c = 0) → MReach (repStep (c : Int)) (some (.inl (.l0 (m : Int) (rpV c m)))) (([some (Blk.mk ((List.replicate c (-1)).map (AV.int .i64)) 1 true true none)], .sl 0 0 c) : Ret) := by
    intro d
    induction d with
    | zero =>
      intro m hd hm _
      obtain rfl : m = c := by omega
      refine .to (hS _ _) ?_
      rw [br_f (decide_eq_false (by simp only [iN]; omega))]
      have : rpV m m = List.replicate m (-1) := by unfold rpV; simp
      rw [this]; exact .ret _
    | succ d ih =>
      intro m hd hm h1
      by_cases he : m = c
      · exact ih m (by omega) hm h1
      have hl := rpV_len hm
      refine .to (hS _ _) ?_
      have hk : min (List.take (m - Int.toNat 0) (List.drop 0 (List.map (AV.int IntKind.i64) (rpV c m)))).length (c - m) = min m (c - m) := by
        rw [List.drop_zero, List.length_take, List.length_map, hl]; simp only [Int.toNat_zero]; omega
      rw [br_t (decide_eq_true (by simp only [iN]; omega)), gu_t (by omega), gu_t (by simp only [iN]; omega), Int.toNat_natCast, gu_t (by rw [List.length_map, hl]; omega), gu_t (by rw [List.length_map, hl]; simp only [Int.toNat_zero]; omega), hk, wrapI (by simp only [iN]; omega) (by simp only [iN]; omega)]
      have e := rpV_step (c := c) (m := m) (k := min m (c - m)) (by omega) (by omega)
      have e2 : (m : Int) + iN (min m (c - m)) = ((m + min m (c - m) : Nat) : Int) := by simp only [iN]; omega
      rw [e2]
      have := ih (m + min m (c - m)) (by omega) (by omega) (by omega)
      rw [← e] at this
      exact this
  have e0 : (some (.inl (.l0 (iN (min 1 c)) (List.take (min 1 c) [-1] ++ List.drop (0 + min 1 c) (List.replicate c 0)))) : Option (repPc ⊕ Ret)) = some (.inl (.l0 ((min 1 c : Nat) : Int) (rpV c (min 1 c)))) := by
    have : List.take (min 1 c) [-1] ++ List.drop (0 + min 1 c) (List.replicate c (0 : Int)) = rpV c (min 1 c) := by
      unfold rpV
      cases c with
      | zero => rfl
      | succ c => rw [show min 1 (c + 1) = 1 by omega, Nat.zero_add, List.drop_replicate]; rfl
    rw [this]
  rw [e0]
  exact key c (min 1 c) (by omega) (by omega) (by omega)
inductive nmsPc where
  | l0 (v0 : Int) (v1 : List Int) (v2 : List Int) (v3 : List Int) (v4 : List Int) (v5 : List Int) (v6 : Int) (v7 : List Int)
noncomputable def nmsSt (g : List (List Int)) (sh : List Bool) : nmsPc → St
  | .l0 v0 v1 v2 v3 v4 v5 v6 v7 => St.mk 58 [(1, AV.lst (boL sh)), (8, AV.ptr 0 0 0), (31, iv (iN (gL g).length)), (32, iv v0)] [some (Blk.mk [AV.agg [AV.lst (gL g), AV.lst (boL sh), AV.sl 1 0 v1.length, AV.sl 2 0 v2.length, AV.sl 3 0 v3.length, AV.sl 4 0 v4.length, AV.sl 5 0 v5.length, iv v6, AV.sl 6 0 v7.length]] 9 false true none), some (Blk.mk (List.map (iv) v1) 1 true true none), some (Blk.mk (List.map (iv) v2) 1 true true none), some (Blk.mk (List.map (iv) v3) 1 true true none), some (Blk.mk (List.map (iv) v4) 1 true true none), some (Blk.mk (List.map (iv) v5) 1 true true none), some (Blk.mk (List.map (iv) v7) 1 true true none)]
def nmsHd : nmsPc → Nat
  | .l0 _ _ _ _ _ _ _ _ => 0
noncomputable def nmsEn (g : List (List Int)) (sh : List Bool) : Option (nmsPc ⊕ Ret) :=
  gu (OkG g sh ∧ Asc g) <|
  gu (8 * iN (gL g).length ≤ 281474976710656) <|
  gu (iN (gL g).length ≤ 9223372036854775807) <|
  gu (0 ≤ iN (gL g).length ∧ iN (gL g).length ≤ 48) <|
  gu (∀ (blk : Blk), blk ∈ [Blk.mk (List.map (AV.int IntKind.i64) (List.replicate (iN (gL g).length).toNat (-1))) 1 true true none] → ImmB blk) <|
  some (.inl (.l0 ((0 : Int)) (List.replicate (gL g).length 0) (List.replicate (gL g).length 0) (List.replicate (gL g).length 0) ([]) ([]) ((0 : Int)) (List.replicate (gL g).length (-1))))
noncomputable def nmsS0 (g : List (List Int)) (sh : List Bool) (v0 : Int) (v1 : List Int) (v2 : List Int) (v3 : List Int) (v4 : List Int) (v5 : List Int) (v6 : Int) (v7 : List Int) : Option (nmsPc ⊕ Ret) :=
  br (decide (v0 < iN (gL g).length))
  (gu (0 ≤ v0) <|
   el (sh) (v0.toNat) fun (x37 : Bool) =>
   br (!x37)
   (gu (v0 < iN v1.length) <|
    el (v1) (0 + v0.toNat) fun (x47 : Int) =>
    br (x47 == 0)
    (gu (FrI g sh (TaS.mk v1 v2 v3 v5 v6 v7 v4) v0 ∧ v1.length = v1.length ∧ v2.length = v2.length ∧ v3.length = v3.length ∧ v4.length = v4.length ∧ v5.length = v5.length ∧ v7.length = v7.length) <|
     some (.inl (.l0 (IntKind.i64.wrap (v0 + 1)) ((frY g sh v1 v2 v3 v4 v5 v7 v6 v0).se) ((frY g sh v1 v2 v3 v4 v5 v7 v6 v0).lo) ((frY g sh v1 v2 v3 v4 v5 v7 v6 v0).ati) ((frY g sh v1 v2 v3 v4 v5 v7 v6 v0).pa) ((frY g sh v1 v2 v3 v4 v5 v7 v6 v0).hd) ((frY g sh v1 v2 v3 v4 v5 v7 v6 v0).c) ((frY g sh v1 v2 v3 v4 v5 v7 v6 v0).nm))))
    (some (.inl (.l0 (IntKind.i64.wrap (v0 + 1)) (v1) (v2) (v3) (v4) (v5) (v6) (v7)))))
   (some (.inl (.l0 (IntKind.i64.wrap (v0 + 1)) (v1) (v2) (v3) (v4) (v5) (v6) (v7)))))
  (some (.inr ([], AV.tup [AV.lst (List.map (AV.int IntKind.i64) v7), AV.int IntKind.i64 0])))
noncomputable def nmsStep (g : List (List Int)) (sh : List Bool) : nmsPc → Option (nmsPc ⊕ Ret)
  | .l0 v0 v1 v2 v3 v4 v5 v6 v7 => nmsS0 g sh v0 v1 v2 v3 v4 v5 v6 v7
theorem nmsEn_ok (g : List (List Int)) (sh : List Bool) (o : nmsPc ⊕ Ret) (h : nmsEn g sh = some o) : Arr Try.prog Try.f8 0 (nmsSt g sh) nmsHd (bodyOf Try.f8) [] { n := Try.f8.ntmps, fr := enumF 0 ([.lst (gL g), .lst (boL sh)]), hp := ([]) } o :=
 Scr.ok h mix (
 .rn 0 [] [] [] [] (al t3) <|
 .gu fun a0 =>
 have c0 := cck_c (g) (sh) a0;
 .rn 2 [] [] [(12, hK c0 [] [])] [] (aj (u2 (u2 (aj (ak (k3 (al (c0)))) s2))) (aj (u2 s2) (ak (al (u2 (u2 s2)))))) <|
 .gu fun a1 =>
 .gu fun a2 =>
 .gu fun a3 =>
 .gu fun a4 =>
 have c1 := rep_c (iN (gL g).length) a3;
 .lq [] [] [(28, hK c1 [] [3])] [] [(7008, 1), (6008, 1)] [5, 0, 1, 2, 7, 6, 4] [1, 8, 31, 32] (up [] [(0, [AV.agg [AV.lst (gL g), AV.lst (boL sh), AV.sl 1 0 (gL g).length, AV.sl 2 0 (gL g).length, AV.sl 3 0 (gL g).length, AV.sl 4 0 0, AV.sl 5 0 0, iv 0, AV.sl 6 0 (gL g).length]]), (1, List.replicate (gL g).length (iv 0)), (2, List.replicate (gL g).length (iv 0)), (3, List.replicate (gL g).length (iv 0))] (nmsSt g sh (.l0 ((0 : Int)) (List.replicate (gL g).length 0) (List.replicate (gL g).length 0) (List.replicate (gL g).length 0) ([]) ([]) ((0 : Int)) (List.replicate (gL g).length (-1))))) (aj (aj (u2 (u2 (u2 (aj (k2 (aj (show 0 ≤ iN (gL g).length from (Int.natCast_nonneg _)) (aj (show iN (gL g).length ≤ iN (gL g).length by omega) (aj a1 a2)))) (u2 (aj (k2 (aj (show 0 ≤ iN (gL g).length from (Int.natCast_nonneg _)) (aj (show iN (gL g).length ≤ iN (gL g).length by omega) (aj a1 a2)))) (u2 (aj (k2 (aj (show 0 ≤ iN (gL g).length from (Int.natCast_nonneg _)) (aj (show iN (gL g).length ≤ iN (gL g).length by omega) (aj a1 a2)))) (ak (u2 (aj (k2 (aj (show nat_lit 1 = nat_lit 1 from rfl) (ak (aj (c1) a4)))) (aj t7 (u2 s2))))))))))))) (al (u2 t2))) (ak (k3 (aj (al (ak t9)) t7)))) (by simp [up, upF, upV, upH, upB, nmsSt, gL, boL, lI])) (by kernel_rfl)
theorem nmsS0_ok (g : List (List Int)) (sh : List Bool) (v0 : Int) (v1 : List Int) (v2 : List Int) (v3 : List Int) (v4 : List Int) (v5 : List Int) (v6 : Int) (v7 : List Int) (o : nmsPc ⊕ Ret) (h : nmsS0 g sh v0 v1 v2 v3 v4 v5 v6 v7 = some o) : Arr Try.prog Try.f8 0 (nmsSt g sh) nmsHd (headC Try.f8 0) (headK Try.f8 0) (nmsSt g sh (.l0 v0 v1 v2 v3 v4 v5 v6 v7)) o :=
 Scr.ok h mix (
 .rn 0 [] [] [] [] (al (al t3)) <|
 .br (fun a0 =>
 .rn 0 [67] [] [] [] (aj a0 (al (u2 s2))) <|
 .gu fun a1 =>
 .el fun x37 a2 =>
 .br (fun a3 =>
  .gu fun a4 =>
  .el fun x47 a5 =>
  .rn 0 [81] [(37, AV.bool x37), (47, iv x47)] [] [] (al (u2 (u2 (aj (k2 (aj a1 (getMap (f := AV.bool) a2))) (u2 (u2 (u2 (ag a3 (ag a3 (ag a3 (ag a3 (ag a3 (aj (aj a3 (k2 (aj a1 a4))) (aj (aj a3 (ak (getMap (f := iv) a5))) (ag a3 (al (aj a3 t2))))))))))))))))) <|
  .br (fun a6 =>
  .gu fun a7 =>
  have c0 := frm_c (g) (sh) (v1) (v2) (v3) (v4) (v5) (v7) (v6) (v0) (v1.length) (v2.length) (v3.length) (v4.length) (v5.length) (v7.length) a7;
  .lp [81, 99] [] [(52, hKO c0 [0, 1, 2, 3, 6, 4, 5] [])] [] [] [0, 7, 8, 9, 10, 11, 12] [1, 8, 31, 32] (aj (aj a6 (aj (u2 (u2 (al (ak (k3 (aj (al (ak t9)) (ak (k5 (c0))))))))) (al (u2 s2)))) (ak (k3 (aj (al (ak t9)) t7)))))
  (fun a6 =>
  .lp [81, 98] [] [] [] [] [0, 1, 2, 3, 4, 5, 6] [1, 8, 31, 32] (aj (aj a6 (al (u2 s2))) (ak (k3 (aj (al (ak t9)) t7))))))
 (fun a3 =>
  .lp [80] [(37, AV.bool x37)] [] [] [] [0, 1, 2, 3, 4, 5, 6] [1, 8, 31, 32] (aj (aj (u2 (u2 (aj (k2 (aj a1 (getMap (f := AV.bool) a2))) (u2 (u2 (u2 (aj a3 (aj a3 (aj a3 (aj a3 (aj a3 (aj a3 (aj a3 (aj a3 (al (aj a3 t2)))))))))))))))) (ak (al (u2 s2)))) (ak (k3 (aj (al (ak t9)) t7))))))
 (fun a0 =>
 .rt [66] [] [] [] [] [6] (aj (aj a0 (al (u2 (u2 (u2 (u2 (u2 t2))))))) (al (aj (show v7.length = (List.map (iv) v7).length by simp) t2))))) (by kernel_rfl)
theorem nms_ct (g : List (List Int)) (sh : List Bool) (r : Ret) (h : MReach (nmsStep g sh) (nmsEn g sh) r) : CT Try.prog 8 ([]) ([.lst (gL g), .lst (boL sh)]) r.1 r.2 :=
  CT.mach (fn := Try.f8) (c := bodyOf Try.f8) (S := nmsSt g sh) (hd := nmsHd) Try.func8 (by kernel_rfl) (Nat.le_of_ble_eq_true rfl)
    (fun s o ho => match s, ho with
      | .l0 v0 v1 v2 v3 v4 v5 v6 v7, ho => nmsS0_ok g sh v0 v1 v2 v3 v4 v5 v6 v7 o ho
    )
    (fun o ho => nmsEn_ok g sh o ho) h
theorem Topo.clo : ∀ {l : List Int} {y w : Int}, Topo g sh l → y ∈ l → w ∈ rowI g y → shB sh w = false → w ∈ l
  | [], _, _, _, h, _, _ => by simp at h
  | a :: r, y, w, ht, hy, hw, ho => by
    obtain ⟨_, t2, t3⟩ := ht
    rcases List.mem_cons.1 hy with rfl | hy
    · exact List.mem_cons_of_mem _ (t2 w hw ho)
    · exact List.mem_cons_of_mem _ (Topo.clo t3 hy hw ho)
theorem Topo.acyc : ∀ {l : List Int} {o : List Int}, Topo g sh l → ClsP g sh o → (∀ y ∈ o, y ∈ l) → False
  | [], o, _, hc, hs => by
    obtain ⟨y, hy⟩ := List.exists_mem_of_ne_nil o hc.1
    exact absurd (hs y hy) (by simp)
  | a :: r, o, ht, hc, hs => by
    have ht' := ht
    obtain ⟨t1, t2, t3⟩ := ht'
    by_cases ha : a ∈ o
    · obtain ⟨i, hi⟩ := List.getElem?_of_mem ha
      have hil := (List.getElem?_eq_some_iff.1 hi).1
      have hia : o.getD i 0 = a := by rw [List.getD_eq_getElem?_getD, hi]; rfl
      have hpos : 0 < o.length := by omega
      have key : ∀ k, o.getD ((i + 1 + k) % o.length) 0 ∈ r := by
        intro k
        induction k with
        | zero =>
          have := hc.2.2 i hil
          rw [hia] at this
          have hm : o.getD ((i + 1) % o.length) 0 ∈ o := List.mem_of_getElem? (getE 0 (Nat.mod_lt _ hpos))
          exact t2 _ this (hc.2.1 _ hm).2.2
        | succ k ih =>
          have hlt := Nat.mod_lt (i + 1 + k) hpos
          have := hc.2.2 _ hlt
          have e : ((i + 1 + k) % o.length + 1) % o.length = (i + 1 + (k + 1)) % o.length := by rw [Nat.mod_add_mod]; rfl
          rw [e] at this
          have hm : o.getD ((i + 1 + (k + 1)) % o.length) 0 ∈ o := List.mem_of_getElem? (getE 0 (Nat.mod_lt _ hpos))
          exact Topo.clo t3 ih this (hc.2.1 _ hm).2.2
      have := key (o.length - 1)
      rw [show i + 1 + (o.length - 1) = i + o.length by omega, Nat.add_mod_right, Nat.mod_eq_of_lt hil, hia] at this
      exact t1 this
    · exact Topo.acyc t3 hc fun y hy => (List.mem_cons.1 (hs y hy)).resolve_left fun e => ha (e ▸ hy)
theorem gI_rep {n : Nat} {t : Int} {y : Int} (h0 : 0 ≤ y) (h1 : y < (n : Int)) : gI (List.replicate n t) y = t := by
  unfold gI
  rw [List.getD_eq_getElem?_getD, List.getElem?_replicate, if_pos (by omega)]; rfl
theorem sum_rep : ∀ n : Nat, (List.replicate n (0 : Int)).sum = 0
  | 0 => rfl
  | n + 1 => by rw [List.replicate_succ, List.sum_cons, sum_rep n]; rfl
def ta0 (n : Nat) : TaS := ⟨List.replicate n 0, List.replicate n 0, List.replicate n 0, [], 0, List.replicate n (-1), []⟩
theorem idle0 (g : List (List Int)) (sh : List Bool) : Idle g sh (ta0 g.length) := by
  refine ⟨⟨by simp [ta0], by simp [ta0], by simp [ta0], by simp [ta0], fun y hy => by simp [ta0] at hy, List.Sublist.refl _, rfl, List.Pairwise.nil, fun y y0 y1 => ?_, ⟨Int.le_refl _, fun y y0 y1 => ?_⟩, fun y hy => by simp [ta0] at hy, fun y y0 y1 => ?_, fun y y0 y1 _ => ⟨gI_rep y0 y1, ?_⟩, Int.le_refl _, fun i hi => by simp [ta0] at hi, .inl ⟨rfl, fun y hy => by simp [ta0] at hy, [], trivial, fun y y0 y1 => ?_, fun y hy => by simp at hy, fun y hy => by simp [ta0] at hy⟩⟩, rfl, rfl⟩
  · have : gI (ta0 g.length).se y = 0 := gI_rep y0 y1
    rw [this]; simp [ta0]
  · have : gI (ta0 g.length).se y = 0 := gI_rep y0 y1
    rw [this]; exact ⟨Int.le_refl _, Int.le_refl _⟩
  · have : gI (ta0 g.length).ati y = 0 := gI_rep y0 y1
    rw [this]; omega
  · have : gI (ta0 g.length).nm y = -1 := gI_rep y0 y1
    rw [this]; omega
  · have : gI (ta0 g.length).nm y = -1 := gI_rep y0 y1
    rw [this]; simp
def NmO (g : List (List Int)) (sh : List Bool) (nm : List Int) : Prop := nm.length = g.length ∧ ((∀ y, 0 ≤ y → y < (g.length : Int) → gI nm y < 0 ∨ gI nm y = y) ↔ ¬ Cyc g sh)
theorem Idle.fin (h : Idle g sh x) (ha : ∀ y, 0 ≤ y → y < (g.length : Int) → shB sh y = false → gI x.se y ≠ 0) : NmO g sh x.nm := by
  refine ⟨h.inv.l4, ?_⟩
  rcases h.inv.gb with ⟨_, _, fin, k3, k4, k5, _⟩ | ⟨k1, ⟨y, hy, _⟩ | ⟨y, y0, y1, q1, q2⟩⟩
  · refine ⟨fun _ ⟨o, ho⟩ => k3.acyc ho fun y hy => ?_, fun _ y y0 y1 => ?_⟩
    · obtain ⟨y0, y1, y2⟩ := ho.2.1 y hy
      refine (k4 y y0 y1).2 ?_
      have hm := (h.inv.mem y y0 y1)
      rw [h.hd] at hm
      by_cases hn : 0 ≤ gI x.nm y
      · exact hn
      · exact absurd (hm.2 ⟨ha y y0 y1 y2, by omega⟩) (by simp)
    · by_cases hn : gI x.nm y < 0
      · exact .inl hn
      · exact .inr (k5 y ((k4 y y0 y1).2 (by omega))).2
  · rw [h.hd] at hy; simp at hy
  · refine ⟨fun hs => ?_, fun hn => absurd k1 hn⟩
    rcases hs y y0 y1 with q | q
    · omega
    · exact absurd q q2
theorem nms_ex (g : List (List Int)) (sh : List Bool) (hg : OkG g sh) (ha : Asc g) (hD : dgS g ≤ 100000) : ∃ nm, NmO g sh nm ∧ CT Try.prog 8 [] [.lst (gL g), .lst (boL sh)] [] (.tup [lI nm, .int .i64 0]) := by
  have hlen := hg.len
  have hgl := gL_len g
  have h0 : ∀ a b c d e f i j, nmsStep g sh (.l0 a b c d e f i j) = nmsS0 g sh a b c d e f i j := fun _ _ _ _ _ _ _ _ => rfl
  have hD0 : 0 ≤ dgS g := by
    have := (idle0 g sh).inv.sum
    simp only [ta0, sum_rep] at this; exact this
  have key : ∀ (d i : Nat) (x : TaS), i + d = g.length → Idle g sh x → (∀ y, 0 ≤ y → y < (i : Int) → shB sh y = false → gI x.se y ≠ 0) → x.c + 2 * (dgS g - x.ati.sum) ≤ 2 * dgS g + 2 * i →
      ∃ nm, NmO g sh nm ∧ MReach (nmsStep g sh) (some (.inl (.l0 (i : Int) x.se x.lo x.ati x.pa x.hd x.c x.nm))) (([], .tup [lI nm, .int .i64 0]) : Ret) := by
    intro d
    induction d with
    | zero =>
      intro i x hi hI hs hb
      refine ⟨x.nm, hI.fin fun y y0 y1 => hs y y0 (by omega), .to (h0 _ _ _ _ _ _ _ _) ?_⟩
      unfold nmsS0
      rw [br_f (decide_eq_false (by simp only [iN, hgl]; omega))]
      exact .val rfl
    | succ d ih =>
      intro i x hi hI hs hb
      have l1 := hI.inv.l1
      have hr : nmsStep g sh (.l0 (i : Int) x.se x.lo x.ati x.pa x.hd x.c x.nm) = nmsS0 g sh (i : Int) x.se x.lo x.ati x.pa x.hd x.c x.nm := rfl
      unfold nmsS0 at hr
      rw [br_t (decide_eq_true (by simp only [iN, hgl]; omega)), gu_t (by omega), el_t (shB_el (v := (i : Int)) (by omega) (by rw [hg.sh]; omega)), Nat.zero_add, wrap_in (x := (i : Int) + 1) (by omega) (by omega)] at hr
      have ext : ∀ x' : TaS, (∀ z, 0 ≤ z → z < (g.length : Int) → gI x.se z ≠ 0 → gI x'.se z ≠ 0) → (shB sh i = false → gI x'.se i ≠ 0) → ∀ y, 0 ≤ y → y < ((i + 1 : Nat) : Int) → shB sh y = false → gI x'.se y ≠ 0 := by
        intro x' h1 h2 y y0 y1 yo
        by_cases e : y = (i : Int)
        · rw [e] at yo ⊢; exact h2 yo
        · exact h1 y y0 (by omega) (hs y y0 (by omega) yo)
      cases ho : shB sh i with
      | true =>
        rw [ho, show (!true) = false from rfl, br_f rfl] at hr
        obtain ⟨nm, hn, hm⟩ := ih (i + 1) x (by omega) hI (ext x (fun _ _ _ h => h) (fun h => by rw [ho] at h; cases h)) (by omega)
        exact ⟨nm, hn, .to hr hm⟩
      | false =>
        rw [ho, show (!false) = true from rfl, br_t rfl, gu_t (by simp only [iN]; omega), el_t (gI_el (by omega) (by omega))] at hr
        by_cases hz : gI x.se i = 0
        · have hF : FrI g sh ⟨x.se, x.lo, x.ati, x.hd, x.c, x.nm, x.pa⟩ (i : Int) := ⟨hg, hI, by omega, by omega, ho, hz, by show x.c + 2 * (dgS g - x.ati.sum) ≤ _; omega⟩
          rw [br_t (by simp [hz]), gu_t ⟨hF, rfl, rfl, rfl, rfl, rfl, rfl⟩] at hr
          obtain ⟨hO, _⟩ := frY_spec hF
          have hbd := hO.bd
          obtain ⟨nm, hn, hm⟩ := ih (i + 1) _ (by omega) hO.idle (ext _ hO.old fun _ => hO.new) (by
            have e1 : (TaS.mk x.se x.lo x.ati x.hd x.c x.nm x.pa).c = x.c := rfl
            have e2 : (TaS.mk x.se x.lo x.ati x.hd x.c x.nm x.pa).ati = x.ati := rfl
            rw [e1, e2] at hbd; omega)
          exact ⟨nm, hn, .to hr hm⟩
        · rw [br_f (by simp [hz])] at hr
          obtain ⟨nm, hn, hm⟩ := ih (i + 1) x (by omega) hI (ext x (fun _ _ _ h => h) (fun _ => hz)) (by omega)
          exact ⟨nm, hn, .to hr hm⟩
  obtain ⟨nm, hn, hm⟩ := key g.length 0 (ta0 g.length) (by omega) (idle0 g sh) (fun y y0 y1 => by omega) (by show (0 : Int) + 2 * (dgS g - (List.replicate g.length (0 : Int)).sum) ≤ _; rw [sum_rep]; omega)
  refine ⟨nm, hn, nms_ct g sh ([], _) ?_⟩
  unfold nmsEn
  rw [gu_t ⟨hg, ha⟩, gu_t (by simp only [iN, hgl]; omega), gu_t (by simp only [iN, hgl]; omega), gu_t (by simp only [iN, hgl]; omega), gu_t, hgl]
  · exact hm
  · intro blk hb e he c hc
    rw [List.mem_singleton.1 hb] at he
    obtain ⟨y, _, rfl⟩ := List.mem_map.1 he
    rw [List.mem_singleton.1 (show c ∈ [AV.int .i64 y] from hc)]; rfl
structure QL where
  L : List Int
  g : List (List Int)
  s : List Bool
  v : Nat
  goal : Nat
  p : List Int
  d : List Int
  h : List Int
  rl : List Bool
  k : Nat
  w : Nat
  x : Int
  y : Int
  z : Int
  b : Bool
  sb : Bool
  r : List Int
  m1 : Nat
  m2 : Nat
def e6 (q : QL) : List (Nat × AV) := [(106, .bool q.b), (116, .bool q.b), (120, .int .i64 q.x), (129, .int .i64 q.y), (138, .int .i64 q.z), (149, .int .i64 q.x), (161, .int .i64 (iN q.w)), (167, .int .i64 (iN q.w)), (177, .int .i64 (iN q.w)), (179, .bool q.sb), (192, .int .i64 (iN q.w)), (194, .int .i64 q.y), (199, .int .i64 q.y), (206, .int .i64 (iN q.w)), (208, lI q.r), (213, .int .i64 q.y)]
theorem hop_mem {g : List (List Int)} {s : List Bool} (hg : OkG g s) {goal : Nat} {d : List Int} (hD : Dst g s goal d) {u : Nat} (hu : u < g.length) (h0 : 0 < d.getD u 0) (hgd : s.getD goal false = false) : hopZ g d u ∈ g.getD u [] := by
  have h := (hop_ok hg hD hu h0 hgd).1
  unfold hopZ at h ⊢
  cases hf : fnd (hopP g d u) 0 (g.getD u []).length with
  | none => rw [hf] at h; exact absurd h (show ¬ (0 : Int) ≤ -1 by decide)
  | some i =>
    obtain ⟨_, _, b⟩ := fnd_some hf
    show (g.getD u []).getD i 0 ∈ g.getD u []
    rw [List.getD_eq_getElem?_getD (l := g.getD u []), List.getElem?_eq_getElem (by omega)]
    exact List.getElem_mem (by omega)
theorem chk4_of {g : List (List Int)} {s : List Bool} (hg : OkG g s) (ha : Asc g) : chk4 g s = 0 := by
  unfold chk4
  rw [if_neg (by have := hg.len; omega)]
  have hb : badG g = false := by
    unfold badG
    have : fnd (badR g) 0 g.length = none := fnd_false fun v _ hv => by
      unfold badR
      have hv : v < g.length := by omega
      have hget := fun i => row_get hg hv (i := i)
      have hs := ha v hv
      have : fnd (badE (g.getD v []) g.length v) 0 (g.getD v []).length = none := fnd_false fun i _ hi => by
        obtain ⟨w, hw, hw1, hw2⟩ := hget i (by omega)
        unfold badE
        rw [decide_eq_false (by omega), decide_eq_false (by omega), Bool.false_or, Bool.false_or, beq_eq_false_iff_ne.2 (by omega), Bool.false_or]
        by_cases h0 : 0 < i
        · have := hs i h0 (by omega)
          rw [decide_eq_false (p := (g.getD v []).getD i 0 ≤ (g.getD v []).getD (i - 1) 0) (by omega), Bool.and_false]
        · rw [decide_eq_false h0, Bool.false_and]
      rw [this]; rfl
    rw [this]; rfl
  rw [if_neg (by simp [hb]), if_neg (by simp [hg.sh])]
theorem thZ_spec {g : List (List Int)} {s : List Bool} (hg : OkG g s) {v : Nat} (hv : v < g.length) (hne : thZ g s v ≠ []) :
    ∃ b m : Nat, s.getD v false = false ∧ b < g.length ∧ (b : Int) ∈ g.getD v [] ∧ (distL g s v g.length).getD b 0 = (m : Int) ∧ 1 ≤ m ∧ thZ g s v = (v : Int) :: (List.range m).map (wkZ g (distL g s v g.length) b) ∧
      ∀ w ∈ g.getD v [], 0 ≤ (distL g s v g.length).getD w.toNat 0 → (m : Int) ≤ (distL g s v g.length).getD w.toNat 0 := by
  unfold thZ at hne ⊢
  by_cases hso : s.getD v false = true
  · rw [if_pos hso] at hne; exact absurd rfl hne
  · rw [if_neg hso] at hne ⊢
    have hso := Bool.eq_false_iff.2 hso
    have hD := dst_ok hg hv
    generalize distL g s v g.length = d at hne hD ⊢
    have hbo := best_ok (d := d) (row_nn hg hv) _ (Nat.le_refl _)
    generalize hbb : bestN d (g.getD v []) (g.getD v []).length = b at hbo hne ⊢
    unfold thD at hne ⊢
    rcases hbo with ⟨rfl, _⟩ | ⟨k, hk, hbk, hk0, hmin, _⟩
    · rw [if_pos (by decide)] at hne; exact absurd rfl hne
    · obtain ⟨w, hw, hw1, hw2⟩ := row_get hg hv hk
      rw [hw] at hbk
      subst hbk
      rw [hw, Int.toNat_natCast] at hk0 hmin
      rw [if_neg (by omega)]
      refine ⟨w, (d.getD w 0).toNat, hso, hw1, by rw [← hw]; exact row_mem hk, by omega, ?_, by rw [Int.toNat_natCast], fun x hx h0 => ?_⟩
      · by_cases e : d.getD w 0 = 0
        · exact absurd (zero_goal hD hw1 e) hw2
        · omega
      · obtain ⟨j, hj, rfl⟩ := mem_row hx
        have := hmin j hj h0
        omega
theorem th_get {g : List (List Int)} {d : List Int} {v b m : Nat} : ∀ i, i < m + 1 → ((v : Int) :: (List.range m).map (wkZ g d b)).getD i 0 = if i = 0 then (v : Int) else wkZ g d b (i - 1) := by
  intro i hi
  cases i with
  | zero => rfl
  | succ i => rw [if_neg (by omega), Nat.add_sub_cancel, List.getD_cons_succ, List.getD_eq_getElem?_getD, List.getElem?_map, List.getElem?_range (by omega)]; rfl
theorem th_cls {g : List (List Int)} {s : List Bool} (hg : OkG g s) {v : Nat} (hv : v < g.length) (hne : thZ g s v ≠ []) : ClsP g s (thZ g s v) ∧ (thZ g s v).getD 0 0 = (v : Int) ∧ ∀ i, i < (thZ g s v).length → (thZ g s v).getD i 0 ∉ (thZ g s v).take i := by
  obtain ⟨b, m, hso, hb, hbm, hm, h1, e, _⟩ := thZ_spec hg hv hne
  rw [e]
  have hD := dst_ok hg hv
  generalize distL g s v g.length = d at hD hm
  have hok := wk_ok hg hv hD hb hm hso
  have hz := hD.zero hso
  have hlen : ((v : Int) :: (List.range m).map (wkZ g d b)).length = m + 1 := by simp
  have hget := th_get (g := g) (d := d) (v := v) (b := b) (m := m)
  have hwm : wkZ g d b m = (v : Int) := by
    obtain ⟨a1, a2, a3⟩ := hok m (Nat.le_refl _)
    have := zero_goal hD (v := (wkZ g d b m).toNat) (by omega) (by rw [a3]; simp)
    omega
  generalize hl : (v : Int) :: (List.range m).map (wkZ g d b) = l at hlen hget
  refine ⟨⟨by rw [← hl]; simp, fun x hx => ?_, fun i hi => ?_⟩, by rw [← hl]; rfl, fun i hi hm' => ?_⟩
  · obtain ⟨i, hi, rfl⟩ := mem_get hx
    rw [hget i (by omega)]
    split
    · exact ⟨by omega, by omega, by rw [Int.toNat_natCast]; exact hso⟩
    · obtain ⟨a1, a2, a3⟩ := hok (i - 1) (by omega)
      exact ⟨a1, a2, by
        have hu : (wkZ g d b (i - 1)).toNat < g.length := by omega
        rcases hD.back _ hu (by rw [a3]; omega) with e | e
        · rw [e]; exact hso
        · exact e.1⟩
  · have hnx : l.getD ((i + 1) % l.length) 0 = wkZ g d b i := by
      by_cases e2 : i = m
      · rw [hlen, e2, Nat.mod_self, hget 0 (by omega), if_pos rfl, hwm]
      · rw [hlen, Nat.mod_eq_of_lt (by omega), hget (i + 1) (by omega), if_neg (by omega), Nat.add_sub_cancel]
    rw [hnx, hget i (by omega)]
    split
    · rename_i e0
      rw [e0, Int.toNat_natCast]
      exact hbm
    · rename_i e0
      obtain ⟨a1, a2, a3⟩ := hok (i - 1) (by omega)
      have := hop_mem hg hD (u := (wkZ g d b (i - 1)).toNat) (by omega) (by rw [a3]; omega) hso
      obtain ⟨i', rfl⟩ : ∃ i', i = i' + 1 := ⟨i - 1, by omega⟩
      exact this
  · have hm2 : ∃ j, j < i ∧ l.getD j 0 = l.getD i 0 := by
      obtain ⟨j, hj, e2⟩ := mem_get hm'
      have hj2 : j < i := by simp only [List.length_take] at hj; omega
      refine ⟨j, hj2, ?_⟩
      rw [← e2, List.getD_eq_getElem?_getD, List.getD_eq_getElem?_getD, List.getElem?_take, if_pos hj2]
    obtain ⟨j, hj, e2⟩ := hm2
    rw [hget i (by omega), hget j (by omega), if_neg (show ¬ i = 0 by omega)] at e2
    obtain ⟨a1, a2, a3⟩ := hok (i - 1) (by omega)
    by_cases ej : j = 0
    · rw [if_pos ej] at e2
      rw [← e2, Int.toNat_natCast, hz] at a3
      omega
    · rw [if_neg ej] at e2
      obtain ⟨b1, b2, b3⟩ := hok (j - 1) (by omega)
      rw [e2, a3] at b3
      omega
theorem girN_spec (g : List (List Int)) (s : List Bool) : ∀ k, (girN g s k = [] ∧ ∀ v, v < k → thZ g s v = []) ∨ ∃ v, v < k ∧ girN g s k = thZ g s v ∧ thZ g s v ≠ [] ∧ ∀ u, u < k → thZ g s u ≠ [] → (thZ g s v).length ≤ (thZ g s u).length := by
  intro k
  induction k with
  | zero => exact .inl ⟨rfl, fun v hv => by omega⟩
  | succ k ih =>
    have e : girN g s (k + 1) = girF (girN g s k) (thZ g s k) := rfl
    rw [e]
    unfold girF
    by_cases hp : thZ g s k = []
    · rw [if_neg (fun h => by rw [hp] at h; exact absurd h.1 (by simp))]
      rcases ih with ⟨h1, h2⟩ | ⟨v, hv, h1, h2, h3⟩
      · refine .inl ⟨h1, fun v hv => ?_⟩
        by_cases ev : v = k
        · rw [ev]; exact hp
        · exact h2 v (by omega)
      · refine .inr ⟨v, by omega, h1, h2, fun u hu hne => ?_⟩
        by_cases eu : u = k
        · rw [eu] at hne; exact absurd hp hne
        · exact h3 u (by omega) hne
    · have hpl : 0 < (thZ g s k).length := List.length_pos_iff.2 hp
      rcases ih with ⟨h1, h2⟩ | ⟨v, hv, h1, h2, h3⟩
      · rw [if_pos ⟨hpl, .inl h1⟩]
        refine .inr ⟨k, by omega, rfl, hp, fun u hu hne => ?_⟩
        by_cases eu : u = k
        · rw [eu]; exact Nat.le_refl _
        · exact absurd (h2 u (by omega)) hne
      · rw [h1]
        by_cases hlt : (thZ g s k).length < (thZ g s v).length
        · rw [if_pos ⟨hpl, .inr hlt⟩]
          refine .inr ⟨k, by omega, rfl, hp, fun u hu hne => ?_⟩
          by_cases eu : u = k
          · rw [eu]; exact Nat.le_refl _
          · have := h3 u (by omega) hne; omega
        · rw [if_neg (fun h => h.2.elim h2 hlt)]
          refine .inr ⟨v, by omega, rfl, h2, fun u hu hne => ?_⟩
          by_cases eu : u = k
          · rw [eu]; omega
          · exact h3 u (by omega) hne
theorem cls_dist {g : List (List Int)} {s : List Bool} {o : List Int} (hc : ClsP g s o) {d : List Int} (hD : Dst g s (o.getD 0 0).toNat d) : ∀ j, j ≤ o.length → 0 ≤ d.getD (o.getD ((o.length - j) % o.length) 0).toNat 0 ∧ d.getD (o.getD ((o.length - j) % o.length) 0).toNat 0 ≤ (j : Int) := by
  have hop : 0 < o.length := List.length_pos_iff.2 hc.1
  intro j
  induction j with
  | zero =>
    intro _
    rw [Nat.sub_zero, Nat.mod_self, hD.zero (hc.2.1 _ (get_mem hop)).2.2]
    exact ⟨Int.le_refl _, Int.le_refl _⟩
  | succ j ih =>
    intro hj
    obtain ⟨a, b⟩ := ih (by omega)
    have hi : o.length - (j + 1) < o.length := by omega
    rw [Nat.mod_eq_of_lt hi]
    have hed := hc.2.2 _ hi
    rw [show o.length - (j + 1) + 1 = o.length - j by omega] at hed
    obtain ⟨r0, r1, r2⟩ := hc.2.1 _ (get_mem hi)
    obtain ⟨a', b'⟩ := hD.fwd _ (by omega) r2 _ hed a
    exact ⟨a', by omega⟩
theorem girth_min {g : List (List Int)} {s : List Bool} (hg : OkG g s) {o : List Int} (hc : ClsP g s o) : girN g s g.length ≠ [] ∧ (girN g s g.length).length ≤ o.length := by
  have hop : 0 < o.length := List.length_pos_iff.2 hc.1
  obtain ⟨r0, r1, r2⟩ := hc.2.1 _ (get_mem hop)
  have hv : (o.getD 0 0).toNat < g.length := by omega
  have hD := dst_ok hg hv
  have hd := cls_dist hc hD (o.length - 1) (by omega)
  rw [show o.length - (o.length - 1) = 1 by omega] at hd
  have hed := hc.2.2 0 hop
  rw [Nat.zero_add] at hed
  have hth : thZ g s (o.getD 0 0).toNat ≠ [] ∧ (thZ g s (o.getD 0 0).toNat).length ≤ o.length := by
    unfold thZ
    rw [if_neg (by rw [r2]; simp)]
    generalize distL g s (o.getD 0 0).toNat g.length = d at hD hd
    have hbo := best_ok (d := d) (row_nn hg hv) _ (Nat.le_refl _)
    obtain ⟨j, hj, hje⟩ := mem_row hed
    rw [← hje] at hd
    have hnn := row_nn hg hv
    generalize bestN d (g.getD (o.getD 0 0).toNat []) (g.getD (o.getD 0 0).toNat []).length = b at hbo
    unfold thD
    rcases hbo with ⟨_, hn⟩ | ⟨k, hk, rfl, hk0, hmin, _⟩
    · have := hn j hj; omega
    · have h1 := hnn k hk
      have h2 := hmin j hj hd.1
      rw [if_neg (by omega)]
      refine ⟨by simp, ?_⟩
      simp only [List.length_cons, List.length_map, List.length_range]
      omega
  rcases girN_spec g s g.length with ⟨_, h⟩ | ⟨v, _, h1, h2, h3⟩
  · exact absurd (h _ hv) hth.1
  · rw [h1]
    exact ⟨h2, Nat.le_trans (h3 _ hv hth.1) hth.2⟩
theorem girth_cls {g : List (List Int)} {s : List Bool} (hg : OkG g s) (hne : girN g s g.length ≠ []) : ClsP g s (girN g s g.length) ∧ ∀ i, i < (girN g s g.length).length → (girN g s g.length).getD i 0 ∉ (girN g s g.length).take i := by
  rcases girN_spec g s g.length with ⟨h, _⟩ | ⟨v, hv, h1, h2, _⟩
  · exact absurd h hne
  · rw [h1]
    obtain ⟨a, _, c⟩ := th_cls hg hv h2
    exact ⟨a, c⟩
def kg6 : List (List Int) := [[1], [0, 2], [0]]
def ks6 : List Bool := [false, false, false]
noncomputable def sk8 (u : Unit) : St := { n := Try.f4.ntmps, fr := [], hp := [] }
noncomputable def sk8b (u : Unit) : St := { n := Try.f4.ntmps, fr := [(0, .bool false)], hp := [] }
noncomputable def sk8c (u : Unit) : St := { n := Try.f4.ntmps, fr := [(0, .bool false), (1, .lst (gL kg6)), (2, .lst (boL ks6))], hp := [] }
def ck8 (u : Unit) : Nat → FuncId → List AV → List (Option Blk) → Hint := fun dst f args _ => match f with
  | 7 => .call [] [] [] (.tup [.int .i64 2, lI [0, 1], .int .i64 0])
  | 9 => .call [] [] [] (.tup [.int .i64 3, lI [2, 0, 1], .int .i64 0])
  | 10 => match args with
    | [_, .sl b _ _] => .call [] [b] [] (.bool true)
    | _ => .call [] [] [] (.bool true)
  | 11 => match args with
    | [_, _, .sl b _ _] => .call [] [b] [] (.bool true)
    | _ => .call [] [] [] (.bool true)
  | _ => .no
def ek8 (u : Unit) : List (Nat × AV) := []
theorem hk0_0 (u : Unit) {post : Exit → St → Prop} {R : St → Prop} (hR : ∀ st, Ren 0 st (St.mk 58 [(0, AV.bool false)] []) → R st) : GoP Try.prog (hU [] (ek8 u) (ck8 u)) 0 (sL (sR 0 (bodyOf Try.f4))) (sk8 u) (andThen R post) :=
  endN_spec (σ := []) (fz := []) (vars := [0]) (by kernel_rfl) (aj s2 t2) hR
theorem hk1_0 (u : Unit) {post : Exit → St → Prop} {R : St → Prop} (hR : ∀ st, Ren 0 st (St.mk 58 [(0, AV.bool false), (1, AV.sl 0 0 3), (2, AV.lst [AV.bool false, AV.bool false, AV.bool false])] [some (Blk.mk [AV.lst [iv 1], AV.lst [iv 0, iv 2], AV.lst [iv 0]] 1 true true none)]) → R st) : GoP Try.prog (hU [] (ek8 u) (ck8 u)) 0 (sL (sR 1 (bodyOf Try.f4))) (sk8b u) (andThen R post) :=
  endN_spec (σ := [3]) (fz := [0,1,2,4]) (vars := [0,1,2]) (by kernel_rfl) (aj (al (k3 (aj t4 (ak (u2 s2))))) (k2 (aj (show (nat_lit 3 = nat_lit 3) by first | decide | exact Int.NonNeg.mk _) (al (aj (show (nat_lit 1 = nat_lit 1) by first | decide | exact Int.NonNeg.mk _) (aj (show (nat_lit 2 = nat_lit 2) by first | decide | exact Int.NonNeg.mk _) (al (show (nat_lit 1 = nat_lit 1) by first | decide | exact Int.NonNeg.mk _)))))))) hR
theorem hk2_0 (u : Unit) (h1 : (CT Try.prog (nat_lit 7) [] [AV.lst [AV.lst [iv (1 : Int)], AV.lst [iv (0 : Int), iv (2 : Int)], AV.lst [iv (0 : Int)]], AV.lst [AV.bool false, AV.bool false, AV.bool false]] [] (AV.tup [iv (2 : Int), AV.lst [iv (0 : Int), iv (1 : Int)], iv (0 : Int)]))) (h2 : (CT Try.prog (nat_lit 9) [] [AV.lst [AV.lst [iv (1 : Int)], AV.lst [iv (0 : Int), iv (2 : Int)], AV.lst [iv (0 : Int)]], AV.lst [AV.bool false, AV.bool false, AV.bool false], iv (2 : Int)] [] (AV.tup [iv (3 : Int), AV.lst [iv (2 : Int), iv (0 : Int), iv (1 : Int)], iv (0 : Int)]))) (h3 : (CT Try.prog (nat_lit 10) [] [AV.lst [iv (0 : Int), iv (1 : Int)], AV.lst [iv (0 : Int), iv (1 : Int)]] [] (AV.bool true))) (h4 : (CT Try.prog (nat_lit 10) [] [AV.lst [iv (2 : Int), iv (0 : Int), iv (1 : Int)], AV.lst [iv (2 : Int), iv (0 : Int), iv (1 : Int)]] [] (AV.bool true))) (h5 : (CT Try.prog (nat_lit 11) [] [AV.lst [AV.lst [iv (1 : Int)], AV.lst [iv (0 : Int), iv (2 : Int)], AV.lst [iv (0 : Int)]], AV.lst [AV.bool false, AV.bool false, AV.bool false], AV.lst [iv (0 : Int), iv (1 : Int)]] [] (AV.bool true))) : GoP Try.prog (hU [] (ek8 u) (ck8 u)) 0 (sR 2 (bodyOf Try.f4)) (sk8c u) (Fin Try.prog Try.f4 0 [] (AV.bool true)) :=
  endF_spec (σ := []) (fz := []) (by kernel_rfl) (aj (aj (u2 (u2 (aj (ak (k3 (al h1))) (u2 (u2 (u2 (u2 (u2 (u2 s2))))))))) (aj (u2 (u2 (aj (k5 (al h2)) (u2 (u2 (u2 (u2 (u2 (u2 s2))))))))) (al (u2 (u2 (u2 (aj t3 (aj t3 (aj t3 (u2 (aj t3 (aj t3 (aj t3 (u2 (aj t3 (u2 (aj (ak (k3 (aj (show (nat_lit 2 = nat_lit 2) by first | decide | exact Int.NonNeg.mk _) (aj h3 (show (∀ (blk : Blk), blk ∈ [] → ImmB blk) by intro _ h; cases h))))) (aj t3 (u2 (aj t3 (aj t3 (aj t3 (u2 (aj t3 (u2 (aj (ak (k3 (aj (show (nat_lit 3 = nat_lit 3) by first | decide | exact Int.NonNeg.mk _) (aj h4 (show (∀ (blk : Blk), blk ∈ [] → ImmB blk) by intro _ h; cases h))))) (aj t3 (u2 (aj t3 (aj t3 (u2 (aj (ak (k5 (aj (show (nat_lit 2 = nat_lit 2) by first | decide | exact Int.NonNeg.mk _) (aj h5 (show (∀ (blk : Blk), blk ∈ [] → ImmB blk) by intro _ h; cases h))))) (aj t3 s2))))))))))))))))))))))))))))))))) t2)
theorem rows_ok {g : List (List Int)} {s : List Bool} (hg : OkG g s) : Rows g := fun v hv => (hg.row v hv).1
theorem girth_ct {g : List (List Int)} {s : List Bool} (hg : OkG g s) (ha : Asc g) : CT Try.prog 7 [] [.lst (gL g), .lst (boL s)] [] (.tup [.int .i64 (iN (girN g s g.length).length), lI (girN g s g.length), .int .i64 0]) := by
  have h := GirthG_ct (s := s) (rows_ok hg)
  have hc := chk4_of hg ha
  unfold girL at h
  rw [if_pos hc, hc] at h
  exact h
theorem kg6_ok : OkG kg6 ks6 := by
  refine ⟨by decide, fun v hv => ?_, rfl⟩
  have : v < 3 := hv
  match v, this with
  | 0, _ => exact ⟨by decide, by decide⟩
  | 1, _ => exact ⟨by decide, by decide⟩
  | 2, _ => exact ⟨by decide, by decide⟩
theorem kg6_asc : Asc kg6 := by
  intro v hv i h0 hi
  have : v < 3 := hv
  match v, this with
  | 0, _ => exact absurd hi (by show ¬ i < 1; omega)
  | 1, _ =>
    have hi : i < 2 := hi
    obtain rfl : i = 1 := by omega
    decide
  | 2, _ => exact absurd hi (by show ¬ i < 1; omega)
theorem kgir : girN kg6 ks6 3 = [0, 1] := by decide +kernel
theorem kth2 : thZ kg6 ks6 2 = [2, 0, 1] := by decide +kernel
theorem kcls : ClsP kg6 ks6 [0, 1] := by unfold ClsP; decide +kernel
theorem known6_ct : CT Try.prog 4 [] [] [] (.bool true) := by
  have hb : Try.f4.body = some (bodyOf Try.f4) := by kernel_rfl
  have a1 := girth_ct kg6_ok kg6_asc
  rw [show kg6.length = 3 from rfl, kgir] at a1
  have a2 := Through_ct kg6_ok kg6_asc 2 (by decide)
  rw [kth2] at a2
  have a3 := closed_ct (s := ks6) (rows_ok kg6_ok) [0, 1] (by decide)
  rw [clsB_iff.2 ⟨chk4_of kg6_ok kg6_asc, kcls⟩] at a3
  refine CT.of Try.func4 hb (Nat.zero_le _) (T.cut (by kernel_rfl) (T.path mix (hk0_0 () fun st hst => T.ren hst ?_)))
  refine T.cut (by kernel_rfl) (T.path mix (hk1_0 () fun st hst => T.ren hst ?_))
  rw [sR_succ 1 (bodyOf Try.f4) (by kernel_rfl)]
  refine T.ren ?_ (T.path mix (hk2_0 () a1 a2 (sameInts_ct [0, 1] (by decide)) (sameInts_ct [2, 0, 1] (by decide)) a3))
  exact okRen_spec (σ := []) (fz := [0]) (vars := [0, 1, 2]) (p := (True ∧ ((3 = [1, 2, 3].length) ∧ (True ∧ True)))) rfl (by kernel_rfl) ⟨trivial, rfl, trivial, trivial⟩
theorem grp_exP (L : List Int) (kk : Nat) : ∃ p : List (List Int) × Nat, kk ≤ 100000 → (∃ n, n ≤ 9 ∧ GI n 100 p.1) ∧ p.2 ≤ kk + 200 ∧ CT Try.prog 5 [some (tapeB L kk)] [.ptr 0 0 0, .int .i64 9] [some (tapeB L p.2)] (.lst (gL p.1)) := by
  by_cases h : kk ≤ 100000
  · obtain ⟨g, k, n, a, b, c, d⟩ := graph_ex L kk 9 (by omega) (by omega)
    exact ⟨(g, k), fun _ => ⟨⟨n, a, b⟩, c, d⟩⟩
  · exact ⟨([], 0), fun q => absurd q h⟩
@[irreducible] noncomputable def grpM (L : List Int) (kk : Nat) : List (List Int) := (Classical.choose (grp_exP L kk)).1
@[irreducible] noncomputable def grpK (L : List Int) (kk : Nat) : Nat := (Classical.choose (grp_exP L kk)).2
theorem grp_spec {L : List Int} {kk : Nat} (h : kk ≤ 100000) : (∃ n, n ≤ 9 ∧ GI n 100 (grpM L kk)) ∧ grpK L kk ≤ kk + 200 ∧ CT Try.prog 5 [some (tapeB L kk)] [.ptr 0 0 0, .int .i64 9] [some (tapeB L (grpK L kk))] (.lst (gL (grpM L kk))) := by
  unfold grpM grpK; exact Classical.choose_spec (grp_exP L kk) h
theorem grp_c (L : List Int) (kk : Nat) (h : kk ≤ 100000) : CT Try.prog 5 [some (tapeB L kk)] [.ptr 0 0 0, .int .i64 9] [some (tapeB L (grpK L kk))] (.lst (gL (grpM L kk))) := (grp_spec h).2.2
theorem shu_exP (L : List Int) (kk : Nat) (n : Int) : ∃ p : List Bool × Nat, kk ≤ 100000 ∧ 0 ≤ n ∧ n ≤ 1000 → (p.1.length : Int) = n ∧ p.2 ≤ kk + 10 ∧ CT Try.prog 6 [some (tapeB L kk)] [.ptr 0 0 0, .int .i64 n] [some (tapeB L p.2)] (.lst (boL p.1)) := by
  by_cases h : kk ≤ 100000 ∧ 0 ≤ n ∧ n ≤ 1000
  · obtain ⟨s, k, a, b, c⟩ := shut_ex L kk n.toNat (by omega) (by omega)
    rw [Int.toNat_of_nonneg h.2.1] at c
    exact ⟨(s, k), fun _ => ⟨by rw [a]; omega, b, c⟩⟩
  · exact ⟨([], 0), fun q => absurd q h⟩
@[irreducible] noncomputable def shuM (L : List Int) (kk : Nat) (n : Int) : List Bool := (Classical.choose (shu_exP L kk n)).1
@[irreducible] noncomputable def shuK (L : List Int) (kk : Nat) (n : Int) : Nat := (Classical.choose (shu_exP L kk n)).2
theorem shu_spec {L : List Int} {kk : Nat} {n : Int} (h : kk ≤ 100000 ∧ 0 ≤ n ∧ n ≤ 1000) : ((shuM L kk n).length : Int) = n ∧ shuK L kk n ≤ kk + 10 ∧ CT Try.prog 6 [some (tapeB L kk)] [.ptr 0 0 0, .int .i64 n] [some (tapeB L (shuK L kk n))] (.lst (boL (shuM L kk n))) := by
  unfold shuM shuK; exact Classical.choose_spec (shu_exP L kk n) h
theorem shu_c (L : List Int) (kk : Nat) (n : Int) (h : kk ≤ 100000 ∧ 0 ≤ n ∧ n ≤ 1000) : CT Try.prog 6 [some (tapeB L kk)] [.ptr 0 0 0, .int .i64 n] [some (tapeB L (shuK L kk n))] (.lst (boL (shuM L kk n))) := (shu_spec h).2.2
@[irreducible] noncomputable def girM (g : List (List Int)) (s : List Bool) : List Int := girN g s g.length
theorem gir_c (g : List (List Int)) (s : List Bool) (h : OkG g s ∧ Asc g) : CT Try.prog 7 [] [.lst (gL g), .lst (boL s)] [] (.tup [.int .i64 (iN (girM g s).length), lI (girM g s), .int .i64 0]) := by unfold girM; exact girth_ct h.1 h.2
theorem gir_iff {g : List (List Int)} {s : List Bool} (h : OkG g s) : girM g s = [] ↔ ¬ Cyc g s := by
  unfold girM
  refine ⟨fun e ⟨o, ho⟩ => (girth_min h ho).1 e, fun hn => ?_⟩
  by_cases e : girN g s g.length = []
  · exact e
  · exact absurd ⟨_, (girth_cls h e).1⟩ hn
theorem nms_exP (g : List (List Int)) (s : List Bool) : ∃ nm, (OkG g s ∧ Asc g) ∧ dgS g ≤ 100000 → NmO g s nm ∧ CT Try.prog 8 [] [.lst (gL g), .lst (boL s)] [] (.tup [lI nm, .int .i64 0]) := by
  by_cases h : (OkG g s ∧ Asc g) ∧ dgS g ≤ 100000
  · obtain ⟨nm, a, b⟩ := nms_ex g s h.1.1 h.1.2 h.2
    exact ⟨nm, fun _ => ⟨a, b⟩⟩
  · exact ⟨[], fun q => absurd q h⟩
@[irreducible] noncomputable def nmsM (g : List (List Int)) (s : List Bool) : List Int := Classical.choose (nms_exP g s)
theorem nms_spec {g : List (List Int)} {s : List Bool} (h : (OkG g s ∧ Asc g) ∧ dgS g ≤ 100000) : NmO g s (nmsM g s) ∧ CT Try.prog 8 [] [.lst (gL g), .lst (boL s)] [] (.tup [lI (nmsM g s), .int .i64 0]) := by
  unfold nmsM; exact Classical.choose_spec (nms_exP g s) h
theorem nms_c (g : List (List Int)) (s : List Bool) (h : (OkG g s ∧ Asc g) ∧ dgS g ≤ 100000) : CT Try.prog 8 [] [.lst (gL g), .lst (boL s)] [] (.tup [lI (nmsM g s), .int .i64 0]) := (nms_spec h).2
theorem dgS_le {m : Int} : ∀ {g : List (List Int)}, (∀ r ∈ g, (r.length : Int) ≤ m) → dgS g ≤ m * g.length
  | [], _ => by simp [dgS]
  | r :: g, h => by
    have h1 := h r List.mem_cons_self
    have h2 := dgS_le (g := g) fun r hr => h r (List.mem_cons_of_mem _ hr)
    simp only [dgS, List.map_cons, List.sum_cons, List.length_cons] at h2 ⊢
    rw [Int.natCast_add, Int.mul_add]
    omega
inductive gnoPc where
  | l0 (v0 : Bool) (v1 : Int)
noncomputable def gnoSt (l : List Int) : gnoPc → St
  | .l0 v0 v1 => St.mk 76 [(4, AV.lst (gL (grpM l 0))), (6, iv (iN (girM (grpM l 0) (shuM l (grpK l 0) (iN (gL (grpM l 0)).length))).length)), (9, AV.lst (List.map (iv) (nmsM (grpM l 0) (shuM l (grpK l 0) (iN (gL (grpM l 0)).length))))), (11, AV.bool v0), (12, iv v1)] []
def gnoHd : gnoPc → Nat
  | .l0 _ _ => 0
noncomputable def gnoEn (l : List Int) : Option (gnoPc ⊕ Ret) :=
  gu (grpK l 0 ≤ 100000 ∧ 0 ≤ iN (gL (grpM l 0)).length ∧ iN (gL (grpM l 0)).length ≤ 1000) <|
  gu (OkG (grpM l 0) (shuM l (grpK l 0) (iN (gL (grpM l 0)).length)) ∧ Asc (grpM l 0)) <|
  gu ((OkG (grpM l 0) (shuM l (grpK l 0) (iN (gL (grpM l 0)).length)) ∧ Asc (grpM l 0)) ∧ dgS (grpM l 0) ≤ 100000) <|
  br (iN (List.map (AV.int IntKind.i64) (nmsM (grpM l 0) (shuM l (grpK l 0) (iN (gL (grpM l 0)).length)))).length != iN (gL (grpM l 0)).length)
  (some (.inr ([], AV.bool false)))
  (some (.inl (.l0 (true) ((0 : Int)))))
noncomputable def gnoS0 (l : List Int) (v0 : Bool) (v1 : Int) : Option (gnoPc ⊕ Ret) :=
  br (decide (v1 < iN (gL (grpM l 0)).length))
  (br (v0)
   (gu (0 ≤ v1) <|
    el (nmsM (grpM l 0) (shuM l (grpK l 0) (iN (gL (grpM l 0)).length))) (v1.toNat) fun (x60 : Int) =>
    br (decide (x60 < 0))
    (some (.inl (.l0 (true) (IntKind.i64.wrap (v1 + 1)))))
    (el (nmsM (grpM l 0) (shuM l (grpK l 0) (iN (gL (grpM l 0)).length))) (v1.toNat) fun (x66 : Int) =>
     some (.inl (.l0 (x66 == v1) (IntKind.i64.wrap (v1 + 1))))))
   (some (.inl (.l0 (false) (IntKind.i64.wrap (v1 + 1))))))
  (some (.inr ([], AV.bool ((iN (girM (grpM l 0) (shuM l (grpK l 0) (iN (gL (grpM l 0)).length))).length == 0) == v0))))
noncomputable def gnoStep (l : List Int) : gnoPc → Option (gnoPc ⊕ Ret)
  | .l0 v0 v1 => gnoS0 l v0 v1
theorem gnoEn_ok (l : List Int) (o : gnoPc ⊕ Ret) (h : gnoEn l = some o) : Arr Try.prog Try.f3 0 (gnoSt l) gnoHd (bodyOf Try.f3) [] { n := Try.f3.ntmps, fr := enumF 0 ([lI l]), hp := ([]) } o :=
 Scr.ok h mix (
 have c0 := known6_ct;
 have c1 := grp_c (l) (0) (show nat_lit 0 ≤ (100000 : Nat) from (by first | exact Nat.le_of_ble_eq_true rfl | decide));
 .rn 3 [] [] [(13, hK c0 [] []), (19, hK c1 [0] [])] [] (u2 (aj (aj (al (c0)) s2) (ak (aj (u2 (u2 (u2 s2))) (al (u2 (aj (ak (k3 (al (c1)))) s2))))))) <|
 .gu fun a0 =>
 have c2 := shu_c (l) (grpK l 0) (iN (gL (grpM l 0)).length) a0;
 .rn 0 [] [] [(23, hK c2 [0] [])] [] (al (u2 (u2 (u2 (aj (k5 (al (c2))) s2))))) <|
 .gu fun a1 =>
 have c3 := gir_c (grpM l 0) (shuM l (grpK l 0) (iN (gL (grpM l 0)).length)) a1;
 .rn 0 [] [] [(27, hK c3 [] [])] [] (al (u2 (u2 (aj (ak (k3 (al (c3)))) (u2 (u2 (u2 (u2 (u2 (u2 s2)))))))))) <|
 .gu fun a2 =>
 have c4 := nms_c (grpM l 0) (shuM l (grpK l 0) (iN (gL (grpM l 0)).length)) a2;
 .rn 1 [] [] [(34, hK c4 [] [])] [] (aj (u2 (u2 (aj (ak (k3 (al (c4)))) (u2 (u2 (u2 (u2 s2))))))) (al (u2 (u2 (u2 (aj t3 (aj t3 (aj t3 (u2 (aj t3 (aj t3 (aj t3 (aj t3 (aj t4 (al t3))))))))))))))) <|
 .br (fun a3 =>
 .rt [99] [] [] [] [] [] (aj (aj a3 s2) t2))
 (fun a3 =>
 .lp [98] [] [] [] [] [] [4, 6, 9, 11, 12] (aj (aj a3 (u2 s2)) t6))) (by kernel_rfl)
theorem gnoS0_ok (l : List Int) (v0 : Bool) (v1 : Int) (o : gnoPc ⊕ Ret) (h : gnoS0 l v0 v1 = some o) : Arr Try.prog Try.f3 0 (gnoSt l) gnoHd (headC Try.f3 0) (headK Try.f3 0) (gnoSt l (.l0 v0 v1)) o :=
 Scr.ok h mix (
 .rn 0 [] [] [] [] (al (u2 (u2 (u2 (al t3))))) <|
 .br (fun a0 =>
 .br (fun a1 =>
  .gu fun a2 =>
  .el fun x60 a3 =>
  .br (fun a4 =>
  .lp [107, 115, 127] [(60, iv x60)] [] [] [] [] [4, 6, 9, 11, 12] (aj (aj a0 (aj (u2 (u2 (ag a1 (ag a1 (aj (aj a1 (k2 (aj a2 (getMap (f := iv) a3)))) (ag a1 (ag a1 (ag a1 (aj a4 (aj a4 (aj a4 (aj a4 (aj a4 (aj a4 (aj (aj a1 (aj a4 t2)) (ag a1 s2)))))))))))))))) (al (u2 (u2 s2))))) t6))
  (fun a4 =>
  .el fun x66 a5 =>
  .lp [107, 115, 126] [(60, iv x60), (66, iv x66)] [] [] [] [] [4, 6, 9, 11, 12] (aj (aj a0 (aj (u2 (u2 (ag a1 (ag a1 (aj (aj a1 (k2 (aj a2 (getMap (f := iv) a3)))) (ag a1 (ag a1 (ag a1 (ag a4 (ag a4 (aj (aj a4 (k2 (aj a2 (getMap (f := iv) a5)))) (ag a4 (ag a4 (aj (aj a4 t3) (aj (aj a1 (aj a4 t2)) (ag a1 s2)))))))))))))))) (al (u2 (u2 s2))))) t6)))
 (fun a1 =>
  .lp [107, 114] [] [] [] [] [] [4, 6, 9, 11, 12] (aj (aj a0 (aj (u2 (u2 (aj a1 (aj a1 (aj a1 (aj a1 (aj a1 (aj a1 (ak (k5 (aj a1 (ag a1 s2)))))))))))) (al (u2 (u2 s2))))) t6)))
 (fun a0 =>
 .rt [106] [] [] [] [] [] (aj (aj a0 (al (u2 (u2 (u2 (aj t3 s2)))))) t2))) (by kernel_rfl)
theorem gno_ct (l : List Int) (r : Ret) (h : MReach (gnoStep l) (gnoEn l) r) : CT Try.prog 3 ([]) ([lI l]) r.1 r.2 :=
  CT.mach (fn := Try.f3) (c := bodyOf Try.f3) (S := gnoSt l) (hd := gnoHd) Try.func3 (by kernel_rfl) (Nat.le_of_ble_eq_true rfl)
    (fun s o ho => match s, ho with
      | .l0 v0 v1, ho => gnoS0_ok l v0 v1 o ho
    )
    (fun o ho => gnoEn_ok l o ho) h
theorem gno_run (l : List Int) : CT Try.prog 3 [] [lI l] [] (.bool true) := by
  refine gno_ct l ([], .bool true) ?_
  obtain ⟨⟨n, hn, hGI⟩, hk, _⟩ := grp_spec (L := l) (kk := 0) (by omega)
  have hgl := gL_len (grpM l 0)
  have hlen := hGI.len
  have hsp := shu_spec (L := l) (kk := grpK l 0) (n := iN (gL (grpM l 0)).length) ⟨by omega, by simp only [iN, hgl]; omega, by simp only [iN, hgl]; omega⟩
  have hS : ∀ a b, gnoStep l (.l0 a b) = gnoS0 l a b := fun _ _ => rfl
  unfold gnoEn
  unfold gnoS0 at hS
  rw [gu_t ⟨by omega, by simp only [iN, hgl]; omega, by simp only [iN, hgl]; omega⟩]
  have hsl : (shuM l (grpK l 0) (iN (gL (grpM l 0)).length)).length = n := by have := hsp.1; simp only [iN, hgl] at this ⊢; omega
  generalize shuM l (grpK l 0) (iN (gL (grpM l 0)).length) = s at hsl hS ⊢
  generalize grpM l 0 = g at hGI hgl hlen hS ⊢
  obtain ⟨hg, ha⟩ := hGI.ok (by omega) (by omega) hsl
  have hD : dgS g ≤ 100000 := by
    have := dgS_le (m := 100) (g := g) fun r hr => by
      obtain ⟨i, hi⟩ := List.getElem?_of_mem hr
      have hil := (List.getElem?_eq_some_iff.1 hi).1
      have := (hGI.row i (by omega)).1
      rw [List.getD_eq_getElem?_getD, hi] at this
      have : r.length ≤ 100 := this
      omega
    omega
  obtain ⟨⟨hnl, hiff⟩, _⟩ := nms_spec (g := g) (s := s) ⟨⟨hg, ha⟩, hD⟩
  have hgi := gir_iff hg
  rw [gu_t ⟨hg, ha⟩, gu_t ⟨⟨hg, ha⟩, hD⟩, br_f (by simp only [iN, List.length_map, hgl, hnl]; simp)]
  generalize nmsM g s = nm at hnl hiff hS ⊢
  generalize girM g s = w at hgi hS ⊢
  have key : ∀ (d i : Nat) (b : Bool), i + d = g.length → (b = true ↔ ∀ y, 0 ≤ y → y < (i : Int) → gI nm y < 0 ∨ gI nm y = y) → MReach (gnoStep l) (some (.inl (.l0 b (i : Int)))) (([], .bool true) : Ret) := by
    intro d
    induction d with
    | zero =>
      intro i b hi hb
      refine .to (hS _ _) (.val ?_)
      rw [br_f (decide_eq_false (by simp only [iN, hgl]; omega))]
      have e : (b = true ↔ w = []) := by
        rw [hgi, ← hiff, hb]
        rw [show (i : Int) = (g.length : Int) by omega]
      have : ((iN w.length == 0) == b) = true := by
        cases b with
        | true => rw [e.1 rfl]; rfl
        | false =>
          have hne : w ≠ [] := fun q => by have := e.2 q; cases this
          have : (iN w.length == 0) = false := by
            rw [beq_eq_false_iff_ne]
            have := List.length_pos_iff.2 hne
            simp only [iN]; omega
          rw [this]; rfl
      rw [this]
    | succ d ih =>
      intro i b hi hb
      refine .to (hS _ _) ?_
      have hnx : nm[(i : Int).toNat]? = some (gI nm i) := gI_el (by omega) (by omega)
      have ext : ∀ y : Int, y < ((i + 1 : Nat) : Int) → y = (i : Int) ∨ y < (i : Int) := fun y hy => by omega
      rw [br_t (decide_eq_true (by simp only [iN, hgl]; omega)), wrap_in (x := (i : Int) + 1) (by omega) (by omega)]
      cases b with
      | true =>
        rw [br_t rfl, gu_t (by omega), el_t hnx]
        have hb := hb.1 rfl
        by_cases hx : gI nm i < 0
        · rw [br_t (decide_eq_true hx)]
          refine ih (i + 1) true (by omega) ⟨fun _ y y0 y1 => ?_, fun _ => rfl⟩
          rcases ext y y1 with e | e
          · rw [e]; exact .inl hx
          · exact hb y y0 e
        · rw [br_f (decide_eq_false hx), el_t hnx]
          refine ih (i + 1) _ (by omega) ⟨fun he y y0 y1 => ?_, fun hq => ?_⟩
          · rcases ext y y1 with e | e
            · rw [e]; exact .inr (eq_of_beq he)
            · exact hb y y0 e
          · rcases hq i (by omega) (by omega) with e | e
            · exact absurd e hx
            · rw [e]; exact beq_self_eq_true _
      | false =>
        rw [br_f rfl]
        refine ih (i + 1) false (by omega) ⟨fun h => (by cases h), fun hq => ?_⟩
        exact hb.2 fun y y0 y1 => hq y y0 (by omega)
  exact key g.length 0 true (by omega) ⟨fun _ y y0 y1 => by omega, fun _ => rfl⟩
theorem rdIntsT {n : Nat} {es : List AV} (h : ∀ x ∈ es, ShV Try.prog n 3 x) : ∃ L : List Int, es = L.map (AV.int .i64) := by
  induction es with
  | nil => exact ⟨[], rfl⟩
  | cons x es ih =>
    obtain ⟨L, rfl⟩ := ih fun y hy => h y (List.mem_cons_of_mem _ hy)
    obtain ⟨i, _, rfl⟩ := (h x (by simp)).intD Try.underlying3
    exact ⟨i :: L, rfl⟩
theorem girthNone_row (avs : List AV) (h : ShVs Try.prog 6 Try.f3.params.toList avs) : CT Try.prog 3 [] avs [] (.bool true) := by
  rw [Try.params3] at h
  obtain ⟨a, _, rfl, ka, h⟩ := h.consD
  obtain rfl := h.nilD
  obtain ⟨_, _, hd, rfl⟩ := ka.sliceD Try.underlying22
  obtain ⟨l, rfl⟩ := rdIntsT hd
  exact gno_run l
end Go.Proofs.Ytcgegbmnpjfjlaa

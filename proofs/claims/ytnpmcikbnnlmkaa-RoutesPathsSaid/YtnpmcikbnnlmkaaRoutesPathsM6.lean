/- Parts of the proof: Rt11p, AxTr, RtA, Rt12p, RtB. -/
import Derived.Test.YtnpmcikbnnlmkaaProg
import Derived.KernelRfl
import Derived.Test.YtnpmcikbnnlmkaaRoutesPathsM5
/-! The paths of a function, by evaluation. -/
open Go Go.AX Go.Proofs
set_option maxRecDepth 100000
set_option maxHeartbeats 4000000
set_option linter.unusedVariables false
namespace Go.Proofs.Ytnpmcikbnnlmkaa
def mkC (m : Nat → Bool) : List AV := [.bool (m 0), .bool (m 1), .bool (m 2), .bool (m 3), .bool (m 4), .bool (m 5), .bool (m 6), .bool (m 7), .bool (m 8), .bool (m 9), .bool (m 10), .bool (m 11), .bool (m 12), .bool (m 13), .bool (m 14), .bool (m 15), .bool (m 16), .bool (m 17), .bool (m 18), .bool (m 19), .bool (m 20), .bool (m 21), .bool (m 22), .bool (m 23)]
structure QZ where
  g : List (List Int)
  s : List Bool
  v : Nat
  m : Nat → Bool
  o : List Int
  u : Nat
  r : List Int
  i : Nat
  w : Nat
  sb : Bool
  mb : Bool
  k : Nat
  a : Nat
  x : Int
  y : Int
  d : List Int
  p : List Int
def cZ (q : QZ) : Nat → FuncId → List AV → List (Option Blk) → Hint := fun dst f args hp => match f with
  | 41 => .call [] [] [] (.bool true)
  | 36 => .call [] [] [] (.int .i64 0)
  | 37 => .call [] [] [] (.agg (mkC q.m))
  | 38 => .call [] [] [] (.int .i64 0)
  | 42 => .call [] [] [] (lI q.d)
  | 39 => .call [] [] [] (lI q.p)
  | _ => .no
noncomputable def st41 (q : QZ) : St := { n := Try.f41.ntmps, fr := [(0, .lst (gL q.g))], hp := [] }
noncomputable def la41 (q : QZ) : St := { n := Try.f41.ntmps, fr := [(0, .lst (gL q.g)), (11, .lst (gL q.g)), (12, .int .i64 (iN q.g.length)), (13, .int .i64 (iN q.a))], hp := [] }
noncomputable def lb41 (q : QZ) : St := { n := Try.f41.ntmps, fr := [(0, .lst (gL q.g)), (3, .int .i64 (iN q.a)), (5, .int .i64 q.x), (11, .lst (gL q.g)), (12, .int .i64 (iN q.g.length)), (13, .int .i64 (iN q.a)), (18, lI q.r), (19, .int .i64 (iN q.r.length)), (20, .int .i64 (iN q.i))], hp := [] }
def e41 (q : QZ) : List (Nat × AV) := [(16, lI q.r), (22, .int .i64 (iN q.w))]
noncomputable def st38 (q : QZ) : St := { n := Try.f38.ntmps, fr := [(0, .lst (gL q.g)), (1, .lst (boL q.s))], hp := [] }
noncomputable def la38 (q : QZ) : St := { n := Try.f38.ntmps, fr := [(0, .lst (gL q.g)), (1, .lst (boL q.s)), (13, .lst (gL q.g)), (14, .int .i64 (iN q.g.length)), (15, .int .i64 (iN q.a))], hp := [] }
noncomputable def lb38 (q : QZ) : St := { n := Try.f38.ntmps, fr := [(0, .lst (gL q.g)), (1, .lst (boL q.s)), (5, .int .i64 (iN q.a)), (7, .int .i64 q.x), (13, .lst (gL q.g)), (14, .int .i64 (iN q.g.length)), (15, .int .i64 (iN q.a)), (20, lI q.r), (21, .int .i64 (iN q.r.length)), (22, .int .i64 (iN q.i))], hp := [] }
def e38 (q : QZ) : List (Nat × AV) := [(18, lI q.r), (24, .int .i64 (iN q.w))]
noncomputable def st36 (q : QZ) : St := { n := Try.f36.ntmps, fr := [(0, .lst (gL q.g)), (1, .lst (boL q.s)), (2, .int .i64 (iN q.v))], hp := [] }
def e36 (q : QZ) : List (Nat × AV) := []
def zB : Blk := { es := [.agg [.bool false, .bool false, .bool false, .bool false, .bool false, .bool false, .bool false, .bool false, .bool false, .bool false, .bool false, .bool false, .bool false, .bool false, .bool false, .bool false, .bool false, .bool false, .bool false, .bool false, .bool false, .bool false, .bool false, .bool false]], z := 24 }
def mB (m : Nat → Bool) : Blk := { es := [.agg (mkC m)], z := 24 }
noncomputable def st37 (q : QZ) : St := { n := Try.f37.ntmps, fr := [(0, .lst (gL q.g)), (1, .lst (boL q.s)), (2, .int .i64 (iN q.v))], hp := [] }
noncomputable def lo37 (q : QZ) : St := { n := Try.f37.ntmps, fr := [(0, .lst (gL q.g)), (1, .lst (boL q.s)), (6, .ptr 0 0 0), (7, .ptr 1 0 0), (8, .sl 2 0 q.k)], hp := [some zB, some (mB q.m), some (dB q.o)] }
noncomputable def li37 (q : QZ) : St := { n := Try.f37.ntmps, fr := [(0, .lst (gL q.g)), (1, .lst (boL q.s)), (6, .ptr 0 0 0), (7, .ptr 1 0 0), (8, .sl 2 0 q.k), (38, lI q.r), (39, .int .i64 (iN q.r.length)), (40, .int .i64 (iN q.i))], hp := [some zB, some (mB q.m), some (dB q.o)] }
def e37 (q : QZ) : List (Nat × AV) := [(14, .bool q.sb), (18, .tup []), (29, .int .i64 (iN q.u)), (37, lI q.r), (42, .int .i64 (iN q.w)), (46, .bool q.sb), (52, .tup [.bool q.mb]), (56, .tup [])]
noncomputable def st22 (q : QZ) : St := { n := Try.f22.ntmps, fr := [(0, .lst (gL q.g)), (1, .lst (boL q.s)), (2, .int .i64 (iN q.v))], hp := [] }
noncomputable def sc22 (q : QZ) : St := { n := Try.f22.ntmps, fr := [(0, .lst (gL q.g)), (9, .ptr 0 0 0)], hp := [some { es := mkC q.m, z := 1 }] }
theorem rv_0 (q : QZ) (h1 : (decide (24 < iN (gL q.g).length) = false)) {post : Exit → St → Prop} (ht : T Try.prog 0 (.loop (loopC (bodyOf Try.f41) 0)) (St.mk 41 [(0, AV.lst (gL q.g)), (11, AV.lst (gL q.g)), (12, AV.int IntKind.i64 (iN (gL q.g).length)), (13, AV.int IntKind.i64 0)] []) (TK Try.prog 0 post (loopK (bodyOf Try.f41) 0))) : ∃ o' st' q', go Try.prog ({ dec := [(10, false)], els := e41 q, calls := cZ q, unroll := false } : HT) 0 4000 (.inl (bodyOf Try.f41)) [] (st41 q) = some (o', st', q') ∧ q' ∧ Go.AX.Rest Try.prog 0 post st' o' :=
  endR_spec (σ := []) (fz := []) (vars := [0,11,12,13]) (show endR 0 [] [] [0,11,12,13] (go Try.prog ({ dec := [(10, false)], els := e41 q, calls := cZ q, unroll := false } : HT) 0 4000 (.inl (bodyOf Try.f41)) [] (st41 q)) = some (loopC (bodyOf Try.f41) 0, loopK (bodyOf Try.f41) 0, St.mk 41 [(0, AV.lst (gL q.g)), (11, AV.lst (gL q.g)), (12, AV.int IntKind.i64 (iN (gL q.g).length)), (13, AV.int IntKind.i64 0)] [], (((True ∧ True) ∧ (((True ∧ True) ∧ ((True ∧ True) ∧ ((True ∧ True) ∧ True))) ∧ ((type_of% h1) ∧ (((True ∧ True) ∧ ((True ∧ True) ∧ (True ∧ True))) ∧ True)))) ∧ (True ∧ (True ∧ (True ∧ (True ∧ True)))))) by kernel_rfl) ⟨⟨⟨trivial, trivial⟩, ⟨⟨⟨trivial, trivial⟩, ⟨⟨trivial, trivial⟩, ⟨⟨trivial, trivial⟩, trivial⟩⟩⟩, ⟨h1, ⟨⟨⟨trivial, trivial⟩, ⟨⟨trivial, trivial⟩, ⟨trivial, trivial⟩⟩⟩, trivial⟩⟩⟩⟩, ⟨trivial, ⟨trivial, ⟨trivial, ⟨trivial, trivial⟩⟩⟩⟩⟩ ht
theorem rvx_0 (q : QZ) (h1 : (decide (iN q.a < iN q.g.length) = false)) : ∃ o' st' q', go2 Try.prog ({ dec := [(14, false)], els := e41 q, calls := cZ q, unroll := false } : HT) 0 4000 (loopC (bodyOf Try.f41) 0) (loopK (bodyOf Try.f41) 0) (la41 q) = some (o', st', q') ∧ q' ∧ Go.AX.Rest Try.prog 0 (Fin Try.prog Try.f41 0 [] (AV.bool true)) st' o' :=
  endF_spec (σ := []) (fz := []) (show endF Try.prog Try.f41 0 [] [] (go2 Try.prog ({ dec := [(14, false)], els := e41 q, calls := cZ q, unroll := false } : HT) 0 4000 (loopC (bodyOf Try.f41) 0) (loopK (bodyOf Try.f41) 0) (la41 q)) = some ([], AV.bool true, (((((True ∧ (True ∧ True)) ∧ True) ∧ ((type_of% h1) ∧ True)) ∧ ((True ∧ True) ∧ True)) ∧ (True ∧ True))) by kernel_rfl) ⟨⟨⟨⟨⟨trivial, ⟨trivial, trivial⟩⟩, trivial⟩, ⟨h1, trivial⟩⟩, ⟨⟨trivial, trivial⟩, trivial⟩⟩, ⟨trivial, trivial⟩⟩
theorem rva_0 (q : QZ) (h1 : (decide (iN q.a < iN q.g.length) = true)) (h2 : (0 ≤ iN q.a)) (h3 : ((gL q.g)[(iN q.a).toNat]? = some (AV.lst (List.map (AV.int IntKind.i64) q.r)))) {post : Exit → St → Prop} (ht : T Try.prog 0 (.loop (loopC (loopC (bodyOf Try.f41) 0) 0)) (St.mk 41 [(0, AV.lst (gL q.g)), (3, AV.int IntKind.i64 (iN q.a)), (5, AV.int IntKind.i64 (-1)), (11, AV.lst (gL q.g)), (12, AV.int IntKind.i64 (iN q.g.length)), (13, AV.int IntKind.i64 (iN q.a)), (18, AV.lst (List.map (AV.int IntKind.i64) q.r)), (19, AV.int IntKind.i64 (iN (List.map (AV.int IntKind.i64) q.r).length)), (20, AV.int IntKind.i64 0)] []) (TK Try.prog 0 post (loopK (loopC (bodyOf Try.f41) 0) 0))) : ∃ o' st' q', go Try.prog ({ dec := [(14, true)], els := e41 q, calls := cZ q, unroll := false } : HT) 0 4000 (.inl (loopC (bodyOf Try.f41) 0)) [] (la41 q) = some (o', st', q') ∧ q' ∧ Go.AX.Rest Try.prog 0 post st' o' :=
  endR_spec (σ := []) (fz := []) (vars := [0,3,5,11,12,13,18,19,20]) (show endR 0 [] [] [0,3,5,11,12,13,18,19,20] (go Try.prog ({ dec := [(14, true)], els := e41 q, calls := cZ q, unroll := false } : HT) 0 4000 (.inl (loopC (bodyOf Try.f41) 0)) [] (la41 q)) = some (loopC (loopC (bodyOf Try.f41) 0) 0, loopK (loopC (bodyOf Try.f41) 0) 0, St.mk 41 [(0, AV.lst (gL q.g)), (3, AV.int IntKind.i64 (iN q.a)), (5, AV.int IntKind.i64 (-1)), (11, AV.lst (gL q.g)), (12, AV.int IntKind.i64 (iN q.g.length)), (13, AV.int IntKind.i64 (iN q.a)), (18, AV.lst (List.map (AV.int IntKind.i64) q.r)), (19, AV.int IntKind.i64 (iN (List.map (AV.int IntKind.i64) q.r).length)), (20, AV.int IntKind.i64 0)] [], ((((True ∧ (True ∧ True)) ∧ True) ∧ ((type_of% h1) ∧ (((True ∧ True) ∧ ((True ∧ (True ∧ ((type_of% h2) ∧ (type_of% h3)))) ∧ ((True ∧ True) ∧ ((True ∧ True) ∧ ((True ∧ True) ∧ True))))) ∧ ((True ∧ True) ∧ (((True ∧ True) ∧ ((True ∧ True) ∧ (True ∧ True))) ∧ True))))) ∧ (True ∧ (True ∧ (True ∧ (True ∧ (True ∧ (True ∧ (True ∧ (True ∧ (True ∧ True))))))))))) by kernel_rfl) ⟨⟨⟨⟨trivial, ⟨trivial, trivial⟩⟩, trivial⟩, ⟨h1, ⟨⟨⟨trivial, trivial⟩, ⟨⟨trivial, ⟨trivial, ⟨h2, h3⟩⟩⟩, ⟨⟨trivial, trivial⟩, ⟨⟨trivial, trivial⟩, ⟨⟨trivial, trivial⟩, trivial⟩⟩⟩⟩⟩, ⟨⟨trivial, trivial⟩, ⟨⟨⟨trivial, trivial⟩, ⟨⟨trivial, trivial⟩, ⟨trivial, trivial⟩⟩⟩, trivial⟩⟩⟩⟩⟩, ⟨trivial, ⟨trivial, ⟨trivial, ⟨trivial, ⟨trivial, ⟨trivial, ⟨trivial, ⟨trivial, ⟨trivial, trivial⟩⟩⟩⟩⟩⟩⟩⟩⟩⟩ ht
theorem rvbx_0 (q : QZ) (h1 : (decide (iN q.i < iN q.r.length) = false)) {post : Exit → St → Prop} {R : St → Prop} (hR : ∀ st, Ren 0 st (St.mk 41 [(0, AV.lst (gL q.g)), (11, AV.lst (gL q.g)), (12, AV.int IntKind.i64 (iN q.g.length)), (13, AV.int IntKind.i64 (IntKind.i64.wrap (iN q.a + 1)))] []) → R st) : ∃ o' st' q', go2 Try.prog ({ dec := [(21, false)], els := e41 q, calls := cZ q, unroll := false } : HT) 0 4000 (loopC (loopC (bodyOf Try.f41) 0) 0) (loopK (loopC (bodyOf Try.f41) 0) 0) (lb41 q) = some (o', st', q') ∧ q' ∧ Go.AX.Rest Try.prog 0 (andThen R post) st' o' :=
  endN_spec (σ := []) (fz := []) (vars := [0,11,12,13]) (show endN 0 [] [] [0,11,12,13] (go2 Try.prog ({ dec := [(21, false)], els := e41 q, calls := cZ q, unroll := false } : HT) 0 4000 (loopC (loopC (bodyOf Try.f41) 0) 0) (loopK (loopC (bodyOf Try.f41) 0) 0) (lb41 q)) = some (St.mk 41 [(0, AV.lst (gL q.g)), (11, AV.lst (gL q.g)), (12, AV.int IntKind.i64 (iN q.g.length)), (13, AV.int IntKind.i64 (IntKind.i64.wrap (iN q.a + 1)))] [], (((((True ∧ (True ∧ True)) ∧ True) ∧ ((type_of% h1) ∧ True)) ∧ (((True ∧ True) ∧ ((True ∧ True) ∧ True)) ∧ True)) ∧ (True ∧ (True ∧ (True ∧ (True ∧ True)))))) by kernel_rfl) ⟨⟨⟨⟨⟨trivial, ⟨trivial, trivial⟩⟩, trivial⟩, ⟨h1, trivial⟩⟩, ⟨⟨⟨trivial, trivial⟩, ⟨⟨trivial, trivial⟩, trivial⟩⟩, trivial⟩⟩, ⟨trivial, ⟨trivial, ⟨trivial, ⟨trivial, trivial⟩⟩⟩⟩⟩ hR
theorem rvbr_0 (q : QZ) (h1 : (decide (iN q.i < iN q.r.length) = true)) (h2 : (0 ≤ iN q.i)) (h3 : ((List.map (AV.int IntKind.i64) q.r)[(iN q.i).toNat]? = some (AV.int IntKind.i64 (iN q.w)))) (h4 : (decide (iN q.w ≤ q.x) = false)) (h5 : (decide (iN (gL q.g).length ≤ iN q.w) = false)) (h6 : ((iN q.w == iN q.a) = false)) {post : Exit → St → Prop} {R : St → Prop} (hR : ∀ st, Ren 0 st (St.mk 41 [(0, AV.lst (gL q.g)), (3, AV.int IntKind.i64 (iN q.a)), (5, AV.int IntKind.i64 (iN q.w)), (11, AV.lst (gL q.g)), (12, AV.int IntKind.i64 (iN q.g.length)), (13, AV.int IntKind.i64 (iN q.a)), (18, AV.lst (List.map (AV.int IntKind.i64) q.r)), (19, AV.int IntKind.i64 (iN q.r.length)), (20, AV.int IntKind.i64 (IntKind.i64.wrap (iN q.i + 1)))] []) → R st) : ∃ o' st' q', go Try.prog ({ dec := [(21, true), (26, false), (31, false), (36, false)], els := e41 q, calls := cZ q, unroll := false } : HT) 0 4000 (.inl (loopC (loopC (bodyOf Try.f41) 0) 0)) [] (lb41 q) = some (o', st', q') ∧ q' ∧ Go.AX.Rest Try.prog 0 (andThen R post) st' o' :=
  endN_spec (σ := []) (fz := []) (vars := [0,3,5,11,12,13,18,19,20]) (show endN 0 [] [] [0,3,5,11,12,13,18,19,20] (go Try.prog ({ dec := [(21, true), (26, false), (31, false), (36, false)], els := e41 q, calls := cZ q, unroll := false } : HT) 0 4000 (.inl (loopC (loopC (bodyOf Try.f41) 0) 0)) [] (lb41 q)) = some (St.mk 41 [(0, AV.lst (gL q.g)), (3, AV.int IntKind.i64 (iN q.a)), (5, AV.int IntKind.i64 (iN q.w)), (11, AV.lst (gL q.g)), (12, AV.int IntKind.i64 (iN q.g.length)), (13, AV.int IntKind.i64 (iN q.a)), (18, AV.lst (List.map (AV.int IntKind.i64) q.r)), (19, AV.int IntKind.i64 (iN q.r.length)), (20, AV.int IntKind.i64 (IntKind.i64.wrap (iN q.i + 1)))] [], ((((True ∧ (True ∧ True)) ∧ True) ∧ ((type_of% h1) ∧ (((True ∧ (True ∧ ((type_of% h2) ∧ (type_of% h3)))) ∧ ((True ∧ True) ∧ ((True ∧ True) ∧ True))) ∧ (((True ∧ True) ∧ ((True ∧ True) ∧ ((True ∧ (True ∧ True)) ∧ (((type_of% h4) ∧ True) ∧ ((True ∧ (True ∧ True)) ∧ ((True ∧ (True ∧ True)) ∧ ((True ∧ (True ∧ True)) ∧ ((True ∧ (True ∧ (True ∧ True))) ∧ ((True ∧ ((type_of% h5) ∧ True)) ∧ ((True ∧ True) ∧ ((True ∧ (True ∧ True)) ∧ ((True ∧ (True ∧ True)) ∧ ((True ∧ (True ∧ (True ∧ True))) ∧ ((True ∧ ((type_of% h6) ∧ True)) ∧ True)))))))))))))) ∧ (True ∧ (((True ∧ True) ∧ ((True ∧ True) ∧ True)) ∧ (((True ∧ True) ∧ ((True ∧ True) ∧ True)) ∧ True))))))) ∧ (True ∧ (True ∧ (True ∧ (True ∧ (True ∧ (True ∧ (True ∧ (True ∧ (True ∧ True))))))))))) by kernel_rfl) ⟨⟨⟨⟨trivial, ⟨trivial, trivial⟩⟩, trivial⟩, ⟨h1, ⟨⟨⟨trivial, ⟨trivial, ⟨h2, h3⟩⟩⟩, ⟨⟨trivial, trivial⟩, ⟨⟨trivial, trivial⟩, trivial⟩⟩⟩, ⟨⟨⟨trivial, trivial⟩, ⟨⟨trivial, trivial⟩, ⟨⟨trivial, ⟨trivial, trivial⟩⟩, ⟨⟨h4, trivial⟩, ⟨⟨trivial, ⟨trivial, trivial⟩⟩, ⟨⟨trivial, ⟨trivial, trivial⟩⟩, ⟨⟨trivial, ⟨trivial, trivial⟩⟩, ⟨⟨trivial, ⟨trivial, ⟨trivial, trivial⟩⟩⟩, ⟨⟨trivial, ⟨h5, trivial⟩⟩, ⟨⟨trivial, trivial⟩, ⟨⟨trivial, ⟨trivial, trivial⟩⟩, ⟨⟨trivial, ⟨trivial, trivial⟩⟩, ⟨⟨trivial, ⟨trivial, ⟨trivial, trivial⟩⟩⟩, ⟨⟨trivial, ⟨h6, trivial⟩⟩, trivial⟩⟩⟩⟩⟩⟩⟩⟩⟩⟩⟩⟩⟩⟩, ⟨trivial, ⟨⟨⟨trivial, trivial⟩, ⟨⟨trivial, trivial⟩, trivial⟩⟩, ⟨⟨⟨trivial, trivial⟩, ⟨⟨trivial, trivial⟩, trivial⟩⟩, trivial⟩⟩⟩⟩⟩⟩⟩, ⟨trivial, ⟨trivial, ⟨trivial, ⟨trivial, ⟨trivial, ⟨trivial, ⟨trivial, ⟨trivial, ⟨trivial, trivial⟩⟩⟩⟩⟩⟩⟩⟩⟩⟩ hR
theorem gc_0 (q : QZ) (h1 : (decide (24 < iN (gL q.g).length) = false)) {post : Exit → St → Prop} (ht : T Try.prog 0 (.loop (loopC (bodyOf Try.f38) 0)) (St.mk 48 [(0, AV.lst (gL q.g)), (1, AV.lst (boL q.s)), (13, AV.lst (gL q.g)), (14, AV.int IntKind.i64 (iN (gL q.g).length)), (15, AV.int IntKind.i64 0)] []) (TK Try.prog 0 post (loopK (bodyOf Try.f38) 0))) : ∃ o' st' q', go Try.prog ({ dec := [(12, false)], els := e38 q, calls := cZ q, unroll := false } : HT) 0 4000 (.inl (bodyOf Try.f38)) [] (st38 q) = some (o', st', q') ∧ q' ∧ Go.AX.Rest Try.prog 0 post st' o' :=
  endR_spec (σ := []) (fz := []) (vars := [0,1,13,14,15]) (show endR 0 [] [] [0,1,13,14,15] (go Try.prog ({ dec := [(12, false)], els := e38 q, calls := cZ q, unroll := false } : HT) 0 4000 (.inl (bodyOf Try.f38)) [] (st38 q)) = some (loopC (bodyOf Try.f38) 0, loopK (bodyOf Try.f38) 0, St.mk 48 [(0, AV.lst (gL q.g)), (1, AV.lst (boL q.s)), (13, AV.lst (gL q.g)), (14, AV.int IntKind.i64 (iN (gL q.g).length)), (15, AV.int IntKind.i64 0)] [], (((True ∧ True) ∧ (((True ∧ True) ∧ ((True ∧ True) ∧ ((True ∧ True) ∧ True))) ∧ ((type_of% h1) ∧ (((True ∧ True) ∧ ((True ∧ True) ∧ (True ∧ True))) ∧ True)))) ∧ (True ∧ (True ∧ (True ∧ (True ∧ (True ∧ True))))))) by kernel_rfl) ⟨⟨⟨trivial, trivial⟩, ⟨⟨⟨trivial, trivial⟩, ⟨⟨trivial, trivial⟩, ⟨⟨trivial, trivial⟩, trivial⟩⟩⟩, ⟨h1, ⟨⟨⟨trivial, trivial⟩, ⟨⟨trivial, trivial⟩, ⟨trivial, trivial⟩⟩⟩, trivial⟩⟩⟩⟩, ⟨trivial, ⟨trivial, ⟨trivial, ⟨trivial, ⟨trivial, trivial⟩⟩⟩⟩⟩⟩ ht
theorem gcx_0 (q : QZ) (h1 : (decide (iN q.a < iN q.g.length) = false)) (h2 : ((iN (boL q.s).length != iN (gL q.g).length) = false)) : ∃ o' st' q', go2 Try.prog ({ dec := [(16, false), (47, false)], els := e38 q, calls := cZ q, unroll := false } : HT) 0 4000 (loopC (bodyOf Try.f38) 0) (loopK (bodyOf Try.f38) 0) (la38 q) = some (o', st', q') ∧ q' ∧ Go.AX.Rest Try.prog 0 (Fin Try.prog Try.f38 0 [] (AV.int IntKind.i64 0)) st' o' :=
  endF_spec (σ := []) (fz := []) (show endF Try.prog Try.f38 0 [] [] (go2 Try.prog ({ dec := [(16, false), (47, false)], els := e38 q, calls := cZ q, unroll := false } : HT) 0 4000 (loopC (bodyOf Try.f38) 0) (loopK (bodyOf Try.f38) 0) (la38 q)) = some ([], AV.int IntKind.i64 0, (((((True ∧ (True ∧ True)) ∧ True) ∧ ((type_of% h1) ∧ True)) ∧ (((True ∧ True) ∧ ((True ∧ True) ∧ ((True ∧ True) ∧ ((True ∧ True) ∧ ((True ∧ (True ∧ True)) ∧ True))))) ∧ ((type_of% h2) ∧ ((True ∧ True) ∧ True)))) ∧ (True ∧ True))) by kernel_rfl) ⟨⟨⟨⟨⟨trivial, ⟨trivial, trivial⟩⟩, trivial⟩, ⟨h1, trivial⟩⟩, ⟨⟨⟨trivial, trivial⟩, ⟨⟨trivial, trivial⟩, ⟨⟨trivial, trivial⟩, ⟨⟨trivial, trivial⟩, ⟨⟨trivial, ⟨trivial, trivial⟩⟩, trivial⟩⟩⟩⟩⟩, ⟨h2, ⟨⟨trivial, trivial⟩, trivial⟩⟩⟩⟩, ⟨trivial, trivial⟩⟩
theorem gca_0 (q : QZ) (h1 : (decide (iN q.a < iN q.g.length) = true)) (h2 : (0 ≤ iN q.a)) (h3 : ((gL q.g)[(iN q.a).toNat]? = some (AV.lst (List.map (AV.int IntKind.i64) q.r)))) {post : Exit → St → Prop} (ht : T Try.prog 0 (.loop (loopC (loopC (bodyOf Try.f38) 0) 0)) (St.mk 48 [(0, AV.lst (gL q.g)), (1, AV.lst (boL q.s)), (5, AV.int IntKind.i64 (iN q.a)), (7, AV.int IntKind.i64 (-1)), (13, AV.lst (gL q.g)), (14, AV.int IntKind.i64 (iN q.g.length)), (15, AV.int IntKind.i64 (iN q.a)), (20, AV.lst (List.map (AV.int IntKind.i64) q.r)), (21, AV.int IntKind.i64 (iN (List.map (AV.int IntKind.i64) q.r).length)), (22, AV.int IntKind.i64 0)] []) (TK Try.prog 0 post (loopK (loopC (bodyOf Try.f38) 0) 0))) : ∃ o' st' q', go Try.prog ({ dec := [(16, true)], els := e38 q, calls := cZ q, unroll := false } : HT) 0 4000 (.inl (loopC (bodyOf Try.f38) 0)) [] (la38 q) = some (o', st', q') ∧ q' ∧ Go.AX.Rest Try.prog 0 post st' o' :=
  endR_spec (σ := []) (fz := []) (vars := [0,1,5,7,13,14,15,20,21,22]) (show endR 0 [] [] [0,1,5,7,13,14,15,20,21,22] (go Try.prog ({ dec := [(16, true)], els := e38 q, calls := cZ q, unroll := false } : HT) 0 4000 (.inl (loopC (bodyOf Try.f38) 0)) [] (la38 q)) = some (loopC (loopC (bodyOf Try.f38) 0) 0, loopK (loopC (bodyOf Try.f38) 0) 0, St.mk 48 [(0, AV.lst (gL q.g)), (1, AV.lst (boL q.s)), (5, AV.int IntKind.i64 (iN q.a)), (7, AV.int IntKind.i64 (-1)), (13, AV.lst (gL q.g)), (14, AV.int IntKind.i64 (iN q.g.length)), (15, AV.int IntKind.i64 (iN q.a)), (20, AV.lst (List.map (AV.int IntKind.i64) q.r)), (21, AV.int IntKind.i64 (iN (List.map (AV.int IntKind.i64) q.r).length)), (22, AV.int IntKind.i64 0)] [], ((((True ∧ (True ∧ True)) ∧ True) ∧ ((type_of% h1) ∧ (((True ∧ True) ∧ ((True ∧ (True ∧ ((type_of% h2) ∧ (type_of% h3)))) ∧ ((True ∧ True) ∧ ((True ∧ True) ∧ ((True ∧ True) ∧ True))))) ∧ ((True ∧ True) ∧ (((True ∧ True) ∧ ((True ∧ True) ∧ (True ∧ True))) ∧ True))))) ∧ (True ∧ (True ∧ (True ∧ (True ∧ (True ∧ (True ∧ (True ∧ (True ∧ (True ∧ (True ∧ True)))))))))))) by kernel_rfl) ⟨⟨⟨⟨trivial, ⟨trivial, trivial⟩⟩, trivial⟩, ⟨h1, ⟨⟨⟨trivial, trivial⟩, ⟨⟨trivial, ⟨trivial, ⟨h2, h3⟩⟩⟩, ⟨⟨trivial, trivial⟩, ⟨⟨trivial, trivial⟩, ⟨⟨trivial, trivial⟩, trivial⟩⟩⟩⟩⟩, ⟨⟨trivial, trivial⟩, ⟨⟨⟨trivial, trivial⟩, ⟨⟨trivial, trivial⟩, ⟨trivial, trivial⟩⟩⟩, trivial⟩⟩⟩⟩⟩, ⟨trivial, ⟨trivial, ⟨trivial, ⟨trivial, ⟨trivial, ⟨trivial, ⟨trivial, ⟨trivial, ⟨trivial, ⟨trivial, trivial⟩⟩⟩⟩⟩⟩⟩⟩⟩⟩⟩ ht
theorem gcbx_0 (q : QZ) (h1 : (decide (iN q.i < iN q.r.length) = false)) {post : Exit → St → Prop} {R : St → Prop} (hR : ∀ st, Ren 0 st (St.mk 48 [(0, AV.lst (gL q.g)), (1, AV.lst (boL q.s)), (13, AV.lst (gL q.g)), (14, AV.int IntKind.i64 (iN q.g.length)), (15, AV.int IntKind.i64 (IntKind.i64.wrap (iN q.a + 1)))] []) → R st) : ∃ o' st' q', go2 Try.prog ({ dec := [(23, false)], els := e38 q, calls := cZ q, unroll := false } : HT) 0 4000 (loopC (loopC (bodyOf Try.f38) 0) 0) (loopK (loopC (bodyOf Try.f38) 0) 0) (lb38 q) = some (o', st', q') ∧ q' ∧ Go.AX.Rest Try.prog 0 (andThen R post) st' o' :=
  endN_spec (σ := []) (fz := []) (vars := [0,1,13,14,15]) (show endN 0 [] [] [0,1,13,14,15] (go2 Try.prog ({ dec := [(23, false)], els := e38 q, calls := cZ q, unroll := false } : HT) 0 4000 (loopC (loopC (bodyOf Try.f38) 0) 0) (loopK (loopC (bodyOf Try.f38) 0) 0) (lb38 q)) = some (St.mk 48 [(0, AV.lst (gL q.g)), (1, AV.lst (boL q.s)), (13, AV.lst (gL q.g)), (14, AV.int IntKind.i64 (iN q.g.length)), (15, AV.int IntKind.i64 (IntKind.i64.wrap (iN q.a + 1)))] [], (((((True ∧ (True ∧ True)) ∧ True) ∧ ((type_of% h1) ∧ True)) ∧ (((True ∧ True) ∧ ((True ∧ True) ∧ True)) ∧ True)) ∧ (True ∧ (True ∧ (True ∧ (True ∧ (True ∧ True))))))) by kernel_rfl) ⟨⟨⟨⟨⟨trivial, ⟨trivial, trivial⟩⟩, trivial⟩, ⟨h1, trivial⟩⟩, ⟨⟨⟨trivial, trivial⟩, ⟨⟨trivial, trivial⟩, trivial⟩⟩, trivial⟩⟩, ⟨trivial, ⟨trivial, ⟨trivial, ⟨trivial, ⟨trivial, trivial⟩⟩⟩⟩⟩⟩ hR
theorem gcbr_0 (q : QZ) (h1 : (decide (iN q.i < iN q.r.length) = true)) (h2 : (0 ≤ iN q.i)) (h3 : ((List.map (AV.int IntKind.i64) q.r)[(iN q.i).toNat]? = some (AV.int IntKind.i64 (iN q.w)))) (h4 : (decide (iN q.w ≤ q.x) = false)) (h5 : (decide (iN (gL q.g).length ≤ iN q.w) = false)) (h6 : ((iN q.w == iN q.a) = false)) {post : Exit → St → Prop} {R : St → Prop} (hR : ∀ st, Ren 0 st (St.mk 48 [(0, AV.lst (gL q.g)), (1, AV.lst (boL q.s)), (5, AV.int IntKind.i64 (iN q.a)), (7, AV.int IntKind.i64 (iN q.w)), (13, AV.lst (gL q.g)), (14, AV.int IntKind.i64 (iN q.g.length)), (15, AV.int IntKind.i64 (iN q.a)), (20, AV.lst (List.map (AV.int IntKind.i64) q.r)), (21, AV.int IntKind.i64 (iN q.r.length)), (22, AV.int IntKind.i64 (IntKind.i64.wrap (iN q.i + 1)))] []) → R st) : ∃ o' st' q', go Try.prog ({ dec := [(23, true), (28, false), (33, false), (38, false)], els := e38 q, calls := cZ q, unroll := false } : HT) 0 4000 (.inl (loopC (loopC (bodyOf Try.f38) 0) 0)) [] (lb38 q) = some (o', st', q') ∧ q' ∧ Go.AX.Rest Try.prog 0 (andThen R post) st' o' :=
  endN_spec (σ := []) (fz := []) (vars := [0,1,5,7,13,14,15,20,21,22]) (show endN 0 [] [] [0,1,5,7,13,14,15,20,21,22] (go Try.prog ({ dec := [(23, true), (28, false), (33, false), (38, false)], els := e38 q, calls := cZ q, unroll := false } : HT) 0 4000 (.inl (loopC (loopC (bodyOf Try.f38) 0) 0)) [] (lb38 q)) = some (St.mk 48 [(0, AV.lst (gL q.g)), (1, AV.lst (boL q.s)), (5, AV.int IntKind.i64 (iN q.a)), (7, AV.int IntKind.i64 (iN q.w)), (13, AV.lst (gL q.g)), (14, AV.int IntKind.i64 (iN q.g.length)), (15, AV.int IntKind.i64 (iN q.a)), (20, AV.lst (List.map (AV.int IntKind.i64) q.r)), (21, AV.int IntKind.i64 (iN q.r.length)), (22, AV.int IntKind.i64 (IntKind.i64.wrap (iN q.i + 1)))] [], ((((True ∧ (True ∧ True)) ∧ True) ∧ ((type_of% h1) ∧ (((True ∧ (True ∧ ((type_of% h2) ∧ (type_of% h3)))) ∧ ((True ∧ True) ∧ ((True ∧ True) ∧ True))) ∧ (((True ∧ True) ∧ ((True ∧ True) ∧ ((True ∧ (True ∧ True)) ∧ (((type_of% h4) ∧ True) ∧ ((True ∧ (True ∧ True)) ∧ ((True ∧ (True ∧ True)) ∧ ((True ∧ (True ∧ True)) ∧ ((True ∧ (True ∧ (True ∧ True))) ∧ ((True ∧ ((type_of% h5) ∧ True)) ∧ ((True ∧ True) ∧ ((True ∧ (True ∧ True)) ∧ ((True ∧ (True ∧ True)) ∧ ((True ∧ (True ∧ (True ∧ True))) ∧ ((True ∧ ((type_of% h6) ∧ True)) ∧ True)))))))))))))) ∧ (True ∧ (((True ∧ True) ∧ ((True ∧ True) ∧ True)) ∧ (((True ∧ True) ∧ ((True ∧ True) ∧ True)) ∧ True))))))) ∧ (True ∧ (True ∧ (True ∧ (True ∧ (True ∧ (True ∧ (True ∧ (True ∧ (True ∧ (True ∧ True)))))))))))) by kernel_rfl) ⟨⟨⟨⟨trivial, ⟨trivial, trivial⟩⟩, trivial⟩, ⟨h1, ⟨⟨⟨trivial, ⟨trivial, ⟨h2, h3⟩⟩⟩, ⟨⟨trivial, trivial⟩, ⟨⟨trivial, trivial⟩, trivial⟩⟩⟩, ⟨⟨⟨trivial, trivial⟩, ⟨⟨trivial, trivial⟩, ⟨⟨trivial, ⟨trivial, trivial⟩⟩, ⟨⟨h4, trivial⟩, ⟨⟨trivial, ⟨trivial, trivial⟩⟩, ⟨⟨trivial, ⟨trivial, trivial⟩⟩, ⟨⟨trivial, ⟨trivial, trivial⟩⟩, ⟨⟨trivial, ⟨trivial, ⟨trivial, trivial⟩⟩⟩, ⟨⟨trivial, ⟨h5, trivial⟩⟩, ⟨⟨trivial, trivial⟩, ⟨⟨trivial, ⟨trivial, trivial⟩⟩, ⟨⟨trivial, ⟨trivial, trivial⟩⟩, ⟨⟨trivial, ⟨trivial, ⟨trivial, trivial⟩⟩⟩, ⟨⟨trivial, ⟨h6, trivial⟩⟩, trivial⟩⟩⟩⟩⟩⟩⟩⟩⟩⟩⟩⟩⟩⟩, ⟨trivial, ⟨⟨⟨trivial, trivial⟩, ⟨⟨trivial, trivial⟩, trivial⟩⟩, ⟨⟨⟨trivial, trivial⟩, ⟨⟨trivial, trivial⟩, trivial⟩⟩, trivial⟩⟩⟩⟩⟩⟩⟩, ⟨trivial, ⟨trivial, ⟨trivial, ⟨trivial, ⟨trivial, ⟨trivial, ⟨trivial, ⟨trivial, ⟨trivial, ⟨trivial, trivial⟩⟩⟩⟩⟩⟩⟩⟩⟩⟩⟩ hR
theorem rc_0 (q : QZ) (h1 : (CT Try.prog 41 [] [AV.lst (gL q.g)] [] (AV.bool true))) (h2 : ((iN (boL q.s).length != iN (gL q.g).length) = false)) (h3 : (decide (iN (gL q.g).length ≤ iN q.v) = false)) : ∃ o' st' q', go Try.prog ({ dec := [(16, false), (19, false), (25, false)], els := e36 q, calls := cZ q, unroll := false } : HT) 0 4000 (.inl (bodyOf Try.f36)) [] (st36 q) = some (o', st', q') ∧ q' ∧ Go.AX.Rest Try.prog 0 (Fin Try.prog Try.f36 0 [] (AV.int IntKind.i64 0)) st' o' :=
  endF_spec (σ := []) (fz := []) (show endF Try.prog Try.f36 0 [] [] (go Try.prog ({ dec := [(16, false), (19, false), (25, false)], els := e36 q, calls := cZ q, unroll := false } : HT) 0 4000 (.inl (bodyOf Try.f36)) [] (st36 q)) = some ([], AV.int IntKind.i64 0, (((True ∧ True) ∧ (((True ∧ True) ∧ ((True ∧ (True ∧ ((type_of% h1) ∧ True))) ∧ ((True ∧ True) ∧ ((True ∧ True) ∧ True)))) ∧ (True ∧ (((True ∧ True) ∧ ((True ∧ True) ∧ ((True ∧ True) ∧ ((True ∧ True) ∧ ((True ∧ (True ∧ True)) ∧ (((type_of% h2) ∧ True) ∧ ((True ∧ (True ∧ True)) ∧ ((True ∧ (True ∧ True)) ∧ ((True ∧ ((false = false) ∧ True)) ∧ ((True ∧ True) ∧ ((True ∧ (True ∧ True)) ∧ ((True ∧ (True ∧ True)) ∧ ((True ∧ (True ∧ True)) ∧ ((True ∧ (True ∧ (True ∧ True))) ∧ ((True ∧ ((type_of% h3) ∧ True)) ∧ ((True ∧ True) ∧ True)))))))))))))))) ∧ (True ∧ ((True ∧ True) ∧ True)))))) ∧ (True ∧ True))) by kernel_rfl) ⟨⟨⟨trivial, trivial⟩, ⟨⟨⟨trivial, trivial⟩, ⟨⟨trivial, ⟨trivial, ⟨h1, trivial⟩⟩⟩, ⟨⟨trivial, trivial⟩, ⟨⟨trivial, trivial⟩, trivial⟩⟩⟩⟩, ⟨trivial, ⟨⟨⟨trivial, trivial⟩, ⟨⟨trivial, trivial⟩, ⟨⟨trivial, trivial⟩, ⟨⟨trivial, trivial⟩, ⟨⟨trivial, ⟨trivial, trivial⟩⟩, ⟨⟨h2, trivial⟩, ⟨⟨trivial, ⟨trivial, trivial⟩⟩, ⟨⟨trivial, ⟨trivial, trivial⟩⟩, ⟨⟨trivial, ⟨(by first | decide | exact Int.NonNeg.mk _), trivial⟩⟩, ⟨⟨trivial, trivial⟩, ⟨⟨trivial, ⟨trivial, trivial⟩⟩, ⟨⟨trivial, ⟨trivial, trivial⟩⟩, ⟨⟨trivial, ⟨trivial, trivial⟩⟩, ⟨⟨trivial, ⟨trivial, ⟨trivial, trivial⟩⟩⟩, ⟨⟨trivial, ⟨h3, trivial⟩⟩, ⟨⟨trivial, trivial⟩, trivial⟩⟩⟩⟩⟩⟩⟩⟩⟩⟩⟩⟩⟩⟩⟩⟩, ⟨trivial, ⟨⟨trivial, trivial⟩, trivial⟩⟩⟩⟩⟩⟩, ⟨trivial, trivial⟩⟩
theorem fo_0 (q : QZ) (h1 : (0 ≤ iN q.v)) (h2 : ((boL q.s)[(iN q.v).toNat]? = some (AV.bool q.sb))) (h3 : (q.sb = false)) (h4 : (iN q.v < 24)) (h5 : ((0 + (iN q.v).toNat * 1 + 1).le 24)) {post : Exit → St → Prop} (ht : T Try.prog 0 (.loop (loopC (bodyOf Try.f37) 0)) (St.mk 63 [(0, AV.lst (gL q.g)), (1, AV.lst (boL q.s)), (6, AV.ptr 0 0 0), (7, AV.ptr 1 0 0), (8, AV.sl 2 0 1)] [some (Blk.mk [AV.agg [AV.bool false, AV.bool false, AV.bool false, AV.bool false, AV.bool false, AV.bool false, AV.bool false, AV.bool false, AV.bool false, AV.bool false, AV.bool false, AV.bool false, AV.bool false, AV.bool false, AV.bool false, AV.bool false, AV.bool false, AV.bool false, AV.bool false, AV.bool false, AV.bool false, AV.bool false, AV.bool false, AV.bool false]] 24 true true), some (Blk.mk [AV.agg (List.take (0 + (iN q.v).toNat * 1) [AV.bool false, AV.bool false, AV.bool false, AV.bool false, AV.bool false, AV.bool false, AV.bool false, AV.bool false, AV.bool false, AV.bool false, AV.bool false, AV.bool false, AV.bool false, AV.bool false, AV.bool false, AV.bool false, AV.bool false, AV.bool false, AV.bool false, AV.bool false, AV.bool false, AV.bool false, AV.bool false, AV.bool false] ++ [AV.bool true] ++ List.drop (0 + (iN q.v).toNat * 1 + 1) [AV.bool false, AV.bool false, AV.bool false, AV.bool false, AV.bool false, AV.bool false, AV.bool false, AV.bool false, AV.bool false, AV.bool false, AV.bool false, AV.bool false, AV.bool false, AV.bool false, AV.bool false, AV.bool false, AV.bool false, AV.bool false, AV.bool false, AV.bool false, AV.bool false, AV.bool false, AV.bool false, AV.bool false])] 24 true true), some (Blk.mk [AV.int IntKind.i64 (iN q.v)] 1 true true)]) (TK Try.prog 0 post (loopK (bodyOf Try.f37) 0))) : ∃ o' st' q', go Try.prog ({ dec := [(15, false)], els := e37 q, calls := cZ q, unroll := false } : HT) 0 4000 (.inl (bodyOf Try.f37)) [] (st37 q) = some (o', st', q') ∧ q' ∧ Go.AX.Rest Try.prog 0 post st' o' :=
  endR_spec (σ := [0,1,2]) (fz := []) (vars := [0,1,6,7,8]) (show endR 0 [0,1,2] [] [0,1,6,7,8] (go Try.prog ({ dec := [(15, false)], els := e37 q, calls := cZ q, unroll := false } : HT) 0 4000 (.inl (bodyOf Try.f37)) [] (st37 q)) = some (loopC (bodyOf Try.f37) 0, loopK (bodyOf Try.f37) 0, St.mk 63 [(0, AV.lst (gL q.g)), (1, AV.lst (boL q.s)), (6, AV.ptr 0 0 0), (7, AV.ptr 1 0 0), (8, AV.sl 2 0 1)] [some (Blk.mk [AV.agg [AV.bool false, AV.bool false, AV.bool false, AV.bool false, AV.bool false, AV.bool false, AV.bool false, AV.bool false, AV.bool false, AV.bool false, AV.bool false, AV.bool false, AV.bool false, AV.bool false, AV.bool false, AV.bool false, AV.bool false, AV.bool false, AV.bool false, AV.bool false, AV.bool false, AV.bool false, AV.bool false, AV.bool false]] 24 true true), some (Blk.mk [AV.agg (List.take (0 + (iN q.v).toNat * 1) [AV.bool false, AV.bool false, AV.bool false, AV.bool false, AV.bool false, AV.bool false, AV.bool false, AV.bool false, AV.bool false, AV.bool false, AV.bool false, AV.bool false, AV.bool false, AV.bool false, AV.bool false, AV.bool false, AV.bool false, AV.bool false, AV.bool false, AV.bool false, AV.bool false, AV.bool false, AV.bool false, AV.bool false] ++ [AV.bool true] ++ List.drop (0 + (iN q.v).toNat * 1 + 1) [AV.bool false, AV.bool false, AV.bool false, AV.bool false, AV.bool false, AV.bool false, AV.bool false, AV.bool false, AV.bool false, AV.bool false, AV.bool false, AV.bool false, AV.bool false, AV.bool false, AV.bool false, AV.bool false, AV.bool false, AV.bool false, AV.bool false, AV.bool false, AV.bool false, AV.bool false, AV.bool false, AV.bool false])] 24 true true), some (Blk.mk [AV.int IntKind.i64 (iN q.v)] 1 true true)], (((True ∧ True) ∧ ((True ∧ True) ∧ (((True ∧ True) ∧ ((True ∧ True) ∧ ((True ∧ (True ∧ ((type_of% h1) ∧ (type_of% h2)))) ∧ ((True ∧ True) ∧ True)))) ∧ ((type_of% h3) ∧ (((True ∧ True) ∧ ((True ∧ (True ∧ ((type_of% h1) ∧ (type_of% h4)))) ∧ ((True ∧ (type_of% h5)) ∧ True))) ∧ (((True ∧ True) ∧ ((True ∧ True) ∧ ((True ∧ True) ∧ True))) ∧ True)))))) ∧ (True ∧ (True ∧ (True ∧ (True ∧ (True ∧ (True ∧ (True ∧ (True ∧ True)))))))))) by kernel_rfl) ⟨⟨⟨trivial, trivial⟩, ⟨⟨trivial, trivial⟩, ⟨⟨⟨trivial, trivial⟩, ⟨⟨trivial, trivial⟩, ⟨⟨trivial, ⟨trivial, ⟨h1, h2⟩⟩⟩, ⟨⟨trivial, trivial⟩, trivial⟩⟩⟩⟩, ⟨h3, ⟨⟨⟨trivial, trivial⟩, ⟨⟨trivial, ⟨trivial, ⟨h1, h4⟩⟩⟩, ⟨⟨trivial, h5⟩, trivial⟩⟩⟩, ⟨⟨⟨trivial, trivial⟩, ⟨⟨trivial, trivial⟩, ⟨⟨trivial, trivial⟩, trivial⟩⟩⟩, trivial⟩⟩⟩⟩⟩⟩, ⟨trivial, ⟨trivial, ⟨trivial, ⟨trivial, ⟨trivial, ⟨trivial, ⟨trivial, ⟨trivial, trivial⟩⟩⟩⟩⟩⟩⟩⟩⟩ ht
theorem foz_0 (q : QZ) (h1 : (0 ≤ iN q.v)) (h2 : ((boL q.s)[(iN q.v).toNat]? = some (AV.bool q.sb))) (h3 : (q.sb = true)) : ∃ o' st' q', go Try.prog ({ dec := [(15, true)], els := e37 q, calls := cZ q, unroll := false } : HT) 0 4000 (.inl (bodyOf Try.f37)) [] (st37 q) = some (o', st', q') ∧ q' ∧ Go.AX.Rest Try.prog 0 (Fin Try.prog Try.f37 0 [] (AV.agg [AV.bool false, AV.bool false, AV.bool false, AV.bool false, AV.bool false, AV.bool false, AV.bool false, AV.bool false, AV.bool false, AV.bool false, AV.bool false, AV.bool false, AV.bool false, AV.bool false, AV.bool false, AV.bool false, AV.bool false, AV.bool false, AV.bool false, AV.bool false, AV.bool false, AV.bool false, AV.bool false, AV.bool false])) st' o' :=
  endF_spec (σ := []) (fz := []) (show endF Try.prog Try.f37 0 [] [] (go Try.prog ({ dec := [(15, true)], els := e37 q, calls := cZ q, unroll := false } : HT) 0 4000 (.inl (bodyOf Try.f37)) [] (st37 q)) = some ([], AV.agg [AV.bool false, AV.bool false, AV.bool false, AV.bool false, AV.bool false, AV.bool false, AV.bool false, AV.bool false, AV.bool false, AV.bool false, AV.bool false, AV.bool false, AV.bool false, AV.bool false, AV.bool false, AV.bool false, AV.bool false, AV.bool false, AV.bool false, AV.bool false, AV.bool false, AV.bool false, AV.bool false, AV.bool false], (((True ∧ True) ∧ ((True ∧ True) ∧ (((True ∧ True) ∧ ((True ∧ True) ∧ ((True ∧ (True ∧ ((type_of% h1) ∧ (type_of% h2)))) ∧ ((True ∧ True) ∧ True)))) ∧ ((type_of% h3) ∧ (((True ∧ True) ∧ ((True ∧ (True ∧ (Nat.le (nat_lit 1) (nat_lit 1)))) ∧ True)) ∧ True))))) ∧ ((True ∧ (True ∧ (True ∧ (True ∧ (True ∧ (True ∧ (True ∧ (True ∧ (True ∧ (True ∧ (True ∧ (True ∧ (True ∧ (True ∧ (True ∧ (True ∧ (True ∧ (True ∧ (True ∧ (True ∧ (True ∧ (True ∧ (True ∧ (True ∧ True)))))))))))))))))))))))) ∧ True))) by kernel_rfl) ⟨⟨⟨trivial, trivial⟩, ⟨⟨trivial, trivial⟩, ⟨⟨⟨trivial, trivial⟩, ⟨⟨trivial, trivial⟩, ⟨⟨trivial, ⟨trivial, ⟨h1, h2⟩⟩⟩, ⟨⟨trivial, trivial⟩, trivial⟩⟩⟩⟩, ⟨h3, ⟨⟨⟨trivial, trivial⟩, ⟨⟨trivial, ⟨trivial, (by first | exact Nat.le_of_ble_eq_true rfl | decide)⟩⟩, trivial⟩⟩, trivial⟩⟩⟩⟩⟩, ⟨⟨trivial, ⟨trivial, ⟨trivial, ⟨trivial, ⟨trivial, ⟨trivial, ⟨trivial, ⟨trivial, ⟨trivial, ⟨trivial, ⟨trivial, ⟨trivial, ⟨trivial, ⟨trivial, ⟨trivial, ⟨trivial, ⟨trivial, ⟨trivial, ⟨trivial, ⟨trivial, ⟨trivial, ⟨trivial, ⟨trivial, ⟨trivial, trivial⟩⟩⟩⟩⟩⟩⟩⟩⟩⟩⟩⟩⟩⟩⟩⟩⟩⟩⟩⟩⟩⟩⟩⟩, trivial⟩⟩
theorem fox_0 (q : QZ) (h1 : (decide (0 < iN q.k) = false)) : ∃ o' st' q', go2 Try.prog ({ dec := [(23, false)], els := e37 q, calls := cZ q, unroll := false } : HT) 0 4000 (loopC (bodyOf Try.f37) 0) (loopK (bodyOf Try.f37) 0) (lo37 q) = some (o', st', q') ∧ q' ∧ Go.AX.Rest Try.prog 0 (Fin Try.prog Try.f37 0 [] (AV.agg [AV.bool (q.m 0), AV.bool (q.m 1), AV.bool (q.m 2), AV.bool (q.m 3), AV.bool (q.m 4), AV.bool (q.m 5), AV.bool (q.m 6), AV.bool (q.m 7), AV.bool (q.m 8), AV.bool (q.m 9), AV.bool (q.m 10), AV.bool (q.m 11), AV.bool (q.m 12), AV.bool (q.m 13), AV.bool (q.m 14), AV.bool (q.m 15), AV.bool (q.m 16), AV.bool (q.m 17), AV.bool (q.m 18), AV.bool (q.m 19), AV.bool (q.m 20), AV.bool (q.m 21), AV.bool (q.m 22), AV.bool (q.m 23)])) st' o' :=
  endF_spec (σ := []) (fz := []) (show endF Try.prog Try.f37 0 [] [] (go2 Try.prog ({ dec := [(23, false)], els := e37 q, calls := cZ q, unroll := false } : HT) 0 4000 (loopC (bodyOf Try.f37) 0) (loopK (bodyOf Try.f37) 0) (lo37 q)) = some ([], AV.agg [AV.bool (q.m 0), AV.bool (q.m 1), AV.bool (q.m 2), AV.bool (q.m 3), AV.bool (q.m 4), AV.bool (q.m 5), AV.bool (q.m 6), AV.bool (q.m 7), AV.bool (q.m 8), AV.bool (q.m 9), AV.bool (q.m 10), AV.bool (q.m 11), AV.bool (q.m 12), AV.bool (q.m 13), AV.bool (q.m 14), AV.bool (q.m 15), AV.bool (q.m 16), AV.bool (q.m 17), AV.bool (q.m 18), AV.bool (q.m 19), AV.bool (q.m 20), AV.bool (q.m 21), AV.bool (q.m 22), AV.bool (q.m 23)], (((((True ∧ True) ∧ ((True ∧ True) ∧ ((True ∧ True) ∧ True))) ∧ ((type_of% h1) ∧ True)) ∧ (((True ∧ True) ∧ ((True ∧ (True ∧ (Nat.le (nat_lit 1) (nat_lit 1)))) ∧ True)) ∧ True)) ∧ ((True ∧ (True ∧ (True ∧ (True ∧ (True ∧ (True ∧ (True ∧ (True ∧ (True ∧ (True ∧ (True ∧ (True ∧ (True ∧ (True ∧ (True ∧ (True ∧ (True ∧ (True ∧ (True ∧ (True ∧ (True ∧ (True ∧ (True ∧ (True ∧ True)))))))))))))))))))))))) ∧ True))) by kernel_rfl) ⟨⟨⟨⟨⟨trivial, trivial⟩, ⟨⟨trivial, trivial⟩, ⟨⟨trivial, trivial⟩, trivial⟩⟩⟩, ⟨h1, trivial⟩⟩, ⟨⟨⟨trivial, trivial⟩, ⟨⟨trivial, ⟨trivial, (by first | exact Nat.le_of_ble_eq_true rfl | decide)⟩⟩, trivial⟩⟩, trivial⟩⟩, ⟨⟨trivial, ⟨trivial, ⟨trivial, ⟨trivial, ⟨trivial, ⟨trivial, ⟨trivial, ⟨trivial, ⟨trivial, ⟨trivial, ⟨trivial, ⟨trivial, ⟨trivial, ⟨trivial, ⟨trivial, ⟨trivial, ⟨trivial, ⟨trivial, ⟨trivial, ⟨trivial, ⟨trivial, ⟨trivial, ⟨trivial, ⟨trivial, trivial⟩⟩⟩⟩⟩⟩⟩⟩⟩⟩⟩⟩⟩⟩⟩⟩⟩⟩⟩⟩⟩⟩⟩⟩, trivial⟩⟩
theorem fob_0 (q : QZ) (h1 : (decide (0 < iN q.k) = true)) (h2 : (0 ≤ IntKind.i64.wrap (iN q.k - 1))) (h3 : (IntKind.i64.wrap (iN q.k - 1) < iN q.k)) (h4 : ((List.map (AV.int IntKind.i64) q.o)[0 + (IntKind.i64.wrap (iN q.k - 1)).toNat]? = some (AV.int IntKind.i64 (iN q.u)))) (h5 : (IntKind.i64.wrap (iN q.k - 1) ≤ iN q.k)) (h6 : (iN q.k ≤ iN q.k)) (h7 : (0 ≤ iN q.u)) (h8 : ((gL q.g)[(iN q.u).toNat]? = some (AV.lst (List.map (AV.int IntKind.i64) q.r)))) {post : Exit → St → Prop} (ht : T Try.prog 0 (.loop (loopC (loopC (bodyOf Try.f37) 0) 0)) (St.mk 63 [(0, AV.lst (gL q.g)), (1, AV.lst (boL q.s)), (6, AV.ptr 0 0 0), (7, AV.ptr 1 0 0), (8, AV.sl 2 0 ((IntKind.i64.wrap (iN q.k - 1)).toNat - Int.toNat 0)), (38, AV.lst (List.map (AV.int IntKind.i64) q.r)), (39, AV.int IntKind.i64 (iN (List.map (AV.int IntKind.i64) q.r).length)), (40, AV.int IntKind.i64 0)] [some (Blk.mk [AV.agg [AV.bool false, AV.bool false, AV.bool false, AV.bool false, AV.bool false, AV.bool false, AV.bool false, AV.bool false, AV.bool false, AV.bool false, AV.bool false, AV.bool false, AV.bool false, AV.bool false, AV.bool false, AV.bool false, AV.bool false, AV.bool false, AV.bool false, AV.bool false, AV.bool false, AV.bool false, AV.bool false, AV.bool false]] 24 true true), some (Blk.mk [AV.agg [AV.bool (q.m 0), AV.bool (q.m 1), AV.bool (q.m 2), AV.bool (q.m 3), AV.bool (q.m 4), AV.bool (q.m 5), AV.bool (q.m 6), AV.bool (q.m 7), AV.bool (q.m 8), AV.bool (q.m 9), AV.bool (q.m 10), AV.bool (q.m 11), AV.bool (q.m 12), AV.bool (q.m 13), AV.bool (q.m 14), AV.bool (q.m 15), AV.bool (q.m 16), AV.bool (q.m 17), AV.bool (q.m 18), AV.bool (q.m 19), AV.bool (q.m 20), AV.bool (q.m 21), AV.bool (q.m 22), AV.bool (q.m 23)]] 24 true true), some (Blk.mk (List.map (AV.int IntKind.i64) q.o) 1 true true)]) (TK Try.prog 0 post (loopK (loopC (bodyOf Try.f37) 0) 0))) : ∃ o' st' q', go Try.prog ({ dec := [(23, true)], els := e37 q, calls := cZ q, unroll := false } : HT) 0 4000 (.inl (loopC (bodyOf Try.f37) 0)) [] (lo37 q) = some (o', st', q') ∧ q' ∧ Go.AX.Rest Try.prog 0 post st' o' :=
  endR_spec (σ := [0,1,2]) (fz := []) (vars := [0,1,6,7,8,38,39,40]) (show endR 0 [0,1,2] [] [0,1,6,7,8,38,39,40] (go Try.prog ({ dec := [(23, true)], els := e37 q, calls := cZ q, unroll := false } : HT) 0 4000 (.inl (loopC (bodyOf Try.f37) 0)) [] (lo37 q)) = some (loopC (loopC (bodyOf Try.f37) 0) 0, loopK (loopC (bodyOf Try.f37) 0) 0, St.mk 63 [(0, AV.lst (gL q.g)), (1, AV.lst (boL q.s)), (6, AV.ptr 0 0 0), (7, AV.ptr 1 0 0), (8, AV.sl 2 0 ((IntKind.i64.wrap (iN q.k - 1)).toNat - Int.toNat 0)), (38, AV.lst (List.map (AV.int IntKind.i64) q.r)), (39, AV.int IntKind.i64 (iN (List.map (AV.int IntKind.i64) q.r).length)), (40, AV.int IntKind.i64 0)] [some (Blk.mk [AV.agg [AV.bool false, AV.bool false, AV.bool false, AV.bool false, AV.bool false, AV.bool false, AV.bool false, AV.bool false, AV.bool false, AV.bool false, AV.bool false, AV.bool false, AV.bool false, AV.bool false, AV.bool false, AV.bool false, AV.bool false, AV.bool false, AV.bool false, AV.bool false, AV.bool false, AV.bool false, AV.bool false, AV.bool false]] 24 true true), some (Blk.mk [AV.agg [AV.bool (q.m 0), AV.bool (q.m 1), AV.bool (q.m 2), AV.bool (q.m 3), AV.bool (q.m 4), AV.bool (q.m 5), AV.bool (q.m 6), AV.bool (q.m 7), AV.bool (q.m 8), AV.bool (q.m 9), AV.bool (q.m 10), AV.bool (q.m 11), AV.bool (q.m 12), AV.bool (q.m 13), AV.bool (q.m 14), AV.bool (q.m 15), AV.bool (q.m 16), AV.bool (q.m 17), AV.bool (q.m 18), AV.bool (q.m 19), AV.bool (q.m 20), AV.bool (q.m 21), AV.bool (q.m 22), AV.bool (q.m 23)]] 24 true true), some (Blk.mk (List.map (AV.int IntKind.i64) q.o) 1 true true)], ((((True ∧ True) ∧ ((True ∧ True) ∧ ((True ∧ True) ∧ True))) ∧ ((type_of% h1) ∧ (((True ∧ True) ∧ ((True ∧ True) ∧ ((True ∧ True) ∧ ((True ∧ True) ∧ ((True ∧ (True ∧ ((type_of% h2) ∧ (type_of% h3)))) ∧ ((True ∧ (type_of% h4)) ∧ ((True ∧ True) ∧ True))))))) ∧ (((True ∧ True) ∧ ((True ∧ True) ∧ ((True ∧ True) ∧ ((True ∧ True) ∧ ((True ∧ (True ∧ (((0 : Int) ≤ (0 : Int)) ∧ ((type_of% h2) ∧ ((type_of% h5) ∧ (type_of% h6)))))) ∧ ((True ∧ True) ∧ True)))))) ∧ (((True ∧ True) ∧ ((True ∧ True) ∧ ((True ∧ (True ∧ ((type_of% h7) ∧ (type_of% h8)))) ∧ ((True ∧ True) ∧ ((True ∧ True) ∧ (True ∧ True)))))) ∧ True))))) ∧ (True ∧ (True ∧ (True ∧ (True ∧ (True ∧ (True ∧ (True ∧ (True ∧ (True ∧ (True ∧ (True ∧ True))))))))))))) by kernel_rfl) ⟨⟨⟨⟨trivial, trivial⟩, ⟨⟨trivial, trivial⟩, ⟨⟨trivial, trivial⟩, trivial⟩⟩⟩, ⟨h1, ⟨⟨⟨trivial, trivial⟩, ⟨⟨trivial, trivial⟩, ⟨⟨trivial, trivial⟩, ⟨⟨trivial, trivial⟩, ⟨⟨trivial, ⟨trivial, ⟨h2, h3⟩⟩⟩, ⟨⟨trivial, h4⟩, ⟨⟨trivial, trivial⟩, trivial⟩⟩⟩⟩⟩⟩⟩, ⟨⟨⟨trivial, trivial⟩, ⟨⟨trivial, trivial⟩, ⟨⟨trivial, trivial⟩, ⟨⟨trivial, trivial⟩, ⟨⟨trivial, ⟨trivial, ⟨(by first | exact Nat.le_of_ble_eq_true rfl | decide), ⟨h2, ⟨h5, h6⟩⟩⟩⟩⟩, ⟨⟨trivial, trivial⟩, trivial⟩⟩⟩⟩⟩⟩, ⟨⟨⟨trivial, trivial⟩, ⟨⟨trivial, trivial⟩, ⟨⟨trivial, ⟨trivial, ⟨h7, h8⟩⟩⟩, ⟨⟨trivial, trivial⟩, ⟨⟨trivial, trivial⟩, ⟨trivial, trivial⟩⟩⟩⟩⟩⟩, trivial⟩⟩⟩⟩⟩, ⟨trivial, ⟨trivial, ⟨trivial, ⟨trivial, ⟨trivial, ⟨trivial, ⟨trivial, ⟨trivial, ⟨trivial, ⟨trivial, ⟨trivial, trivial⟩⟩⟩⟩⟩⟩⟩⟩⟩⟩⟩⟩ ht
theorem fix_0 (q : QZ) (h1 : (decide (iN q.i < iN q.r.length) = false)) {post : Exit → St → Prop} {R : St → Prop} (hR : ∀ st, Ren 0 st (St.mk 63 [(0, AV.lst (gL q.g)), (1, AV.lst (boL q.s)), (6, AV.ptr 0 0 0), (7, AV.ptr 1 0 0), (8, AV.sl 2 0 q.k)] [some (Blk.mk [AV.agg [AV.bool false, AV.bool false, AV.bool false, AV.bool false, AV.bool false, AV.bool false, AV.bool false, AV.bool false, AV.bool false, AV.bool false, AV.bool false, AV.bool false, AV.bool false, AV.bool false, AV.bool false, AV.bool false, AV.bool false, AV.bool false, AV.bool false, AV.bool false, AV.bool false, AV.bool false, AV.bool false, AV.bool false]] 24 true true), some (Blk.mk [AV.agg [AV.bool (q.m 0), AV.bool (q.m 1), AV.bool (q.m 2), AV.bool (q.m 3), AV.bool (q.m 4), AV.bool (q.m 5), AV.bool (q.m 6), AV.bool (q.m 7), AV.bool (q.m 8), AV.bool (q.m 9), AV.bool (q.m 10), AV.bool (q.m 11), AV.bool (q.m 12), AV.bool (q.m 13), AV.bool (q.m 14), AV.bool (q.m 15), AV.bool (q.m 16), AV.bool (q.m 17), AV.bool (q.m 18), AV.bool (q.m 19), AV.bool (q.m 20), AV.bool (q.m 21), AV.bool (q.m 22), AV.bool (q.m 23)]] 24 true true), some (Blk.mk (List.map (AV.int IntKind.i64) q.o) 1 true true)]) → R st) : ∃ o' st' q', go2 Try.prog ({ dec := [(41, false)], els := e37 q, calls := cZ q, unroll := false } : HT) 0 4000 (loopC (loopC (bodyOf Try.f37) 0) 0) (loopK (loopC (bodyOf Try.f37) 0) 0) (li37 q) = some (o', st', q') ∧ q' ∧ Go.AX.Rest Try.prog 0 (andThen R post) st' o' :=
  endN_spec (σ := [0,1,2]) (fz := []) (vars := [0,1,6,7,8]) (show endN 0 [0,1,2] [] [0,1,6,7,8] (go2 Try.prog ({ dec := [(41, false)], els := e37 q, calls := cZ q, unroll := false } : HT) 0 4000 (loopC (loopC (bodyOf Try.f37) 0) 0) (loopK (loopC (bodyOf Try.f37) 0) 0) (li37 q)) = some (St.mk 63 [(0, AV.lst (gL q.g)), (1, AV.lst (boL q.s)), (6, AV.ptr 0 0 0), (7, AV.ptr 1 0 0), (8, AV.sl 2 0 q.k)] [some (Blk.mk [AV.agg [AV.bool false, AV.bool false, AV.bool false, AV.bool false, AV.bool false, AV.bool false, AV.bool false, AV.bool false, AV.bool false, AV.bool false, AV.bool false, AV.bool false, AV.bool false, AV.bool false, AV.bool false, AV.bool false, AV.bool false, AV.bool false, AV.bool false, AV.bool false, AV.bool false, AV.bool false, AV.bool false, AV.bool false]] 24 true true), some (Blk.mk [AV.agg [AV.bool (q.m 0), AV.bool (q.m 1), AV.bool (q.m 2), AV.bool (q.m 3), AV.bool (q.m 4), AV.bool (q.m 5), AV.bool (q.m 6), AV.bool (q.m 7), AV.bool (q.m 8), AV.bool (q.m 9), AV.bool (q.m 10), AV.bool (q.m 11), AV.bool (q.m 12), AV.bool (q.m 13), AV.bool (q.m 14), AV.bool (q.m 15), AV.bool (q.m 16), AV.bool (q.m 17), AV.bool (q.m 18), AV.bool (q.m 19), AV.bool (q.m 20), AV.bool (q.m 21), AV.bool (q.m 22), AV.bool (q.m 23)]] 24 true true), some (Blk.mk (List.map (AV.int IntKind.i64) q.o) 1 true true)], (((((True ∧ (True ∧ True)) ∧ True) ∧ ((type_of% h1) ∧ True)) ∧ True) ∧ (True ∧ (True ∧ (True ∧ (True ∧ (True ∧ (True ∧ (True ∧ (True ∧ True)))))))))) by kernel_rfl) ⟨⟨⟨⟨⟨trivial, ⟨trivial, trivial⟩⟩, trivial⟩, ⟨h1, trivial⟩⟩, trivial⟩, ⟨trivial, ⟨trivial, ⟨trivial, ⟨trivial, ⟨trivial, ⟨trivial, ⟨trivial, ⟨trivial, trivial⟩⟩⟩⟩⟩⟩⟩⟩⟩ hR
theorem fin_0 (q : QZ) (h1 : (decide (iN q.i < iN q.r.length) = true)) (h2 : (0 ≤ iN q.i)) (h3 : ((List.map (AV.int IntKind.i64) q.r)[(iN q.i).toNat]? = some (AV.int IntKind.i64 (iN q.w)))) (h4 : (0 ≤ iN q.w)) (h5 : ((boL q.s)[(iN q.w).toNat]? = some (AV.bool q.sb))) (h6 : ((!q.sb) = true)) (h7 : (iN q.w < 24)) (h8 : ([AV.bool (q.m 0), AV.bool (q.m 1), AV.bool (q.m 2), AV.bool (q.m 3), AV.bool (q.m 4), AV.bool (q.m 5), AV.bool (q.m 6), AV.bool (q.m 7), AV.bool (q.m 8), AV.bool (q.m 9), AV.bool (q.m 10), AV.bool (q.m 11), AV.bool (q.m 12), AV.bool (q.m 13), AV.bool (q.m 14), AV.bool (q.m 15), AV.bool (q.m 16), AV.bool (q.m 17), AV.bool (q.m 18), AV.bool (q.m 19), AV.bool (q.m 20), AV.bool (q.m 21), AV.bool (q.m 22), AV.bool (q.m 23)][0 + (iN q.w).toNat * 1]? = some (AV.bool q.mb))) (h9 : ((!q.mb) = true)) (h10 : ((0 + (iN q.w).toNat * 1 + 1).le 24)) (h11 : ((List.map (AV.int IntKind.i64) q.o).length = q.k)) (h12 : (1 ≤ [AV.int IntKind.i64 (iN q.w)].length)) (h13 : ((List.map (AV.int IntKind.i64) q.o).length + [AV.int IntKind.i64 (iN q.w)].length ≤ 9223372036854775807)) (h14 : (((List.map (AV.int IntKind.i64) q.o).length + [AV.int IntKind.i64 (iN q.w)].length) * 8 ≤ 140737488355328)) {post : Exit → St → Prop} {R : St → Prop} (hR : ∀ st, Ren 0 st (St.mk 63 [(0, AV.lst (gL q.g)), (1, AV.lst (boL q.s)), (6, AV.ptr 0 0 0), (7, AV.ptr 1 0 0), (8, AV.sl 2 0 ((List.map (AV.int IntKind.i64) q.o).length + [AV.int IntKind.i64 (iN q.w)].length)), (38, AV.lst (List.map (AV.int IntKind.i64) q.r)), (39, AV.int IntKind.i64 (iN q.r.length)), (40, AV.int IntKind.i64 (IntKind.i64.wrap (iN q.i + 1)))] [some (Blk.mk [AV.agg [AV.bool false, AV.bool false, AV.bool false, AV.bool false, AV.bool false, AV.bool false, AV.bool false, AV.bool false, AV.bool false, AV.bool false, AV.bool false, AV.bool false, AV.bool false, AV.bool false, AV.bool false, AV.bool false, AV.bool false, AV.bool false, AV.bool false, AV.bool false, AV.bool false, AV.bool false, AV.bool false, AV.bool false]] 24 true true), some (Blk.mk [AV.agg (List.take (0 + (iN q.w).toNat * 1) [AV.bool (q.m 0), AV.bool (q.m 1), AV.bool (q.m 2), AV.bool (q.m 3), AV.bool (q.m 4), AV.bool (q.m 5), AV.bool (q.m 6), AV.bool (q.m 7), AV.bool (q.m 8), AV.bool (q.m 9), AV.bool (q.m 10), AV.bool (q.m 11), AV.bool (q.m 12), AV.bool (q.m 13), AV.bool (q.m 14), AV.bool (q.m 15), AV.bool (q.m 16), AV.bool (q.m 17), AV.bool (q.m 18), AV.bool (q.m 19), AV.bool (q.m 20), AV.bool (q.m 21), AV.bool (q.m 22), AV.bool (q.m 23)] ++ [AV.bool true] ++ List.drop (0 + (iN q.w).toNat * 1 + 1) [AV.bool (q.m 0), AV.bool (q.m 1), AV.bool (q.m 2), AV.bool (q.m 3), AV.bool (q.m 4), AV.bool (q.m 5), AV.bool (q.m 6), AV.bool (q.m 7), AV.bool (q.m 8), AV.bool (q.m 9), AV.bool (q.m 10), AV.bool (q.m 11), AV.bool (q.m 12), AV.bool (q.m 13), AV.bool (q.m 14), AV.bool (q.m 15), AV.bool (q.m 16), AV.bool (q.m 17), AV.bool (q.m 18), AV.bool (q.m 19), AV.bool (q.m 20), AV.bool (q.m 21), AV.bool (q.m 22), AV.bool (q.m 23)])] 24 true true), some (Blk.mk (List.map (AV.int IntKind.i64) q.o ++ [AV.int IntKind.i64 (iN q.w)]) 1 true true)]) → R st) : ∃ o' st' q', go Try.prog ({ dec := [(41, true), (48, true), (53, true)], els := e37 q, calls := cZ q, unroll := false } : HT) 0 4000 (.inl (loopC (loopC (bodyOf Try.f37) 0) 0)) [] (li37 q) = some (o', st', q') ∧ q' ∧ Go.AX.Rest Try.prog 0 (andThen R post) st' o' :=
  endN_spec (σ := [0,1,4]) (fz := []) (vars := [0,1,6,7,8,38,39,40]) (show endN 0 [0,1,4] [] [0,1,6,7,8,38,39,40] (go Try.prog ({ dec := [(41, true), (48, true), (53, true)], els := e37 q, calls := cZ q, unroll := false } : HT) 0 4000 (.inl (loopC (loopC (bodyOf Try.f37) 0) 0)) [] (li37 q)) = some (St.mk 63 [(0, AV.lst (gL q.g)), (1, AV.lst (boL q.s)), (6, AV.ptr 0 0 0), (7, AV.ptr 1 0 0), (8, AV.sl 2 0 ((List.map (AV.int IntKind.i64) q.o).length + [AV.int IntKind.i64 (iN q.w)].length)), (38, AV.lst (List.map (AV.int IntKind.i64) q.r)), (39, AV.int IntKind.i64 (iN q.r.length)), (40, AV.int IntKind.i64 (IntKind.i64.wrap (iN q.i + 1)))] [some (Blk.mk [AV.agg [AV.bool false, AV.bool false, AV.bool false, AV.bool false, AV.bool false, AV.bool false, AV.bool false, AV.bool false, AV.bool false, AV.bool false, AV.bool false, AV.bool false, AV.bool false, AV.bool false, AV.bool false, AV.bool false, AV.bool false, AV.bool false, AV.bool false, AV.bool false, AV.bool false, AV.bool false, AV.bool false, AV.bool false]] 24 true true), some (Blk.mk [AV.agg (List.take (0 + (iN q.w).toNat * 1) [AV.bool (q.m 0), AV.bool (q.m 1), AV.bool (q.m 2), AV.bool (q.m 3), AV.bool (q.m 4), AV.bool (q.m 5), AV.bool (q.m 6), AV.bool (q.m 7), AV.bool (q.m 8), AV.bool (q.m 9), AV.bool (q.m 10), AV.bool (q.m 11), AV.bool (q.m 12), AV.bool (q.m 13), AV.bool (q.m 14), AV.bool (q.m 15), AV.bool (q.m 16), AV.bool (q.m 17), AV.bool (q.m 18), AV.bool (q.m 19), AV.bool (q.m 20), AV.bool (q.m 21), AV.bool (q.m 22), AV.bool (q.m 23)] ++ [AV.bool true] ++ List.drop (0 + (iN q.w).toNat * 1 + 1) [AV.bool (q.m 0), AV.bool (q.m 1), AV.bool (q.m 2), AV.bool (q.m 3), AV.bool (q.m 4), AV.bool (q.m 5), AV.bool (q.m 6), AV.bool (q.m 7), AV.bool (q.m 8), AV.bool (q.m 9), AV.bool (q.m 10), AV.bool (q.m 11), AV.bool (q.m 12), AV.bool (q.m 13), AV.bool (q.m 14), AV.bool (q.m 15), AV.bool (q.m 16), AV.bool (q.m 17), AV.bool (q.m 18), AV.bool (q.m 19), AV.bool (q.m 20), AV.bool (q.m 21), AV.bool (q.m 22), AV.bool (q.m 23)])] 24 true true), some (Blk.mk (List.map (AV.int IntKind.i64) q.o ++ [AV.int IntKind.i64 (iN q.w)]) 1 true true)], ((((True ∧ (True ∧ True)) ∧ True) ∧ ((type_of% h1) ∧ (((True ∧ (True ∧ ((type_of% h2) ∧ (type_of% h3)))) ∧ ((True ∧ True) ∧ ((True ∧ True) ∧ True))) ∧ (((True ∧ True) ∧ ((True ∧ True) ∧ ((True ∧ (True ∧ ((type_of% h4) ∧ (type_of% h5)))) ∧ ((True ∧ True) ∧ ((True ∧ True) ∧ (((type_of% h6) ∧ True) ∧ ((True ∧ (True ∧ True)) ∧ ((True ∧ (True ∧ (True ∧ ((type_of% h4) ∧ (type_of% h7))))) ∧ ((True ∧ (True ∧ (type_of% h8))) ∧ ((True ∧ (True ∧ True)) ∧ ((True ∧ ((type_of% h9) ∧ True)) ∧ True))))))))))) ∧ (True ∧ (((True ∧ True) ∧ ((True ∧ (True ∧ ((type_of% h4) ∧ (type_of% h7)))) ∧ ((True ∧ (type_of% h10)) ∧ True))) ∧ (((True ∧ True) ∧ ((True ∧ True) ∧ ((True ∧ True) ∧ ((True ∧ (True ∧ ((type_of% h11) ∧ (((nat_lit 1 = nat_lit 1) ∧ (type_of% h12)) ∧ ((type_of% h13) ∧ (type_of% h14)))))) ∧ ((True ∧ True) ∧ True))))) ∧ (((True ∧ True) ∧ ((True ∧ True) ∧ True)) ∧ True)))))))) ∧ (True ∧ (True ∧ (True ∧ (True ∧ (True ∧ (True ∧ (True ∧ (True ∧ (True ∧ (True ∧ (True ∧ True))))))))))))) by kernel_rfl) ⟨⟨⟨⟨trivial, ⟨trivial, trivial⟩⟩, trivial⟩, ⟨h1, ⟨⟨⟨trivial, ⟨trivial, ⟨h2, h3⟩⟩⟩, ⟨⟨trivial, trivial⟩, ⟨⟨trivial, trivial⟩, trivial⟩⟩⟩, ⟨⟨⟨trivial, trivial⟩, ⟨⟨trivial, trivial⟩, ⟨⟨trivial, ⟨trivial, ⟨h4, h5⟩⟩⟩, ⟨⟨trivial, trivial⟩, ⟨⟨trivial, trivial⟩, ⟨⟨h6, trivial⟩, ⟨⟨trivial, ⟨trivial, trivial⟩⟩, ⟨⟨trivial, ⟨trivial, ⟨trivial, ⟨h4, h7⟩⟩⟩⟩, ⟨⟨trivial, ⟨trivial, h8⟩⟩, ⟨⟨trivial, ⟨trivial, trivial⟩⟩, ⟨⟨trivial, ⟨h9, trivial⟩⟩, trivial⟩⟩⟩⟩⟩⟩⟩⟩⟩⟩⟩, ⟨trivial, ⟨⟨⟨trivial, trivial⟩, ⟨⟨trivial, ⟨trivial, ⟨h4, h7⟩⟩⟩, ⟨⟨trivial, h10⟩, trivial⟩⟩⟩, ⟨⟨⟨trivial, trivial⟩, ⟨⟨trivial, trivial⟩, ⟨⟨trivial, trivial⟩, ⟨⟨trivial, ⟨trivial, ⟨h11, ⟨⟨(by first | decide | exact Int.NonNeg.mk _), h12⟩, ⟨h13, h14⟩⟩⟩⟩⟩, ⟨⟨trivial, trivial⟩, trivial⟩⟩⟩⟩⟩, ⟨⟨⟨trivial, trivial⟩, ⟨⟨trivial, trivial⟩, trivial⟩⟩, trivial⟩⟩⟩⟩⟩⟩⟩⟩, ⟨trivial, ⟨trivial, ⟨trivial, ⟨trivial, ⟨trivial, ⟨trivial, ⟨trivial, ⟨trivial, ⟨trivial, ⟨trivial, ⟨trivial, trivial⟩⟩⟩⟩⟩⟩⟩⟩⟩⟩⟩⟩ hR
theorem fim_0 (q : QZ) (h1 : (decide (iN q.i < iN q.r.length) = true)) (h2 : (0 ≤ iN q.i)) (h3 : ((List.map (AV.int IntKind.i64) q.r)[(iN q.i).toNat]? = some (AV.int IntKind.i64 (iN q.w)))) (h4 : (0 ≤ iN q.w)) (h5 : ((boL q.s)[(iN q.w).toNat]? = some (AV.bool q.sb))) (h6 : ((!q.sb) = true)) (h7 : (iN q.w < 24)) (h8 : ([AV.bool (q.m 0), AV.bool (q.m 1), AV.bool (q.m 2), AV.bool (q.m 3), AV.bool (q.m 4), AV.bool (q.m 5), AV.bool (q.m 6), AV.bool (q.m 7), AV.bool (q.m 8), AV.bool (q.m 9), AV.bool (q.m 10), AV.bool (q.m 11), AV.bool (q.m 12), AV.bool (q.m 13), AV.bool (q.m 14), AV.bool (q.m 15), AV.bool (q.m 16), AV.bool (q.m 17), AV.bool (q.m 18), AV.bool (q.m 19), AV.bool (q.m 20), AV.bool (q.m 21), AV.bool (q.m 22), AV.bool (q.m 23)][0 + (iN q.w).toNat * 1]? = some (AV.bool q.mb))) (h9 : ((!q.mb) = false)) {post : Exit → St → Prop} {R : St → Prop} (hR : ∀ st, Ren 0 st (St.mk 63 [(0, AV.lst (gL q.g)), (1, AV.lst (boL q.s)), (6, AV.ptr 0 0 0), (7, AV.ptr 1 0 0), (8, AV.sl 2 0 q.k), (38, AV.lst (List.map (AV.int IntKind.i64) q.r)), (39, AV.int IntKind.i64 (iN q.r.length)), (40, AV.int IntKind.i64 (IntKind.i64.wrap (iN q.i + 1)))] [some (Blk.mk [AV.agg [AV.bool false, AV.bool false, AV.bool false, AV.bool false, AV.bool false, AV.bool false, AV.bool false, AV.bool false, AV.bool false, AV.bool false, AV.bool false, AV.bool false, AV.bool false, AV.bool false, AV.bool false, AV.bool false, AV.bool false, AV.bool false, AV.bool false, AV.bool false, AV.bool false, AV.bool false, AV.bool false, AV.bool false]] 24 true true), some (Blk.mk [AV.agg [AV.bool (q.m 0), AV.bool (q.m 1), AV.bool (q.m 2), AV.bool (q.m 3), AV.bool (q.m 4), AV.bool (q.m 5), AV.bool (q.m 6), AV.bool (q.m 7), AV.bool (q.m 8), AV.bool (q.m 9), AV.bool (q.m 10), AV.bool (q.m 11), AV.bool (q.m 12), AV.bool (q.m 13), AV.bool (q.m 14), AV.bool (q.m 15), AV.bool (q.m 16), AV.bool (q.m 17), AV.bool (q.m 18), AV.bool (q.m 19), AV.bool (q.m 20), AV.bool (q.m 21), AV.bool (q.m 22), AV.bool (q.m 23)]] 24 true true), some (Blk.mk (List.map (AV.int IntKind.i64) q.o) 1 true true)]) → R st) : ∃ o' st' q', go Try.prog ({ dec := [(41, true), (48, true), (53, false)], els := e37 q, calls := cZ q, unroll := false } : HT) 0 4000 (.inl (loopC (loopC (bodyOf Try.f37) 0) 0)) [] (li37 q) = some (o', st', q') ∧ q' ∧ Go.AX.Rest Try.prog 0 (andThen R post) st' o' :=
  endN_spec (σ := [0,1,2]) (fz := []) (vars := [0,1,6,7,8,38,39,40]) (show endN 0 [0,1,2] [] [0,1,6,7,8,38,39,40] (go Try.prog ({ dec := [(41, true), (48, true), (53, false)], els := e37 q, calls := cZ q, unroll := false } : HT) 0 4000 (.inl (loopC (loopC (bodyOf Try.f37) 0) 0)) [] (li37 q)) = some (St.mk 63 [(0, AV.lst (gL q.g)), (1, AV.lst (boL q.s)), (6, AV.ptr 0 0 0), (7, AV.ptr 1 0 0), (8, AV.sl 2 0 q.k), (38, AV.lst (List.map (AV.int IntKind.i64) q.r)), (39, AV.int IntKind.i64 (iN q.r.length)), (40, AV.int IntKind.i64 (IntKind.i64.wrap (iN q.i + 1)))] [some (Blk.mk [AV.agg [AV.bool false, AV.bool false, AV.bool false, AV.bool false, AV.bool false, AV.bool false, AV.bool false, AV.bool false, AV.bool false, AV.bool false, AV.bool false, AV.bool false, AV.bool false, AV.bool false, AV.bool false, AV.bool false, AV.bool false, AV.bool false, AV.bool false, AV.bool false, AV.bool false, AV.bool false, AV.bool false, AV.bool false]] 24 true true), some (Blk.mk [AV.agg [AV.bool (q.m 0), AV.bool (q.m 1), AV.bool (q.m 2), AV.bool (q.m 3), AV.bool (q.m 4), AV.bool (q.m 5), AV.bool (q.m 6), AV.bool (q.m 7), AV.bool (q.m 8), AV.bool (q.m 9), AV.bool (q.m 10), AV.bool (q.m 11), AV.bool (q.m 12), AV.bool (q.m 13), AV.bool (q.m 14), AV.bool (q.m 15), AV.bool (q.m 16), AV.bool (q.m 17), AV.bool (q.m 18), AV.bool (q.m 19), AV.bool (q.m 20), AV.bool (q.m 21), AV.bool (q.m 22), AV.bool (q.m 23)]] 24 true true), some (Blk.mk (List.map (AV.int IntKind.i64) q.o) 1 true true)], ((((True ∧ (True ∧ True)) ∧ True) ∧ ((type_of% h1) ∧ (((True ∧ (True ∧ ((type_of% h2) ∧ (type_of% h3)))) ∧ ((True ∧ True) ∧ ((True ∧ True) ∧ True))) ∧ (((True ∧ True) ∧ ((True ∧ True) ∧ ((True ∧ (True ∧ ((type_of% h4) ∧ (type_of% h5)))) ∧ ((True ∧ True) ∧ ((True ∧ True) ∧ (((type_of% h6) ∧ True) ∧ ((True ∧ (True ∧ True)) ∧ ((True ∧ (True ∧ (True ∧ ((type_of% h4) ∧ (type_of% h7))))) ∧ ((True ∧ (True ∧ (type_of% h8))) ∧ ((True ∧ (True ∧ True)) ∧ ((True ∧ ((type_of% h9) ∧ True)) ∧ True))))))))))) ∧ (True ∧ (((True ∧ True) ∧ ((True ∧ True) ∧ True)) ∧ True)))))) ∧ (True ∧ (True ∧ (True ∧ (True ∧ (True ∧ (True ∧ (True ∧ (True ∧ (True ∧ (True ∧ (True ∧ True))))))))))))) by kernel_rfl) ⟨⟨⟨⟨trivial, ⟨trivial, trivial⟩⟩, trivial⟩, ⟨h1, ⟨⟨⟨trivial, ⟨trivial, ⟨h2, h3⟩⟩⟩, ⟨⟨trivial, trivial⟩, ⟨⟨trivial, trivial⟩, trivial⟩⟩⟩, ⟨⟨⟨trivial, trivial⟩, ⟨⟨trivial, trivial⟩, ⟨⟨trivial, ⟨trivial, ⟨h4, h5⟩⟩⟩, ⟨⟨trivial, trivial⟩, ⟨⟨trivial, trivial⟩, ⟨⟨h6, trivial⟩, ⟨⟨trivial, ⟨trivial, trivial⟩⟩, ⟨⟨trivial, ⟨trivial, ⟨trivial, ⟨h4, h7⟩⟩⟩⟩, ⟨⟨trivial, ⟨trivial, h8⟩⟩, ⟨⟨trivial, ⟨trivial, trivial⟩⟩, ⟨⟨trivial, ⟨h9, trivial⟩⟩, trivial⟩⟩⟩⟩⟩⟩⟩⟩⟩⟩⟩, ⟨trivial, ⟨⟨⟨trivial, trivial⟩, ⟨⟨trivial, trivial⟩, trivial⟩⟩, trivial⟩⟩⟩⟩⟩⟩, ⟨trivial, ⟨trivial, ⟨trivial, ⟨trivial, ⟨trivial, ⟨trivial, ⟨trivial, ⟨trivial, ⟨trivial, ⟨trivial, ⟨trivial, trivial⟩⟩⟩⟩⟩⟩⟩⟩⟩⟩⟩⟩ hR
theorem fis_0 (q : QZ) (h1 : (decide (iN q.i < iN q.r.length) = true)) (h2 : (0 ≤ iN q.i)) (h3 : ((List.map (AV.int IntKind.i64) q.r)[(iN q.i).toNat]? = some (AV.int IntKind.i64 (iN q.w)))) (h4 : (0 ≤ iN q.w)) (h5 : ((boL q.s)[(iN q.w).toNat]? = some (AV.bool q.sb))) (h6 : ((!q.sb) = false)) {post : Exit → St → Prop} {R : St → Prop} (hR : ∀ st, Ren 0 st (St.mk 63 [(0, AV.lst (gL q.g)), (1, AV.lst (boL q.s)), (6, AV.ptr 0 0 0), (7, AV.ptr 1 0 0), (8, AV.sl 2 0 q.k), (38, AV.lst (List.map (AV.int IntKind.i64) q.r)), (39, AV.int IntKind.i64 (iN q.r.length)), (40, AV.int IntKind.i64 (IntKind.i64.wrap (iN q.i + 1)))] [some (Blk.mk [AV.agg [AV.bool false, AV.bool false, AV.bool false, AV.bool false, AV.bool false, AV.bool false, AV.bool false, AV.bool false, AV.bool false, AV.bool false, AV.bool false, AV.bool false, AV.bool false, AV.bool false, AV.bool false, AV.bool false, AV.bool false, AV.bool false, AV.bool false, AV.bool false, AV.bool false, AV.bool false, AV.bool false, AV.bool false]] 24 true true), some (Blk.mk [AV.agg [AV.bool (q.m 0), AV.bool (q.m 1), AV.bool (q.m 2), AV.bool (q.m 3), AV.bool (q.m 4), AV.bool (q.m 5), AV.bool (q.m 6), AV.bool (q.m 7), AV.bool (q.m 8), AV.bool (q.m 9), AV.bool (q.m 10), AV.bool (q.m 11), AV.bool (q.m 12), AV.bool (q.m 13), AV.bool (q.m 14), AV.bool (q.m 15), AV.bool (q.m 16), AV.bool (q.m 17), AV.bool (q.m 18), AV.bool (q.m 19), AV.bool (q.m 20), AV.bool (q.m 21), AV.bool (q.m 22), AV.bool (q.m 23)]] 24 true true), some (Blk.mk (List.map (AV.int IntKind.i64) q.o) 1 true true)]) → R st) : ∃ o' st' q', go Try.prog ({ dec := [(41, true), (48, false)], els := e37 q, calls := cZ q, unroll := false } : HT) 0 4000 (.inl (loopC (loopC (bodyOf Try.f37) 0) 0)) [] (li37 q) = some (o', st', q') ∧ q' ∧ Go.AX.Rest Try.prog 0 (andThen R post) st' o' :=
  endN_spec (σ := [0,1,2]) (fz := []) (vars := [0,1,6,7,8,38,39,40]) (show endN 0 [0,1,2] [] [0,1,6,7,8,38,39,40] (go Try.prog ({ dec := [(41, true), (48, false)], els := e37 q, calls := cZ q, unroll := false } : HT) 0 4000 (.inl (loopC (loopC (bodyOf Try.f37) 0) 0)) [] (li37 q)) = some (St.mk 63 [(0, AV.lst (gL q.g)), (1, AV.lst (boL q.s)), (6, AV.ptr 0 0 0), (7, AV.ptr 1 0 0), (8, AV.sl 2 0 q.k), (38, AV.lst (List.map (AV.int IntKind.i64) q.r)), (39, AV.int IntKind.i64 (iN q.r.length)), (40, AV.int IntKind.i64 (IntKind.i64.wrap (iN q.i + 1)))] [some (Blk.mk [AV.agg [AV.bool false, AV.bool false, AV.bool false, AV.bool false, AV.bool false, AV.bool false, AV.bool false, AV.bool false, AV.bool false, AV.bool false, AV.bool false, AV.bool false, AV.bool false, AV.bool false, AV.bool false, AV.bool false, AV.bool false, AV.bool false, AV.bool false, AV.bool false, AV.bool false, AV.bool false, AV.bool false, AV.bool false]] 24 true true), some (Blk.mk [AV.agg [AV.bool (q.m 0), AV.bool (q.m 1), AV.bool (q.m 2), AV.bool (q.m 3), AV.bool (q.m 4), AV.bool (q.m 5), AV.bool (q.m 6), AV.bool (q.m 7), AV.bool (q.m 8), AV.bool (q.m 9), AV.bool (q.m 10), AV.bool (q.m 11), AV.bool (q.m 12), AV.bool (q.m 13), AV.bool (q.m 14), AV.bool (q.m 15), AV.bool (q.m 16), AV.bool (q.m 17), AV.bool (q.m 18), AV.bool (q.m 19), AV.bool (q.m 20), AV.bool (q.m 21), AV.bool (q.m 22), AV.bool (q.m 23)]] 24 true true), some (Blk.mk (List.map (AV.int IntKind.i64) q.o) 1 true true)], ((((True ∧ (True ∧ True)) ∧ True) ∧ ((type_of% h1) ∧ (((True ∧ (True ∧ ((type_of% h2) ∧ (type_of% h3)))) ∧ ((True ∧ True) ∧ ((True ∧ True) ∧ True))) ∧ (((True ∧ True) ∧ ((True ∧ True) ∧ ((True ∧ (True ∧ ((type_of% h4) ∧ (type_of% h5)))) ∧ ((True ∧ True) ∧ ((True ∧ True) ∧ (((type_of% h6) ∧ True) ∧ (True ∧ (True ∧ (True ∧ (True ∧ ((True ∧ (True ∧ True)) ∧ True))))))))))) ∧ (True ∧ (((True ∧ True) ∧ ((True ∧ True) ∧ True)) ∧ True)))))) ∧ (True ∧ (True ∧ (True ∧ (True ∧ (True ∧ (True ∧ (True ∧ (True ∧ (True ∧ (True ∧ (True ∧ True))))))))))))) by kernel_rfl) ⟨⟨⟨⟨trivial, ⟨trivial, trivial⟩⟩, trivial⟩, ⟨h1, ⟨⟨⟨trivial, ⟨trivial, ⟨h2, h3⟩⟩⟩, ⟨⟨trivial, trivial⟩, ⟨⟨trivial, trivial⟩, trivial⟩⟩⟩, ⟨⟨⟨trivial, trivial⟩, ⟨⟨trivial, trivial⟩, ⟨⟨trivial, ⟨trivial, ⟨h4, h5⟩⟩⟩, ⟨⟨trivial, trivial⟩, ⟨⟨trivial, trivial⟩, ⟨⟨h6, trivial⟩, ⟨trivial, ⟨trivial, ⟨trivial, ⟨trivial, ⟨⟨trivial, ⟨trivial, trivial⟩⟩, trivial⟩⟩⟩⟩⟩⟩⟩⟩⟩⟩⟩, ⟨trivial, ⟨⟨⟨trivial, trivial⟩, ⟨⟨trivial, trivial⟩, trivial⟩⟩, trivial⟩⟩⟩⟩⟩⟩, ⟨trivial, ⟨trivial, ⟨trivial, ⟨trivial, ⟨trivial, ⟨trivial, ⟨trivial, ⟨trivial, ⟨trivial, ⟨trivial, ⟨trivial, trivial⟩⟩⟩⟩⟩⟩⟩⟩⟩⟩⟩⟩ hR
theorem fm0_0 (q : QZ) {post : Exit → St → Prop} {R : St → Prop} (hR : ∀ st, Ren 0 st (St.mk 25 [(0, AV.lst (gL q.g)), (1, AV.lst (boL q.s)), (2, AV.int IntKind.i64 (iN q.v))] []) → R st) : ∃ o' st' q', go Try.prog ({ dec := [], els := e36 q, calls := cZ q, unroll := false } : HT) 0 4000 (.inl (sL (sR 0 (bodyOf Try.f22)))) [] (st22 q) = some (o', st', q') ∧ q' ∧ Go.AX.Rest Try.prog 0 (andThen R post) st' o' :=
  endN_spec (σ := []) (fz := []) (vars := [0,1,2]) (show endN 0 [] [] [0,1,2] (go Try.prog ({ dec := [], els := e36 q, calls := cZ q, unroll := false } : HT) 0 4000 (.inl (sL (sR 0 (bodyOf Try.f22)))) [] (st22 q)) = some (St.mk 25 [(0, AV.lst (gL q.g)), (1, AV.lst (boL q.s)), (2, AV.int IntKind.i64 (iN q.v))] [], (((True ∧ (True ∧ True)) ∧ True) ∧ (True ∧ (True ∧ (True ∧ True))))) by kernel_rfl) ⟨⟨⟨trivial, ⟨trivial, trivial⟩⟩, trivial⟩, ⟨trivial, ⟨trivial, ⟨trivial, trivial⟩⟩⟩⟩ hR
theorem fm1_0 (q : QZ) (h1 : (CT Try.prog 36 [] [AV.lst (gL q.g), AV.lst (boL q.s), AV.int IntKind.i64 (iN q.v)] [] (AV.int IntKind.i64 0))) {post : Exit → St → Prop} {R : St → Prop} (hR : ∀ st, Ren 0 st (St.mk 25 [(0, AV.lst (gL q.g)), (1, AV.lst (boL q.s)), (2, AV.int IntKind.i64 (iN q.v))] []) → R st) : ∃ o' st' q', go Try.prog ({ dec := [], els := e36 q, calls := cZ q, unroll := false } : HT) 0 4000 (.inl (sL (sR 1 (bodyOf Try.f22)))) [] (st22 q) = some (o', st', q') ∧ q' ∧ Go.AX.Rest Try.prog 0 (andThen R post) st' o' :=
  endN_spec (σ := []) (fz := []) (vars := [0,1,2]) (show endN 0 [] [] [0,1,2] (go Try.prog ({ dec := [], els := e36 q, calls := cZ q, unroll := false } : HT) 0 4000 (.inl (sL (sR 1 (bodyOf Try.f22)))) [] (st22 q)) = some (St.mk 25 [(0, AV.lst (gL q.g)), (1, AV.lst (boL q.s)), (2, AV.int IntKind.i64 (iN q.v))] [], ((((True ∧ True) ∧ ((True ∧ True) ∧ ((True ∧ True) ∧ ((True ∧ (True ∧ (True ∧ (True ∧ (True ∧ (True ∧ ((type_of% h1) ∧ True))))))) ∧ ((True ∧ True) ∧ True))))) ∧ (((True ∧ True) ∧ ((True ∧ True) ∧ True)) ∧ (True ∧ True))) ∧ (True ∧ (True ∧ (True ∧ True))))) by kernel_rfl) ⟨⟨⟨⟨trivial, trivial⟩, ⟨⟨trivial, trivial⟩, ⟨⟨trivial, trivial⟩, ⟨⟨trivial, ⟨trivial, ⟨trivial, ⟨trivial, ⟨trivial, ⟨trivial, ⟨h1, trivial⟩⟩⟩⟩⟩⟩⟩, ⟨⟨trivial, trivial⟩, trivial⟩⟩⟩⟩⟩, ⟨⟨⟨trivial, trivial⟩, ⟨⟨trivial, trivial⟩, trivial⟩⟩, ⟨trivial, trivial⟩⟩⟩, ⟨trivial, ⟨trivial, ⟨trivial, trivial⟩⟩⟩⟩ hR
theorem fm2_0 (q : QZ) (h1 : (CT Try.prog 37 [] [AV.lst (gL q.g), AV.lst (boL q.s), AV.int IntKind.i64 (iN q.v)] [] (AV.agg [AV.bool (q.m 0), AV.bool (q.m 1), AV.bool (q.m 2), AV.bool (q.m 3), AV.bool (q.m 4), AV.bool (q.m 5), AV.bool (q.m 6), AV.bool (q.m 7), AV.bool (q.m 8), AV.bool (q.m 9), AV.bool (q.m 10), AV.bool (q.m 11), AV.bool (q.m 12), AV.bool (q.m 13), AV.bool (q.m 14), AV.bool (q.m 15), AV.bool (q.m 16), AV.bool (q.m 17), AV.bool (q.m 18), AV.bool (q.m 19), AV.bool (q.m 20), AV.bool (q.m 21), AV.bool (q.m 22), AV.bool (q.m 23)]))) {post : Exit → St → Prop} {R : St → Prop} (hR : ∀ st, Ren 0 st (St.mk 25 [(0, AV.lst (gL q.g)), (9, AV.ptr 0 0 0)] [some (Blk.mk [AV.agg [AV.bool (q.m 0), AV.bool (q.m 1), AV.bool (q.m 2), AV.bool (q.m 3), AV.bool (q.m 4), AV.bool (q.m 5), AV.bool (q.m 6), AV.bool (q.m 7), AV.bool (q.m 8), AV.bool (q.m 9), AV.bool (q.m 10), AV.bool (q.m 11), AV.bool (q.m 12), AV.bool (q.m 13), AV.bool (q.m 14), AV.bool (q.m 15), AV.bool (q.m 16), AV.bool (q.m 17), AV.bool (q.m 18), AV.bool (q.m 19), AV.bool (q.m 20), AV.bool (q.m 21), AV.bool (q.m 22), AV.bool (q.m 23)]] 24 true true)]) → R st) : ∃ o' st' q', go Try.prog ({ dec := [], els := e36 q, calls := cZ q, unroll := false } : HT) 0 4000 (.inl (sL (sR 2 (bodyOf Try.f22)))) [] (st22 q) = some (o', st', q') ∧ q' ∧ Go.AX.Rest Try.prog 0 (andThen R post) st' o' :=
  endN_spec (σ := [0]) (fz := []) (vars := [0,9]) (show endN 0 [0] [] [0,9] (go Try.prog ({ dec := [], els := e36 q, calls := cZ q, unroll := false } : HT) 0 4000 (.inl (sL (sR 2 (bodyOf Try.f22)))) [] (st22 q)) = some (St.mk 25 [(0, AV.lst (gL q.g)), (9, AV.ptr 0 0 0)] [some (Blk.mk [AV.agg [AV.bool (q.m 0), AV.bool (q.m 1), AV.bool (q.m 2), AV.bool (q.m 3), AV.bool (q.m 4), AV.bool (q.m 5), AV.bool (q.m 6), AV.bool (q.m 7), AV.bool (q.m 8), AV.bool (q.m 9), AV.bool (q.m 10), AV.bool (q.m 11), AV.bool (q.m 12), AV.bool (q.m 13), AV.bool (q.m 14), AV.bool (q.m 15), AV.bool (q.m 16), AV.bool (q.m 17), AV.bool (q.m 18), AV.bool (q.m 19), AV.bool (q.m 20), AV.bool (q.m 21), AV.bool (q.m 22), AV.bool (q.m 23)]] 24 true true)], ((((True ∧ True) ∧ ((True ∧ True) ∧ ((True ∧ True) ∧ ((True ∧ (True ∧ (True ∧ (True ∧ (True ∧ (True ∧ ((type_of% h1) ∧ True))))))) ∧ (True ∧ ((True ∧ (True ∧ (Nat.le (nat_lit 1) (nat_lit 1)))) ∧ True)))))) ∧ True) ∧ (True ∧ (True ∧ (True ∧ True))))) by kernel_rfl) ⟨⟨⟨⟨trivial, trivial⟩, ⟨⟨trivial, trivial⟩, ⟨⟨trivial, trivial⟩, ⟨⟨trivial, ⟨trivial, ⟨trivial, ⟨trivial, ⟨trivial, ⟨trivial, ⟨h1, trivial⟩⟩⟩⟩⟩⟩⟩, ⟨trivial, ⟨⟨trivial, ⟨trivial, (by first | exact Nat.le_of_ble_eq_true rfl | decide)⟩⟩, trivial⟩⟩⟩⟩⟩⟩, trivial⟩, ⟨trivial, ⟨trivial, ⟨trivial, trivial⟩⟩⟩⟩ hR
theorem fm3_0 (q : QZ) (h1 : (iN (gL q.g).length ≤ 24)) (h2 : (24 ≤ [AV.bool (q.m 0), AV.bool (q.m 1), AV.bool (q.m 2), AV.bool (q.m 3), AV.bool (q.m 4), AV.bool (q.m 5), AV.bool (q.m 6), AV.bool (q.m 7), AV.bool (q.m 8), AV.bool (q.m 9), AV.bool (q.m 10), AV.bool (q.m 11), AV.bool (q.m 12), AV.bool (q.m 13), AV.bool (q.m 14), AV.bool (q.m 15), AV.bool (q.m 16), AV.bool (q.m 17), AV.bool (q.m 18), AV.bool (q.m 19), AV.bool (q.m 20), AV.bool (q.m 21), AV.bool (q.m 22), AV.bool (q.m 23)].length)) (h3 : (0 + ((gL q.g).length - Int.toNat 0) ≤ [AV.bool (q.m 0), AV.bool (q.m 1), AV.bool (q.m 2), AV.bool (q.m 3), AV.bool (q.m 4), AV.bool (q.m 5), AV.bool (q.m 6), AV.bool (q.m 7), AV.bool (q.m 8), AV.bool (q.m 9), AV.bool (q.m 10), AV.bool (q.m 11), AV.bool (q.m 12), AV.bool (q.m 13), AV.bool (q.m 14), AV.bool (q.m 15), AV.bool (q.m 16), AV.bool (q.m 17), AV.bool (q.m 18), AV.bool (q.m 19), AV.bool (q.m 20), AV.bool (q.m 21), AV.bool (q.m 22), AV.bool (q.m 23)].length)) (h4 : ((List.take ((gL q.g).length - Int.toNat 0) [AV.bool (q.m 0), AV.bool (q.m 1), AV.bool (q.m 2), AV.bool (q.m 3), AV.bool (q.m 4), AV.bool (q.m 5), AV.bool (q.m 6), AV.bool (q.m 7), AV.bool (q.m 8), AV.bool (q.m 9), AV.bool (q.m 10), AV.bool (q.m 11), AV.bool (q.m 12), AV.bool (q.m 13), AV.bool (q.m 14), AV.bool (q.m 15), AV.bool (q.m 16), AV.bool (q.m 17), AV.bool (q.m 18), AV.bool (q.m 19), AV.bool (q.m 20), AV.bool (q.m 21), AV.bool (q.m 22), AV.bool (q.m 23)]).length ≤ 9223372036854775807)) (h5 : ((List.take ((gL q.g).length - Int.toNat 0) [AV.bool (q.m 0), AV.bool (q.m 1), AV.bool (q.m 2), AV.bool (q.m 3), AV.bool (q.m 4), AV.bool (q.m 5), AV.bool (q.m 6), AV.bool (q.m 7), AV.bool (q.m 8), AV.bool (q.m 9), AV.bool (q.m 10), AV.bool (q.m 11), AV.bool (q.m 12), AV.bool (q.m 13), AV.bool (q.m 14), AV.bool (q.m 15), AV.bool (q.m 16), AV.bool (q.m 17), AV.bool (q.m 18), AV.bool (q.m 19), AV.bool (q.m 20), AV.bool (q.m 21), AV.bool (q.m 22), AV.bool (q.m 23)]).length * 1 ≤ 140737488355328)) : ∃ o' st' q', go Try.prog ({ dec := [], els := e36 q, calls := cZ q, unroll := false } : HT) 0 4000 (.inl (sR 3 (bodyOf Try.f22))) [] (sc22 q) = some (o', st', q') ∧ q' ∧ Go.AX.Rest Try.prog 0 (Fin Try.prog Try.f22 0 [] (AV.tup [AV.lst (List.take ((gL q.g).length - Int.toNat 0) [AV.bool (q.m 0), AV.bool (q.m 1), AV.bool (q.m 2), AV.bool (q.m 3), AV.bool (q.m 4), AV.bool (q.m 5), AV.bool (q.m 6), AV.bool (q.m 7), AV.bool (q.m 8), AV.bool (q.m 9), AV.bool (q.m 10), AV.bool (q.m 11), AV.bool (q.m 12), AV.bool (q.m 13), AV.bool (q.m 14), AV.bool (q.m 15), AV.bool (q.m 16), AV.bool (q.m 17), AV.bool (q.m 18), AV.bool (q.m 19), AV.bool (q.m 20), AV.bool (q.m 21), AV.bool (q.m 22), AV.bool (q.m 23)]), AV.int IntKind.i64 0])) st' o' :=
  endF_spec (σ := []) (fz := [0,1]) (show endF Try.prog Try.f22 0 [] [0,1] (go Try.prog ({ dec := [], els := e36 q, calls := cZ q, unroll := false } : HT) 0 4000 (.inl (sR 3 (bodyOf Try.f22))) [] (sc22 q)) = some ([], AV.tup [AV.lst (List.take ((gL q.g).length - Int.toNat 0) [AV.bool (q.m 0), AV.bool (q.m 1), AV.bool (q.m 2), AV.bool (q.m 3), AV.bool (q.m 4), AV.bool (q.m 5), AV.bool (q.m 6), AV.bool (q.m 7), AV.bool (q.m 8), AV.bool (q.m 9), AV.bool (q.m 10), AV.bool (q.m 11), AV.bool (q.m 12), AV.bool (q.m 13), AV.bool (q.m 14), AV.bool (q.m 15), AV.bool (q.m 16), AV.bool (q.m 17), AV.bool (q.m 18), AV.bool (q.m 19), AV.bool (q.m 20), AV.bool (q.m 21), AV.bool (q.m 22), AV.bool (q.m 23)]), AV.int IntKind.i64 0], ((((True ∧ True) ∧ ((True ∧ True) ∧ ((True ∧ (True ∧ ((((0 : Int) ≤ (0 : Int)) ∧ ((0 ≤ iN (gL q.g).length) ∧ ((type_of% h1) ∧ ((24 : Int) ≤ (24 : Int))))) ∧ (type_of% h2)))) ∧ ((True ∧ (((nat_lit 1 = nat_lit 1) ∧ (type_of% h3)) ∧ ((type_of% h4) ∧ (type_of% h5)))) ∧ ((True ∧ True) ∧ (True ∧ True)))))) ∧ True) ∧ ((((List.take ((gL q.g).length - Int.toNat 0) [AV.bool (q.m 0), AV.bool (q.m 1), AV.bool (q.m 2), AV.bool (q.m 3), AV.bool (q.m 4), AV.bool (q.m 5), AV.bool (q.m 6), AV.bool (q.m 7), AV.bool (q.m 8), AV.bool (q.m 9), AV.bool (q.m 10), AV.bool (q.m 11), AV.bool (q.m 12), AV.bool (q.m 13), AV.bool (q.m 14), AV.bool (q.m 15), AV.bool (q.m 16), AV.bool (q.m 17), AV.bool (q.m 18), AV.bool (q.m 19), AV.bool (q.m 20), AV.bool (q.m 21), AV.bool (q.m 22), AV.bool (q.m 23)]).length = (List.take ((gL q.g).length - Int.toNat 0) [AV.bool (q.m 0), AV.bool (q.m 1), AV.bool (q.m 2), AV.bool (q.m 3), AV.bool (q.m 4), AV.bool (q.m 5), AV.bool (q.m 6), AV.bool (q.m 7), AV.bool (q.m 8), AV.bool (q.m 9), AV.bool (q.m 10), AV.bool (q.m 11), AV.bool (q.m 12), AV.bool (q.m 13), AV.bool (q.m 14), AV.bool (q.m 15), AV.bool (q.m 16), AV.bool (q.m 17), AV.bool (q.m 18), AV.bool (q.m 19), AV.bool (q.m 20), AV.bool (q.m 21), AV.bool (q.m 22), AV.bool (q.m 23)]).length) ∧ (True ∧ True)) ∧ True))) by kernel_rfl) ⟨⟨⟨⟨trivial, trivial⟩, ⟨⟨trivial, trivial⟩, ⟨⟨trivial, ⟨trivial, ⟨⟨(by first | exact Nat.le_of_ble_eq_true rfl | decide), ⟨(Int.natCast_nonneg _), ⟨h1, (by first | exact Nat.le_of_ble_eq_true rfl | decide)⟩⟩⟩, h2⟩⟩⟩, ⟨⟨trivial, ⟨⟨(by first | decide | exact Int.NonNeg.mk _), h3⟩, ⟨h4, h5⟩⟩⟩, ⟨⟨trivial, trivial⟩, ⟨trivial, trivial⟩⟩⟩⟩⟩⟩, trivial⟩, ⟨⟨rfl, ⟨trivial, trivial⟩⟩, trivial⟩⟩
end Go.Proofs.Ytnpmcikbnnlmkaa

/-! A block told shorter, and an array's variable told as a row of elements. -/
namespace Go.AX
variable {P : Program}

/-- The block b turned by f. -/
def onH (f : Blk → Blk) : Nat → List (Option Blk) → List (Option Blk)
  | _, [] => []
  | 0, some blk :: r => some (f blk) :: r
  | 0, none :: r => none :: r
  | b + 1, x :: r => x :: onH f b r

theorem nth_onH (f : Blk → Blk) : ∀ (hp : List (Option Blk)) (b b' : Nat), nth (onH f b hp) b' = if b' = b then (nth hp b').map f else nth hp b' := by
  intro hp
  induction hp with
  | nil => intro b b'; simp [onH, nth]
  | cons x r ih =>
    intro b b'
    cases b with
    | zero => cases b' <;> cases x <;> simp [onH, nth]
    | succ b =>
      cases b' with
      | zero => simp [onH, nth]
      | succ b' => simp [onH, nth, ih b b']

theorem onH_len (f : Blk → Blk) : ∀ (hp : List (Option Blk)) (b : Nat), (onH f b hp).length = hp.length := by
  intro hp
  induction hp with
  | nil => intro b; cases b <;> rfl
  | cons x r ih => intro b; cases b <;> cases x <;> simp [onH, ih]

theorem Mut_onH {f : Blk → Blk} (hf : ∀ blk, (f blk).wr = blk.wr) {φ : Phi} {hp : List (Option Blk)} {b r : Nat} : Mut φ (nth (onH f b hp)) r ↔ Mut φ (nth hp) r := by
  constructor
  · rintro ⟨b', blk, z, h1, h2, h3⟩
    rw [nth_onH] at h1
    split at h1
    · obtain ⟨blk', h4, rfl⟩ := Option.map_eq_some_iff.1 h1
      exact ⟨b', blk', z, h4, by rw [← hf]; exact h2, h3⟩
    · exact ⟨b', blk, z, h1, h2, h3⟩
  · rintro ⟨b', blk, z, h1, h2, h3⟩
    by_cases hb : b' = b
    · exact ⟨b', f blk, z, by rw [nth_onH, if_pos hb, h1]; rfl, by rw [hf]; exact h2, h3⟩
    · exact ⟨b', blk, z, by rw [nth_onH, if_neg hb]; exact h1, h2, h3⟩

def truncB (k : Nat) (blk : Blk) : Blk := { blk with es := blk.es.take k }
def truncS (b k : Nat) (st : St) : St := { st with hp := onH (truncB k) b st.hp }

/-- A block may be told shorter. -/
theorem Ren.trunc (m : Nat) (b k : Nat) (st : St) : Ren m st (truncS b k st) := by
  intro A0 n0 φ a w hm hr
  have hok : ∀ r, Ok A0 n0 φ st.h w r → Ok A0 n0 φ (truncS b k st).h w r := fun r ⟨h1, h2, h3⟩ => ⟨h1, h2, fun h => h3 ((Mut_onH (f := truncB k) fun _ => rfl).1 h)⟩
  have mono : ∀ {c v}, VR φ (Ok A0 n0 φ st.h w) w c v → VR φ (Ok A0 n0 φ (truncS b k st).h w) w c v := fun h => h.mono (fun _ _ h => h) hok (fun _ _ => rfl) (fun _ => Nat.le_refl _)
  refine ⟨φ, ⟨hr.defs, hr.size, fun s => mono (hr.slot s), ?_, fun b' hb => hr.out b' (by simpa [truncS, onH_len] using hb), hr.base, hr.own⟩, by simpa [truncS, onH_len] using hm, fun _ _ => rfl, Keep.refl _ w, fun r h => .inl ((Mut_onH (f := truncB k) fun _ => rfl).1 h)⟩
  refine ⟨fun b' blk hb => ?_, fun b' blk hb hf => ?_, fun b1 b2 r z z' h1 h2 => hr.heap.inj b1 b2 r z z' ?_ ?_⟩
  · have old : ∀ blk, st.h b' = some blk → BR φ (Ok A0 n0 φ (truncS b k st).h w) w b' blk := by
      intro blk hblk
      rcases hr.heap.blk b' blk hblk with h1 | ⟨r, cs, T, h1, h2, h3, h5⟩
      · exact .inl h1
      · exact .inr ⟨r, cs, T, h1, h2, h3, fun i e he => ⟨(h5 i e he).1, fun j c hc => by
          obtain ⟨g3, v, g4, g5⟩ := (h5 i e he).2 j c hc
          exact ⟨g3, v, g4, mono g5⟩⟩⟩
    change nth (onH (truncB k) b st.hp) b' = some blk at hb
    rw [nth_onH] at hb
    split at hb
    · obtain ⟨blk', h4, rfl⟩ := Option.map_eq_some_iff.1 hb
      rcases old blk' h4 with ⟨h1, h2, h3⟩ | ⟨r, cs, T, h1, h2, h3, h5⟩
      · exact .inl ⟨by simp [truncB, h1], h2, h3⟩
      · refine .inr ⟨r, cs, T, h1, h2, ?_, fun i e he => ?_⟩
        · refine Nat.le_trans (Nat.mul_le_mul_right _ ?_) h3
          simp [truncB]; omega
        · simp only [truncB, List.getElem?_take] at he
          split at he
          · exact h5 i e he
          · cases he
    · exact old blk hb
  · change nth (onH (truncB k) b st.hp) b' = some blk at hb
    rw [nth_onH] at hb
    split at hb
    · obtain ⟨blk', h4, rfl⟩ := Option.map_eq_some_iff.1 hb
      exact fun e he => hr.heap.flat b' blk' h4 hf e (List.mem_of_mem_take he)
    · exact hr.heap.flat b' blk hb hf
  · change (nth (onH (truncB k) b st.hp) b1).isSome = true at h1
    rw [nth_onH] at h1
    show (nth st.hp b1).isSome = true
    split at h1 <;> simpa using h1
  · change (nth (onH (truncB k) b st.hp) b2).isSome = true at h2
    rw [nth_onH] at h2
    show (nth st.hp b2).isSome = true
    split at h2 <;> simpa using h2

theorem Ren.wk (m : Nat) (st : St) : Ren m st (wkSt st) := by
  intro A0 n0 φ a w hm hr
  refine ⟨φ, ⟨hr.defs, hr.size, fun s => ?_, hr.heap, hr.out, hr.base, hr.own⟩, hm, .refl m φ _ w⟩
  show VR φ _ w (look (wkFr st.fr) s) _
  rw [look_wkFr]
  exact (hr.slot s).wk1

/-! An array's variable: one element of many cells, told as many elements of one cell. -/

def flatB (blk : Blk) : Blk := match blk.es with
  | [.agg cs] => { blk with es := cs, z := 1 }
  | _ => blk

def flatV (b : Nat) (v : AV) : AV := match v with
  | .ptr b' i j => match Nat.beq b' b, i with
    | false, _ => v
    | true, 0 => .ptr b j 0
    | true, _ => .unk
  | .sl b' _ _ => match Nat.beq b' b with
    | false => v
    | true => .unk
  | .agg cs => match norefL cs with
    | true => v
    | false => .unk
  | .tup cs => match norefL cs with
    | true => v
    | false => .unk
  | .fn _ _ => .unk
  | v => v

def flatFr (b : Nat) : List (Nat × AV) → List (Nat × AV)
  | [] => []
  | (s, v) :: r => (s, flatV b v) :: flatFr b r

theorem look_flatFr (b : Nat) : ∀ (fr : List (Nat × AV)) (s : Nat), look (flatFr b fr) s = flatV b (look fr s) := by
  intro fr
  induction fr with
  | nil => intro s; rfl
  | cons x r ih =>
    intro s
    obtain ⟨t, v⟩ := x
    simp only [flatFr, look]
    split
    · rfl
    · exact ih s

def flatS (b : Nat) (st : St) : St := { st with fr := flatFr b st.fr, hp := onH flatB b st.hp }

def allFlat (hp : List (Option Blk)) : Bool := hp.all fun x => match x with | some blk => blk.flat | none => true

def isArr (hp : List (Option Blk)) (b : Nat) : Bool := match nth hp b with
  | some blk => match blk.es with
    | [.agg _] => true
    | _ => false
  | none => false

theorem allFlat_spec : ∀ {hp : List (Option Blk)}, allFlat hp = true → ∀ b blk, nth hp b = some blk → blk.flat = true := by
  intro hp
  induction hp with
  | nil => intro _ b blk h; cases b <;> cases h
  | cons x r ih =>
    intro h b blk hb
    simp only [allFlat, List.all_cons, Bool.and_eq_true] at h
    cases b with
    | zero => simp [nth] at hb; subst hb; exact h.1
    | succ b => exact ih h.2 b blk (by simpa [nth] using hb)

theorem VR.noref_any {φ φ' : Phi} {A A' : Nat → Prop} {w : World} {c : AV} {v : Value} (h : VR φ A w c v) (hn : c.noref = true) (hA : ∀ r, A r → A' r) : VR φ' A' w c v :=
  .imm _ _ ((h.noref_rt hn).mono hA (fun _ _ => rfl))

theorem Ren.flat (m : Nat) (b : Nat) (st : St) (hmb : m ≤ b) (hf : allFlat st.hp = true) (ha : isArr st.hp b = true) : Ren m st (flatS b st) := by
  intro A0 n0 φ a w hm hr
  let φ' : Phi := fun x => if x = b then (φ x).map (fun p => (p.1, 1)) else φ x
  have hwr : ∀ blk, (flatB blk).wr = blk.wr := by
    intro blk; unfold flatB; split <;> rfl
  have hmut : ∀ r, Mut φ' (nth (onH flatB b st.hp)) r ↔ Mut φ (nth st.hp) r := by
    intro r
    rw [Mut_onH hwr]
    constructor
    · rintro ⟨b', blk, z, h1, h2, h3⟩
      simp only [φ'] at h3
      split at h3
      · obtain ⟨p, h4, h5⟩ := Option.map_eq_some_iff.1 h3
        simp only [Prod.mk.injEq] at h5
        exact ⟨b', blk, p.2, h1, h2, by rw [h4, ← h5.1]⟩
      · exact ⟨b', blk, z, h1, h2, h3⟩
    · rintro ⟨b', blk, z, h1, h2, h3⟩
      by_cases hb : b' = b
      · exact ⟨b', blk, 1, h1, h2, by simp only [φ']; rw [if_pos hb, h3]; rfl⟩
      · exact ⟨b', blk, z, h1, h2, by simp only [φ']; rw [if_neg hb]; exact h3⟩
  have hok : ∀ r, Ok A0 n0 φ st.h w r → Ok A0 n0 φ' (flatS b st).h w r := fun r ⟨h1, h2, h3⟩ => ⟨h1, h2, fun h => h3 ((hmut r).1 h)⟩
  have hne : ∀ x, x ≠ b → φ' x = φ x := fun x hx => by simp only [φ']; rw [if_neg hx]
  have vr : ∀ {v : AV} {u : Value}, VR φ (Ok A0 n0 φ st.h w) w v u → VR φ' (Ok A0 n0 φ' (flatS b st).h w) w (flatV b v) u := by
    intro v u h
    cases v with
    | ptr b' i j =>
      simp only [flatV]
      cases hbb : Nat.beq b' b with
      | false =>
        obtain ⟨r, z, h1, rfl⟩ := h.ptr_inv
        have : b' ≠ b := fun e => by subst e; rw [Nat.beq_refl] at hbb; cases hbb
        exact .ptr b' i j r z (by rw [hne b' this]; exact h1)
      | true =>
        have := Nat.eq_of_beq_eq_true hbb
        subst this
        obtain ⟨r, z, h1, rfl⟩ := h.ptr_inv
        cases i with
        | zero =>
          have := VR.ptr (φ := φ') (A := Ok A0 n0 φ' (flatS b' st).h w) (w := w) b' j 0 r 1 (by simp only [φ']; rw [h1]; rfl)
          simpa using this
        | succ i => exact .imm _ _ (.unk _)
    | sl b' i n =>
      simp only [flatV]
      cases hbb : Nat.beq b' b with
      | false =>
        have : b' ≠ b := fun e => by subst e; rw [Nat.beq_refl] at hbb; cases hbb
        rcases h.sl_inv with ⟨rfl, a, rfl⟩ | ⟨r, z, cap, h1, h2, h3, rfl⟩
        · exact .slnil b' i a
        · exact .sl b' i n r z cap (by rw [hne b' this]; exact h1) h2 h3
      | true => exact .imm _ _ (.unk _)
    | agg cs =>
      simp only [flatV]
      cases hn : norefL cs with
      | false => exact .imm _ _ (.unk _)
      | true =>
        obtain ⟨us, rfl, hl, hh⟩ := h.agg_inv
        exact .agg cs us hl fun i c v hc hv => (hh i c v hc hv).noref_any (List.all_eq_true.1 hn c (List.mem_of_getElem? hc)) hok
    | tup cs =>
      simp only [flatV]
      cases hn : norefL cs with
      | false => exact .imm _ _ (.unk _)
      | true =>
        obtain ⟨us, rfl, hl, hh⟩ := h.tup_inv
        exact .tup cs us hl fun i c v hc hv => (hh i c v hc hv).noref_any (List.all_eq_true.1 hn c (List.mem_of_getElem? hc)) hok
    | fn f cs => exact .imm _ _ (.unk _)
    | _ => exact h.noref_any rfl hok
  have cellV : ∀ {b' : Nat} {blk : Blk}, nth st.hp b' = some blk → ∀ {e c : AV} {u : Value}, e ∈ blk.es → c ∈ e.cells → VR φ (Ok A0 n0 φ st.h w) w c u → VR φ' (Ok A0 n0 φ' (flatS b st).h w) w c u := by
    intro b' blk hb e c u he hc h
    exact h.noref_any (hr.heap.flat b' blk hb (allFlat_spec hf b' blk hb) e he c hc) hok
  refine ⟨φ', ⟨hr.defs, hr.size, fun s => ?_, ?_, fun b' hb => ?_, hr.base, fun b' r z hb h1 => ?_⟩, by simpa [flatS, onH_len] using hm, fun b' hb => ?_, Keep.refl _ w, fun r h => .inl ((hmut r).1 h)⟩
  · show VR φ' _ w (look (flatFr b st.fr) s) _
    rw [look_flatFr]
    exact vr (hr.slot s)
  · refine ⟨fun b' blk hb => ?_, fun b' blk hb hfl => ?_, fun b1 b2 r z z' h1 h2 g1 g2 => ?_⟩
    · change nth (onH flatB b st.hp) b' = some blk at hb
      rw [nth_onH] at hb
      split at hb
      · rename_i hbb
        subst hbb
        obtain ⟨blk', h4, rfl⟩ := Option.map_eq_some_iff.1 hb
        have hes : ∃ cs, blk'.es = [.agg cs] := by
          unfold isArr at ha; rw [h4] at ha; simp only at ha
          split at ha
          · rename_i cs he; exact ⟨cs, he⟩
          · cases ha
        obtain ⟨cs, hes⟩ := hes
        have hfb : flatB blk' = { blk' with es := cs, z := 1 } := by unfold flatB; rw [hes]
        rw [hfb]
        rcases hr.heap.blk b' blk' h4 with ⟨h1, _⟩ | ⟨r, cells, T, h1, h2, h3, h5⟩
        · rw [hes] at h1; cases h1
        · obtain ⟨g1, g2⟩ := h5 0 (.agg cs) (by rw [hes]; rfl)
          simp only [AV.cells] at g1 g2
          refine .inr ⟨r, cells, T, by simp only [φ']; rw [h1]; rfl, h2, ?_, fun i c hc => ?_⟩
          · simp only [Nat.mul_one]; rw [hes] at h3; simp only [List.length_singleton, Nat.one_mul] at h3; omega
          · obtain ⟨g3, u, g4, g5⟩ := g2 i c hc
            have hcc := one_cells g3
            refine ⟨by rw [hcc]; rfl, fun j c' hj => ?_⟩
            rw [hcc] at hj
            match j, hj with
            | 0, hj =>
              simp at hj; subst hj
              refine ⟨g3, u, by simpa using g4, ?_⟩
              exact cellV h4 (e := .agg cs) (by rw [hes]; simp) (List.mem_of_getElem? hc) g5
      · rename_i hbb
        rcases hr.heap.blk b' blk hb with ⟨h1, h2, h3⟩ | ⟨r, cells, T, h1, h2, h3, h5⟩
        · exact .inl ⟨h1, by rw [hne b' hbb]; exact h2, h3⟩
        · refine .inr ⟨r, cells, T, by rw [hne b' hbb]; exact h1, h2, h3, fun i e he => ⟨(h5 i e he).1, fun j c hc => ?_⟩⟩
          obtain ⟨g3, u, g4, g5⟩ := (h5 i e he).2 j c hc
          exact ⟨g3, u, g4, cellV hb (List.mem_of_getElem? he) (List.mem_of_getElem? hc) g5⟩
    · change nth (onH flatB b st.hp) b' = some blk at hb
      rw [nth_onH] at hb
      split at hb
      · obtain ⟨blk', h4, rfl⟩ := Option.map_eq_some_iff.1 hb
        have hno := hr.heap.flat b' blk' h4 (allFlat_spec hf b' blk' h4)
        have h5 := hr.heap.blk b' blk' h4
        intro e he c hc
        unfold flatB at he
        split at he
        · rename_i cs hes
          simp only at he
          rcases h5 with ⟨h1, _⟩ | ⟨r, cells, T, h1, h2, h3, h5⟩
          · rw [hes] at h1; cases h1
          · obtain ⟨i, hi⟩ := List.getElem?_of_mem he
            obtain ⟨g3, _⟩ := (h5 0 (.agg cs) (by rw [hes]; rfl)).2 i e hi
            rw [one_cells g3] at hc
            simp at hc; subst hc
            exact hno (.agg cs) (by rw [hes]; simp) c he
        · exact hno e he c hc
      · exact hr.heap.flat b' blk hb hfl
    · have up : ∀ x r z, φ' x = some (r, z) → ∃ z', φ x = some (r, z') := by
        intro x r z h
        simp only [φ'] at h
        split at h
        · obtain ⟨p, h4, h5⟩ := Option.map_eq_some_iff.1 h
          simp only [Prod.mk.injEq] at h5
          exact ⟨p.2, by rw [h4, ← h5.1]⟩
        · exact ⟨z, h⟩
      have iss : ∀ x, (nth (onH flatB b st.hp) x).isSome = true → (nth st.hp x).isSome = true := by
        intro x h
        rw [nth_onH] at h
        split at h <;> simpa using h
      obtain ⟨z1, k1⟩ := up b1 r z g1
      obtain ⟨z2, k2⟩ := up b2 r z' g2
      exact hr.heap.inj b1 b2 r z1 z2 (iss b1 h1) (iss b2 h2) k1 k2
  · have h0 := hr.out b' (by simpa [flatS, onH_len] using hb)
    simp only [φ']; split
    · rw [h0]; rfl
    · exact h0
  · simp only [φ'] at h1
    split at h1
    · obtain ⟨p, h4, h5⟩ := Option.map_eq_some_iff.1 h1
      simp only [Prod.mk.injEq] at h5
      exact hr.own b' r p.2 hb (by rw [h4, ← h5.1])
    · exact hr.own b' r z hb h1
  · exact hne b' (by omega)

end Go.AX

/-! Contracts. -/
open Go Go.AX Go.Proofs
set_option maxRecDepth 100000
set_option maxHeartbeats 1000000
set_option linter.unusedVariables false
set_option linter.unusedSimpArgs false
namespace Go.Proofs.Ytnpmcikbnnlmkaa
/-! Which vertices a vertex reaches. -/
def upd (m : Nat → Bool) (w : Nat) : Nat → Bool := fun i => if i = w then true else m i
theorem mkC_map (m : Nat → Bool) : mkC m = (List.range 24).map fun i => AV.bool (m i) := rfl
theorem mkC_get (m : Nat → Bool) {j : Nat} (h : j < 24) : (mkC m)[j]? = some (.bool (m j)) := by
  rw [mkC_map, List.getElem?_map, List.getElem?_range h]; rfl
theorem mkC_upd (m : Nat → Bool) (w : Nat) (hw : w < 24) : List.take (0 + (iN w).toNat * 1) (mkC m) ++ [AV.bool true] ++ List.drop (0 + (iN w).toNat * 1 + 1) (mkC m) = mkC (upd m w) := by
  have e : 0 + (iN w).toNat * 1 = w := by simp [iN]
  rw [e]
  apply List.ext_getElem?
  intro j
  have hl : ∀ m, (mkC m).length = 24 := fun _ => rfl
  by_cases hj : j < 24
  · rw [mkC_get _ hj, List.append_assoc, List.getElem?_append, List.length_take, hl, Nat.min_eq_left (by omega)]
    by_cases h1 : j < w
    · rw [if_pos h1, List.getElem?_take, if_pos h1, mkC_get _ hj]; simp [upd]; omega
    · rw [if_neg h1]
      by_cases h2 : j = w
      · subst h2; simp [upd]
      · rw [List.getElem?_append, if_neg (by simp; omega), List.getElem?_drop, show w + 1 + (j - w - [AV.bool true].length) = j by simp; omega, mkC_get _ hj]; simp [upd, h2]
  · rw [List.getElem?_eq_none (by simp [hl]; omega), List.getElem?_eq_none (by rw [hl]; omega)]

/-- How many are not marked. -/
def cnt (m : Nat → Bool) : Nat → Nat
  | 0 => 0
  | n + 1 => cnt m n + if m n = true then 0 else 1
theorem cnt_upd_ge (m : Nat → Bool) (w : Nat) : ∀ n, n ≤ w → cnt (upd m w) n = cnt m n := by
  intro n
  induction n with
  | zero => intro _; rfl
  | succ n ih => intro h; rw [cnt, cnt, ih (by omega)]; simp [upd, show n ≠ w by omega]
theorem cnt_upd (m : Nat → Bool) (w : Nat) (hm : m w = false) : ∀ n, w < n → cnt (upd m w) n + 1 = cnt m n := by
  intro n
  induction n with
  | zero => intro h; omega
  | succ n ih =>
    intro h
    rw [cnt, cnt]
    by_cases e : n = w
    · subst e; rw [cnt_upd_ge m n n (Nat.le_refl _), hm]; simp [upd]
    · have := ih (by omega)
      simp only [upd, e, if_false] at this ⊢
      omega
theorem cnt_le (m : Nat → Bool) : ∀ n, cnt m n ≤ n := by
  intro n
  induction n with
  | zero => exact Nat.le_refl _
  | succ n ih => rw [cnt]; split <;> omega

/-- Closed under the edges to open vertices. -/
def Clo (g : List (List Int)) (s : List Bool) (C : Nat → Prop) : Prop := ∀ u, u < g.length → C u → ∀ w ∈ g.getD u [], s.getD w.toNat false = false → C w.toNat
def Rch (g : List (List Int)) (s : List Bool) (v u : Nat) : Prop := s.getD v false = false ∧ ∀ C : Nat → Prop, C v → Clo g s C → C u
open Classical in
noncomputable def mR (g : List (List Int)) (s : List Bool) (v : Nat) : Nat → Bool := fun u => decide (Rch g s v u)
theorem mR_iff {g : List (List Int)} {s : List Bool} {v u : Nat} : mR g s v u = true ↔ Rch g s v u := by simp [mR]

theorem Rch.step {g : List (List Int)} {s : List Bool} {v u : Nat} (h : Rch g s v u) (hu : u < g.length) {w : Int} (hw : w ∈ g.getD u []) (ho : s.getD w.toNat false = false) : Rch g s v w.toNat :=
  ⟨h.1, fun C hv hc => hc u hu (h.2 C hv hc) w hw ho⟩
theorem Rch.refl {g : List (List Int)} {s : List Bool} {v : Nat} (h : s.getD v false = false) : Rch g s v v := ⟨h, fun _ hv _ => hv⟩
theorem Rch.lt {g : List (List Int)} {s : List Bool} (hg : OkG g s) {v u : Nat} (hv : v < g.length) (h : Rch g s v u) : u < g.length :=
  h.2 (· < g.length) hv fun x hx _ w hw _ => by have := (hg.row x hx).2 w hw; omega
theorem Rch.opn {g : List (List Int)} {s : List Bool} {v u : Nat} (h : Rch g s v u) : s.getD u false = false :=
  h.2 (fun u => s.getD u false = false) h.1 fun _ _ _ _ _ ho => ho

theorem mk_ext {m m' : Nat → Bool} (h : ∀ i, i < 24 → m i = m' i) : mkC m = mkC m' := by
  rw [mkC_map, mkC_map]
  apply List.map_congr_left
  intro i hi
  rw [h i (List.mem_range.1 hi)]

def qz (g : List (List Int)) (s : List Bool) (v : Nat) (m : Nat → Bool) (o : List Int) (r : List Int) (i a : Nat) (x : Int) : QZ := ⟨g, s, v, m, o, 0, r, i, 0, false, false, o.length, a, x, 0, [], []⟩
def lastZ (r : List Int) (i : Nat) : Int := if i = 0 then -1 else r.getD (i - 1) 0
theorem lastZ_lt {r : List Int} {i : Nat} (h : i < r.length) (h0 : ∀ j, j < r.length → 0 ≤ r.getD j 0) (hs : ∀ i, 0 < i → i < r.length → r.getD (i - 1) 0 < r.getD i 0) : lastZ r i < r.getD i 0 := by
  unfold lastZ
  split
  · have := h0 i h; omega
  · exact hs i (by omega) h
theorem lastZ_succ {r : List Int} {i : Nat} : lastZ r (i + 1) = r.getD i 0 := by unfold lastZ; simp

theorem rvb_run {g : List (List Int)} {s : List Bool} (hg : OkG g s) (hs : Asc g) (a : Nat) (ha : a < g.length) {R : St → Prop} {post : Exit → St → Prop}
    (hR : ∀ st, Ren 0 st (la41 (qz g s 0 (fun _ => false) [] [] 0 (a + 1) 0)) → R st) :
    T Try.prog 0 (.loop (loopC (loopC (bodyOf Try.f41) 0) 0)) (lb41 (qz g s 0 (fun _ => false) [] (g.getD a []) 0 a (-1))) (TK Try.prog 0 (andThen R post) (loopK (loopC (bodyOf Try.f41) 0) 0)) := by
  have hgl := hg.len
  have hl := gL_len g
  have hr1 := (hg.row a ha).1
  have hget := fun i => row_get hg ha (i := i)
  have hsr := hs a ha
  generalize g.getD a [] = r at hr1 hget hsr
  refine T.loop (fun i : Nat => lb41 (qz g s 0 (fun _ => false) [] r i a (lastZ r i))) (fun i => i ≤ r.length) (fun i => r.length + 1 - i) 0 (Nat.zero_le _) ?_
  intro i hi
  by_cases h : i < r.length
  · obtain ⟨x, hx, hx1, hx2⟩ := hget i h
    have hg1 := lI_get h
    have hlt := lastZ_lt h (fun j hj => by obtain ⟨y, hy, _⟩ := hget j hj; omega) hsr
    rw [hx] at hg1 hlt
    refine T.path mix (rvbr_0 ⟨g, s, 0, fun _ => false, [], 0, r, i, x, false, false, 0, a, lastZ r i, 0, [], []⟩ (decide_eq_true (by simp only [iN]; omega)) (by simp [iN]) hg1 (decide_eq_false (by simp only [iN]; omega)) (decide_eq_false (by simp only [iN, hl]; omega)) (by simp [iN]; omega) ?_)
    intro st hst
    simp only [iN, wrap_nat i (show i < 9223372036854775807 by omega)] at hst
    refine ⟨i + 1, ?_, h, by omega⟩
    rw [lastZ_succ, hx]
    exact hst
  · refine T.out mix (rvbx_0 (qz g s 0 (fun _ => false) [] r i a (lastZ r i)) (decide_eq_false (by simp only [iN, qz]; omega)) ?_)
    intro st hst
    simp only [iN, qz, wrap_nat a (show a < 9223372036854775807 by omega)] at hst
    exact hR st hst

theorem valid41_ct {g : List (List Int)} {s : List Bool} (hg : OkG g s) (hs : Asc g) : CT Try.prog 41 [] [.lst (gL g)] [] (.bool true) := by
  have hgl := hg.len
  have hl := gL_len g
  refine CT.path mix Try.func41 (show Try.f41.body = some (bodyOf Try.f41) by kernel_rfl) (Nat.le_of_ble_eq_true rfl) (rv_0 (qz g s 0 (fun _ => false) [] [] 0 0 0) (decide_eq_false (by simp only [iN, qz, hl]; omega)) ?_)
  simp only [qz, hl]
  refine T.loop (fun a : Nat => la41 (qz g s 0 (fun _ => false) [] [] 0 a 0)) (fun a => a ≤ g.length) (fun a => g.length + 1 - a) 0 (Nat.zero_le _) ?_
  intro a ha
  by_cases h : a < g.length
  · refine T.path mix (rva_0 (qz g s 0 (fun _ => false) [] (g.getD a []) 0 a 0) (decide_eq_true (by simp only [iN, qz]; omega)) (by simp [iN]) (gL_get h) ?_)
    simp only [qz, lI_len]
    exact rvb_run hg hs a h fun st hst => ⟨a + 1, hst, h, by omega⟩
  · exact T.out mix (rvx_0 (qz g s 0 (fun _ => false) [] [] 0 a 0) (decide_eq_false (by simp only [iN, qz]; omega)))

theorem check36_ct {g : List (List Int)} {s : List Bool} (hg : OkG g s) (hs : Asc g) (v : Nat) (hv : v < g.length) : CT Try.prog 36 [] [.lst (gL g), .lst (boL s), .int .i64 (v : Nat)] [] (.int .i64 0) := by
  have hl := gL_len g
  have hbl := boL_len s
  have hsl := hg.sh
  exact CT.path mix Try.func36 (show Try.f36.body = some (bodyOf Try.f36) by kernel_rfl) (Nat.le_of_ble_eq_true rfl) (rc_0 (qz g s v (fun _ => false) [] [] 0 0 0) (valid41_ct hg hs) (by simp [iN, qz, hl, hbl, hsl]) (decide_eq_false (by simp only [iN, qz, hl]; omega)))

theorem gcb_run {g : List (List Int)} {s : List Bool} (hg : OkG g s) (hs : Asc g) (a : Nat) (ha : a < g.length) {R : St → Prop} {post : Exit → St → Prop}
    (hR : ∀ st, Ren 0 st (la38 (qz g s 0 (fun _ => false) [] [] 0 (a + 1) 0)) → R st) :
    T Try.prog 0 (.loop (loopC (loopC (bodyOf Try.f38) 0) 0)) (lb38 (qz g s 0 (fun _ => false) [] (g.getD a []) 0 a (-1))) (TK Try.prog 0 (andThen R post) (loopK (loopC (bodyOf Try.f38) 0) 0)) := by
  have hgl := hg.len
  have hl := gL_len g
  have hr1 := (hg.row a ha).1
  have hget := fun i => row_get hg ha (i := i)
  have hsr := hs a ha
  generalize g.getD a [] = r at hr1 hget hsr
  refine T.loop (fun i : Nat => lb38 (qz g s 0 (fun _ => false) [] r i a (lastZ r i))) (fun i => i ≤ r.length) (fun i => r.length + 1 - i) 0 (Nat.zero_le _) ?_
  intro i hi
  by_cases h : i < r.length
  · obtain ⟨x, hx, hx1, hx2⟩ := hget i h
    have hg1 := lI_get h
    have hlt := lastZ_lt h (fun j hj => by obtain ⟨y, hy, _⟩ := hget j hj; omega) hsr
    rw [hx] at hg1 hlt
    refine T.path mix (gcbr_0 ⟨g, s, 0, fun _ => false, [], 0, r, i, x, false, false, 0, a, lastZ r i, 0, [], []⟩ (decide_eq_true (by simp only [iN]; omega)) (by simp [iN]) hg1 (decide_eq_false (by simp only [iN]; omega)) (decide_eq_false (by simp only [iN, hl]; omega)) (by simp [iN]; omega) ?_)
    intro st hst
    simp only [iN, wrap_nat i (show i < 9223372036854775807 by omega)] at hst
    refine ⟨i + 1, ?_, h, by omega⟩
    rw [lastZ_succ, hx]
    exact hst
  · refine T.out mix (gcbx_0 (qz g s 0 (fun _ => false) [] r i a (lastZ r i)) (decide_eq_false (by simp only [iN, qz]; omega)) ?_)
    intro st hst
    simp only [iN, qz, wrap_nat a (show a < 9223372036854775807 by omega)] at hst
    exact hR st hst

theorem gcheck_ct {g : List (List Int)} {s : List Bool} (hg : OkG g s) (hs : Asc g) : CT Try.prog 38 [] [.lst (gL g), .lst (boL s)] [] (.int .i64 0) := by
  have hgl := hg.len
  have hl := gL_len g
  have hbl := boL_len s
  have hsl := hg.sh
  refine CT.path mix Try.func38 (show Try.f38.body = some (bodyOf Try.f38) by kernel_rfl) (Nat.le_of_ble_eq_true rfl) (gc_0 (qz g s 0 (fun _ => false) [] [] 0 0 0) (decide_eq_false (by simp only [iN, qz, hl]; omega)) ?_)
  simp only [qz, hl]
  refine T.loop (fun a : Nat => la38 (qz g s 0 (fun _ => false) [] [] 0 a 0)) (fun a => a ≤ g.length) (fun a => g.length + 1 - a) 0 (Nat.zero_le _) ?_
  intro a ha
  by_cases h : a < g.length
  · refine T.path mix (gca_0 (qz g s 0 (fun _ => false) [] (g.getD a []) 0 a 0) (decide_eq_true (by simp only [iN, qz]; omega)) (by simp [iN]) (gL_get h) ?_)
    simp only [qz, lI_len]
    exact gcb_run hg hs a h fun st hst => ⟨a + 1, hst, h, by omega⟩
  · exact T.out mix (gcx_0 (qz g s 0 (fun _ => false) [] [] 0 a 0) (decide_eq_false (by simp only [iN, qz]; omega)) (by simp [iN, qz, hl, hbl, hsl]))

/-- The search's state: marks and stack. -/
structure Srch (g : List (List Int)) (s : List Bool) (v : Nat) (m : Nat → Bool) (o : List Int) : Prop where
  stk : ∀ x ∈ o, ∃ u : Nat, x = (u : Int) ∧ u < g.length ∧ m u = true
  snd : ∀ u, m u = true → Rch g s v u
  beg : m v = true
  cnt : o.length + cnt m 24 ≤ 24
def ClosedAt (g : List (List Int)) (s : List Bool) (m : Nat → Bool) (u : Nat) : Prop := ∀ w ∈ g.getD u [], s.getD w.toNat false = false → m w.toNat = true
theorem ClosedAt.upd {g : List (List Int)} {s : List Bool} {m : Nat → Bool} {u : Nat} (h : ClosedAt g s m u) (w : Nat) : ClosedAt g s (upd m w) u := fun x hx ho => by unfold Go.Proofs.Ytnpmcikbnnlmkaa.upd; rw [h x hx ho]; simp

noncomputable def liC (q : QZ) (cs : List AV) (o : List AV) (k : Nat) (i : Int) : St := { n := Try.f37.ntmps, fr := [(0, .lst (gL q.g)), (1, .lst (boL q.s)), (6, .ptr 0 0 0), (7, .ptr 1 0 0), (8, .sl 2 0 k), (38, lI q.r), (39, .int .i64 (iN q.r.length)), (40, .int .i64 i)], hp := [some zB, some { es := [.agg cs], z := 24 }, some { es := o, z := 1 }] }

theorem fi_run {g : List (List Int)} {s : List Bool} (hg : OkG g s) (v : Nat) (hv : v < g.length) (u : Nat) (hu : u < g.length) (m0 : Nat → Bool) (o0 : List Int) (hm0 : Srch g s v m0 o0) (hu0 : m0 u = true)
    (hc0 : ∀ x, x < g.length → m0 x = true → (x : Int) ∈ o0 ∨ x = u ∨ ClosedAt g s m0 x) {R : St → Prop} {post : Exit → St → Prop}
    (hR : ∀ m o, Srch g s v m o → (∀ x, x < g.length → m x = true → (x : Int) ∈ o ∨ ClosedAt g s m x) → 2 * cnt m 24 + o.length ≤ 2 * cnt m0 24 + o0.length → ∀ st, Ren 0 st (lo37 (qz g s v m o [] 0 0 0)) → R st) :
    T Try.prog 0 (.loop (loopC (loopC (bodyOf Try.f37) 0) 0)) (li37 (qz g s v m0 o0 (g.getD u []) 0 0 0)) (TK Try.prog 0 (andThen R post) (loopK (loopC (bodyOf Try.f37) 0) 0)) := by
  have hgl := hg.len
  have hr1 := (hg.row u hu).1
  have hget := fun i => row_get hg hu (i := i)
  have hcl : ∀ m : Nat → Bool, (∀ i, i < (g.getD u []).length → s.getD ((g.getD u []).getD i 0).toNat false = false → m ((g.getD u []).getD i 0).toNat = true) → ClosedAt g s m u := by
    intro m h w hw ho
    obtain ⟨i, hi, rfl⟩ := List.mem_iff_getElem.1 hw
    have e : (g.getD u []).getD i 0 = (g.getD u [])[i] := by rw [List.getD_eq_getElem?_getD (l := g.getD u []), List.getElem?_eq_getElem hi]; rfl
    have := h i hi
    rw [e] at this
    exact this ho
  have hmem : ∀ i, i < (g.getD u []).length → (g.getD u []).getD i 0 ∈ g.getD u [] := by
    intro i hi
    rw [List.getD_eq_getElem?_getD (l := g.getD u []), List.getElem?_eq_getElem hi]
    exact List.getElem_mem hi
  have hst1 : ∀ m, Srch g s v m o0 ∨ True := fun _ => .inr trivial
  have stepR : ∀ i, i < (g.getD u []).length → ∀ m o, Srch g s v m o → m u = true → s.getD ((g.getD u []).getD i 0).toNat false = false → Rch g s v ((g.getD u []).getD i 0).toNat := by
    intro i hi m o hS hmu ho
    exact (hS.snd u hmu).step hu (hmem i hi) ho
  generalize g.getD u [] = r at hr1 hget hcl hmem stepR
  refine T.loop (fun y : Nat × (Nat → Bool) × List Int => li37 (qz g s v y.2.1 y.2.2 r y.1 0 0))
    (fun y => y.1 ≤ r.length ∧ Srch g s v y.2.1 y.2.2 ∧ y.2.1 u = true ∧ (∀ x, x < g.length → y.2.1 x = true → (x : Int) ∈ y.2.2 ∨ x = u ∨ ClosedAt g s y.2.1 x) ∧ (∀ i, i < y.1 → s.getD (r.getD i 0).toNat false = false → y.2.1 (r.getD i 0).toNat = true) ∧ 2 * cnt y.2.1 24 + y.2.2.length ≤ 2 * cnt m0 24 + o0.length)
    (fun y => r.length + 1 - y.1) (0, m0, o0) ⟨Nat.zero_le _, hm0, hu0, hc0, fun i hi => by simp only at hi; omega, Nat.le_refl _⟩ ?_
  rintro ⟨i, m, o⟩ ⟨hi, hS, hmu, hc, hd, hme⟩
  simp only at hi hS hmu hc hd hme
  by_cases h : i < r.length
  · obtain ⟨w, hw, hw1, hw2⟩ := hget i h
    have hg1 := lI_get h
    rw [hw] at hg1
    have hsw := boL_get (s := s) (v := w) (by rw [hg.sh]; exact hw1)
    have dk : decide (iN i < iN r.length) = true := decide_eq_true (by simp only [iN]; omega)
    have wi : IntKind.i64.wrap (iN i + 1) = ((i + 1 : Nat) : Int) := wrap_nat i (by omega)
    have hmw := mkC_get m (j := w) (by omega)
    have sR := stepR i h m o hS hmu
    rw [hw, Int.toNat_natCast] at sR
    have next : ∀ (m' : Nat → Bool), (m' w = true ∨ s.getD w false = true) → (∀ x, m x = true → m' x = true) → ∀ i', i' < i + 1 → s.getD (r.getD i' 0).toNat false = false → m' (r.getD i' 0).toNat = true := by
      intro m' hm' hle i' hi' ho
      by_cases e : i' = i
      · subst e
        rw [hw, Int.toNat_natCast] at ho ⊢
        rcases hm' with h1 | h1
        · exact h1
        · rw [ho] at h1; cases h1
      · exact hle _ (hd i' (by omega) ho)
    by_cases hs : s.getD w false = true
    · refine T.path mix (fis_0 ⟨g, s, v, m, o, 0, r, i, w, s.getD w false, false, o.length, 0, 0, 0, [], []⟩ dk (by simp [iN]) hg1 (by simp [iN]) hsw (by simp only [hs]; rfl) ?_)
      intro st hst
      simp only [wi] at hst
      exact ⟨(i + 1, m, o), hst, ⟨h, hS, hmu, hc, next m (.inr hs) fun _ h => h, hme⟩, by simp only; omega⟩
    · have hs := Bool.eq_false_iff.2 hs
      by_cases hm : m w = true
      · refine T.path mix (fim_0 ⟨g, s, v, m, o, 0, r, i, w, s.getD w false, m w, o.length, 0, 0, 0, [], []⟩ dk (by simp [iN]) hg1 (by simp [iN]) hsw (by simp only [hs]; rfl) (by simp only [iN]; omega) (by simp only [iN, Int.toNat_natCast, Nat.zero_add, Nat.mul_one]; exact hmw) (by simp only [hm]; rfl) ?_)
        intro st hst
        simp only [wi] at hst
        exact ⟨(i + 1, m, o), hst, ⟨h, hS, hmu, hc, next m (.inl hm) fun _ h => h, hme⟩, by simp only; omega⟩
      · have hm := Bool.eq_false_iff.2 hm
        have hcu := cnt_upd m w hm 24 (by omega)
        have hcn := hS.cnt
        refine T.path mix (fin_0 ⟨g, s, v, m, o, 0, r, i, w, s.getD w false, m w, o.length, 0, 0, 0, [], []⟩ dk (by simp [iN]) hg1 (by simp [iN]) hsw (by simp only [hs]; rfl) (by simp only [iN]; omega) (by simp only [iN, Int.toNat_natCast, Nat.zero_add, Nat.mul_one]; exact hmw) (by simp only [hm]; rfl) (by show (_ : Nat) ≤ _; simp only [iN, Int.toNat_natCast]; omega) (by simp) (by simp) (by simp; omega) (by simp; omega) ?_)
        intro st hst
        simp only [wi] at hst
        change Ren 0 st (liC (qz g s v m o r i 0 0) (List.take (0 + (iN w).toNat * 1) (mkC m) ++ [AV.bool true] ++ List.drop (0 + (iN w).toNat * 1 + 1) (mkC m)) (o.map (AV.int .i64) ++ [.int .i64 (iN w)]) ((o.map (AV.int .i64)).length + [AV.int .i64 (iN w)].length) ((i + 1 : Nat) : Int)) at hst
        rw [mkC_upd m w (by omega)] at hst
        have e5 : (o.map (AV.int .i64)).length + [AV.int .i64 (iN w)].length = (o ++ [(w : Int)]).length := by simp
        have e6 : o.map (AV.int .i64) ++ [AV.int .i64 (iN w)] = (o ++ [(w : Int)]).map (AV.int .i64) := by simp
        rw [e5, e6] at hst
        have hle : ∀ x, m x = true → upd m w x = true := fun x hx => by unfold upd; rw [hx]; simp
        refine ⟨(i + 1, upd m w, o ++ [(w : Int)]), hst, ⟨h, ⟨?_, ?_, hle _ hS.beg, ?_⟩, hle _ hmu, ?_, next (upd m w) (.inl (by simp [upd])) hle, ?_⟩, by simp only; omega⟩
        · intro x hx
          rcases List.mem_append.1 hx with hx | hx
          · obtain ⟨y, h1, h2, h3⟩ := hS.stk x hx
            exact ⟨y, h1, h2, hle _ h3⟩
          · simp only [List.mem_singleton] at hx
            exact ⟨w, hx, hw1, by simp [upd]⟩
        · intro x hx
          by_cases e : x = w
          · rw [e]; exact sR hs
          · exact hS.snd x (by simpa [upd, e] using hx)
        · simp only [List.length_append, List.length_cons, List.length_nil]; omega
        · intro x hx hmx
          by_cases e : x = w
          · exact .inl (by rw [e]; simp)
          · rcases hc x hx (by simpa [upd, e] using hmx) with h1 | h1 | h1
            · exact .inl (List.mem_append_left _ h1)
            · exact .inr (.inl h1)
            · exact .inr (.inr (h1.upd w))
        · simp only [List.length_append, List.length_cons, List.length_nil]; omega
  · refine T.out mix (fix_0 (qz g s v m o r i 0 0) (decide_eq_false (by simp only [iN, qz]; omega)) ?_)
    intro st hst
    refine hR m o hS (fun x hx hmx => ?_) hme st hst
    rcases hc x hx hmx with h1 | h1 | h1
    · exact .inl h1
    · exact .inr (by rw [h1]; exact hcl m fun i' hi' => hd i' (by omega))
    · exact .inr h1

theorem found_ct {g : List (List Int)} {s : List Bool} (hg : OkG g s) (v : Nat) (hv : v < g.length) : CT Try.prog 37 [] [.lst (gL g), .lst (boL s), .int .i64 (v : Nat)] [] (.agg (mkC (mR g s v))) := by
  have hgl := hg.len
  have hl := gL_len g
  have hsv := boL_get (s := s) (v := v) (by rw [hg.sh]; exact hv)
  have hb : Try.f37.body = some (bodyOf Try.f37) := by kernel_rfl
  by_cases hs : s.getD v false = true
  · have e : mkC (mR g s v) = mkC (fun _ => false) := mk_ext fun i _ => by
      refine Bool.eq_false_iff.2 fun h => ?_
      have := (mR_iff.1 h).1
      rw [hs] at this; cases this
    rw [e]
    exact CT.path mix Try.func37 hb (Nat.le_of_ble_eq_true rfl) (foz_0 ⟨g, s, v, fun _ => false, [], 0, [], 0, 0, s.getD v false, false, 0, 0, 0, 0, [], []⟩ (by simp [iN]) hsv hs)
  · have hs := Bool.eq_false_iff.2 hs
    refine CT.path mix Try.func37 hb (Nat.le_of_ble_eq_true rfl) (fo_0 ⟨g, s, v, fun _ => false, [], 0, [], 0, 0, s.getD v false, false, 0, 0, 0, 0, [], []⟩ (by simp [iN]) hsv hs (by simp only [iN]; omega) (by show (_ : Nat) ≤ _; simp only [iN, Int.toNat_natCast]; omega) ?_)
    have key : T Try.prog 0 (.loop (loopC (bodyOf Try.f37) 0)) (lo37 (qz g s v (upd (fun _ => false) v) [(v : Int)] [] 0 0 0)) (TK Try.prog 0 (Fin Try.prog Try.f37 0 [] (.agg (mkC (mR g s v)))) (loopK (bodyOf Try.f37) 0)) := by
      have hc1 := cnt_upd (fun _ => false) v rfl 24 (by omega)
      have hc2 := cnt_le (fun _ => false) 24
      refine T.loop (fun y : (Nat → Bool) × List Int => lo37 (qz g s v y.1 y.2 [] 0 0 0)) (fun y => Srch g s v y.1 y.2 ∧ ∀ x, x < g.length → y.1 x = true → (x : Int) ∈ y.2 ∨ ClosedAt g s y.1 x) (fun y => 2 * cnt y.1 24 + y.2.length) (upd (fun _ => false) v, [(v : Int)]) ⟨⟨?_, ?_, by simp [upd], by simp only [List.length_cons, List.length_nil]; omega⟩, ?_⟩ ?_
      · intro x hx
        simp only [List.mem_singleton] at hx
        exact ⟨v, hx, hv, by simp [upd]⟩
      · intro x hx
        by_cases e : x = v
        · rw [e]; exact .refl hs
        · simp [upd, e] at hx
      · intro x hx hmx
        by_cases e : x = v
        · exact .inl (by simp [e])
        · simp [upd, e] at hmx
      · rintro ⟨m, o⟩ ⟨hS, hc⟩
        simp only at hS hc
        have hcn := hS.cnt
        rcases List.eq_nil_or_concat o with rfl | ⟨o', x, rfl⟩
        · have e : mkC (mR g s v) = mkC m := mk_ext fun i _ => by
            rw [Bool.eq_iff_iff, mR_iff]
            constructor
            · intro h
              refine h.2 (fun u => m u = true) hS.beg fun u hu hmu w hw ho => ?_
              rcases hc u hu hmu with h1 | h1
              · cases h1
              · exact h1 w hw ho
            · exact hS.snd i
          rw [e]
          exact T.out mix (fox_0 (qz g s v m [] [] 0 0 0) (by simp [iN, qz]))
        · simp only [List.concat_eq_append] at hS hc hcn ⊢
          obtain ⟨u, rfl, hu, hmu⟩ := hS.stk x (by simp)
          have hlen : (o' ++ [(u : Int)]).length = o'.length + 1 := by simp
          have hw1 : IntKind.i64.wrap (iN (o' ++ [(u : Int)]).length - 1) = ((o'.length : Nat) : Int) := by
            rw [hlen] at hcn ⊢
            have := wrapM1 (o'.length + 1) (by omega) (by omega)
            simp only [iN]; rw [this]; simp
          refine T.path mix (fob_0 ⟨g, s, v, m, o' ++ [(u : Int)], u, g.getD u [], 0, 0, false, false, (o' ++ [(u : Int)]).length, 0, 0, 0, [], []⟩ (decide_eq_true (by simp only [iN, hlen]; omega)) (by simp only [hw1]; omega) (by simp only [hw1]; simp only [iN, hlen]; omega) (by simp only [hw1]; simp [iN]) (by simp only [hw1]; simp only [iN, hlen]; omega) (Int.le_refl _) (by simp [iN]) (gL_get hu) ?_)
          simp only [hw1, lI_len]
          refine T.ren (Ren.trunc 0 2 o'.length _) ?_
          have e7 : ((o' ++ [(u : Int)]).map (AV.int .i64)).take o'.length = o'.map (AV.int .i64) := by
            rw [List.map_append, List.take_append_of_le_length (by simp), List.take_of_length_le (by simp)]
          have k := fi_run hg v hv u hu m o' ⟨fun x hx => hS.stk x (List.mem_append_left _ hx), hS.snd, hS.beg, by simp only [hlen] at hcn; omega⟩ hmu (fun x hx hmx => by
            rcases hc x hx hmx with h1 | h1
            · rcases List.mem_append.1 h1 with h1 | h1
              · exact .inl h1
              · simp only [List.mem_singleton] at h1; exact .inr (.inl (by omega))
            · exact .inr (.inr h1)) (R := fun st' => ∃ j : (Nat → Bool) × List Int, Ren 0 st' (lo37 (qz g s v j.1 j.2 [] 0 0 0)) ∧ (Srch g s v j.1 j.2 ∧ ∀ x, x < g.length → j.1 x = true → (x : Int) ∈ j.2 ∨ ClosedAt g s j.1 x) ∧ 2 * cnt j.1 24 + j.2.length < 2 * cnt m 24 + (o' ++ [(u : Int)]).length)
            (post := TK Try.prog 0 (Fin Try.prog Try.f37 0 [] (.agg (mkC (mR g s v)))) (loopK (bodyOf Try.f37) 0))
            fun m' o'' h1 h2 h3 st hst => ⟨(m', o''), hst, ⟨h1, h2⟩, by simp only [hlen]; omega⟩
          change T Try.prog 0 _ (liC (qz g s v m [] (g.getD u []) 0 0 0) (mkC m) (((o' ++ [(u : Int)]).map (AV.int .i64)).take o'.length) (((o'.length : Nat) : Int).toNat - Int.toNat 0) 0) _
          rw [e7]
          exact k
    have hmk := mkC_upd (fun _ => false) v (by omega)
    change T Try.prog 0 _ { n := Try.f37.ntmps, fr := [(0, .lst (gL g)), (1, .lst (boL s)), (6, .ptr 0 0 0), (7, .ptr 1 0 0), (8, .sl 2 0 1)], hp := [some zB, some { es := [.agg (List.take (0 + (iN v).toNat * 1) (mkC fun _ => false) ++ [AV.bool true] ++ List.drop (0 + (iN v).toNat * 1 + 1) (mkC fun _ => false))], z := 24 }, some (dB [(v : Int)])] } _
    rw [hmk]
    exact key
#print axioms found_ct

theorem from_ct {g : List (List Int)} {s : List Bool} (hg : OkG g s) (ha : Asc g) (v : Nat) (hv : v < g.length) : CT Try.prog 22 [] [.lst (gL g), .lst (boL s), .int .i64 (v : Nat)] [] (.tup [.lst ((mkC (mR g s v)).take g.length), .int .i64 0]) := by
  have hgl := hg.len
  have hl := gL_len g
  have hb : Try.f22.body = some (bodyOf Try.f22) := by kernel_rfl
  have c1 := check36_ct hg ha v hv
  have c2 := found_ct hg v hv
  generalize mR g s v = m at c2 ⊢
  let q : QZ := ⟨g, s, v, m, [], 0, [], 0, 0, false, false, 0, 0, 0, 0, [], []⟩
  refine CT.of Try.func22 hb (Nat.le_of_ble_eq_true rfl) (T.cut (by kernel_rfl) (T.path mix (fm0_0 q fun st hst => T.ren hst ?_)))
  refine T.cut (by kernel_rfl) (T.path mix (fm1_0 q c1 fun st hst => T.ren hst ?_))
  rw [sR_succ 1 (bodyOf Try.f22) (by kernel_rfl)]
  refine T.cut (by kernel_rfl) (T.path mix (fm2_0 q c2 fun st hst => T.ren hst ?_))
  rw [sR_succ 2 (bodyOf Try.f22) (by kernel_rfl)]
  refine T.ren (Ren.flat 0 0 _ (Nat.le_refl _) rfl rfl) ?_
  have k := fm3_0 q (by simp only [iN, hl, q]; omega) (Nat.le_of_ble_eq_true rfl) (by simp only [hl, q]; simp; omega) (by simp; omega) (by simp; omega)
  simp only [q, hl] at k
  exact T.path mix k
#print axioms from_ct
end Go.Proofs.Ytnpmcikbnnlmkaa

/-! The paths of a function, by evaluation. -/
open Go Go.AX Go.Proofs
set_option maxRecDepth 100000
set_option maxHeartbeats 4000000
set_option linter.unusedVariables false
namespace Go.Proofs.Ytnpmcikbnnlmkaa
structure QL where
  L : List Int
  g : List (List Int)
  s : List Bool
  v : Nat
  goal : Nat
  p : List Int
  d : List Int
  h : List Int
  rl : List Bool
  k : Nat
  w : Nat
  x : Int
  y : Int
  z : Int
  b : Bool
  sb : Bool
  r : List Int
  m1 : Nat
  m2 : Nat
noncomputable def st6 (q : QL) : St := { n := Try.f6.ntmps, fr := [(0, lI q.L)], hp := [] }
noncomputable def lo6 (q : QL) : St := { n := Try.f6.ntmps, fr := [(4, .lst (gL q.g)), (5, .lst (boL q.s)), (8, lI q.p), (12, lI q.h), (16, .int .i64 (iN q.k))], hp := [] }
def c6 (q : QL) : Nat → FuncId → List AV → List (Option Blk) → Hint := fun dst f args hp => match f with
  | 8 => .call [] [] [] (.bool true)
  | 9 => match args with
    | [.ptr b _ _, _] => .call [b] [] [tapeB q.L q.m1] (.lst (gL q.g))
    | _ => .no
  | 10 => match args with
    | [.ptr b _ _, _] => .call [b] [] [tapeB q.L q.m2] (.lst (boL q.s))
    | _ => .no
  | 11 => nextG q.L args hp (match dst with | 34 => iN q.v | _ => iN q.goal)
  | 17 => .call [] [] [] (.tup [lI q.p, .int .i64 0])
  | 12 => .call [] [] [] (.tup [lI q.d, .int .i64 0])
  | 14 => .call [] [] [] (.tup [lI q.h, .int .i64 0])
  | 22 => .call [] [] [] (.tup [.lst (boL q.rl), .int .i64 0])
  | 23 => .call [] [] [] (.bool true)
  | _ => .no
def e6 (q : QL) : List (Nat × AV) := [(106, .bool q.b), (116, .bool q.b), (120, .int .i64 q.x), (129, .int .i64 q.y), (138, .int .i64 q.z), (149, .int .i64 q.x), (161, .int .i64 (iN q.w)), (167, .int .i64 (iN q.w)), (177, .int .i64 (iN q.w)), (179, .bool q.sb), (192, .int .i64 (iN q.w)), (194, .int .i64 q.y), (199, .int .i64 q.y), (206, .int .i64 (iN q.w)), (208, lI q.r), (213, .int .i64 q.y)]
theorem pz_0 (q : QL) (h1 : (CT Try.prog (nat_lit 8) [] [] [] (AV.bool true))) (h2 : (CT Try.prog 9 [some (Blk.mk [AV.agg [AV.lst (List.map (AV.int IntKind.i64) q.L), AV.int IntKind.i64 0]] [AV.lst (List.map (AV.int IntKind.i64) q.L), AV.int IntKind.i64 0].length true true)] [AV.ptr 0 0 0, AV.int IntKind.i64 9] [some (Blk.mk [AV.agg [AV.lst (List.map (AV.int IntKind.i64) q.L), AV.int IntKind.i64 (iN q.m1)]] 2 true true)] (AV.lst (gL q.g)))) (h3 : ((iN (gL q.g).length == 0) = true)) : ∃ o' st' q', go Try.prog ({ dec := [(26, true)], els := e6 q, calls := c6 q, unroll := false } : HT) 0 4000 (.inl (bodyOf Try.f6)) [] (st6 q) = some (o', st', q') ∧ q' ∧ Go.AX.Rest Try.prog 0 (Fin Try.prog Try.f6 0 [] (AV.bool true)) st' o' :=
  endF_spec (σ := []) (fz := []) (show endF Try.prog Try.f6 0 [] [] (go Try.prog ({ dec := [(26, true)], els := e6 q, calls := c6 q, unroll := false } : HT) 0 4000 (.inl (bodyOf Try.f6)) [] (st6 q)) = some ([], AV.bool true, (((True ∧ True) ∧ ((((type_of% h1) ∧ True) ∧ ((True ∧ True) ∧ True)) ∧ (True ∧ (((True ∧ True) ∧ ((True ∧ True) ∧ ((True ∧ True) ∧ ((True ∧ True) ∧ True)))) ∧ (((True ∧ True) ∧ ((True ∧ (True ∧ (True ∧ (True ∧ ((type_of% h2) ∧ True))))) ∧ ((True ∧ True) ∧ True))) ∧ (((True ∧ True) ∧ ((True ∧ True) ∧ ((True ∧ True) ∧ True))) ∧ ((type_of% h3) ∧ ((True ∧ True) ∧ True)))))))) ∧ (True ∧ True))) by kernel_rfl) ⟨⟨⟨trivial, trivial⟩, ⟨⟨⟨h1, trivial⟩, ⟨⟨trivial, trivial⟩, trivial⟩⟩, ⟨trivial, ⟨⟨⟨trivial, trivial⟩, ⟨⟨trivial, trivial⟩, ⟨⟨trivial, trivial⟩, ⟨⟨trivial, trivial⟩, trivial⟩⟩⟩⟩, ⟨⟨⟨trivial, trivial⟩, ⟨⟨trivial, ⟨trivial, ⟨trivial, ⟨trivial, ⟨h2, trivial⟩⟩⟩⟩⟩, ⟨⟨trivial, trivial⟩, trivial⟩⟩⟩, ⟨⟨⟨trivial, trivial⟩, ⟨⟨trivial, trivial⟩, ⟨⟨trivial, trivial⟩, trivial⟩⟩⟩, ⟨h3, ⟨⟨trivial, trivial⟩, trivial⟩⟩⟩⟩⟩⟩⟩⟩, ⟨trivial, trivial⟩⟩
theorem pn_0 (q : QL) (h1 : (CT Try.prog (nat_lit 8) [] [] [] (AV.bool true))) (h2 : (CT Try.prog 9 [some (Blk.mk [AV.agg [AV.lst (List.map (AV.int IntKind.i64) q.L), AV.int IntKind.i64 0]] [AV.lst (List.map (AV.int IntKind.i64) q.L), AV.int IntKind.i64 0].length true true)] [AV.ptr 0 0 0, AV.int IntKind.i64 9] [some (Blk.mk [AV.agg [AV.lst (List.map (AV.int IntKind.i64) q.L), AV.int IntKind.i64 (iN q.m1)]] 2 true true)] (AV.lst (gL q.g)))) (h3 : ((iN (gL q.g).length == 0) = false)) (h4 : (CT Try.prog 10 [some (Blk.mk [AV.agg [AV.lst (List.map (AV.int IntKind.i64) q.L), AV.int IntKind.i64 (iN q.m1)]] 2 true true)] [AV.ptr 0 0 0, AV.int IntKind.i64 (iN (gL q.g).length)] [some (Blk.mk [AV.agg [AV.lst (List.map (AV.int IntKind.i64) q.L), AV.int IntKind.i64 (iN q.m2)]] 2 true true)] (AV.lst (boL q.s)))) (h5 : (CT Try.prog 11 [some (Blk.mk [AV.agg [AV.lst (List.map (AV.int IntKind.i64) q.L), AV.int IntKind.i64 (iN q.m2)]] 2 true true)] [AV.ptr 0 0 0, AV.int IntKind.i64 (iN (gL q.g).length)] [some (Blk.mk [AV.agg [AV.lst (List.map (AV.int IntKind.i64) q.L), AV.int IntKind.i64 (iN (q.m2 + 1))]] 2 true true)] (AV.int IntKind.i64 (iN q.v)))) (h6 : (CT Try.prog 11 [some (Blk.mk [AV.agg [AV.lst (List.map (AV.int IntKind.i64) q.L), AV.int IntKind.i64 (iN (q.m2 + 1))]] 2 true true)] [AV.ptr 0 0 0, AV.int IntKind.i64 (iN (gL q.g).length)] [some (Blk.mk [AV.agg [AV.lst (List.map (AV.int IntKind.i64) q.L), AV.int IntKind.i64 (iN (q.m2 + 1 + 1))]] 2 true true)] (AV.int IntKind.i64 (iN q.goal)))) (h7 : (CT Try.prog 17 [] [AV.lst (gL q.g), AV.lst (boL q.s), AV.int IntKind.i64 (iN q.v), AV.int IntKind.i64 (iN q.goal)] [] (AV.tup [AV.lst (List.map (AV.int IntKind.i64) q.p), AV.int IntKind.i64 0]))) (h8 : (CT Try.prog 12 [] [AV.lst (gL q.g), AV.lst (boL q.s), AV.int IntKind.i64 (iN q.goal)] [] (AV.tup [AV.lst (List.map (AV.int IntKind.i64) q.d), AV.int IntKind.i64 0]))) (h9 : (CT Try.prog 14 [] [AV.lst (gL q.g), AV.lst (boL q.s), AV.int IntKind.i64 (iN q.goal)] [] (AV.tup [AV.lst (List.map (AV.int IntKind.i64) q.h), AV.int IntKind.i64 0]))) (h10 : (CT Try.prog 22 [] [AV.lst (gL q.g), AV.lst (boL q.s), AV.int IntKind.i64 (iN q.v)] [] (AV.tup [AV.lst (boL q.rl), AV.int IntKind.i64 0]))) (h11 : ((iN (List.map (AV.int IntKind.i64) q.d).length != iN (gL q.g).length) = false)) (h12 : ((iN (List.map (AV.int IntKind.i64) q.h).length != iN (gL q.g).length) = false)) (h13 : ((iN (boL q.rl).length != iN (gL q.g).length) = false)) (h14 : (0 ≤ iN q.goal)) (h15 : ((boL q.rl)[(iN q.goal).toNat]? = some (AV.bool q.b))) (h16 : ((!q.b == decide (0 < iN (List.map (AV.int IntKind.i64) q.p).length)) = false)) (h17 : (0 ≤ iN q.v)) (h18 : ((List.map (AV.int IntKind.i64) q.d)[(iN q.v).toNat]? = some (AV.int IntKind.i64 q.x))) (h19 : ((!q.b == decide (0 ≤ q.x)) = false)) (h20 : ((iN (List.map (AV.int IntKind.i64) q.p).length == 0) = true)) : ∃ o' st' q', go Try.prog ({ dec := [(26, false), (87, false), (94, false), (101, false), (111, false), (123, false), (127, true)], els := e6 q, calls := c6 q, unroll := false } : HT) 0 4000 (.inl (bodyOf Try.f6)) [] (st6 q) = some (o', st', q') ∧ q' ∧ Go.AX.Rest Try.prog 0 (Fin Try.prog Try.f6 0 [] (AV.bool true)) st' o' :=
  endF_spec (σ := []) (fz := []) (show endF Try.prog Try.f6 0 [] [] (go Try.prog ({ dec := [(26, false), (87, false), (94, false), (101, false), (111, false), (123, false), (127, true)], els := e6 q, calls := c6 q, unroll := false } : HT) 0 4000 (.inl (bodyOf Try.f6)) [] (st6 q)) = some ([], AV.bool true, (((True ∧ True) ∧ ((((type_of% h1) ∧ True) ∧ ((True ∧ True) ∧ True)) ∧ (True ∧ (((True ∧ True) ∧ ((True ∧ True) ∧ ((True ∧ True) ∧ ((True ∧ True) ∧ True)))) ∧ (((True ∧ True) ∧ ((True ∧ (True ∧ (True ∧ (True ∧ ((type_of% h2) ∧ True))))) ∧ ((True ∧ True) ∧ True))) ∧ (((True ∧ True) ∧ ((True ∧ True) ∧ ((True ∧ True) ∧ True))) ∧ ((type_of% h3) ∧ (((True ∧ True) ∧ ((True ∧ True) ∧ ((True ∧ True) ∧ ((True ∧ (True ∧ (True ∧ (True ∧ (True ∧ ((type_of% h4) ∧ True)))))) ∧ ((True ∧ True) ∧ True))))) ∧ (((True ∧ True) ∧ ((True ∧ True) ∧ ((True ∧ True) ∧ ((True ∧ (True ∧ (True ∧ (True ∧ (True ∧ ((type_of% h5) ∧ True)))))) ∧ ((True ∧ True) ∧ ((True ∧ True) ∧ ((True ∧ True) ∧ ((True ∧ (True ∧ (True ∧ (True ∧ (True ∧ ((type_of% h6) ∧ True)))))) ∧ ((True ∧ True) ∧ ((True ∧ True) ∧ True)))))))))) ∧ (((True ∧ True) ∧ ((True ∧ True) ∧ ((True ∧ True) ∧ ((True ∧ True) ∧ ((True ∧ (True ∧ (True ∧ (True ∧ (True ∧ (True ∧ (True ∧ (True ∧ ((type_of% h7) ∧ True))))))))) ∧ ((True ∧ True) ∧ ((True ∧ True) ∧ ((True ∧ True) ∧ ((True ∧ True) ∧ ((True ∧ True) ∧ True)))))))))) ∧ (((True ∧ True) ∧ ((True ∧ True) ∧ ((True ∧ True) ∧ ((True ∧ (True ∧ (True ∧ (True ∧ (True ∧ (True ∧ ((type_of% h8) ∧ True))))))) ∧ ((True ∧ True) ∧ ((True ∧ True) ∧ ((True ∧ True) ∧ ((True ∧ True) ∧ ((True ∧ True) ∧ True))))))))) ∧ (((True ∧ True) ∧ ((True ∧ True) ∧ ((True ∧ True) ∧ ((True ∧ (True ∧ (True ∧ (True ∧ (True ∧ (True ∧ ((type_of% h9) ∧ True))))))) ∧ ((True ∧ True) ∧ ((True ∧ True) ∧ ((True ∧ True) ∧ ((True ∧ True) ∧ ((True ∧ True) ∧ True))))))))) ∧ (((True ∧ True) ∧ ((True ∧ True) ∧ ((True ∧ True) ∧ ((True ∧ (True ∧ (True ∧ (True ∧ (True ∧ (True ∧ ((type_of% h10) ∧ True))))))) ∧ ((True ∧ True) ∧ ((True ∧ True) ∧ ((True ∧ True) ∧ ((True ∧ True) ∧ ((True ∧ True) ∧ True))))))))) ∧ (((True ∧ True) ∧ ((True ∧ True) ∧ ((True ∧ True) ∧ ((True ∧ (True ∧ True)) ∧ ((True ∧ (True ∧ True)) ∧ ((True ∧ (True ∧ True)) ∧ ((True ∧ True) ∧ ((True ∧ (True ∧ True)) ∧ ((True ∧ (True ∧ True)) ∧ ((True ∧ (True ∧ True)) ∧ ((True ∧ True) ∧ ((True ∧ (True ∧ True)) ∧ ((True ∧ (True ∧ True)) ∧ ((True ∧ (True ∧ True)) ∧ ((True ∧ True) ∧ ((True ∧ (True ∧ True)) ∧ ((True ∧ (True ∧ True)) ∧ ((True ∧ (True ∧ True)) ∧ ((True ∧ (True ∧ True)) ∧ ((True ∧ (True ∧ (True ∧ True))) ∧ ((True ∧ ((type_of% h11) ∧ True)) ∧ ((True ∧ True) ∧ ((True ∧ (True ∧ True)) ∧ ((True ∧ (True ∧ True)) ∧ ((True ∧ (True ∧ True)) ∧ ((True ∧ (True ∧ True)) ∧ ((True ∧ (True ∧ (True ∧ True))) ∧ ((True ∧ ((type_of% h12) ∧ True)) ∧ ((True ∧ True) ∧ ((True ∧ (True ∧ True)) ∧ ((True ∧ (True ∧ True)) ∧ ((True ∧ (True ∧ True)) ∧ ((True ∧ (True ∧ True)) ∧ ((True ∧ (True ∧ (True ∧ True))) ∧ ((True ∧ ((type_of% h13) ∧ True)) ∧ ((True ∧ True) ∧ ((True ∧ (True ∧ True)) ∧ ((True ∧ (True ∧ True)) ∧ ((True ∧ (True ∧ (True ∧ ((type_of% h14) ∧ (type_of% h15))))) ∧ ((True ∧ (True ∧ True)) ∧ ((True ∧ (True ∧ True)) ∧ ((True ∧ (True ∧ True)) ∧ ((True ∧ (True ∧ True)) ∧ ((True ∧ (True ∧ (True ∧ True))) ∧ ((True ∧ ((type_of% h16) ∧ True)) ∧ ((True ∧ True) ∧ ((True ∧ (True ∧ True)) ∧ ((True ∧ (True ∧ True)) ∧ ((True ∧ (True ∧ (True ∧ ((type_of% h14) ∧ (type_of% h15))))) ∧ ((True ∧ (True ∧ True)) ∧ ((True ∧ (True ∧ True)) ∧ ((True ∧ (True ∧ True)) ∧ ((True ∧ (True ∧ (True ∧ ((type_of% h17) ∧ (type_of% h18))))) ∧ ((True ∧ (True ∧ True)) ∧ ((True ∧ (True ∧ True)) ∧ ((True ∧ (True ∧ (True ∧ True))) ∧ ((True ∧ ((type_of% h19) ∧ True)) ∧ True))))))))))))))))))))))))))))))))))))))))))))))))))))))))) ∧ (True ∧ (((True ∧ True) ∧ ((True ∧ True) ∧ ((True ∧ True) ∧ True))) ∧ ((type_of% h20) ∧ ((True ∧ True) ∧ True)))))))))))))))))) ∧ (True ∧ True))) by kernel_rfl) ⟨⟨⟨trivial, trivial⟩, ⟨⟨⟨h1, trivial⟩, ⟨⟨trivial, trivial⟩, trivial⟩⟩, ⟨trivial, ⟨⟨⟨trivial, trivial⟩, ⟨⟨trivial, trivial⟩, ⟨⟨trivial, trivial⟩, ⟨⟨trivial, trivial⟩, trivial⟩⟩⟩⟩, ⟨⟨⟨trivial, trivial⟩, ⟨⟨trivial, ⟨trivial, ⟨trivial, ⟨trivial, ⟨h2, trivial⟩⟩⟩⟩⟩, ⟨⟨trivial, trivial⟩, trivial⟩⟩⟩, ⟨⟨⟨trivial, trivial⟩, ⟨⟨trivial, trivial⟩, ⟨⟨trivial, trivial⟩, trivial⟩⟩⟩, ⟨h3, ⟨⟨⟨trivial, trivial⟩, ⟨⟨trivial, trivial⟩, ⟨⟨trivial, trivial⟩, ⟨⟨trivial, ⟨trivial, ⟨trivial, ⟨trivial, ⟨trivial, ⟨h4, trivial⟩⟩⟩⟩⟩⟩, ⟨⟨trivial, trivial⟩, trivial⟩⟩⟩⟩⟩, ⟨⟨⟨trivial, trivial⟩, ⟨⟨trivial, trivial⟩, ⟨⟨trivial, trivial⟩, ⟨⟨trivial, ⟨trivial, ⟨trivial, ⟨trivial, ⟨trivial, ⟨h5, trivial⟩⟩⟩⟩⟩⟩, ⟨⟨trivial, trivial⟩, ⟨⟨trivial, trivial⟩, ⟨⟨trivial, trivial⟩, ⟨⟨trivial, ⟨trivial, ⟨trivial, ⟨trivial, ⟨trivial, ⟨h6, trivial⟩⟩⟩⟩⟩⟩, ⟨⟨trivial, trivial⟩, ⟨⟨trivial, trivial⟩, trivial⟩⟩⟩⟩⟩⟩⟩⟩⟩⟩, ⟨⟨⟨trivial, trivial⟩, ⟨⟨trivial, trivial⟩, ⟨⟨trivial, trivial⟩, ⟨⟨trivial, trivial⟩, ⟨⟨trivial, ⟨trivial, ⟨trivial, ⟨trivial, ⟨trivial, ⟨trivial, ⟨trivial, ⟨trivial, ⟨h7, trivial⟩⟩⟩⟩⟩⟩⟩⟩⟩, ⟨⟨trivial, trivial⟩, ⟨⟨trivial, trivial⟩, ⟨⟨trivial, trivial⟩, ⟨⟨trivial, trivial⟩, ⟨⟨trivial, trivial⟩, trivial⟩⟩⟩⟩⟩⟩⟩⟩⟩⟩, ⟨⟨⟨trivial, trivial⟩, ⟨⟨trivial, trivial⟩, ⟨⟨trivial, trivial⟩, ⟨⟨trivial, ⟨trivial, ⟨trivial, ⟨trivial, ⟨trivial, ⟨trivial, ⟨h8, trivial⟩⟩⟩⟩⟩⟩⟩, ⟨⟨trivial, trivial⟩, ⟨⟨trivial, trivial⟩, ⟨⟨trivial, trivial⟩, ⟨⟨trivial, trivial⟩, ⟨⟨trivial, trivial⟩, trivial⟩⟩⟩⟩⟩⟩⟩⟩⟩, ⟨⟨⟨trivial, trivial⟩, ⟨⟨trivial, trivial⟩, ⟨⟨trivial, trivial⟩, ⟨⟨trivial, ⟨trivial, ⟨trivial, ⟨trivial, ⟨trivial, ⟨trivial, ⟨h9, trivial⟩⟩⟩⟩⟩⟩⟩, ⟨⟨trivial, trivial⟩, ⟨⟨trivial, trivial⟩, ⟨⟨trivial, trivial⟩, ⟨⟨trivial, trivial⟩, ⟨⟨trivial, trivial⟩, trivial⟩⟩⟩⟩⟩⟩⟩⟩⟩, ⟨⟨⟨trivial, trivial⟩, ⟨⟨trivial, trivial⟩, ⟨⟨trivial, trivial⟩, ⟨⟨trivial, ⟨trivial, ⟨trivial, ⟨trivial, ⟨trivial, ⟨trivial, ⟨h10, trivial⟩⟩⟩⟩⟩⟩⟩, ⟨⟨trivial, trivial⟩, ⟨⟨trivial, trivial⟩, ⟨⟨trivial, trivial⟩, ⟨⟨trivial, trivial⟩, ⟨⟨trivial, trivial⟩, trivial⟩⟩⟩⟩⟩⟩⟩⟩⟩, ⟨⟨⟨trivial, trivial⟩, ⟨⟨trivial, trivial⟩, ⟨⟨trivial, trivial⟩, ⟨⟨trivial, ⟨trivial, trivial⟩⟩, ⟨⟨trivial, ⟨trivial, trivial⟩⟩, ⟨⟨trivial, ⟨trivial, trivial⟩⟩, ⟨⟨trivial, trivial⟩, ⟨⟨trivial, ⟨trivial, trivial⟩⟩, ⟨⟨trivial, ⟨trivial, trivial⟩⟩, ⟨⟨trivial, ⟨trivial, trivial⟩⟩, ⟨⟨trivial, trivial⟩, ⟨⟨trivial, ⟨trivial, trivial⟩⟩, ⟨⟨trivial, ⟨trivial, trivial⟩⟩, ⟨⟨trivial, ⟨trivial, trivial⟩⟩, ⟨⟨trivial, trivial⟩, ⟨⟨trivial, ⟨trivial, trivial⟩⟩, ⟨⟨trivial, ⟨trivial, trivial⟩⟩, ⟨⟨trivial, ⟨trivial, trivial⟩⟩, ⟨⟨trivial, ⟨trivial, trivial⟩⟩, ⟨⟨trivial, ⟨trivial, ⟨trivial, trivial⟩⟩⟩, ⟨⟨trivial, ⟨h11, trivial⟩⟩, ⟨⟨trivial, trivial⟩, ⟨⟨trivial, ⟨trivial, trivial⟩⟩, ⟨⟨trivial, ⟨trivial, trivial⟩⟩, ⟨⟨trivial, ⟨trivial, trivial⟩⟩, ⟨⟨trivial, ⟨trivial, trivial⟩⟩, ⟨⟨trivial, ⟨trivial, ⟨trivial, trivial⟩⟩⟩, ⟨⟨trivial, ⟨h12, trivial⟩⟩, ⟨⟨trivial, trivial⟩, ⟨⟨trivial, ⟨trivial, trivial⟩⟩, ⟨⟨trivial, ⟨trivial, trivial⟩⟩, ⟨⟨trivial, ⟨trivial, trivial⟩⟩, ⟨⟨trivial, ⟨trivial, trivial⟩⟩, ⟨⟨trivial, ⟨trivial, ⟨trivial, trivial⟩⟩⟩, ⟨⟨trivial, ⟨h13, trivial⟩⟩, ⟨⟨trivial, trivial⟩, ⟨⟨trivial, ⟨trivial, trivial⟩⟩, ⟨⟨trivial, ⟨trivial, trivial⟩⟩, ⟨⟨trivial, ⟨trivial, ⟨trivial, ⟨h14, h15⟩⟩⟩⟩, ⟨⟨trivial, ⟨trivial, trivial⟩⟩, ⟨⟨trivial, ⟨trivial, trivial⟩⟩, ⟨⟨trivial, ⟨trivial, trivial⟩⟩, ⟨⟨trivial, ⟨trivial, trivial⟩⟩, ⟨⟨trivial, ⟨trivial, ⟨trivial, trivial⟩⟩⟩, ⟨⟨trivial, ⟨h16, trivial⟩⟩, ⟨⟨trivial, trivial⟩, ⟨⟨trivial, ⟨trivial, trivial⟩⟩, ⟨⟨trivial, ⟨trivial, trivial⟩⟩, ⟨⟨trivial, ⟨trivial, ⟨trivial, ⟨h14, h15⟩⟩⟩⟩, ⟨⟨trivial, ⟨trivial, trivial⟩⟩, ⟨⟨trivial, ⟨trivial, trivial⟩⟩, ⟨⟨trivial, ⟨trivial, trivial⟩⟩, ⟨⟨trivial, ⟨trivial, ⟨trivial, ⟨h17, h18⟩⟩⟩⟩, ⟨⟨trivial, ⟨trivial, trivial⟩⟩, ⟨⟨trivial, ⟨trivial, trivial⟩⟩, ⟨⟨trivial, ⟨trivial, ⟨trivial, trivial⟩⟩⟩, ⟨⟨trivial, ⟨h19, trivial⟩⟩, trivial⟩⟩⟩⟩⟩⟩⟩⟩⟩⟩⟩⟩⟩⟩⟩⟩⟩⟩⟩⟩⟩⟩⟩⟩⟩⟩⟩⟩⟩⟩⟩⟩⟩⟩⟩⟩⟩⟩⟩⟩⟩⟩⟩⟩⟩⟩⟩⟩⟩⟩⟩⟩⟩⟩⟩⟩⟩, ⟨trivial, ⟨⟨⟨trivial, trivial⟩, ⟨⟨trivial, trivial⟩, ⟨⟨trivial, trivial⟩, trivial⟩⟩⟩, ⟨h20, ⟨⟨trivial, trivial⟩, trivial⟩⟩⟩⟩⟩⟩⟩⟩⟩⟩⟩⟩⟩⟩⟩⟩⟩⟩, ⟨trivial, trivial⟩⟩
theorem pa_0 (q : QL) (h1 : (CT Try.prog (nat_lit 8) [] [] [] (AV.bool true))) (h2 : (CT Try.prog 9 [some (Blk.mk [AV.agg [AV.lst (List.map (AV.int IntKind.i64) q.L), AV.int IntKind.i64 0]] [AV.lst (List.map (AV.int IntKind.i64) q.L), AV.int IntKind.i64 0].length true true)] [AV.ptr 0 0 0, AV.int IntKind.i64 9] [some (Blk.mk [AV.agg [AV.lst (List.map (AV.int IntKind.i64) q.L), AV.int IntKind.i64 (iN q.m1)]] 2 true true)] (AV.lst (gL q.g)))) (h3 : ((iN (gL q.g).length == 0) = false)) (h4 : (CT Try.prog 10 [some (Blk.mk [AV.agg [AV.lst (List.map (AV.int IntKind.i64) q.L), AV.int IntKind.i64 (iN q.m1)]] 2 true true)] [AV.ptr 0 0 0, AV.int IntKind.i64 (iN (gL q.g).length)] [some (Blk.mk [AV.agg [AV.lst (List.map (AV.int IntKind.i64) q.L), AV.int IntKind.i64 (iN q.m2)]] 2 true true)] (AV.lst (boL q.s)))) (h5 : (CT Try.prog 11 [some (Blk.mk [AV.agg [AV.lst (List.map (AV.int IntKind.i64) q.L), AV.int IntKind.i64 (iN q.m2)]] 2 true true)] [AV.ptr 0 0 0, AV.int IntKind.i64 (iN (gL q.g).length)] [some (Blk.mk [AV.agg [AV.lst (List.map (AV.int IntKind.i64) q.L), AV.int IntKind.i64 (iN (q.m2 + 1))]] 2 true true)] (AV.int IntKind.i64 (iN q.v)))) (h6 : (CT Try.prog 11 [some (Blk.mk [AV.agg [AV.lst (List.map (AV.int IntKind.i64) q.L), AV.int IntKind.i64 (iN (q.m2 + 1))]] 2 true true)] [AV.ptr 0 0 0, AV.int IntKind.i64 (iN (gL q.g).length)] [some (Blk.mk [AV.agg [AV.lst (List.map (AV.int IntKind.i64) q.L), AV.int IntKind.i64 (iN (q.m2 + 1 + 1))]] 2 true true)] (AV.int IntKind.i64 (iN q.goal)))) (h7 : (CT Try.prog 17 [] [AV.lst (gL q.g), AV.lst (boL q.s), AV.int IntKind.i64 (iN q.v), AV.int IntKind.i64 (iN q.goal)] [] (AV.tup [AV.lst (List.map (AV.int IntKind.i64) q.p), AV.int IntKind.i64 0]))) (h8 : (CT Try.prog 12 [] [AV.lst (gL q.g), AV.lst (boL q.s), AV.int IntKind.i64 (iN q.goal)] [] (AV.tup [AV.lst (List.map (AV.int IntKind.i64) q.d), AV.int IntKind.i64 0]))) (h9 : (CT Try.prog 14 [] [AV.lst (gL q.g), AV.lst (boL q.s), AV.int IntKind.i64 (iN q.goal)] [] (AV.tup [AV.lst (List.map (AV.int IntKind.i64) q.h), AV.int IntKind.i64 0]))) (h10 : (CT Try.prog 22 [] [AV.lst (gL q.g), AV.lst (boL q.s), AV.int IntKind.i64 (iN q.v)] [] (AV.tup [AV.lst (boL q.rl), AV.int IntKind.i64 0]))) (h11 : ((iN (List.map (AV.int IntKind.i64) q.d).length != iN (gL q.g).length) = false)) (h12 : ((iN (List.map (AV.int IntKind.i64) q.h).length != iN (gL q.g).length) = false)) (h13 : ((iN (boL q.rl).length != iN (gL q.g).length) = false)) (h14 : (0 ≤ iN q.goal)) (h15 : ((boL q.rl)[(iN q.goal).toNat]? = some (AV.bool q.b))) (h16 : ((!q.b == decide (0 < iN (List.map (AV.int IntKind.i64) q.p).length)) = false)) (h17 : (0 ≤ iN q.v)) (h18 : ((List.map (AV.int IntKind.i64) q.d)[(iN q.v).toNat]? = some (AV.int IntKind.i64 q.x))) (h19 : ((!q.b == decide (0 ≤ q.x)) = false)) (h20 : ((iN (List.map (AV.int IntKind.i64) q.p).length == 0) = false)) (h21 : ((List.map (AV.int IntKind.i64) q.p)[Int.toNat 0]? = some (AV.int IntKind.i64 q.y))) (h22 : ((q.y != iN q.v) = false)) (h23 : (0 ≤ IntKind.i64.wrap (iN (List.map (AV.int IntKind.i64) q.p).length - 1))) (h24 : ((List.map (AV.int IntKind.i64) q.p)[(IntKind.i64.wrap (iN (List.map (AV.int IntKind.i64) q.p).length - 1)).toNat]? = some (AV.int IntKind.i64 q.z))) (h25 : ((q.z != iN q.goal) = false)) (h26 : ((IntKind.i64.wrap (iN (List.map (AV.int IntKind.i64) q.p).length - 1) != q.x) = false)) {post : Exit → St → Prop} (ht : T Try.prog 0 (.loop (loopC (bodyOf Try.f6) 0)) (St.mk 220 [(4, AV.lst (gL q.g)), (5, AV.lst (boL q.s)), (8, AV.lst (List.map (AV.int IntKind.i64) q.p)), (12, AV.lst (List.map (AV.int IntKind.i64) q.h)), (16, AV.int IntKind.i64 0)] []) (TK Try.prog 0 post (loopK (bodyOf Try.f6) 0))) : ∃ o' st' q', go Try.prog ({ dec := [(26, false), (87, false), (94, false), (101, false), (111, false), (123, false), (127, false), (132, false), (141, false), (151, false)], els := e6 q, calls := c6 q, unroll := false } : HT) 0 4000 (.inl (bodyOf Try.f6)) [] (st6 q) = some (o', st', q') ∧ q' ∧ Go.AX.Rest Try.prog 0 post st' o' :=
  endR_spec (σ := []) (fz := []) (vars := [4,5,8,12,16]) (show endR 0 [] [] [4,5,8,12,16] (go Try.prog ({ dec := [(26, false), (87, false), (94, false), (101, false), (111, false), (123, false), (127, false), (132, false), (141, false), (151, false)], els := e6 q, calls := c6 q, unroll := false } : HT) 0 4000 (.inl (bodyOf Try.f6)) [] (st6 q)) = some (loopC (bodyOf Try.f6) 0, loopK (bodyOf Try.f6) 0, St.mk 220 [(4, AV.lst (gL q.g)), (5, AV.lst (boL q.s)), (8, AV.lst (List.map (AV.int IntKind.i64) q.p)), (12, AV.lst (List.map (AV.int IntKind.i64) q.h)), (16, AV.int IntKind.i64 0)] [], (((True ∧ True) ∧ ((((type_of% h1) ∧ True) ∧ ((True ∧ True) ∧ True)) ∧ (True ∧ (((True ∧ True) ∧ ((True ∧ True) ∧ ((True ∧ True) ∧ ((True ∧ True) ∧ True)))) ∧ (((True ∧ True) ∧ ((True ∧ (True ∧ (True ∧ (True ∧ ((type_of% h2) ∧ True))))) ∧ ((True ∧ True) ∧ True))) ∧ (((True ∧ True) ∧ ((True ∧ True) ∧ ((True ∧ True) ∧ True))) ∧ ((type_of% h3) ∧ (((True ∧ True) ∧ ((True ∧ True) ∧ ((True ∧ True) ∧ ((True ∧ (True ∧ (True ∧ (True ∧ (True ∧ ((type_of% h4) ∧ True)))))) ∧ ((True ∧ True) ∧ True))))) ∧ (((True ∧ True) ∧ ((True ∧ True) ∧ ((True ∧ True) ∧ ((True ∧ (True ∧ (True ∧ (True ∧ (True ∧ ((type_of% h5) ∧ True)))))) ∧ ((True ∧ True) ∧ ((True ∧ True) ∧ ((True ∧ True) ∧ ((True ∧ (True ∧ (True ∧ (True ∧ (True ∧ ((type_of% h6) ∧ True)))))) ∧ ((True ∧ True) ∧ ((True ∧ True) ∧ True)))))))))) ∧ (((True ∧ True) ∧ ((True ∧ True) ∧ ((True ∧ True) ∧ ((True ∧ True) ∧ ((True ∧ (True ∧ (True ∧ (True ∧ (True ∧ (True ∧ (True ∧ (True ∧ ((type_of% h7) ∧ True))))))))) ∧ ((True ∧ True) ∧ ((True ∧ True) ∧ ((True ∧ True) ∧ ((True ∧ True) ∧ ((True ∧ True) ∧ True)))))))))) ∧ (((True ∧ True) ∧ ((True ∧ True) ∧ ((True ∧ True) ∧ ((True ∧ (True ∧ (True ∧ (True ∧ (True ∧ (True ∧ ((type_of% h8) ∧ True))))))) ∧ ((True ∧ True) ∧ ((True ∧ True) ∧ ((True ∧ True) ∧ ((True ∧ True) ∧ ((True ∧ True) ∧ True))))))))) ∧ (((True ∧ True) ∧ ((True ∧ True) ∧ ((True ∧ True) ∧ ((True ∧ (True ∧ (True ∧ (True ∧ (True ∧ (True ∧ ((type_of% h9) ∧ True))))))) ∧ ((True ∧ True) ∧ ((True ∧ True) ∧ ((True ∧ True) ∧ ((True ∧ True) ∧ ((True ∧ True) ∧ True))))))))) ∧ (((True ∧ True) ∧ ((True ∧ True) ∧ ((True ∧ True) ∧ ((True ∧ (True ∧ (True ∧ (True ∧ (True ∧ (True ∧ ((type_of% h10) ∧ True))))))) ∧ ((True ∧ True) ∧ ((True ∧ True) ∧ ((True ∧ True) ∧ ((True ∧ True) ∧ ((True ∧ True) ∧ True))))))))) ∧ (((True ∧ True) ∧ ((True ∧ True) ∧ ((True ∧ True) ∧ ((True ∧ (True ∧ True)) ∧ ((True ∧ (True ∧ True)) ∧ ((True ∧ (True ∧ True)) ∧ ((True ∧ True) ∧ ((True ∧ (True ∧ True)) ∧ ((True ∧ (True ∧ True)) ∧ ((True ∧ (True ∧ True)) ∧ ((True ∧ True) ∧ ((True ∧ (True ∧ True)) ∧ ((True ∧ (True ∧ True)) ∧ ((True ∧ (True ∧ True)) ∧ ((True ∧ True) ∧ ((True ∧ (True ∧ True)) ∧ ((True ∧ (True ∧ True)) ∧ ((True ∧ (True ∧ True)) ∧ ((True ∧ (True ∧ True)) ∧ ((True ∧ (True ∧ (True ∧ True))) ∧ ((True ∧ ((type_of% h11) ∧ True)) ∧ ((True ∧ True) ∧ ((True ∧ (True ∧ True)) ∧ ((True ∧ (True ∧ True)) ∧ ((True ∧ (True ∧ True)) ∧ ((True ∧ (True ∧ True)) ∧ ((True ∧ (True ∧ (True ∧ True))) ∧ ((True ∧ ((type_of% h12) ∧ True)) ∧ ((True ∧ True) ∧ ((True ∧ (True ∧ True)) ∧ ((True ∧ (True ∧ True)) ∧ ((True ∧ (True ∧ True)) ∧ ((True ∧ (True ∧ True)) ∧ ((True ∧ (True ∧ (True ∧ True))) ∧ ((True ∧ ((type_of% h13) ∧ True)) ∧ ((True ∧ True) ∧ ((True ∧ (True ∧ True)) ∧ ((True ∧ (True ∧ True)) ∧ ((True ∧ (True ∧ (True ∧ ((type_of% h14) ∧ (type_of% h15))))) ∧ ((True ∧ (True ∧ True)) ∧ ((True ∧ (True ∧ True)) ∧ ((True ∧ (True ∧ True)) ∧ ((True ∧ (True ∧ True)) ∧ ((True ∧ (True ∧ (True ∧ True))) ∧ ((True ∧ ((type_of% h16) ∧ True)) ∧ ((True ∧ True) ∧ ((True ∧ (True ∧ True)) ∧ ((True ∧ (True ∧ True)) ∧ ((True ∧ (True ∧ (True ∧ ((type_of% h14) ∧ (type_of% h15))))) ∧ ((True ∧ (True ∧ True)) ∧ ((True ∧ (True ∧ True)) ∧ ((True ∧ (True ∧ True)) ∧ ((True ∧ (True ∧ (True ∧ ((type_of% h17) ∧ (type_of% h18))))) ∧ ((True ∧ (True ∧ True)) ∧ ((True ∧ (True ∧ True)) ∧ ((True ∧ (True ∧ (True ∧ True))) ∧ ((True ∧ ((type_of% h19) ∧ True)) ∧ True))))))))))))))))))))))))))))))))))))))))))))))))))))))))) ∧ (True ∧ (((True ∧ True) ∧ ((True ∧ True) ∧ ((True ∧ True) ∧ True))) ∧ ((type_of% h20) ∧ (((True ∧ True) ∧ ((True ∧ (((0 : Int) ≤ (0 : Int)) ∧ (type_of% h21))) ∧ ((True ∧ True) ∧ ((True ∧ True) ∧ ((True ∧ (True ∧ True)) ∧ (((type_of% h22) ∧ True) ∧ ((True ∧ (True ∧ True)) ∧ ((True ∧ (True ∧ True)) ∧ ((True ∧ (True ∧ True)) ∧ ((True ∧ (True ∧ True)) ∧ ((True ∧ (True ∧ (True ∧ ((type_of% h23) ∧ (type_of% h24))))) ∧ ((True ∧ (True ∧ True)) ∧ ((True ∧ (True ∧ True)) ∧ ((True ∧ (True ∧ (True ∧ True))) ∧ ((True ∧ ((type_of% h25) ∧ True)) ∧ ((True ∧ True) ∧ ((True ∧ (True ∧ True)) ∧ ((True ∧ (True ∧ True)) ∧ ((True ∧ (True ∧ True)) ∧ ((True ∧ (True ∧ True)) ∧ ((True ∧ (True ∧ True)) ∧ ((True ∧ (True ∧ (True ∧ ((type_of% h17) ∧ (type_of% h18))))) ∧ ((True ∧ (True ∧ True)) ∧ ((True ∧ (True ∧ (True ∧ True))) ∧ ((True ∧ ((type_of% h26) ∧ True)) ∧ True))))))))))))))))))))))))) ∧ (True ∧ ((True ∧ True) ∧ True)))))))))))))))))))) ∧ (True ∧ (True ∧ (True ∧ (True ∧ (True ∧ True))))))) by kernel_rfl) ⟨⟨⟨trivial, trivial⟩, ⟨⟨⟨h1, trivial⟩, ⟨⟨trivial, trivial⟩, trivial⟩⟩, ⟨trivial, ⟨⟨⟨trivial, trivial⟩, ⟨⟨trivial, trivial⟩, ⟨⟨trivial, trivial⟩, ⟨⟨trivial, trivial⟩, trivial⟩⟩⟩⟩, ⟨⟨⟨trivial, trivial⟩, ⟨⟨trivial, ⟨trivial, ⟨trivial, ⟨trivial, ⟨h2, trivial⟩⟩⟩⟩⟩, ⟨⟨trivial, trivial⟩, trivial⟩⟩⟩, ⟨⟨⟨trivial, trivial⟩, ⟨⟨trivial, trivial⟩, ⟨⟨trivial, trivial⟩, trivial⟩⟩⟩, ⟨h3, ⟨⟨⟨trivial, trivial⟩, ⟨⟨trivial, trivial⟩, ⟨⟨trivial, trivial⟩, ⟨⟨trivial, ⟨trivial, ⟨trivial, ⟨trivial, ⟨trivial, ⟨h4, trivial⟩⟩⟩⟩⟩⟩, ⟨⟨trivial, trivial⟩, trivial⟩⟩⟩⟩⟩, ⟨⟨⟨trivial, trivial⟩, ⟨⟨trivial, trivial⟩, ⟨⟨trivial, trivial⟩, ⟨⟨trivial, ⟨trivial, ⟨trivial, ⟨trivial, ⟨trivial, ⟨h5, trivial⟩⟩⟩⟩⟩⟩, ⟨⟨trivial, trivial⟩, ⟨⟨trivial, trivial⟩, ⟨⟨trivial, trivial⟩, ⟨⟨trivial, ⟨trivial, ⟨trivial, ⟨trivial, ⟨trivial, ⟨h6, trivial⟩⟩⟩⟩⟩⟩, ⟨⟨trivial, trivial⟩, ⟨⟨trivial, trivial⟩, trivial⟩⟩⟩⟩⟩⟩⟩⟩⟩⟩, ⟨⟨⟨trivial, trivial⟩, ⟨⟨trivial, trivial⟩, ⟨⟨trivial, trivial⟩, ⟨⟨trivial, trivial⟩, ⟨⟨trivial, ⟨trivial, ⟨trivial, ⟨trivial, ⟨trivial, ⟨trivial, ⟨trivial, ⟨trivial, ⟨h7, trivial⟩⟩⟩⟩⟩⟩⟩⟩⟩, ⟨⟨trivial, trivial⟩, ⟨⟨trivial, trivial⟩, ⟨⟨trivial, trivial⟩, ⟨⟨trivial, trivial⟩, ⟨⟨trivial, trivial⟩, trivial⟩⟩⟩⟩⟩⟩⟩⟩⟩⟩, ⟨⟨⟨trivial, trivial⟩, ⟨⟨trivial, trivial⟩, ⟨⟨trivial, trivial⟩, ⟨⟨trivial, ⟨trivial, ⟨trivial, ⟨trivial, ⟨trivial, ⟨trivial, ⟨h8, trivial⟩⟩⟩⟩⟩⟩⟩, ⟨⟨trivial, trivial⟩, ⟨⟨trivial, trivial⟩, ⟨⟨trivial, trivial⟩, ⟨⟨trivial, trivial⟩, ⟨⟨trivial, trivial⟩, trivial⟩⟩⟩⟩⟩⟩⟩⟩⟩, ⟨⟨⟨trivial, trivial⟩, ⟨⟨trivial, trivial⟩, ⟨⟨trivial, trivial⟩, ⟨⟨trivial, ⟨trivial, ⟨trivial, ⟨trivial, ⟨trivial, ⟨trivial, ⟨h9, trivial⟩⟩⟩⟩⟩⟩⟩, ⟨⟨trivial, trivial⟩, ⟨⟨trivial, trivial⟩, ⟨⟨trivial, trivial⟩, ⟨⟨trivial, trivial⟩, ⟨⟨trivial, trivial⟩, trivial⟩⟩⟩⟩⟩⟩⟩⟩⟩, ⟨⟨⟨trivial, trivial⟩, ⟨⟨trivial, trivial⟩, ⟨⟨trivial, trivial⟩, ⟨⟨trivial, ⟨trivial, ⟨trivial, ⟨trivial, ⟨trivial, ⟨trivial, ⟨h10, trivial⟩⟩⟩⟩⟩⟩⟩, ⟨⟨trivial, trivial⟩, ⟨⟨trivial, trivial⟩, ⟨⟨trivial, trivial⟩, ⟨⟨trivial, trivial⟩, ⟨⟨trivial, trivial⟩, trivial⟩⟩⟩⟩⟩⟩⟩⟩⟩, ⟨⟨⟨trivial, trivial⟩, ⟨⟨trivial, trivial⟩, ⟨⟨trivial, trivial⟩, ⟨⟨trivial, ⟨trivial, trivial⟩⟩, ⟨⟨trivial, ⟨trivial, trivial⟩⟩, ⟨⟨trivial, ⟨trivial, trivial⟩⟩, ⟨⟨trivial, trivial⟩, ⟨⟨trivial, ⟨trivial, trivial⟩⟩, ⟨⟨trivial, ⟨trivial, trivial⟩⟩, ⟨⟨trivial, ⟨trivial, trivial⟩⟩, ⟨⟨trivial, trivial⟩, ⟨⟨trivial, ⟨trivial, trivial⟩⟩, ⟨⟨trivial, ⟨trivial, trivial⟩⟩, ⟨⟨trivial, ⟨trivial, trivial⟩⟩, ⟨⟨trivial, trivial⟩, ⟨⟨trivial, ⟨trivial, trivial⟩⟩, ⟨⟨trivial, ⟨trivial, trivial⟩⟩, ⟨⟨trivial, ⟨trivial, trivial⟩⟩, ⟨⟨trivial, ⟨trivial, trivial⟩⟩, ⟨⟨trivial, ⟨trivial, ⟨trivial, trivial⟩⟩⟩, ⟨⟨trivial, ⟨h11, trivial⟩⟩, ⟨⟨trivial, trivial⟩, ⟨⟨trivial, ⟨trivial, trivial⟩⟩, ⟨⟨trivial, ⟨trivial, trivial⟩⟩, ⟨⟨trivial, ⟨trivial, trivial⟩⟩, ⟨⟨trivial, ⟨trivial, trivial⟩⟩, ⟨⟨trivial, ⟨trivial, ⟨trivial, trivial⟩⟩⟩, ⟨⟨trivial, ⟨h12, trivial⟩⟩, ⟨⟨trivial, trivial⟩, ⟨⟨trivial, ⟨trivial, trivial⟩⟩, ⟨⟨trivial, ⟨trivial, trivial⟩⟩, ⟨⟨trivial, ⟨trivial, trivial⟩⟩, ⟨⟨trivial, ⟨trivial, trivial⟩⟩, ⟨⟨trivial, ⟨trivial, ⟨trivial, trivial⟩⟩⟩, ⟨⟨trivial, ⟨h13, trivial⟩⟩, ⟨⟨trivial, trivial⟩, ⟨⟨trivial, ⟨trivial, trivial⟩⟩, ⟨⟨trivial, ⟨trivial, trivial⟩⟩, ⟨⟨trivial, ⟨trivial, ⟨trivial, ⟨h14, h15⟩⟩⟩⟩, ⟨⟨trivial, ⟨trivial, trivial⟩⟩, ⟨⟨trivial, ⟨trivial, trivial⟩⟩, ⟨⟨trivial, ⟨trivial, trivial⟩⟩, ⟨⟨trivial, ⟨trivial, trivial⟩⟩, ⟨⟨trivial, ⟨trivial, ⟨trivial, trivial⟩⟩⟩, ⟨⟨trivial, ⟨h16, trivial⟩⟩, ⟨⟨trivial, trivial⟩, ⟨⟨trivial, ⟨trivial, trivial⟩⟩, ⟨⟨trivial, ⟨trivial, trivial⟩⟩, ⟨⟨trivial, ⟨trivial, ⟨trivial, ⟨h14, h15⟩⟩⟩⟩, ⟨⟨trivial, ⟨trivial, trivial⟩⟩, ⟨⟨trivial, ⟨trivial, trivial⟩⟩, ⟨⟨trivial, ⟨trivial, trivial⟩⟩, ⟨⟨trivial, ⟨trivial, ⟨trivial, ⟨h17, h18⟩⟩⟩⟩, ⟨⟨trivial, ⟨trivial, trivial⟩⟩, ⟨⟨trivial, ⟨trivial, trivial⟩⟩, ⟨⟨trivial, ⟨trivial, ⟨trivial, trivial⟩⟩⟩, ⟨⟨trivial, ⟨h19, trivial⟩⟩, trivial⟩⟩⟩⟩⟩⟩⟩⟩⟩⟩⟩⟩⟩⟩⟩⟩⟩⟩⟩⟩⟩⟩⟩⟩⟩⟩⟩⟩⟩⟩⟩⟩⟩⟩⟩⟩⟩⟩⟩⟩⟩⟩⟩⟩⟩⟩⟩⟩⟩⟩⟩⟩⟩⟩⟩⟩⟩, ⟨trivial, ⟨⟨⟨trivial, trivial⟩, ⟨⟨trivial, trivial⟩, ⟨⟨trivial, trivial⟩, trivial⟩⟩⟩, ⟨h20, ⟨⟨⟨trivial, trivial⟩, ⟨⟨trivial, ⟨(by first | exact Nat.le_of_ble_eq_true rfl | decide), h21⟩⟩, ⟨⟨trivial, trivial⟩, ⟨⟨trivial, trivial⟩, ⟨⟨trivial, ⟨trivial, trivial⟩⟩, ⟨⟨h22, trivial⟩, ⟨⟨trivial, ⟨trivial, trivial⟩⟩, ⟨⟨trivial, ⟨trivial, trivial⟩⟩, ⟨⟨trivial, ⟨trivial, trivial⟩⟩, ⟨⟨trivial, ⟨trivial, trivial⟩⟩, ⟨⟨trivial, ⟨trivial, ⟨trivial, ⟨h23, h24⟩⟩⟩⟩, ⟨⟨trivial, ⟨trivial, trivial⟩⟩, ⟨⟨trivial, ⟨trivial, trivial⟩⟩, ⟨⟨trivial, ⟨trivial, ⟨trivial, trivial⟩⟩⟩, ⟨⟨trivial, ⟨h25, trivial⟩⟩, ⟨⟨trivial, trivial⟩, ⟨⟨trivial, ⟨trivial, trivial⟩⟩, ⟨⟨trivial, ⟨trivial, trivial⟩⟩, ⟨⟨trivial, ⟨trivial, trivial⟩⟩, ⟨⟨trivial, ⟨trivial, trivial⟩⟩, ⟨⟨trivial, ⟨trivial, trivial⟩⟩, ⟨⟨trivial, ⟨trivial, ⟨trivial, ⟨h17, h18⟩⟩⟩⟩, ⟨⟨trivial, ⟨trivial, trivial⟩⟩, ⟨⟨trivial, ⟨trivial, ⟨trivial, trivial⟩⟩⟩, ⟨⟨trivial, ⟨h26, trivial⟩⟩, trivial⟩⟩⟩⟩⟩⟩⟩⟩⟩⟩⟩⟩⟩⟩⟩⟩⟩⟩⟩⟩⟩⟩⟩⟩⟩, ⟨trivial, ⟨⟨trivial, trivial⟩, trivial⟩⟩⟩⟩⟩⟩⟩⟩⟩⟩⟩⟩⟩⟩⟩⟩⟩⟩⟩⟩, ⟨trivial, ⟨trivial, ⟨trivial, ⟨trivial, ⟨trivial, trivial⟩⟩⟩⟩⟩⟩ ht
theorem px_0 (q : QL) (h1 : (decide (iN q.k < iN (List.map (AV.int IntKind.i64) q.p).length) = false)) : ∃ o' st' q', go2 Try.prog ({ dec := [(156, false)], els := e6 q, calls := c6 q, unroll := false } : HT) 0 4000 (loopC (bodyOf Try.f6) 0) (loopK (bodyOf Try.f6) 0) (lo6 q) = some (o', st', q') ∧ q' ∧ Go.AX.Rest Try.prog 0 (Fin Try.prog Try.f6 0 [] (AV.bool true)) st' o' :=
  endF_spec (σ := []) (fz := []) (show endF Try.prog Try.f6 0 [] [] (go2 Try.prog ({ dec := [(156, false)], els := e6 q, calls := c6 q, unroll := false } : HT) 0 4000 (loopC (bodyOf Try.f6) 0) (loopK (bodyOf Try.f6) 0) (lo6 q)) = some ([], AV.bool true, (((((True ∧ True) ∧ ((True ∧ True) ∧ ((True ∧ True) ∧ ((True ∧ (True ∧ True)) ∧ True)))) ∧ ((type_of% h1) ∧ True)) ∧ ((True ∧ True) ∧ True)) ∧ (True ∧ True))) by kernel_rfl) ⟨⟨⟨⟨⟨trivial, trivial⟩, ⟨⟨trivial, trivial⟩, ⟨⟨trivial, trivial⟩, ⟨⟨trivial, ⟨trivial, trivial⟩⟩, trivial⟩⟩⟩⟩, ⟨h1, trivial⟩⟩, ⟨⟨trivial, trivial⟩, trivial⟩⟩, ⟨trivial, trivial⟩⟩
theorem pk_0 (q : QL) (h1 : (decide (iN q.k < iN (List.map (AV.int IntKind.i64) q.p).length) = true)) (h2 : (0 ≤ iN q.k)) (h3 : ((List.map (AV.int IntKind.i64) q.p)[(iN q.k).toNat]? = some (AV.int IntKind.i64 (iN q.w)))) (h4 : (decide (iN (gL q.g).length ≤ iN q.w) = false)) (h5 : (0 ≤ iN q.w)) (h6 : ((boL q.s)[(iN q.w).toNat]? = some (AV.bool q.sb))) (h7 : (q.sb = false)) (h8 : (decide (IntKind.i64.wrap (iN q.k + 1) < iN (List.map (AV.int IntKind.i64) q.p).length) = true)) (h9 : ((List.map (AV.int IntKind.i64) q.h)[(iN q.w).toNat]? = some (AV.int IntKind.i64 q.y))) (h10 : (0 ≤ IntKind.i64.wrap (iN q.k + 1))) (h11 : ((List.map (AV.int IntKind.i64) q.p)[(IntKind.i64.wrap (iN q.k + 1)).toNat]? = some (AV.int IntKind.i64 q.y))) (h12 : ((q.y != q.y) = false)) (h13 : ((gL q.g)[(iN q.w).toNat]? = some (AV.lst (List.map (AV.int IntKind.i64) q.r)))) (h14 : (CT Try.prog 23 [] [AV.lst (List.map (AV.int IntKind.i64) q.r), AV.int IntKind.i64 q.y] [] (AV.bool true))) {post : Exit → St → Prop} {R : St → Prop} (hR : ∀ st, Ren 0 st (St.mk 220 [(4, AV.lst (gL q.g)), (5, AV.lst (boL q.s)), (8, AV.lst (List.map (AV.int IntKind.i64) q.p)), (12, AV.lst (List.map (AV.int IntKind.i64) q.h)), (16, AV.int IntKind.i64 (IntKind.i64.wrap (iN q.k + 1)))] []) → R st) : ∃ o' st' q', go Try.prog ({ dec := [(156, true), (163, false), (171, false), (180, false), (187, true), (201, false)], els := e6 q, calls := c6 q, unroll := false } : HT) 0 4000 (.inl (loopC (bodyOf Try.f6) 0)) [] (lo6 q) = some (o', st', q') ∧ q' ∧ Go.AX.Rest Try.prog 0 (andThen R post) st' o' :=
  endN_spec (σ := []) (fz := []) (vars := [4,5,8,12,16]) (show endN 0 [] [] [4,5,8,12,16] (go Try.prog ({ dec := [(156, true), (163, false), (171, false), (180, false), (187, true), (201, false)], els := e6 q, calls := c6 q, unroll := false } : HT) 0 4000 (.inl (loopC (bodyOf Try.f6) 0)) [] (lo6 q)) = some (St.mk 220 [(4, AV.lst (gL q.g)), (5, AV.lst (boL q.s)), (8, AV.lst (List.map (AV.int IntKind.i64) q.p)), (12, AV.lst (List.map (AV.int IntKind.i64) q.h)), (16, AV.int IntKind.i64 (IntKind.i64.wrap (iN q.k + 1)))] [], ((((True ∧ True) ∧ ((True ∧ True) ∧ ((True ∧ True) ∧ ((True ∧ (True ∧ True)) ∧ True)))) ∧ ((type_of% h1) ∧ (((True ∧ True) ∧ ((True ∧ True) ∧ ((True ∧ (True ∧ ((type_of% h2) ∧ (type_of% h3)))) ∧ ((True ∧ True) ∧ ((True ∧ True) ∧ (((false = false) ∧ True) ∧ ((True ∧ (True ∧ True)) ∧ ((True ∧ (True ∧ True)) ∧ ((True ∧ (True ∧ (True ∧ ((type_of% h2) ∧ (type_of% h3))))) ∧ ((True ∧ (True ∧ True)) ∧ ((True ∧ (True ∧ True)) ∧ ((True ∧ (True ∧ True)) ∧ ((True ∧ (True ∧ (True ∧ True))) ∧ ((True ∧ ((type_of% h4) ∧ True)) ∧ ((True ∧ True) ∧ ((True ∧ (True ∧ True)) ∧ ((True ∧ (True ∧ True)) ∧ ((True ∧ (True ∧ True)) ∧ ((True ∧ (True ∧ (True ∧ ((type_of% h2) ∧ (type_of% h3))))) ∧ ((True ∧ (True ∧ True)) ∧ ((True ∧ (True ∧ (True ∧ ((type_of% h5) ∧ (type_of% h6))))) ∧ ((True ∧ (True ∧ True)) ∧ ((True ∧ ((type_of% h7) ∧ True)) ∧ ((True ∧ True) ∧ ((True ∧ (True ∧ True)) ∧ ((True ∧ (True ∧ True)) ∧ ((True ∧ (True ∧ True)) ∧ ((True ∧ (True ∧ True)) ∧ ((True ∧ (True ∧ (True ∧ True))) ∧ ((True ∧ ((type_of% h8) ∧ True)) ∧ ((True ∧ (True ∧ True)) ∧ ((True ∧ (True ∧ True)) ∧ ((True ∧ (True ∧ True)) ∧ ((True ∧ (True ∧ (True ∧ ((type_of% h2) ∧ (type_of% h3))))) ∧ ((True ∧ (True ∧ True)) ∧ ((True ∧ (True ∧ (True ∧ ((type_of% h5) ∧ (type_of% h9))))) ∧ ((True ∧ (True ∧ True)) ∧ ((True ∧ (True ∧ True)) ∧ ((True ∧ (True ∧ True)) ∧ ((True ∧ (True ∧ True)) ∧ ((True ∧ (True ∧ (True ∧ ((type_of% h10) ∧ (type_of% h11))))) ∧ ((True ∧ (True ∧ True)) ∧ ((True ∧ (True ∧ (True ∧ True))) ∧ ((True ∧ ((type_of% h12) ∧ True)) ∧ ((True ∧ (True ∧ True)) ∧ ((True ∧ (True ∧ True)) ∧ ((True ∧ (True ∧ True)) ∧ ((True ∧ (True ∧ (True ∧ ((type_of% h2) ∧ (type_of% h3))))) ∧ ((True ∧ (True ∧ True)) ∧ ((True ∧ (True ∧ (True ∧ ((type_of% h5) ∧ (type_of% h13))))) ∧ ((True ∧ (True ∧ True)) ∧ ((True ∧ (True ∧ True)) ∧ ((True ∧ (True ∧ True)) ∧ ((True ∧ (True ∧ True)) ∧ ((True ∧ (True ∧ (True ∧ ((type_of% h10) ∧ (type_of% h11))))) ∧ ((True ∧ (True ∧ True)) ∧ ((True ∧ (True ∧ (True ∧ (True ∧ (True ∧ ((type_of% h14) ∧ True)))))) ∧ ((True ∧ (True ∧ True)) ∧ ((True ∧ (True ∧ (True ∧ True))) ∧ ((True ∧ (True ∧ (True ∧ True))) ∧ ((True ∧ (True ∧ True)) ∧ True))))))))))))))))))))))))))))))))))))))))))))))))))))))))))))) ∧ (True ∧ (((True ∧ True) ∧ ((True ∧ True) ∧ ((True ∧ True) ∧ True))) ∧ True))))) ∧ (True ∧ (True ∧ (True ∧ (True ∧ (True ∧ True))))))) by kernel_rfl) ⟨⟨⟨⟨trivial, trivial⟩, ⟨⟨trivial, trivial⟩, ⟨⟨trivial, trivial⟩, ⟨⟨trivial, ⟨trivial, trivial⟩⟩, trivial⟩⟩⟩⟩, ⟨h1, ⟨⟨⟨trivial, trivial⟩, ⟨⟨trivial, trivial⟩, ⟨⟨trivial, ⟨trivial, ⟨h2, h3⟩⟩⟩, ⟨⟨trivial, trivial⟩, ⟨⟨trivial, trivial⟩, ⟨⟨(by first | decide | exact Int.NonNeg.mk _), trivial⟩, ⟨⟨trivial, ⟨trivial, trivial⟩⟩, ⟨⟨trivial, ⟨trivial, trivial⟩⟩, ⟨⟨trivial, ⟨trivial, ⟨trivial, ⟨h2, h3⟩⟩⟩⟩, ⟨⟨trivial, ⟨trivial, trivial⟩⟩, ⟨⟨trivial, ⟨trivial, trivial⟩⟩, ⟨⟨trivial, ⟨trivial, trivial⟩⟩, ⟨⟨trivial, ⟨trivial, ⟨trivial, trivial⟩⟩⟩, ⟨⟨trivial, ⟨h4, trivial⟩⟩, ⟨⟨trivial, trivial⟩, ⟨⟨trivial, ⟨trivial, trivial⟩⟩, ⟨⟨trivial, ⟨trivial, trivial⟩⟩, ⟨⟨trivial, ⟨trivial, trivial⟩⟩, ⟨⟨trivial, ⟨trivial, ⟨trivial, ⟨h2, h3⟩⟩⟩⟩, ⟨⟨trivial, ⟨trivial, trivial⟩⟩, ⟨⟨trivial, ⟨trivial, ⟨trivial, ⟨h5, h6⟩⟩⟩⟩, ⟨⟨trivial, ⟨trivial, trivial⟩⟩, ⟨⟨trivial, ⟨h7, trivial⟩⟩, ⟨⟨trivial, trivial⟩, ⟨⟨trivial, ⟨trivial, trivial⟩⟩, ⟨⟨trivial, ⟨trivial, trivial⟩⟩, ⟨⟨trivial, ⟨trivial, trivial⟩⟩, ⟨⟨trivial, ⟨trivial, trivial⟩⟩, ⟨⟨trivial, ⟨trivial, ⟨trivial, trivial⟩⟩⟩, ⟨⟨trivial, ⟨h8, trivial⟩⟩, ⟨⟨trivial, ⟨trivial, trivial⟩⟩, ⟨⟨trivial, ⟨trivial, trivial⟩⟩, ⟨⟨trivial, ⟨trivial, trivial⟩⟩, ⟨⟨trivial, ⟨trivial, ⟨trivial, ⟨h2, h3⟩⟩⟩⟩, ⟨⟨trivial, ⟨trivial, trivial⟩⟩, ⟨⟨trivial, ⟨trivial, ⟨trivial, ⟨h5, h9⟩⟩⟩⟩, ⟨⟨trivial, ⟨trivial, trivial⟩⟩, ⟨⟨trivial, ⟨trivial, trivial⟩⟩, ⟨⟨trivial, ⟨trivial, trivial⟩⟩, ⟨⟨trivial, ⟨trivial, trivial⟩⟩, ⟨⟨trivial, ⟨trivial, ⟨trivial, ⟨h10, h11⟩⟩⟩⟩, ⟨⟨trivial, ⟨trivial, trivial⟩⟩, ⟨⟨trivial, ⟨trivial, ⟨trivial, trivial⟩⟩⟩, ⟨⟨trivial, ⟨h12, trivial⟩⟩, ⟨⟨trivial, ⟨trivial, trivial⟩⟩, ⟨⟨trivial, ⟨trivial, trivial⟩⟩, ⟨⟨trivial, ⟨trivial, trivial⟩⟩, ⟨⟨trivial, ⟨trivial, ⟨trivial, ⟨h2, h3⟩⟩⟩⟩, ⟨⟨trivial, ⟨trivial, trivial⟩⟩, ⟨⟨trivial, ⟨trivial, ⟨trivial, ⟨h5, h13⟩⟩⟩⟩, ⟨⟨trivial, ⟨trivial, trivial⟩⟩, ⟨⟨trivial, ⟨trivial, trivial⟩⟩, ⟨⟨trivial, ⟨trivial, trivial⟩⟩, ⟨⟨trivial, ⟨trivial, trivial⟩⟩, ⟨⟨trivial, ⟨trivial, ⟨trivial, ⟨h10, h11⟩⟩⟩⟩, ⟨⟨trivial, ⟨trivial, trivial⟩⟩, ⟨⟨trivial, ⟨trivial, ⟨trivial, ⟨trivial, ⟨trivial, ⟨h14, trivial⟩⟩⟩⟩⟩⟩, ⟨⟨trivial, ⟨trivial, trivial⟩⟩, ⟨⟨trivial, ⟨trivial, ⟨trivial, trivial⟩⟩⟩, ⟨⟨trivial, ⟨trivial, ⟨trivial, trivial⟩⟩⟩, ⟨⟨trivial, ⟨trivial, trivial⟩⟩, trivial⟩⟩⟩⟩⟩⟩⟩⟩⟩⟩⟩⟩⟩⟩⟩⟩⟩⟩⟩⟩⟩⟩⟩⟩⟩⟩⟩⟩⟩⟩⟩⟩⟩⟩⟩⟩⟩⟩⟩⟩⟩⟩⟩⟩⟩⟩⟩⟩⟩⟩⟩⟩⟩⟩⟩⟩⟩⟩⟩⟩⟩, ⟨trivial, ⟨⟨⟨trivial, trivial⟩, ⟨⟨trivial, trivial⟩, ⟨⟨trivial, trivial⟩, trivial⟩⟩⟩, trivial⟩⟩⟩⟩⟩, ⟨trivial, ⟨trivial, ⟨trivial, ⟨trivial, ⟨trivial, trivial⟩⟩⟩⟩⟩⟩ hR
theorem pl_0 (q : QL) (h1 : (decide (iN q.k < iN (List.map (AV.int IntKind.i64) q.p).length) = true)) (h2 : (0 ≤ iN q.k)) (h3 : ((List.map (AV.int IntKind.i64) q.p)[(iN q.k).toNat]? = some (AV.int IntKind.i64 (iN q.w)))) (h4 : (decide (iN (gL q.g).length ≤ iN q.w) = false)) (h5 : (0 ≤ iN q.w)) (h6 : ((boL q.s)[(iN q.w).toNat]? = some (AV.bool q.sb))) (h7 : (q.sb = false)) (h8 : (decide (IntKind.i64.wrap (iN q.k + 1) < iN (List.map (AV.int IntKind.i64) q.p).length) = false)) {post : Exit → St → Prop} {R : St → Prop} (hR : ∀ st, Ren 0 st (St.mk 220 [(4, AV.lst (gL q.g)), (5, AV.lst (boL q.s)), (8, AV.lst (List.map (AV.int IntKind.i64) q.p)), (12, AV.lst (List.map (AV.int IntKind.i64) q.h)), (16, AV.int IntKind.i64 (IntKind.i64.wrap (iN q.k + 1)))] []) → R st) : ∃ o' st' q', go Try.prog ({ dec := [(156, true), (163, false), (171, false), (180, false), (187, false)], els := e6 q, calls := c6 q, unroll := false } : HT) 0 4000 (.inl (loopC (bodyOf Try.f6) 0)) [] (lo6 q) = some (o', st', q') ∧ q' ∧ Go.AX.Rest Try.prog 0 (andThen R post) st' o' :=
  endN_spec (σ := []) (fz := []) (vars := [4,5,8,12,16]) (show endN 0 [] [] [4,5,8,12,16] (go Try.prog ({ dec := [(156, true), (163, false), (171, false), (180, false), (187, false)], els := e6 q, calls := c6 q, unroll := false } : HT) 0 4000 (.inl (loopC (bodyOf Try.f6) 0)) [] (lo6 q)) = some (St.mk 220 [(4, AV.lst (gL q.g)), (5, AV.lst (boL q.s)), (8, AV.lst (List.map (AV.int IntKind.i64) q.p)), (12, AV.lst (List.map (AV.int IntKind.i64) q.h)), (16, AV.int IntKind.i64 (IntKind.i64.wrap (iN q.k + 1)))] [], ((((True ∧ True) ∧ ((True ∧ True) ∧ ((True ∧ True) ∧ ((True ∧ (True ∧ True)) ∧ True)))) ∧ ((type_of% h1) ∧ (((True ∧ True) ∧ ((True ∧ True) ∧ ((True ∧ (True ∧ ((type_of% h2) ∧ (type_of% h3)))) ∧ ((True ∧ True) ∧ ((True ∧ True) ∧ (((false = false) ∧ True) ∧ ((True ∧ (True ∧ True)) ∧ ((True ∧ (True ∧ True)) ∧ ((True ∧ (True ∧ (True ∧ ((type_of% h2) ∧ (type_of% h3))))) ∧ ((True ∧ (True ∧ True)) ∧ ((True ∧ (True ∧ True)) ∧ ((True ∧ (True ∧ True)) ∧ ((True ∧ (True ∧ (True ∧ True))) ∧ ((True ∧ ((type_of% h4) ∧ True)) ∧ ((True ∧ True) ∧ ((True ∧ (True ∧ True)) ∧ ((True ∧ (True ∧ True)) ∧ ((True ∧ (True ∧ True)) ∧ ((True ∧ (True ∧ (True ∧ ((type_of% h2) ∧ (type_of% h3))))) ∧ ((True ∧ (True ∧ True)) ∧ ((True ∧ (True ∧ (True ∧ ((type_of% h5) ∧ (type_of% h6))))) ∧ ((True ∧ (True ∧ True)) ∧ ((True ∧ ((type_of% h7) ∧ True)) ∧ ((True ∧ True) ∧ ((True ∧ (True ∧ True)) ∧ ((True ∧ (True ∧ True)) ∧ ((True ∧ (True ∧ True)) ∧ ((True ∧ (True ∧ True)) ∧ ((True ∧ (True ∧ (True ∧ True))) ∧ ((True ∧ ((type_of% h8) ∧ True)) ∧ (True ∧ (True ∧ (True ∧ (True ∧ (True ∧ (True ∧ (True ∧ (True ∧ (True ∧ (True ∧ (True ∧ (True ∧ (True ∧ (True ∧ (True ∧ (True ∧ (True ∧ (True ∧ (True ∧ (True ∧ (True ∧ (True ∧ (True ∧ (True ∧ (True ∧ (True ∧ (True ∧ (True ∧ (True ∧ ((True ∧ (True ∧ (True ∧ True))) ∧ ((True ∧ (True ∧ True)) ∧ True))))))))))))))))))))))))))))))))))))))))))))))))))))))))))))) ∧ (True ∧ (((True ∧ True) ∧ ((True ∧ True) ∧ ((True ∧ True) ∧ True))) ∧ True))))) ∧ (True ∧ (True ∧ (True ∧ (True ∧ (True ∧ True))))))) by kernel_rfl) ⟨⟨⟨⟨trivial, trivial⟩, ⟨⟨trivial, trivial⟩, ⟨⟨trivial, trivial⟩, ⟨⟨trivial, ⟨trivial, trivial⟩⟩, trivial⟩⟩⟩⟩, ⟨h1, ⟨⟨⟨trivial, trivial⟩, ⟨⟨trivial, trivial⟩, ⟨⟨trivial, ⟨trivial, ⟨h2, h3⟩⟩⟩, ⟨⟨trivial, trivial⟩, ⟨⟨trivial, trivial⟩, ⟨⟨(by first | decide | exact Int.NonNeg.mk _), trivial⟩, ⟨⟨trivial, ⟨trivial, trivial⟩⟩, ⟨⟨trivial, ⟨trivial, trivial⟩⟩, ⟨⟨trivial, ⟨trivial, ⟨trivial, ⟨h2, h3⟩⟩⟩⟩, ⟨⟨trivial, ⟨trivial, trivial⟩⟩, ⟨⟨trivial, ⟨trivial, trivial⟩⟩, ⟨⟨trivial, ⟨trivial, trivial⟩⟩, ⟨⟨trivial, ⟨trivial, ⟨trivial, trivial⟩⟩⟩, ⟨⟨trivial, ⟨h4, trivial⟩⟩, ⟨⟨trivial, trivial⟩, ⟨⟨trivial, ⟨trivial, trivial⟩⟩, ⟨⟨trivial, ⟨trivial, trivial⟩⟩, ⟨⟨trivial, ⟨trivial, trivial⟩⟩, ⟨⟨trivial, ⟨trivial, ⟨trivial, ⟨h2, h3⟩⟩⟩⟩, ⟨⟨trivial, ⟨trivial, trivial⟩⟩, ⟨⟨trivial, ⟨trivial, ⟨trivial, ⟨h5, h6⟩⟩⟩⟩, ⟨⟨trivial, ⟨trivial, trivial⟩⟩, ⟨⟨trivial, ⟨h7, trivial⟩⟩, ⟨⟨trivial, trivial⟩, ⟨⟨trivial, ⟨trivial, trivial⟩⟩, ⟨⟨trivial, ⟨trivial, trivial⟩⟩, ⟨⟨trivial, ⟨trivial, trivial⟩⟩, ⟨⟨trivial, ⟨trivial, trivial⟩⟩, ⟨⟨trivial, ⟨trivial, ⟨trivial, trivial⟩⟩⟩, ⟨⟨trivial, ⟨h8, trivial⟩⟩, ⟨trivial, ⟨trivial, ⟨trivial, ⟨trivial, ⟨trivial, ⟨trivial, ⟨trivial, ⟨trivial, ⟨trivial, ⟨trivial, ⟨trivial, ⟨trivial, ⟨trivial, ⟨trivial, ⟨trivial, ⟨trivial, ⟨trivial, ⟨trivial, ⟨trivial, ⟨trivial, ⟨trivial, ⟨trivial, ⟨trivial, ⟨trivial, ⟨trivial, ⟨trivial, ⟨trivial, ⟨trivial, ⟨trivial, ⟨⟨trivial, ⟨trivial, ⟨trivial, trivial⟩⟩⟩, ⟨⟨trivial, ⟨trivial, trivial⟩⟩, trivial⟩⟩⟩⟩⟩⟩⟩⟩⟩⟩⟩⟩⟩⟩⟩⟩⟩⟩⟩⟩⟩⟩⟩⟩⟩⟩⟩⟩⟩⟩⟩⟩⟩⟩⟩⟩⟩⟩⟩⟩⟩⟩⟩⟩⟩⟩⟩⟩⟩⟩⟩⟩⟩⟩⟩⟩⟩⟩⟩⟩⟩, ⟨trivial, ⟨⟨⟨trivial, trivial⟩, ⟨⟨trivial, trivial⟩, ⟨⟨trivial, trivial⟩, trivial⟩⟩⟩, trivial⟩⟩⟩⟩⟩, ⟨trivial, ⟨trivial, ⟨trivial, ⟨trivial, ⟨trivial, trivial⟩⟩⟩⟩⟩⟩ hR
end Go.Proofs.Ytnpmcikbnnlmkaa

/-! Contracts. -/
open Go Go.AX Go.Proofs
set_option maxRecDepth 100000
set_option maxHeartbeats 1000000
set_option linter.unusedVariables false
set_option linter.unusedSimpArgs false
namespace Go.Proofs.Ytnpmcikbnnlmkaa
theorem shN {g : List (List Int)} {s : List Bool} {goal a : Nat} {d : List Int} (hD : Dst g s goal d) (ha : a < g.length) (h0 : 0 ≤ d.getD a 0) : s.getD goal false = false := by
  cases h : s.getD goal false with
  | false => rfl
  | true => have := hD.shut h a ha; omega
theorem opnN {g : List (List Int)} {s : List Bool} {goal a : Nat} {d : List Int} (hD : Dst g s goal d) (ha : a < g.length) (h0 : 0 ≤ d.getD a 0) : s.getD a false = false := by
  rcases hD.back a ha h0 with rfl | h
  · exact shN hD ha h0
  · exact h.1

/-- The goal is reached if and only if it has a distance. -/
theorem mR_dist {g : List (List Int)} {s : List Bool} (hg : OkG g s) {goal v : Nat} (hgo : goal < g.length) (hv : v < g.length) {d : List Int} (hD : Dst g s goal d) : mR g s v goal = decide (0 ≤ d.getD v 0) := by
  rw [Bool.eq_iff_iff, mR_iff, decide_eq_true_eq]
  constructor
  · intro h
    obtain ⟨h1, h2⟩ := h.2 (fun u => s.getD u false = false ∧ (0 ≤ d.getD u 0 → 0 ≤ d.getD v 0)) ⟨h.1, id⟩ fun u hu hc w hw ho => ⟨ho, fun h0 => hc.2 (hD.fwd u hu hc.1 w hw h0).1⟩
    exact h2 (by rw [hD.zero h1]; omega)
  · intro h
    refine ⟨opnN hD hv h, fun C hC hcl => ?_⟩
    have key : ∀ (m u : Nat), u < g.length → d.getD u 0 = (m : Int) → C u → C goal := by
      intro m
      induction m with
      | zero => intro u hu hm hc; rw [← zero_goal hD hu hm]; exact hc
      | succ m ih =>
        intro u hu hm hc
        rcases hD.back u hu (by omega) with rfl | ⟨_, w, hw, h1, h2⟩
        · exact hc
        · have hr := (hg.row u hu).2 w hw
          have hwl : w.toNat < g.length := by omega
          exact ih w.toNat hwl (by omega) (hcl u hu hc w hw (opnN hD hwl h1))
    exact key (d.getD v 0).toNat v hv (by omega) hC

theorem hasZ_true {l : List Int} {x : Int} (h : x ∈ l) : hasZ l x = true := by
  cases e : hasZ l x with
  | true => rfl
  | false => exact absurd h (hasZ_false e)

theorem hop_mem {g : List (List Int)} {s : List Bool} (hg : OkG g s) {goal : Nat} {d : List Int} (hD : Dst g s goal d) {u : Nat} (hu : u < g.length) (h0 : 0 < d.getD u 0) (hgd : s.getD goal false = false) : hopZ g d u ∈ g.getD u [] := by
  have h := (hop_ok hg hD hu h0 hgd).1
  unfold hopZ at h ⊢
  cases hf : fnd (hopP g d u) 0 (g.getD u []).length with
  | none => rw [hf] at h; exact absurd h (show ¬ (0 : Int) ≤ -1 by decide)
  | some i =>
    obtain ⟨_, _, b⟩ := fnd_some hf
    show (g.getD u []).getD i 0 ∈ g.getD u []
    rw [List.getD_eq_getElem?_getD (l := g.getD u []), List.getElem?_eq_getElem (by omega)]
    exact List.getElem_mem (by omega)

theorem mkC_take (m : Nat → Bool) (n : Nat) (hn : n ≤ 24) : (mkC m).take n = boL ((List.range n).map m) := by
  rw [mkC_map, boL, List.map_map, ← List.map_take, List.take_range, Nat.min_eq_left hn]; rfl

noncomputable def pthZ (g : List (List Int)) (d : List Int) (v : Nat) : List Int := if d.getD v 0 < 0 then [] else wkL g d v (d.getD v 0).toNat
theorem pathZ_ct {g : List (List Int)} {s : List Bool} (hg : OkG g s) (ha : Asc g) (v goal : Nat) (hv : v < g.length) (hgo : goal < g.length) :
    CT Try.prog 17 [] [.lst (gL g), .lst (boL s), .int .i64 (v : Nat), .int .i64 (goal : Nat)] [] (.tup [lI (pthZ g (distL g s goal g.length) v), .int .i64 0]) := by
  have hD := dst_ok hg hgo
  have hbd := hD.bnd v hv
  have hgl := hg.len
  unfold pthZ
  by_cases hneg : (distL g s goal g.length).getD v 0 < 0
  · rw [if_pos hneg]
    have hda := lI_get (l := distL g s goal g.length) (j := v) (by rw [hD.len]; exact hv)
    exact CT.pathW mix Try.func17 (show Try.f17.body = some (bodyOf Try.f17) by kernel_rfl) (Nat.le_of_ble_eq_true rfl) (pthn_0 ⟨g, s, distL g s goal g.length, v, goal, 0, 0, [], 0, (distL g s goal g.length).getD v 0, false, 0, [], []⟩ (check_ct hg ha v goal hv hgo) (by simp) (distances_ct hg goal hgo) (by simp [iN]) hda (decide_eq_true hneg)) rfl
  · rw [if_neg hneg]
    obtain ⟨m, hm⟩ : ∃ m : Nat, (distL g s goal g.length).getD v 0 = (m : Int) := ⟨((distL g s goal g.length).getD v 0).toNat, by omega⟩
    have hok := wk_ok hg hgo hD hv hm (shN hD hv (by omega))
    have k := path_ct hg ha v goal m hv hgo hm (by omega) fun k hk => ⟨(hok k (by omega)).1, (hok k (by omega)).2.1⟩
    rw [hm, Int.toNat_natCast]
    exact k

theorem paths_ct (L : List Int) : CT Try.prog 6 [] [lI L] [] (.bool true) := by
  have hb : Try.f6.body = some (bodyOf Try.f6) := by kernel_rfl
  obtain ⟨g, kk, n, hn, hgi, hkk, c1⟩ := graph_ex L 0 9 (by omega) (by omega)
  obtain ⟨s, kk2, hs, hkk2, c2⟩ := shut_ex L kk n (by omega) (by omega)
  obtain ⟨hg, ha⟩ := hgi.ok (by omega) (by omega) hs
  have hgn := hgi.len
  have hl := gL_len g
  have hbl := boL_len s
  by_cases h0 : g.length = 0
  · exact CT.path mix Try.func6 hb (Nat.le_of_ble_eq_true rfl) (pz_0 ⟨L, g, s, 0, 0, [], [], [], [], 0, 0, 0, 0, 0, false, false, [], kk, kk2⟩ known_ct c1 (by simp [iN, hl, h0]))
  have r1 := nextZ_rng L kk2 n (by omega) (by omega)
  have n1 := next_ct L kk2 n (by omega)
  obtain ⟨v, hza⟩ : ∃ a : Nat, nextZ L kk2 n = (a : Int) := ⟨(nextZ L kk2 n).toNat, by omega⟩
  rw [hza] at r1 n1
  have r2 := nextZ_rng L (kk2 + 1) n (by omega) (by omega)
  have n2 := next_ct L (kk2 + 1) n (by omega)
  obtain ⟨goal, hzg⟩ : ∃ b : Nat, nextZ L (kk2 + 1) n = (b : Int) := ⟨(nextZ L (kk2 + 1) n).toNat, by omega⟩
  rw [hzg] at r2 n2
  have hgo : goal < g.length := by omega
  have hv : v < g.length := by omega
  have d1 := Distances_ct hg ha goal hgo
  have p1 := pathZ_ct hg ha v goal hv hgo
  have h1 := Hops_ct hg ha goal hgo
  have f1 := from_ct hg ha v hv
  have hD := dst_ok hg hgo
  rw [mkC_take _ _ hg.len] at f1
  have hm := mR_dist hg hgo hv hD
  have hb1 : (boL ((List.range g.length).map (mR g s v)))[(iN goal).toNat]? = some (.bool (mR g s v goal)) := by
    have := boL_get (s := (List.range g.length).map (mR g s v)) (v := goal) (by simpa using hgo)
    simpa [iN, hgo] using this
  have hrl : (boL ((List.range g.length).map (mR g s v))).length = g.length := by simp [boL]
  generalize mR g s v goal = b at hm hb1
  generalize (List.range g.length).map (mR g s v) = rl at f1 hb1 hrl
  generalize distL g s goal g.length = d at d1 p1 h1 hD hm
  have hhl : (hopsZ g d).length = g.length := by simp [hopsZ]
  have hdv := lI_get (l := d) (j := v) (by rw [hD.len]; exact hv)
  have hgl := hg.len
  have t1 : (iN (d.map (AV.int .i64)).length != iN (gL g).length) = false := by simp [iN, hl, hD.len]
  have t2 : (iN ((hopsZ g d).map (AV.int .i64)).length != iN (gL g).length) = false := by simp [iN, hl, hhl]
  have t3 : (iN (boL rl).length != iN (gL g).length) = false := by simp [iN, hl, hrl]
  have t0 : (iN (gL g).length == 0) = false := by simp only [iN, hl]; simpa using h0
  rw [← hgn] at n1 n2 c2
  by_cases hneg : d.getD v 0 < 0
  · have ep : pthZ g d v = [] := by unfold pthZ; rw [if_pos hneg]
    rw [ep] at p1
    have hbf : b = false := by rw [hm]; exact decide_eq_false (by omega)
    exact CT.path mix Try.func6 hb (Nat.le_of_ble_eq_true rfl) (pn_0 ⟨L, g, s, v, goal, [], d, hopsZ g d, rl, 0, 0, d.getD v 0, 0, 0, b, false, [], kk, kk2⟩ known_ct c1 t0 (by simp only [iN, hl]; exact c2) (by simp only [iN, hl]; exact n1) (by simp only [iN, hl]; exact n2) p1 d1 h1 f1 t1 t2 t3 (by simp [iN]) hb1 (by simp [iN, hbf]) (by simp [iN]) hdv (by simp only [hbf]; rw [decide_eq_false (by omega)]; rfl) (by simp [iN]))
  · obtain ⟨m, hmm⟩ : ∃ m : Nat, d.getD v 0 = (m : Int) := ⟨(d.getD v 0).toNat, by omega⟩
    have ep : pthZ g d v = wkL g d v m := by unfold pthZ; rw [if_neg hneg, hmm]; rfl
    rw [ep] at p1
    have hgd := shN hD hv (by omega)
    have hok := wk_ok hg hgo hD hv hmm hgd
    have hbt : b = true := by rw [hm]; exact decide_eq_true (by omega)
    have hpl := wkL_len g d v m
    have hbm := hD.bnd v hv
    have hpg : ∀ k, k ≤ m → (wkL g d v m).getD k 0 = wkZ g d v k := by
      intro k hk
      unfold wkL
      rw [List.getD_eq_getElem?_getD, List.getElem?_map, List.getElem?_range (by omega)]; rfl
    have hp1 : ∀ k, k ≤ m → ((wkL g d v m).map (AV.int .i64))[k]? = some (.int .i64 (wkZ g d v k)) := by
      intro k hk
      rw [lI_get (by omega), hpg k hk]
    have hlst : wkZ g d v m = (goal : Int) := by
      obtain ⟨a1, a2, a3⟩ := hok m (Nat.le_refl _)
      have := zero_goal hD (v := (wkZ g d v m).toNat) (by omega) (by rw [a3]; simp)
      omega
    have hw1 : IntKind.i64.wrap (iN ((wkL g d v m).map (AV.int .i64)).length - 1) = ((m : Nat) : Int) := by
      rw [lI_len, hpl]
      have := wrapM1 (m + 1) (by omega) (by omega)
      simp only [iN]; rw [this]; simp
    generalize hpp : wkL g d v m = p at p1 hpl hpg hp1 hw1
    have hlp := lI_len p
    refine CT.path mix Try.func6 hb (Nat.le_of_ble_eq_true rfl) (pa_0 ⟨L, g, s, v, goal, p, d, hopsZ g d, rl, 0, 0, d.getD v 0, (v : Nat), (goal : Nat), b, false, [], kk, kk2⟩ known_ct c1 t0 (by simp only [iN, hl]; exact c2) (by simp only [iN, hl]; exact n1) (by simp only [iN, hl]; exact n2) p1 d1 h1 f1 t1 t2 t3 (by simp [iN]) hb1
      (by simp only [hbt]; rw [decide_eq_true (by simp only [iN, hlp, hpl]; omega)]; rfl) (by simp [iN]) hdv (by simp only [hbt]; rw [decide_eq_true (by omega)]; rfl) (by simp only [iN, hlp, hpl, beq_eq_false_iff_ne, ne_eq]; omega) (by have := hp1 0 (Nat.zero_le _); simpa [wkZ] using this) (by simp [iN])
      (by simp only [hw1]; omega) (by simp only [hw1, Int.toNat_natCast]; rw [hp1 m (Nat.le_refl _), hlst]) (by simp [iN]) (by simp only [hw1, hmm]; simp) ?_)
    refine T.loop (fun k : Nat => lo6 ⟨L, g, s, v, goal, p, d, hopsZ g d, rl, k, 0, 0, 0, 0, b, false, [], kk, kk2⟩) (fun k => k ≤ m + 1) (fun k => m + 2 - k) 0 (Nat.zero_le _) ?_
    intro k hk
    by_cases h : k < m + 1
    · obtain ⟨a1, a2, a3⟩ := hok k (by omega)
      obtain ⟨w, hw⟩ : ∃ w : Nat, wkZ g d v k = (w : Int) := ⟨(wkZ g d v k).toNat, by omega⟩
      rw [hw, Int.toNat_natCast] at a3
      rw [hw] at a2
      have hwl : w < g.length := by omega
      have hsw := boL_get (s := s) (v := w) (by rw [hg.sh]; exact hwl)
      have hso : s.getD w false = false := opnN hD hwl (by rw [a3]; omega)
      have wi : IntKind.i64.wrap (iN k + 1) = ((k + 1 : Nat) : Int) := wrap_nat k (by omega)
      have dk : decide (iN k < iN (p.map (AV.int .i64)).length) = true := decide_eq_true (by simp only [iN, hlp, hpl]; omega)
      have g1 : (p.map (AV.int .i64))[(iN k).toNat]? = some (.int .i64 (iN w)) := by
        have := hp1 k (by omega); rw [hw] at this; exact this
      by_cases hk1 : k < m
      · have hx := hp1 (k + 1) (by omega)
        have hhp : wkZ g d v (k + 1) = hopZ g d w := by rw [wkZ, hw, Int.toNat_natCast]
        have hhm := hop_mem hg hD hwl (by rw [a3]; omega) hgd
        have hrw := (hgi.row w (by omega)).1
        have hhg := lI_get (l := hopsZ g d) (j := w) (by omega)
        have e2 : (hopsZ g d).getD w 0 = hopZ g d w := by simp [hopsZ, hwl]
        rw [e2] at hhg
        have chas := has_ct (g.getD w []) (hopZ g d w) (by omega)
        rw [hasZ_true hhm] at chas
        rw [hhp] at hx
        refine T.path mix (pk_0 ⟨L, g, s, v, goal, p, d, hopsZ g d, rl, k, w, 0, hopZ g d w, 0, b, s.getD w false, g.getD w [], kk, kk2⟩ dk (by simp [iN]) g1 (decide_eq_false (by simp only [iN, hl]; omega)) (by simp [iN]) hsw hso (decide_eq_true (by simp only [wi]; simp only [iN, hlp, hpl]; omega)) hhg (by simp only [wi]; omega) (by simp only [wi, Int.toNat_natCast]; exact hx) (by simp) (gL_get hwl) chas ?_)
        intro st hst
        simp only [wi] at hst
        exact ⟨k + 1, hst, by omega, by omega⟩
      · refine T.path mix (pl_0 ⟨L, g, s, v, goal, p, d, hopsZ g d, rl, k, w, 0, 0, 0, b, s.getD w false, [], kk, kk2⟩ dk (by simp [iN]) g1 (decide_eq_false (by simp only [iN, hl]; omega)) (by simp [iN]) hsw hso (decide_eq_false (by simp only [wi]; simp only [iN, hlp, hpl]; omega)) ?_)
        intro st hst
        simp only [wi] at hst
        exact ⟨k + 1, hst, by omega, by omega⟩
    · exact T.out mix (px_0 ⟨L, g, s, v, goal, p, d, hopsZ g d, rl, k, 0, 0, 0, 0, b, false, [], kk, kk2⟩ (decide_eq_false (by simp only [iN, hlp, hpl]; omega)))

theorem routesPaths_row (avs : List AV) (h : ShVs Try.prog 4 Try.f6.params.toList avs) : CT Try.prog 6 [] avs [] (.bool true) := by
  rw [Try.params6] at h
  obtain ⟨a, _, rfl, ka, h⟩ := h.consD
  obtain rfl := h.nilD
  obtain ⟨ls, _, hl, rfl⟩ := ka.sliceD Try.underlying25
  obtain ⟨L, rfl⟩ := intsV hl
  exact paths_ct L
#print axioms routesPaths_row
end Go.Proofs.Ytnpmcikbnnlmkaa


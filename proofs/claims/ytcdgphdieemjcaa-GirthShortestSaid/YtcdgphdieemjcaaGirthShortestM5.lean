/- Parts of the proof: Gi1p, GiA, GiB, GiC, Gi2p, GiD, Gi3p, GiE. -/
import Derived.Test.YtcdgphdieemjcaaProg
import Derived.KernelRfl
import Derived.Test.YtcdgphdieemjcaaGirthShortestM4
/-! The paths of a function, by evaluation. -/
open Go Go.AX Go.Proofs
set_option maxRecDepth 100000
set_option maxHeartbeats 4000000
set_option linter.unusedVariables false
namespace Go.Proofs.Ytcdgphdieemjcaa
structure QE where
  g : List (List Int)
  s : List Bool
  v : Int
  p : List Int
  o : List Int
  d : List Int
  r : List Int
  e : Int
  i : Nat
  a : Nat
  w : Nat
  x : Int
  y : Int
  z : Int
  bz : Int
  b : Bool
  sb : Bool
def cE (q : QE) : Nat → FuncId → List AV → List (Option Blk) → Hint := fun dst f args hp => match f with
  | 23 => .call [] [] [] (.int .i64 q.e)
  | 24 => .call [] [] [] (lI q.p)
  | 25 => .call [] [] [] (.int .i64 q.e)
  | 26 => .call [] [] [] (lI q.p)
  | 19 => .call [] [] [] (.bool q.b)
  | 32 => .call [] [] [] (lI q.d)
  | 33 => .call [] [] [] (lI q.p)
  | _ => .no
def eN (q : QE) : List (Nat × AV) := []
noncomputable def stHc (q : QE) : St := { n := Try.f23.ntmps, fr := [(0, .lst (gL q.g)), (1, .lst (boL q.s))], hp := [] }
noncomputable def la23 (q : QE) : St := { n := Try.f23.ntmps, fr := [(0, .lst (gL q.g)), (1, .lst (boL q.s)), (13, .lst (gL q.g)), (14, .int .i64 (iN q.g.length)), (15, .int .i64 (iN q.a))], hp := [] }
noncomputable def lb23 (q : QE) : St := { n := Try.f23.ntmps, fr := [(0, .lst (gL q.g)), (1, .lst (boL q.s)), (5, .int .i64 (iN q.a)), (7, .int .i64 q.x), (13, .lst (gL q.g)), (14, .int .i64 (iN q.g.length)), (15, .int .i64 (iN q.a)), (20, lI q.r), (21, .int .i64 (iN q.r.length)), (22, .int .i64 (iN q.i))], hp := [] }
def e23g (q : QE) : List (Nat × AV) := [(18, lI q.r), (24, .int .i64 q.y)]
noncomputable def st12 (q : QE) : St := { n := Try.f12.ntmps, fr := [(0, .lst (gL q.g)), (1, .lst (boL q.s))], hp := [] }
noncomputable def la12 (q : QE) : St := { n := Try.f12.ntmps, fr := [(0, .lst (gL q.g)), (1, .lst (boL q.s)), (8, .nils), (18, .int .i64 (iN q.g.length)), (19, .int .i64 (iN q.i))], hp := [] }
noncomputable def lb12 (q : QE) : St := { n := Try.f12.ntmps, fr := [(0, .lst (gL q.g)), (1, .lst (boL q.s)), (8, lI q.o), (18, .int .i64 (iN q.g.length)), (19, .int .i64 (iN q.i))], hp := [] }
noncomputable def st13 (q : QE) : St := { n := Try.f13.ntmps, fr := [(0, .lst (gL q.g)), (1, .lst (boL q.s))], hp := [] }
noncomputable def lo13 (q : QE) : St := { n := Try.f13.ntmps, fr := [(0, .lst (gL q.g)), (1, .lst (boL q.s)), (8, lI q.o), (9, .int .i64 (iN q.i))], hp := [] }
noncomputable def st14 (q : QE) : St := { n := Try.f14.ntmps, fr := [(0, .lst (gL q.g)), (1, .lst (boL q.s)), (2, .int .i64 q.v)], hp := [] }
noncomputable def st15 (q : QE) : St := { n := Try.f15.ntmps, fr := [(0, .lst (gL q.g)), (1, .lst (boL q.s)), (2, .int .i64 q.v)], hp := [] }
noncomputable def st26 (q : QE) : St := { n := Try.f26.ntmps, fr := [(0, .lst (gL q.g)), (1, .lst (boL q.s)), (2, .int .i64 (iN q.a))], hp := [] }
noncomputable def lo26 (q : QE) : St := { n := Try.f26.ntmps, fr := [(0, .lst (gL q.g)), (1, .lst (boL q.s)), (2, .int .i64 (iN q.a)), (7, lI q.d), (8, .int .i64 q.bz), (9, .int .i64 (iN q.i))], hp := [] }
def e26 (q : QE) : List (Nat × AV) := [(14, .bool q.sb), (23, lI q.r), (31, lI q.r), (34, .int .i64 (iN q.w)), (38, .int .i64 q.x), (47, .int .i64 q.x), (51, .int .i64 q.y)]
noncomputable def st17 (q : QE) : St := { n := Try.f17.ntmps, fr := [(0, .lst (gL q.g)), (1, .lst (boL q.s)), (2, lI q.o)], hp := [] }
noncomputable def lo17 (q : QE) : St := { n := Try.f17.ntmps, fr := [(0, .lst (gL q.g)), (1, .lst (boL q.s)), (7, .int .i64 q.y), (28, lI q.o), (29, .int .i64 (iN q.o.length)), (30, .int .i64 (iN q.i))], hp := [] }
noncomputable def li17 (q : QE) : St := { n := Try.f17.ntmps, fr := [(0, .lst (gL q.g)), (1, .lst (boL q.s)), (9, .int .i64 q.x), (10, .bool q.b), (28, lI q.o), (29, .int .i64 (iN q.o.length)), (30, .int .i64 (iN q.i)), (61, lI q.r), (62, .int .i64 (iN q.r.length)), (63, .int .i64 (iN q.a))], hp := [] }
def eCl (q : QE) : List (Nat × AV) := [(26, .int .i64 q.y), (32, .int .i64 q.x), (45, .bool q.sb), (60, lI q.r), (65, .int .i64 q.z)]
noncomputable def st18 (q : QE) : St := { n := Try.f18.ntmps, fr := [(0, .lst (gL q.g)), (1, .lst (boL q.s)), (2, lI q.o)], hp := [] }
noncomputable def la18 (q : QE) : St := { n := Try.f18.ntmps, fr := [(0, .lst (gL q.g)), (1, .lst (boL q.s)), (2, lI q.o), (7, .int .i64 (iN q.i))], hp := [] }
noncomputable def lb18 (q : QE) : St := { n := Try.f18.ntmps, fr := [(0, .lst (gL q.g)), (1, .lst (boL q.s)), (2, lI q.o), (8, .int .i64 (iN q.i))], hp := [] }
def e18 (q : QE) : List (Nat × AV) := [(26, .int .i64 q.x), (32, .int .i64 q.x), (42, .int .i64 q.x), (44, .bool q.sb), (56, .int .i64 q.x), (58, lI q.r), (66, .int .i64 q.z)]
theorem hc_0 (q : QE) (h1 : (decide (24 < iN (gL q.g).length) = true)) : ∃ o' st' q', go Try.prog ({ dec := [(12, true)], els := e23g q, calls := cE q, unroll := false } : HT) 0 4000 (.inl (bodyOf Try.f23)) [] (stHc q) = some (o', st', q') ∧ q' ∧ Go.AX.Rest Try.prog 0 (Fin Try.prog Try.f23 0 [] (AV.int IntKind.i64 20)) st' o' :=
  endF_spec (σ := []) (fz := []) (show endF Try.prog Try.f23 0 [] [] (go Try.prog ({ dec := [(12, true)], els := e23g q, calls := cE q, unroll := false } : HT) 0 4000 (.inl (bodyOf Try.f23)) [] (stHc q)) = some ([], AV.int IntKind.i64 20, (((True ∧ True) ∧ (((True ∧ True) ∧ ((True ∧ True) ∧ ((True ∧ True) ∧ True))) ∧ ((type_of% h1) ∧ ((True ∧ True) ∧ True)))) ∧ (True ∧ True))) by kernel_rfl) ⟨⟨⟨trivial, trivial⟩, ⟨⟨⟨trivial, trivial⟩, ⟨⟨trivial, trivial⟩, ⟨⟨trivial, trivial⟩, trivial⟩⟩⟩, ⟨h1, ⟨⟨trivial, trivial⟩, trivial⟩⟩⟩⟩, ⟨trivial, trivial⟩⟩
theorem hc_1 (q : QE) (h1 : (decide (24 < iN (gL q.g).length) = false)) {post : Exit → St → Prop} (ht : T Try.prog 0 (.loop (loopC (bodyOf Try.f23) 0)) (St.mk 48 [(0, AV.lst (gL q.g)), (1, AV.lst (boL q.s)), (13, AV.lst (gL q.g)), (14, AV.int IntKind.i64 (iN (gL q.g).length)), (15, AV.int IntKind.i64 0)] []) (TK Try.prog 0 post (loopK (bodyOf Try.f23) 0))) : ∃ o' st' q', go Try.prog ({ dec := [(12, false)], els := e23g q, calls := cE q, unroll := false } : HT) 0 4000 (.inl (bodyOf Try.f23)) [] (stHc q) = some (o', st', q') ∧ q' ∧ Go.AX.Rest Try.prog 0 post st' o' :=
  endR_spec (σ := []) (fz := []) (vars := [0,1,13,14,15]) (show endR 0 [] [] [0,1,13,14,15] (go Try.prog ({ dec := [(12, false)], els := e23g q, calls := cE q, unroll := false } : HT) 0 4000 (.inl (bodyOf Try.f23)) [] (stHc q)) = some (loopC (bodyOf Try.f23) 0, loopK (bodyOf Try.f23) 0, St.mk 48 [(0, AV.lst (gL q.g)), (1, AV.lst (boL q.s)), (13, AV.lst (gL q.g)), (14, AV.int IntKind.i64 (iN (gL q.g).length)), (15, AV.int IntKind.i64 0)] [], (((True ∧ True) ∧ (((True ∧ True) ∧ ((True ∧ True) ∧ ((True ∧ True) ∧ True))) ∧ ((type_of% h1) ∧ (((True ∧ True) ∧ ((True ∧ True) ∧ (True ∧ True))) ∧ True)))) ∧ (True ∧ (True ∧ (True ∧ (True ∧ (True ∧ True))))))) by kernel_rfl) ⟨⟨⟨trivial, trivial⟩, ⟨⟨⟨trivial, trivial⟩, ⟨⟨trivial, trivial⟩, ⟨⟨trivial, trivial⟩, trivial⟩⟩⟩, ⟨h1, ⟨⟨⟨trivial, trivial⟩, ⟨⟨trivial, trivial⟩, ⟨trivial, trivial⟩⟩⟩, trivial⟩⟩⟩⟩, ⟨trivial, ⟨trivial, ⟨trivial, ⟨trivial, ⟨trivial, trivial⟩⟩⟩⟩⟩⟩ ht
theorem hcx_0 (q : QE) (h1 : (decide (iN q.a < iN q.g.length) = false)) (h2 : ((iN (boL q.s).length != iN (gL q.g).length) = true)) : ∃ o' st' q', go2 Try.prog ({ dec := [(16, false), (47, true)], els := e23g q, calls := cE q, unroll := false } : HT) 0 4000 (loopC (bodyOf Try.f23) 0) (loopK (bodyOf Try.f23) 0) (la23 q) = some (o', st', q') ∧ q' ∧ Go.AX.Rest Try.prog 0 (Fin Try.prog Try.f23 0 [] (AV.int IntKind.i64 19)) st' o' :=
  endF_spec (σ := []) (fz := []) (show endF Try.prog Try.f23 0 [] [] (go2 Try.prog ({ dec := [(16, false), (47, true)], els := e23g q, calls := cE q, unroll := false } : HT) 0 4000 (loopC (bodyOf Try.f23) 0) (loopK (bodyOf Try.f23) 0) (la23 q)) = some ([], AV.int IntKind.i64 19, (((((True ∧ (True ∧ True)) ∧ True) ∧ ((type_of% h1) ∧ True)) ∧ (((True ∧ True) ∧ ((True ∧ True) ∧ ((True ∧ True) ∧ ((True ∧ True) ∧ ((True ∧ (True ∧ True)) ∧ True))))) ∧ ((type_of% h2) ∧ ((True ∧ True) ∧ True)))) ∧ (True ∧ True))) by kernel_rfl) ⟨⟨⟨⟨⟨trivial, ⟨trivial, trivial⟩⟩, trivial⟩, ⟨h1, trivial⟩⟩, ⟨⟨⟨trivial, trivial⟩, ⟨⟨trivial, trivial⟩, ⟨⟨trivial, trivial⟩, ⟨⟨trivial, trivial⟩, ⟨⟨trivial, ⟨trivial, trivial⟩⟩, trivial⟩⟩⟩⟩⟩, ⟨h2, ⟨⟨trivial, trivial⟩, trivial⟩⟩⟩⟩, ⟨trivial, trivial⟩⟩
theorem hcx_1 (q : QE) (h1 : (decide (iN q.a < iN q.g.length) = false)) (h2 : ((iN (boL q.s).length != iN (gL q.g).length) = false)) : ∃ o' st' q', go2 Try.prog ({ dec := [(16, false), (47, false)], els := e23g q, calls := cE q, unroll := false } : HT) 0 4000 (loopC (bodyOf Try.f23) 0) (loopK (bodyOf Try.f23) 0) (la23 q) = some (o', st', q') ∧ q' ∧ Go.AX.Rest Try.prog 0 (Fin Try.prog Try.f23 0 [] (AV.int IntKind.i64 0)) st' o' :=
  endF_spec (σ := []) (fz := []) (show endF Try.prog Try.f23 0 [] [] (go2 Try.prog ({ dec := [(16, false), (47, false)], els := e23g q, calls := cE q, unroll := false } : HT) 0 4000 (loopC (bodyOf Try.f23) 0) (loopK (bodyOf Try.f23) 0) (la23 q)) = some ([], AV.int IntKind.i64 0, (((((True ∧ (True ∧ True)) ∧ True) ∧ ((type_of% h1) ∧ True)) ∧ (((True ∧ True) ∧ ((True ∧ True) ∧ ((True ∧ True) ∧ ((True ∧ True) ∧ ((True ∧ (True ∧ True)) ∧ True))))) ∧ ((type_of% h2) ∧ ((True ∧ True) ∧ True)))) ∧ (True ∧ True))) by kernel_rfl) ⟨⟨⟨⟨⟨trivial, ⟨trivial, trivial⟩⟩, trivial⟩, ⟨h1, trivial⟩⟩, ⟨⟨⟨trivial, trivial⟩, ⟨⟨trivial, trivial⟩, ⟨⟨trivial, trivial⟩, ⟨⟨trivial, trivial⟩, ⟨⟨trivial, ⟨trivial, trivial⟩⟩, trivial⟩⟩⟩⟩⟩, ⟨h2, ⟨⟨trivial, trivial⟩, trivial⟩⟩⟩⟩, ⟨trivial, trivial⟩⟩
theorem hca_0 (q : QE) (h1 : (decide (iN q.a < iN q.g.length) = true)) (h2 : (0 ≤ iN q.a)) (h3 : ((gL q.g)[(iN q.a).toNat]? = some (AV.lst (List.map (AV.int IntKind.i64) q.r)))) {post : Exit → St → Prop} (ht : T Try.prog 0 (.loop (loopC (loopC (bodyOf Try.f23) 0) 0)) (St.mk 48 [(0, AV.lst (gL q.g)), (1, AV.lst (boL q.s)), (5, AV.int IntKind.i64 (iN q.a)), (7, AV.int IntKind.i64 (-1)), (13, AV.lst (gL q.g)), (14, AV.int IntKind.i64 (iN q.g.length)), (15, AV.int IntKind.i64 (iN q.a)), (20, AV.lst (List.map (AV.int IntKind.i64) q.r)), (21, AV.int IntKind.i64 (iN (List.map (AV.int IntKind.i64) q.r).length)), (22, AV.int IntKind.i64 0)] []) (TK Try.prog 0 post (loopK (loopC (bodyOf Try.f23) 0) 0))) : ∃ o' st' q', go Try.prog ({ dec := [(16, true)], els := e23g q, calls := cE q, unroll := false } : HT) 0 4000 (.inl (loopC (bodyOf Try.f23) 0)) [] (la23 q) = some (o', st', q') ∧ q' ∧ Go.AX.Rest Try.prog 0 post st' o' :=
  endR_spec (σ := []) (fz := []) (vars := [0,1,5,7,13,14,15,20,21,22]) (show endR 0 [] [] [0,1,5,7,13,14,15,20,21,22] (go Try.prog ({ dec := [(16, true)], els := e23g q, calls := cE q, unroll := false } : HT) 0 4000 (.inl (loopC (bodyOf Try.f23) 0)) [] (la23 q)) = some (loopC (loopC (bodyOf Try.f23) 0) 0, loopK (loopC (bodyOf Try.f23) 0) 0, St.mk 48 [(0, AV.lst (gL q.g)), (1, AV.lst (boL q.s)), (5, AV.int IntKind.i64 (iN q.a)), (7, AV.int IntKind.i64 (-1)), (13, AV.lst (gL q.g)), (14, AV.int IntKind.i64 (iN q.g.length)), (15, AV.int IntKind.i64 (iN q.a)), (20, AV.lst (List.map (AV.int IntKind.i64) q.r)), (21, AV.int IntKind.i64 (iN (List.map (AV.int IntKind.i64) q.r).length)), (22, AV.int IntKind.i64 0)] [], ((((True ∧ (True ∧ True)) ∧ True) ∧ ((type_of% h1) ∧ (((True ∧ True) ∧ ((True ∧ (True ∧ ((type_of% h2) ∧ (type_of% h3)))) ∧ ((True ∧ True) ∧ ((True ∧ True) ∧ ((True ∧ True) ∧ True))))) ∧ ((True ∧ True) ∧ (((True ∧ True) ∧ ((True ∧ True) ∧ (True ∧ True))) ∧ True))))) ∧ (True ∧ (True ∧ (True ∧ (True ∧ (True ∧ (True ∧ (True ∧ (True ∧ (True ∧ (True ∧ True)))))))))))) by kernel_rfl) ⟨⟨⟨⟨trivial, ⟨trivial, trivial⟩⟩, trivial⟩, ⟨h1, ⟨⟨⟨trivial, trivial⟩, ⟨⟨trivial, ⟨trivial, ⟨h2, h3⟩⟩⟩, ⟨⟨trivial, trivial⟩, ⟨⟨trivial, trivial⟩, ⟨⟨trivial, trivial⟩, trivial⟩⟩⟩⟩⟩, ⟨⟨trivial, trivial⟩, ⟨⟨⟨trivial, trivial⟩, ⟨⟨trivial, trivial⟩, ⟨trivial, trivial⟩⟩⟩, trivial⟩⟩⟩⟩⟩, ⟨trivial, ⟨trivial, ⟨trivial, ⟨trivial, ⟨trivial, ⟨trivial, ⟨trivial, ⟨trivial, ⟨trivial, ⟨trivial, trivial⟩⟩⟩⟩⟩⟩⟩⟩⟩⟩⟩ ht
theorem hcbx_0 (q : QE) (h1 : (decide (iN q.i < iN q.r.length) = false)) {post : Exit → St → Prop} {R : St → Prop} (hR : ∀ st, Ren 0 st (St.mk 48 [(0, AV.lst (gL q.g)), (1, AV.lst (boL q.s)), (13, AV.lst (gL q.g)), (14, AV.int IntKind.i64 (iN q.g.length)), (15, AV.int IntKind.i64 (IntKind.i64.wrap (iN q.a + 1)))] []) → R st) : ∃ o' st' q', go2 Try.prog ({ dec := [(23, false)], els := e23g q, calls := cE q, unroll := false } : HT) 0 4000 (loopC (loopC (bodyOf Try.f23) 0) 0) (loopK (loopC (bodyOf Try.f23) 0) 0) (lb23 q) = some (o', st', q') ∧ q' ∧ Go.AX.Rest Try.prog 0 (andThen R post) st' o' :=
  endN_spec (σ := []) (fz := []) (vars := [0,1,13,14,15]) (show endN 0 [] [] [0,1,13,14,15] (go2 Try.prog ({ dec := [(23, false)], els := e23g q, calls := cE q, unroll := false } : HT) 0 4000 (loopC (loopC (bodyOf Try.f23) 0) 0) (loopK (loopC (bodyOf Try.f23) 0) 0) (lb23 q)) = some (St.mk 48 [(0, AV.lst (gL q.g)), (1, AV.lst (boL q.s)), (13, AV.lst (gL q.g)), (14, AV.int IntKind.i64 (iN q.g.length)), (15, AV.int IntKind.i64 (IntKind.i64.wrap (iN q.a + 1)))] [], (((((True ∧ (True ∧ True)) ∧ True) ∧ ((type_of% h1) ∧ True)) ∧ (((True ∧ True) ∧ ((True ∧ True) ∧ True)) ∧ True)) ∧ (True ∧ (True ∧ (True ∧ (True ∧ (True ∧ True))))))) by kernel_rfl) ⟨⟨⟨⟨⟨trivial, ⟨trivial, trivial⟩⟩, trivial⟩, ⟨h1, trivial⟩⟩, ⟨⟨⟨trivial, trivial⟩, ⟨⟨trivial, trivial⟩, trivial⟩⟩, trivial⟩⟩, ⟨trivial, ⟨trivial, ⟨trivial, ⟨trivial, ⟨trivial, trivial⟩⟩⟩⟩⟩⟩ hR
theorem hcbr_0 (q : QE) (h1 : (decide (iN q.i < iN q.r.length) = true)) (h2 : (0 ≤ iN q.i)) (h3 : ((List.map (AV.int IntKind.i64) q.r)[(iN q.i).toNat]? = some (AV.int IntKind.i64 q.y))) (h4 : (decide (q.y ≤ q.x) = true)) {post : Exit → St → Prop} (hP : Pass post (Fin Try.prog Try.f23 0 [] (AV.int IntKind.i64 20))) : ∃ o' st' q', go2 Try.prog ({ dec := [(23, true), (29, true)], els := e23g q, calls := cE q, unroll := false } : HT) 0 4000 (loopC (loopC (bodyOf Try.f23) 0) 0) (loopK (loopC (bodyOf Try.f23) 0) 0) (lb23 q) = some (o', st', q') ∧ q' ∧ Go.AX.Rest Try.prog 0 post st' o' :=
  endT_spec (σ := []) (fz := []) (show endT Try.prog Try.f23 0 [] [] (go2 Try.prog ({ dec := [(23, true), (29, true)], els := e23g q, calls := cE q, unroll := false } : HT) 0 4000 (loopC (loopC (bodyOf Try.f23) 0) 0) (loopK (loopC (bodyOf Try.f23) 0) 0) (lb23 q)) = some ([], AV.int IntKind.i64 20, (((((True ∧ (True ∧ True)) ∧ True) ∧ ((type_of% h1) ∧ (((True ∧ (True ∧ ((type_of% h2) ∧ (type_of% h3)))) ∧ ((True ∧ True) ∧ ((True ∧ True) ∧ True))) ∧ (((True ∧ True) ∧ ((True ∧ True) ∧ ((True ∧ (True ∧ True)) ∧ ((True ∧ True) ∧ ((type_of% h4) ∧ ((type_of% h4) ∧ ((type_of% h4) ∧ ((type_of% h4) ∧ (((type_of% h4) ∧ (True ∧ True)) ∧ ((True ∧ True) ∧ (True ∧ (True ∧ (True ∧ ((True ∧ (True ∧ True)) ∧ True)))))))))))))) ∧ (True ∧ ((True ∧ True) ∧ True)))))) ∧ True) ∧ (True ∧ True))) by kernel_rfl) ⟨⟨⟨⟨⟨trivial, ⟨trivial, trivial⟩⟩, trivial⟩, ⟨h1, ⟨⟨⟨trivial, ⟨trivial, ⟨h2, h3⟩⟩⟩, ⟨⟨trivial, trivial⟩, ⟨⟨trivial, trivial⟩, trivial⟩⟩⟩, ⟨⟨⟨trivial, trivial⟩, ⟨⟨trivial, trivial⟩, ⟨⟨trivial, ⟨trivial, trivial⟩⟩, ⟨⟨trivial, trivial⟩, ⟨h4, ⟨h4, ⟨h4, ⟨h4, ⟨⟨h4, ⟨trivial, trivial⟩⟩, ⟨⟨trivial, trivial⟩, ⟨trivial, ⟨trivial, ⟨trivial, ⟨⟨trivial, ⟨trivial, trivial⟩⟩, trivial⟩⟩⟩⟩⟩⟩⟩⟩⟩⟩⟩⟩⟩⟩, ⟨trivial, ⟨⟨trivial, trivial⟩, trivial⟩⟩⟩⟩⟩⟩, trivial⟩, ⟨trivial, trivial⟩⟩ hP
theorem hcbr_1 (q : QE) (h1 : (decide (iN q.i < iN q.r.length) = true)) (h2 : (0 ≤ iN q.i)) (h3 : ((List.map (AV.int IntKind.i64) q.r)[(iN q.i).toNat]? = some (AV.int IntKind.i64 q.y))) (h4 : (decide (q.y ≤ q.x) = false)) (h5 : (decide (iN (gL q.g).length ≤ q.y) = true)) {post : Exit → St → Prop} (hP : Pass post (Fin Try.prog Try.f23 0 [] (AV.int IntKind.i64 20))) : ∃ o' st' q', go2 Try.prog ({ dec := [(23, true), (29, false), (35, true)], els := e23g q, calls := cE q, unroll := false } : HT) 0 4000 (loopC (loopC (bodyOf Try.f23) 0) 0) (loopK (loopC (bodyOf Try.f23) 0) 0) (lb23 q) = some (o', st', q') ∧ q' ∧ Go.AX.Rest Try.prog 0 post st' o' :=
  endT_spec (σ := []) (fz := []) (show endT Try.prog Try.f23 0 [] [] (go2 Try.prog ({ dec := [(23, true), (29, false), (35, true)], els := e23g q, calls := cE q, unroll := false } : HT) 0 4000 (loopC (loopC (bodyOf Try.f23) 0) 0) (loopK (loopC (bodyOf Try.f23) 0) 0) (lb23 q)) = some ([], AV.int IntKind.i64 20, (((((True ∧ (True ∧ True)) ∧ True) ∧ ((type_of% h1) ∧ (((True ∧ (True ∧ ((type_of% h2) ∧ (type_of% h3)))) ∧ ((True ∧ True) ∧ ((True ∧ True) ∧ True))) ∧ (((True ∧ True) ∧ ((True ∧ True) ∧ ((True ∧ (True ∧ True)) ∧ ((True ∧ True) ∧ (((type_of% h4) ∧ (True ∧ True)) ∧ (((type_of% h4) ∧ (True ∧ True)) ∧ (((type_of% h4) ∧ (True ∧ True)) ∧ (((type_of% h4) ∧ (True ∧ (True ∧ True))) ∧ (((type_of% h4) ∧ (True ∧ True)) ∧ ((True ∧ True) ∧ ((type_of% h5) ∧ ((type_of% h5) ∧ ((type_of% h5) ∧ (((type_of% h5) ∧ (True ∧ True)) ∧ True)))))))))))))) ∧ (True ∧ ((True ∧ True) ∧ True)))))) ∧ True) ∧ (True ∧ True))) by kernel_rfl) ⟨⟨⟨⟨⟨trivial, ⟨trivial, trivial⟩⟩, trivial⟩, ⟨h1, ⟨⟨⟨trivial, ⟨trivial, ⟨h2, h3⟩⟩⟩, ⟨⟨trivial, trivial⟩, ⟨⟨trivial, trivial⟩, trivial⟩⟩⟩, ⟨⟨⟨trivial, trivial⟩, ⟨⟨trivial, trivial⟩, ⟨⟨trivial, ⟨trivial, trivial⟩⟩, ⟨⟨trivial, trivial⟩, ⟨⟨h4, ⟨trivial, trivial⟩⟩, ⟨⟨h4, ⟨trivial, trivial⟩⟩, ⟨⟨h4, ⟨trivial, trivial⟩⟩, ⟨⟨h4, ⟨trivial, ⟨trivial, trivial⟩⟩⟩, ⟨⟨h4, ⟨trivial, trivial⟩⟩, ⟨⟨trivial, trivial⟩, ⟨h5, ⟨h5, ⟨h5, ⟨⟨h5, ⟨trivial, trivial⟩⟩, trivial⟩⟩⟩⟩⟩⟩⟩⟩⟩⟩⟩⟩⟩⟩, ⟨trivial, ⟨⟨trivial, trivial⟩, trivial⟩⟩⟩⟩⟩⟩, trivial⟩, ⟨trivial, trivial⟩⟩ hP
theorem hcbr_2 (q : QE) (h1 : (decide (iN q.i < iN q.r.length) = true)) (h2 : (0 ≤ iN q.i)) (h3 : ((List.map (AV.int IntKind.i64) q.r)[(iN q.i).toNat]? = some (AV.int IntKind.i64 q.y))) (h4 : (decide (q.y ≤ q.x) = false)) (h5 : (decide (iN (gL q.g).length ≤ q.y) = false)) (h6 : ((q.y == iN q.a) = true)) {post : Exit → St → Prop} (hP : Pass post (Fin Try.prog Try.f23 0 [] (AV.int IntKind.i64 20))) : ∃ o' st' q', go2 Try.prog ({ dec := [(23, true), (29, false), (35, false), (39, true)], els := e23g q, calls := cE q, unroll := false } : HT) 0 4000 (loopC (loopC (bodyOf Try.f23) 0) 0) (loopK (loopC (bodyOf Try.f23) 0) 0) (lb23 q) = some (o', st', q') ∧ q' ∧ Go.AX.Rest Try.prog 0 post st' o' :=
  endT_spec (σ := []) (fz := []) (show endT Try.prog Try.f23 0 [] [] (go2 Try.prog ({ dec := [(23, true), (29, false), (35, false), (39, true)], els := e23g q, calls := cE q, unroll := false } : HT) 0 4000 (loopC (loopC (bodyOf Try.f23) 0) 0) (loopK (loopC (bodyOf Try.f23) 0) 0) (lb23 q)) = some ([], AV.int IntKind.i64 20, (((((True ∧ (True ∧ True)) ∧ True) ∧ ((type_of% h1) ∧ (((True ∧ (True ∧ ((type_of% h2) ∧ (type_of% h3)))) ∧ ((True ∧ True) ∧ ((True ∧ True) ∧ True))) ∧ (((True ∧ True) ∧ ((True ∧ True) ∧ ((True ∧ (True ∧ True)) ∧ ((True ∧ True) ∧ (((type_of% h4) ∧ (True ∧ True)) ∧ (((type_of% h4) ∧ (True ∧ True)) ∧ (((type_of% h4) ∧ (True ∧ True)) ∧ (((type_of% h4) ∧ (True ∧ (True ∧ True))) ∧ (((type_of% h4) ∧ (True ∧ True)) ∧ ((True ∧ True) ∧ (((type_of% h5) ∧ (True ∧ True)) ∧ (((type_of% h5) ∧ (True ∧ True)) ∧ (((type_of% h5) ∧ (True ∧ (True ∧ True))) ∧ (((type_of% h5) ∧ (True ∧ True)) ∧ True)))))))))))))) ∧ ((type_of% h6) ∧ ((True ∧ True) ∧ True)))))) ∧ True) ∧ (True ∧ True))) by kernel_rfl) ⟨⟨⟨⟨⟨trivial, ⟨trivial, trivial⟩⟩, trivial⟩, ⟨h1, ⟨⟨⟨trivial, ⟨trivial, ⟨h2, h3⟩⟩⟩, ⟨⟨trivial, trivial⟩, ⟨⟨trivial, trivial⟩, trivial⟩⟩⟩, ⟨⟨⟨trivial, trivial⟩, ⟨⟨trivial, trivial⟩, ⟨⟨trivial, ⟨trivial, trivial⟩⟩, ⟨⟨trivial, trivial⟩, ⟨⟨h4, ⟨trivial, trivial⟩⟩, ⟨⟨h4, ⟨trivial, trivial⟩⟩, ⟨⟨h4, ⟨trivial, trivial⟩⟩, ⟨⟨h4, ⟨trivial, ⟨trivial, trivial⟩⟩⟩, ⟨⟨h4, ⟨trivial, trivial⟩⟩, ⟨⟨trivial, trivial⟩, ⟨⟨h5, ⟨trivial, trivial⟩⟩, ⟨⟨h5, ⟨trivial, trivial⟩⟩, ⟨⟨h5, ⟨trivial, ⟨trivial, trivial⟩⟩⟩, ⟨⟨h5, ⟨trivial, trivial⟩⟩, trivial⟩⟩⟩⟩⟩⟩⟩⟩⟩⟩⟩⟩⟩⟩, ⟨h6, ⟨⟨trivial, trivial⟩, trivial⟩⟩⟩⟩⟩⟩, trivial⟩, ⟨trivial, trivial⟩⟩ hP
theorem hcbr_3 (q : QE) (h1 : (decide (iN q.i < iN q.r.length) = true)) (h2 : (0 ≤ iN q.i)) (h3 : ((List.map (AV.int IntKind.i64) q.r)[(iN q.i).toNat]? = some (AV.int IntKind.i64 q.y))) (h4 : (decide (q.y ≤ q.x) = false)) (h5 : (decide (iN (gL q.g).length ≤ q.y) = false)) (h6 : ((q.y == iN q.a) = false)) {post : Exit → St → Prop} {R : St → Prop} (hR : ∀ st, Ren 0 st (St.mk 48 [(0, AV.lst (gL q.g)), (1, AV.lst (boL q.s)), (5, AV.int IntKind.i64 (iN q.a)), (7, AV.int IntKind.i64 q.y), (13, AV.lst (gL q.g)), (14, AV.int IntKind.i64 (iN q.g.length)), (15, AV.int IntKind.i64 (iN q.a)), (20, AV.lst (List.map (AV.int IntKind.i64) q.r)), (21, AV.int IntKind.i64 (iN q.r.length)), (22, AV.int IntKind.i64 (IntKind.i64.wrap (iN q.i + 1)))] []) → R st) : ∃ o' st' q', go Try.prog ({ dec := [(23, true), (29, false), (35, false), (39, false)], els := e23g q, calls := cE q, unroll := false } : HT) 0 4000 (.inl (loopC (loopC (bodyOf Try.f23) 0) 0)) [] (lb23 q) = some (o', st', q') ∧ q' ∧ Go.AX.Rest Try.prog 0 (andThen R post) st' o' :=
  endN_spec (σ := []) (fz := []) (vars := [0,1,5,7,13,14,15,20,21,22]) (show endN 0 [] [] [0,1,5,7,13,14,15,20,21,22] (go Try.prog ({ dec := [(23, true), (29, false), (35, false), (39, false)], els := e23g q, calls := cE q, unroll := false } : HT) 0 4000 (.inl (loopC (loopC (bodyOf Try.f23) 0) 0)) [] (lb23 q)) = some (St.mk 48 [(0, AV.lst (gL q.g)), (1, AV.lst (boL q.s)), (5, AV.int IntKind.i64 (iN q.a)), (7, AV.int IntKind.i64 q.y), (13, AV.lst (gL q.g)), (14, AV.int IntKind.i64 (iN q.g.length)), (15, AV.int IntKind.i64 (iN q.a)), (20, AV.lst (List.map (AV.int IntKind.i64) q.r)), (21, AV.int IntKind.i64 (iN q.r.length)), (22, AV.int IntKind.i64 (IntKind.i64.wrap (iN q.i + 1)))] [], ((((True ∧ (True ∧ True)) ∧ True) ∧ ((type_of% h1) ∧ (((True ∧ (True ∧ ((type_of% h2) ∧ (type_of% h3)))) ∧ ((True ∧ True) ∧ ((True ∧ True) ∧ True))) ∧ (((True ∧ True) ∧ ((True ∧ True) ∧ ((True ∧ (True ∧ True)) ∧ ((True ∧ True) ∧ (((type_of% h4) ∧ (True ∧ True)) ∧ (((type_of% h4) ∧ (True ∧ True)) ∧ (((type_of% h4) ∧ (True ∧ True)) ∧ (((type_of% h4) ∧ (True ∧ (True ∧ True))) ∧ (((type_of% h4) ∧ (True ∧ True)) ∧ ((True ∧ True) ∧ (((type_of% h5) ∧ (True ∧ True)) ∧ (((type_of% h5) ∧ (True ∧ True)) ∧ (((type_of% h5) ∧ (True ∧ (True ∧ True))) ∧ (((type_of% h5) ∧ (True ∧ True)) ∧ True)))))))))))))) ∧ ((type_of% h6) ∧ (((True ∧ True) ∧ ((True ∧ True) ∧ True)) ∧ (((True ∧ True) ∧ ((True ∧ True) ∧ True)) ∧ True))))))) ∧ (True ∧ (True ∧ (True ∧ (True ∧ (True ∧ (True ∧ (True ∧ (True ∧ (True ∧ (True ∧ True)))))))))))) by kernel_rfl) ⟨⟨⟨⟨trivial, ⟨trivial, trivial⟩⟩, trivial⟩, ⟨h1, ⟨⟨⟨trivial, ⟨trivial, ⟨h2, h3⟩⟩⟩, ⟨⟨trivial, trivial⟩, ⟨⟨trivial, trivial⟩, trivial⟩⟩⟩, ⟨⟨⟨trivial, trivial⟩, ⟨⟨trivial, trivial⟩, ⟨⟨trivial, ⟨trivial, trivial⟩⟩, ⟨⟨trivial, trivial⟩, ⟨⟨h4, ⟨trivial, trivial⟩⟩, ⟨⟨h4, ⟨trivial, trivial⟩⟩, ⟨⟨h4, ⟨trivial, trivial⟩⟩, ⟨⟨h4, ⟨trivial, ⟨trivial, trivial⟩⟩⟩, ⟨⟨h4, ⟨trivial, trivial⟩⟩, ⟨⟨trivial, trivial⟩, ⟨⟨h5, ⟨trivial, trivial⟩⟩, ⟨⟨h5, ⟨trivial, trivial⟩⟩, ⟨⟨h5, ⟨trivial, ⟨trivial, trivial⟩⟩⟩, ⟨⟨h5, ⟨trivial, trivial⟩⟩, trivial⟩⟩⟩⟩⟩⟩⟩⟩⟩⟩⟩⟩⟩⟩, ⟨h6, ⟨⟨⟨trivial, trivial⟩, ⟨⟨trivial, trivial⟩, trivial⟩⟩, ⟨⟨⟨trivial, trivial⟩, ⟨⟨trivial, trivial⟩, trivial⟩⟩, trivial⟩⟩⟩⟩⟩⟩⟩, ⟨trivial, ⟨trivial, ⟨trivial, ⟨trivial, ⟨trivial, ⟨trivial, ⟨trivial, ⟨trivial, ⟨trivial, ⟨trivial, trivial⟩⟩⟩⟩⟩⟩⟩⟩⟩⟩⟩ hR
theorem gi_0 (q : QE) (h1 : (CT Try.prog 23 [] [AV.lst (gL q.g), AV.lst (boL q.s)] [] (AV.int IntKind.i64 q.e))) (h2 : ((q.e != 0) = true)) : ∃ o' st' q', go Try.prog ({ dec := [(15, true)], els := eN q, calls := cE q, unroll := false } : HT) 0 4000 (.inl (bodyOf Try.f12)) [] (st12 q) = some (o', st', q') ∧ q' ∧ Go.AX.Rest Try.prog 0 (Fin Try.prog Try.f12 0 [] (AV.tup [AV.int IntKind.i64 0, AV.nils, AV.int IntKind.i64 q.e])) st' o' :=
  endF_spec (σ := []) (fz := []) (show endF Try.prog Try.f12 0 [] [] (go Try.prog ({ dec := [(15, true)], els := eN q, calls := cE q, unroll := false } : HT) 0 4000 (.inl (bodyOf Try.f12)) [] (st12 q)) = some ([], AV.tup [AV.int IntKind.i64 0, AV.nils, AV.int IntKind.i64 q.e], (((True ∧ (True ∧ (True ∧ True))) ∧ (((True ∧ True) ∧ ((True ∧ True) ∧ ((True ∧ (True ∧ (True ∧ (True ∧ ((type_of% h1) ∧ True))))) ∧ ((True ∧ True) ∧ True)))) ∧ (((True ∧ True) ∧ ((True ∧ True) ∧ True)) ∧ ((type_of% h2) ∧ (((True ∧ True) ∧ (True ∧ (True ∧ ((True ∧ True) ∧ True)))) ∧ True))))) ∧ ((True ∧ (True ∧ (True ∧ True))) ∧ True))) by kernel_rfl) ⟨⟨⟨trivial, ⟨trivial, ⟨trivial, trivial⟩⟩⟩, ⟨⟨⟨trivial, trivial⟩, ⟨⟨trivial, trivial⟩, ⟨⟨trivial, ⟨trivial, ⟨trivial, ⟨trivial, ⟨h1, trivial⟩⟩⟩⟩⟩, ⟨⟨trivial, trivial⟩, trivial⟩⟩⟩⟩, ⟨⟨⟨trivial, trivial⟩, ⟨⟨trivial, trivial⟩, trivial⟩⟩, ⟨h2, ⟨⟨⟨trivial, trivial⟩, ⟨trivial, ⟨trivial, ⟨⟨trivial, trivial⟩, trivial⟩⟩⟩⟩, trivial⟩⟩⟩⟩⟩, ⟨⟨trivial, ⟨trivial, ⟨trivial, trivial⟩⟩⟩, trivial⟩⟩
theorem gi_1 (q : QE) (h1 : (CT Try.prog 23 [] [AV.lst (gL q.g), AV.lst (boL q.s)] [] (AV.int IntKind.i64 q.e))) (h2 : ((q.e != 0) = false)) {post : Exit → St → Prop} (ht : T Try.prog 0 (.loop (loopC (bodyOf Try.f12) 0)) (St.mk 45 [(0, AV.lst (gL q.g)), (1, AV.lst (boL q.s)), (8, AV.nils), (18, AV.int IntKind.i64 (iN (gL q.g).length)), (19, AV.int IntKind.i64 0)] []) (TK Try.prog 0 post (loopK (bodyOf Try.f12) 0))) : ∃ o' st' q', go Try.prog ({ dec := [(15, false)], els := eN q, calls := cE q, unroll := false } : HT) 0 4000 (.inl (bodyOf Try.f12)) [] (st12 q) = some (o', st', q') ∧ q' ∧ Go.AX.Rest Try.prog 0 post st' o' :=
  endR_spec (σ := []) (fz := []) (vars := [0,1,8,18,19]) (show endR 0 [] [] [0,1,8,18,19] (go Try.prog ({ dec := [(15, false)], els := eN q, calls := cE q, unroll := false } : HT) 0 4000 (.inl (bodyOf Try.f12)) [] (st12 q)) = some (loopC (bodyOf Try.f12) 0, loopK (bodyOf Try.f12) 0, St.mk 45 [(0, AV.lst (gL q.g)), (1, AV.lst (boL q.s)), (8, AV.nils), (18, AV.int IntKind.i64 (iN (gL q.g).length)), (19, AV.int IntKind.i64 0)] [], (((True ∧ (True ∧ (True ∧ True))) ∧ (((True ∧ True) ∧ ((True ∧ True) ∧ ((True ∧ (True ∧ (True ∧ (True ∧ ((type_of% h1) ∧ True))))) ∧ ((True ∧ True) ∧ True)))) ∧ (((True ∧ True) ∧ ((True ∧ True) ∧ True)) ∧ ((type_of% h2) ∧ ((True ∧ True) ∧ (((True ∧ True) ∧ ((True ∧ True) ∧ (True ∧ True))) ∧ True)))))) ∧ (True ∧ (True ∧ (True ∧ (True ∧ (True ∧ True))))))) by kernel_rfl) ⟨⟨⟨trivial, ⟨trivial, ⟨trivial, trivial⟩⟩⟩, ⟨⟨⟨trivial, trivial⟩, ⟨⟨trivial, trivial⟩, ⟨⟨trivial, ⟨trivial, ⟨trivial, ⟨trivial, ⟨h1, trivial⟩⟩⟩⟩⟩, ⟨⟨trivial, trivial⟩, trivial⟩⟩⟩⟩, ⟨⟨⟨trivial, trivial⟩, ⟨⟨trivial, trivial⟩, trivial⟩⟩, ⟨h2, ⟨⟨trivial, trivial⟩, ⟨⟨⟨trivial, trivial⟩, ⟨⟨trivial, trivial⟩, ⟨trivial, trivial⟩⟩⟩, trivial⟩⟩⟩⟩⟩⟩, ⟨trivial, ⟨trivial, ⟨trivial, ⟨trivial, ⟨trivial, trivial⟩⟩⟩⟩⟩⟩ ht
theorem gax_0 (q : QE) (h1 : (decide (iN q.i < iN q.g.length) = false)) : ∃ o' st' q', go2 Try.prog ({ dec := [(20, false)], els := eN q, calls := cE q, unroll := false } : HT) 0 4000 (loopC (bodyOf Try.f12) 0) (loopK (bodyOf Try.f12) 0) (la12 q) = some (o', st', q') ∧ q' ∧ Go.AX.Rest Try.prog 0 (Fin Try.prog Try.f12 0 [] (AV.tup [AV.int IntKind.i64 0, AV.nils, AV.int IntKind.i64 0])) st' o' :=
  endF_spec (σ := []) (fz := []) (show endF Try.prog Try.f12 0 [] [] (go2 Try.prog ({ dec := [(20, false)], els := eN q, calls := cE q, unroll := false } : HT) 0 4000 (loopC (bodyOf Try.f12) 0) (loopK (bodyOf Try.f12) 0) (la12 q)) = some ([], AV.tup [AV.int IntKind.i64 0, AV.nils, AV.int IntKind.i64 0], (((((True ∧ (True ∧ True)) ∧ True) ∧ ((type_of% h1) ∧ True)) ∧ (((True ∧ True) ∧ ((True ∧ True) ∧ ((True ∧ True) ∧ ((True ∧ True) ∧ ((True ∧ True) ∧ (True ∧ True)))))) ∧ True)) ∧ ((True ∧ (True ∧ (True ∧ True))) ∧ True))) by kernel_rfl) ⟨⟨⟨⟨⟨trivial, ⟨trivial, trivial⟩⟩, trivial⟩, ⟨h1, trivial⟩⟩, ⟨⟨⟨trivial, trivial⟩, ⟨⟨trivial, trivial⟩, ⟨⟨trivial, trivial⟩, ⟨⟨trivial, trivial⟩, ⟨⟨trivial, trivial⟩, ⟨trivial, trivial⟩⟩⟩⟩⟩⟩, trivial⟩⟩, ⟨⟨trivial, ⟨trivial, ⟨trivial, trivial⟩⟩⟩, trivial⟩⟩
theorem gbx_0 (q : QE) (h1 : (decide (iN q.i < iN q.g.length) = false)) : ∃ o' st' q', go2 Try.prog ({ dec := [(20, false)], els := eN q, calls := cE q, unroll := false } : HT) 0 4000 (loopC (bodyOf Try.f12) 0) (loopK (bodyOf Try.f12) 0) (lb12 q) = some (o', st', q') ∧ q' ∧ Go.AX.Rest Try.prog 0 (Fin Try.prog Try.f12 0 [] (AV.tup [AV.int IntKind.i64 (iN (List.map (AV.int IntKind.i64) q.o).length), AV.lst (List.map (AV.int IntKind.i64) q.o), AV.int IntKind.i64 0])) st' o' :=
  endF_spec (σ := []) (fz := []) (show endF Try.prog Try.f12 0 [] [] (go2 Try.prog ({ dec := [(20, false)], els := eN q, calls := cE q, unroll := false } : HT) 0 4000 (loopC (bodyOf Try.f12) 0) (loopK (bodyOf Try.f12) 0) (lb12 q)) = some ([], AV.tup [AV.int IntKind.i64 (iN (List.map (AV.int IntKind.i64) q.o).length), AV.lst (List.map (AV.int IntKind.i64) q.o), AV.int IntKind.i64 0], (((((True ∧ (True ∧ True)) ∧ True) ∧ ((type_of% h1) ∧ True)) ∧ (((True ∧ True) ∧ ((True ∧ True) ∧ ((True ∧ True) ∧ ((True ∧ True) ∧ ((True ∧ True) ∧ (True ∧ True)))))) ∧ True)) ∧ ((True ∧ (True ∧ (True ∧ True))) ∧ True))) by kernel_rfl) ⟨⟨⟨⟨⟨trivial, ⟨trivial, trivial⟩⟩, trivial⟩, ⟨h1, trivial⟩⟩, ⟨⟨⟨trivial, trivial⟩, ⟨⟨trivial, trivial⟩, ⟨⟨trivial, trivial⟩, ⟨⟨trivial, trivial⟩, ⟨⟨trivial, trivial⟩, ⟨trivial, trivial⟩⟩⟩⟩⟩⟩, trivial⟩⟩, ⟨⟨trivial, ⟨trivial, ⟨trivial, trivial⟩⟩⟩, trivial⟩⟩
theorem gar_0 (q : QE) (h1 : (decide (iN q.i < iN q.g.length) = true)) (h2 : (CT Try.prog 24 [] [AV.lst (gL q.g), AV.lst (boL q.s), AV.int IntKind.i64 (iN q.i)] [] (AV.lst (List.map (AV.int IntKind.i64) q.p)))) (h3 : (decide (0 < iN (List.map (AV.int IntKind.i64) q.p).length) = true)) {post : Exit → St → Prop} {R : St → Prop} (hR : ∀ st, Ren 0 st (St.mk 45 [(0, AV.lst (gL q.g)), (1, AV.lst (boL q.s)), (8, AV.lst (List.map (AV.int IntKind.i64) q.p)), (18, AV.int IntKind.i64 (iN q.g.length)), (19, AV.int IntKind.i64 (IntKind.i64.wrap (iN q.i + 1)))] []) → R st) : ∃ o' st' q', go Try.prog ({ dec := [(20, true), (29, true)], els := eN q, calls := cE q, unroll := false } : HT) 0 4000 (.inl (loopC (bodyOf Try.f12) 0)) [] (la12 q) = some (o', st', q') ∧ q' ∧ Go.AX.Rest Try.prog 0 (andThen R post) st' o' :=
  endN_spec (σ := []) (fz := []) (vars := [0,1,8,18,19]) (show endN 0 [] [] [0,1,8,18,19] (go Try.prog ({ dec := [(20, true), (29, true)], els := eN q, calls := cE q, unroll := false } : HT) 0 4000 (.inl (loopC (bodyOf Try.f12) 0)) [] (la12 q)) = some (St.mk 45 [(0, AV.lst (gL q.g)), (1, AV.lst (boL q.s)), (8, AV.lst (List.map (AV.int IntKind.i64) q.p)), (18, AV.int IntKind.i64 (iN q.g.length)), (19, AV.int IntKind.i64 (IntKind.i64.wrap (iN q.i + 1)))] [], ((((True ∧ (True ∧ True)) ∧ True) ∧ ((type_of% h1) ∧ (((True ∧ True) ∧ ((True ∧ True) ∧ True)) ∧ (((True ∧ True) ∧ ((True ∧ True) ∧ ((True ∧ True) ∧ ((True ∧ (True ∧ (True ∧ (True ∧ (True ∧ (True ∧ ((type_of% h2) ∧ True))))))) ∧ ((True ∧ True) ∧ True))))) ∧ (((True ∧ True) ∧ ((True ∧ True) ∧ ((True ∧ True) ∧ ((True ∧ True) ∧ (((type_of% h3) ∧ (True ∧ True)) ∧ (((type_of% h3) ∧ (True ∧ True)) ∧ (((type_of% h3) ∧ (True ∧ True)) ∧ (True ∧ (True ∧ (True ∧ (True ∧ (True ∧ (((type_of% h3) ∧ (True ∧ (True ∧ True))) ∧ (((type_of% h3) ∧ (True ∧ True)) ∧ True)))))))))))))) ∧ (True ∧ (((True ∧ True) ∧ ((True ∧ True) ∧ True)) ∧ (((True ∧ True) ∧ ((True ∧ True) ∧ True)) ∧ True)))))))) ∧ (True ∧ (True ∧ (True ∧ (True ∧ (True ∧ True))))))) by kernel_rfl) ⟨⟨⟨⟨trivial, ⟨trivial, trivial⟩⟩, trivial⟩, ⟨h1, ⟨⟨⟨trivial, trivial⟩, ⟨⟨trivial, trivial⟩, trivial⟩⟩, ⟨⟨⟨trivial, trivial⟩, ⟨⟨trivial, trivial⟩, ⟨⟨trivial, trivial⟩, ⟨⟨trivial, ⟨trivial, ⟨trivial, ⟨trivial, ⟨trivial, ⟨trivial, ⟨h2, trivial⟩⟩⟩⟩⟩⟩⟩, ⟨⟨trivial, trivial⟩, trivial⟩⟩⟩⟩⟩, ⟨⟨⟨trivial, trivial⟩, ⟨⟨trivial, trivial⟩, ⟨⟨trivial, trivial⟩, ⟨⟨trivial, trivial⟩, ⟨⟨h3, ⟨trivial, trivial⟩⟩, ⟨⟨h3, ⟨trivial, trivial⟩⟩, ⟨⟨h3, ⟨trivial, trivial⟩⟩, ⟨trivial, ⟨trivial, ⟨trivial, ⟨trivial, ⟨trivial, ⟨⟨h3, ⟨trivial, ⟨trivial, trivial⟩⟩⟩, ⟨⟨h3, ⟨trivial, trivial⟩⟩, trivial⟩⟩⟩⟩⟩⟩⟩⟩⟩⟩⟩⟩⟩⟩, ⟨trivial, ⟨⟨⟨trivial, trivial⟩, ⟨⟨trivial, trivial⟩, trivial⟩⟩, ⟨⟨⟨trivial, trivial⟩, ⟨⟨trivial, trivial⟩, trivial⟩⟩, trivial⟩⟩⟩⟩⟩⟩⟩⟩, ⟨trivial, ⟨trivial, ⟨trivial, ⟨trivial, ⟨trivial, trivial⟩⟩⟩⟩⟩⟩ hR
theorem gar_1 (q : QE) (h1 : (decide (iN q.i < iN q.g.length) = true)) (h2 : (CT Try.prog 24 [] [AV.lst (gL q.g), AV.lst (boL q.s), AV.int IntKind.i64 (iN q.i)] [] (AV.lst (List.map (AV.int IntKind.i64) q.p)))) (h3 : (decide (0 < iN (List.map (AV.int IntKind.i64) q.p).length) = false)) {post : Exit → St → Prop} {R : St → Prop} (hR : ∀ st, Ren 0 st (St.mk 45 [(0, AV.lst (gL q.g)), (1, AV.lst (boL q.s)), (8, AV.nils), (18, AV.int IntKind.i64 (iN q.g.length)), (19, AV.int IntKind.i64 (IntKind.i64.wrap (iN q.i + 1)))] []) → R st) : ∃ o' st' q', go Try.prog ({ dec := [(20, true), (29, false)], els := eN q, calls := cE q, unroll := false } : HT) 0 4000 (.inl (loopC (bodyOf Try.f12) 0)) [] (la12 q) = some (o', st', q') ∧ q' ∧ Go.AX.Rest Try.prog 0 (andThen R post) st' o' :=
  endN_spec (σ := []) (fz := []) (vars := [0,1,8,18,19]) (show endN 0 [] [] [0,1,8,18,19] (go Try.prog ({ dec := [(20, true), (29, false)], els := eN q, calls := cE q, unroll := false } : HT) 0 4000 (.inl (loopC (bodyOf Try.f12) 0)) [] (la12 q)) = some (St.mk 45 [(0, AV.lst (gL q.g)), (1, AV.lst (boL q.s)), (8, AV.nils), (18, AV.int IntKind.i64 (iN q.g.length)), (19, AV.int IntKind.i64 (IntKind.i64.wrap (iN q.i + 1)))] [], ((((True ∧ (True ∧ True)) ∧ True) ∧ ((type_of% h1) ∧ (((True ∧ True) ∧ ((True ∧ True) ∧ True)) ∧ (((True ∧ True) ∧ ((True ∧ True) ∧ ((True ∧ True) ∧ ((True ∧ (True ∧ (True ∧ (True ∧ (True ∧ (True ∧ ((type_of% h2) ∧ True))))))) ∧ ((True ∧ True) ∧ True))))) ∧ (((True ∧ True) ∧ ((True ∧ True) ∧ ((True ∧ True) ∧ ((True ∧ True) ∧ ((type_of% h3) ∧ ((type_of% h3) ∧ ((type_of% h3) ∧ (True ∧ (True ∧ (True ∧ (True ∧ (True ∧ ((type_of% h3) ∧ (((type_of% h3) ∧ (True ∧ True)) ∧ True)))))))))))))) ∧ (True ∧ (((True ∧ True) ∧ ((True ∧ True) ∧ True)) ∧ True))))))) ∧ (True ∧ (True ∧ (True ∧ (True ∧ (True ∧ True))))))) by kernel_rfl) ⟨⟨⟨⟨trivial, ⟨trivial, trivial⟩⟩, trivial⟩, ⟨h1, ⟨⟨⟨trivial, trivial⟩, ⟨⟨trivial, trivial⟩, trivial⟩⟩, ⟨⟨⟨trivial, trivial⟩, ⟨⟨trivial, trivial⟩, ⟨⟨trivial, trivial⟩, ⟨⟨trivial, ⟨trivial, ⟨trivial, ⟨trivial, ⟨trivial, ⟨trivial, ⟨h2, trivial⟩⟩⟩⟩⟩⟩⟩, ⟨⟨trivial, trivial⟩, trivial⟩⟩⟩⟩⟩, ⟨⟨⟨trivial, trivial⟩, ⟨⟨trivial, trivial⟩, ⟨⟨trivial, trivial⟩, ⟨⟨trivial, trivial⟩, ⟨h3, ⟨h3, ⟨h3, ⟨trivial, ⟨trivial, ⟨trivial, ⟨trivial, ⟨trivial, ⟨h3, ⟨⟨h3, ⟨trivial, trivial⟩⟩, trivial⟩⟩⟩⟩⟩⟩⟩⟩⟩⟩⟩⟩⟩⟩, ⟨trivial, ⟨⟨⟨trivial, trivial⟩, ⟨⟨trivial, trivial⟩, trivial⟩⟩, trivial⟩⟩⟩⟩⟩⟩⟩, ⟨trivial, ⟨trivial, ⟨trivial, ⟨trivial, ⟨trivial, trivial⟩⟩⟩⟩⟩⟩ hR
theorem gbr_0 (q : QE) (h1 : (decide (iN q.i < iN q.g.length) = true)) (h2 : (CT Try.prog 24 [] [AV.lst (gL q.g), AV.lst (boL q.s), AV.int IntKind.i64 (iN q.i)] [] (AV.lst (List.map (AV.int IntKind.i64) q.p)))) (h3 : (decide (0 < iN (List.map (AV.int IntKind.i64) q.p).length) = true)) (h4 : (List.map (AV.int IntKind.i64) q.o = [] → False)) (h5 : (decide (iN (List.map (AV.int IntKind.i64) q.p).length < iN (List.map (AV.int IntKind.i64) q.o).length) = true)) {post : Exit → St → Prop} {R : St → Prop} (hR : ∀ st, Ren 0 st (St.mk 45 [(0, AV.lst (gL q.g)), (1, AV.lst (boL q.s)), (8, AV.lst (List.map (AV.int IntKind.i64) q.p)), (18, AV.int IntKind.i64 (iN q.g.length)), (19, AV.int IntKind.i64 (IntKind.i64.wrap (iN q.i + 1)))] []) → R st) : ∃ o' st' q', go Try.prog ({ dec := [(20, true), (29, true), (39, true)], els := eN q, calls := cE q, unroll := false } : HT) 0 4000 (.inl (loopC (bodyOf Try.f12) 0)) [] (lb12 q) = some (o', st', q') ∧ q' ∧ Go.AX.Rest Try.prog 0 (andThen R post) st' o' :=
  endN_spec (σ := []) (fz := []) (vars := [0,1,8,18,19]) (show endN 0 [] [] [0,1,8,18,19] (go Try.prog ({ dec := [(20, true), (29, true), (39, true)], els := eN q, calls := cE q, unroll := false } : HT) 0 4000 (.inl (loopC (bodyOf Try.f12) 0)) [] (lb12 q)) = some (St.mk 45 [(0, AV.lst (gL q.g)), (1, AV.lst (boL q.s)), (8, AV.lst (List.map (AV.int IntKind.i64) q.p)), (18, AV.int IntKind.i64 (iN q.g.length)), (19, AV.int IntKind.i64 (IntKind.i64.wrap (iN q.i + 1)))] [], ((((True ∧ (True ∧ True)) ∧ True) ∧ ((type_of% h1) ∧ (((True ∧ True) ∧ ((True ∧ True) ∧ True)) ∧ (((True ∧ True) ∧ ((True ∧ True) ∧ ((True ∧ True) ∧ ((True ∧ (True ∧ (True ∧ (True ∧ (True ∧ (True ∧ ((type_of% h2) ∧ True))))))) ∧ ((True ∧ True) ∧ True))))) ∧ (((True ∧ True) ∧ ((True ∧ True) ∧ ((True ∧ True) ∧ ((True ∧ True) ∧ (((type_of% h3) ∧ (True ∧ True)) ∧ (((type_of% h3) ∧ (True ∧ (type_of% h4))) ∧ (((type_of% h3) ∧ (True ∧ True)) ∧ ((True ∧ (True ∧ True)) ∧ ((True ∧ (True ∧ True)) ∧ ((True ∧ (True ∧ True)) ∧ ((True ∧ (True ∧ True)) ∧ ((True ∧ (True ∧ (True ∧ True))) ∧ (((type_of% h3) ∧ (True ∧ (True ∧ True))) ∧ (((type_of% h3) ∧ (True ∧ True)) ∧ True)))))))))))))) ∧ ((type_of% h5) ∧ (((True ∧ True) ∧ ((True ∧ True) ∧ True)) ∧ (((True ∧ True) ∧ ((True ∧ True) ∧ True)) ∧ True)))))))) ∧ (True ∧ (True ∧ (True ∧ (True ∧ (True ∧ True))))))) by kernel_rfl) ⟨⟨⟨⟨trivial, ⟨trivial, trivial⟩⟩, trivial⟩, ⟨h1, ⟨⟨⟨trivial, trivial⟩, ⟨⟨trivial, trivial⟩, trivial⟩⟩, ⟨⟨⟨trivial, trivial⟩, ⟨⟨trivial, trivial⟩, ⟨⟨trivial, trivial⟩, ⟨⟨trivial, ⟨trivial, ⟨trivial, ⟨trivial, ⟨trivial, ⟨trivial, ⟨h2, trivial⟩⟩⟩⟩⟩⟩⟩, ⟨⟨trivial, trivial⟩, trivial⟩⟩⟩⟩⟩, ⟨⟨⟨trivial, trivial⟩, ⟨⟨trivial, trivial⟩, ⟨⟨trivial, trivial⟩, ⟨⟨trivial, trivial⟩, ⟨⟨h3, ⟨trivial, trivial⟩⟩, ⟨⟨h3, ⟨trivial, h4⟩⟩, ⟨⟨h3, ⟨trivial, trivial⟩⟩, ⟨⟨trivial, ⟨trivial, trivial⟩⟩, ⟨⟨trivial, ⟨trivial, trivial⟩⟩, ⟨⟨trivial, ⟨trivial, trivial⟩⟩, ⟨⟨trivial, ⟨trivial, trivial⟩⟩, ⟨⟨trivial, ⟨trivial, ⟨trivial, trivial⟩⟩⟩, ⟨⟨h3, ⟨trivial, ⟨trivial, trivial⟩⟩⟩, ⟨⟨h3, ⟨trivial, trivial⟩⟩, trivial⟩⟩⟩⟩⟩⟩⟩⟩⟩⟩⟩⟩⟩⟩, ⟨h5, ⟨⟨⟨trivial, trivial⟩, ⟨⟨trivial, trivial⟩, trivial⟩⟩, ⟨⟨⟨trivial, trivial⟩, ⟨⟨trivial, trivial⟩, trivial⟩⟩, trivial⟩⟩⟩⟩⟩⟩⟩⟩, ⟨trivial, ⟨trivial, ⟨trivial, ⟨trivial, ⟨trivial, trivial⟩⟩⟩⟩⟩⟩ hR
theorem gbr_1 (q : QE) (h1 : (decide (iN q.i < iN q.g.length) = true)) (h2 : (CT Try.prog 24 [] [AV.lst (gL q.g), AV.lst (boL q.s), AV.int IntKind.i64 (iN q.i)] [] (AV.lst (List.map (AV.int IntKind.i64) q.p)))) (h3 : (decide (0 < iN (List.map (AV.int IntKind.i64) q.p).length) = true)) (h4 : (List.map (AV.int IntKind.i64) q.o = [] → False)) (h5 : (decide (iN (List.map (AV.int IntKind.i64) q.p).length < iN (List.map (AV.int IntKind.i64) q.o).length) = false)) {post : Exit → St → Prop} {R : St → Prop} (hR : ∀ st, Ren 0 st (St.mk 45 [(0, AV.lst (gL q.g)), (1, AV.lst (boL q.s)), (8, AV.lst (List.map (AV.int IntKind.i64) q.o)), (18, AV.int IntKind.i64 (iN q.g.length)), (19, AV.int IntKind.i64 (IntKind.i64.wrap (iN q.i + 1)))] []) → R st) : ∃ o' st' q', go Try.prog ({ dec := [(20, true), (29, true), (39, false)], els := eN q, calls := cE q, unroll := false } : HT) 0 4000 (.inl (loopC (bodyOf Try.f12) 0)) [] (lb12 q) = some (o', st', q') ∧ q' ∧ Go.AX.Rest Try.prog 0 (andThen R post) st' o' :=
  endN_spec (σ := []) (fz := []) (vars := [0,1,8,18,19]) (show endN 0 [] [] [0,1,8,18,19] (go Try.prog ({ dec := [(20, true), (29, true), (39, false)], els := eN q, calls := cE q, unroll := false } : HT) 0 4000 (.inl (loopC (bodyOf Try.f12) 0)) [] (lb12 q)) = some (St.mk 45 [(0, AV.lst (gL q.g)), (1, AV.lst (boL q.s)), (8, AV.lst (List.map (AV.int IntKind.i64) q.o)), (18, AV.int IntKind.i64 (iN q.g.length)), (19, AV.int IntKind.i64 (IntKind.i64.wrap (iN q.i + 1)))] [], ((((True ∧ (True ∧ True)) ∧ True) ∧ ((type_of% h1) ∧ (((True ∧ True) ∧ ((True ∧ True) ∧ True)) ∧ (((True ∧ True) ∧ ((True ∧ True) ∧ ((True ∧ True) ∧ ((True ∧ (True ∧ (True ∧ (True ∧ (True ∧ (True ∧ ((type_of% h2) ∧ True))))))) ∧ ((True ∧ True) ∧ True))))) ∧ (((True ∧ True) ∧ ((True ∧ True) ∧ ((True ∧ True) ∧ ((True ∧ True) ∧ (((type_of% h3) ∧ (True ∧ True)) ∧ (((type_of% h3) ∧ (True ∧ (type_of% h4))) ∧ (((type_of% h3) ∧ (True ∧ True)) ∧ ((True ∧ (True ∧ True)) ∧ ((True ∧ (True ∧ True)) ∧ ((True ∧ (True ∧ True)) ∧ ((True ∧ (True ∧ True)) ∧ ((True ∧ (True ∧ (True ∧ True))) ∧ (((type_of% h3) ∧ (True ∧ (True ∧ True))) ∧ (((type_of% h3) ∧ (True ∧ True)) ∧ True)))))))))))))) ∧ ((type_of% h5) ∧ (((True ∧ True) ∧ ((True ∧ True) ∧ True)) ∧ True))))))) ∧ (True ∧ (True ∧ (True ∧ (True ∧ (True ∧ True))))))) by kernel_rfl) ⟨⟨⟨⟨trivial, ⟨trivial, trivial⟩⟩, trivial⟩, ⟨h1, ⟨⟨⟨trivial, trivial⟩, ⟨⟨trivial, trivial⟩, trivial⟩⟩, ⟨⟨⟨trivial, trivial⟩, ⟨⟨trivial, trivial⟩, ⟨⟨trivial, trivial⟩, ⟨⟨trivial, ⟨trivial, ⟨trivial, ⟨trivial, ⟨trivial, ⟨trivial, ⟨h2, trivial⟩⟩⟩⟩⟩⟩⟩, ⟨⟨trivial, trivial⟩, trivial⟩⟩⟩⟩⟩, ⟨⟨⟨trivial, trivial⟩, ⟨⟨trivial, trivial⟩, ⟨⟨trivial, trivial⟩, ⟨⟨trivial, trivial⟩, ⟨⟨h3, ⟨trivial, trivial⟩⟩, ⟨⟨h3, ⟨trivial, h4⟩⟩, ⟨⟨h3, ⟨trivial, trivial⟩⟩, ⟨⟨trivial, ⟨trivial, trivial⟩⟩, ⟨⟨trivial, ⟨trivial, trivial⟩⟩, ⟨⟨trivial, ⟨trivial, trivial⟩⟩, ⟨⟨trivial, ⟨trivial, trivial⟩⟩, ⟨⟨trivial, ⟨trivial, ⟨trivial, trivial⟩⟩⟩, ⟨⟨h3, ⟨trivial, ⟨trivial, trivial⟩⟩⟩, ⟨⟨h3, ⟨trivial, trivial⟩⟩, trivial⟩⟩⟩⟩⟩⟩⟩⟩⟩⟩⟩⟩⟩⟩, ⟨h5, ⟨⟨⟨trivial, trivial⟩, ⟨⟨trivial, trivial⟩, trivial⟩⟩, trivial⟩⟩⟩⟩⟩⟩⟩, ⟨trivial, ⟨trivial, ⟨trivial, ⟨trivial, ⟨trivial, trivial⟩⟩⟩⟩⟩⟩ hR
theorem gbr_2 (q : QE) (h1 : (decide (iN q.i < iN q.g.length) = true)) (h2 : (CT Try.prog 24 [] [AV.lst (gL q.g), AV.lst (boL q.s), AV.int IntKind.i64 (iN q.i)] [] (AV.lst (List.map (AV.int IntKind.i64) q.p)))) (h3 : (decide (0 < iN (List.map (AV.int IntKind.i64) q.p).length) = false)) {post : Exit → St → Prop} {R : St → Prop} (hR : ∀ st, Ren 0 st (St.mk 45 [(0, AV.lst (gL q.g)), (1, AV.lst (boL q.s)), (8, AV.lst (List.map (AV.int IntKind.i64) q.o)), (18, AV.int IntKind.i64 (iN q.g.length)), (19, AV.int IntKind.i64 (IntKind.i64.wrap (iN q.i + 1)))] []) → R st) : ∃ o' st' q', go Try.prog ({ dec := [(20, true), (29, false)], els := eN q, calls := cE q, unroll := false } : HT) 0 4000 (.inl (loopC (bodyOf Try.f12) 0)) [] (lb12 q) = some (o', st', q') ∧ q' ∧ Go.AX.Rest Try.prog 0 (andThen R post) st' o' :=
  endN_spec (σ := []) (fz := []) (vars := [0,1,8,18,19]) (show endN 0 [] [] [0,1,8,18,19] (go Try.prog ({ dec := [(20, true), (29, false)], els := eN q, calls := cE q, unroll := false } : HT) 0 4000 (.inl (loopC (bodyOf Try.f12) 0)) [] (lb12 q)) = some (St.mk 45 [(0, AV.lst (gL q.g)), (1, AV.lst (boL q.s)), (8, AV.lst (List.map (AV.int IntKind.i64) q.o)), (18, AV.int IntKind.i64 (iN q.g.length)), (19, AV.int IntKind.i64 (IntKind.i64.wrap (iN q.i + 1)))] [], ((((True ∧ (True ∧ True)) ∧ True) ∧ ((type_of% h1) ∧ (((True ∧ True) ∧ ((True ∧ True) ∧ True)) ∧ (((True ∧ True) ∧ ((True ∧ True) ∧ ((True ∧ True) ∧ ((True ∧ (True ∧ (True ∧ (True ∧ (True ∧ (True ∧ ((type_of% h2) ∧ True))))))) ∧ ((True ∧ True) ∧ True))))) ∧ (((True ∧ True) ∧ ((True ∧ True) ∧ ((True ∧ True) ∧ ((True ∧ True) ∧ ((type_of% h3) ∧ ((type_of% h3) ∧ ((type_of% h3) ∧ (True ∧ (True ∧ (True ∧ (True ∧ (True ∧ ((type_of% h3) ∧ (((type_of% h3) ∧ (True ∧ True)) ∧ True)))))))))))))) ∧ (True ∧ (((True ∧ True) ∧ ((True ∧ True) ∧ True)) ∧ True))))))) ∧ (True ∧ (True ∧ (True ∧ (True ∧ (True ∧ True))))))) by kernel_rfl) ⟨⟨⟨⟨trivial, ⟨trivial, trivial⟩⟩, trivial⟩, ⟨h1, ⟨⟨⟨trivial, trivial⟩, ⟨⟨trivial, trivial⟩, trivial⟩⟩, ⟨⟨⟨trivial, trivial⟩, ⟨⟨trivial, trivial⟩, ⟨⟨trivial, trivial⟩, ⟨⟨trivial, ⟨trivial, ⟨trivial, ⟨trivial, ⟨trivial, ⟨trivial, ⟨h2, trivial⟩⟩⟩⟩⟩⟩⟩, ⟨⟨trivial, trivial⟩, trivial⟩⟩⟩⟩⟩, ⟨⟨⟨trivial, trivial⟩, ⟨⟨trivial, trivial⟩, ⟨⟨trivial, trivial⟩, ⟨⟨trivial, trivial⟩, ⟨h3, ⟨h3, ⟨h3, ⟨trivial, ⟨trivial, ⟨trivial, ⟨trivial, ⟨trivial, ⟨h3, ⟨⟨h3, ⟨trivial, trivial⟩⟩, trivial⟩⟩⟩⟩⟩⟩⟩⟩⟩⟩⟩⟩⟩⟩, ⟨trivial, ⟨⟨⟨trivial, trivial⟩, ⟨⟨trivial, trivial⟩, trivial⟩⟩, trivial⟩⟩⟩⟩⟩⟩⟩, ⟨trivial, ⟨trivial, ⟨trivial, ⟨trivial, ⟨trivial, trivial⟩⟩⟩⟩⟩⟩ hR
theorem cl_0 (q : QE) (h1 : (CT Try.prog 23 [] [AV.lst (gL q.g), AV.lst (boL q.s)] [] (AV.int IntKind.i64 q.e))) (h2 : ((q.e != 0) = true)) : ∃ o' st' q', go Try.prog ({ dec := [(17, true)], els := eCl q, calls := cE q, unroll := false } : HT) 0 4000 (.inl (bodyOf Try.f17)) [] (st17 q) = some (o', st', q') ∧ q' ∧ Go.AX.Rest Try.prog 0 (Fin Try.prog Try.f17 0 [] (AV.bool false)) st' o' :=
  endF_spec (σ := []) (fz := []) (show endF Try.prog Try.f17 0 [] [] (go Try.prog ({ dec := [(17, true)], els := eCl q, calls := cE q, unroll := false } : HT) 0 4000 (.inl (bodyOf Try.f17)) [] (st17 q)) = some ([], AV.bool false, (((True ∧ True) ∧ (((True ∧ True) ∧ ((True ∧ True) ∧ ((True ∧ (True ∧ (True ∧ (True ∧ ((type_of% h1) ∧ True))))) ∧ ((True ∧ True) ∧ ((True ∧ True) ∧ ((type_of% h2) ∧ ((type_of% h2) ∧ ((type_of% h2) ∧ (((type_of% h2) ∧ (True ∧ True)) ∧ True))))))))) ∧ (True ∧ ((True ∧ True) ∧ True)))) ∧ (True ∧ True))) by kernel_rfl) ⟨⟨⟨trivial, trivial⟩, ⟨⟨⟨trivial, trivial⟩, ⟨⟨trivial, trivial⟩, ⟨⟨trivial, ⟨trivial, ⟨trivial, ⟨trivial, ⟨h1, trivial⟩⟩⟩⟩⟩, ⟨⟨trivial, trivial⟩, ⟨⟨trivial, trivial⟩, ⟨h2, ⟨h2, ⟨h2, ⟨⟨h2, ⟨trivial, trivial⟩⟩, trivial⟩⟩⟩⟩⟩⟩⟩⟩⟩, ⟨trivial, ⟨⟨trivial, trivial⟩, trivial⟩⟩⟩⟩, ⟨trivial, trivial⟩⟩
theorem cl_1 (q : QE) (h1 : (CT Try.prog 23 [] [AV.lst (gL q.g), AV.lst (boL q.s)] [] (AV.int IntKind.i64 q.e))) (h2 : ((q.e != 0) = false)) (h3 : ((iN (List.map (AV.int IntKind.i64) q.o).length == 0) = true)) : ∃ o' st' q', go Try.prog ({ dec := [(17, false), (21, true)], els := eCl q, calls := cE q, unroll := false } : HT) 0 4000 (.inl (bodyOf Try.f17)) [] (st17 q) = some (o', st', q') ∧ q' ∧ Go.AX.Rest Try.prog 0 (Fin Try.prog Try.f17 0 [] (AV.bool false)) st' o' :=
  endF_spec (σ := []) (fz := []) (show endF Try.prog Try.f17 0 [] [] (go Try.prog ({ dec := [(17, false), (21, true)], els := eCl q, calls := cE q, unroll := false } : HT) 0 4000 (.inl (bodyOf Try.f17)) [] (st17 q)) = some ([], AV.bool false, (((True ∧ True) ∧ (((True ∧ True) ∧ ((True ∧ True) ∧ ((True ∧ (True ∧ (True ∧ (True ∧ ((type_of% h1) ∧ True))))) ∧ ((True ∧ True) ∧ ((True ∧ True) ∧ (((type_of% h2) ∧ (True ∧ True)) ∧ (((type_of% h2) ∧ (True ∧ True)) ∧ (((type_of% h2) ∧ (True ∧ True)) ∧ (((type_of% h2) ∧ (True ∧ True)) ∧ True))))))))) ∧ ((type_of% h3) ∧ ((True ∧ True) ∧ True)))) ∧ (True ∧ True))) by kernel_rfl) ⟨⟨⟨trivial, trivial⟩, ⟨⟨⟨trivial, trivial⟩, ⟨⟨trivial, trivial⟩, ⟨⟨trivial, ⟨trivial, ⟨trivial, ⟨trivial, ⟨h1, trivial⟩⟩⟩⟩⟩, ⟨⟨trivial, trivial⟩, ⟨⟨trivial, trivial⟩, ⟨⟨h2, ⟨trivial, trivial⟩⟩, ⟨⟨h2, ⟨trivial, trivial⟩⟩, ⟨⟨h2, ⟨trivial, trivial⟩⟩, ⟨⟨h2, ⟨trivial, trivial⟩⟩, trivial⟩⟩⟩⟩⟩⟩⟩⟩⟩, ⟨h3, ⟨⟨trivial, trivial⟩, trivial⟩⟩⟩⟩, ⟨trivial, trivial⟩⟩
theorem cl_2 (q : QE) (h1 : (CT Try.prog 23 [] [AV.lst (gL q.g), AV.lst (boL q.s)] [] (AV.int IntKind.i64 q.e))) (h2 : ((q.e != 0) = false)) (h3 : ((iN (List.map (AV.int IntKind.i64) q.o).length == 0) = false)) (h4 : (0 ≤ IntKind.i64.wrap (iN (List.map (AV.int IntKind.i64) q.o).length - 1))) (h5 : ((List.map (AV.int IntKind.i64) q.o)[(IntKind.i64.wrap (iN (List.map (AV.int IntKind.i64) q.o).length - 1)).toNat]? = some (AV.int IntKind.i64 q.y))) {post : Exit → St → Prop} (ht : T Try.prog 0 (.loop (loopC (bodyOf Try.f17) 0)) (St.mk 78 [(0, AV.lst (gL q.g)), (1, AV.lst (boL q.s)), (7, AV.int IntKind.i64 q.y), (28, AV.lst (List.map (AV.int IntKind.i64) q.o)), (29, AV.int IntKind.i64 (iN (List.map (AV.int IntKind.i64) q.o).length)), (30, AV.int IntKind.i64 0)] []) (TK Try.prog 0 post (loopK (bodyOf Try.f17) 0))) : ∃ o' st' q', go Try.prog ({ dec := [(17, false), (21, false)], els := eCl q, calls := cE q, unroll := false } : HT) 0 4000 (.inl (bodyOf Try.f17)) [] (st17 q) = some (o', st', q') ∧ q' ∧ Go.AX.Rest Try.prog 0 post st' o' :=
  endR_spec (σ := []) (fz := []) (vars := [0,1,7,28,29,30]) (show endR 0 [] [] [0,1,7,28,29,30] (go Try.prog ({ dec := [(17, false), (21, false)], els := eCl q, calls := cE q, unroll := false } : HT) 0 4000 (.inl (bodyOf Try.f17)) [] (st17 q)) = some (loopC (bodyOf Try.f17) 0, loopK (bodyOf Try.f17) 0, St.mk 78 [(0, AV.lst (gL q.g)), (1, AV.lst (boL q.s)), (7, AV.int IntKind.i64 q.y), (28, AV.lst (List.map (AV.int IntKind.i64) q.o)), (29, AV.int IntKind.i64 (iN (List.map (AV.int IntKind.i64) q.o).length)), (30, AV.int IntKind.i64 0)] [], (((True ∧ True) ∧ (((True ∧ True) ∧ ((True ∧ True) ∧ ((True ∧ (True ∧ (True ∧ (True ∧ ((type_of% h1) ∧ True))))) ∧ ((True ∧ True) ∧ ((True ∧ True) ∧ (((type_of% h2) ∧ (True ∧ True)) ∧ (((type_of% h2) ∧ (True ∧ True)) ∧ (((type_of% h2) ∧ (True ∧ True)) ∧ (((type_of% h2) ∧ (True ∧ True)) ∧ True))))))))) ∧ ((type_of% h3) ∧ (((True ∧ True) ∧ ((True ∧ True) ∧ ((True ∧ True) ∧ ((True ∧ True) ∧ ((True ∧ (True ∧ ((type_of% h4) ∧ (type_of% h5)))) ∧ ((True ∧ True) ∧ ((True ∧ True) ∧ True))))))) ∧ (((True ∧ True) ∧ ((True ∧ True) ∧ (True ∧ True))) ∧ True))))) ∧ (True ∧ (True ∧ (True ∧ (True ∧ (True ∧ (True ∧ True)))))))) by kernel_rfl) ⟨⟨⟨trivial, trivial⟩, ⟨⟨⟨trivial, trivial⟩, ⟨⟨trivial, trivial⟩, ⟨⟨trivial, ⟨trivial, ⟨trivial, ⟨trivial, ⟨h1, trivial⟩⟩⟩⟩⟩, ⟨⟨trivial, trivial⟩, ⟨⟨trivial, trivial⟩, ⟨⟨h2, ⟨trivial, trivial⟩⟩, ⟨⟨h2, ⟨trivial, trivial⟩⟩, ⟨⟨h2, ⟨trivial, trivial⟩⟩, ⟨⟨h2, ⟨trivial, trivial⟩⟩, trivial⟩⟩⟩⟩⟩⟩⟩⟩⟩, ⟨h3, ⟨⟨⟨trivial, trivial⟩, ⟨⟨trivial, trivial⟩, ⟨⟨trivial, trivial⟩, ⟨⟨trivial, trivial⟩, ⟨⟨trivial, ⟨trivial, ⟨h4, h5⟩⟩⟩, ⟨⟨trivial, trivial⟩, ⟨⟨trivial, trivial⟩, trivial⟩⟩⟩⟩⟩⟩⟩, ⟨⟨⟨trivial, trivial⟩, ⟨⟨trivial, trivial⟩, ⟨trivial, trivial⟩⟩⟩, trivial⟩⟩⟩⟩⟩, ⟨trivial, ⟨trivial, ⟨trivial, ⟨trivial, ⟨trivial, ⟨trivial, trivial⟩⟩⟩⟩⟩⟩⟩ ht
theorem clx_0 (q : QE) (h1 : (decide (iN q.i < iN q.o.length) = false)) : ∃ o' st' q', go2 Try.prog ({ dec := [(31, false)], els := eCl q, calls := cE q, unroll := false } : HT) 0 4000 (loopC (bodyOf Try.f17) 0) (loopK (bodyOf Try.f17) 0) (lo17 q) = some (o', st', q') ∧ q' ∧ Go.AX.Rest Try.prog 0 (Fin Try.prog Try.f17 0 [] (AV.bool true)) st' o' :=
  endF_spec (σ := []) (fz := []) (show endF Try.prog Try.f17 0 [] [] (go2 Try.prog ({ dec := [(31, false)], els := eCl q, calls := cE q, unroll := false } : HT) 0 4000 (loopC (bodyOf Try.f17) 0) (loopK (bodyOf Try.f17) 0) (lo17 q)) = some ([], AV.bool true, (((((True ∧ (True ∧ True)) ∧ True) ∧ ((type_of% h1) ∧ True)) ∧ ((True ∧ True) ∧ True)) ∧ (True ∧ True))) by kernel_rfl) ⟨⟨⟨⟨⟨trivial, ⟨trivial, trivial⟩⟩, trivial⟩, ⟨h1, trivial⟩⟩, ⟨⟨trivial, trivial⟩, trivial⟩⟩, ⟨trivial, trivial⟩⟩
theorem cla_0 (q : QE) (h1 : (decide (iN q.i < iN q.o.length) = true)) (h2 : (0 ≤ iN q.i)) (h3 : ((List.map (AV.int IntKind.i64) q.o)[(iN q.i).toNat]? = some (AV.int IntKind.i64 q.x))) (h4 : (decide (q.x < 0) = true)) : ∃ o' st' q', go2 Try.prog ({ dec := [(31, true), (36, true)], els := eCl q, calls := cE q, unroll := false } : HT) 0 4000 (loopC (bodyOf Try.f17) 0) (loopK (bodyOf Try.f17) 0) (lo17 q) = some (o', st', q') ∧ q' ∧ Go.AX.Rest Try.prog 0 (Fin Try.prog Try.f17 0 [] (AV.bool false)) st' o' :=
  endF_spec (σ := []) (fz := []) (show endF Try.prog Try.f17 0 [] [] (go2 Try.prog ({ dec := [(31, true), (36, true)], els := eCl q, calls := cE q, unroll := false } : HT) 0 4000 (loopC (bodyOf Try.f17) 0) (loopK (bodyOf Try.f17) 0) (lo17 q)) = some ([], AV.bool false, (((((True ∧ (True ∧ True)) ∧ True) ∧ ((type_of% h1) ∧ (((True ∧ (True ∧ ((type_of% h2) ∧ (type_of% h3)))) ∧ ((True ∧ True) ∧ ((True ∧ True) ∧ True))) ∧ (((True ∧ True) ∧ ((True ∧ True) ∧ ((True ∧ True) ∧ ((type_of% h4) ∧ ((type_of% h4) ∧ ((type_of% h4) ∧ ((type_of% h4) ∧ (((type_of% h4) ∧ (True ∧ True)) ∧ ((True ∧ True) ∧ (True ∧ (True ∧ (True ∧ (True ∧ ((True ∧ (True ∧ True)) ∧ ((True ∧ True) ∧ (True ∧ (True ∧ ((True ∧ (True ∧ True)) ∧ ((True ∧ True) ∧ (True ∧ (True ∧ (True ∧ (True ∧ ((True ∧ (True ∧ True)) ∧ True)))))))))))))))))))))))) ∧ (True ∧ ((True ∧ True) ∧ True)))))) ∧ True) ∧ (True ∧ True))) by kernel_rfl) ⟨⟨⟨⟨⟨trivial, ⟨trivial, trivial⟩⟩, trivial⟩, ⟨h1, ⟨⟨⟨trivial, ⟨trivial, ⟨h2, h3⟩⟩⟩, ⟨⟨trivial, trivial⟩, ⟨⟨trivial, trivial⟩, trivial⟩⟩⟩, ⟨⟨⟨trivial, trivial⟩, ⟨⟨trivial, trivial⟩, ⟨⟨trivial, trivial⟩, ⟨h4, ⟨h4, ⟨h4, ⟨h4, ⟨⟨h4, ⟨trivial, trivial⟩⟩, ⟨⟨trivial, trivial⟩, ⟨trivial, ⟨trivial, ⟨trivial, ⟨trivial, ⟨⟨trivial, ⟨trivial, trivial⟩⟩, ⟨⟨trivial, trivial⟩, ⟨trivial, ⟨trivial, ⟨⟨trivial, ⟨trivial, trivial⟩⟩, ⟨⟨trivial, trivial⟩, ⟨trivial, ⟨trivial, ⟨trivial, ⟨trivial, ⟨⟨trivial, ⟨trivial, trivial⟩⟩, trivial⟩⟩⟩⟩⟩⟩⟩⟩⟩⟩⟩⟩⟩⟩⟩⟩⟩⟩⟩⟩⟩⟩⟩⟩, ⟨trivial, ⟨⟨trivial, trivial⟩, trivial⟩⟩⟩⟩⟩⟩, trivial⟩, ⟨trivial, trivial⟩⟩
theorem cla_1 (q : QE) (h1 : (decide (iN q.i < iN q.o.length) = true)) (h2 : (0 ≤ iN q.i)) (h3 : ((List.map (AV.int IntKind.i64) q.o)[(iN q.i).toNat]? = some (AV.int IntKind.i64 q.x))) (h4 : (decide (q.x < 0) = false)) (h5 : (decide (iN (gL q.g).length ≤ q.x) = true)) : ∃ o' st' q', go2 Try.prog ({ dec := [(31, true), (36, false), (42, true)], els := eCl q, calls := cE q, unroll := false } : HT) 0 4000 (loopC (bodyOf Try.f17) 0) (loopK (bodyOf Try.f17) 0) (lo17 q) = some (o', st', q') ∧ q' ∧ Go.AX.Rest Try.prog 0 (Fin Try.prog Try.f17 0 [] (AV.bool false)) st' o' :=
  endF_spec (σ := []) (fz := []) (show endF Try.prog Try.f17 0 [] [] (go2 Try.prog ({ dec := [(31, true), (36, false), (42, true)], els := eCl q, calls := cE q, unroll := false } : HT) 0 4000 (loopC (bodyOf Try.f17) 0) (loopK (bodyOf Try.f17) 0) (lo17 q)) = some ([], AV.bool false, (((((True ∧ (True ∧ True)) ∧ True) ∧ ((type_of% h1) ∧ (((True ∧ (True ∧ ((type_of% h2) ∧ (type_of% h3)))) ∧ ((True ∧ True) ∧ ((True ∧ True) ∧ True))) ∧ (((True ∧ True) ∧ ((True ∧ True) ∧ ((True ∧ True) ∧ (((type_of% h4) ∧ (True ∧ True)) ∧ (((type_of% h4) ∧ (True ∧ True)) ∧ (((type_of% h4) ∧ (True ∧ True)) ∧ (((type_of% h4) ∧ (True ∧ (True ∧ True))) ∧ (((type_of% h4) ∧ (True ∧ True)) ∧ ((True ∧ True) ∧ ((type_of% h5) ∧ ((type_of% h5) ∧ ((type_of% h5) ∧ ((type_of% h5) ∧ (((type_of% h5) ∧ (True ∧ True)) ∧ ((True ∧ True) ∧ (True ∧ (True ∧ ((True ∧ (True ∧ True)) ∧ ((True ∧ True) ∧ (True ∧ (True ∧ (True ∧ (True ∧ ((True ∧ (True ∧ True)) ∧ True)))))))))))))))))))))))) ∧ (True ∧ ((True ∧ True) ∧ True)))))) ∧ True) ∧ (True ∧ True))) by kernel_rfl) ⟨⟨⟨⟨⟨trivial, ⟨trivial, trivial⟩⟩, trivial⟩, ⟨h1, ⟨⟨⟨trivial, ⟨trivial, ⟨h2, h3⟩⟩⟩, ⟨⟨trivial, trivial⟩, ⟨⟨trivial, trivial⟩, trivial⟩⟩⟩, ⟨⟨⟨trivial, trivial⟩, ⟨⟨trivial, trivial⟩, ⟨⟨trivial, trivial⟩, ⟨⟨h4, ⟨trivial, trivial⟩⟩, ⟨⟨h4, ⟨trivial, trivial⟩⟩, ⟨⟨h4, ⟨trivial, trivial⟩⟩, ⟨⟨h4, ⟨trivial, ⟨trivial, trivial⟩⟩⟩, ⟨⟨h4, ⟨trivial, trivial⟩⟩, ⟨⟨trivial, trivial⟩, ⟨h5, ⟨h5, ⟨h5, ⟨h5, ⟨⟨h5, ⟨trivial, trivial⟩⟩, ⟨⟨trivial, trivial⟩, ⟨trivial, ⟨trivial, ⟨⟨trivial, ⟨trivial, trivial⟩⟩, ⟨⟨trivial, trivial⟩, ⟨trivial, ⟨trivial, ⟨trivial, ⟨trivial, ⟨⟨trivial, ⟨trivial, trivial⟩⟩, trivial⟩⟩⟩⟩⟩⟩⟩⟩⟩⟩⟩⟩⟩⟩⟩⟩⟩⟩⟩⟩⟩⟩⟩⟩, ⟨trivial, ⟨⟨trivial, trivial⟩, trivial⟩⟩⟩⟩⟩⟩, trivial⟩, ⟨trivial, trivial⟩⟩
theorem cla_2 (q : QE) (h1 : (decide (iN q.i < iN q.o.length) = true)) (h2 : (0 ≤ iN q.i)) (h3 : ((List.map (AV.int IntKind.i64) q.o)[(iN q.i).toNat]? = some (AV.int IntKind.i64 q.x))) (h4 : (decide (q.x < 0) = false)) (h5 : (decide (iN (gL q.g).length ≤ q.x) = false)) (h6 : (0 ≤ q.x)) (h7 : ((boL q.s)[q.x.toNat]? = some (AV.bool q.sb))) (h8 : (q.sb = true)) : ∃ o' st' q', go2 Try.prog ({ dec := [(31, true), (36, false), (42, false), (48, true)], els := eCl q, calls := cE q, unroll := false } : HT) 0 4000 (loopC (bodyOf Try.f17) 0) (loopK (bodyOf Try.f17) 0) (lo17 q) = some (o', st', q') ∧ q' ∧ Go.AX.Rest Try.prog 0 (Fin Try.prog Try.f17 0 [] (AV.bool false)) st' o' :=
  endF_spec (σ := []) (fz := []) (show endF Try.prog Try.f17 0 [] [] (go2 Try.prog ({ dec := [(31, true), (36, false), (42, false), (48, true)], els := eCl q, calls := cE q, unroll := false } : HT) 0 4000 (loopC (bodyOf Try.f17) 0) (loopK (bodyOf Try.f17) 0) (lo17 q)) = some ([], AV.bool false, (((((True ∧ (True ∧ True)) ∧ True) ∧ ((type_of% h1) ∧ (((True ∧ (True ∧ ((type_of% h2) ∧ (type_of% h3)))) ∧ ((True ∧ True) ∧ ((True ∧ True) ∧ True))) ∧ (((True ∧ True) ∧ ((True ∧ True) ∧ ((True ∧ True) ∧ (((type_of% h4) ∧ (True ∧ True)) ∧ (((type_of% h4) ∧ (True ∧ True)) ∧ (((type_of% h4) ∧ (True ∧ True)) ∧ (((type_of% h4) ∧ (True ∧ (True ∧ True))) ∧ (((type_of% h4) ∧ (True ∧ True)) ∧ ((True ∧ True) ∧ (((type_of% h5) ∧ (True ∧ True)) ∧ (((type_of% h5) ∧ (True ∧ True)) ∧ (((type_of% h5) ∧ (True ∧ (True ∧ ((type_of% h6) ∧ (type_of% h7))))) ∧ (((type_of% h5) ∧ (True ∧ True)) ∧ (((type_of% h5) ∧ (True ∧ True)) ∧ ((True ∧ True) ∧ ((type_of% h8) ∧ ((type_of% h8) ∧ (((type_of% h8) ∧ (True ∧ True)) ∧ ((True ∧ True) ∧ (True ∧ (True ∧ (True ∧ (True ∧ ((True ∧ (True ∧ True)) ∧ True)))))))))))))))))))))))) ∧ (True ∧ ((True ∧ True) ∧ True)))))) ∧ True) ∧ (True ∧ True))) by kernel_rfl) ⟨⟨⟨⟨⟨trivial, ⟨trivial, trivial⟩⟩, trivial⟩, ⟨h1, ⟨⟨⟨trivial, ⟨trivial, ⟨h2, h3⟩⟩⟩, ⟨⟨trivial, trivial⟩, ⟨⟨trivial, trivial⟩, trivial⟩⟩⟩, ⟨⟨⟨trivial, trivial⟩, ⟨⟨trivial, trivial⟩, ⟨⟨trivial, trivial⟩, ⟨⟨h4, ⟨trivial, trivial⟩⟩, ⟨⟨h4, ⟨trivial, trivial⟩⟩, ⟨⟨h4, ⟨trivial, trivial⟩⟩, ⟨⟨h4, ⟨trivial, ⟨trivial, trivial⟩⟩⟩, ⟨⟨h4, ⟨trivial, trivial⟩⟩, ⟨⟨trivial, trivial⟩, ⟨⟨h5, ⟨trivial, trivial⟩⟩, ⟨⟨h5, ⟨trivial, trivial⟩⟩, ⟨⟨h5, ⟨trivial, ⟨trivial, ⟨h6, h7⟩⟩⟩⟩, ⟨⟨h5, ⟨trivial, trivial⟩⟩, ⟨⟨h5, ⟨trivial, trivial⟩⟩, ⟨⟨trivial, trivial⟩, ⟨h8, ⟨h8, ⟨⟨h8, ⟨trivial, trivial⟩⟩, ⟨⟨trivial, trivial⟩, ⟨trivial, ⟨trivial, ⟨trivial, ⟨trivial, ⟨⟨trivial, ⟨trivial, trivial⟩⟩, trivial⟩⟩⟩⟩⟩⟩⟩⟩⟩⟩⟩⟩⟩⟩⟩⟩⟩⟩⟩⟩⟩⟩⟩⟩, ⟨trivial, ⟨⟨trivial, trivial⟩, trivial⟩⟩⟩⟩⟩⟩, trivial⟩, ⟨trivial, trivial⟩⟩
theorem cla_3 (q : QE) (h1 : (decide (iN q.i < iN q.o.length) = true)) (h2 : (0 ≤ iN q.i)) (h3 : ((List.map (AV.int IntKind.i64) q.o)[(iN q.i).toNat]? = some (AV.int IntKind.i64 q.x))) (h4 : (decide (q.x < 0) = false)) (h5 : (decide (iN (gL q.g).length ≤ q.x) = false)) (h6 : (0 ≤ q.x)) (h7 : ((boL q.s)[q.x.toNat]? = some (AV.bool q.sb))) (h8 : (q.sb = false)) (h9 : (decide (q.y < 0) = true)) : ∃ o' st' q', go2 Try.prog ({ dec := [(31, true), (36, false), (42, false), (48, false), (52, true)], els := eCl q, calls := cE q, unroll := false } : HT) 0 4000 (loopC (bodyOf Try.f17) 0) (loopK (bodyOf Try.f17) 0) (lo17 q) = some (o', st', q') ∧ q' ∧ Go.AX.Rest Try.prog 0 (Fin Try.prog Try.f17 0 [] (AV.bool false)) st' o' :=
  endF_spec (σ := []) (fz := []) (show endF Try.prog Try.f17 0 [] [] (go2 Try.prog ({ dec := [(31, true), (36, false), (42, false), (48, false), (52, true)], els := eCl q, calls := cE q, unroll := false } : HT) 0 4000 (loopC (bodyOf Try.f17) 0) (loopK (bodyOf Try.f17) 0) (lo17 q)) = some ([], AV.bool false, (((((True ∧ (True ∧ True)) ∧ True) ∧ ((type_of% h1) ∧ (((True ∧ (True ∧ ((type_of% h2) ∧ (type_of% h3)))) ∧ ((True ∧ True) ∧ ((True ∧ True) ∧ True))) ∧ (((True ∧ True) ∧ ((True ∧ True) ∧ ((True ∧ True) ∧ (((type_of% h4) ∧ (True ∧ True)) ∧ (((type_of% h4) ∧ (True ∧ True)) ∧ (((type_of% h4) ∧ (True ∧ True)) ∧ (((type_of% h4) ∧ (True ∧ (True ∧ True))) ∧ (((type_of% h4) ∧ (True ∧ True)) ∧ ((True ∧ True) ∧ (((type_of% h5) ∧ (True ∧ True)) ∧ (((type_of% h5) ∧ (True ∧ True)) ∧ (((type_of% h5) ∧ (True ∧ (True ∧ ((type_of% h6) ∧ (type_of% h7))))) ∧ (((type_of% h5) ∧ (True ∧ True)) ∧ (((type_of% h5) ∧ (True ∧ True)) ∧ ((True ∧ True) ∧ (((type_of% h8) ∧ (True ∧ True)) ∧ (((type_of% h8) ∧ (True ∧ True)) ∧ (((type_of% h8) ∧ (True ∧ True)) ∧ ((True ∧ True) ∧ ((type_of% h9) ∧ ((type_of% h9) ∧ ((type_of% h9) ∧ ((type_of% h9) ∧ (((type_of% h9) ∧ (True ∧ True)) ∧ True)))))))))))))))))))))))) ∧ (True ∧ ((True ∧ True) ∧ True)))))) ∧ True) ∧ (True ∧ True))) by kernel_rfl) ⟨⟨⟨⟨⟨trivial, ⟨trivial, trivial⟩⟩, trivial⟩, ⟨h1, ⟨⟨⟨trivial, ⟨trivial, ⟨h2, h3⟩⟩⟩, ⟨⟨trivial, trivial⟩, ⟨⟨trivial, trivial⟩, trivial⟩⟩⟩, ⟨⟨⟨trivial, trivial⟩, ⟨⟨trivial, trivial⟩, ⟨⟨trivial, trivial⟩, ⟨⟨h4, ⟨trivial, trivial⟩⟩, ⟨⟨h4, ⟨trivial, trivial⟩⟩, ⟨⟨h4, ⟨trivial, trivial⟩⟩, ⟨⟨h4, ⟨trivial, ⟨trivial, trivial⟩⟩⟩, ⟨⟨h4, ⟨trivial, trivial⟩⟩, ⟨⟨trivial, trivial⟩, ⟨⟨h5, ⟨trivial, trivial⟩⟩, ⟨⟨h5, ⟨trivial, trivial⟩⟩, ⟨⟨h5, ⟨trivial, ⟨trivial, ⟨h6, h7⟩⟩⟩⟩, ⟨⟨h5, ⟨trivial, trivial⟩⟩, ⟨⟨h5, ⟨trivial, trivial⟩⟩, ⟨⟨trivial, trivial⟩, ⟨⟨h8, ⟨trivial, trivial⟩⟩, ⟨⟨h8, ⟨trivial, trivial⟩⟩, ⟨⟨h8, ⟨trivial, trivial⟩⟩, ⟨⟨trivial, trivial⟩, ⟨h9, ⟨h9, ⟨h9, ⟨h9, ⟨⟨h9, ⟨trivial, trivial⟩⟩, trivial⟩⟩⟩⟩⟩⟩⟩⟩⟩⟩⟩⟩⟩⟩⟩⟩⟩⟩⟩⟩⟩⟩⟩⟩, ⟨trivial, ⟨⟨trivial, trivial⟩, trivial⟩⟩⟩⟩⟩⟩, trivial⟩, ⟨trivial, trivial⟩⟩
theorem cla_4 (q : QE) (h1 : (decide (iN q.i < iN q.o.length) = true)) (h2 : (0 ≤ iN q.i)) (h3 : ((List.map (AV.int IntKind.i64) q.o)[(iN q.i).toNat]? = some (AV.int IntKind.i64 q.x))) (h4 : (decide (q.x < 0) = false)) (h5 : (decide (iN (gL q.g).length ≤ q.x) = false)) (h6 : (0 ≤ q.x)) (h7 : ((boL q.s)[q.x.toNat]? = some (AV.bool q.sb))) (h8 : (q.sb = false)) (h9 : (decide (q.y < 0) = false)) (h10 : (decide (iN (gL q.g).length ≤ q.y) = true)) : ∃ o' st' q', go2 Try.prog ({ dec := [(31, true), (36, false), (42, false), (48, false), (52, false), (57, true)], els := eCl q, calls := cE q, unroll := false } : HT) 0 4000 (loopC (bodyOf Try.f17) 0) (loopK (bodyOf Try.f17) 0) (lo17 q) = some (o', st', q') ∧ q' ∧ Go.AX.Rest Try.prog 0 (Fin Try.prog Try.f17 0 [] (AV.bool false)) st' o' :=
  endF_spec (σ := []) (fz := []) (show endF Try.prog Try.f17 0 [] [] (go2 Try.prog ({ dec := [(31, true), (36, false), (42, false), (48, false), (52, false), (57, true)], els := eCl q, calls := cE q, unroll := false } : HT) 0 4000 (loopC (bodyOf Try.f17) 0) (loopK (bodyOf Try.f17) 0) (lo17 q)) = some ([], AV.bool false, (((((True ∧ (True ∧ True)) ∧ True) ∧ ((type_of% h1) ∧ (((True ∧ (True ∧ ((type_of% h2) ∧ (type_of% h3)))) ∧ ((True ∧ True) ∧ ((True ∧ True) ∧ True))) ∧ (((True ∧ True) ∧ ((True ∧ True) ∧ ((True ∧ True) ∧ (((type_of% h4) ∧ (True ∧ True)) ∧ (((type_of% h4) ∧ (True ∧ True)) ∧ (((type_of% h4) ∧ (True ∧ True)) ∧ (((type_of% h4) ∧ (True ∧ (True ∧ True))) ∧ (((type_of% h4) ∧ (True ∧ True)) ∧ ((True ∧ True) ∧ (((type_of% h5) ∧ (True ∧ True)) ∧ (((type_of% h5) ∧ (True ∧ True)) ∧ (((type_of% h5) ∧ (True ∧ (True ∧ ((type_of% h6) ∧ (type_of% h7))))) ∧ (((type_of% h5) ∧ (True ∧ True)) ∧ (((type_of% h5) ∧ (True ∧ True)) ∧ ((True ∧ True) ∧ (((type_of% h8) ∧ (True ∧ True)) ∧ (((type_of% h8) ∧ (True ∧ True)) ∧ (((type_of% h8) ∧ (True ∧ True)) ∧ ((True ∧ True) ∧ (((type_of% h9) ∧ (True ∧ True)) ∧ (((type_of% h9) ∧ (True ∧ True)) ∧ (((type_of% h9) ∧ (True ∧ True)) ∧ (((type_of% h9) ∧ (True ∧ (True ∧ True))) ∧ (((type_of% h9) ∧ (True ∧ True)) ∧ True)))))))))))))))))))))))) ∧ ((type_of% h10) ∧ ((True ∧ True) ∧ True)))))) ∧ True) ∧ (True ∧ True))) by kernel_rfl) ⟨⟨⟨⟨⟨trivial, ⟨trivial, trivial⟩⟩, trivial⟩, ⟨h1, ⟨⟨⟨trivial, ⟨trivial, ⟨h2, h3⟩⟩⟩, ⟨⟨trivial, trivial⟩, ⟨⟨trivial, trivial⟩, trivial⟩⟩⟩, ⟨⟨⟨trivial, trivial⟩, ⟨⟨trivial, trivial⟩, ⟨⟨trivial, trivial⟩, ⟨⟨h4, ⟨trivial, trivial⟩⟩, ⟨⟨h4, ⟨trivial, trivial⟩⟩, ⟨⟨h4, ⟨trivial, trivial⟩⟩, ⟨⟨h4, ⟨trivial, ⟨trivial, trivial⟩⟩⟩, ⟨⟨h4, ⟨trivial, trivial⟩⟩, ⟨⟨trivial, trivial⟩, ⟨⟨h5, ⟨trivial, trivial⟩⟩, ⟨⟨h5, ⟨trivial, trivial⟩⟩, ⟨⟨h5, ⟨trivial, ⟨trivial, ⟨h6, h7⟩⟩⟩⟩, ⟨⟨h5, ⟨trivial, trivial⟩⟩, ⟨⟨h5, ⟨trivial, trivial⟩⟩, ⟨⟨trivial, trivial⟩, ⟨⟨h8, ⟨trivial, trivial⟩⟩, ⟨⟨h8, ⟨trivial, trivial⟩⟩, ⟨⟨h8, ⟨trivial, trivial⟩⟩, ⟨⟨trivial, trivial⟩, ⟨⟨h9, ⟨trivial, trivial⟩⟩, ⟨⟨h9, ⟨trivial, trivial⟩⟩, ⟨⟨h9, ⟨trivial, trivial⟩⟩, ⟨⟨h9, ⟨trivial, ⟨trivial, trivial⟩⟩⟩, ⟨⟨h9, ⟨trivial, trivial⟩⟩, trivial⟩⟩⟩⟩⟩⟩⟩⟩⟩⟩⟩⟩⟩⟩⟩⟩⟩⟩⟩⟩⟩⟩⟩⟩, ⟨h10, ⟨⟨trivial, trivial⟩, trivial⟩⟩⟩⟩⟩⟩, trivial⟩, ⟨trivial, trivial⟩⟩
theorem cla_5 (q : QE) (h1 : (decide (iN q.i < iN q.o.length) = true)) (h2 : (0 ≤ iN q.i)) (h3 : ((List.map (AV.int IntKind.i64) q.o)[(iN q.i).toNat]? = some (AV.int IntKind.i64 q.x))) (h4 : (decide (q.x < 0) = false)) (h5 : (decide (iN (gL q.g).length ≤ q.x) = false)) (h6 : (0 ≤ q.x)) (h7 : ((boL q.s)[q.x.toNat]? = some (AV.bool q.sb))) (h8 : (q.sb = false)) (h9 : (decide (q.y < 0) = false)) (h10 : (decide (iN (gL q.g).length ≤ q.y) = false)) (h11 : (0 ≤ q.y)) (h12 : ((gL q.g)[q.y.toNat]? = some (AV.lst (List.map (AV.int IntKind.i64) q.r)))) {post : Exit → St → Prop} (ht : T Try.prog 0 (.loop (loopC (loopC (bodyOf Try.f17) 0) 0)) (St.mk 78 [(0, AV.lst (gL q.g)), (1, AV.lst (boL q.s)), (9, AV.int IntKind.i64 q.x), (10, AV.bool false), (28, AV.lst (List.map (AV.int IntKind.i64) q.o)), (29, AV.int IntKind.i64 (iN q.o.length)), (30, AV.int IntKind.i64 (iN q.i)), (61, AV.lst (List.map (AV.int IntKind.i64) q.r)), (62, AV.int IntKind.i64 (iN (List.map (AV.int IntKind.i64) q.r).length)), (63, AV.int IntKind.i64 0)] []) (TK Try.prog 0 post (loopK (loopC (bodyOf Try.f17) 0) 0))) : ∃ o' st' q', go Try.prog ({ dec := [(31, true), (36, false), (42, false), (48, false), (52, false), (57, false)], els := eCl q, calls := cE q, unroll := false } : HT) 0 4000 (.inl (loopC (bodyOf Try.f17) 0)) [] (lo17 q) = some (o', st', q') ∧ q' ∧ Go.AX.Rest Try.prog 0 post st' o' :=
  endR_spec (σ := []) (fz := []) (vars := [0,1,9,10,28,29,30,61,62,63]) (show endR 0 [] [] [0,1,9,10,28,29,30,61,62,63] (go Try.prog ({ dec := [(31, true), (36, false), (42, false), (48, false), (52, false), (57, false)], els := eCl q, calls := cE q, unroll := false } : HT) 0 4000 (.inl (loopC (bodyOf Try.f17) 0)) [] (lo17 q)) = some (loopC (loopC (bodyOf Try.f17) 0) 0, loopK (loopC (bodyOf Try.f17) 0) 0, St.mk 78 [(0, AV.lst (gL q.g)), (1, AV.lst (boL q.s)), (9, AV.int IntKind.i64 q.x), (10, AV.bool false), (28, AV.lst (List.map (AV.int IntKind.i64) q.o)), (29, AV.int IntKind.i64 (iN q.o.length)), (30, AV.int IntKind.i64 (iN q.i)), (61, AV.lst (List.map (AV.int IntKind.i64) q.r)), (62, AV.int IntKind.i64 (iN (List.map (AV.int IntKind.i64) q.r).length)), (63, AV.int IntKind.i64 0)] [], ((((True ∧ (True ∧ True)) ∧ True) ∧ ((type_of% h1) ∧ (((True ∧ (True ∧ ((type_of% h2) ∧ (type_of% h3)))) ∧ ((True ∧ True) ∧ ((True ∧ True) ∧ True))) ∧ (((True ∧ True) ∧ ((True ∧ True) ∧ ((True ∧ True) ∧ (((type_of% h4) ∧ (True ∧ True)) ∧ (((type_of% h4) ∧ (True ∧ True)) ∧ (((type_of% h4) ∧ (True ∧ True)) ∧ (((type_of% h4) ∧ (True ∧ (True ∧ True))) ∧ (((type_of% h4) ∧ (True ∧ True)) ∧ ((True ∧ True) ∧ (((type_of% h5) ∧ (True ∧ True)) ∧ (((type_of% h5) ∧ (True ∧ True)) ∧ (((type_of% h5) ∧ (True ∧ (True ∧ ((type_of% h6) ∧ (type_of% h7))))) ∧ (((type_of% h5) ∧ (True ∧ True)) ∧ (((type_of% h5) ∧ (True ∧ True)) ∧ ((True ∧ True) ∧ (((type_of% h8) ∧ (True ∧ True)) ∧ (((type_of% h8) ∧ (True ∧ True)) ∧ (((type_of% h8) ∧ (True ∧ True)) ∧ ((True ∧ True) ∧ (((type_of% h9) ∧ (True ∧ True)) ∧ (((type_of% h9) ∧ (True ∧ True)) ∧ (((type_of% h9) ∧ (True ∧ True)) ∧ (((type_of% h9) ∧ (True ∧ (True ∧ True))) ∧ (((type_of% h9) ∧ (True ∧ True)) ∧ True)))))))))))))))))))))))) ∧ ((type_of% h10) ∧ ((True ∧ True) ∧ (((True ∧ True) ∧ ((True ∧ True) ∧ ((True ∧ (True ∧ ((type_of% h11) ∧ (type_of% h12)))) ∧ ((True ∧ True) ∧ ((True ∧ True) ∧ (True ∧ True)))))) ∧ True))))))) ∧ (True ∧ (True ∧ (True ∧ (True ∧ (True ∧ (True ∧ (True ∧ (True ∧ (True ∧ (True ∧ True)))))))))))) by kernel_rfl) ⟨⟨⟨⟨trivial, ⟨trivial, trivial⟩⟩, trivial⟩, ⟨h1, ⟨⟨⟨trivial, ⟨trivial, ⟨h2, h3⟩⟩⟩, ⟨⟨trivial, trivial⟩, ⟨⟨trivial, trivial⟩, trivial⟩⟩⟩, ⟨⟨⟨trivial, trivial⟩, ⟨⟨trivial, trivial⟩, ⟨⟨trivial, trivial⟩, ⟨⟨h4, ⟨trivial, trivial⟩⟩, ⟨⟨h4, ⟨trivial, trivial⟩⟩, ⟨⟨h4, ⟨trivial, trivial⟩⟩, ⟨⟨h4, ⟨trivial, ⟨trivial, trivial⟩⟩⟩, ⟨⟨h4, ⟨trivial, trivial⟩⟩, ⟨⟨trivial, trivial⟩, ⟨⟨h5, ⟨trivial, trivial⟩⟩, ⟨⟨h5, ⟨trivial, trivial⟩⟩, ⟨⟨h5, ⟨trivial, ⟨trivial, ⟨h6, h7⟩⟩⟩⟩, ⟨⟨h5, ⟨trivial, trivial⟩⟩, ⟨⟨h5, ⟨trivial, trivial⟩⟩, ⟨⟨trivial, trivial⟩, ⟨⟨h8, ⟨trivial, trivial⟩⟩, ⟨⟨h8, ⟨trivial, trivial⟩⟩, ⟨⟨h8, ⟨trivial, trivial⟩⟩, ⟨⟨trivial, trivial⟩, ⟨⟨h9, ⟨trivial, trivial⟩⟩, ⟨⟨h9, ⟨trivial, trivial⟩⟩, ⟨⟨h9, ⟨trivial, trivial⟩⟩, ⟨⟨h9, ⟨trivial, ⟨trivial, trivial⟩⟩⟩, ⟨⟨h9, ⟨trivial, trivial⟩⟩, trivial⟩⟩⟩⟩⟩⟩⟩⟩⟩⟩⟩⟩⟩⟩⟩⟩⟩⟩⟩⟩⟩⟩⟩⟩, ⟨h10, ⟨⟨trivial, trivial⟩, ⟨⟨⟨trivial, trivial⟩, ⟨⟨trivial, trivial⟩, ⟨⟨trivial, ⟨trivial, ⟨h11, h12⟩⟩⟩, ⟨⟨trivial, trivial⟩, ⟨⟨trivial, trivial⟩, ⟨trivial, trivial⟩⟩⟩⟩⟩⟩, trivial⟩⟩⟩⟩⟩⟩⟩, ⟨trivial, ⟨trivial, ⟨trivial, ⟨trivial, ⟨trivial, ⟨trivial, ⟨trivial, ⟨trivial, ⟨trivial, ⟨trivial, trivial⟩⟩⟩⟩⟩⟩⟩⟩⟩⟩⟩ ht
theorem cix_0 (q : QE) (h1 : (decide (iN q.a < iN q.r.length) = false)) (h2 : ((!q.b) = true)) {post : Exit → St → Prop} (hP : Pass post (Fin Try.prog Try.f17 0 [] (AV.bool false))) : ∃ o' st' q', go2 Try.prog ({ dec := [(64, false), (75, true)], els := eCl q, calls := cE q, unroll := false } : HT) 0 4000 (loopC (loopC (bodyOf Try.f17) 0) 0) (loopK (loopC (bodyOf Try.f17) 0) 0) (li17 q) = some (o', st', q') ∧ q' ∧ Go.AX.Rest Try.prog 0 post st' o' :=
  endT_spec (σ := []) (fz := []) (show endT Try.prog Try.f17 0 [] [] (go2 Try.prog ({ dec := [(64, false), (75, true)], els := eCl q, calls := cE q, unroll := false } : HT) 0 4000 (loopC (loopC (bodyOf Try.f17) 0) 0) (loopK (loopC (bodyOf Try.f17) 0) 0) (li17 q)) = some ([], AV.bool false, (((((True ∧ (True ∧ True)) ∧ True) ∧ ((type_of% h1) ∧ True)) ∧ (((True ∧ True) ∧ ((True ∧ True) ∧ True)) ∧ ((type_of% h2) ∧ ((True ∧ True) ∧ True)))) ∧ (True ∧ True))) by kernel_rfl) ⟨⟨⟨⟨⟨trivial, ⟨trivial, trivial⟩⟩, trivial⟩, ⟨h1, trivial⟩⟩, ⟨⟨⟨trivial, trivial⟩, ⟨⟨trivial, trivial⟩, trivial⟩⟩, ⟨h2, ⟨⟨trivial, trivial⟩, trivial⟩⟩⟩⟩, ⟨trivial, trivial⟩⟩ hP
theorem cix_1 (q : QE) (h1 : (decide (iN q.a < iN q.r.length) = false)) (h2 : ((!q.b) = false)) {post : Exit → St → Prop} {R : St → Prop} (hR : ∀ st, Ren 0 st (St.mk 78 [(0, AV.lst (gL q.g)), (1, AV.lst (boL q.s)), (7, AV.int IntKind.i64 q.x), (28, AV.lst (List.map (AV.int IntKind.i64) q.o)), (29, AV.int IntKind.i64 (iN q.o.length)), (30, AV.int IntKind.i64 (IntKind.i64.wrap (iN q.i + 1)))] []) → R st) : ∃ o' st' q', go2 Try.prog ({ dec := [(64, false), (75, false)], els := eCl q, calls := cE q, unroll := false } : HT) 0 4000 (loopC (loopC (bodyOf Try.f17) 0) 0) (loopK (loopC (bodyOf Try.f17) 0) 0) (li17 q) = some (o', st', q') ∧ q' ∧ Go.AX.Rest Try.prog 0 (andThen R post) st' o' :=
  endN_spec (σ := []) (fz := []) (vars := [0,1,7,28,29,30]) (show endN 0 [] [] [0,1,7,28,29,30] (go2 Try.prog ({ dec := [(64, false), (75, false)], els := eCl q, calls := cE q, unroll := false } : HT) 0 4000 (loopC (loopC (bodyOf Try.f17) 0) 0) (loopK (loopC (bodyOf Try.f17) 0) 0) (li17 q)) = some (St.mk 78 [(0, AV.lst (gL q.g)), (1, AV.lst (boL q.s)), (7, AV.int IntKind.i64 q.x), (28, AV.lst (List.map (AV.int IntKind.i64) q.o)), (29, AV.int IntKind.i64 (iN q.o.length)), (30, AV.int IntKind.i64 (IntKind.i64.wrap (iN q.i + 1)))] [], (((((True ∧ (True ∧ True)) ∧ True) ∧ ((type_of% h1) ∧ True)) ∧ (((True ∧ True) ∧ ((True ∧ True) ∧ True)) ∧ ((type_of% h2) ∧ (((True ∧ True) ∧ ((True ∧ True) ∧ True)) ∧ (((True ∧ True) ∧ ((True ∧ True) ∧ True)) ∧ True))))) ∧ (True ∧ (True ∧ (True ∧ (True ∧ (True ∧ (True ∧ True)))))))) by kernel_rfl) ⟨⟨⟨⟨⟨trivial, ⟨trivial, trivial⟩⟩, trivial⟩, ⟨h1, trivial⟩⟩, ⟨⟨⟨trivial, trivial⟩, ⟨⟨trivial, trivial⟩, trivial⟩⟩, ⟨h2, ⟨⟨⟨trivial, trivial⟩, ⟨⟨trivial, trivial⟩, trivial⟩⟩, ⟨⟨⟨trivial, trivial⟩, ⟨⟨trivial, trivial⟩, trivial⟩⟩, trivial⟩⟩⟩⟩⟩, ⟨trivial, ⟨trivial, ⟨trivial, ⟨trivial, ⟨trivial, ⟨trivial, trivial⟩⟩⟩⟩⟩⟩⟩ hR
theorem cir_0 (q : QE) (h1 : (decide (iN q.a < iN q.r.length) = true)) (h2 : (0 ≤ iN q.a)) (h3 : ((List.map (AV.int IntKind.i64) q.r)[(iN q.a).toNat]? = some (AV.int IntKind.i64 q.z))) (h4 : (q.b = true)) {post : Exit → St → Prop} {R : St → Prop} (hR : ∀ st, Ren 0 st (St.mk 78 [(0, AV.lst (gL q.g)), (1, AV.lst (boL q.s)), (9, AV.int IntKind.i64 q.x), (10, AV.bool true), (28, AV.lst (List.map (AV.int IntKind.i64) q.o)), (29, AV.int IntKind.i64 (iN q.o.length)), (30, AV.int IntKind.i64 (iN q.i)), (61, AV.lst (List.map (AV.int IntKind.i64) q.r)), (62, AV.int IntKind.i64 (iN q.r.length)), (63, AV.int IntKind.i64 (IntKind.i64.wrap (iN q.a + 1)))] []) → R st) : ∃ o' st' q', go Try.prog ({ dec := [(64, true), (68, true)], els := eCl q, calls := cE q, unroll := false } : HT) 0 4000 (.inl (loopC (loopC (bodyOf Try.f17) 0) 0)) [] (li17 q) = some (o', st', q') ∧ q' ∧ Go.AX.Rest Try.prog 0 (andThen R post) st' o' :=
  endN_spec (σ := []) (fz := []) (vars := [0,1,9,10,28,29,30,61,62,63]) (show endN 0 [] [] [0,1,9,10,28,29,30,61,62,63] (go Try.prog ({ dec := [(64, true), (68, true)], els := eCl q, calls := cE q, unroll := false } : HT) 0 4000 (.inl (loopC (loopC (bodyOf Try.f17) 0) 0)) [] (li17 q)) = some (St.mk 78 [(0, AV.lst (gL q.g)), (1, AV.lst (boL q.s)), (9, AV.int IntKind.i64 q.x), (10, AV.bool true), (28, AV.lst (List.map (AV.int IntKind.i64) q.o)), (29, AV.int IntKind.i64 (iN q.o.length)), (30, AV.int IntKind.i64 (iN q.i)), (61, AV.lst (List.map (AV.int IntKind.i64) q.r)), (62, AV.int IntKind.i64 (iN q.r.length)), (63, AV.int IntKind.i64 (IntKind.i64.wrap (iN q.a + 1)))] [], ((((True ∧ (True ∧ True)) ∧ True) ∧ ((type_of% h1) ∧ (((True ∧ (True ∧ ((type_of% h2) ∧ (type_of% h3)))) ∧ ((True ∧ True) ∧ ((True ∧ True) ∧ True))) ∧ (((True ∧ True) ∧ ((True ∧ True) ∧ ((type_of% h4) ∧ ((type_of% h4) ∧ ((type_of% h4) ∧ (((type_of% h4) ∧ (True ∧ True)) ∧ ((True ∧ True) ∧ True))))))) ∧ (((True ∧ True) ∧ ((True ∧ True) ∧ True)) ∧ True))))) ∧ (True ∧ (True ∧ (True ∧ (True ∧ (True ∧ (True ∧ (True ∧ (True ∧ (True ∧ (True ∧ True)))))))))))) by kernel_rfl) ⟨⟨⟨⟨trivial, ⟨trivial, trivial⟩⟩, trivial⟩, ⟨h1, ⟨⟨⟨trivial, ⟨trivial, ⟨h2, h3⟩⟩⟩, ⟨⟨trivial, trivial⟩, ⟨⟨trivial, trivial⟩, trivial⟩⟩⟩, ⟨⟨⟨trivial, trivial⟩, ⟨⟨trivial, trivial⟩, ⟨h4, ⟨h4, ⟨h4, ⟨⟨h4, ⟨trivial, trivial⟩⟩, ⟨⟨trivial, trivial⟩, trivial⟩⟩⟩⟩⟩⟩⟩, ⟨⟨⟨trivial, trivial⟩, ⟨⟨trivial, trivial⟩, trivial⟩⟩, trivial⟩⟩⟩⟩⟩, ⟨trivial, ⟨trivial, ⟨trivial, ⟨trivial, ⟨trivial, ⟨trivial, ⟨trivial, ⟨trivial, ⟨trivial, ⟨trivial, trivial⟩⟩⟩⟩⟩⟩⟩⟩⟩⟩⟩ hR
theorem cir_1 (q : QE) (h1 : (decide (iN q.a < iN q.r.length) = true)) (h2 : (0 ≤ iN q.a)) (h3 : ((List.map (AV.int IntKind.i64) q.r)[(iN q.a).toNat]? = some (AV.int IntKind.i64 q.z))) (h4 : (q.b = false)) {post : Exit → St → Prop} {R : St → Prop} (hR : ∀ st, Ren 0 st (St.mk 78 [(0, AV.lst (gL q.g)), (1, AV.lst (boL q.s)), (9, AV.int IntKind.i64 q.x), (10, AV.bool (q.z == q.x)), (28, AV.lst (List.map (AV.int IntKind.i64) q.o)), (29, AV.int IntKind.i64 (iN q.o.length)), (30, AV.int IntKind.i64 (iN q.i)), (61, AV.lst (List.map (AV.int IntKind.i64) q.r)), (62, AV.int IntKind.i64 (iN q.r.length)), (63, AV.int IntKind.i64 (IntKind.i64.wrap (iN q.a + 1)))] []) → R st) : ∃ o' st' q', go Try.prog ({ dec := [(64, true), (68, false)], els := eCl q, calls := cE q, unroll := false } : HT) 0 4000 (.inl (loopC (loopC (bodyOf Try.f17) 0) 0)) [] (li17 q) = some (o', st', q') ∧ q' ∧ Go.AX.Rest Try.prog 0 (andThen R post) st' o' :=
  endN_spec (σ := []) (fz := []) (vars := [0,1,9,10,28,29,30,61,62,63]) (show endN 0 [] [] [0,1,9,10,28,29,30,61,62,63] (go Try.prog ({ dec := [(64, true), (68, false)], els := eCl q, calls := cE q, unroll := false } : HT) 0 4000 (.inl (loopC (loopC (bodyOf Try.f17) 0) 0)) [] (li17 q)) = some (St.mk 78 [(0, AV.lst (gL q.g)), (1, AV.lst (boL q.s)), (9, AV.int IntKind.i64 q.x), (10, AV.bool (q.z == q.x)), (28, AV.lst (List.map (AV.int IntKind.i64) q.o)), (29, AV.int IntKind.i64 (iN q.o.length)), (30, AV.int IntKind.i64 (iN q.i)), (61, AV.lst (List.map (AV.int IntKind.i64) q.r)), (62, AV.int IntKind.i64 (iN q.r.length)), (63, AV.int IntKind.i64 (IntKind.i64.wrap (iN q.a + 1)))] [], ((((True ∧ (True ∧ True)) ∧ True) ∧ ((type_of% h1) ∧ (((True ∧ (True ∧ ((type_of% h2) ∧ (type_of% h3)))) ∧ ((True ∧ True) ∧ ((True ∧ True) ∧ True))) ∧ (((True ∧ True) ∧ ((True ∧ True) ∧ (((type_of% h4) ∧ (True ∧ True)) ∧ (((type_of% h4) ∧ (True ∧ True)) ∧ (((type_of% h4) ∧ (True ∧ (True ∧ True))) ∧ (((type_of% h4) ∧ (True ∧ True)) ∧ ((True ∧ True) ∧ True))))))) ∧ (((True ∧ True) ∧ ((True ∧ True) ∧ True)) ∧ True))))) ∧ (True ∧ (True ∧ (True ∧ (True ∧ (True ∧ (True ∧ (True ∧ (True ∧ (True ∧ (True ∧ True)))))))))))) by kernel_rfl) ⟨⟨⟨⟨trivial, ⟨trivial, trivial⟩⟩, trivial⟩, ⟨h1, ⟨⟨⟨trivial, ⟨trivial, ⟨h2, h3⟩⟩⟩, ⟨⟨trivial, trivial⟩, ⟨⟨trivial, trivial⟩, trivial⟩⟩⟩, ⟨⟨⟨trivial, trivial⟩, ⟨⟨trivial, trivial⟩, ⟨⟨h4, ⟨trivial, trivial⟩⟩, ⟨⟨h4, ⟨trivial, trivial⟩⟩, ⟨⟨h4, ⟨trivial, ⟨trivial, trivial⟩⟩⟩, ⟨⟨h4, ⟨trivial, trivial⟩⟩, ⟨⟨trivial, trivial⟩, trivial⟩⟩⟩⟩⟩⟩⟩, ⟨⟨⟨trivial, trivial⟩, ⟨⟨trivial, trivial⟩, trivial⟩⟩, trivial⟩⟩⟩⟩⟩, ⟨trivial, ⟨trivial, ⟨trivial, ⟨trivial, ⟨trivial, ⟨trivial, ⟨trivial, ⟨trivial, ⟨trivial, ⟨trivial, trivial⟩⟩⟩⟩⟩⟩⟩⟩⟩⟩⟩ hR
end Go.Proofs.Ytcdgphdieemjcaa

/-! Contracts. -/
open Go Go.AX Go.Proofs
set_option maxRecDepth 100000
set_option maxHeartbeats 1000000
set_option linter.unusedVariables false
set_option linter.unusedSimpArgs false
namespace Go.Proofs.Ytcdgphdieemjcaa
/-! Girth's check of any graph. -/
def badL (r : List Int) (n v i : Nat) : Bool := decide (r.getD i 0 ≤ lastZ r i) || (decide ((n : Int) ≤ r.getD i 0) || r.getD i 0 == (v : Int))
theorem badL_badE {r : List Int} {n v : Nat} : (fnd (badL r n v) 0 r.length).isSome = (fnd (badE r n v) 0 r.length).isSome := by
  have up : ∀ i, badL r n v i = true → badE r n v i = true := by
    intro i h
    unfold badL lastZ at h
    unfold badE
    simp only [Bool.or_eq_true, Bool.and_eq_true, decide_eq_true_eq, beq_iff_eq] at h ⊢
    rcases h with h | h | h
    · split at h
      · exact .inl (by omega)
      · exact .inr (.inr (.inr ⟨by omega, h⟩))
    · exact .inr (.inl h)
    · exact .inr (.inr (.inl h))
  have dn : ∀ i, badE r n v i = true → ∃ j, j ≤ i ∧ badL r n v j = true := by
    intro i
    induction i with
    | zero =>
      intro h
      refine ⟨0, Nat.le_refl _, ?_⟩
      unfold badE at h
      unfold badL lastZ
      simp only [Bool.or_eq_true, Bool.and_eq_true, decide_eq_true_eq, beq_iff_eq] at h ⊢
      rcases h with h | h | h | ⟨h, _⟩
      · exact .inl (show r.getD 0 0 ≤ (-1 : Int) by omega)
      · exact .inr (.inl h)
      · exact .inr (.inr h)
      · omega
    | succ i ih =>
      intro h
      by_cases hl : badL r n v (i + 1) = true
      · exact ⟨i + 1, Nat.le_refl _, hl⟩
      · have hneg : badE r n v i = true := by
          unfold badL lastZ at hl
          unfold badE at h ⊢
          simp only [Bool.or_eq_true, Bool.and_eq_true, decide_eq_true_eq, beq_iff_eq, not_or] at h hl ⊢
          rw [if_neg (by omega)] at hl
          rcases h with h | h | h | ⟨_, h⟩
          · simp only [Nat.add_sub_cancel] at hl
            exact .inl (by omega)
          · exact absurd h hl.2.1
          · exact absurd h hl.2.2
          · exact absurd h hl.1
        obtain ⟨j, hj, h2⟩ := ih hneg
        exact ⟨j, by omega, h2⟩
  cases h1 : fnd (badL r n v) 0 r.length with
  | none =>
    cases h2 : fnd (badE r n v) 0 r.length with
    | none => rfl
    | some i =>
      obtain ⟨a, _, b⟩ := fnd_some h2
      obtain ⟨j, hj, hb⟩ := dn i a
      have := fnd_none h1 j (Nat.zero_le _) (by omega)
      rw [hb] at this; cases this
  | some i =>
    cases h2 : fnd (badE r n v) 0 r.length with
    | some _ => rfl
    | none =>
      obtain ⟨a, _, b⟩ := fnd_some h1
      have := fnd_none h2 i (Nat.zero_le _) (by omega)
      rw [up i a] at this; cases this

noncomputable def qe (g : List (List Int)) (s : List Bool) (e : Int) (a i : Nat) (r : List Int) (x y : Int) : QE := ⟨g, s, 0, [], [], [], r, e, i, a, 0, x, y, 0, 0, false, false⟩

theorem hc_run {g : List (List Int)} {s : List Bool} (hrw : Rows g) (hn : g.length ≤ 24) (a : Nat) (ha : a < g.length) {R : St → Prop} {post : Exit → St → Prop}
    (hy : badR g a = true → Pass post (Fin Try.prog Try.f23 0 [] (.int .i64 20)))
    (hR : badR g a = false → ∀ st, Ren 0 st (la23 (qe g s 0 (a + 1) 0 [] 0 0)) → R st) :
    T Try.prog 0 (.loop (loopC (loopC (bodyOf Try.f23) 0) 0)) (lb23 (qe g s 0 a 0 (g.getD a []) (-1) 0)) (TK Try.prog 0 (andThen R post) (loopK (loopC (bodyOf Try.f23) 0) 0)) := by
  have hr1 := hrw a ha
  have hl := gL_len g
  unfold badR at hy hR
  rw [← badL_badE] at hy hR
  generalize g.getD a [] = r at hr1 hy hR
  generalize hrr : fnd (badL r g.length a) 0 r.length = res at hy hR
  refine T.loop (fun i : Nat => lb23 (qe g s 0 a i r (lastZ r i) 0)) (fun i => i ≤ r.length ∧ fnd (badL r g.length a) i (r.length - i) = res) (fun i => r.length + 1 - i) 0 ⟨Nat.zero_le _, hrr⟩ ?_
  rintro i ⟨hi, hf⟩
  by_cases h : i < r.length
  · rw [fnd_step h] at hf
    have hg1 := lI_get h
    have dk : decide (iN i < iN r.length) = true := decide_eq_true (by simp only [iN]; omega)
    have found : badL r g.length a i = true → Pass (andThen R post) (Fin Try.prog Try.f23 0 [] (.int .i64 20)) := by
      intro hb
      simp only [hb] at hf
      subst hf
      exact hy rfl
    have wi : IntKind.i64.wrap (iN i + 1) = ((i + 1 : Nat) : Int) := wrap_nat i (by omega)
    by_cases b1 : r.getD i 0 ≤ lastZ r i
    · exact T.out mix (hcbr_0 (qe g s 0 a i r (lastZ r i) (r.getD i 0)) dk (by simp [iN]) hg1 (decide_eq_true b1) (found (by unfold badL; rw [decide_eq_true b1]; simp)))
    · by_cases b2 : (g.length : Int) ≤ r.getD i 0
      · exact T.out mix (hcbr_1 (qe g s 0 a i r (lastZ r i) (r.getD i 0)) dk (by simp [iN]) hg1 (decide_eq_false b1) (decide_eq_true (by simp only [iN, qe, hl]; exact b2)) (found (by unfold badL; rw [decide_eq_true b2]; simp)))
      · by_cases b3 : (r.getD i 0 == (a : Int)) = true
        · exact T.out mix (hcbr_2 (qe g s 0 a i r (lastZ r i) (r.getD i 0)) dk (by simp [iN]) hg1 (decide_eq_false b1) (decide_eq_false (by simp only [iN, qe, hl]; exact b2)) b3 (found (by unfold badL; rw [b3]; simp)))
        · have b3' := Bool.eq_false_iff.2 b3
          have hb : badL r g.length a i = false := by unfold badL; rw [decide_eq_false b1, decide_eq_false b2, b3']; rfl
          simp only [hb] at hf
          refine T.path mix (hcbr_3 (qe g s 0 a i r (lastZ r i) (r.getD i 0)) dk (by simp [iN]) hg1 (decide_eq_false b1) (decide_eq_false (by simp only [iN, qe, hl]; exact b2)) b3' ?_)
          intro st hst
          simp only [qe, wi] at hst
          refine ⟨i + 1, ?_, ⟨h, hf⟩, by omega⟩
          rw [lastZ_succ]
          exact hst
  · rw [fnd_end h] at hf
    subst hf
    refine T.out mix (hcbx_0 (qe g s 0 a i r (lastZ r i) 0) (decide_eq_false (by simp only [iN, qe]; omega)) ?_)
    intro st hst
    simp only [iN, qe, wrap_nat a (show a < 9223372036854775807 by omega)] at hst
    exact hR rfl st hst

theorem gcheckG_ct {g : List (List Int)} {s : List Bool} (hrw : Rows g) : CT Try.prog 23 [] [.lst (gL g), .lst (boL s)] [] (.int .i64 (chk4 g s)) := by
  have hl := gL_len g
  have hbl := boL_len s
  have hbd : Try.f23.body = some (bodyOf Try.f23) := by kernel_rfl
  unfold chk4
  by_cases h24 : 24 < g.length
  · rw [if_pos h24]
    exact CT.path mix Try.func23 hbd (Nat.le_of_ble_eq_true rfl) (hc_0 (qe g s 0 0 0 [] 0 0) (decide_eq_true (by simp only [iN, qe, hl]; omega)))
  rw [if_neg h24]
  refine CT.path mix Try.func23 hbd (Nat.le_of_ble_eq_true rfl) (hc_1 (qe g s 0 0 0 [] 0 0) (decide_eq_false (by simp only [iN, qe, hl]; omega)) ?_)
  simp only [qe, hl]
  unfold badG
  generalize hrr : fnd (badR g) 0 g.length = res
  refine T.loop (fun a : Nat => la23 (qe g s 0 a 0 [] 0 0)) (fun a => a ≤ g.length ∧ fnd (badR g) a (g.length - a) = res) (fun a => g.length + 1 - a) 0 ⟨Nat.zero_le _, hrr⟩ ?_
  rintro a ⟨ha, hf⟩
  by_cases h : a < g.length
  · rw [fnd_step h] at hf
    refine T.path mix (hca_0 (qe g s 0 a 0 (g.getD a []) 0 0) (decide_eq_true (by simp only [iN, qe]; omega)) (by simp [iN]) (gL_get h) ?_)
    simp only [qe, lI_len]
    refine hc_run hrw (by omega) a h (fun hb => ?_) (fun hb st hst => ?_)
    · simp only [hb] at hf
      subst hf
      exact fun st hst => TK.ret hst _
    · simp only [hb] at hf
      exact ⟨a + 1, hst, ⟨h, hf⟩, by omega⟩
  · rw [fnd_end h] at hf
    subst hf
    have da : decide (iN a < iN g.length) = false := decide_eq_false (by simp only [iN]; omega)
    simp only [Option.isSome_none, Bool.false_eq_true, if_false]
    by_cases c1 : s.length = g.length
    · rw [if_neg (by simp [c1])]
      exact T.out mix (hcx_1 (qe g s 0 a 0 [] 0 0) da (by simp [iN, qe, hl, hbl, c1]))
    · rw [if_pos c1]
      exact T.out mix (hcx_0 (qe g s 0 a 0 [] 0 0) da (by simp only [iN, qe, hl, hbl, bne_iff_ne, ne_eq]; omega))

theorem chk4_ok {g : List (List Int)} {s : List Bool} (hrw : Rows g) (h : chk4 g s = 0) : OkG g s ∧ Asc g := by
  unfold chk4 at h
  by_cases h1 : 24 < g.length
  · rw [if_pos h1] at h; cases h
  rw [if_neg h1] at h
  by_cases h2 : badG g = true
  · rw [if_pos h2] at h; cases h
  rw [if_neg h2] at h
  by_cases h3 : s.length = g.length
  · have hb : ∀ a, a < g.length → ∀ i, i < (g.getD a []).length → badE (g.getD a []) g.length a i = false := by
      intro a ha i hi
      have e1 : fnd (badR g) 0 g.length = none := by unfold badG at h2; simpa using h2
      have e2 := fnd_none e1 a (Nat.zero_le _) (by omega)
      unfold badR at e2
      have e3 : fnd (badE (g.getD a []) g.length a) 0 (g.getD a []).length = none := by simpa using e2
      exact fnd_none e3 i (Nat.zero_le _) (by omega)
    refine ⟨⟨by omega, fun a ha => ⟨hrw a ha, fun x hx => ?_⟩, h3⟩, fun a ha i h0 hi => ?_⟩
    · obtain ⟨i, hi, rfl⟩ := mem_row hx
      have hbad := hb a ha i hi
      unfold badE at hbad
      simp only [Bool.or_eq_false_iff, decide_eq_false_iff_not, beq_eq_false_iff_ne, ne_eq] at hbad
      exact ⟨by omega, by omega, hbad.2.2.1⟩
    · have hbad := hb a ha i hi
      unfold badE at hbad
      rw [decide_eq_true h0, Bool.true_and] at hbad
      simp only [Bool.or_eq_false_iff, decide_eq_false_iff_not] at hbad
      omega
  · rw [if_pos h3] at h; cases h

/-! The reference's walk. -/
end Go.Proofs.Ytcdgphdieemjcaa

/-! Contracts. -/
open Go Go.AX Go.Proofs
set_option maxRecDepth 100000
set_option maxHeartbeats 1000000
set_option linter.unusedVariables false
set_option linter.unusedSimpArgs false
namespace Go.Proofs.Ytcdgphdieemjcaa
def thT (e : Int) (l : List Int) : AV := .tup [.int .i64 (iN l.length), lI l, .int .i64 e]
noncomputable def thE (g : List (List Int)) (s : List Bool) (v : Int) : Int := if chk4 g s ≠ 0 then chk4 g s else if v < 0 ∨ (g.length : Int) ≤ v then 19 else 0
noncomputable def thL (g : List (List Int)) (s : List Bool) (v : Int) : List Int := if thE g s v = 0 then thZ g s v.toNat else []

def girF (o p : List Int) : List Int := if 0 < p.length ∧ (o = [] ∨ p.length < o.length) then p else o
noncomputable def girN (g : List (List Int)) (s : List Bool) : Nat → List Int
  | 0 => []
  | v + 1 => girF (girN g s v) (thZ g s v)
noncomputable def girL (g : List (List Int)) (s : List Bool) : List Int := if chk4 g s = 0 then girN g s g.length else []

noncomputable def qgi (g : List (List Int)) (s : List Bool) (p o : List Int) (i : Nat) : QE := ⟨g, s, 0, p, o, [], [], 0, i, 0, 0, 0, 0, 0, 0, false, false⟩
noncomputable def st12S (g : List (List Int)) (s : List Bool) (o : List Int) (i : Nat) : St := match o with
  | [] => la12 (qgi g s [] [] i)
  | _ => lb12 (qgi g s [] o i)
theorem st12S_ne {g : List (List Int)} {s : List Bool} {o : List Int} (h : o ≠ []) (i : Nat) : st12S g s o i = lb12 (qgi g s [] o i) := by
  cases o with
  | nil => exact absurd rfl h
  | cons _ _ => rfl

theorem GirthG_ct {g : List (List Int)} {s : List Bool} (hrw : Rows g) : CT Try.prog 12 [] [.lst (gL g), .lst (boL s)] [] (thT (chk4 g s) (girL g s)) := by
  have hl := gL_len g
  have c := gcheckG_ct (s := s) hrw
  have hb : Try.f12.body = some (bodyOf Try.f12) := by kernel_rfl
  have hn : [AV.lst (gL g), .lst (boL s)].length ≤ Try.f12.ntmps := Nat.le_of_ble_eq_true rfl
  unfold girL
  by_cases h : chk4 g s = 0
  · rw [if_pos h]
    rw [h] at c ⊢
    obtain ⟨hg, ha⟩ := chk4_ok hrw h
    have hgl := hg.len
    have run : ∀ res, (girN g s g.length = [] → res = .tup [.int .i64 0, .nils, .int .i64 0]) → (girN g s g.length ≠ [] → res = thT 0 (girN g s g.length)) →
        T Try.prog 0 (.loop (loopC (bodyOf Try.f12) 0)) (la12 (qgi g s [] [] 0)) (TK Try.prog 0 (Fin Try.prog Try.f12 0 [] res) (loopK (bodyOf Try.f12) 0)) := by
      intro res hnil hsome
      refine T.loop (fun i : Nat => st12S g s (girN g s i) i) (fun i => i ≤ g.length) (fun i => g.length + 1 - i) 0 (Nat.zero_le _) ?_
      intro i hi
      by_cases hil : i < g.length
      · have ct := through_ct hg ha i hil
        have hs1 : girN g s (i + 1) = girF (girN g s i) (thZ g s i) := rfl
        have next : ∀ st, Ren 0 st (st12S g s (girN g s (i + 1)) (i + 1)) → ∃ j, Ren 0 st (st12S g s (girN g s j) j) ∧ j ≤ g.length ∧ g.length + 1 - j < g.length + 1 - i := fun st hst => ⟨i + 1, hst, hil, by omega⟩
        rw [hs1] at next
        generalize thZ g s i = p at ct next
        generalize girN g s i = o at next
        have hpl := lI_len p
        have hol := lI_len o
        have dk : decide (iN i < iN g.length) = true := decide_eq_true (by simp only [iN]; omega)
        have wi : IntKind.i64.wrap (iN i + 1) = ((i + 1 : Nat) : Int) := wrap_nat i (by omega)
        unfold girF at next
        by_cases hp : 0 < p.length
        · have hpne : p ≠ [] := by intro e; rw [e] at hp; simp at hp
          cases o with
          | nil =>
            rw [if_pos ⟨hp, .inl rfl⟩, st12S_ne hpne] at next
            refine T.path mix (gar_0 (qgi g s p [] i) dk ct (decide_eq_true (by simp only [iN, qgi, hpl]; omega)) ?_)
            intro st hst
            simp only [wi, qgi] at hst
            exact next st hst
          | cons o0 o1 =>
            by_cases hlt : p.length < (o0 :: o1).length
            · rw [if_pos ⟨hp, .inr hlt⟩, st12S_ne hpne] at next
              refine T.path mix (gbr_0 (qgi g s p (o0 :: o1) i) dk ct (decide_eq_true (by simp only [iN, qgi, hpl]; omega)) (by simp [qgi]) (decide_eq_true (by simp only [iN, qgi, hpl, hol]; omega)) ?_)
              intro st hst
              simp only [wi, qgi] at hst
              exact next st hst
            · rw [if_neg (fun h => h.2.elim (fun e => by cases e) hlt)] at next
              refine T.path mix (gbr_1 (qgi g s p (o0 :: o1) i) dk ct (decide_eq_true (by simp only [iN, qgi, hpl]; omega)) (by simp [qgi]) (decide_eq_false (by simp only [iN, qgi, hpl, hol]; omega)) ?_)
              intro st hst
              simp only [wi, qgi] at hst
              exact next st hst
        · rw [if_neg (fun h => hp h.1)] at next
          cases o with
          | nil =>
            refine T.path mix (gar_1 (qgi g s p [] i) dk ct (decide_eq_false (by simp only [iN, qgi, hpl]; omega)) ?_)
            intro st hst
            simp only [wi, qgi] at hst
            exact next st hst
          | cons o0 o1 =>
            refine T.path mix (gbr_2 (qgi g s p (o0 :: o1) i) dk ct (decide_eq_false (by simp only [iN, qgi, hpl]; omega)) ?_)
            intro st hst
            simp only [wi, qgi] at hst
            exact next st hst
      · obtain rfl : i = g.length := by omega
        have dn : decide (iN g.length < iN g.length) = false := decide_eq_false (by omega)
        generalize girN g s g.length = o at hnil hsome
        cases o with
        | nil =>
          rw [hnil rfl]
          exact T.out mix (gax_0 (qgi g s [] [] g.length) dn)
        | cons o0 o1 =>
          rw [hsome (by simp)]
          have k := gbx_0 (qgi g s [] (o0 :: o1) g.length) dn
          simp only [lI_len, qgi] at k
          exact T.out mix k
    by_cases hz : girN g s g.length = []
    · refine CT.pathW mix Try.func12 hb hn (res := .tup [.int .i64 0, .nils, .int .i64 0]) (gi_1 ⟨g, s, 0, [], [], [], [], 0, 0, 0, 0, 0, 0, 0, 0, false, false⟩ c rfl ?_) (by rw [hz]; rfl)
      simp only [hl]
      exact run _ (fun _ => rfl) (fun h => absurd hz h)
    · refine CT.path mix Try.func12 hb hn (gi_1 ⟨g, s, 0, [], [], [], [], 0, 0, 0, 0, 0, 0, 0, 0, false, false⟩ c rfl ?_)
      simp only [hl]
      exact run _ (fun h => absurd h hz) (fun _ => rfl)
  · rw [if_neg h]
    exact CT.pathW mix Try.func12 hb hn (gi_0 ⟨g, s, 0, [], [], [], [], chk4 g s, 0, 0, 0, 0, 0, 0, 0, false, false⟩ c (by simpa using h)) rfl

/-! Closed walks. -/
def ClsP (g : List (List Int)) (s : List Bool) (o : List Int) : Prop := o ≠ [] ∧ (∀ x ∈ o, 0 ≤ x ∧ x < (g.length : Int) ∧ s.getD x.toNat false = false) ∧ ∀ i, i < o.length → o.getD ((i + 1) % o.length) 0 ∈ g.getD (o.getD i 0).toNat []
open Classical in
noncomputable def clsB (g : List (List Int)) (s : List Bool) (o : List Int) : Bool := decide (chk4 g s = 0 ∧ ClsP g s o)
theorem clsB_iff {g : List (List Int)} {s : List Bool} {o : List Int} : clsB g s o = true ↔ chk4 g s = 0 ∧ ClsP g s o := by simp [clsB]

def anyN (r : List Int) (x : Int) : Nat → Bool
  | 0 => false
  | a + 1 => anyN r x a || (r.getD a 0 == x)
theorem anyN_iff {r : List Int} {x : Int} : ∀ n, anyN r x n = true ↔ ∃ j, j < n ∧ r.getD j 0 = x := by
  intro n
  induction n with
  | zero => simp [anyN]
  | succ n ih =>
    rw [anyN, Bool.or_eq_true, ih, beq_iff_eq]
    constructor
    · rintro (⟨j, hj, e⟩ | e)
      · exact ⟨j, by omega, e⟩
      · exact ⟨n, by omega, e⟩
    · rintro ⟨j, hj, e⟩
      by_cases ej : j = n
      · exact .inr (by rw [← ej]; exact e)
      · exact .inl ⟨j, by omega, e⟩

theorem get_mem {o : List Int} {i : Nat} (h : i < o.length) : o.getD i 0 ∈ o := by
  rw [List.getD_eq_getElem?_getD, List.getElem?_eq_getElem h]
  exact List.getElem_mem h
theorem mem_get {o : List Int} {x : Int} (h : x ∈ o) : ∃ i, i < o.length ∧ o.getD i 0 = x := by
  obtain ⟨i, hi, e⟩ := List.mem_iff_getElem.1 h
  exact ⟨i, hi, by rw [List.getD_eq_getElem?_getD, List.getElem?_eq_getElem hi]; exact e⟩

def prevW (o : List Int) (i : Nat) : Int := if i = 0 then o.getD (o.length - 1) 0 else o.getD (i - 1) 0
noncomputable def qcl (g : List (List Int)) (s : List Bool) (o r : List Int) (i a : Nat) (x y : Int) (b : Bool) : QE := ⟨g, s, 0, [], o, [], r, 0, i, a, 0, x, y, 0, 0, b, false⟩

theorem ci_run {g : List (List Int)} {s : List Bool} (o r : List Int) (i : Nat) (hi : i < o.length) (hol : o.length ≤ 9223372036854775807) (hr : r.length ≤ 9223372036854775807) (x : Int) {R : St → Prop} {post : Exit → St → Prop}
    (hy : x ∉ r → Pass post (Fin Try.prog Try.f17 0 [] (.bool false)))
    (hR : x ∈ r → ∀ st, Ren 0 st (lo17 (qcl g s o [] (i + 1) 0 0 x false)) → R st) :
    T Try.prog 0 (.loop (loopC (loopC (bodyOf Try.f17) 0) 0)) (li17 (qcl g s o r i 0 x 0 false)) (TK Try.prog 0 (andThen R post) (loopK (loopC (bodyOf Try.f17) 0) 0)) := by
  refine T.loop (fun a : Nat => li17 (qcl g s o r i a x 0 (anyN r x a))) (fun a => a ≤ r.length) (fun a => r.length + 1 - a) 0 (Nat.zero_le _) ?_
  intro a hal
  by_cases h : a < r.length
  · have hg1 := lI_get h
    have dk : decide (iN a < iN r.length) = true := decide_eq_true (by simp only [iN]; omega)
    have wa : IntKind.i64.wrap (iN a + 1) = ((a + 1 : Nat) : Int) := wrap_nat a (by omega)
    cases hb : anyN r x a with
    | true =>
      refine T.path mix (cir_0 ⟨g, s, 0, [], o, [], r, 0, i, a, 0, x, 0, r.getD a 0, 0, true, false⟩ dk (by simp [iN]) hg1 rfl ?_)
      intro st hst
      simp only [wa] at hst
      refine ⟨a + 1, ?_, h, by omega⟩
      rw [anyN, hb, Bool.true_or]
      exact hst
    | false =>
      refine T.path mix (cir_1 ⟨g, s, 0, [], o, [], r, 0, i, a, 0, x, 0, r.getD a 0, 0, false, false⟩ dk (by simp [iN]) hg1 rfl ?_)
      intro st hst
      simp only [wa] at hst
      refine ⟨a + 1, ?_, h, by omega⟩
      rw [anyN, hb, Bool.false_or]
      exact hst
  · obtain rfl : a = r.length := by omega
    have dn : decide (iN r.length < iN r.length) = false := decide_eq_false (by omega)
    have hm : anyN r x r.length = true ↔ x ∈ r := by
      rw [anyN_iff]
      exact ⟨fun ⟨j, hj, e⟩ => by rw [← e]; exact get_mem hj, mem_get⟩
    cases hb : anyN r x r.length with
    | true =>
      refine T.out mix (cix_1 (qcl g s o r i r.length x 0 true) dn rfl ?_)
      intro st hst
      simp only [qcl, wrap_nat i (show i < 9223372036854775807 by omega)] at hst
      exact hR (hm.1 hb) st hst
    | false =>
      exact T.out mix (cix_0 (qcl g s o r i r.length x 0 false) dn rfl (hy fun h => by rw [hm.2 h] at hb; cases hb))

theorem ClsP.prev {g : List (List Int)} {s : List Bool} {o : List Int} (h : ClsP g s o) {i : Nat} (hi : i < o.length) : prevW o i ∈ o ∧ o.getD i 0 ∈ g.getD (prevW o i).toNat [] := by
  unfold prevW
  split
  · rename_i e
    subst e
    refine ⟨get_mem (by omega), ?_⟩
    have := h.2.2 (o.length - 1) (by omega)
    rwa [show o.length - 1 + 1 = o.length by omega, Nat.mod_self] at this
  · rename_i e
    refine ⟨get_mem (by omega), ?_⟩
    have := h.2.2 (i - 1) (by omega)
    rwa [show i - 1 + 1 = i by omega, Nat.mod_eq_of_lt hi] at this

theorem ClsP.of {g : List (List Int)} {s : List Bool} {o : List Int} (h0 : o ≠ []) (h : ∀ i, i < o.length → (0 ≤ o.getD i 0 ∧ o.getD i 0 < (g.length : Int) ∧ s.getD (o.getD i 0).toNat false = false) ∧ o.getD i 0 ∈ g.getD (prevW o i).toNat []) : ClsP g s o := by
  refine ⟨h0, fun x hx => ?_, fun i hi => ?_⟩
  · obtain ⟨i, hi, rfl⟩ := mem_get hx
    exact (h i hi).1
  · by_cases e : i + 1 = o.length
    · rw [e, Nat.mod_self]
      have := (h 0 (by omega)).2
      unfold prevW at this
      rw [if_pos rfl] at this
      rwa [show i = o.length - 1 by omega]
    · rw [Nat.mod_eq_of_lt (by omega)]
      have := (h (i + 1) (by omega)).2
      unfold prevW at this
      rwa [if_neg (by omega), Nat.add_sub_cancel] at this

theorem closed_ct {g : List (List Int)} {s : List Bool} (hrw : Rows g) (o : List Int) (hol : o.length ≤ 9223372036854775807) : CT Try.prog 17 [] [.lst (gL g), .lst (boL s), lI o] [] (.bool (clsB g s o)) := by
  have hl := gL_len g
  have c := gcheckG_ct (s := s) hrw
  have hlo := lI_len o
  have hb : Try.f17.body = some (bodyOf Try.f17) := by kernel_rfl
  have hn : [AV.lst (gL g), .lst (boL s), lI o].length ≤ Try.f17.ntmps := Nat.le_of_ble_eq_true rfl
  have hcb := clsB_iff (g := g) (s := s) (o := o)
  generalize clsB g s o = b at hcb
  have hf : ¬ (chk4 g s = 0 ∧ ClsP g s o) → b = false := fun h => Bool.eq_false_iff.2 fun e => h (hcb.1 e)
  by_cases h : chk4 g s = 0
  · rw [h] at c
    obtain ⟨hg, ha⟩ := chk4_ok hrw h
    by_cases h0 : o = []
    · rw [hf fun h => h.2.1 h0]
      exact CT.path mix Try.func17 hb hn (cl_1 ⟨g, s, 0, [], o, [], [], 0, 0, 0, 0, 0, 0, 0, 0, false, false⟩ c rfl (by simp [iN, h0]))
    · have hop : 0 < o.length := List.length_pos_iff.2 h0
      have hw1 : IntKind.i64.wrap (iN (o.map (AV.int .i64)).length - 1) = ((o.length - 1 : Nat) : Int) := by
        rw [hlo]; exact wrapM1 o.length hop (by omega)
      refine CT.path mix Try.func17 hb hn (cl_2 ⟨g, s, 0, [], o, [], [], 0, 0, 0, 0, 0, o.getD (o.length - 1) 0, 0, 0, false, false⟩ c rfl (by simp only [iN, hlo, beq_eq_false_iff_ne, ne_eq]; omega) (by simp only [hw1]; omega) (by simp only [hw1, Int.toNat_natCast]; exact lI_get (by omega)) ?_)
      simp only [hlo]
      refine T.loop (fun i : Nat => lo17 (qcl g s o [] i 0 0 (prevW o i) false)) (fun i => i ≤ o.length ∧ ∀ j, j < i → (0 ≤ o.getD j 0 ∧ o.getD j 0 < (g.length : Int) ∧ s.getD (o.getD j 0).toNat false = false) ∧ o.getD j 0 ∈ g.getD (prevW o j).toNat []) (fun i => o.length + 1 - i) 0 ⟨Nat.zero_le _, fun j hj => by omega⟩ ?_
      rintro i ⟨hi, hok⟩
      by_cases hil : i < o.length
      · have hg1 := lI_get hil
        have dk : decide (iN i < iN o.length) = true := decide_eq_true (by simp only [iN]; omega)
        by_cases b1 : o.getD i 0 < 0
        · rw [hf fun hc => by have := hc.2.2.1 _ (get_mem hil); omega]
          exact T.out mix (cla_0 ⟨g, s, 0, [], o, [], [], 0, i, 0, 0, o.getD i 0, prevW o i, 0, 0, false, false⟩ dk (by simp [iN]) hg1 (decide_eq_true b1))
        · by_cases b2 : (g.length : Int) ≤ o.getD i 0
          · rw [hf fun hc => by have := hc.2.2.1 _ (get_mem hil); omega]
            exact T.out mix (cla_1 ⟨g, s, 0, [], o, [], [], 0, i, 0, 0, o.getD i 0, prevW o i, 0, 0, false, false⟩ dk (by simp [iN]) hg1 (decide_eq_false b1) (decide_eq_true (by simp only [iN, hl]; exact b2)))
          · have hsv := boL_get (s := s) (v := (o.getD i 0).toNat) (by rw [hg.sh]; omega)
            by_cases b3 : s.getD (o.getD i 0).toNat false = true
            · rw [hf fun hc => by have := (hc.2.2.1 _ (get_mem hil)).2.2; rw [b3] at this; cases this]
              exact T.out mix (cla_2 ⟨g, s, 0, [], o, [], [], 0, i, 0, 0, o.getD i 0, prevW o i, 0, 0, false, s.getD (o.getD i 0).toNat false⟩ dk (by simp [iN]) hg1 (decide_eq_false b1) (decide_eq_false (by simp only [iN, hl]; exact b2)) (by simp only; omega) hsv b3)
            · have b3 := Bool.eq_false_iff.2 b3
              by_cases b4 : prevW o i < 0
              · rw [hf fun hc => by have := hc.2.2.1 _ (hc.2.prev hil).1; omega]
                exact T.out mix (cla_3 ⟨g, s, 0, [], o, [], [], 0, i, 0, 0, o.getD i 0, prevW o i, 0, 0, false, s.getD (o.getD i 0).toNat false⟩ dk (by simp [iN]) hg1 (decide_eq_false b1) (decide_eq_false (by simp only [iN, hl]; exact b2)) (by simp only; omega) hsv b3 (decide_eq_true b4))
              · by_cases b5 : (g.length : Int) ≤ prevW o i
                · rw [hf fun hc => by have := hc.2.2.1 _ (hc.2.prev hil).1; omega]
                  exact T.out mix (cla_4 ⟨g, s, 0, [], o, [], [], 0, i, 0, 0, o.getD i 0, prevW o i, 0, 0, false, s.getD (o.getD i 0).toNat false⟩ dk (by simp [iN]) hg1 (decide_eq_false b1) (decide_eq_false (by simp only [iN, hl]; exact b2)) (by simp only; omega) hsv b3 (decide_eq_false b4) (decide_eq_true (by simp only [iN, hl]; exact b5)))
                · have hrow := gL_get (g := g) (v := (prevW o i).toNat) (by omega)
                  have hr1 := (hg.row (prevW o i).toNat (by omega)).1
                  refine T.path mix (cla_5 ⟨g, s, 0, [], o, [], g.getD (prevW o i).toNat [], 0, i, 0, 0, o.getD i 0, prevW o i, 0, 0, false, s.getD (o.getD i 0).toNat false⟩ dk (by simp [iN]) hg1 (decide_eq_false b1) (decide_eq_false (by simp only [iN, hl]; exact b2)) (by simp only; omega) hsv b3 (decide_eq_false b4) (decide_eq_false (by simp only [iN, hl]; exact b5)) (by simp only; omega) hrow ?_)
                  simp only [lI_len]
                  refine ci_run o _ i hil hol hr1 (o.getD i 0) (fun hm => ?_) (fun hm st hst => ?_)
                  · rw [hf fun hc => hm (hc.2.prev hil).2]
                    exact fun st hst => TK.ret hst _
                  · refine ⟨i + 1, ?_, ⟨hil, fun j hj => ?_⟩, by omega⟩
                    · have e : prevW o (i + 1) = o.getD i 0 := by unfold prevW; rw [if_neg (by omega), Nat.add_sub_cancel]
                      rw [e]
                      exact hst
                    · by_cases ej : j = i
                      · rw [ej]; exact ⟨⟨by omega, by omega, b3⟩, hm⟩
                      · exact hok j (by omega)
      · obtain rfl : i = o.length := by omega
        rw [hcb.2 ⟨h, ClsP.of h0 hok⟩]
        exact T.out mix (clx_0 (qcl g s o [] o.length 0 0 (prevW o o.length) false) (decide_eq_false (by simp only [iN, qcl]; omega)))
  · rw [hf fun hc => h hc.1]
    exact CT.path mix Try.func17 hb hn (cl_0 ⟨g, s, 0, [], o, [], [], chk4 g s, 0, 0, 0, 0, 0, 0, 0, false, false⟩ c (by simpa using h))

end Go.Proofs.Ytcdgphdieemjcaa

/-! Contracts. -/
open Go Go.AX Go.Proofs
set_option maxRecDepth 100000
set_option maxHeartbeats 1000000
set_option linter.unusedVariables false
set_option linter.unusedSimpArgs false
namespace Go.Proofs.Ytcdgphdieemjcaa
/-! Shortest closed walks. -/
theorem chk4_of {g : List (List Int)} {s : List Bool} (hg : OkG g s) (ha : Asc g) : chk4 g s = 0 := by
  unfold chk4
  rw [if_neg (by have := hg.len; omega)]
  have hb : badG g = false := by
    unfold badG
    have : fnd (badR g) 0 g.length = none := fnd_false fun v _ hv => by
      unfold badR
      have hv : v < g.length := by omega
      have hget := fun i => row_get hg hv (i := i)
      have hs := ha v hv
      have : fnd (badE (g.getD v []) g.length v) 0 (g.getD v []).length = none := fnd_false fun i _ hi => by
        obtain ⟨w, hw, hw1, hw2⟩ := hget i (by omega)
        unfold badE
        rw [decide_eq_false (by omega), decide_eq_false (by omega), Bool.false_or, Bool.false_or, beq_eq_false_iff_ne.2 (by omega), Bool.false_or]
        by_cases h0 : 0 < i
        · have := hs i h0 (by omega)
          rw [decide_eq_false (p := (g.getD v []).getD i 0 ≤ (g.getD v []).getD (i - 1) 0) (by omega), Bool.and_false]
        · rw [decide_eq_false h0, Bool.false_and]
      rw [this]; rfl
    rw [this]; rfl
  rw [if_neg (by simp [hb]), if_neg (by simp [hg.sh])]

theorem thZ_spec {g : List (List Int)} {s : List Bool} (hg : OkG g s) {v : Nat} (hv : v < g.length) (hne : thZ g s v ≠ []) :
    ∃ b m : Nat, s.getD v false = false ∧ b < g.length ∧ (b : Int) ∈ g.getD v [] ∧ (distL g s v g.length).getD b 0 = (m : Int) ∧ 1 ≤ m ∧ thZ g s v = (v : Int) :: (List.range m).map (wkZ g (distL g s v g.length) b) ∧
      ∀ w ∈ g.getD v [], 0 ≤ (distL g s v g.length).getD w.toNat 0 → (m : Int) ≤ (distL g s v g.length).getD w.toNat 0 := by
  unfold thZ at hne ⊢
  by_cases hso : s.getD v false = true
  · rw [if_pos hso] at hne; exact absurd rfl hne
  · rw [if_neg hso] at hne ⊢
    have hso := Bool.eq_false_iff.2 hso
    have hD := dst_ok hg hv
    generalize distL g s v g.length = d at hne hD ⊢
    have hbo := best_ok (d := d) (row_nn hg hv) _ (Nat.le_refl _)
    generalize hbb : bestN d (g.getD v []) (g.getD v []).length = b at hbo hne ⊢
    unfold thD at hne ⊢
    rcases hbo with ⟨rfl, _⟩ | ⟨k, hk, hbk, hk0, hmin, _⟩
    · rw [if_pos (by decide)] at hne; exact absurd rfl hne
    · obtain ⟨w, hw, hw1, hw2⟩ := row_get hg hv hk
      rw [hw] at hbk
      subst hbk
      rw [hw, Int.toNat_natCast] at hk0 hmin
      rw [if_neg (by omega)]
      refine ⟨w, (d.getD w 0).toNat, hso, hw1, by rw [← hw]; exact row_mem hk, by omega, ?_, by rw [Int.toNat_natCast], fun x hx h0 => ?_⟩
      · by_cases e : d.getD w 0 = 0
        · exact absurd (zero_goal hD hw1 e) hw2
        · omega
      · obtain ⟨j, hj, rfl⟩ := mem_row hx
        have := hmin j hj h0
        omega

theorem th_get {g : List (List Int)} {d : List Int} {v b m : Nat} : ∀ i, i < m + 1 → ((v : Int) :: (List.range m).map (wkZ g d b)).getD i 0 = if i = 0 then (v : Int) else wkZ g d b (i - 1) := by
  intro i hi
  cases i with
  | zero => rfl
  | succ i => rw [if_neg (by omega), Nat.add_sub_cancel, List.getD_cons_succ, List.getD_eq_getElem?_getD, List.getElem?_map, List.getElem?_range (by omega)]; rfl

theorem th_cls {g : List (List Int)} {s : List Bool} (hg : OkG g s) {v : Nat} (hv : v < g.length) (hne : thZ g s v ≠ []) : ClsP g s (thZ g s v) ∧ (thZ g s v).getD 0 0 = (v : Int) ∧ ∀ i, i < (thZ g s v).length → (thZ g s v).getD i 0 ∉ (thZ g s v).take i := by
  obtain ⟨b, m, hso, hb, hbm, hm, h1, e, _⟩ := thZ_spec hg hv hne
  rw [e]
  have hD := dst_ok hg hv
  generalize distL g s v g.length = d at hD hm
  have hok := wk_ok hg hv hD hb hm hso
  have hz := hD.zero hso
  have hlen : ((v : Int) :: (List.range m).map (wkZ g d b)).length = m + 1 := by simp
  have hget := th_get (g := g) (d := d) (v := v) (b := b) (m := m)
  have hwm : wkZ g d b m = (v : Int) := by
    obtain ⟨a1, a2, a3⟩ := hok m (Nat.le_refl _)
    have := zero_goal hD (v := (wkZ g d b m).toNat) (by omega) (by rw [a3]; simp)
    omega
  generalize hl : (v : Int) :: (List.range m).map (wkZ g d b) = l at hlen hget
  refine ⟨⟨by rw [← hl]; simp, fun x hx => ?_, fun i hi => ?_⟩, by rw [← hl]; rfl, fun i hi hm' => ?_⟩
  · obtain ⟨i, hi, rfl⟩ := mem_get hx
    rw [hget i (by omega)]
    split
    · exact ⟨by omega, by omega, by rw [Int.toNat_natCast]; exact hso⟩
    · obtain ⟨a1, a2, a3⟩ := hok (i - 1) (by omega)
      exact ⟨a1, a2, by
        have hu : (wkZ g d b (i - 1)).toNat < g.length := by omega
        rcases hD.back _ hu (by rw [a3]; omega) with e | e
        · rw [e]; exact hso
        · exact e.1⟩
  · have hnx : l.getD ((i + 1) % l.length) 0 = wkZ g d b i := by
      by_cases e2 : i = m
      · rw [hlen, e2, Nat.mod_self, hget 0 (by omega), if_pos rfl, hwm]
      · rw [hlen, Nat.mod_eq_of_lt (by omega), hget (i + 1) (by omega), if_neg (by omega), Nat.add_sub_cancel]
    rw [hnx, hget i (by omega)]
    split
    · rename_i e0
      rw [e0, Int.toNat_natCast]
      exact hbm
    · rename_i e0
      obtain ⟨a1, a2, a3⟩ := hok (i - 1) (by omega)
      have := hop_mem hg hD (u := (wkZ g d b (i - 1)).toNat) (by omega) (by rw [a3]; omega) hso
      obtain ⟨i', rfl⟩ : ∃ i', i = i' + 1 := ⟨i - 1, by omega⟩
      exact this
  · have hm2 : ∃ j, j < i ∧ l.getD j 0 = l.getD i 0 := by
      obtain ⟨j, hj, e2⟩ := mem_get hm'
      have hj2 : j < i := by simp only [List.length_take] at hj; omega
      refine ⟨j, hj2, ?_⟩
      rw [← e2, List.getD_eq_getElem?_getD, List.getD_eq_getElem?_getD, List.getElem?_take, if_pos hj2]
    obtain ⟨j, hj, e2⟩ := hm2
    rw [hget i (by omega), hget j (by omega), if_neg (show ¬ i = 0 by omega)] at e2
    obtain ⟨a1, a2, a3⟩ := hok (i - 1) (by omega)
    by_cases ej : j = 0
    · rw [if_pos ej] at e2
      rw [← e2, Int.toNat_natCast, hz] at a3
      omega
    · rw [if_neg ej] at e2
      obtain ⟨b1, b2, b3⟩ := hok (j - 1) (by omega)
      rw [e2, a3] at b3
      omega

theorem girN_spec (g : List (List Int)) (s : List Bool) : ∀ k, (girN g s k = [] ∧ ∀ v, v < k → thZ g s v = []) ∨ ∃ v, v < k ∧ girN g s k = thZ g s v ∧ thZ g s v ≠ [] ∧ ∀ u, u < k → thZ g s u ≠ [] → (thZ g s v).length ≤ (thZ g s u).length := by
  intro k
  induction k with
  | zero => exact .inl ⟨rfl, fun v hv => by omega⟩
  | succ k ih =>
    have e : girN g s (k + 1) = girF (girN g s k) (thZ g s k) := rfl
    rw [e]
    unfold girF
    by_cases hp : thZ g s k = []
    · rw [if_neg (fun h => by rw [hp] at h; exact absurd h.1 (by simp))]
      rcases ih with ⟨h1, h2⟩ | ⟨v, hv, h1, h2, h3⟩
      · refine .inl ⟨h1, fun v hv => ?_⟩
        by_cases ev : v = k
        · rw [ev]; exact hp
        · exact h2 v (by omega)
      · refine .inr ⟨v, by omega, h1, h2, fun u hu hne => ?_⟩
        by_cases eu : u = k
        · rw [eu] at hne; exact absurd hp hne
        · exact h3 u (by omega) hne
    · have hpl : 0 < (thZ g s k).length := List.length_pos_iff.2 hp
      rcases ih with ⟨h1, h2⟩ | ⟨v, hv, h1, h2, h3⟩
      · rw [if_pos ⟨hpl, .inl h1⟩]
        refine .inr ⟨k, by omega, rfl, hp, fun u hu hne => ?_⟩
        by_cases eu : u = k
        · rw [eu]; exact Nat.le_refl _
        · exact absurd (h2 u (by omega)) hne
      · rw [h1]
        by_cases hlt : (thZ g s k).length < (thZ g s v).length
        · rw [if_pos ⟨hpl, .inr hlt⟩]
          refine .inr ⟨k, by omega, rfl, hp, fun u hu hne => ?_⟩
          by_cases eu : u = k
          · rw [eu]; exact Nat.le_refl _
          · have := h3 u (by omega) hne; omega
        · rw [if_neg (fun h => h.2.elim h2 hlt)]
          refine .inr ⟨v, by omega, rfl, h2, fun u hu hne => ?_⟩
          by_cases eu : u = k
          · rw [eu]; omega
          · exact h3 u (by omega) hne

theorem cls_dist {g : List (List Int)} {s : List Bool} {o : List Int} (hc : ClsP g s o) {d : List Int} (hD : Dst g s (o.getD 0 0).toNat d) : ∀ j, j ≤ o.length → 0 ≤ d.getD (o.getD ((o.length - j) % o.length) 0).toNat 0 ∧ d.getD (o.getD ((o.length - j) % o.length) 0).toNat 0 ≤ (j : Int) := by
  have hop : 0 < o.length := List.length_pos_iff.2 hc.1
  intro j
  induction j with
  | zero =>
    intro _
    rw [Nat.sub_zero, Nat.mod_self, hD.zero (hc.2.1 _ (get_mem hop)).2.2]
    exact ⟨Int.le_refl _, Int.le_refl _⟩
  | succ j ih =>
    intro hj
    obtain ⟨a, b⟩ := ih (by omega)
    have hi : o.length - (j + 1) < o.length := by omega
    rw [Nat.mod_eq_of_lt hi]
    have hed := hc.2.2 _ hi
    rw [show o.length - (j + 1) + 1 = o.length - j by omega] at hed
    obtain ⟨r0, r1, r2⟩ := hc.2.1 _ (get_mem hi)
    obtain ⟨a', b'⟩ := hD.fwd _ (by omega) r2 _ hed a
    exact ⟨a', by omega⟩

/-- No closed walk is shorter than the girth. -/
theorem girth_min {g : List (List Int)} {s : List Bool} (hg : OkG g s) {o : List Int} (hc : ClsP g s o) : girN g s g.length ≠ [] ∧ (girN g s g.length).length ≤ o.length := by
  have hop : 0 < o.length := List.length_pos_iff.2 hc.1
  obtain ⟨r0, r1, r2⟩ := hc.2.1 _ (get_mem hop)
  have hv : (o.getD 0 0).toNat < g.length := by omega
  have hD := dst_ok hg hv
  have hd := cls_dist hc hD (o.length - 1) (by omega)
  rw [show o.length - (o.length - 1) = 1 by omega] at hd
  have hed := hc.2.2 0 hop
  rw [Nat.zero_add] at hed
  have hth : thZ g s (o.getD 0 0).toNat ≠ [] ∧ (thZ g s (o.getD 0 0).toNat).length ≤ o.length := by
    unfold thZ
    rw [if_neg (by rw [r2]; simp)]
    generalize distL g s (o.getD 0 0).toNat g.length = d at hD hd
    have hbo := best_ok (d := d) (row_nn hg hv) _ (Nat.le_refl _)
    obtain ⟨j, hj, hje⟩ := mem_row hed
    rw [← hje] at hd
    have hnn := row_nn hg hv
    generalize bestN d (g.getD (o.getD 0 0).toNat []) (g.getD (o.getD 0 0).toNat []).length = b at hbo
    unfold thD
    rcases hbo with ⟨_, hn⟩ | ⟨k, hk, rfl, hk0, hmin, _⟩
    · have := hn j hj; omega
    · have h1 := hnn k hk
      have h2 := hmin j hj hd.1
      rw [if_neg (by omega)]
      refine ⟨by simp, ?_⟩
      simp only [List.length_cons, List.length_map, List.length_range]
      omega
  rcases girN_spec g s g.length with ⟨_, h⟩ | ⟨v, _, h1, h2, h3⟩
  · exact absurd (h _ hv) hth.1
  · rw [h1]
    exact ⟨h2, Nat.le_trans (h3 _ hv hth.1) hth.2⟩

theorem girth_cls {g : List (List Int)} {s : List Bool} (hg : OkG g s) (hne : girN g s g.length ≠ []) : ClsP g s (girN g s g.length) ∧ ∀ i, i < (girN g s g.length).length → (girN g s g.length).getD i 0 ∉ (girN g s g.length).take i := by
  rcases girN_spec g s g.length with ⟨h, _⟩ | ⟨v, hv, h1, h2, _⟩
  · exact absurd h hne
  · rw [h1]
    obtain ⟨a, _, c⟩ := th_cls hg hv h2
    exact ⟨a, c⟩

theorem thZ_len {g : List (List Int)} {s : List Bool} (hg : OkG g s) {v : Nat} (hv : v < g.length) : (thZ g s v).length ≤ 1000 := by
  by_cases h : thZ g s v = []
  · rw [h]; simp
  · obtain ⟨b, m, _, hb, _, hm, _, e, _⟩ := thZ_spec hg hv h
    have := ((dst_ok hg hv).bnd b hb).2
    have := hg.len
    rw [e]
    simp only [List.length_cons, List.length_map, List.length_range]
    omega
theorem girN_len {g : List (List Int)} {s : List Bool} (hg : OkG g s) : (girN g s g.length).length ≤ 1000 := by
  rcases girN_spec g s g.length with ⟨h, _⟩ | ⟨v, hv, h1, _⟩
  · rw [h]; simp
  · rw [h1]; exact thZ_len hg hv
end Go.Proofs.Ytcdgphdieemjcaa

/-! The paths of a function, by evaluation. -/
open Go Go.AX Go.Proofs
set_option maxRecDepth 100000
set_option maxHeartbeats 4000000
set_option linter.unusedVariables false
namespace Go.Proofs.Ytcdgphdieemjcaa
def kg6 : List (List Int) := [[1], [0, 2], [0]]
def ks6 : List Bool := [false, false, false]
noncomputable def sk8 (u : Unit) : St := { n := Try.f8.ntmps, fr := [], hp := [] }
noncomputable def sk8b (u : Unit) : St := { n := Try.f8.ntmps, fr := [(0, .bool false)], hp := [] }
noncomputable def sk8c (u : Unit) : St := { n := Try.f8.ntmps, fr := [(0, .bool false), (1, .lst (gL kg6)), (2, .lst (boL ks6))], hp := [] }
def ck8 (u : Unit) : Nat → FuncId → List AV → List (Option Blk) → Hint := fun dst f args _ => match f with
  | 12 => .call [] [] [] (.tup [.int .i64 2, lI [0, 1], .int .i64 0])
  | 14 => .call [] [] [] (.tup [.int .i64 3, lI [2, 0, 1], .int .i64 0])
  | 16 => match args with
    | [_, .sl b _ _] => .call [] [b] [] (.bool true)
    | _ => .call [] [] [] (.bool true)
  | 17 => match args with
    | [_, _, .sl b _ _] => .call [] [b] [] (.bool true)
    | _ => .call [] [] [] (.bool true)
  | _ => .no
def ek8 (u : Unit) : List (Nat × AV) := []
structure QM where
  L : List Int
  W : List Int
  g : List (List Int)
  s : List Bool
  o : List Int
  p : List Int
  t : List Int
  i : Nat
  v : Nat
  w : Nat
  x : Int
  y : Int
  z : Int
  l : Int
  b : Bool
  r : List Int
  m1 : Nat
  m2 : Nat
  h : List (List Int)
def mkS (q : QM) : Nat → FuncId → List AV → List (Option Blk) → Hint := fun dst f args hp => match f with
  | 8 => .call [] [] [] (.bool true)
  | 9 => match args with
    | [.ptr b _ _, _] => .call [b] [] [tapeB q.L q.m1] (.lst (gL q.g))
    | _ => .no
  | 10 => match args with
    | [.ptr b _ _, _] => .call [b] [] [tapeB q.L q.m2] (.lst (boL q.s))
    | _ => .no
  | 12 => .call [] [] [] (.tup [.int .i64 (iN q.o.length), lI q.o, .int .i64 0])
  | 14 => .call [] [] [] (.tup [.int .i64 (iN q.p.length), lI q.p, .int .i64 0])
  | 17 => match args with
    | [_, _, .sl b _ _] => .call [] [b] [] (.bool q.b)
    | _ => .call [] [] [] (.bool q.b)
  | 19 => .call [] [] [] (.bool false)
  | 20 => .call [] [] [] (.int .i64 q.y)
  | _ => .no
noncomputable def st5 (q : QM) : St := { n := Try.f5.ntmps, fr := [(0, lI q.L)], hp := [] }
noncomputable def lo5 (q : QM) : St := { n := Try.f5.ntmps, fr := [(4, .lst (gL q.g)), (5, .lst (boL q.s)), (6, .int .i64 (iN q.o.length)), (8, .int .i64 0), (9, .int .i64 q.l), (10, .int .i64 (iN q.i))], hp := [] }
def eLe (q : QM) : List (Nat × AV) := [(59, .int .i64 (iN q.i))]
noncomputable def st4 (q : QM) : St := { n := Try.f4.ntmps, fr := [(0, lI q.L), (1, lI q.W)], hp := [] }
noncomputable def la4 (q : QM) : St := { n := Try.f4.ntmps, fr := [(1, lI q.W), (6, .lst (gL q.g)), (7, .lst (boL q.s)), (8, .int .i64 (iN q.o.length)), (9, lI q.o), (11, .int .i64 (iN q.i))], hp := [] }
noncomputable def lz4 (q : QM) : St := { n := Try.f4.ntmps, fr := [(1, lI q.W), (6, .lst (gL q.g)), (7, .lst (boL q.s)), (8, .int .i64 (iN q.o.length)), (12, .nils), (13, .int .i64 (iN q.i))], hp := [] }
noncomputable def lb4 (q : QM) : St := { n := Try.f4.ntmps, fr := [(1, lI q.W), (6, .lst (gL q.g)), (7, .lst (boL q.s)), (8, .int .i64 (iN q.o.length)), (12, .sl 0 0 q.t.length), (13, .int .i64 (iN q.i))], hp := [some (dB q.t)] }
def eSh (q : QM) : List (Nat × AV) := [(62, .int .i64 q.x), (83, .int .i64 q.x)]
theorem hk0_0 (u : Unit) {post : Exit → St → Prop} {R : St → Prop} (hR : ∀ st, Ren 0 st (St.mk 58 [(0, AV.bool false)] []) → R st) : ∃ o' st' q', go Try.prog ({ dec := [], els := ek8 u, calls := ck8 u, unroll := false } : HT) 0 4000 (.inl (sL (sR 0 (bodyOf Try.f8)))) [] (sk8 u) = some (o', st', q') ∧ q' ∧ Go.AX.Rest Try.prog 0 (andThen R post) st' o' :=
  endN_spec (σ := []) (fz := []) (vars := [0]) (show endN 0 [] [] [0] (go Try.prog ({ dec := [], els := ek8 u, calls := ck8 u, unroll := false } : HT) 0 4000 (.inl (sL (sR 0 (bodyOf Try.f8)))) [] (sk8 u)) = some (St.mk 58 [(0, AV.bool false)] [], (((True ∧ True) ∧ True) ∧ (True ∧ True))) by kernel_rfl) ⟨⟨⟨trivial, trivial⟩, trivial⟩, ⟨trivial, trivial⟩⟩ hR
theorem hk1_0 (u : Unit) {post : Exit → St → Prop} {R : St → Prop} (hR : ∀ st, Ren 0 st (St.mk 58 [(0, AV.bool false), (1, AV.sl 0 0 3), (2, AV.lst [AV.bool false, AV.bool false, AV.bool false])] [some (Blk.mk [AV.lst [AV.int IntKind.i64 1], AV.lst [AV.int IntKind.i64 0, AV.int IntKind.i64 2], AV.lst [AV.int IntKind.i64 0]] 1 true true)]) → R st) : ∃ o' st' q', go Try.prog ({ dec := [], els := ek8 u, calls := ck8 u, unroll := false } : HT) 0 4000 (.inl (sL (sR 1 (bodyOf Try.f8)))) [] (sk8b u) = some (o', st', q') ∧ q' ∧ Go.AX.Rest Try.prog 0 (andThen R post) st' o' :=
  endN_spec (σ := [3]) (fz := [0,1,2,4]) (vars := [0,1,2]) (show endN 0 [3] [0,1,2,4] [0,1,2] (go Try.prog ({ dec := [], els := ek8 u, calls := ck8 u, unroll := false } : HT) 0 4000 (.inl (sL (sR 1 (bodyOf Try.f8)))) [] (sk8b u)) = some (St.mk 58 [(0, AV.bool false), (1, AV.sl 0 0 3), (2, AV.lst [AV.bool false, AV.bool false, AV.bool false])] [some (Blk.mk [AV.lst [AV.int IntKind.i64 1], AV.lst [AV.int IntKind.i64 0, AV.int IntKind.i64 2], AV.lst [AV.int IntKind.i64 0]] 1 true true)], (((True ∧ (True ∧ (True ∧ ((True ∧ (True ∧ (True ∧ True))) ∧ (True ∧ ((True ∧ True) ∧ ((True ∧ True) ∧ True))))))) ∧ True) ∧ (True ∧ (True ∧ ((nat_lit 3 = nat_lit 3) ∧ (((nat_lit 1 = nat_lit 1) ∧ ((nat_lit 2 = nat_lit 2) ∧ ((nat_lit 1 = nat_lit 1) ∧ True))) ∧ True)))))) by kernel_rfl) ⟨⟨⟨trivial, ⟨trivial, ⟨trivial, ⟨⟨trivial, ⟨trivial, ⟨trivial, trivial⟩⟩⟩, ⟨trivial, ⟨⟨trivial, trivial⟩, ⟨⟨trivial, trivial⟩, trivial⟩⟩⟩⟩⟩⟩⟩, trivial⟩, ⟨trivial, ⟨trivial, ⟨(by first | decide | exact Int.NonNeg.mk _), ⟨⟨(by first | decide | exact Int.NonNeg.mk _), ⟨(by first | decide | exact Int.NonNeg.mk _), ⟨(by first | decide | exact Int.NonNeg.mk _), trivial⟩⟩⟩, trivial⟩⟩⟩⟩⟩ hR
theorem hk2_0 (u : Unit) (h1 : (CT Try.prog (nat_lit 12) [] [AV.lst [AV.lst [AV.int IntKind.i64 (1 : Int)], AV.lst [AV.int IntKind.i64 (0 : Int), AV.int IntKind.i64 (2 : Int)], AV.lst [AV.int IntKind.i64 (0 : Int)]], AV.lst [AV.bool false, AV.bool false, AV.bool false]] [] (AV.tup [AV.int IntKind.i64 (2 : Int), AV.lst [AV.int IntKind.i64 (0 : Int), AV.int IntKind.i64 (1 : Int)], AV.int IntKind.i64 (0 : Int)]))) (h2 : (CT Try.prog (nat_lit 14) [] [AV.lst [AV.lst [AV.int IntKind.i64 (1 : Int)], AV.lst [AV.int IntKind.i64 (0 : Int), AV.int IntKind.i64 (2 : Int)], AV.lst [AV.int IntKind.i64 (0 : Int)]], AV.lst [AV.bool false, AV.bool false, AV.bool false], AV.int IntKind.i64 (2 : Int)] [] (AV.tup [AV.int IntKind.i64 (3 : Int), AV.lst [AV.int IntKind.i64 (2 : Int), AV.int IntKind.i64 (0 : Int), AV.int IntKind.i64 (1 : Int)], AV.int IntKind.i64 (0 : Int)]))) (h3 : (CT Try.prog (nat_lit 16) [] [AV.lst [AV.int IntKind.i64 (0 : Int), AV.int IntKind.i64 (1 : Int)], AV.lst [AV.int IntKind.i64 (0 : Int), AV.int IntKind.i64 (1 : Int)]] [] (AV.bool true))) (h4 : (CT Try.prog (nat_lit 16) [] [AV.lst [AV.int IntKind.i64 (2 : Int), AV.int IntKind.i64 (0 : Int), AV.int IntKind.i64 (1 : Int)], AV.lst [AV.int IntKind.i64 (2 : Int), AV.int IntKind.i64 (0 : Int), AV.int IntKind.i64 (1 : Int)]] [] (AV.bool true))) (h5 : (CT Try.prog (nat_lit 17) [] [AV.lst [AV.lst [AV.int IntKind.i64 (1 : Int)], AV.lst [AV.int IntKind.i64 (0 : Int), AV.int IntKind.i64 (2 : Int)], AV.lst [AV.int IntKind.i64 (0 : Int)]], AV.lst [AV.bool false, AV.bool false, AV.bool false], AV.lst [AV.int IntKind.i64 (0 : Int), AV.int IntKind.i64 (1 : Int)]] [] (AV.bool true))) : ∃ o' st' q', go Try.prog ({ dec := [], els := ek8 u, calls := ck8 u, unroll := false } : HT) 0 4000 (.inl (sR 2 (bodyOf Try.f8))) [] (sk8c u) = some (o', st', q') ∧ q' ∧ Go.AX.Rest Try.prog 0 (Fin Try.prog Try.f8 0 [] (AV.bool true)) st' o' :=
  endF_spec (σ := []) (fz := []) (show endF Try.prog Try.f8 0 [] [] (go Try.prog ({ dec := [], els := ek8 u, calls := ck8 u, unroll := false } : HT) 0 4000 (.inl (sR 2 (bodyOf Try.f8))) [] (sk8c u)) = some ([], AV.bool true, ((((True ∧ True) ∧ ((True ∧ True) ∧ ((True ∧ (True ∧ (True ∧ (True ∧ ((type_of% h1) ∧ True))))) ∧ ((True ∧ True) ∧ ((True ∧ True) ∧ ((True ∧ True) ∧ ((True ∧ True) ∧ ((True ∧ True) ∧ ((True ∧ True) ∧ ((True ∧ True) ∧ True)))))))))) ∧ (((True ∧ True) ∧ ((True ∧ True) ∧ ((True ∧ (True ∧ (True ∧ (True ∧ (True ∧ ((type_of% h2) ∧ True)))))) ∧ ((True ∧ True) ∧ ((True ∧ True) ∧ ((True ∧ True) ∧ ((True ∧ True) ∧ ((True ∧ True) ∧ ((True ∧ True) ∧ ((True ∧ True) ∧ True)))))))))) ∧ (((True ∧ True) ∧ ((True ∧ True) ∧ ((True ∧ True) ∧ ((True ∧ (True ∧ True)) ∧ ((True ∧ (True ∧ True)) ∧ ((True ∧ (True ∧ True)) ∧ ((True ∧ True) ∧ ((True ∧ (True ∧ True)) ∧ ((True ∧ (True ∧ True)) ∧ ((True ∧ (True ∧ True)) ∧ ((True ∧ True) ∧ ((True ∧ (True ∧ True)) ∧ ((True ∧ True) ∧ ((True ∧ (True ∧ (True ∧ (True ∧ ((nat_lit 2 = nat_lit 2) ∧ ((type_of% h3) ∧ (∀ (blk : Blk), blk ∈ [] → ImmB blk))))))) ∧ ((True ∧ (True ∧ True)) ∧ ((True ∧ True) ∧ ((True ∧ (True ∧ True)) ∧ ((True ∧ (True ∧ True)) ∧ ((True ∧ (True ∧ True)) ∧ ((True ∧ True) ∧ ((True ∧ (True ∧ True)) ∧ ((True ∧ True) ∧ ((True ∧ (True ∧ (True ∧ (True ∧ ((nat_lit 3 = nat_lit 3) ∧ ((type_of% h4) ∧ (∀ (blk : Blk), blk ∈ [] → ImmB blk))))))) ∧ ((True ∧ (True ∧ True)) ∧ ((True ∧ True) ∧ ((True ∧ (True ∧ True)) ∧ ((True ∧ (True ∧ True)) ∧ ((True ∧ True) ∧ ((True ∧ (True ∧ (True ∧ (True ∧ (True ∧ (True ∧ ((nat_lit 2 = nat_lit 2) ∧ ((type_of% h5) ∧ (∀ (blk : Blk), blk ∈ [] → ImmB blk))))))))) ∧ ((True ∧ (True ∧ True)) ∧ ((True ∧ True) ∧ True))))))))))))))))))))))))))))))) ∧ True))) ∧ (True ∧ True))) by kernel_rfl) ⟨⟨⟨⟨trivial, trivial⟩, ⟨⟨trivial, trivial⟩, ⟨⟨trivial, ⟨trivial, ⟨trivial, ⟨trivial, ⟨h1, trivial⟩⟩⟩⟩⟩, ⟨⟨trivial, trivial⟩, ⟨⟨trivial, trivial⟩, ⟨⟨trivial, trivial⟩, ⟨⟨trivial, trivial⟩, ⟨⟨trivial, trivial⟩, ⟨⟨trivial, trivial⟩, ⟨⟨trivial, trivial⟩, trivial⟩⟩⟩⟩⟩⟩⟩⟩⟩⟩, ⟨⟨⟨trivial, trivial⟩, ⟨⟨trivial, trivial⟩, ⟨⟨trivial, ⟨trivial, ⟨trivial, ⟨trivial, ⟨trivial, ⟨h2, trivial⟩⟩⟩⟩⟩⟩, ⟨⟨trivial, trivial⟩, ⟨⟨trivial, trivial⟩, ⟨⟨trivial, trivial⟩, ⟨⟨trivial, trivial⟩, ⟨⟨trivial, trivial⟩, ⟨⟨trivial, trivial⟩, ⟨⟨trivial, trivial⟩, trivial⟩⟩⟩⟩⟩⟩⟩⟩⟩⟩, ⟨⟨⟨trivial, trivial⟩, ⟨⟨trivial, trivial⟩, ⟨⟨trivial, trivial⟩, ⟨⟨trivial, ⟨trivial, trivial⟩⟩, ⟨⟨trivial, ⟨trivial, trivial⟩⟩, ⟨⟨trivial, ⟨trivial, trivial⟩⟩, ⟨⟨trivial, trivial⟩, ⟨⟨trivial, ⟨trivial, trivial⟩⟩, ⟨⟨trivial, ⟨trivial, trivial⟩⟩, ⟨⟨trivial, ⟨trivial, trivial⟩⟩, ⟨⟨trivial, trivial⟩, ⟨⟨trivial, ⟨trivial, trivial⟩⟩, ⟨⟨trivial, trivial⟩, ⟨⟨trivial, ⟨trivial, ⟨trivial, ⟨trivial, ⟨(by first | decide | exact Int.NonNeg.mk _), ⟨h3, (by intro _ h; cases h)⟩⟩⟩⟩⟩⟩, ⟨⟨trivial, ⟨trivial, trivial⟩⟩, ⟨⟨trivial, trivial⟩, ⟨⟨trivial, ⟨trivial, trivial⟩⟩, ⟨⟨trivial, ⟨trivial, trivial⟩⟩, ⟨⟨trivial, ⟨trivial, trivial⟩⟩, ⟨⟨trivial, trivial⟩, ⟨⟨trivial, ⟨trivial, trivial⟩⟩, ⟨⟨trivial, trivial⟩, ⟨⟨trivial, ⟨trivial, ⟨trivial, ⟨trivial, ⟨(by first | decide | exact Int.NonNeg.mk _), ⟨h4, (by intro _ h; cases h)⟩⟩⟩⟩⟩⟩, ⟨⟨trivial, ⟨trivial, trivial⟩⟩, ⟨⟨trivial, trivial⟩, ⟨⟨trivial, ⟨trivial, trivial⟩⟩, ⟨⟨trivial, ⟨trivial, trivial⟩⟩, ⟨⟨trivial, trivial⟩, ⟨⟨trivial, ⟨trivial, ⟨trivial, ⟨trivial, ⟨trivial, ⟨trivial, ⟨(by first | decide | exact Int.NonNeg.mk _), ⟨h5, (by intro _ h; cases h)⟩⟩⟩⟩⟩⟩⟩⟩, ⟨⟨trivial, ⟨trivial, trivial⟩⟩, ⟨⟨trivial, trivial⟩, trivial⟩⟩⟩⟩⟩⟩⟩⟩⟩⟩⟩⟩⟩⟩⟩⟩⟩⟩⟩⟩⟩⟩⟩⟩⟩⟩⟩⟩⟩⟩⟩, trivial⟩⟩⟩, ⟨trivial, trivial⟩⟩
theorem sha_0 (q : QM) (h1 : (CT Try.prog (nat_lit 8) [] [] [] (AV.bool true))) (h2 : (CT Try.prog 9 [some (Blk.mk [AV.agg [AV.lst (List.map (AV.int IntKind.i64) q.L), AV.int IntKind.i64 0]] [AV.lst (List.map (AV.int IntKind.i64) q.L), AV.int IntKind.i64 0].length true true)] [AV.ptr 0 0 0, AV.int IntKind.i64 9] [some (Blk.mk [AV.agg [AV.lst (List.map (AV.int IntKind.i64) q.L), AV.int IntKind.i64 (iN q.m1)]] 2 true true)] (AV.lst (gL q.g)))) (h3 : (CT Try.prog 10 [some (Blk.mk [AV.agg [AV.lst (List.map (AV.int IntKind.i64) q.L), AV.int IntKind.i64 (iN q.m1)]] 2 true true)] [AV.ptr 0 0 0, AV.int IntKind.i64 (iN (gL q.g).length)] [some (Blk.mk [AV.agg [AV.lst (List.map (AV.int IntKind.i64) q.L), AV.int IntKind.i64 (iN q.m2)]] 2 true true)] (AV.lst (boL q.s)))) (h4 : (CT Try.prog 12 [] [AV.lst (gL q.g), AV.lst (boL q.s)] [] (AV.tup [AV.int IntKind.i64 (iN q.o.length), AV.lst (List.map (AV.int IntKind.i64) q.o), AV.int IntKind.i64 0]))) (h5 : ((iN q.o.length != iN (List.map (AV.int IntKind.i64) q.o).length) = false)) (h6 : (decide (0 < iN q.o.length) = true)) (h7 : (CT Try.prog 17 [] [AV.lst (gL q.g), AV.lst (boL q.s), AV.lst (List.map (AV.int IntKind.i64) q.o)] [] (AV.bool q.b))) (h8 : ((!q.b) = false)) {post : Exit → St → Prop} (ht : T Try.prog 0 (.loop (loopC (bodyOf Try.f4) 0)) (St.mk 102 [(1, AV.lst (List.map (AV.int IntKind.i64) q.W)), (6, AV.lst (gL q.g)), (7, AV.lst (boL q.s)), (8, AV.int IntKind.i64 (iN q.o.length)), (9, AV.lst (List.map (AV.int IntKind.i64) q.o)), (11, AV.int IntKind.i64 0)] []) (TK Try.prog 0 post (loopK (bodyOf Try.f4) 0))) : ∃ o' st' q', go Try.prog ({ dec := [(38, false), (42, true), (48, false)], els := eSh q, calls := mkS q, unroll := false } : HT) 0 4000 (.inl (bodyOf Try.f4)) [] (st4 q) = some (o', st', q') ∧ q' ∧ Go.AX.Rest Try.prog 0 post st' o' :=
  endR_spec (σ := []) (fz := []) (vars := [1,6,7,8,9,11]) (show endR 0 [] [] [1,6,7,8,9,11] (go Try.prog ({ dec := [(38, false), (42, true), (48, false)], els := eSh q, calls := mkS q, unroll := false } : HT) 0 4000 (.inl (bodyOf Try.f4)) [] (st4 q)) = some (loopC (bodyOf Try.f4) 0, loopK (bodyOf Try.f4) 0, St.mk 102 [(1, AV.lst (List.map (AV.int IntKind.i64) q.W)), (6, AV.lst (gL q.g)), (7, AV.lst (boL q.s)), (8, AV.int IntKind.i64 (iN q.o.length)), (9, AV.lst (List.map (AV.int IntKind.i64) q.o)), (11, AV.int IntKind.i64 0)] [], (((True ∧ True) ∧ ((((type_of% h1) ∧ True) ∧ ((True ∧ True) ∧ True)) ∧ (True ∧ (((True ∧ True) ∧ ((True ∧ True) ∧ ((True ∧ True) ∧ ((True ∧ True) ∧ True)))) ∧ (((True ∧ True) ∧ ((True ∧ (True ∧ (True ∧ (True ∧ ((type_of% h2) ∧ True))))) ∧ ((True ∧ True) ∧ True))) ∧ (((True ∧ True) ∧ ((True ∧ True) ∧ ((True ∧ True) ∧ ((True ∧ (True ∧ (True ∧ (True ∧ (True ∧ ((type_of% h3) ∧ True)))))) ∧ ((True ∧ True) ∧ True))))) ∧ (((True ∧ True) ∧ ((True ∧ True) ∧ ((True ∧ (True ∧ (True ∧ (True ∧ ((type_of% h4) ∧ True))))) ∧ ((True ∧ True) ∧ ((True ∧ True) ∧ ((True ∧ True) ∧ ((True ∧ True) ∧ ((True ∧ True) ∧ ((True ∧ True) ∧ ((True ∧ True) ∧ True)))))))))) ∧ (((True ∧ True) ∧ ((True ∧ True) ∧ ((True ∧ True) ∧ ((True ∧ (True ∧ True)) ∧ ((True ∧ (True ∧ True)) ∧ ((True ∧ (True ∧ True)) ∧ ((True ∧ (True ∧ (True ∧ True))) ∧ ((True ∧ ((type_of% h5) ∧ True)) ∧ ((True ∧ True) ∧ ((True ∧ (True ∧ True)) ∧ ((True ∧ (True ∧ True)) ∧ ((True ∧ ((type_of% h6) ∧ True)) ∧ ((True ∧ (True ∧ True)) ∧ ((True ∧ (True ∧ True)) ∧ ((True ∧ (True ∧ True)) ∧ ((True ∧ (True ∧ (True ∧ (True ∧ (True ∧ (True ∧ (True ∧ ((type_of% h7) ∧ True)))))))) ∧ ((True ∧ (True ∧ True)) ∧ ((True ∧ (True ∧ ((type_of% h8) ∧ True))) ∧ ((True ∧ (True ∧ True)) ∧ True))))))))))))))))))) ∧ (True ∧ ((True ∧ True) ∧ True)))))))))) ∧ (True ∧ (True ∧ (True ∧ (True ∧ (True ∧ (True ∧ True)))))))) by kernel_rfl) ⟨⟨⟨trivial, trivial⟩, ⟨⟨⟨h1, trivial⟩, ⟨⟨trivial, trivial⟩, trivial⟩⟩, ⟨trivial, ⟨⟨⟨trivial, trivial⟩, ⟨⟨trivial, trivial⟩, ⟨⟨trivial, trivial⟩, ⟨⟨trivial, trivial⟩, trivial⟩⟩⟩⟩, ⟨⟨⟨trivial, trivial⟩, ⟨⟨trivial, ⟨trivial, ⟨trivial, ⟨trivial, ⟨h2, trivial⟩⟩⟩⟩⟩, ⟨⟨trivial, trivial⟩, trivial⟩⟩⟩, ⟨⟨⟨trivial, trivial⟩, ⟨⟨trivial, trivial⟩, ⟨⟨trivial, trivial⟩, ⟨⟨trivial, ⟨trivial, ⟨trivial, ⟨trivial, ⟨trivial, ⟨h3, trivial⟩⟩⟩⟩⟩⟩, ⟨⟨trivial, trivial⟩, trivial⟩⟩⟩⟩⟩, ⟨⟨⟨trivial, trivial⟩, ⟨⟨trivial, trivial⟩, ⟨⟨trivial, ⟨trivial, ⟨trivial, ⟨trivial, ⟨h4, trivial⟩⟩⟩⟩⟩, ⟨⟨trivial, trivial⟩, ⟨⟨trivial, trivial⟩, ⟨⟨trivial, trivial⟩, ⟨⟨trivial, trivial⟩, ⟨⟨trivial, trivial⟩, ⟨⟨trivial, trivial⟩, ⟨⟨trivial, trivial⟩, trivial⟩⟩⟩⟩⟩⟩⟩⟩⟩⟩, ⟨⟨⟨trivial, trivial⟩, ⟨⟨trivial, trivial⟩, ⟨⟨trivial, trivial⟩, ⟨⟨trivial, ⟨trivial, trivial⟩⟩, ⟨⟨trivial, ⟨trivial, trivial⟩⟩, ⟨⟨trivial, ⟨trivial, trivial⟩⟩, ⟨⟨trivial, ⟨trivial, ⟨trivial, trivial⟩⟩⟩, ⟨⟨trivial, ⟨h5, trivial⟩⟩, ⟨⟨trivial, trivial⟩, ⟨⟨trivial, ⟨trivial, trivial⟩⟩, ⟨⟨trivial, ⟨trivial, trivial⟩⟩, ⟨⟨trivial, ⟨h6, trivial⟩⟩, ⟨⟨trivial, ⟨trivial, trivial⟩⟩, ⟨⟨trivial, ⟨trivial, trivial⟩⟩, ⟨⟨trivial, ⟨trivial, trivial⟩⟩, ⟨⟨trivial, ⟨trivial, ⟨trivial, ⟨trivial, ⟨trivial, ⟨trivial, ⟨trivial, ⟨h7, trivial⟩⟩⟩⟩⟩⟩⟩⟩, ⟨⟨trivial, ⟨trivial, trivial⟩⟩, ⟨⟨trivial, ⟨trivial, ⟨h8, trivial⟩⟩⟩, ⟨⟨trivial, ⟨trivial, trivial⟩⟩, trivial⟩⟩⟩⟩⟩⟩⟩⟩⟩⟩⟩⟩⟩⟩⟩⟩⟩⟩⟩, ⟨trivial, ⟨⟨trivial, trivial⟩, trivial⟩⟩⟩⟩⟩⟩⟩⟩⟩⟩, ⟨trivial, ⟨trivial, ⟨trivial, ⟨trivial, ⟨trivial, ⟨trivial, trivial⟩⟩⟩⟩⟩⟩⟩ ht
theorem shb_0 (q : QM) (h1 : (CT Try.prog (nat_lit 8) [] [] [] (AV.bool true))) (h2 : (CT Try.prog 9 [some (Blk.mk [AV.agg [AV.lst (List.map (AV.int IntKind.i64) q.L), AV.int IntKind.i64 0]] [AV.lst (List.map (AV.int IntKind.i64) q.L), AV.int IntKind.i64 0].length true true)] [AV.ptr 0 0 0, AV.int IntKind.i64 9] [some (Blk.mk [AV.agg [AV.lst (List.map (AV.int IntKind.i64) q.L), AV.int IntKind.i64 (iN q.m1)]] 2 true true)] (AV.lst (gL q.g)))) (h3 : (CT Try.prog 10 [some (Blk.mk [AV.agg [AV.lst (List.map (AV.int IntKind.i64) q.L), AV.int IntKind.i64 (iN q.m1)]] 2 true true)] [AV.ptr 0 0 0, AV.int IntKind.i64 (iN (gL q.g).length)] [some (Blk.mk [AV.agg [AV.lst (List.map (AV.int IntKind.i64) q.L), AV.int IntKind.i64 (iN q.m2)]] 2 true true)] (AV.lst (boL q.s)))) (h4 : (CT Try.prog 12 [] [AV.lst (gL q.g), AV.lst (boL q.s)] [] (AV.tup [AV.int IntKind.i64 (iN q.o.length), AV.lst (List.map (AV.int IntKind.i64) q.o), AV.int IntKind.i64 0]))) (h5 : ((iN q.o.length != iN (List.map (AV.int IntKind.i64) q.o).length) = false)) (h6 : (decide (0 < iN q.o.length) = false)) {post : Exit → St → Prop} (ht : T Try.prog 0 (.loop (loopC (bodyOf Try.f4) 0)) (St.mk 102 [(1, AV.lst (List.map (AV.int IntKind.i64) q.W)), (6, AV.lst (gL q.g)), (7, AV.lst (boL q.s)), (8, AV.int IntKind.i64 (iN q.o.length)), (9, AV.lst (List.map (AV.int IntKind.i64) q.o)), (11, AV.int IntKind.i64 0)] []) (TK Try.prog 0 post (loopK (bodyOf Try.f4) 0))) : ∃ o' st' q', go Try.prog ({ dec := [(38, false), (42, false)], els := eSh q, calls := mkS q, unroll := false } : HT) 0 4000 (.inl (bodyOf Try.f4)) [] (st4 q) = some (o', st', q') ∧ q' ∧ Go.AX.Rest Try.prog 0 post st' o' :=
  endR_spec (σ := []) (fz := []) (vars := [1,6,7,8,9,11]) (show endR 0 [] [] [1,6,7,8,9,11] (go Try.prog ({ dec := [(38, false), (42, false)], els := eSh q, calls := mkS q, unroll := false } : HT) 0 4000 (.inl (bodyOf Try.f4)) [] (st4 q)) = some (loopC (bodyOf Try.f4) 0, loopK (bodyOf Try.f4) 0, St.mk 102 [(1, AV.lst (List.map (AV.int IntKind.i64) q.W)), (6, AV.lst (gL q.g)), (7, AV.lst (boL q.s)), (8, AV.int IntKind.i64 (iN q.o.length)), (9, AV.lst (List.map (AV.int IntKind.i64) q.o)), (11, AV.int IntKind.i64 0)] [], (((True ∧ True) ∧ ((((type_of% h1) ∧ True) ∧ ((True ∧ True) ∧ True)) ∧ (True ∧ (((True ∧ True) ∧ ((True ∧ True) ∧ ((True ∧ True) ∧ ((True ∧ True) ∧ True)))) ∧ (((True ∧ True) ∧ ((True ∧ (True ∧ (True ∧ (True ∧ ((type_of% h2) ∧ True))))) ∧ ((True ∧ True) ∧ True))) ∧ (((True ∧ True) ∧ ((True ∧ True) ∧ ((True ∧ True) ∧ ((True ∧ (True ∧ (True ∧ (True ∧ (True ∧ ((type_of% h3) ∧ True)))))) ∧ ((True ∧ True) ∧ True))))) ∧ (((True ∧ True) ∧ ((True ∧ True) ∧ ((True ∧ (True ∧ (True ∧ (True ∧ ((type_of% h4) ∧ True))))) ∧ ((True ∧ True) ∧ ((True ∧ True) ∧ ((True ∧ True) ∧ ((True ∧ True) ∧ ((True ∧ True) ∧ ((True ∧ True) ∧ ((True ∧ True) ∧ True)))))))))) ∧ (((True ∧ True) ∧ ((True ∧ True) ∧ ((True ∧ True) ∧ ((True ∧ (True ∧ True)) ∧ ((True ∧ (True ∧ True)) ∧ ((True ∧ (True ∧ True)) ∧ ((True ∧ (True ∧ (True ∧ True))) ∧ ((True ∧ ((type_of% h5) ∧ True)) ∧ ((True ∧ True) ∧ ((True ∧ (True ∧ True)) ∧ ((True ∧ (True ∧ True)) ∧ ((True ∧ ((type_of% h6) ∧ True)) ∧ (True ∧ (True ∧ (True ∧ (True ∧ (True ∧ ((True ∧ (True ∧ (True ∧ True))) ∧ ((True ∧ (True ∧ True)) ∧ True))))))))))))))))))) ∧ (True ∧ ((True ∧ True) ∧ True)))))))))) ∧ (True ∧ (True ∧ (True ∧ (True ∧ (True ∧ (True ∧ True)))))))) by kernel_rfl) ⟨⟨⟨trivial, trivial⟩, ⟨⟨⟨h1, trivial⟩, ⟨⟨trivial, trivial⟩, trivial⟩⟩, ⟨trivial, ⟨⟨⟨trivial, trivial⟩, ⟨⟨trivial, trivial⟩, ⟨⟨trivial, trivial⟩, ⟨⟨trivial, trivial⟩, trivial⟩⟩⟩⟩, ⟨⟨⟨trivial, trivial⟩, ⟨⟨trivial, ⟨trivial, ⟨trivial, ⟨trivial, ⟨h2, trivial⟩⟩⟩⟩⟩, ⟨⟨trivial, trivial⟩, trivial⟩⟩⟩, ⟨⟨⟨trivial, trivial⟩, ⟨⟨trivial, trivial⟩, ⟨⟨trivial, trivial⟩, ⟨⟨trivial, ⟨trivial, ⟨trivial, ⟨trivial, ⟨trivial, ⟨h3, trivial⟩⟩⟩⟩⟩⟩, ⟨⟨trivial, trivial⟩, trivial⟩⟩⟩⟩⟩, ⟨⟨⟨trivial, trivial⟩, ⟨⟨trivial, trivial⟩, ⟨⟨trivial, ⟨trivial, ⟨trivial, ⟨trivial, ⟨h4, trivial⟩⟩⟩⟩⟩, ⟨⟨trivial, trivial⟩, ⟨⟨trivial, trivial⟩, ⟨⟨trivial, trivial⟩, ⟨⟨trivial, trivial⟩, ⟨⟨trivial, trivial⟩, ⟨⟨trivial, trivial⟩, ⟨⟨trivial, trivial⟩, trivial⟩⟩⟩⟩⟩⟩⟩⟩⟩⟩, ⟨⟨⟨trivial, trivial⟩, ⟨⟨trivial, trivial⟩, ⟨⟨trivial, trivial⟩, ⟨⟨trivial, ⟨trivial, trivial⟩⟩, ⟨⟨trivial, ⟨trivial, trivial⟩⟩, ⟨⟨trivial, ⟨trivial, trivial⟩⟩, ⟨⟨trivial, ⟨trivial, ⟨trivial, trivial⟩⟩⟩, ⟨⟨trivial, ⟨h5, trivial⟩⟩, ⟨⟨trivial, trivial⟩, ⟨⟨trivial, ⟨trivial, trivial⟩⟩, ⟨⟨trivial, ⟨trivial, trivial⟩⟩, ⟨⟨trivial, ⟨h6, trivial⟩⟩, ⟨trivial, ⟨trivial, ⟨trivial, ⟨trivial, ⟨trivial, ⟨⟨trivial, ⟨trivial, ⟨trivial, trivial⟩⟩⟩, ⟨⟨trivial, ⟨trivial, trivial⟩⟩, trivial⟩⟩⟩⟩⟩⟩⟩⟩⟩⟩⟩⟩⟩⟩⟩⟩⟩⟩⟩, ⟨trivial, ⟨⟨trivial, trivial⟩, trivial⟩⟩⟩⟩⟩⟩⟩⟩⟩⟩, ⟨trivial, ⟨trivial, ⟨trivial, ⟨trivial, ⟨trivial, ⟨trivial, trivial⟩⟩⟩⟩⟩⟩⟩ ht
theorem sax_0 (q : QM) (h1 : (decide (iN q.i < iN (List.map (AV.int IntKind.i64) q.o).length) = false)) {post : Exit → St → Prop} (ht : T Try.prog 0 (.loop (loopC (bodyOf Try.f4) 1)) (St.mk 102 [(1, AV.lst (List.map (AV.int IntKind.i64) q.W)), (6, AV.lst (gL q.g)), (7, AV.lst (boL q.s)), (8, AV.int IntKind.i64 (iN q.o.length)), (12, AV.nils), (13, AV.int IntKind.i64 0)] []) (TK Try.prog 0 post (loopK (bodyOf Try.f4) 1))) : ∃ o' st' q', go2 Try.prog ({ dec := [(54, false)], els := eSh q, calls := mkS q, unroll := false } : HT) 0 4000 (loopC (bodyOf Try.f4) 0) (loopK (bodyOf Try.f4) 0) (la4 q) = some (o', st', q') ∧ q' ∧ Go.AX.Rest Try.prog 0 post st' o' :=
  endR_spec (σ := []) (fz := []) (vars := [1,6,7,8,12,13]) (show endR 0 [] [] [1,6,7,8,12,13] (go2 Try.prog ({ dec := [(54, false)], els := eSh q, calls := mkS q, unroll := false } : HT) 0 4000 (loopC (bodyOf Try.f4) 0) (loopK (bodyOf Try.f4) 0) (la4 q)) = some (loopC (bodyOf Try.f4) 1, loopK (bodyOf Try.f4) 1, St.mk 102 [(1, AV.lst (List.map (AV.int IntKind.i64) q.W)), (6, AV.lst (gL q.g)), (7, AV.lst (boL q.s)), (8, AV.int IntKind.i64 (iN q.o.length)), (12, AV.nils), (13, AV.int IntKind.i64 0)] [], (((((True ∧ True) ∧ ((True ∧ True) ∧ ((True ∧ True) ∧ ((True ∧ (True ∧ True)) ∧ True)))) ∧ ((type_of% h1) ∧ True)) ∧ ((True ∧ True) ∧ ((True ∧ True) ∧ True))) ∧ (True ∧ (True ∧ (True ∧ (True ∧ (True ∧ (True ∧ True)))))))) by kernel_rfl) ⟨⟨⟨⟨⟨trivial, trivial⟩, ⟨⟨trivial, trivial⟩, ⟨⟨trivial, trivial⟩, ⟨⟨trivial, ⟨trivial, trivial⟩⟩, trivial⟩⟩⟩⟩, ⟨h1, trivial⟩⟩, ⟨⟨trivial, trivial⟩, ⟨⟨trivial, trivial⟩, trivial⟩⟩⟩, ⟨trivial, ⟨trivial, ⟨trivial, ⟨trivial, ⟨trivial, ⟨trivial, trivial⟩⟩⟩⟩⟩⟩⟩ ht
theorem sar_0 (q : QM) (h1 : (decide (iN q.i < iN (List.map (AV.int IntKind.i64) q.o).length) = true)) (h2 : (∀ (e : AV), e ∈ List.map (AV.int IntKind.i64) q.o → e.cells.length = 1)) (h3 : (0 ≤ iN q.i)) (h4 : (iN q.i ≤ iN (List.map (AV.int IntKind.i64) q.o).length)) (h5 : (iN (List.map (AV.int IntKind.i64) q.o).length ≤ iN (List.map (AV.int IntKind.i64) q.o).length)) (h6 : ((List.map (AV.int IntKind.i64) q.o)[(iN q.i).toNat]? = some (AV.int IntKind.i64 q.x))) (h7 : (CT Try.prog 19 [] [AV.lst (List.take ((iN q.i).toNat - Int.toNat 0) (List.drop (Int.toNat 0) (List.map (AV.int IntKind.i64) q.o))), AV.int IntKind.i64 q.x] [] (AV.bool false))) {post : Exit → St → Prop} {R : St → Prop} (hR : ∀ st, Ren 0 st (St.mk 102 [(1, AV.lst (List.map (AV.int IntKind.i64) q.W)), (6, AV.lst (gL q.g)), (7, AV.lst (boL q.s)), (8, AV.int IntKind.i64 (iN q.o.length)), (9, AV.lst (List.map (AV.int IntKind.i64) q.o)), (11, AV.int IntKind.i64 (IntKind.i64.wrap (iN q.i + 1)))] []) → R st) : ∃ o' st' q', go Try.prog ({ dec := [(54, true)], els := eSh q, calls := mkS q, unroll := false } : HT) 0 4000 (.inl (loopC (bodyOf Try.f4) 0)) [] (la4 q) = some (o', st', q') ∧ q' ∧ Go.AX.Rest Try.prog 0 (andThen R post) st' o' :=
  endN_spec (σ := []) (fz := []) (vars := [1,6,7,8,9,11]) (show endN 0 [] [] [1,6,7,8,9,11] (go Try.prog ({ dec := [(54, true)], els := eSh q, calls := mkS q, unroll := false } : HT) 0 4000 (.inl (loopC (bodyOf Try.f4) 0)) [] (la4 q)) = some (St.mk 102 [(1, AV.lst (List.map (AV.int IntKind.i64) q.W)), (6, AV.lst (gL q.g)), (7, AV.lst (boL q.s)), (8, AV.int IntKind.i64 (iN q.o.length)), (9, AV.lst (List.map (AV.int IntKind.i64) q.o)), (11, AV.int IntKind.i64 (IntKind.i64.wrap (iN q.i + 1)))] [], ((((True ∧ True) ∧ ((True ∧ True) ∧ ((True ∧ True) ∧ ((True ∧ (True ∧ True)) ∧ True)))) ∧ ((type_of% h1) ∧ (((True ∧ True) ∧ ((True ∧ True) ∧ ((True ∧ (True ∧ ((type_of% h2) ∧ (((0 : Int) ≤ (0 : Int)) ∧ ((type_of% h3) ∧ ((type_of% h4) ∧ (type_of% h5))))))) ∧ ((True ∧ True) ∧ ((True ∧ True) ∧ ((True ∧ (True ∧ ((type_of% h3) ∧ (type_of% h6)))) ∧ ((True ∧ True) ∧ ((True ∧ (True ∧ (True ∧ (True ∧ ((type_of% h7) ∧ True))))) ∧ True)))))))) ∧ (True ∧ (((True ∧ True) ∧ ((True ∧ True) ∧ ((True ∧ True) ∧ True))) ∧ True))))) ∧ (True ∧ (True ∧ (True ∧ (True ∧ (True ∧ (True ∧ True)))))))) by kernel_rfl) ⟨⟨⟨⟨trivial, trivial⟩, ⟨⟨trivial, trivial⟩, ⟨⟨trivial, trivial⟩, ⟨⟨trivial, ⟨trivial, trivial⟩⟩, trivial⟩⟩⟩⟩, ⟨h1, ⟨⟨⟨trivial, trivial⟩, ⟨⟨trivial, trivial⟩, ⟨⟨trivial, ⟨trivial, ⟨h2, ⟨(by first | exact Nat.le_of_ble_eq_true rfl | decide), ⟨h3, ⟨h4, h5⟩⟩⟩⟩⟩⟩, ⟨⟨trivial, trivial⟩, ⟨⟨trivial, trivial⟩, ⟨⟨trivial, ⟨trivial, ⟨h3, h6⟩⟩⟩, ⟨⟨trivial, trivial⟩, ⟨⟨trivial, ⟨trivial, ⟨trivial, ⟨trivial, ⟨h7, trivial⟩⟩⟩⟩⟩, trivial⟩⟩⟩⟩⟩⟩⟩⟩, ⟨trivial, ⟨⟨⟨trivial, trivial⟩, ⟨⟨trivial, trivial⟩, ⟨⟨trivial, trivial⟩, trivial⟩⟩⟩, trivial⟩⟩⟩⟩⟩, ⟨trivial, ⟨trivial, ⟨trivial, ⟨trivial, ⟨trivial, ⟨trivial, trivial⟩⟩⟩⟩⟩⟩⟩ hR
theorem sbz_0 (q : QM) (h1 : (decide (iN q.i < iN (List.map (AV.int IntKind.i64) q.W).length) = true)) (h2 : (decide (iN q.i < 12) = true)) (h3 : (decide (0 < iN (gL q.g).length) = true)) (h4 : (0 ≤ iN q.i)) (h5 : ((List.map (AV.int IntKind.i64) q.W)[(iN q.i).toNat]? = some (AV.int IntKind.i64 q.x))) (h6 : (CT Try.prog 20 [] [AV.int IntKind.i64 q.x, AV.int IntKind.i64 (iN (gL q.g).length)] [] (AV.int IntKind.i64 q.y))) (h7 : (1 ≤ [AV.int IntKind.i64 q.y].length)) (h8 : ([AV.int IntKind.i64 q.y].length ≤ 9223372036854775807)) (h9 : ([AV.int IntKind.i64 q.y].length * 8 ≤ 140737488355328)) {post : Exit → St → Prop} {R : St → Prop} (hR : ∀ st, Ren 0 st (St.mk 102 [(1, AV.lst (List.map (AV.int IntKind.i64) q.W)), (6, AV.lst (gL q.g)), (7, AV.lst (boL q.s)), (8, AV.int IntKind.i64 (iN q.o.length)), (12, AV.sl 0 0 [AV.int IntKind.i64 q.y].length), (13, AV.int IntKind.i64 (IntKind.i64.wrap (iN q.i + 1)))] [some (Blk.mk [AV.int IntKind.i64 q.y] 1 true true)]) → R st) : ∃ o' st' q', go Try.prog ({ dec := [(68, true), (71, true), (76, true)], els := eSh q, calls := mkS q, unroll := false } : HT) 0 4000 (.inl (loopC (bodyOf Try.f4) 1)) [] (lz4 q) = some (o', st', q') ∧ q' ∧ Go.AX.Rest Try.prog 0 (andThen R post) st' o' :=
  endN_spec (σ := [1]) (fz := []) (vars := [1,6,7,8,12,13]) (show endN 0 [1] [] [1,6,7,8,12,13] (go Try.prog ({ dec := [(68, true), (71, true), (76, true)], els := eSh q, calls := mkS q, unroll := false } : HT) 0 4000 (.inl (loopC (bodyOf Try.f4) 1)) [] (lz4 q)) = some (St.mk 102 [(1, AV.lst (List.map (AV.int IntKind.i64) q.W)), (6, AV.lst (gL q.g)), (7, AV.lst (boL q.s)), (8, AV.int IntKind.i64 (iN q.o.length)), (12, AV.sl 0 0 [AV.int IntKind.i64 q.y].length), (13, AV.int IntKind.i64 (IntKind.i64.wrap (iN q.i + 1)))] [some (Blk.mk [AV.int IntKind.i64 q.y] 1 true true)], ((((True ∧ True) ∧ ((True ∧ True) ∧ ((True ∧ True) ∧ ((True ∧ (True ∧ True)) ∧ (((type_of% h1) ∧ True) ∧ ((True ∧ (True ∧ True)) ∧ ((True ∧ (True ∧ True)) ∧ ((True ∧ ((type_of% h2) ∧ True)) ∧ ((True ∧ True) ∧ ((True ∧ (True ∧ True)) ∧ ((True ∧ (True ∧ True)) ∧ ((True ∧ (True ∧ True)) ∧ ((True ∧ ((type_of% h3) ∧ True)) ∧ True))))))))))))) ∧ (True ∧ (((True ∧ True) ∧ ((True ∧ True) ∧ ((True ∧ True) ∧ ((True ∧ (True ∧ ((type_of% h4) ∧ (type_of% h5)))) ∧ ((True ∧ True) ∧ ((True ∧ True) ∧ ((True ∧ True) ∧ ((True ∧ (True ∧ (True ∧ (True ∧ ((type_of% h6) ∧ True))))) ∧ ((True ∧ True) ∧ ((True ∧ (True ∧ (((nat_lit 1 = nat_lit 1) ∧ (type_of% h7)) ∧ ((type_of% h8) ∧ (type_of% h9))))) ∧ ((True ∧ True) ∧ True))))))))))) ∧ (((True ∧ True) ∧ ((True ∧ True) ∧ ((True ∧ True) ∧ True))) ∧ True)))) ∧ (True ∧ (True ∧ (True ∧ (True ∧ (True ∧ (True ∧ (True ∧ True))))))))) by kernel_rfl) ⟨⟨⟨⟨trivial, trivial⟩, ⟨⟨trivial, trivial⟩, ⟨⟨trivial, trivial⟩, ⟨⟨trivial, ⟨trivial, trivial⟩⟩, ⟨⟨h1, trivial⟩, ⟨⟨trivial, ⟨trivial, trivial⟩⟩, ⟨⟨trivial, ⟨trivial, trivial⟩⟩, ⟨⟨trivial, ⟨h2, trivial⟩⟩, ⟨⟨trivial, trivial⟩, ⟨⟨trivial, ⟨trivial, trivial⟩⟩, ⟨⟨trivial, ⟨trivial, trivial⟩⟩, ⟨⟨trivial, ⟨trivial, trivial⟩⟩, ⟨⟨trivial, ⟨h3, trivial⟩⟩, trivial⟩⟩⟩⟩⟩⟩⟩⟩⟩⟩⟩⟩⟩, ⟨trivial, ⟨⟨⟨trivial, trivial⟩, ⟨⟨trivial, trivial⟩, ⟨⟨trivial, trivial⟩, ⟨⟨trivial, ⟨trivial, ⟨h4, h5⟩⟩⟩, ⟨⟨trivial, trivial⟩, ⟨⟨trivial, trivial⟩, ⟨⟨trivial, trivial⟩, ⟨⟨trivial, ⟨trivial, ⟨trivial, ⟨trivial, ⟨h6, trivial⟩⟩⟩⟩⟩, ⟨⟨trivial, trivial⟩, ⟨⟨trivial, ⟨trivial, ⟨⟨(by first | decide | exact Int.NonNeg.mk _), h7⟩, ⟨h8, h9⟩⟩⟩⟩, ⟨⟨trivial, trivial⟩, trivial⟩⟩⟩⟩⟩⟩⟩⟩⟩⟩⟩, ⟨⟨⟨trivial, trivial⟩, ⟨⟨trivial, trivial⟩, ⟨⟨trivial, trivial⟩, trivial⟩⟩⟩, trivial⟩⟩⟩⟩, ⟨trivial, ⟨trivial, ⟨trivial, ⟨trivial, ⟨trivial, ⟨trivial, ⟨trivial, trivial⟩⟩⟩⟩⟩⟩⟩⟩ hR
theorem sbr_0 (q : QM) (h1 : (decide (iN q.i < iN (List.map (AV.int IntKind.i64) q.W).length) = true)) (h2 : (decide (iN q.i < 12) = true)) (h3 : (decide (0 < iN (gL q.g).length) = true)) (h4 : (0 ≤ iN q.i)) (h5 : ((List.map (AV.int IntKind.i64) q.W)[(iN q.i).toNat]? = some (AV.int IntKind.i64 q.x))) (h6 : (CT Try.prog 20 [] [AV.int IntKind.i64 q.x, AV.int IntKind.i64 (iN (gL q.g).length)] [] (AV.int IntKind.i64 q.y))) (h7 : ((List.map (AV.int IntKind.i64) q.t).length = q.t.length)) (h8 : (1 ≤ [AV.int IntKind.i64 q.y].length)) (h9 : ((List.map (AV.int IntKind.i64) q.t).length + [AV.int IntKind.i64 q.y].length ≤ 9223372036854775807)) (h10 : (((List.map (AV.int IntKind.i64) q.t).length + [AV.int IntKind.i64 q.y].length) * 8 ≤ 140737488355328)) {post : Exit → St → Prop} {R : St → Prop} (hR : ∀ st, Ren 0 st (St.mk 102 [(1, AV.lst (List.map (AV.int IntKind.i64) q.W)), (6, AV.lst (gL q.g)), (7, AV.lst (boL q.s)), (8, AV.int IntKind.i64 (iN q.o.length)), (12, AV.sl 0 0 ((List.map (AV.int IntKind.i64) q.t).length + [AV.int IntKind.i64 q.y].length)), (13, AV.int IntKind.i64 (IntKind.i64.wrap (iN q.i + 1)))] [some (Blk.mk (List.map (AV.int IntKind.i64) q.t ++ [AV.int IntKind.i64 q.y]) 1 true true)]) → R st) : ∃ o' st' q', go Try.prog ({ dec := [(68, true), (71, true), (76, true)], els := eSh q, calls := mkS q, unroll := false } : HT) 0 4000 (.inl (loopC (bodyOf Try.f4) 1)) [] (lb4 q) = some (o', st', q') ∧ q' ∧ Go.AX.Rest Try.prog 0 (andThen R post) st' o' :=
  endN_spec (σ := [2]) (fz := []) (vars := [1,6,7,8,12,13]) (show endN 0 [2] [] [1,6,7,8,12,13] (go Try.prog ({ dec := [(68, true), (71, true), (76, true)], els := eSh q, calls := mkS q, unroll := false } : HT) 0 4000 (.inl (loopC (bodyOf Try.f4) 1)) [] (lb4 q)) = some (St.mk 102 [(1, AV.lst (List.map (AV.int IntKind.i64) q.W)), (6, AV.lst (gL q.g)), (7, AV.lst (boL q.s)), (8, AV.int IntKind.i64 (iN q.o.length)), (12, AV.sl 0 0 ((List.map (AV.int IntKind.i64) q.t).length + [AV.int IntKind.i64 q.y].length)), (13, AV.int IntKind.i64 (IntKind.i64.wrap (iN q.i + 1)))] [some (Blk.mk (List.map (AV.int IntKind.i64) q.t ++ [AV.int IntKind.i64 q.y]) 1 true true)], ((((True ∧ True) ∧ ((True ∧ True) ∧ ((True ∧ True) ∧ ((True ∧ (True ∧ True)) ∧ (((type_of% h1) ∧ True) ∧ ((True ∧ (True ∧ True)) ∧ ((True ∧ (True ∧ True)) ∧ ((True ∧ ((type_of% h2) ∧ True)) ∧ ((True ∧ True) ∧ ((True ∧ (True ∧ True)) ∧ ((True ∧ (True ∧ True)) ∧ ((True ∧ (True ∧ True)) ∧ ((True ∧ ((type_of% h3) ∧ True)) ∧ True))))))))))))) ∧ (True ∧ (((True ∧ True) ∧ ((True ∧ True) ∧ ((True ∧ True) ∧ ((True ∧ (True ∧ ((type_of% h4) ∧ (type_of% h5)))) ∧ ((True ∧ True) ∧ ((True ∧ True) ∧ ((True ∧ True) ∧ ((True ∧ (True ∧ (True ∧ (True ∧ ((type_of% h6) ∧ True))))) ∧ ((True ∧ True) ∧ ((True ∧ (True ∧ ((type_of% h7) ∧ (((nat_lit 1 = nat_lit 1) ∧ (type_of% h8)) ∧ ((type_of% h9) ∧ (type_of% h10)))))) ∧ ((True ∧ True) ∧ True))))))))))) ∧ (((True ∧ True) ∧ ((True ∧ True) ∧ ((True ∧ True) ∧ True))) ∧ True)))) ∧ (True ∧ (True ∧ (True ∧ (True ∧ (True ∧ (True ∧ (True ∧ True))))))))) by kernel_rfl) ⟨⟨⟨⟨trivial, trivial⟩, ⟨⟨trivial, trivial⟩, ⟨⟨trivial, trivial⟩, ⟨⟨trivial, ⟨trivial, trivial⟩⟩, ⟨⟨h1, trivial⟩, ⟨⟨trivial, ⟨trivial, trivial⟩⟩, ⟨⟨trivial, ⟨trivial, trivial⟩⟩, ⟨⟨trivial, ⟨h2, trivial⟩⟩, ⟨⟨trivial, trivial⟩, ⟨⟨trivial, ⟨trivial, trivial⟩⟩, ⟨⟨trivial, ⟨trivial, trivial⟩⟩, ⟨⟨trivial, ⟨trivial, trivial⟩⟩, ⟨⟨trivial, ⟨h3, trivial⟩⟩, trivial⟩⟩⟩⟩⟩⟩⟩⟩⟩⟩⟩⟩⟩, ⟨trivial, ⟨⟨⟨trivial, trivial⟩, ⟨⟨trivial, trivial⟩, ⟨⟨trivial, trivial⟩, ⟨⟨trivial, ⟨trivial, ⟨h4, h5⟩⟩⟩, ⟨⟨trivial, trivial⟩, ⟨⟨trivial, trivial⟩, ⟨⟨trivial, trivial⟩, ⟨⟨trivial, ⟨trivial, ⟨trivial, ⟨trivial, ⟨h6, trivial⟩⟩⟩⟩⟩, ⟨⟨trivial, trivial⟩, ⟨⟨trivial, ⟨trivial, ⟨h7, ⟨⟨(by first | decide | exact Int.NonNeg.mk _), h8⟩, ⟨h9, h10⟩⟩⟩⟩⟩, ⟨⟨trivial, trivial⟩, trivial⟩⟩⟩⟩⟩⟩⟩⟩⟩⟩⟩, ⟨⟨⟨trivial, trivial⟩, ⟨⟨trivial, trivial⟩, ⟨⟨trivial, trivial⟩, trivial⟩⟩⟩, trivial⟩⟩⟩⟩, ⟨trivial, ⟨trivial, ⟨trivial, ⟨trivial, ⟨trivial, ⟨trivial, ⟨trivial, trivial⟩⟩⟩⟩⟩⟩⟩⟩ hR
theorem sza_2 (q : QM) (h1 : (decide (iN q.i < iN (List.map (AV.int IntKind.i64) q.W).length) = false)) (h2 : (CT Try.prog 17 [] [AV.lst (gL q.g), AV.lst (boL q.s), AV.nils] [] (AV.bool q.b))) (h3 : (q.b = false)) : ∃ o' st' q', go2 Try.prog ({ dec := [(68, false), (93, false)], els := eSh q, calls := mkS q, unroll := false } : HT) 0 4000 (loopC (bodyOf Try.f4) 1) (loopK (bodyOf Try.f4) 1) (lz4 q) = some (o', st', q') ∧ q' ∧ Go.AX.Rest Try.prog 0 (Fin Try.prog Try.f4 0 [] (AV.bool true)) st' o' :=
  endF_spec (σ := []) (fz := []) (show endF Try.prog Try.f4 0 [] [] (go2 Try.prog ({ dec := [(68, false), (93, false)], els := eSh q, calls := mkS q, unroll := false } : HT) 0 4000 (loopC (bodyOf Try.f4) 1) (loopK (bodyOf Try.f4) 1) (lz4 q)) = some ([], AV.bool true, (((((True ∧ True) ∧ ((True ∧ True) ∧ ((True ∧ True) ∧ ((True ∧ (True ∧ True)) ∧ (((type_of% h1) ∧ True) ∧ (True ∧ (True ∧ ((True ∧ (True ∧ True)) ∧ ((True ∧ True) ∧ (True ∧ (True ∧ (True ∧ ((True ∧ (True ∧ True)) ∧ True))))))))))))) ∧ (True ∧ True)) ∧ (((True ∧ True) ∧ ((True ∧ True) ∧ ((True ∧ True) ∧ ((True ∧ (True ∧ (True ∧ (True ∧ (True ∧ (True ∧ ((type_of% h2) ∧ True))))))) ∧ True)))) ∧ ((type_of% h3) ∧ ((True ∧ True) ∧ True)))) ∧ (True ∧ True))) by kernel_rfl) ⟨⟨⟨⟨⟨trivial, trivial⟩, ⟨⟨trivial, trivial⟩, ⟨⟨trivial, trivial⟩, ⟨⟨trivial, ⟨trivial, trivial⟩⟩, ⟨⟨h1, trivial⟩, ⟨trivial, ⟨trivial, ⟨⟨trivial, ⟨trivial, trivial⟩⟩, ⟨⟨trivial, trivial⟩, ⟨trivial, ⟨trivial, ⟨trivial, ⟨⟨trivial, ⟨trivial, trivial⟩⟩, trivial⟩⟩⟩⟩⟩⟩⟩⟩⟩⟩⟩⟩⟩, ⟨trivial, trivial⟩⟩, ⟨⟨⟨trivial, trivial⟩, ⟨⟨trivial, trivial⟩, ⟨⟨trivial, trivial⟩, ⟨⟨trivial, ⟨trivial, ⟨trivial, ⟨trivial, ⟨trivial, ⟨trivial, ⟨h2, trivial⟩⟩⟩⟩⟩⟩⟩, trivial⟩⟩⟩⟩, ⟨h3, ⟨⟨trivial, trivial⟩, trivial⟩⟩⟩⟩, ⟨trivial, trivial⟩⟩
theorem szb_2 (q : QM) (h1 : (decide (iN q.i < iN (List.map (AV.int IntKind.i64) q.W).length) = true)) (h2 : (decide (iN q.i < 12) = false)) (h3 : (CT Try.prog 17 [] [AV.lst (gL q.g), AV.lst (boL q.s), AV.nils] [] (AV.bool q.b))) (h4 : (q.b = false)) : ∃ o' st' q', go2 Try.prog ({ dec := [(68, true), (71, false), (93, false)], els := eSh q, calls := mkS q, unroll := false } : HT) 0 4000 (loopC (bodyOf Try.f4) 1) (loopK (bodyOf Try.f4) 1) (lz4 q) = some (o', st', q') ∧ q' ∧ Go.AX.Rest Try.prog 0 (Fin Try.prog Try.f4 0 [] (AV.bool true)) st' o' :=
  endF_spec (σ := []) (fz := []) (show endF Try.prog Try.f4 0 [] [] (go2 Try.prog ({ dec := [(68, true), (71, false), (93, false)], els := eSh q, calls := mkS q, unroll := false } : HT) 0 4000 (loopC (bodyOf Try.f4) 1) (loopK (bodyOf Try.f4) 1) (lz4 q)) = some ([], AV.bool true, (((((True ∧ True) ∧ ((True ∧ True) ∧ ((True ∧ True) ∧ ((True ∧ (True ∧ True)) ∧ (((type_of% h1) ∧ True) ∧ ((True ∧ (True ∧ True)) ∧ ((True ∧ (True ∧ True)) ∧ ((True ∧ ((type_of% h2) ∧ True)) ∧ ((True ∧ True) ∧ (True ∧ (True ∧ (True ∧ ((True ∧ (True ∧ True)) ∧ True))))))))))))) ∧ (True ∧ True)) ∧ (((True ∧ True) ∧ ((True ∧ True) ∧ ((True ∧ True) ∧ ((True ∧ (True ∧ (True ∧ (True ∧ (True ∧ (True ∧ ((type_of% h3) ∧ True))))))) ∧ True)))) ∧ ((type_of% h4) ∧ ((True ∧ True) ∧ True)))) ∧ (True ∧ True))) by kernel_rfl) ⟨⟨⟨⟨⟨trivial, trivial⟩, ⟨⟨trivial, trivial⟩, ⟨⟨trivial, trivial⟩, ⟨⟨trivial, ⟨trivial, trivial⟩⟩, ⟨⟨h1, trivial⟩, ⟨⟨trivial, ⟨trivial, trivial⟩⟩, ⟨⟨trivial, ⟨trivial, trivial⟩⟩, ⟨⟨trivial, ⟨h2, trivial⟩⟩, ⟨⟨trivial, trivial⟩, ⟨trivial, ⟨trivial, ⟨trivial, ⟨⟨trivial, ⟨trivial, trivial⟩⟩, trivial⟩⟩⟩⟩⟩⟩⟩⟩⟩⟩⟩⟩⟩, ⟨trivial, trivial⟩⟩, ⟨⟨⟨trivial, trivial⟩, ⟨⟨trivial, trivial⟩, ⟨⟨trivial, trivial⟩, ⟨⟨trivial, ⟨trivial, ⟨trivial, ⟨trivial, ⟨trivial, ⟨trivial, ⟨h3, trivial⟩⟩⟩⟩⟩⟩⟩, trivial⟩⟩⟩⟩, ⟨h4, ⟨⟨trivial, trivial⟩, trivial⟩⟩⟩⟩, ⟨trivial, trivial⟩⟩
theorem szc_2 (q : QM) (h1 : (decide (iN q.i < iN (List.map (AV.int IntKind.i64) q.W).length) = true)) (h2 : (decide (iN q.i < 12) = true)) (h3 : (decide (0 < iN (gL q.g).length) = false)) (h4 : (CT Try.prog 17 [] [AV.lst (gL q.g), AV.lst (boL q.s), AV.nils] [] (AV.bool q.b))) (h5 : (q.b = false)) : ∃ o' st' q', go2 Try.prog ({ dec := [(68, true), (71, true), (76, false), (93, false)], els := eSh q, calls := mkS q, unroll := false } : HT) 0 4000 (loopC (bodyOf Try.f4) 1) (loopK (bodyOf Try.f4) 1) (lz4 q) = some (o', st', q') ∧ q' ∧ Go.AX.Rest Try.prog 0 (Fin Try.prog Try.f4 0 [] (AV.bool true)) st' o' :=
  endF_spec (σ := []) (fz := []) (show endF Try.prog Try.f4 0 [] [] (go2 Try.prog ({ dec := [(68, true), (71, true), (76, false), (93, false)], els := eSh q, calls := mkS q, unroll := false } : HT) 0 4000 (loopC (bodyOf Try.f4) 1) (loopK (bodyOf Try.f4) 1) (lz4 q)) = some ([], AV.bool true, (((((True ∧ True) ∧ ((True ∧ True) ∧ ((True ∧ True) ∧ ((True ∧ (True ∧ True)) ∧ (((type_of% h1) ∧ True) ∧ ((True ∧ (True ∧ True)) ∧ ((True ∧ (True ∧ True)) ∧ ((True ∧ ((type_of% h2) ∧ True)) ∧ ((True ∧ True) ∧ ((True ∧ (True ∧ True)) ∧ ((True ∧ (True ∧ True)) ∧ ((True ∧ (True ∧ True)) ∧ ((True ∧ ((type_of% h3) ∧ True)) ∧ True))))))))))))) ∧ (True ∧ True)) ∧ (((True ∧ True) ∧ ((True ∧ True) ∧ ((True ∧ True) ∧ ((True ∧ (True ∧ (True ∧ (True ∧ (True ∧ (True ∧ ((type_of% h4) ∧ True))))))) ∧ True)))) ∧ ((type_of% h5) ∧ ((True ∧ True) ∧ True)))) ∧ (True ∧ True))) by kernel_rfl) ⟨⟨⟨⟨⟨trivial, trivial⟩, ⟨⟨trivial, trivial⟩, ⟨⟨trivial, trivial⟩, ⟨⟨trivial, ⟨trivial, trivial⟩⟩, ⟨⟨h1, trivial⟩, ⟨⟨trivial, ⟨trivial, trivial⟩⟩, ⟨⟨trivial, ⟨trivial, trivial⟩⟩, ⟨⟨trivial, ⟨h2, trivial⟩⟩, ⟨⟨trivial, trivial⟩, ⟨⟨trivial, ⟨trivial, trivial⟩⟩, ⟨⟨trivial, ⟨trivial, trivial⟩⟩, ⟨⟨trivial, ⟨trivial, trivial⟩⟩, ⟨⟨trivial, ⟨h3, trivial⟩⟩, trivial⟩⟩⟩⟩⟩⟩⟩⟩⟩⟩⟩⟩⟩, ⟨trivial, trivial⟩⟩, ⟨⟨⟨trivial, trivial⟩, ⟨⟨trivial, trivial⟩, ⟨⟨trivial, trivial⟩, ⟨⟨trivial, ⟨trivial, ⟨trivial, ⟨trivial, ⟨trivial, ⟨trivial, ⟨h4, trivial⟩⟩⟩⟩⟩⟩⟩, trivial⟩⟩⟩⟩, ⟨h5, ⟨⟨trivial, trivial⟩, trivial⟩⟩⟩⟩, ⟨trivial, trivial⟩⟩
theorem sya_0 (q : QM) (h1 : (decide (iN q.i < iN (List.map (AV.int IntKind.i64) q.W).length) = false)) (h2 : (q.t.length = (List.map (AV.int IntKind.i64) q.t).length)) (h3 : (CT Try.prog 17 [] [AV.lst (gL q.g), AV.lst (boL q.s), AV.lst (List.map (AV.int IntKind.i64) q.t)] [] (AV.bool q.b))) (h4 : (q.b = true)) (h5 : (decide (0 < iN q.o.length) = true)) : ∃ o' st' q', go2 Try.prog ({ dec := [(68, false), (95, true), (93, true)], els := eSh q, calls := mkS q, unroll := false } : HT) 0 4000 (loopC (bodyOf Try.f4) 1) (loopK (bodyOf Try.f4) 1) (lb4 q) = some (o', st', q') ∧ q' ∧ Go.AX.Rest Try.prog 0 (Fin Try.prog Try.f4 0 [] (AV.bool (decide (iN q.o.length ≤ iN q.t.length)))) st' o' :=
  endF_spec (σ := []) (fz := [0]) (show endF Try.prog Try.f4 0 [] [0] (go2 Try.prog ({ dec := [(68, false), (95, true), (93, true)], els := eSh q, calls := mkS q, unroll := false } : HT) 0 4000 (loopC (bodyOf Try.f4) 1) (loopK (bodyOf Try.f4) 1) (lb4 q)) = some ([], AV.bool (decide (iN q.o.length ≤ iN q.t.length)), (((((True ∧ True) ∧ ((True ∧ True) ∧ ((True ∧ True) ∧ ((True ∧ (True ∧ True)) ∧ (((type_of% h1) ∧ True) ∧ (True ∧ (True ∧ ((True ∧ (True ∧ True)) ∧ ((True ∧ True) ∧ (True ∧ (True ∧ (True ∧ ((True ∧ (True ∧ True)) ∧ True))))))))))))) ∧ (True ∧ True)) ∧ (((True ∧ True) ∧ ((True ∧ True) ∧ ((True ∧ True) ∧ ((True ∧ (True ∧ (True ∧ (True ∧ (True ∧ ((type_of% h2) ∧ ((type_of% h3) ∧ (∀ (blk : Blk), blk ∈ [] → ImmB blk)))))))) ∧ True)))) ∧ ((type_of% h4) ∧ (((True ∧ True) ∧ ((True ∧ True) ∧ (((type_of% h5) ∧ True) ∧ ((True ∧ (True ∧ True)) ∧ ((True ∧ (True ∧ True)) ∧ ((True ∧ (True ∧ True)) ∧ ((True ∧ (True ∧ (True ∧ True))) ∧ ((True ∧ (True ∧ True)) ∧ ((True ∧ True) ∧ True))))))))) ∧ True)))) ∧ (True ∧ True))) by kernel_rfl) ⟨⟨⟨⟨⟨trivial, trivial⟩, ⟨⟨trivial, trivial⟩, ⟨⟨trivial, trivial⟩, ⟨⟨trivial, ⟨trivial, trivial⟩⟩, ⟨⟨h1, trivial⟩, ⟨trivial, ⟨trivial, ⟨⟨trivial, ⟨trivial, trivial⟩⟩, ⟨⟨trivial, trivial⟩, ⟨trivial, ⟨trivial, ⟨trivial, ⟨⟨trivial, ⟨trivial, trivial⟩⟩, trivial⟩⟩⟩⟩⟩⟩⟩⟩⟩⟩⟩⟩⟩, ⟨trivial, trivial⟩⟩, ⟨⟨⟨trivial, trivial⟩, ⟨⟨trivial, trivial⟩, ⟨⟨trivial, trivial⟩, ⟨⟨trivial, ⟨trivial, ⟨trivial, ⟨trivial, ⟨trivial, ⟨h2, ⟨h3, (by intro _ h; cases h)⟩⟩⟩⟩⟩⟩⟩, trivial⟩⟩⟩⟩, ⟨h4, ⟨⟨⟨trivial, trivial⟩, ⟨⟨trivial, trivial⟩, ⟨⟨h5, trivial⟩, ⟨⟨trivial, ⟨trivial, trivial⟩⟩, ⟨⟨trivial, ⟨trivial, trivial⟩⟩, ⟨⟨trivial, ⟨trivial, trivial⟩⟩, ⟨⟨trivial, ⟨trivial, ⟨trivial, trivial⟩⟩⟩, ⟨⟨trivial, ⟨trivial, trivial⟩⟩, ⟨⟨trivial, trivial⟩, trivial⟩⟩⟩⟩⟩⟩⟩⟩⟩, trivial⟩⟩⟩⟩, ⟨trivial, trivial⟩⟩
theorem sya_1 (q : QM) (h1 : (decide (iN q.i < iN (List.map (AV.int IntKind.i64) q.W).length) = false)) (h2 : (q.t.length = (List.map (AV.int IntKind.i64) q.t).length)) (h3 : (CT Try.prog 17 [] [AV.lst (gL q.g), AV.lst (boL q.s), AV.lst (List.map (AV.int IntKind.i64) q.t)] [] (AV.bool q.b))) (h4 : (q.b = false)) : ∃ o' st' q', go2 Try.prog ({ dec := [(68, false), (95, true), (93, false)], els := eSh q, calls := mkS q, unroll := false } : HT) 0 4000 (loopC (bodyOf Try.f4) 1) (loopK (bodyOf Try.f4) 1) (lb4 q) = some (o', st', q') ∧ q' ∧ Go.AX.Rest Try.prog 0 (Fin Try.prog Try.f4 0 [] (AV.bool true)) st' o' :=
  endF_spec (σ := []) (fz := [0]) (show endF Try.prog Try.f4 0 [] [0] (go2 Try.prog ({ dec := [(68, false), (95, true), (93, false)], els := eSh q, calls := mkS q, unroll := false } : HT) 0 4000 (loopC (bodyOf Try.f4) 1) (loopK (bodyOf Try.f4) 1) (lb4 q)) = some ([], AV.bool true, (((((True ∧ True) ∧ ((True ∧ True) ∧ ((True ∧ True) ∧ ((True ∧ (True ∧ True)) ∧ (((type_of% h1) ∧ True) ∧ (True ∧ (True ∧ ((True ∧ (True ∧ True)) ∧ ((True ∧ True) ∧ (True ∧ (True ∧ (True ∧ ((True ∧ (True ∧ True)) ∧ True))))))))))))) ∧ (True ∧ True)) ∧ (((True ∧ True) ∧ ((True ∧ True) ∧ ((True ∧ True) ∧ ((True ∧ (True ∧ (True ∧ (True ∧ (True ∧ ((type_of% h2) ∧ ((type_of% h3) ∧ (∀ (blk : Blk), blk ∈ [] → ImmB blk)))))))) ∧ True)))) ∧ ((type_of% h4) ∧ ((True ∧ True) ∧ True)))) ∧ (True ∧ True))) by kernel_rfl) ⟨⟨⟨⟨⟨trivial, trivial⟩, ⟨⟨trivial, trivial⟩, ⟨⟨trivial, trivial⟩, ⟨⟨trivial, ⟨trivial, trivial⟩⟩, ⟨⟨h1, trivial⟩, ⟨trivial, ⟨trivial, ⟨⟨trivial, ⟨trivial, trivial⟩⟩, ⟨⟨trivial, trivial⟩, ⟨trivial, ⟨trivial, ⟨trivial, ⟨⟨trivial, ⟨trivial, trivial⟩⟩, trivial⟩⟩⟩⟩⟩⟩⟩⟩⟩⟩⟩⟩⟩, ⟨trivial, trivial⟩⟩, ⟨⟨⟨trivial, trivial⟩, ⟨⟨trivial, trivial⟩, ⟨⟨trivial, trivial⟩, ⟨⟨trivial, ⟨trivial, ⟨trivial, ⟨trivial, ⟨trivial, ⟨h2, ⟨h3, (by intro _ h; cases h)⟩⟩⟩⟩⟩⟩⟩, trivial⟩⟩⟩⟩, ⟨h4, ⟨⟨trivial, trivial⟩, trivial⟩⟩⟩⟩, ⟨trivial, trivial⟩⟩
theorem syb_0 (q : QM) (h1 : (decide (iN q.i < iN (List.map (AV.int IntKind.i64) q.W).length) = true)) (h2 : (decide (iN q.i < 12) = false)) (h3 : (q.t.length = (List.map (AV.int IntKind.i64) q.t).length)) (h4 : (CT Try.prog 17 [] [AV.lst (gL q.g), AV.lst (boL q.s), AV.lst (List.map (AV.int IntKind.i64) q.t)] [] (AV.bool q.b))) (h5 : (q.b = true)) (h6 : (decide (0 < iN q.o.length) = true)) : ∃ o' st' q', go2 Try.prog ({ dec := [(68, true), (71, false), (95, true), (93, true)], els := eSh q, calls := mkS q, unroll := false } : HT) 0 4000 (loopC (bodyOf Try.f4) 1) (loopK (bodyOf Try.f4) 1) (lb4 q) = some (o', st', q') ∧ q' ∧ Go.AX.Rest Try.prog 0 (Fin Try.prog Try.f4 0 [] (AV.bool (decide (iN q.o.length ≤ iN q.t.length)))) st' o' :=
  endF_spec (σ := []) (fz := [0]) (show endF Try.prog Try.f4 0 [] [0] (go2 Try.prog ({ dec := [(68, true), (71, false), (95, true), (93, true)], els := eSh q, calls := mkS q, unroll := false } : HT) 0 4000 (loopC (bodyOf Try.f4) 1) (loopK (bodyOf Try.f4) 1) (lb4 q)) = some ([], AV.bool (decide (iN q.o.length ≤ iN q.t.length)), (((((True ∧ True) ∧ ((True ∧ True) ∧ ((True ∧ True) ∧ ((True ∧ (True ∧ True)) ∧ (((type_of% h1) ∧ True) ∧ ((True ∧ (True ∧ True)) ∧ ((True ∧ (True ∧ True)) ∧ ((True ∧ ((type_of% h2) ∧ True)) ∧ ((True ∧ True) ∧ (True ∧ (True ∧ (True ∧ ((True ∧ (True ∧ True)) ∧ True))))))))))))) ∧ (True ∧ True)) ∧ (((True ∧ True) ∧ ((True ∧ True) ∧ ((True ∧ True) ∧ ((True ∧ (True ∧ (True ∧ (True ∧ (True ∧ ((type_of% h3) ∧ ((type_of% h4) ∧ (∀ (blk : Blk), blk ∈ [] → ImmB blk)))))))) ∧ True)))) ∧ ((type_of% h5) ∧ (((True ∧ True) ∧ ((True ∧ True) ∧ (((type_of% h6) ∧ True) ∧ ((True ∧ (True ∧ True)) ∧ ((True ∧ (True ∧ True)) ∧ ((True ∧ (True ∧ True)) ∧ ((True ∧ (True ∧ (True ∧ True))) ∧ ((True ∧ (True ∧ True)) ∧ ((True ∧ True) ∧ True))))))))) ∧ True)))) ∧ (True ∧ True))) by kernel_rfl) ⟨⟨⟨⟨⟨trivial, trivial⟩, ⟨⟨trivial, trivial⟩, ⟨⟨trivial, trivial⟩, ⟨⟨trivial, ⟨trivial, trivial⟩⟩, ⟨⟨h1, trivial⟩, ⟨⟨trivial, ⟨trivial, trivial⟩⟩, ⟨⟨trivial, ⟨trivial, trivial⟩⟩, ⟨⟨trivial, ⟨h2, trivial⟩⟩, ⟨⟨trivial, trivial⟩, ⟨trivial, ⟨trivial, ⟨trivial, ⟨⟨trivial, ⟨trivial, trivial⟩⟩, trivial⟩⟩⟩⟩⟩⟩⟩⟩⟩⟩⟩⟩⟩, ⟨trivial, trivial⟩⟩, ⟨⟨⟨trivial, trivial⟩, ⟨⟨trivial, trivial⟩, ⟨⟨trivial, trivial⟩, ⟨⟨trivial, ⟨trivial, ⟨trivial, ⟨trivial, ⟨trivial, ⟨h3, ⟨h4, (by intro _ h; cases h)⟩⟩⟩⟩⟩⟩⟩, trivial⟩⟩⟩⟩, ⟨h5, ⟨⟨⟨trivial, trivial⟩, ⟨⟨trivial, trivial⟩, ⟨⟨h6, trivial⟩, ⟨⟨trivial, ⟨trivial, trivial⟩⟩, ⟨⟨trivial, ⟨trivial, trivial⟩⟩, ⟨⟨trivial, ⟨trivial, trivial⟩⟩, ⟨⟨trivial, ⟨trivial, ⟨trivial, trivial⟩⟩⟩, ⟨⟨trivial, ⟨trivial, trivial⟩⟩, ⟨⟨trivial, trivial⟩, trivial⟩⟩⟩⟩⟩⟩⟩⟩⟩, trivial⟩⟩⟩⟩, ⟨trivial, trivial⟩⟩
theorem syb_1 (q : QM) (h1 : (decide (iN q.i < iN (List.map (AV.int IntKind.i64) q.W).length) = true)) (h2 : (decide (iN q.i < 12) = false)) (h3 : (q.t.length = (List.map (AV.int IntKind.i64) q.t).length)) (h4 : (CT Try.prog 17 [] [AV.lst (gL q.g), AV.lst (boL q.s), AV.lst (List.map (AV.int IntKind.i64) q.t)] [] (AV.bool q.b))) (h5 : (q.b = false)) : ∃ o' st' q', go2 Try.prog ({ dec := [(68, true), (71, false), (95, true), (93, false)], els := eSh q, calls := mkS q, unroll := false } : HT) 0 4000 (loopC (bodyOf Try.f4) 1) (loopK (bodyOf Try.f4) 1) (lb4 q) = some (o', st', q') ∧ q' ∧ Go.AX.Rest Try.prog 0 (Fin Try.prog Try.f4 0 [] (AV.bool true)) st' o' :=
  endF_spec (σ := []) (fz := [0]) (show endF Try.prog Try.f4 0 [] [0] (go2 Try.prog ({ dec := [(68, true), (71, false), (95, true), (93, false)], els := eSh q, calls := mkS q, unroll := false } : HT) 0 4000 (loopC (bodyOf Try.f4) 1) (loopK (bodyOf Try.f4) 1) (lb4 q)) = some ([], AV.bool true, (((((True ∧ True) ∧ ((True ∧ True) ∧ ((True ∧ True) ∧ ((True ∧ (True ∧ True)) ∧ (((type_of% h1) ∧ True) ∧ ((True ∧ (True ∧ True)) ∧ ((True ∧ (True ∧ True)) ∧ ((True ∧ ((type_of% h2) ∧ True)) ∧ ((True ∧ True) ∧ (True ∧ (True ∧ (True ∧ ((True ∧ (True ∧ True)) ∧ True))))))))))))) ∧ (True ∧ True)) ∧ (((True ∧ True) ∧ ((True ∧ True) ∧ ((True ∧ True) ∧ ((True ∧ (True ∧ (True ∧ (True ∧ (True ∧ ((type_of% h3) ∧ ((type_of% h4) ∧ (∀ (blk : Blk), blk ∈ [] → ImmB blk)))))))) ∧ True)))) ∧ ((type_of% h5) ∧ ((True ∧ True) ∧ True)))) ∧ (True ∧ True))) by kernel_rfl) ⟨⟨⟨⟨⟨trivial, trivial⟩, ⟨⟨trivial, trivial⟩, ⟨⟨trivial, trivial⟩, ⟨⟨trivial, ⟨trivial, trivial⟩⟩, ⟨⟨h1, trivial⟩, ⟨⟨trivial, ⟨trivial, trivial⟩⟩, ⟨⟨trivial, ⟨trivial, trivial⟩⟩, ⟨⟨trivial, ⟨h2, trivial⟩⟩, ⟨⟨trivial, trivial⟩, ⟨trivial, ⟨trivial, ⟨trivial, ⟨⟨trivial, ⟨trivial, trivial⟩⟩, trivial⟩⟩⟩⟩⟩⟩⟩⟩⟩⟩⟩⟩⟩, ⟨trivial, trivial⟩⟩, ⟨⟨⟨trivial, trivial⟩, ⟨⟨trivial, trivial⟩, ⟨⟨trivial, trivial⟩, ⟨⟨trivial, ⟨trivial, ⟨trivial, ⟨trivial, ⟨trivial, ⟨h3, ⟨h4, (by intro _ h; cases h)⟩⟩⟩⟩⟩⟩⟩, trivial⟩⟩⟩⟩, ⟨h5, ⟨⟨trivial, trivial⟩, trivial⟩⟩⟩⟩, ⟨trivial, trivial⟩⟩
theorem syc_0 (q : QM) (h1 : (decide (iN q.i < iN (List.map (AV.int IntKind.i64) q.W).length) = true)) (h2 : (decide (iN q.i < 12) = true)) (h3 : (decide (0 < iN (gL q.g).length) = false)) (h4 : (q.t.length = (List.map (AV.int IntKind.i64) q.t).length)) (h5 : (CT Try.prog 17 [] [AV.lst (gL q.g), AV.lst (boL q.s), AV.lst (List.map (AV.int IntKind.i64) q.t)] [] (AV.bool q.b))) (h6 : (q.b = true)) (h7 : (decide (0 < iN q.o.length) = true)) : ∃ o' st' q', go2 Try.prog ({ dec := [(68, true), (71, true), (76, false), (95, true), (93, true)], els := eSh q, calls := mkS q, unroll := false } : HT) 0 4000 (loopC (bodyOf Try.f4) 1) (loopK (bodyOf Try.f4) 1) (lb4 q) = some (o', st', q') ∧ q' ∧ Go.AX.Rest Try.prog 0 (Fin Try.prog Try.f4 0 [] (AV.bool (decide (iN q.o.length ≤ iN q.t.length)))) st' o' :=
  endF_spec (σ := []) (fz := [0]) (show endF Try.prog Try.f4 0 [] [0] (go2 Try.prog ({ dec := [(68, true), (71, true), (76, false), (95, true), (93, true)], els := eSh q, calls := mkS q, unroll := false } : HT) 0 4000 (loopC (bodyOf Try.f4) 1) (loopK (bodyOf Try.f4) 1) (lb4 q)) = some ([], AV.bool (decide (iN q.o.length ≤ iN q.t.length)), (((((True ∧ True) ∧ ((True ∧ True) ∧ ((True ∧ True) ∧ ((True ∧ (True ∧ True)) ∧ (((type_of% h1) ∧ True) ∧ ((True ∧ (True ∧ True)) ∧ ((True ∧ (True ∧ True)) ∧ ((True ∧ ((type_of% h2) ∧ True)) ∧ ((True ∧ True) ∧ ((True ∧ (True ∧ True)) ∧ ((True ∧ (True ∧ True)) ∧ ((True ∧ (True ∧ True)) ∧ ((True ∧ ((type_of% h3) ∧ True)) ∧ True))))))))))))) ∧ (True ∧ True)) ∧ (((True ∧ True) ∧ ((True ∧ True) ∧ ((True ∧ True) ∧ ((True ∧ (True ∧ (True ∧ (True ∧ (True ∧ ((type_of% h4) ∧ ((type_of% h5) ∧ (∀ (blk : Blk), blk ∈ [] → ImmB blk)))))))) ∧ True)))) ∧ ((type_of% h6) ∧ (((True ∧ True) ∧ ((True ∧ True) ∧ (((type_of% h7) ∧ True) ∧ ((True ∧ (True ∧ True)) ∧ ((True ∧ (True ∧ True)) ∧ ((True ∧ (True ∧ True)) ∧ ((True ∧ (True ∧ (True ∧ True))) ∧ ((True ∧ (True ∧ True)) ∧ ((True ∧ True) ∧ True))))))))) ∧ True)))) ∧ (True ∧ True))) by kernel_rfl) ⟨⟨⟨⟨⟨trivial, trivial⟩, ⟨⟨trivial, trivial⟩, ⟨⟨trivial, trivial⟩, ⟨⟨trivial, ⟨trivial, trivial⟩⟩, ⟨⟨h1, trivial⟩, ⟨⟨trivial, ⟨trivial, trivial⟩⟩, ⟨⟨trivial, ⟨trivial, trivial⟩⟩, ⟨⟨trivial, ⟨h2, trivial⟩⟩, ⟨⟨trivial, trivial⟩, ⟨⟨trivial, ⟨trivial, trivial⟩⟩, ⟨⟨trivial, ⟨trivial, trivial⟩⟩, ⟨⟨trivial, ⟨trivial, trivial⟩⟩, ⟨⟨trivial, ⟨h3, trivial⟩⟩, trivial⟩⟩⟩⟩⟩⟩⟩⟩⟩⟩⟩⟩⟩, ⟨trivial, trivial⟩⟩, ⟨⟨⟨trivial, trivial⟩, ⟨⟨trivial, trivial⟩, ⟨⟨trivial, trivial⟩, ⟨⟨trivial, ⟨trivial, ⟨trivial, ⟨trivial, ⟨trivial, ⟨h4, ⟨h5, (by intro _ h; cases h)⟩⟩⟩⟩⟩⟩⟩, trivial⟩⟩⟩⟩, ⟨h6, ⟨⟨⟨trivial, trivial⟩, ⟨⟨trivial, trivial⟩, ⟨⟨h7, trivial⟩, ⟨⟨trivial, ⟨trivial, trivial⟩⟩, ⟨⟨trivial, ⟨trivial, trivial⟩⟩, ⟨⟨trivial, ⟨trivial, trivial⟩⟩, ⟨⟨trivial, ⟨trivial, ⟨trivial, trivial⟩⟩⟩, ⟨⟨trivial, ⟨trivial, trivial⟩⟩, ⟨⟨trivial, trivial⟩, trivial⟩⟩⟩⟩⟩⟩⟩⟩⟩, trivial⟩⟩⟩⟩, ⟨trivial, trivial⟩⟩
theorem syc_1 (q : QM) (h1 : (decide (iN q.i < iN (List.map (AV.int IntKind.i64) q.W).length) = true)) (h2 : (decide (iN q.i < 12) = true)) (h3 : (decide (0 < iN (gL q.g).length) = false)) (h4 : (q.t.length = (List.map (AV.int IntKind.i64) q.t).length)) (h5 : (CT Try.prog 17 [] [AV.lst (gL q.g), AV.lst (boL q.s), AV.lst (List.map (AV.int IntKind.i64) q.t)] [] (AV.bool q.b))) (h6 : (q.b = false)) : ∃ o' st' q', go2 Try.prog ({ dec := [(68, true), (71, true), (76, false), (95, true), (93, false)], els := eSh q, calls := mkS q, unroll := false } : HT) 0 4000 (loopC (bodyOf Try.f4) 1) (loopK (bodyOf Try.f4) 1) (lb4 q) = some (o', st', q') ∧ q' ∧ Go.AX.Rest Try.prog 0 (Fin Try.prog Try.f4 0 [] (AV.bool true)) st' o' :=
  endF_spec (σ := []) (fz := [0]) (show endF Try.prog Try.f4 0 [] [0] (go2 Try.prog ({ dec := [(68, true), (71, true), (76, false), (95, true), (93, false)], els := eSh q, calls := mkS q, unroll := false } : HT) 0 4000 (loopC (bodyOf Try.f4) 1) (loopK (bodyOf Try.f4) 1) (lb4 q)) = some ([], AV.bool true, (((((True ∧ True) ∧ ((True ∧ True) ∧ ((True ∧ True) ∧ ((True ∧ (True ∧ True)) ∧ (((type_of% h1) ∧ True) ∧ ((True ∧ (True ∧ True)) ∧ ((True ∧ (True ∧ True)) ∧ ((True ∧ ((type_of% h2) ∧ True)) ∧ ((True ∧ True) ∧ ((True ∧ (True ∧ True)) ∧ ((True ∧ (True ∧ True)) ∧ ((True ∧ (True ∧ True)) ∧ ((True ∧ ((type_of% h3) ∧ True)) ∧ True))))))))))))) ∧ (True ∧ True)) ∧ (((True ∧ True) ∧ ((True ∧ True) ∧ ((True ∧ True) ∧ ((True ∧ (True ∧ (True ∧ (True ∧ (True ∧ ((type_of% h4) ∧ ((type_of% h5) ∧ (∀ (blk : Blk), blk ∈ [] → ImmB blk)))))))) ∧ True)))) ∧ ((type_of% h6) ∧ ((True ∧ True) ∧ True)))) ∧ (True ∧ True))) by kernel_rfl) ⟨⟨⟨⟨⟨trivial, trivial⟩, ⟨⟨trivial, trivial⟩, ⟨⟨trivial, trivial⟩, ⟨⟨trivial, ⟨trivial, trivial⟩⟩, ⟨⟨h1, trivial⟩, ⟨⟨trivial, ⟨trivial, trivial⟩⟩, ⟨⟨trivial, ⟨trivial, trivial⟩⟩, ⟨⟨trivial, ⟨h2, trivial⟩⟩, ⟨⟨trivial, trivial⟩, ⟨⟨trivial, ⟨trivial, trivial⟩⟩, ⟨⟨trivial, ⟨trivial, trivial⟩⟩, ⟨⟨trivial, ⟨trivial, trivial⟩⟩, ⟨⟨trivial, ⟨h3, trivial⟩⟩, trivial⟩⟩⟩⟩⟩⟩⟩⟩⟩⟩⟩⟩⟩, ⟨trivial, trivial⟩⟩, ⟨⟨⟨trivial, trivial⟩, ⟨⟨trivial, trivial⟩, ⟨⟨trivial, trivial⟩, ⟨⟨trivial, ⟨trivial, ⟨trivial, ⟨trivial, ⟨trivial, ⟨h4, ⟨h5, (by intro _ h; cases h)⟩⟩⟩⟩⟩⟩⟩, trivial⟩⟩⟩⟩, ⟨h6, ⟨⟨trivial, trivial⟩, trivial⟩⟩⟩⟩, ⟨trivial, trivial⟩⟩
end Go.Proofs.Ytcdgphdieemjcaa

/-! Contracts. -/
open Go Go.AX Go.Proofs
set_option maxRecDepth 100000
set_option maxHeartbeats 1000000
set_option linter.unusedVariables false
set_option linter.unusedSimpArgs false
namespace Go.Proofs.Ytcdgphdieemjcaa
theorem hasZ_mem {l : List Int} {x : Int} : hasZ l x = true ↔ x ∈ l := by
  constructor
  · intro hh
    unfold hasZ at hh
    cases hfd : fnd (fun j => l.getD j 0 == x) 0 l.length with
    | none => rw [hfd] at hh; cases hh
    | some j =>
      obtain ⟨a1, _, a2⟩ := fnd_some hfd
      rw [← beq_iff_eq.1 a1]
      exact get_mem (by omega)
  · exact hasZ_true
theorem hasZ_no {l : List Int} {x : Int} (h : x ∉ l) : hasZ l x = false := Bool.eq_false_iff.2 fun e => h (hasZ_mem.1 e)

theorem rows_ok {g : List (List Int)} {s : List Bool} (hg : OkG g s) : Rows g := fun v hv => (hg.row v hv).1
theorem girth_ct {g : List (List Int)} {s : List Bool} (hg : OkG g s) (ha : Asc g) : CT Try.prog 12 [] [.lst (gL g), .lst (boL s)] [] (.tup [.int .i64 (iN (girN g s g.length).length), lI (girN g s g.length), .int .i64 0]) := by
  have h := GirthG_ct (s := s) (rows_ok hg)
  have hc := chk4_of hg ha
  unfold girL at h
  rw [if_pos hc, hc] at h
  exact h

theorem kg6_ok : OkG kg6 ks6 := by
  refine ⟨by decide, fun v hv => ?_, rfl⟩
  have : v < 3 := hv
  match v, this with
  | 0, _ => exact ⟨by decide, by decide⟩
  | 1, _ => exact ⟨by decide, by decide⟩
  | 2, _ => exact ⟨by decide, by decide⟩
theorem kg6_asc : Asc kg6 := by
  intro v hv i h0 hi
  have : v < 3 := hv
  match v, this with
  | 0, _ => exact absurd hi (by show ¬ i < 1; omega)
  | 1, _ =>
    have hi : i < 2 := hi
    obtain rfl : i = 1 := by omega
    decide
  | 2, _ => exact absurd hi (by show ¬ i < 1; omega)
theorem kgir : girN kg6 ks6 3 = [0, 1] := by decide +kernel
theorem kth2 : thZ kg6 ks6 2 = [2, 0, 1] := by decide +kernel
theorem kcls : ClsP kg6 ks6 [0, 1] := by unfold ClsP; decide +kernel

theorem known6_ct : CT Try.prog 8 [] [] [] (.bool true) := by
  have hb : Try.f8.body = some (bodyOf Try.f8) := by kernel_rfl
  have a1 := girth_ct kg6_ok kg6_asc
  rw [show kg6.length = 3 from rfl, kgir] at a1
  have a2 := Through_ct kg6_ok kg6_asc 2 (by decide)
  rw [kth2] at a2
  have a3 := closed_ct (s := ks6) (rows_ok kg6_ok) [0, 1] (by decide)
  rw [clsB_iff.2 ⟨chk4_of kg6_ok kg6_asc, kcls⟩] at a3
  refine CT.of Try.func8 hb (Nat.zero_le _) (T.cut (by kernel_rfl) (T.path mix (hk0_0 () fun st hst => T.ren hst ?_)))
  refine T.cut (by kernel_rfl) (T.path mix (hk1_0 () fun st hst => T.ren hst ?_))
  rw [sR_succ 1 (bodyOf Try.f8) (by kernel_rfl)]
  refine T.ren ?_ (T.path mix (hk2_0 () a1 a2 (sameInts_ct [0, 1] (by decide)) (sameInts_ct [2, 0, 1] (by decide)) a3))
  exact okRen_spec (σ := []) (fz := [0]) (vars := [0, 1, 2]) (p := (True ∧ ((3 = [1, 2, 3].length) ∧ (True ∧ True)))) rfl (by kernel_rfl) ⟨trivial, rfl, trivial, trivial⟩
noncomputable def qm (L W : List Int) (g : List (List Int)) (s : List Bool) (o p t : List Int) (i : Nat) (x y l : Int) (b : Bool) (kk kk2 : Nat) : QM := ⟨L, W, g, s, o, p, t, i, 0, 0, x, y, 0, l, b, [], kk, kk2, []⟩

noncomputable def st4S (g : List (List Int)) (s : List Bool) (o W t : List Int) (i : Nat) : St := match t with
  | [] => lz4 (qm [] W g s o [] [] i 0 0 0 false 0 0)
  | _ => lb4 (qm [] W g s o [] t i 0 0 0 false 0 0)
theorem st4S_ne {g : List (List Int)} {s : List Bool} {o W t : List Int} (h : t ≠ []) (i : Nat) : st4S g s o W t i = lb4 (qm [] W g s o [] t i 0 0 0 false 0 0) := by
  cases t with
  | nil => exact absurd rfl h
  | cons _ _ => rfl

theorem shortest_ct (L W : List Int) (hW : W.length ≤ 9223372036854775807) : CT Try.prog 4 [] [lI L, lI W] [] (.bool true) := by
  obtain ⟨g, kk, n, hn, hgi, hkk, c1⟩ := graph_ex L 0 9 (by omega) (by omega)
  obtain ⟨s, kk2, hs, hkk2, c2⟩ := shut_ex L kk n (by omega) (by omega)
  obtain ⟨hg, ha⟩ := hgi.ok (by omega) (by omega) hs
  have hgn := hgi.len
  have hl := gL_len g
  have cg := girth_ct hg ha
  have hcls := girth_cls hg
  have hmin := fun o => girth_min hg (o := o)
  have hgl := girN_len hg
  generalize girN g s g.length = o at cg hcls hmin hgl
  have hol := lI_len o
  have hWl := lI_len W
  have c2' : CT Try.prog 10 [some (tapeB L kk)] [.ptr 0 0 0, .int .i64 (iN (gL g).length)] [some (tapeB L kk2)] (.lst (boL s)) := by simp only [iN, hl, hgn]; exact c2
  have hb4 : Try.f4.body = some (bodyOf Try.f4) := by kernel_rfl
  have runB : T Try.prog 0 (.loop (loopC (bodyOf Try.f4) 1)) (lz4 (qm [] W g s o [] [] 0 0 0 0 false 0 0)) (TK Try.prog 0 (Fin Try.prog Try.f4 0 [] (.bool true)) (loopK (bodyOf Try.f4) 1)) := by
    refine T.loop (fun y : Nat × List Int => st4S g s o W y.2 y.1) (fun y => y.1 ≤ 12 ∧ y.2.length ≤ y.1) (fun y => 13 - y.1) (0, []) ⟨by simp only; omega, Nat.le_refl _⟩ ?_
    rintro ⟨i, t⟩ ⟨hi, ht⟩
    simp only at hi ht
    have htl := lI_len t
    by_cases hgo : i < W.length ∧ i < 12 ∧ 0 < g.length
    · obtain ⟨g1, g2, g3⟩ := hgo
      have hx := lI_get g1
      have cc := cut_ct (W.getD i 0) (g.length : Int)
      have d1 : decide (iN i < iN (W.map (AV.int .i64)).length) = true := decide_eq_true (by simp only [iN, hWl]; omega)
      have d2 : decide (iN i < 12) = true := decide_eq_true (by simp only [iN]; omega)
      have d3 : decide (0 < iN (gL g).length) = true := decide_eq_true (by simp only [iN, hl]; omega)
      have wi : IntKind.i64.wrap (iN i + 1) = ((i + 1 : Nat) : Int) := wrap_nat i (by omega)
      generalize cutZ (W.getD i 0) (g.length : Int) = y at cc
      have cc' : CT Try.prog 20 [] [.int .i64 (W.getD i 0), .int .i64 (iN (gL g).length)] [] (.int .i64 y) := by simp only [iN, hl]; exact cc
      cases t with
      | nil =>
        refine T.path mix (sbz_0 (qm [] W g s o [] [] i (W.getD i 0) y 0 false 0 0) d1 d2 d3 (by simp [iN]) hx cc' (by simp) (by simp) (by simp) ?_)
        intro st hst
        simp only [wi, qm] at hst
        exact ⟨(i + 1, [y]), hst, ⟨by simp only; omega, by simp⟩, by simp only; omega⟩
      | cons t0 t1 =>
        refine T.path mix (sbr_0 (qm [] W g s o [] (t0 :: t1) i (W.getD i 0) y 0 false 0 0) d1 d2 d3 (by simp [iN]) hx cc' (by simp [qm]) (by simp) (by simp only [qm, htl, List.length_cons, List.length_nil] at ht ⊢; omega) (by simp only [qm, htl, List.length_cons, List.length_nil] at ht ⊢; omega) ?_)
        intro st hst
        simp only [wi, qm] at hst
        have e5 : ((t0 :: t1).map (AV.int .i64)).length + [AV.int .i64 y].length = ((t0 :: t1) ++ [y]).length := by simp
        have e6 : (t0 :: t1).map (AV.int .i64) ++ [AV.int .i64 y] = ((t0 :: t1) ++ [y]).map (AV.int .i64) := by simp
        rw [e5, e6] at hst
        refine ⟨(i + 1, (t0 :: t1) ++ [y]), ?_, ⟨by simp only; omega, by simp only [List.length_append, List.length_cons, List.length_nil] at ht ⊢; omega⟩, by simp only; omega⟩
        rw [st4S_ne (by simp)]
        exact hst
    · have hcl := closed_ct (s := s) (rows_ok hg) t (by omega)
      have hb := clsB_iff (g := g) (s := s) (o := t)
      generalize clsB g s t = b at hcl hb
      cases t with
      | nil =>
        have hbf : b = false := Bool.eq_false_iff.2 fun e => (hb.1 e).2.1 rfl
        subst hbf
        have hcn : CT Try.prog 17 [] [.lst (gL g), .lst (boL s), .nils] [] (.bool false) := CT.nilArgs hcl rfl
        by_cases g1 : i < W.length
        · have d1 : decide (iN i < iN (W.map (AV.int .i64)).length) = true := decide_eq_true (by simp only [iN, hWl]; omega)
          by_cases g2 : i < 12
          · exact T.out mix (szc_2 (qm [] W g s o [] [] i 0 0 0 false 0 0) d1 (decide_eq_true (by simp only [iN, qm]; omega)) (decide_eq_false (by simp only [iN, qm, hl]; omega)) hcn rfl)
          · exact T.out mix (szb_2 (qm [] W g s o [] [] i 0 0 0 false 0 0) d1 (decide_eq_false (by simp only [iN, qm]; omega)) hcn rfl)
        · exact T.out mix (sza_2 (qm [] W g s o [] [] i 0 0 0 false 0 0) (decide_eq_false (by simp only [iN, qm, hWl]; omega)) hcn rfl)
      | cons t0 t1 =>
        cases b with
        | true =>
          obtain ⟨m1, m2⟩ := hmin _ (hb.1 rfl).2
          have hop : 0 < o.length := List.length_pos_iff.2 m1
          have dp : decide (0 < iN o.length) = true := decide_eq_true (by simp only [iN]; omega)
          have dl : decide (iN o.length ≤ iN (t0 :: t1).length) = true := decide_eq_true (by simp only [iN]; omega)
          rw [show AV.bool true = AV.bool (decide (iN o.length ≤ iN (t0 :: t1).length)) by rw [dl]]
          by_cases g1 : i < W.length
          · have d1 : decide (iN i < iN (W.map (AV.int .i64)).length) = true := decide_eq_true (by simp only [iN, hWl]; omega)
            by_cases g2 : i < 12
            · exact T.out mix (syc_0 (qm [] W g s o [] (t0 :: t1) i 0 0 0 true 0 0) d1 (decide_eq_true (by simp only [iN, qm]; omega)) (decide_eq_false (by simp only [iN, qm, hl]; omega)) (by simp [qm]) hcl rfl dp)
            · exact T.out mix (syb_0 (qm [] W g s o [] (t0 :: t1) i 0 0 0 true 0 0) d1 (decide_eq_false (by simp only [iN, qm]; omega)) (by simp [qm]) hcl rfl dp)
          · exact T.out mix (sya_0 (qm [] W g s o [] (t0 :: t1) i 0 0 0 true 0 0) (decide_eq_false (by simp only [iN, qm, hWl]; omega)) (by simp [qm]) hcl rfl dp)
        | false =>
          by_cases g1 : i < W.length
          · have d1 : decide (iN i < iN (W.map (AV.int .i64)).length) = true := decide_eq_true (by simp only [iN, hWl]; omega)
            by_cases g2 : i < 12
            · exact T.out mix (syc_1 (qm [] W g s o [] (t0 :: t1) i 0 0 0 false 0 0) d1 (decide_eq_true (by simp only [iN, qm]; omega)) (decide_eq_false (by simp only [iN, qm, hl]; omega)) (by simp [qm]) hcl rfl)
            · exact T.out mix (syb_1 (qm [] W g s o [] (t0 :: t1) i 0 0 0 false 0 0) d1 (decide_eq_false (by simp only [iN, qm]; omega)) (by simp [qm]) hcl rfl)
          · exact T.out mix (sya_1 (qm [] W g s o [] (t0 :: t1) i 0 0 0 false 0 0) (decide_eq_false (by simp only [iN, qm, hWl]; omega)) (by simp [qm]) hcl rfl)
  have runA : T Try.prog 0 (.loop (loopC (bodyOf Try.f4) 0)) (la4 (qm [] W g s o [] [] 0 0 0 0 false 0 0)) (TK Try.prog 0 (Fin Try.prog Try.f4 0 [] (.bool true)) (loopK (bodyOf Try.f4) 0)) := by
    refine T.loop (fun i : Nat => la4 (qm [] W g s o [] [] i 0 0 0 false 0 0)) (fun i => i ≤ o.length) (fun i => o.length + 1 - i) 0 (Nat.zero_le _) ?_
    intro i hi
    by_cases h : i < o.length
    · have hno := (hcls (fun e => by rw [e] at h; exact absurd h (by simp))).2 i h
      have ch := has_ct (o.take i) (o.getD i 0) (by simp only [List.length_take]; omega)
      rw [hasZ_no hno] at ch
      have e1 : List.take ((iN i).toNat - Int.toNat 0) (List.drop (Int.toNat 0) (o.map (AV.int .i64))) = (o.take i).map (AV.int .i64) := by
        show List.take (i - 0) (List.drop 0 _) = _
        rw [List.drop_zero, Nat.sub_zero, List.map_take]
      have wi : IntKind.i64.wrap (iN i + 1) = ((i + 1 : Nat) : Int) := wrap_nat i (by omega)
      refine T.path mix (sar_0 (qm [] W g s o [] [] i (o.getD i 0) 0 0 false 0 0) (decide_eq_true (by simp only [iN, qm, hol]; omega)) (fun x hx => by obtain ⟨y, _, rfl⟩ := List.mem_map.1 hx; rfl) (by simp [iN]) (by simp only [iN, qm, hol]; omega) (Int.le_refl _) (lI_get h) (by simp only [qm, e1]; exact ch) ?_)
      intro st hst
      simp only [wi, qm] at hst
      exact ⟨i + 1, hst, h, by omega⟩
    · exact T.out mix (sax_0 (qm [] W g s o [] [] i 0 0 0 false 0 0) (decide_eq_false (by simp only [iN, qm, hol]; omega)) runB)
  by_cases hp : 0 < o.length
  · have hcl := closed_ct (s := s) (rows_ok hg) o (by omega)
    rw [clsB_iff.2 ⟨chk4_of hg ha, (hcls (List.length_pos_iff.1 hp)).1⟩] at hcl
    exact CT.path mix Try.func4 hb4 (Nat.le_of_ble_eq_true rfl) (sha_0 (qm L W g s o [] [] 0 0 0 0 true kk kk2) known6_ct c1 c2' cg (by simp [iN, qm, hol]) (decide_eq_true (by simp only [iN, qm]; omega)) hcl rfl runA)
  · exact CT.path mix Try.func4 hb4 (Nat.le_of_ble_eq_true rfl) (shb_0 (qm L W g s o [] [] 0 0 0 0 true kk kk2) known6_ct c1 c2' cg (by simp [iN, qm, hol]) (decide_eq_false (by simp only [iN, qm]; omega)) runA)
theorem ints6 {n : Nat} {es : List AV} (h : ∀ x ∈ es, ShV Try.prog n 3 x) : ∃ L : List Int, es = L.map (AV.int .i64) := by
  induction es with
  | nil => exact ⟨[], rfl⟩
  | cons x es ih =>
    obtain ⟨L, rfl⟩ := ih fun y hy => h y (List.mem_cons_of_mem _ hy)
    obtain ⟨i, _, rfl⟩ := (h x (by simp)).intD Try.underlying3
    exact ⟨i :: L, rfl⟩
theorem girthShortest_row (avs : List AV) (h : ShVs Try.prog 4 Try.f4.params.toList avs) : CT Try.prog 4 [] avs [] (.bool true) := by
  rw [Try.params4] at h
  obtain ⟨a, _, rfl, ka, h⟩ := h.consD
  obtain ⟨b, _, rfl, kb, h⟩ := h.consD
  obtain rfl := h.nilD
  obtain ⟨ls, _, hl, rfl⟩ := ka.sliceD Try.underlying24
  obtain ⟨L, rfl⟩ := ints6 hl
  obtain ⟨lw, hm, hw, rfl⟩ := kb.sliceD Try.underlying24
  obtain ⟨W, rfl⟩ := ints6 hw
  exact shortest_ct L W (by simpa [maxLen] using hm)
end Go.Proofs.Ytcdgphdieemjcaa

/-! The paths of a function, by evaluation. -/
open Go Go.AX Go.Proofs
set_option maxRecDepth 100000
set_option maxHeartbeats 4000000
set_option linter.unusedVariables false
namespace Go.Proofs.Ytcdgphdieemjcaa
structure QN where
  L : List Int
  W : List Int
  g : List (List Int)
  s : List Bool
  o : List Int
  p : List Int
  t : List Int
  i : Nat
  v : Nat
  w : Nat
  x : Int
  y : Int
  z : Int
  b : Bool
  r : List Int
  m1 : Nat
  m2 : Nat
  h : List (List Int)
  kk : Nat
  s' : List Bool
  g' : List (List Int)
  e1 : Int
  e2 : Int
def cGr (q : QN) : Nat → FuncId → List AV → List (Option Blk) → Hint := fun dst f args hp => match f with
  | 8 => .call [] [] [] (.bool true)
  | 9 => match args with
    | [.ptr b _ _, _] => .call [b] [] [tapeB q.L q.m1] (.lst (gL q.g))
    | _ => .no
  | 10 => match args with
    | [.ptr b _ _, _] => .call [b] [] [tapeB q.L q.m2] (.lst (boL q.s))
    | _ => .no
  | 11 => nextG q.L args hp (match dst with | 46 => iN q.i | 58 => iN q.v | _ => iN q.w)
  | 12 => .call [] [] [] (.tup [.int .i64 (match dst with | 36 => q.z | 51 => q.y | _ => q.x), lI (match dst with | 36 => q.o | 51 => q.p | _ => q.t), .int .i64 0])
  | 19 => .call [] [] [] (.bool q.b)
  | 21 => .call [] [] [] (lI q.t)
  | _ => .no
def eGr (q : QN) : List (Nat × AV) := [(72, lI q.r), (82, lI q.r)]
noncomputable def st6 (q : QN) : St := { n := Try.f6.ntmps, fr := [(0, lI q.L)], hp := [] }
noncomputable def s63 (q : QN) : St := { n := Try.f6.ntmps, fr := [(3, .ptr 0 0 0)], hp := [some (tapeB q.L 0)] }
noncomputable def s64 (q : QN) : St := { n := Try.f6.ntmps, fr := [(3, .ptr 0 0 0), (4, .lst (gL q.g))], hp := [some (tapeB q.L q.m1)] }
noncomputable def s66 (q : QN) : St := { n := Try.f6.ntmps, fr := [(3, .ptr 0 0 0), (4, .lst (gL q.g)), (5, .lst (boL q.s))], hp := [some (tapeB q.L q.m2)] }
noncomputable def s67 (q : QN) : St := { n := Try.f6.ntmps, fr := [(3, .ptr 0 0 0), (4, .lst (gL q.g)), (5, .lst (boL q.s)), (6, .int .i64 q.z), (8, .int .i64 0)], hp := [some (tapeB q.L q.m2)] }
noncomputable def s68 (q : QN) : St := { n := Try.f6.ntmps, fr := [(3, .ptr 0 0 0), (4, .lst (gL q.g)), (5, .lst (boL q.s)), (6, .int .i64 q.z), (8, .int .i64 0), (9, .sl 1 0 (boL q.s).length)], hp := [some (tapeB q.L q.m2), some { es := boL q.s, z := 1 }] }
noncomputable def s69 (q : QN) : St := { n := Try.f6.ntmps, fr := [(3, .ptr 0 0 0), (4, .lst (gL q.g)), (5, .lst (boL q.s)), (6, .int .i64 q.z), (8, .int .i64 0), (9, .lst (boL q.s'))], hp := [some (tapeB q.L (q.m2 + 1))] }
noncomputable def s6a (q : QN) : St := { n := Try.f6.ntmps, fr := [(3, .ptr 0 0 0), (4, .lst (gL q.g)), (5, .lst (boL q.s)), (6, .int .i64 q.z), (8, .int .i64 0), (10, .int .i64 q.y), (12, .int .i64 0)], hp := [some (tapeB q.L (q.m2 + 1))] }
noncomputable def s6b (q : QN) : St := { n := Try.f6.ntmps, fr := [(4, .lst (gL q.g)), (5, .lst (boL q.s)), (6, .int .i64 q.z), (8, .int .i64 0), (10, .int .i64 q.y), (12, .int .i64 0), (13, .int .i64 (iN q.v)), (14, .int .i64 (iN q.w))], hp := [] }
noncomputable def s6c (q : QN) : St := { n := Try.f6.ntmps, fr := [(5, .lst (boL q.s)), (6, .int .i64 q.z), (8, .int .i64 0), (10, .int .i64 q.y), (12, .int .i64 0), (13, .int .i64 (iN q.v)), (14, .int .i64 (iN q.w)), (15, .sl 0 0 (gL q.g).length)], hp := [some { es := gL q.g, z := 1 }] }
noncomputable def s6d (q : QN) : St := { n := Try.f6.ntmps, fr := [(5, .lst (boL q.s)), (6, .int .i64 q.z), (8, .int .i64 0), (10, .int .i64 q.y), (12, .int .i64 0), (15, .lst (gL q.h))], hp := [] }
noncomputable def st3 (q : QN) : St := { n := Try.f3.ntmps, fr := [(0, .lst (gL q.g)), (1, .lst (boL q.s)), (2, lI q.o), (3, .int .i64 q.x), (4, lI q.L)], hp := [] }
noncomputable def lo3z (q : QN) : St := { n := Try.f3.ntmps, fr := [(0, .lst (gL q.g)), (1, .lst (boL q.s)), (2, lI q.o), (3, .int .i64 q.x), (11, .ptr 0 0 0), (12, .int .i64 0)], hp := [some (tapeB q.L q.kk)] }
noncomputable def lo3o (q : QN) : St := { n := Try.f3.ntmps, fr := [(11, .ptr 0 0 0), (12, .int .i64 1)], hp := [some (tapeB q.L q.kk)] }
noncomputable def lo3e (q : QN) : St := { n := Try.f3.ntmps, fr := [(12, .int .i64 2)], hp := [] }
noncomputable def lw3z (q : QN) : St := { n := Try.f3.ntmps, fr := [(0, .lst (gL q.g)), (1, .lst (boL q.s)), (2, .nils), (3, .int .i64 q.x), (11, .ptr 0 0 0), (12, .int .i64 1), (13, .int .i64 q.z)], hp := [some (tapeB q.L q.kk)] }
noncomputable def lw3 (q : QN) : St := { n := Try.f3.ntmps, fr := [(0, .lst (gL q.g)), (1, .lst (boL q.s)), (2, .sl 1 0 q.o.length), (3, .int .i64 q.x), (11, .ptr 0 0 0), (12, .int .i64 1), (13, .int .i64 q.z)], hp := [some (tapeB q.L q.kk), some (dB q.o)] }
def cFi (q : QN) : Nat → FuncId → List AV → List (Option Blk) → Hint := fun dst f args hp => match f with
  | 8 => .call [] [] [] (.bool true)
  | 9 => match args with
    | [.ptr b _ _, _] => .call [b] [] [tapeB q.L q.m1] (.lst (gL q.g'))
    | _ => .no
  | 10 => match args with
    | [.ptr b _ _, _] => .call [b] [] [tapeB q.L q.m2] (.lst (boL q.s'))
    | _ => .no
  | 11 => nextG q.L args hp (match dst with | 46 => q.x | 48 => q.z | _ => q.y)
  | 12 => .call [] [] [] (thT q.e1 q.p)
  | 13 => .call [] [] [] (thT q.e1 q.p)
  | 14 => .call [] [] [] (thT q.e2 q.t)
  | 15 => .call [] [] [] (thT q.e2 q.t)
  | 16 => .call [] [] [] (.bool true)
  | 17 => match args with
    | [_, _, .sl b _ _] => .call [] [b] [] (.bool q.b)
    | _ => .call [] [] [] (.bool q.b)
  | 18 => match args with
    | [_, _, .sl b _ _] => .call [] [b] [] (.bool q.b)
    | _ => .call [] [] [] (.bool q.b)
  | _ => .no
def eFi (q : QN) : List (Nat × AV) := []
end Go.Proofs.Ytcdgphdieemjcaa

/-! Contracts. -/
open Go Go.AX Go.Proofs
set_option maxRecDepth 100000
set_option maxHeartbeats 1000000
set_option linter.unusedVariables false
set_option linter.unusedSimpArgs false
namespace Go.Proofs.Ytcdgphdieemjcaa
theorem ClsP.mono {g h : List (List Int)} {s m : List Bool} {o : List Int} (hc : ClsP g m o) (hl : h.length = g.length) (hg : ∀ v, ∀ x ∈ g.getD v [], x ∈ h.getD v []) (hm : ∀ v, m.getD v false = false → s.getD v false = false) : ClsP h s o :=
  ⟨hc.1, fun x hx => by obtain ⟨a, b, c⟩ := hc.2.1 x hx; exact ⟨a, by rw [hl]; exact b, hm _ c⟩, fun i hi => hg _ _ (hc.2.2 i hi)⟩

noncomputable def qn (L : List Int) (g : List (List Int)) (s : List Bool) (o p t : List Int) (i v w : Nat) (x y z : Int) (b : Bool) (r : List Int) (m1 m2 : Nat) (h : List (List Int)) (s' : List Bool) : QN := ⟨L, [], g, s, o, p, t, i, v, w, x, y, z, b, r, m1, m2, h, 0, s', [], 0, 0⟩

noncomputable def qf3 (L : List Int) (g : List (List Int)) (s : List Bool) (o : List Int) (x z y : Int) (kk : Nat) : QN := ⟨L, [], g, s, o, girL g s, thL g s x, 0, 0, 0, x, y, z, clsB g s o, [], 0, 0, [], kk, [], [], chk4 g s, thE g s x⟩
noncomputable def lwS (L : List Int) (g : List (List Int)) (s : List Bool) (o : List Int) (x z : Int) (kk : Nat) : St := match o with
  | [] => lw3z (qf3 L g s [] x z 0 kk)
  | _ => lw3 (qf3 L g s o x z 0 kk)
end Go.Proofs.Ytcdgphdieemjcaa


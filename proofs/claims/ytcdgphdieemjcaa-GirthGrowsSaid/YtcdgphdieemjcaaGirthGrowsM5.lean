/- Parts of the proof: Gi1p, GiA, GiB, GiC, Gi2p, GiD, Gi3p, GiE. -/
import Derived.Test.YtcdgphdieemjcaaProg
import Derived.KernelRfl
import Derived.Test.YtcdgphdieemjcaaGirthGrowsM4
/-! The paths of a function, by evaluation. -/
open Go Go.AX Go.Proofs
set_option maxRecDepth 100000
set_option maxHeartbeats 4000000
set_option linter.unusedVariables false
namespace Go.Proofs.Ytcdgphdieemjcaa
structure QE where
  g : List (List Int)
  s : List Bool
  v : Int
  p : List Int
  o : List Int
  d : List Int
  r : List Int
  e : Int
  i : Nat
  a : Nat
  w : Nat
  x : Int
  y : Int
  z : Int
  bz : Int
  b : Bool
  sb : Bool
def cE (q : QE) : Nat → FuncId → List AV → List (Option Blk) → Hint := fun dst f args hp => match f with
  | 23 => .call [] [] [] (.int .i64 q.e)
  | 24 => .call [] [] [] (lI q.p)
  | 25 => .call [] [] [] (.int .i64 q.e)
  | 26 => .call [] [] [] (lI q.p)
  | 19 => .call [] [] [] (.bool q.b)
  | 32 => .call [] [] [] (lI q.d)
  | 33 => .call [] [] [] (lI q.p)
  | _ => .no
def eN (q : QE) : List (Nat × AV) := []
noncomputable def stHc (q : QE) : St := { n := Try.f23.ntmps, fr := [(0, .lst (gL q.g)), (1, .lst (boL q.s))], hp := [] }
noncomputable def la23 (q : QE) : St := { n := Try.f23.ntmps, fr := [(0, .lst (gL q.g)), (1, .lst (boL q.s)), (13, .lst (gL q.g)), (14, .int .i64 (iN q.g.length)), (15, .int .i64 (iN q.a))], hp := [] }
noncomputable def lb23 (q : QE) : St := { n := Try.f23.ntmps, fr := [(0, .lst (gL q.g)), (1, .lst (boL q.s)), (5, .int .i64 (iN q.a)), (7, .int .i64 q.x), (13, .lst (gL q.g)), (14, .int .i64 (iN q.g.length)), (15, .int .i64 (iN q.a)), (20, lI q.r), (21, .int .i64 (iN q.r.length)), (22, .int .i64 (iN q.i))], hp := [] }
def e23g (q : QE) : List (Nat × AV) := [(18, lI q.r), (24, .int .i64 q.y)]
noncomputable def st12 (q : QE) : St := { n := Try.f12.ntmps, fr := [(0, .lst (gL q.g)), (1, .lst (boL q.s))], hp := [] }
noncomputable def la12 (q : QE) : St := { n := Try.f12.ntmps, fr := [(0, .lst (gL q.g)), (1, .lst (boL q.s)), (8, .nils), (18, .int .i64 (iN q.g.length)), (19, .int .i64 (iN q.i))], hp := [] }
noncomputable def lb12 (q : QE) : St := { n := Try.f12.ntmps, fr := [(0, .lst (gL q.g)), (1, .lst (boL q.s)), (8, lI q.o), (18, .int .i64 (iN q.g.length)), (19, .int .i64 (iN q.i))], hp := [] }
noncomputable def st13 (q : QE) : St := { n := Try.f13.ntmps, fr := [(0, .lst (gL q.g)), (1, .lst (boL q.s))], hp := [] }
noncomputable def lo13 (q : QE) : St := { n := Try.f13.ntmps, fr := [(0, .lst (gL q.g)), (1, .lst (boL q.s)), (8, lI q.o), (9, .int .i64 (iN q.i))], hp := [] }
noncomputable def st14 (q : QE) : St := { n := Try.f14.ntmps, fr := [(0, .lst (gL q.g)), (1, .lst (boL q.s)), (2, .int .i64 q.v)], hp := [] }
noncomputable def st15 (q : QE) : St := { n := Try.f15.ntmps, fr := [(0, .lst (gL q.g)), (1, .lst (boL q.s)), (2, .int .i64 q.v)], hp := [] }
noncomputable def st26 (q : QE) : St := { n := Try.f26.ntmps, fr := [(0, .lst (gL q.g)), (1, .lst (boL q.s)), (2, .int .i64 (iN q.a))], hp := [] }
noncomputable def lo26 (q : QE) : St := { n := Try.f26.ntmps, fr := [(0, .lst (gL q.g)), (1, .lst (boL q.s)), (2, .int .i64 (iN q.a)), (7, lI q.d), (8, .int .i64 q.bz), (9, .int .i64 (iN q.i))], hp := [] }
def e26 (q : QE) : List (Nat × AV) := [(14, .bool q.sb), (23, lI q.r), (31, lI q.r), (34, .int .i64 (iN q.w)), (38, .int .i64 q.x), (47, .int .i64 q.x), (51, .int .i64 q.y)]
noncomputable def st17 (q : QE) : St := { n := Try.f17.ntmps, fr := [(0, .lst (gL q.g)), (1, .lst (boL q.s)), (2, lI q.o)], hp := [] }
noncomputable def lo17 (q : QE) : St := { n := Try.f17.ntmps, fr := [(0, .lst (gL q.g)), (1, .lst (boL q.s)), (7, .int .i64 q.y), (28, lI q.o), (29, .int .i64 (iN q.o.length)), (30, .int .i64 (iN q.i))], hp := [] }
noncomputable def li17 (q : QE) : St := { n := Try.f17.ntmps, fr := [(0, .lst (gL q.g)), (1, .lst (boL q.s)), (9, .int .i64 q.x), (10, .bool q.b), (28, lI q.o), (29, .int .i64 (iN q.o.length)), (30, .int .i64 (iN q.i)), (61, lI q.r), (62, .int .i64 (iN q.r.length)), (63, .int .i64 (iN q.a))], hp := [] }
def eCl (q : QE) : List (Nat × AV) := [(26, .int .i64 q.y), (32, .int .i64 q.x), (45, .bool q.sb), (60, lI q.r), (65, .int .i64 q.z)]
noncomputable def st18 (q : QE) : St := { n := Try.f18.ntmps, fr := [(0, .lst (gL q.g)), (1, .lst (boL q.s)), (2, lI q.o)], hp := [] }
noncomputable def la18 (q : QE) : St := { n := Try.f18.ntmps, fr := [(0, .lst (gL q.g)), (1, .lst (boL q.s)), (2, lI q.o), (7, .int .i64 (iN q.i))], hp := [] }
noncomputable def lb18 (q : QE) : St := { n := Try.f18.ntmps, fr := [(0, .lst (gL q.g)), (1, .lst (boL q.s)), (2, lI q.o), (8, .int .i64 (iN q.i))], hp := [] }
def e18 (q : QE) : List (Nat × AV) := [(26, .int .i64 q.x), (32, .int .i64 q.x), (42, .int .i64 q.x), (44, .bool q.sb), (56, .int .i64 q.x), (58, lI q.r), (66, .int .i64 q.z)]
theorem hc_0 (q : QE) (h1 : (decide (24 < iN (gL q.g).length) = true)) : ∃ o' st' q', go Try.prog ({ dec := [(12, true)], els := e23g q, calls := cE q, unroll := false } : HT) 0 4000 (.inl (bodyOf Try.f23)) [] (stHc q) = some (o', st', q') ∧ q' ∧ Go.AX.Rest Try.prog 0 (Fin Try.prog Try.f23 0 [] (AV.int IntKind.i64 20)) st' o' :=
  endF_spec (σ := []) (fz := []) (show endF Try.prog Try.f23 0 [] [] (go Try.prog ({ dec := [(12, true)], els := e23g q, calls := cE q, unroll := false } : HT) 0 4000 (.inl (bodyOf Try.f23)) [] (stHc q)) = some ([], AV.int IntKind.i64 20, (((True ∧ True) ∧ (((True ∧ True) ∧ ((True ∧ True) ∧ ((True ∧ True) ∧ True))) ∧ ((type_of% h1) ∧ ((True ∧ True) ∧ True)))) ∧ (True ∧ True))) by kernel_rfl) ⟨⟨⟨trivial, trivial⟩, ⟨⟨⟨trivial, trivial⟩, ⟨⟨trivial, trivial⟩, ⟨⟨trivial, trivial⟩, trivial⟩⟩⟩, ⟨h1, ⟨⟨trivial, trivial⟩, trivial⟩⟩⟩⟩, ⟨trivial, trivial⟩⟩
theorem hc_1 (q : QE) (h1 : (decide (24 < iN (gL q.g).length) = false)) {post : Exit → St → Prop} (ht : T Try.prog 0 (.loop (loopC (bodyOf Try.f23) 0)) (St.mk 48 [(0, AV.lst (gL q.g)), (1, AV.lst (boL q.s)), (13, AV.lst (gL q.g)), (14, AV.int IntKind.i64 (iN (gL q.g).length)), (15, AV.int IntKind.i64 0)] []) (TK Try.prog 0 post (loopK (bodyOf Try.f23) 0))) : ∃ o' st' q', go Try.prog ({ dec := [(12, false)], els := e23g q, calls := cE q, unroll := false } : HT) 0 4000 (.inl (bodyOf Try.f23)) [] (stHc q) = some (o', st', q') ∧ q' ∧ Go.AX.Rest Try.prog 0 post st' o' :=
  endR_spec (σ := []) (fz := []) (vars := [0,1,13,14,15]) (show endR 0 [] [] [0,1,13,14,15] (go Try.prog ({ dec := [(12, false)], els := e23g q, calls := cE q, unroll := false } : HT) 0 4000 (.inl (bodyOf Try.f23)) [] (stHc q)) = some (loopC (bodyOf Try.f23) 0, loopK (bodyOf Try.f23) 0, St.mk 48 [(0, AV.lst (gL q.g)), (1, AV.lst (boL q.s)), (13, AV.lst (gL q.g)), (14, AV.int IntKind.i64 (iN (gL q.g).length)), (15, AV.int IntKind.i64 0)] [], (((True ∧ True) ∧ (((True ∧ True) ∧ ((True ∧ True) ∧ ((True ∧ True) ∧ True))) ∧ ((type_of% h1) ∧ (((True ∧ True) ∧ ((True ∧ True) ∧ (True ∧ True))) ∧ True)))) ∧ (True ∧ (True ∧ (True ∧ (True ∧ (True ∧ True))))))) by kernel_rfl) ⟨⟨⟨trivial, trivial⟩, ⟨⟨⟨trivial, trivial⟩, ⟨⟨trivial, trivial⟩, ⟨⟨trivial, trivial⟩, trivial⟩⟩⟩, ⟨h1, ⟨⟨⟨trivial, trivial⟩, ⟨⟨trivial, trivial⟩, ⟨trivial, trivial⟩⟩⟩, trivial⟩⟩⟩⟩, ⟨trivial, ⟨trivial, ⟨trivial, ⟨trivial, ⟨trivial, trivial⟩⟩⟩⟩⟩⟩ ht
theorem hcx_0 (q : QE) (h1 : (decide (iN q.a < iN q.g.length) = false)) (h2 : ((iN (boL q.s).length != iN (gL q.g).length) = true)) : ∃ o' st' q', go2 Try.prog ({ dec := [(16, false), (47, true)], els := e23g q, calls := cE q, unroll := false } : HT) 0 4000 (loopC (bodyOf Try.f23) 0) (loopK (bodyOf Try.f23) 0) (la23 q) = some (o', st', q') ∧ q' ∧ Go.AX.Rest Try.prog 0 (Fin Try.prog Try.f23 0 [] (AV.int IntKind.i64 19)) st' o' :=
  endF_spec (σ := []) (fz := []) (show endF Try.prog Try.f23 0 [] [] (go2 Try.prog ({ dec := [(16, false), (47, true)], els := e23g q, calls := cE q, unroll := false } : HT) 0 4000 (loopC (bodyOf Try.f23) 0) (loopK (bodyOf Try.f23) 0) (la23 q)) = some ([], AV.int IntKind.i64 19, (((((True ∧ (True ∧ True)) ∧ True) ∧ ((type_of% h1) ∧ True)) ∧ (((True ∧ True) ∧ ((True ∧ True) ∧ ((True ∧ True) ∧ ((True ∧ True) ∧ ((True ∧ (True ∧ True)) ∧ True))))) ∧ ((type_of% h2) ∧ ((True ∧ True) ∧ True)))) ∧ (True ∧ True))) by kernel_rfl) ⟨⟨⟨⟨⟨trivial, ⟨trivial, trivial⟩⟩, trivial⟩, ⟨h1, trivial⟩⟩, ⟨⟨⟨trivial, trivial⟩, ⟨⟨trivial, trivial⟩, ⟨⟨trivial, trivial⟩, ⟨⟨trivial, trivial⟩, ⟨⟨trivial, ⟨trivial, trivial⟩⟩, trivial⟩⟩⟩⟩⟩, ⟨h2, ⟨⟨trivial, trivial⟩, trivial⟩⟩⟩⟩, ⟨trivial, trivial⟩⟩
theorem hcx_1 (q : QE) (h1 : (decide (iN q.a < iN q.g.length) = false)) (h2 : ((iN (boL q.s).length != iN (gL q.g).length) = false)) : ∃ o' st' q', go2 Try.prog ({ dec := [(16, false), (47, false)], els := e23g q, calls := cE q, unroll := false } : HT) 0 4000 (loopC (bodyOf Try.f23) 0) (loopK (bodyOf Try.f23) 0) (la23 q) = some (o', st', q') ∧ q' ∧ Go.AX.Rest Try.prog 0 (Fin Try.prog Try.f23 0 [] (AV.int IntKind.i64 0)) st' o' :=
  endF_spec (σ := []) (fz := []) (show endF Try.prog Try.f23 0 [] [] (go2 Try.prog ({ dec := [(16, false), (47, false)], els := e23g q, calls := cE q, unroll := false } : HT) 0 4000 (loopC (bodyOf Try.f23) 0) (loopK (bodyOf Try.f23) 0) (la23 q)) = some ([], AV.int IntKind.i64 0, (((((True ∧ (True ∧ True)) ∧ True) ∧ ((type_of% h1) ∧ True)) ∧ (((True ∧ True) ∧ ((True ∧ True) ∧ ((True ∧ True) ∧ ((True ∧ True) ∧ ((True ∧ (True ∧ True)) ∧ True))))) ∧ ((type_of% h2) ∧ ((True ∧ True) ∧ True)))) ∧ (True ∧ True))) by kernel_rfl) ⟨⟨⟨⟨⟨trivial, ⟨trivial, trivial⟩⟩, trivial⟩, ⟨h1, trivial⟩⟩, ⟨⟨⟨trivial, trivial⟩, ⟨⟨trivial, trivial⟩, ⟨⟨trivial, trivial⟩, ⟨⟨trivial, trivial⟩, ⟨⟨trivial, ⟨trivial, trivial⟩⟩, trivial⟩⟩⟩⟩⟩, ⟨h2, ⟨⟨trivial, trivial⟩, trivial⟩⟩⟩⟩, ⟨trivial, trivial⟩⟩
theorem hca_0 (q : QE) (h1 : (decide (iN q.a < iN q.g.length) = true)) (h2 : (0 ≤ iN q.a)) (h3 : ((gL q.g)[(iN q.a).toNat]? = some (AV.lst (List.map (AV.int IntKind.i64) q.r)))) {post : Exit → St → Prop} (ht : T Try.prog 0 (.loop (loopC (loopC (bodyOf Try.f23) 0) 0)) (St.mk 48 [(0, AV.lst (gL q.g)), (1, AV.lst (boL q.s)), (5, AV.int IntKind.i64 (iN q.a)), (7, AV.int IntKind.i64 (-1)), (13, AV.lst (gL q.g)), (14, AV.int IntKind.i64 (iN q.g.length)), (15, AV.int IntKind.i64 (iN q.a)), (20, AV.lst (List.map (AV.int IntKind.i64) q.r)), (21, AV.int IntKind.i64 (iN (List.map (AV.int IntKind.i64) q.r).length)), (22, AV.int IntKind.i64 0)] []) (TK Try.prog 0 post (loopK (loopC (bodyOf Try.f23) 0) 0))) : ∃ o' st' q', go Try.prog ({ dec := [(16, true)], els := e23g q, calls := cE q, unroll := false } : HT) 0 4000 (.inl (loopC (bodyOf Try.f23) 0)) [] (la23 q) = some (o', st', q') ∧ q' ∧ Go.AX.Rest Try.prog 0 post st' o' :=
  endR_spec (σ := []) (fz := []) (vars := [0,1,5,7,13,14,15,20,21,22]) (show endR 0 [] [] [0,1,5,7,13,14,15,20,21,22] (go Try.prog ({ dec := [(16, true)], els := e23g q, calls := cE q, unroll := false } : HT) 0 4000 (.inl (loopC (bodyOf Try.f23) 0)) [] (la23 q)) = some (loopC (loopC (bodyOf Try.f23) 0) 0, loopK (loopC (bodyOf Try.f23) 0) 0, St.mk 48 [(0, AV.lst (gL q.g)), (1, AV.lst (boL q.s)), (5, AV.int IntKind.i64 (iN q.a)), (7, AV.int IntKind.i64 (-1)), (13, AV.lst (gL q.g)), (14, AV.int IntKind.i64 (iN q.g.length)), (15, AV.int IntKind.i64 (iN q.a)), (20, AV.lst (List.map (AV.int IntKind.i64) q.r)), (21, AV.int IntKind.i64 (iN (List.map (AV.int IntKind.i64) q.r).length)), (22, AV.int IntKind.i64 0)] [], ((((True ∧ (True ∧ True)) ∧ True) ∧ ((type_of% h1) ∧ (((True ∧ True) ∧ ((True ∧ (True ∧ ((type_of% h2) ∧ (type_of% h3)))) ∧ ((True ∧ True) ∧ ((True ∧ True) ∧ ((True ∧ True) ∧ True))))) ∧ ((True ∧ True) ∧ (((True ∧ True) ∧ ((True ∧ True) ∧ (True ∧ True))) ∧ True))))) ∧ (True ∧ (True ∧ (True ∧ (True ∧ (True ∧ (True ∧ (True ∧ (True ∧ (True ∧ (True ∧ True)))))))))))) by kernel_rfl) ⟨⟨⟨⟨trivial, ⟨trivial, trivial⟩⟩, trivial⟩, ⟨h1, ⟨⟨⟨trivial, trivial⟩, ⟨⟨trivial, ⟨trivial, ⟨h2, h3⟩⟩⟩, ⟨⟨trivial, trivial⟩, ⟨⟨trivial, trivial⟩, ⟨⟨trivial, trivial⟩, trivial⟩⟩⟩⟩⟩, ⟨⟨trivial, trivial⟩, ⟨⟨⟨trivial, trivial⟩, ⟨⟨trivial, trivial⟩, ⟨trivial, trivial⟩⟩⟩, trivial⟩⟩⟩⟩⟩, ⟨trivial, ⟨trivial, ⟨trivial, ⟨trivial, ⟨trivial, ⟨trivial, ⟨trivial, ⟨trivial, ⟨trivial, ⟨trivial, trivial⟩⟩⟩⟩⟩⟩⟩⟩⟩⟩⟩ ht
theorem hcbx_0 (q : QE) (h1 : (decide (iN q.i < iN q.r.length) = false)) {post : Exit → St → Prop} {R : St → Prop} (hR : ∀ st, Ren 0 st (St.mk 48 [(0, AV.lst (gL q.g)), (1, AV.lst (boL q.s)), (13, AV.lst (gL q.g)), (14, AV.int IntKind.i64 (iN q.g.length)), (15, AV.int IntKind.i64 (IntKind.i64.wrap (iN q.a + 1)))] []) → R st) : ∃ o' st' q', go2 Try.prog ({ dec := [(23, false)], els := e23g q, calls := cE q, unroll := false } : HT) 0 4000 (loopC (loopC (bodyOf Try.f23) 0) 0) (loopK (loopC (bodyOf Try.f23) 0) 0) (lb23 q) = some (o', st', q') ∧ q' ∧ Go.AX.Rest Try.prog 0 (andThen R post) st' o' :=
  endN_spec (σ := []) (fz := []) (vars := [0,1,13,14,15]) (show endN 0 [] [] [0,1,13,14,15] (go2 Try.prog ({ dec := [(23, false)], els := e23g q, calls := cE q, unroll := false } : HT) 0 4000 (loopC (loopC (bodyOf Try.f23) 0) 0) (loopK (loopC (bodyOf Try.f23) 0) 0) (lb23 q)) = some (St.mk 48 [(0, AV.lst (gL q.g)), (1, AV.lst (boL q.s)), (13, AV.lst (gL q.g)), (14, AV.int IntKind.i64 (iN q.g.length)), (15, AV.int IntKind.i64 (IntKind.i64.wrap (iN q.a + 1)))] [], (((((True ∧ (True ∧ True)) ∧ True) ∧ ((type_of% h1) ∧ True)) ∧ (((True ∧ True) ∧ ((True ∧ True) ∧ True)) ∧ True)) ∧ (True ∧ (True ∧ (True ∧ (True ∧ (True ∧ True))))))) by kernel_rfl) ⟨⟨⟨⟨⟨trivial, ⟨trivial, trivial⟩⟩, trivial⟩, ⟨h1, trivial⟩⟩, ⟨⟨⟨trivial, trivial⟩, ⟨⟨trivial, trivial⟩, trivial⟩⟩, trivial⟩⟩, ⟨trivial, ⟨trivial, ⟨trivial, ⟨trivial, ⟨trivial, trivial⟩⟩⟩⟩⟩⟩ hR
theorem hcbr_0 (q : QE) (h1 : (decide (iN q.i < iN q.r.length) = true)) (h2 : (0 ≤ iN q.i)) (h3 : ((List.map (AV.int IntKind.i64) q.r)[(iN q.i).toNat]? = some (AV.int IntKind.i64 q.y))) (h4 : (decide (q.y ≤ q.x) = true)) {post : Exit → St → Prop} (hP : Pass post (Fin Try.prog Try.f23 0 [] (AV.int IntKind.i64 20))) : ∃ o' st' q', go2 Try.prog ({ dec := [(23, true), (29, true)], els := e23g q, calls := cE q, unroll := false } : HT) 0 4000 (loopC (loopC (bodyOf Try.f23) 0) 0) (loopK (loopC (bodyOf Try.f23) 0) 0) (lb23 q) = some (o', st', q') ∧ q' ∧ Go.AX.Rest Try.prog 0 post st' o' :=
  endT_spec (σ := []) (fz := []) (show endT Try.prog Try.f23 0 [] [] (go2 Try.prog ({ dec := [(23, true), (29, true)], els := e23g q, calls := cE q, unroll := false } : HT) 0 4000 (loopC (loopC (bodyOf Try.f23) 0) 0) (loopK (loopC (bodyOf Try.f23) 0) 0) (lb23 q)) = some ([], AV.int IntKind.i64 20, (((((True ∧ (True ∧ True)) ∧ True) ∧ ((type_of% h1) ∧ (((True ∧ (True ∧ ((type_of% h2) ∧ (type_of% h3)))) ∧ ((True ∧ True) ∧ ((True ∧ True) ∧ True))) ∧ (((True ∧ True) ∧ ((True ∧ True) ∧ ((True ∧ (True ∧ True)) ∧ ((True ∧ True) ∧ ((type_of% h4) ∧ ((type_of% h4) ∧ ((type_of% h4) ∧ ((type_of% h4) ∧ (((type_of% h4) ∧ (True ∧ True)) ∧ ((True ∧ True) ∧ (True ∧ (True ∧ (True ∧ ((True ∧ (True ∧ True)) ∧ True)))))))))))))) ∧ (True ∧ ((True ∧ True) ∧ True)))))) ∧ True) ∧ (True ∧ True))) by kernel_rfl) ⟨⟨⟨⟨⟨trivial, ⟨trivial, trivial⟩⟩, trivial⟩, ⟨h1, ⟨⟨⟨trivial, ⟨trivial, ⟨h2, h3⟩⟩⟩, ⟨⟨trivial, trivial⟩, ⟨⟨trivial, trivial⟩, trivial⟩⟩⟩, ⟨⟨⟨trivial, trivial⟩, ⟨⟨trivial, trivial⟩, ⟨⟨trivial, ⟨trivial, trivial⟩⟩, ⟨⟨trivial, trivial⟩, ⟨h4, ⟨h4, ⟨h4, ⟨h4, ⟨⟨h4, ⟨trivial, trivial⟩⟩, ⟨⟨trivial, trivial⟩, ⟨trivial, ⟨trivial, ⟨trivial, ⟨⟨trivial, ⟨trivial, trivial⟩⟩, trivial⟩⟩⟩⟩⟩⟩⟩⟩⟩⟩⟩⟩⟩⟩, ⟨trivial, ⟨⟨trivial, trivial⟩, trivial⟩⟩⟩⟩⟩⟩, trivial⟩, ⟨trivial, trivial⟩⟩ hP
theorem hcbr_1 (q : QE) (h1 : (decide (iN q.i < iN q.r.length) = true)) (h2 : (0 ≤ iN q.i)) (h3 : ((List.map (AV.int IntKind.i64) q.r)[(iN q.i).toNat]? = some (AV.int IntKind.i64 q.y))) (h4 : (decide (q.y ≤ q.x) = false)) (h5 : (decide (iN (gL q.g).length ≤ q.y) = true)) {post : Exit → St → Prop} (hP : Pass post (Fin Try.prog Try.f23 0 [] (AV.int IntKind.i64 20))) : ∃ o' st' q', go2 Try.prog ({ dec := [(23, true), (29, false), (35, true)], els := e23g q, calls := cE q, unroll := false } : HT) 0 4000 (loopC (loopC (bodyOf Try.f23) 0) 0) (loopK (loopC (bodyOf Try.f23) 0) 0) (lb23 q) = some (o', st', q') ∧ q' ∧ Go.AX.Rest Try.prog 0 post st' o' :=
  endT_spec (σ := []) (fz := []) (show endT Try.prog Try.f23 0 [] [] (go2 Try.prog ({ dec := [(23, true), (29, false), (35, true)], els := e23g q, calls := cE q, unroll := false } : HT) 0 4000 (loopC (loopC (bodyOf Try.f23) 0) 0) (loopK (loopC (bodyOf Try.f23) 0) 0) (lb23 q)) = some ([], AV.int IntKind.i64 20, (((((True ∧ (True ∧ True)) ∧ True) ∧ ((type_of% h1) ∧ (((True ∧ (True ∧ ((type_of% h2) ∧ (type_of% h3)))) ∧ ((True ∧ True) ∧ ((True ∧ True) ∧ True))) ∧ (((True ∧ True) ∧ ((True ∧ True) ∧ ((True ∧ (True ∧ True)) ∧ ((True ∧ True) ∧ (((type_of% h4) ∧ (True ∧ True)) ∧ (((type_of% h4) ∧ (True ∧ True)) ∧ (((type_of% h4) ∧ (True ∧ True)) ∧ (((type_of% h4) ∧ (True ∧ (True ∧ True))) ∧ (((type_of% h4) ∧ (True ∧ True)) ∧ ((True ∧ True) ∧ ((type_of% h5) ∧ ((type_of% h5) ∧ ((type_of% h5) ∧ (((type_of% h5) ∧ (True ∧ True)) ∧ True)))))))))))))) ∧ (True ∧ ((True ∧ True) ∧ True)))))) ∧ True) ∧ (True ∧ True))) by kernel_rfl) ⟨⟨⟨⟨⟨trivial, ⟨trivial, trivial⟩⟩, trivial⟩, ⟨h1, ⟨⟨⟨trivial, ⟨trivial, ⟨h2, h3⟩⟩⟩, ⟨⟨trivial, trivial⟩, ⟨⟨trivial, trivial⟩, trivial⟩⟩⟩, ⟨⟨⟨trivial, trivial⟩, ⟨⟨trivial, trivial⟩, ⟨⟨trivial, ⟨trivial, trivial⟩⟩, ⟨⟨trivial, trivial⟩, ⟨⟨h4, ⟨trivial, trivial⟩⟩, ⟨⟨h4, ⟨trivial, trivial⟩⟩, ⟨⟨h4, ⟨trivial, trivial⟩⟩, ⟨⟨h4, ⟨trivial, ⟨trivial, trivial⟩⟩⟩, ⟨⟨h4, ⟨trivial, trivial⟩⟩, ⟨⟨trivial, trivial⟩, ⟨h5, ⟨h5, ⟨h5, ⟨⟨h5, ⟨trivial, trivial⟩⟩, trivial⟩⟩⟩⟩⟩⟩⟩⟩⟩⟩⟩⟩⟩⟩, ⟨trivial, ⟨⟨trivial, trivial⟩, trivial⟩⟩⟩⟩⟩⟩, trivial⟩, ⟨trivial, trivial⟩⟩ hP
theorem hcbr_2 (q : QE) (h1 : (decide (iN q.i < iN q.r.length) = true)) (h2 : (0 ≤ iN q.i)) (h3 : ((List.map (AV.int IntKind.i64) q.r)[(iN q.i).toNat]? = some (AV.int IntKind.i64 q.y))) (h4 : (decide (q.y ≤ q.x) = false)) (h5 : (decide (iN (gL q.g).length ≤ q.y) = false)) (h6 : ((q.y == iN q.a) = true)) {post : Exit → St → Prop} (hP : Pass post (Fin Try.prog Try.f23 0 [] (AV.int IntKind.i64 20))) : ∃ o' st' q', go2 Try.prog ({ dec := [(23, true), (29, false), (35, false), (39, true)], els := e23g q, calls := cE q, unroll := false } : HT) 0 4000 (loopC (loopC (bodyOf Try.f23) 0) 0) (loopK (loopC (bodyOf Try.f23) 0) 0) (lb23 q) = some (o', st', q') ∧ q' ∧ Go.AX.Rest Try.prog 0 post st' o' :=
  endT_spec (σ := []) (fz := []) (show endT Try.prog Try.f23 0 [] [] (go2 Try.prog ({ dec := [(23, true), (29, false), (35, false), (39, true)], els := e23g q, calls := cE q, unroll := false } : HT) 0 4000 (loopC (loopC (bodyOf Try.f23) 0) 0) (loopK (loopC (bodyOf Try.f23) 0) 0) (lb23 q)) = some ([], AV.int IntKind.i64 20, (((((True ∧ (True ∧ True)) ∧ True) ∧ ((type_of% h1) ∧ (((True ∧ (True ∧ ((type_of% h2) ∧ (type_of% h3)))) ∧ ((True ∧ True) ∧ ((True ∧ True) ∧ True))) ∧ (((True ∧ True) ∧ ((True ∧ True) ∧ ((True ∧ (True ∧ True)) ∧ ((True ∧ True) ∧ (((type_of% h4) ∧ (True ∧ True)) ∧ (((type_of% h4) ∧ (True ∧ True)) ∧ (((type_of% h4) ∧ (True ∧ True)) ∧ (((type_of% h4) ∧ (True ∧ (True ∧ True))) ∧ (((type_of% h4) ∧ (True ∧ True)) ∧ ((True ∧ True) ∧ (((type_of% h5) ∧ (True ∧ True)) ∧ (((type_of% h5) ∧ (True ∧ True)) ∧ (((type_of% h5) ∧ (True ∧ (True ∧ True))) ∧ (((type_of% h5) ∧ (True ∧ True)) ∧ True)))))))))))))) ∧ ((type_of% h6) ∧ ((True ∧ True) ∧ True)))))) ∧ True) ∧ (True ∧ True))) by kernel_rfl) ⟨⟨⟨⟨⟨trivial, ⟨trivial, trivial⟩⟩, trivial⟩, ⟨h1, ⟨⟨⟨trivial, ⟨trivial, ⟨h2, h3⟩⟩⟩, ⟨⟨trivial, trivial⟩, ⟨⟨trivial, trivial⟩, trivial⟩⟩⟩, ⟨⟨⟨trivial, trivial⟩, ⟨⟨trivial, trivial⟩, ⟨⟨trivial, ⟨trivial, trivial⟩⟩, ⟨⟨trivial, trivial⟩, ⟨⟨h4, ⟨trivial, trivial⟩⟩, ⟨⟨h4, ⟨trivial, trivial⟩⟩, ⟨⟨h4, ⟨trivial, trivial⟩⟩, ⟨⟨h4, ⟨trivial, ⟨trivial, trivial⟩⟩⟩, ⟨⟨h4, ⟨trivial, trivial⟩⟩, ⟨⟨trivial, trivial⟩, ⟨⟨h5, ⟨trivial, trivial⟩⟩, ⟨⟨h5, ⟨trivial, trivial⟩⟩, ⟨⟨h5, ⟨trivial, ⟨trivial, trivial⟩⟩⟩, ⟨⟨h5, ⟨trivial, trivial⟩⟩, trivial⟩⟩⟩⟩⟩⟩⟩⟩⟩⟩⟩⟩⟩⟩, ⟨h6, ⟨⟨trivial, trivial⟩, trivial⟩⟩⟩⟩⟩⟩, trivial⟩, ⟨trivial, trivial⟩⟩ hP
theorem hcbr_3 (q : QE) (h1 : (decide (iN q.i < iN q.r.length) = true)) (h2 : (0 ≤ iN q.i)) (h3 : ((List.map (AV.int IntKind.i64) q.r)[(iN q.i).toNat]? = some (AV.int IntKind.i64 q.y))) (h4 : (decide (q.y ≤ q.x) = false)) (h5 : (decide (iN (gL q.g).length ≤ q.y) = false)) (h6 : ((q.y == iN q.a) = false)) {post : Exit → St → Prop} {R : St → Prop} (hR : ∀ st, Ren 0 st (St.mk 48 [(0, AV.lst (gL q.g)), (1, AV.lst (boL q.s)), (5, AV.int IntKind.i64 (iN q.a)), (7, AV.int IntKind.i64 q.y), (13, AV.lst (gL q.g)), (14, AV.int IntKind.i64 (iN q.g.length)), (15, AV.int IntKind.i64 (iN q.a)), (20, AV.lst (List.map (AV.int IntKind.i64) q.r)), (21, AV.int IntKind.i64 (iN q.r.length)), (22, AV.int IntKind.i64 (IntKind.i64.wrap (iN q.i + 1)))] []) → R st) : ∃ o' st' q', go Try.prog ({ dec := [(23, true), (29, false), (35, false), (39, false)], els := e23g q, calls := cE q, unroll := false } : HT) 0 4000 (.inl (loopC (loopC (bodyOf Try.f23) 0) 0)) [] (lb23 q) = some (o', st', q') ∧ q' ∧ Go.AX.Rest Try.prog 0 (andThen R post) st' o' :=
  endN_spec (σ := []) (fz := []) (vars := [0,1,5,7,13,14,15,20,21,22]) (show endN 0 [] [] [0,1,5,7,13,14,15,20,21,22] (go Try.prog ({ dec := [(23, true), (29, false), (35, false), (39, false)], els := e23g q, calls := cE q, unroll := false } : HT) 0 4000 (.inl (loopC (loopC (bodyOf Try.f23) 0) 0)) [] (lb23 q)) = some (St.mk 48 [(0, AV.lst (gL q.g)), (1, AV.lst (boL q.s)), (5, AV.int IntKind.i64 (iN q.a)), (7, AV.int IntKind.i64 q.y), (13, AV.lst (gL q.g)), (14, AV.int IntKind.i64 (iN q.g.length)), (15, AV.int IntKind.i64 (iN q.a)), (20, AV.lst (List.map (AV.int IntKind.i64) q.r)), (21, AV.int IntKind.i64 (iN q.r.length)), (22, AV.int IntKind.i64 (IntKind.i64.wrap (iN q.i + 1)))] [], ((((True ∧ (True ∧ True)) ∧ True) ∧ ((type_of% h1) ∧ (((True ∧ (True ∧ ((type_of% h2) ∧ (type_of% h3)))) ∧ ((True ∧ True) ∧ ((True ∧ True) ∧ True))) ∧ (((True ∧ True) ∧ ((True ∧ True) ∧ ((True ∧ (True ∧ True)) ∧ ((True ∧ True) ∧ (((type_of% h4) ∧ (True ∧ True)) ∧ (((type_of% h4) ∧ (True ∧ True)) ∧ (((type_of% h4) ∧ (True ∧ True)) ∧ (((type_of% h4) ∧ (True ∧ (True ∧ True))) ∧ (((type_of% h4) ∧ (True ∧ True)) ∧ ((True ∧ True) ∧ (((type_of% h5) ∧ (True ∧ True)) ∧ (((type_of% h5) ∧ (True ∧ True)) ∧ (((type_of% h5) ∧ (True ∧ (True ∧ True))) ∧ (((type_of% h5) ∧ (True ∧ True)) ∧ True)))))))))))))) ∧ ((type_of% h6) ∧ (((True ∧ True) ∧ ((True ∧ True) ∧ True)) ∧ (((True ∧ True) ∧ ((True ∧ True) ∧ True)) ∧ True))))))) ∧ (True ∧ (True ∧ (True ∧ (True ∧ (True ∧ (True ∧ (True ∧ (True ∧ (True ∧ (True ∧ True)))))))))))) by kernel_rfl) ⟨⟨⟨⟨trivial, ⟨trivial, trivial⟩⟩, trivial⟩, ⟨h1, ⟨⟨⟨trivial, ⟨trivial, ⟨h2, h3⟩⟩⟩, ⟨⟨trivial, trivial⟩, ⟨⟨trivial, trivial⟩, trivial⟩⟩⟩, ⟨⟨⟨trivial, trivial⟩, ⟨⟨trivial, trivial⟩, ⟨⟨trivial, ⟨trivial, trivial⟩⟩, ⟨⟨trivial, trivial⟩, ⟨⟨h4, ⟨trivial, trivial⟩⟩, ⟨⟨h4, ⟨trivial, trivial⟩⟩, ⟨⟨h4, ⟨trivial, trivial⟩⟩, ⟨⟨h4, ⟨trivial, ⟨trivial, trivial⟩⟩⟩, ⟨⟨h4, ⟨trivial, trivial⟩⟩, ⟨⟨trivial, trivial⟩, ⟨⟨h5, ⟨trivial, trivial⟩⟩, ⟨⟨h5, ⟨trivial, trivial⟩⟩, ⟨⟨h5, ⟨trivial, ⟨trivial, trivial⟩⟩⟩, ⟨⟨h5, ⟨trivial, trivial⟩⟩, trivial⟩⟩⟩⟩⟩⟩⟩⟩⟩⟩⟩⟩⟩⟩, ⟨h6, ⟨⟨⟨trivial, trivial⟩, ⟨⟨trivial, trivial⟩, trivial⟩⟩, ⟨⟨⟨trivial, trivial⟩, ⟨⟨trivial, trivial⟩, trivial⟩⟩, trivial⟩⟩⟩⟩⟩⟩⟩, ⟨trivial, ⟨trivial, ⟨trivial, ⟨trivial, ⟨trivial, ⟨trivial, ⟨trivial, ⟨trivial, ⟨trivial, ⟨trivial, trivial⟩⟩⟩⟩⟩⟩⟩⟩⟩⟩⟩ hR
theorem gi_0 (q : QE) (h1 : (CT Try.prog 23 [] [AV.lst (gL q.g), AV.lst (boL q.s)] [] (AV.int IntKind.i64 q.e))) (h2 : ((q.e != 0) = true)) : ∃ o' st' q', go Try.prog ({ dec := [(15, true)], els := eN q, calls := cE q, unroll := false } : HT) 0 4000 (.inl (bodyOf Try.f12)) [] (st12 q) = some (o', st', q') ∧ q' ∧ Go.AX.Rest Try.prog 0 (Fin Try.prog Try.f12 0 [] (AV.tup [AV.int IntKind.i64 0, AV.nils, AV.int IntKind.i64 q.e])) st' o' :=
  endF_spec (σ := []) (fz := []) (show endF Try.prog Try.f12 0 [] [] (go Try.prog ({ dec := [(15, true)], els := eN q, calls := cE q, unroll := false } : HT) 0 4000 (.inl (bodyOf Try.f12)) [] (st12 q)) = some ([], AV.tup [AV.int IntKind.i64 0, AV.nils, AV.int IntKind.i64 q.e], (((True ∧ (True ∧ (True ∧ True))) ∧ (((True ∧ True) ∧ ((True ∧ True) ∧ ((True ∧ (True ∧ (True ∧ (True ∧ ((type_of% h1) ∧ True))))) ∧ ((True ∧ True) ∧ True)))) ∧ (((True ∧ True) ∧ ((True ∧ True) ∧ True)) ∧ ((type_of% h2) ∧ (((True ∧ True) ∧ (True ∧ (True ∧ ((True ∧ True) ∧ True)))) ∧ True))))) ∧ ((True ∧ (True ∧ (True ∧ True))) ∧ True))) by kernel_rfl) ⟨⟨⟨trivial, ⟨trivial, ⟨trivial, trivial⟩⟩⟩, ⟨⟨⟨trivial, trivial⟩, ⟨⟨trivial, trivial⟩, ⟨⟨trivial, ⟨trivial, ⟨trivial, ⟨trivial, ⟨h1, trivial⟩⟩⟩⟩⟩, ⟨⟨trivial, trivial⟩, trivial⟩⟩⟩⟩, ⟨⟨⟨trivial, trivial⟩, ⟨⟨trivial, trivial⟩, trivial⟩⟩, ⟨h2, ⟨⟨⟨trivial, trivial⟩, ⟨trivial, ⟨trivial, ⟨⟨trivial, trivial⟩, trivial⟩⟩⟩⟩, trivial⟩⟩⟩⟩⟩, ⟨⟨trivial, ⟨trivial, ⟨trivial, trivial⟩⟩⟩, trivial⟩⟩
theorem gi_1 (q : QE) (h1 : (CT Try.prog 23 [] [AV.lst (gL q.g), AV.lst (boL q.s)] [] (AV.int IntKind.i64 q.e))) (h2 : ((q.e != 0) = false)) {post : Exit → St → Prop} (ht : T Try.prog 0 (.loop (loopC (bodyOf Try.f12) 0)) (St.mk 45 [(0, AV.lst (gL q.g)), (1, AV.lst (boL q.s)), (8, AV.nils), (18, AV.int IntKind.i64 (iN (gL q.g).length)), (19, AV.int IntKind.i64 0)] []) (TK Try.prog 0 post (loopK (bodyOf Try.f12) 0))) : ∃ o' st' q', go Try.prog ({ dec := [(15, false)], els := eN q, calls := cE q, unroll := false } : HT) 0 4000 (.inl (bodyOf Try.f12)) [] (st12 q) = some (o', st', q') ∧ q' ∧ Go.AX.Rest Try.prog 0 post st' o' :=
  endR_spec (σ := []) (fz := []) (vars := [0,1,8,18,19]) (show endR 0 [] [] [0,1,8,18,19] (go Try.prog ({ dec := [(15, false)], els := eN q, calls := cE q, unroll := false } : HT) 0 4000 (.inl (bodyOf Try.f12)) [] (st12 q)) = some (loopC (bodyOf Try.f12) 0, loopK (bodyOf Try.f12) 0, St.mk 45 [(0, AV.lst (gL q.g)), (1, AV.lst (boL q.s)), (8, AV.nils), (18, AV.int IntKind.i64 (iN (gL q.g).length)), (19, AV.int IntKind.i64 0)] [], (((True ∧ (True ∧ (True ∧ True))) ∧ (((True ∧ True) ∧ ((True ∧ True) ∧ ((True ∧ (True ∧ (True ∧ (True ∧ ((type_of% h1) ∧ True))))) ∧ ((True ∧ True) ∧ True)))) ∧ (((True ∧ True) ∧ ((True ∧ True) ∧ True)) ∧ ((type_of% h2) ∧ ((True ∧ True) ∧ (((True ∧ True) ∧ ((True ∧ True) ∧ (True ∧ True))) ∧ True)))))) ∧ (True ∧ (True ∧ (True ∧ (True ∧ (True ∧ True))))))) by kernel_rfl) ⟨⟨⟨trivial, ⟨trivial, ⟨trivial, trivial⟩⟩⟩, ⟨⟨⟨trivial, trivial⟩, ⟨⟨trivial, trivial⟩, ⟨⟨trivial, ⟨trivial, ⟨trivial, ⟨trivial, ⟨h1, trivial⟩⟩⟩⟩⟩, ⟨⟨trivial, trivial⟩, trivial⟩⟩⟩⟩, ⟨⟨⟨trivial, trivial⟩, ⟨⟨trivial, trivial⟩, trivial⟩⟩, ⟨h2, ⟨⟨trivial, trivial⟩, ⟨⟨⟨trivial, trivial⟩, ⟨⟨trivial, trivial⟩, ⟨trivial, trivial⟩⟩⟩, trivial⟩⟩⟩⟩⟩⟩, ⟨trivial, ⟨trivial, ⟨trivial, ⟨trivial, ⟨trivial, trivial⟩⟩⟩⟩⟩⟩ ht
theorem gax_0 (q : QE) (h1 : (decide (iN q.i < iN q.g.length) = false)) : ∃ o' st' q', go2 Try.prog ({ dec := [(20, false)], els := eN q, calls := cE q, unroll := false } : HT) 0 4000 (loopC (bodyOf Try.f12) 0) (loopK (bodyOf Try.f12) 0) (la12 q) = some (o', st', q') ∧ q' ∧ Go.AX.Rest Try.prog 0 (Fin Try.prog Try.f12 0 [] (AV.tup [AV.int IntKind.i64 0, AV.nils, AV.int IntKind.i64 0])) st' o' :=
  endF_spec (σ := []) (fz := []) (show endF Try.prog Try.f12 0 [] [] (go2 Try.prog ({ dec := [(20, false)], els := eN q, calls := cE q, unroll := false } : HT) 0 4000 (loopC (bodyOf Try.f12) 0) (loopK (bodyOf Try.f12) 0) (la12 q)) = some ([], AV.tup [AV.int IntKind.i64 0, AV.nils, AV.int IntKind.i64 0], (((((True ∧ (True ∧ True)) ∧ True) ∧ ((type_of% h1) ∧ True)) ∧ (((True ∧ True) ∧ ((True ∧ True) ∧ ((True ∧ True) ∧ ((True ∧ True) ∧ ((True ∧ True) ∧ (True ∧ True)))))) ∧ True)) ∧ ((True ∧ (True ∧ (True ∧ True))) ∧ True))) by kernel_rfl) ⟨⟨⟨⟨⟨trivial, ⟨trivial, trivial⟩⟩, trivial⟩, ⟨h1, trivial⟩⟩, ⟨⟨⟨trivial, trivial⟩, ⟨⟨trivial, trivial⟩, ⟨⟨trivial, trivial⟩, ⟨⟨trivial, trivial⟩, ⟨⟨trivial, trivial⟩, ⟨trivial, trivial⟩⟩⟩⟩⟩⟩, trivial⟩⟩, ⟨⟨trivial, ⟨trivial, ⟨trivial, trivial⟩⟩⟩, trivial⟩⟩
theorem gbx_0 (q : QE) (h1 : (decide (iN q.i < iN q.g.length) = false)) : ∃ o' st' q', go2 Try.prog ({ dec := [(20, false)], els := eN q, calls := cE q, unroll := false } : HT) 0 4000 (loopC (bodyOf Try.f12) 0) (loopK (bodyOf Try.f12) 0) (lb12 q) = some (o', st', q') ∧ q' ∧ Go.AX.Rest Try.prog 0 (Fin Try.prog Try.f12 0 [] (AV.tup [AV.int IntKind.i64 (iN (List.map (AV.int IntKind.i64) q.o).length), AV.lst (List.map (AV.int IntKind.i64) q.o), AV.int IntKind.i64 0])) st' o' :=
  endF_spec (σ := []) (fz := []) (show endF Try.prog Try.f12 0 [] [] (go2 Try.prog ({ dec := [(20, false)], els := eN q, calls := cE q, unroll := false } : HT) 0 4000 (loopC (bodyOf Try.f12) 0) (loopK (bodyOf Try.f12) 0) (lb12 q)) = some ([], AV.tup [AV.int IntKind.i64 (iN (List.map (AV.int IntKind.i64) q.o).length), AV.lst (List.map (AV.int IntKind.i64) q.o), AV.int IntKind.i64 0], (((((True ∧ (True ∧ True)) ∧ True) ∧ ((type_of% h1) ∧ True)) ∧ (((True ∧ True) ∧ ((True ∧ True) ∧ ((True ∧ True) ∧ ((True ∧ True) ∧ ((True ∧ True) ∧ (True ∧ True)))))) ∧ True)) ∧ ((True ∧ (True ∧ (True ∧ True))) ∧ True))) by kernel_rfl) ⟨⟨⟨⟨⟨trivial, ⟨trivial, trivial⟩⟩, trivial⟩, ⟨h1, trivial⟩⟩, ⟨⟨⟨trivial, trivial⟩, ⟨⟨trivial, trivial⟩, ⟨⟨trivial, trivial⟩, ⟨⟨trivial, trivial⟩, ⟨⟨trivial, trivial⟩, ⟨trivial, trivial⟩⟩⟩⟩⟩⟩, trivial⟩⟩, ⟨⟨trivial, ⟨trivial, ⟨trivial, trivial⟩⟩⟩, trivial⟩⟩
theorem gar_0 (q : QE) (h1 : (decide (iN q.i < iN q.g.length) = true)) (h2 : (CT Try.prog 24 [] [AV.lst (gL q.g), AV.lst (boL q.s), AV.int IntKind.i64 (iN q.i)] [] (AV.lst (List.map (AV.int IntKind.i64) q.p)))) (h3 : (decide (0 < iN (List.map (AV.int IntKind.i64) q.p).length) = true)) {post : Exit → St → Prop} {R : St → Prop} (hR : ∀ st, Ren 0 st (St.mk 45 [(0, AV.lst (gL q.g)), (1, AV.lst (boL q.s)), (8, AV.lst (List.map (AV.int IntKind.i64) q.p)), (18, AV.int IntKind.i64 (iN q.g.length)), (19, AV.int IntKind.i64 (IntKind.i64.wrap (iN q.i + 1)))] []) → R st) : ∃ o' st' q', go Try.prog ({ dec := [(20, true), (29, true)], els := eN q, calls := cE q, unroll := false } : HT) 0 4000 (.inl (loopC (bodyOf Try.f12) 0)) [] (la12 q) = some (o', st', q') ∧ q' ∧ Go.AX.Rest Try.prog 0 (andThen R post) st' o' :=
  endN_spec (σ := []) (fz := []) (vars := [0,1,8,18,19]) (show endN 0 [] [] [0,1,8,18,19] (go Try.prog ({ dec := [(20, true), (29, true)], els := eN q, calls := cE q, unroll := false } : HT) 0 4000 (.inl (loopC (bodyOf Try.f12) 0)) [] (la12 q)) = some (St.mk 45 [(0, AV.lst (gL q.g)), (1, AV.lst (boL q.s)), (8, AV.lst (List.map (AV.int IntKind.i64) q.p)), (18, AV.int IntKind.i64 (iN q.g.length)), (19, AV.int IntKind.i64 (IntKind.i64.wrap (iN q.i + 1)))] [], ((((True ∧ (True ∧ True)) ∧ True) ∧ ((type_of% h1) ∧ (((True ∧ True) ∧ ((True ∧ True) ∧ True)) ∧ (((True ∧ True) ∧ ((True ∧ True) ∧ ((True ∧ True) ∧ ((True ∧ (True ∧ (True ∧ (True ∧ (True ∧ (True ∧ ((type_of% h2) ∧ True))))))) ∧ ((True ∧ True) ∧ True))))) ∧ (((True ∧ True) ∧ ((True ∧ True) ∧ ((True ∧ True) ∧ ((True ∧ True) ∧ (((type_of% h3) ∧ (True ∧ True)) ∧ (((type_of% h3) ∧ (True ∧ True)) ∧ (((type_of% h3) ∧ (True ∧ True)) ∧ (True ∧ (True ∧ (True ∧ (True ∧ (True ∧ (((type_of% h3) ∧ (True ∧ (True ∧ True))) ∧ (((type_of% h3) ∧ (True ∧ True)) ∧ True)))))))))))))) ∧ (True ∧ (((True ∧ True) ∧ ((True ∧ True) ∧ True)) ∧ (((True ∧ True) ∧ ((True ∧ True) ∧ True)) ∧ True)))))))) ∧ (True ∧ (True ∧ (True ∧ (True ∧ (True ∧ True))))))) by kernel_rfl) ⟨⟨⟨⟨trivial, ⟨trivial, trivial⟩⟩, trivial⟩, ⟨h1, ⟨⟨⟨trivial, trivial⟩, ⟨⟨trivial, trivial⟩, trivial⟩⟩, ⟨⟨⟨trivial, trivial⟩, ⟨⟨trivial, trivial⟩, ⟨⟨trivial, trivial⟩, ⟨⟨trivial, ⟨trivial, ⟨trivial, ⟨trivial, ⟨trivial, ⟨trivial, ⟨h2, trivial⟩⟩⟩⟩⟩⟩⟩, ⟨⟨trivial, trivial⟩, trivial⟩⟩⟩⟩⟩, ⟨⟨⟨trivial, trivial⟩, ⟨⟨trivial, trivial⟩, ⟨⟨trivial, trivial⟩, ⟨⟨trivial, trivial⟩, ⟨⟨h3, ⟨trivial, trivial⟩⟩, ⟨⟨h3, ⟨trivial, trivial⟩⟩, ⟨⟨h3, ⟨trivial, trivial⟩⟩, ⟨trivial, ⟨trivial, ⟨trivial, ⟨trivial, ⟨trivial, ⟨⟨h3, ⟨trivial, ⟨trivial, trivial⟩⟩⟩, ⟨⟨h3, ⟨trivial, trivial⟩⟩, trivial⟩⟩⟩⟩⟩⟩⟩⟩⟩⟩⟩⟩⟩⟩, ⟨trivial, ⟨⟨⟨trivial, trivial⟩, ⟨⟨trivial, trivial⟩, trivial⟩⟩, ⟨⟨⟨trivial, trivial⟩, ⟨⟨trivial, trivial⟩, trivial⟩⟩, trivial⟩⟩⟩⟩⟩⟩⟩⟩, ⟨trivial, ⟨trivial, ⟨trivial, ⟨trivial, ⟨trivial, trivial⟩⟩⟩⟩⟩⟩ hR
theorem gar_1 (q : QE) (h1 : (decide (iN q.i < iN q.g.length) = true)) (h2 : (CT Try.prog 24 [] [AV.lst (gL q.g), AV.lst (boL q.s), AV.int IntKind.i64 (iN q.i)] [] (AV.lst (List.map (AV.int IntKind.i64) q.p)))) (h3 : (decide (0 < iN (List.map (AV.int IntKind.i64) q.p).length) = false)) {post : Exit → St → Prop} {R : St → Prop} (hR : ∀ st, Ren 0 st (St.mk 45 [(0, AV.lst (gL q.g)), (1, AV.lst (boL q.s)), (8, AV.nils), (18, AV.int IntKind.i64 (iN q.g.length)), (19, AV.int IntKind.i64 (IntKind.i64.wrap (iN q.i + 1)))] []) → R st) : ∃ o' st' q', go Try.prog ({ dec := [(20, true), (29, false)], els := eN q, calls := cE q, unroll := false } : HT) 0 4000 (.inl (loopC (bodyOf Try.f12) 0)) [] (la12 q) = some (o', st', q') ∧ q' ∧ Go.AX.Rest Try.prog 0 (andThen R post) st' o' :=
  endN_spec (σ := []) (fz := []) (vars := [0,1,8,18,19]) (show endN 0 [] [] [0,1,8,18,19] (go Try.prog ({ dec := [(20, true), (29, false)], els := eN q, calls := cE q, unroll := false } : HT) 0 4000 (.inl (loopC (bodyOf Try.f12) 0)) [] (la12 q)) = some (St.mk 45 [(0, AV.lst (gL q.g)), (1, AV.lst (boL q.s)), (8, AV.nils), (18, AV.int IntKind.i64 (iN q.g.length)), (19, AV.int IntKind.i64 (IntKind.i64.wrap (iN q.i + 1)))] [], ((((True ∧ (True ∧ True)) ∧ True) ∧ ((type_of% h1) ∧ (((True ∧ True) ∧ ((True ∧ True) ∧ True)) ∧ (((True ∧ True) ∧ ((True ∧ True) ∧ ((True ∧ True) ∧ ((True ∧ (True ∧ (True ∧ (True ∧ (True ∧ (True ∧ ((type_of% h2) ∧ True))))))) ∧ ((True ∧ True) ∧ True))))) ∧ (((True ∧ True) ∧ ((True ∧ True) ∧ ((True ∧ True) ∧ ((True ∧ True) ∧ ((type_of% h3) ∧ ((type_of% h3) ∧ ((type_of% h3) ∧ (True ∧ (True ∧ (True ∧ (True ∧ (True ∧ ((type_of% h3) ∧ (((type_of% h3) ∧ (True ∧ True)) ∧ True)))))))))))))) ∧ (True ∧ (((True ∧ True) ∧ ((True ∧ True) ∧ True)) ∧ True))))))) ∧ (True ∧ (True ∧ (True ∧ (True ∧ (True ∧ True))))))) by kernel_rfl) ⟨⟨⟨⟨trivial, ⟨trivial, trivial⟩⟩, trivial⟩, ⟨h1, ⟨⟨⟨trivial, trivial⟩, ⟨⟨trivial, trivial⟩, trivial⟩⟩, ⟨⟨⟨trivial, trivial⟩, ⟨⟨trivial, trivial⟩, ⟨⟨trivial, trivial⟩, ⟨⟨trivial, ⟨trivial, ⟨trivial, ⟨trivial, ⟨trivial, ⟨trivial, ⟨h2, trivial⟩⟩⟩⟩⟩⟩⟩, ⟨⟨trivial, trivial⟩, trivial⟩⟩⟩⟩⟩, ⟨⟨⟨trivial, trivial⟩, ⟨⟨trivial, trivial⟩, ⟨⟨trivial, trivial⟩, ⟨⟨trivial, trivial⟩, ⟨h3, ⟨h3, ⟨h3, ⟨trivial, ⟨trivial, ⟨trivial, ⟨trivial, ⟨trivial, ⟨h3, ⟨⟨h3, ⟨trivial, trivial⟩⟩, trivial⟩⟩⟩⟩⟩⟩⟩⟩⟩⟩⟩⟩⟩⟩, ⟨trivial, ⟨⟨⟨trivial, trivial⟩, ⟨⟨trivial, trivial⟩, trivial⟩⟩, trivial⟩⟩⟩⟩⟩⟩⟩, ⟨trivial, ⟨trivial, ⟨trivial, ⟨trivial, ⟨trivial, trivial⟩⟩⟩⟩⟩⟩ hR
theorem gbr_0 (q : QE) (h1 : (decide (iN q.i < iN q.g.length) = true)) (h2 : (CT Try.prog 24 [] [AV.lst (gL q.g), AV.lst (boL q.s), AV.int IntKind.i64 (iN q.i)] [] (AV.lst (List.map (AV.int IntKind.i64) q.p)))) (h3 : (decide (0 < iN (List.map (AV.int IntKind.i64) q.p).length) = true)) (h4 : (List.map (AV.int IntKind.i64) q.o = [] → False)) (h5 : (decide (iN (List.map (AV.int IntKind.i64) q.p).length < iN (List.map (AV.int IntKind.i64) q.o).length) = true)) {post : Exit → St → Prop} {R : St → Prop} (hR : ∀ st, Ren 0 st (St.mk 45 [(0, AV.lst (gL q.g)), (1, AV.lst (boL q.s)), (8, AV.lst (List.map (AV.int IntKind.i64) q.p)), (18, AV.int IntKind.i64 (iN q.g.length)), (19, AV.int IntKind.i64 (IntKind.i64.wrap (iN q.i + 1)))] []) → R st) : ∃ o' st' q', go Try.prog ({ dec := [(20, true), (29, true), (39, true)], els := eN q, calls := cE q, unroll := false } : HT) 0 4000 (.inl (loopC (bodyOf Try.f12) 0)) [] (lb12 q) = some (o', st', q') ∧ q' ∧ Go.AX.Rest Try.prog 0 (andThen R post) st' o' :=
  endN_spec (σ := []) (fz := []) (vars := [0,1,8,18,19]) (show endN 0 [] [] [0,1,8,18,19] (go Try.prog ({ dec := [(20, true), (29, true), (39, true)], els := eN q, calls := cE q, unroll := false } : HT) 0 4000 (.inl (loopC (bodyOf Try.f12) 0)) [] (lb12 q)) = some (St.mk 45 [(0, AV.lst (gL q.g)), (1, AV.lst (boL q.s)), (8, AV.lst (List.map (AV.int IntKind.i64) q.p)), (18, AV.int IntKind.i64 (iN q.g.length)), (19, AV.int IntKind.i64 (IntKind.i64.wrap (iN q.i + 1)))] [], ((((True ∧ (True ∧ True)) ∧ True) ∧ ((type_of% h1) ∧ (((True ∧ True) ∧ ((True ∧ True) ∧ True)) ∧ (((True ∧ True) ∧ ((True ∧ True) ∧ ((True ∧ True) ∧ ((True ∧ (True ∧ (True ∧ (True ∧ (True ∧ (True ∧ ((type_of% h2) ∧ True))))))) ∧ ((True ∧ True) ∧ True))))) ∧ (((True ∧ True) ∧ ((True ∧ True) ∧ ((True ∧ True) ∧ ((True ∧ True) ∧ (((type_of% h3) ∧ (True ∧ True)) ∧ (((type_of% h3) ∧ (True ∧ (type_of% h4))) ∧ (((type_of% h3) ∧ (True ∧ True)) ∧ ((True ∧ (True ∧ True)) ∧ ((True ∧ (True ∧ True)) ∧ ((True ∧ (True ∧ True)) ∧ ((True ∧ (True ∧ True)) ∧ ((True ∧ (True ∧ (True ∧ True))) ∧ (((type_of% h3) ∧ (True ∧ (True ∧ True))) ∧ (((type_of% h3) ∧ (True ∧ True)) ∧ True)))))))))))))) ∧ ((type_of% h5) ∧ (((True ∧ True) ∧ ((True ∧ True) ∧ True)) ∧ (((True ∧ True) ∧ ((True ∧ True) ∧ True)) ∧ True)))))))) ∧ (True ∧ (True ∧ (True ∧ (True ∧ (True ∧ True))))))) by kernel_rfl) ⟨⟨⟨⟨trivial, ⟨trivial, trivial⟩⟩, trivial⟩, ⟨h1, ⟨⟨⟨trivial, trivial⟩, ⟨⟨trivial, trivial⟩, trivial⟩⟩, ⟨⟨⟨trivial, trivial⟩, ⟨⟨trivial, trivial⟩, ⟨⟨trivial, trivial⟩, ⟨⟨trivial, ⟨trivial, ⟨trivial, ⟨trivial, ⟨trivial, ⟨trivial, ⟨h2, trivial⟩⟩⟩⟩⟩⟩⟩, ⟨⟨trivial, trivial⟩, trivial⟩⟩⟩⟩⟩, ⟨⟨⟨trivial, trivial⟩, ⟨⟨trivial, trivial⟩, ⟨⟨trivial, trivial⟩, ⟨⟨trivial, trivial⟩, ⟨⟨h3, ⟨trivial, trivial⟩⟩, ⟨⟨h3, ⟨trivial, h4⟩⟩, ⟨⟨h3, ⟨trivial, trivial⟩⟩, ⟨⟨trivial, ⟨trivial, trivial⟩⟩, ⟨⟨trivial, ⟨trivial, trivial⟩⟩, ⟨⟨trivial, ⟨trivial, trivial⟩⟩, ⟨⟨trivial, ⟨trivial, trivial⟩⟩, ⟨⟨trivial, ⟨trivial, ⟨trivial, trivial⟩⟩⟩, ⟨⟨h3, ⟨trivial, ⟨trivial, trivial⟩⟩⟩, ⟨⟨h3, ⟨trivial, trivial⟩⟩, trivial⟩⟩⟩⟩⟩⟩⟩⟩⟩⟩⟩⟩⟩⟩, ⟨h5, ⟨⟨⟨trivial, trivial⟩, ⟨⟨trivial, trivial⟩, trivial⟩⟩, ⟨⟨⟨trivial, trivial⟩, ⟨⟨trivial, trivial⟩, trivial⟩⟩, trivial⟩⟩⟩⟩⟩⟩⟩⟩, ⟨trivial, ⟨trivial, ⟨trivial, ⟨trivial, ⟨trivial, trivial⟩⟩⟩⟩⟩⟩ hR
theorem gbr_1 (q : QE) (h1 : (decide (iN q.i < iN q.g.length) = true)) (h2 : (CT Try.prog 24 [] [AV.lst (gL q.g), AV.lst (boL q.s), AV.int IntKind.i64 (iN q.i)] [] (AV.lst (List.map (AV.int IntKind.i64) q.p)))) (h3 : (decide (0 < iN (List.map (AV.int IntKind.i64) q.p).length) = true)) (h4 : (List.map (AV.int IntKind.i64) q.o = [] → False)) (h5 : (decide (iN (List.map (AV.int IntKind.i64) q.p).length < iN (List.map (AV.int IntKind.i64) q.o).length) = false)) {post : Exit → St → Prop} {R : St → Prop} (hR : ∀ st, Ren 0 st (St.mk 45 [(0, AV.lst (gL q.g)), (1, AV.lst (boL q.s)), (8, AV.lst (List.map (AV.int IntKind.i64) q.o)), (18, AV.int IntKind.i64 (iN q.g.length)), (19, AV.int IntKind.i64 (IntKind.i64.wrap (iN q.i + 1)))] []) → R st) : ∃ o' st' q', go Try.prog ({ dec := [(20, true), (29, true), (39, false)], els := eN q, calls := cE q, unroll := false } : HT) 0 4000 (.inl (loopC (bodyOf Try.f12) 0)) [] (lb12 q) = some (o', st', q') ∧ q' ∧ Go.AX.Rest Try.prog 0 (andThen R post) st' o' :=
  endN_spec (σ := []) (fz := []) (vars := [0,1,8,18,19]) (show endN 0 [] [] [0,1,8,18,19] (go Try.prog ({ dec := [(20, true), (29, true), (39, false)], els := eN q, calls := cE q, unroll := false } : HT) 0 4000 (.inl (loopC (bodyOf Try.f12) 0)) [] (lb12 q)) = some (St.mk 45 [(0, AV.lst (gL q.g)), (1, AV.lst (boL q.s)), (8, AV.lst (List.map (AV.int IntKind.i64) q.o)), (18, AV.int IntKind.i64 (iN q.g.length)), (19, AV.int IntKind.i64 (IntKind.i64.wrap (iN q.i + 1)))] [], ((((True ∧ (True ∧ True)) ∧ True) ∧ ((type_of% h1) ∧ (((True ∧ True) ∧ ((True ∧ True) ∧ True)) ∧ (((True ∧ True) ∧ ((True ∧ True) ∧ ((True ∧ True) ∧ ((True ∧ (True ∧ (True ∧ (True ∧ (True ∧ (True ∧ ((type_of% h2) ∧ True))))))) ∧ ((True ∧ True) ∧ True))))) ∧ (((True ∧ True) ∧ ((True ∧ True) ∧ ((True ∧ True) ∧ ((True ∧ True) ∧ (((type_of% h3) ∧ (True ∧ True)) ∧ (((type_of% h3) ∧ (True ∧ (type_of% h4))) ∧ (((type_of% h3) ∧ (True ∧ True)) ∧ ((True ∧ (True ∧ True)) ∧ ((True ∧ (True ∧ True)) ∧ ((True ∧ (True ∧ True)) ∧ ((True ∧ (True ∧ True)) ∧ ((True ∧ (True ∧ (True ∧ True))) ∧ (((type_of% h3) ∧ (True ∧ (True ∧ True))) ∧ (((type_of% h3) ∧ (True ∧ True)) ∧ True)))))))))))))) ∧ ((type_of% h5) ∧ (((True ∧ True) ∧ ((True ∧ True) ∧ True)) ∧ True))))))) ∧ (True ∧ (True ∧ (True ∧ (True ∧ (True ∧ True))))))) by kernel_rfl) ⟨⟨⟨⟨trivial, ⟨trivial, trivial⟩⟩, trivial⟩, ⟨h1, ⟨⟨⟨trivial, trivial⟩, ⟨⟨trivial, trivial⟩, trivial⟩⟩, ⟨⟨⟨trivial, trivial⟩, ⟨⟨trivial, trivial⟩, ⟨⟨trivial, trivial⟩, ⟨⟨trivial, ⟨trivial, ⟨trivial, ⟨trivial, ⟨trivial, ⟨trivial, ⟨h2, trivial⟩⟩⟩⟩⟩⟩⟩, ⟨⟨trivial, trivial⟩, trivial⟩⟩⟩⟩⟩, ⟨⟨⟨trivial, trivial⟩, ⟨⟨trivial, trivial⟩, ⟨⟨trivial, trivial⟩, ⟨⟨trivial, trivial⟩, ⟨⟨h3, ⟨trivial, trivial⟩⟩, ⟨⟨h3, ⟨trivial, h4⟩⟩, ⟨⟨h3, ⟨trivial, trivial⟩⟩, ⟨⟨trivial, ⟨trivial, trivial⟩⟩, ⟨⟨trivial, ⟨trivial, trivial⟩⟩, ⟨⟨trivial, ⟨trivial, trivial⟩⟩, ⟨⟨trivial, ⟨trivial, trivial⟩⟩, ⟨⟨trivial, ⟨trivial, ⟨trivial, trivial⟩⟩⟩, ⟨⟨h3, ⟨trivial, ⟨trivial, trivial⟩⟩⟩, ⟨⟨h3, ⟨trivial, trivial⟩⟩, trivial⟩⟩⟩⟩⟩⟩⟩⟩⟩⟩⟩⟩⟩⟩, ⟨h5, ⟨⟨⟨trivial, trivial⟩, ⟨⟨trivial, trivial⟩, trivial⟩⟩, trivial⟩⟩⟩⟩⟩⟩⟩, ⟨trivial, ⟨trivial, ⟨trivial, ⟨trivial, ⟨trivial, trivial⟩⟩⟩⟩⟩⟩ hR
theorem gbr_2 (q : QE) (h1 : (decide (iN q.i < iN q.g.length) = true)) (h2 : (CT Try.prog 24 [] [AV.lst (gL q.g), AV.lst (boL q.s), AV.int IntKind.i64 (iN q.i)] [] (AV.lst (List.map (AV.int IntKind.i64) q.p)))) (h3 : (decide (0 < iN (List.map (AV.int IntKind.i64) q.p).length) = false)) {post : Exit → St → Prop} {R : St → Prop} (hR : ∀ st, Ren 0 st (St.mk 45 [(0, AV.lst (gL q.g)), (1, AV.lst (boL q.s)), (8, AV.lst (List.map (AV.int IntKind.i64) q.o)), (18, AV.int IntKind.i64 (iN q.g.length)), (19, AV.int IntKind.i64 (IntKind.i64.wrap (iN q.i + 1)))] []) → R st) : ∃ o' st' q', go Try.prog ({ dec := [(20, true), (29, false)], els := eN q, calls := cE q, unroll := false } : HT) 0 4000 (.inl (loopC (bodyOf Try.f12) 0)) [] (lb12 q) = some (o', st', q') ∧ q' ∧ Go.AX.Rest Try.prog 0 (andThen R post) st' o' :=
  endN_spec (σ := []) (fz := []) (vars := [0,1,8,18,19]) (show endN 0 [] [] [0,1,8,18,19] (go Try.prog ({ dec := [(20, true), (29, false)], els := eN q, calls := cE q, unroll := false } : HT) 0 4000 (.inl (loopC (bodyOf Try.f12) 0)) [] (lb12 q)) = some (St.mk 45 [(0, AV.lst (gL q.g)), (1, AV.lst (boL q.s)), (8, AV.lst (List.map (AV.int IntKind.i64) q.o)), (18, AV.int IntKind.i64 (iN q.g.length)), (19, AV.int IntKind.i64 (IntKind.i64.wrap (iN q.i + 1)))] [], ((((True ∧ (True ∧ True)) ∧ True) ∧ ((type_of% h1) ∧ (((True ∧ True) ∧ ((True ∧ True) ∧ True)) ∧ (((True ∧ True) ∧ ((True ∧ True) ∧ ((True ∧ True) ∧ ((True ∧ (True ∧ (True ∧ (True ∧ (True ∧ (True ∧ ((type_of% h2) ∧ True))))))) ∧ ((True ∧ True) ∧ True))))) ∧ (((True ∧ True) ∧ ((True ∧ True) ∧ ((True ∧ True) ∧ ((True ∧ True) ∧ ((type_of% h3) ∧ ((type_of% h3) ∧ ((type_of% h3) ∧ (True ∧ (True ∧ (True ∧ (True ∧ (True ∧ ((type_of% h3) ∧ (((type_of% h3) ∧ (True ∧ True)) ∧ True)))))))))))))) ∧ (True ∧ (((True ∧ True) ∧ ((True ∧ True) ∧ True)) ∧ True))))))) ∧ (True ∧ (True ∧ (True ∧ (True ∧ (True ∧ True))))))) by kernel_rfl) ⟨⟨⟨⟨trivial, ⟨trivial, trivial⟩⟩, trivial⟩, ⟨h1, ⟨⟨⟨trivial, trivial⟩, ⟨⟨trivial, trivial⟩, trivial⟩⟩, ⟨⟨⟨trivial, trivial⟩, ⟨⟨trivial, trivial⟩, ⟨⟨trivial, trivial⟩, ⟨⟨trivial, ⟨trivial, ⟨trivial, ⟨trivial, ⟨trivial, ⟨trivial, ⟨h2, trivial⟩⟩⟩⟩⟩⟩⟩, ⟨⟨trivial, trivial⟩, trivial⟩⟩⟩⟩⟩, ⟨⟨⟨trivial, trivial⟩, ⟨⟨trivial, trivial⟩, ⟨⟨trivial, trivial⟩, ⟨⟨trivial, trivial⟩, ⟨h3, ⟨h3, ⟨h3, ⟨trivial, ⟨trivial, ⟨trivial, ⟨trivial, ⟨trivial, ⟨h3, ⟨⟨h3, ⟨trivial, trivial⟩⟩, trivial⟩⟩⟩⟩⟩⟩⟩⟩⟩⟩⟩⟩⟩⟩, ⟨trivial, ⟨⟨⟨trivial, trivial⟩, ⟨⟨trivial, trivial⟩, trivial⟩⟩, trivial⟩⟩⟩⟩⟩⟩⟩, ⟨trivial, ⟨trivial, ⟨trivial, ⟨trivial, ⟨trivial, trivial⟩⟩⟩⟩⟩⟩ hR
theorem cl_0 (q : QE) (h1 : (CT Try.prog 23 [] [AV.lst (gL q.g), AV.lst (boL q.s)] [] (AV.int IntKind.i64 q.e))) (h2 : ((q.e != 0) = true)) : ∃ o' st' q', go Try.prog ({ dec := [(17, true)], els := eCl q, calls := cE q, unroll := false } : HT) 0 4000 (.inl (bodyOf Try.f17)) [] (st17 q) = some (o', st', q') ∧ q' ∧ Go.AX.Rest Try.prog 0 (Fin Try.prog Try.f17 0 [] (AV.bool false)) st' o' :=
  endF_spec (σ := []) (fz := []) (show endF Try.prog Try.f17 0 [] [] (go Try.prog ({ dec := [(17, true)], els := eCl q, calls := cE q, unroll := false } : HT) 0 4000 (.inl (bodyOf Try.f17)) [] (st17 q)) = some ([], AV.bool false, (((True ∧ True) ∧ (((True ∧ True) ∧ ((True ∧ True) ∧ ((True ∧ (True ∧ (True ∧ (True ∧ ((type_of% h1) ∧ True))))) ∧ ((True ∧ True) ∧ ((True ∧ True) ∧ ((type_of% h2) ∧ ((type_of% h2) ∧ ((type_of% h2) ∧ (((type_of% h2) ∧ (True ∧ True)) ∧ True))))))))) ∧ (True ∧ ((True ∧ True) ∧ True)))) ∧ (True ∧ True))) by kernel_rfl) ⟨⟨⟨trivial, trivial⟩, ⟨⟨⟨trivial, trivial⟩, ⟨⟨trivial, trivial⟩, ⟨⟨trivial, ⟨trivial, ⟨trivial, ⟨trivial, ⟨h1, trivial⟩⟩⟩⟩⟩, ⟨⟨trivial, trivial⟩, ⟨⟨trivial, trivial⟩, ⟨h2, ⟨h2, ⟨h2, ⟨⟨h2, ⟨trivial, trivial⟩⟩, trivial⟩⟩⟩⟩⟩⟩⟩⟩⟩, ⟨trivial, ⟨⟨trivial, trivial⟩, trivial⟩⟩⟩⟩, ⟨trivial, trivial⟩⟩
theorem cl_1 (q : QE) (h1 : (CT Try.prog 23 [] [AV.lst (gL q.g), AV.lst (boL q.s)] [] (AV.int IntKind.i64 q.e))) (h2 : ((q.e != 0) = false)) (h3 : ((iN (List.map (AV.int IntKind.i64) q.o).length == 0) = true)) : ∃ o' st' q', go Try.prog ({ dec := [(17, false), (21, true)], els := eCl q, calls := cE q, unroll := false } : HT) 0 4000 (.inl (bodyOf Try.f17)) [] (st17 q) = some (o', st', q') ∧ q' ∧ Go.AX.Rest Try.prog 0 (Fin Try.prog Try.f17 0 [] (AV.bool false)) st' o' :=
  endF_spec (σ := []) (fz := []) (show endF Try.prog Try.f17 0 [] [] (go Try.prog ({ dec := [(17, false), (21, true)], els := eCl q, calls := cE q, unroll := false } : HT) 0 4000 (.inl (bodyOf Try.f17)) [] (st17 q)) = some ([], AV.bool false, (((True ∧ True) ∧ (((True ∧ True) ∧ ((True ∧ True) ∧ ((True ∧ (True ∧ (True ∧ (True ∧ ((type_of% h1) ∧ True))))) ∧ ((True ∧ True) ∧ ((True ∧ True) ∧ (((type_of% h2) ∧ (True ∧ True)) ∧ (((type_of% h2) ∧ (True ∧ True)) ∧ (((type_of% h2) ∧ (True ∧ True)) ∧ (((type_of% h2) ∧ (True ∧ True)) ∧ True))))))))) ∧ ((type_of% h3) ∧ ((True ∧ True) ∧ True)))) ∧ (True ∧ True))) by kernel_rfl) ⟨⟨⟨trivial, trivial⟩, ⟨⟨⟨trivial, trivial⟩, ⟨⟨trivial, trivial⟩, ⟨⟨trivial, ⟨trivial, ⟨trivial, ⟨trivial, ⟨h1, trivial⟩⟩⟩⟩⟩, ⟨⟨trivial, trivial⟩, ⟨⟨trivial, trivial⟩, ⟨⟨h2, ⟨trivial, trivial⟩⟩, ⟨⟨h2, ⟨trivial, trivial⟩⟩, ⟨⟨h2, ⟨trivial, trivial⟩⟩, ⟨⟨h2, ⟨trivial, trivial⟩⟩, trivial⟩⟩⟩⟩⟩⟩⟩⟩⟩, ⟨h3, ⟨⟨trivial, trivial⟩, trivial⟩⟩⟩⟩, ⟨trivial, trivial⟩⟩
theorem cl_2 (q : QE) (h1 : (CT Try.prog 23 [] [AV.lst (gL q.g), AV.lst (boL q.s)] [] (AV.int IntKind.i64 q.e))) (h2 : ((q.e != 0) = false)) (h3 : ((iN (List.map (AV.int IntKind.i64) q.o).length == 0) = false)) (h4 : (0 ≤ IntKind.i64.wrap (iN (List.map (AV.int IntKind.i64) q.o).length - 1))) (h5 : ((List.map (AV.int IntKind.i64) q.o)[(IntKind.i64.wrap (iN (List.map (AV.int IntKind.i64) q.o).length - 1)).toNat]? = some (AV.int IntKind.i64 q.y))) {post : Exit → St → Prop} (ht : T Try.prog 0 (.loop (loopC (bodyOf Try.f17) 0)) (St.mk 78 [(0, AV.lst (gL q.g)), (1, AV.lst (boL q.s)), (7, AV.int IntKind.i64 q.y), (28, AV.lst (List.map (AV.int IntKind.i64) q.o)), (29, AV.int IntKind.i64 (iN (List.map (AV.int IntKind.i64) q.o).length)), (30, AV.int IntKind.i64 0)] []) (TK Try.prog 0 post (loopK (bodyOf Try.f17) 0))) : ∃ o' st' q', go Try.prog ({ dec := [(17, false), (21, false)], els := eCl q, calls := cE q, unroll := false } : HT) 0 4000 (.inl (bodyOf Try.f17)) [] (st17 q) = some (o', st', q') ∧ q' ∧ Go.AX.Rest Try.prog 0 post st' o' :=
  endR_spec (σ := []) (fz := []) (vars := [0,1,7,28,29,30]) (show endR 0 [] [] [0,1,7,28,29,30] (go Try.prog ({ dec := [(17, false), (21, false)], els := eCl q, calls := cE q, unroll := false } : HT) 0 4000 (.inl (bodyOf Try.f17)) [] (st17 q)) = some (loopC (bodyOf Try.f17) 0, loopK (bodyOf Try.f17) 0, St.mk 78 [(0, AV.lst (gL q.g)), (1, AV.lst (boL q.s)), (7, AV.int IntKind.i64 q.y), (28, AV.lst (List.map (AV.int IntKind.i64) q.o)), (29, AV.int IntKind.i64 (iN (List.map (AV.int IntKind.i64) q.o).length)), (30, AV.int IntKind.i64 0)] [], (((True ∧ True) ∧ (((True ∧ True) ∧ ((True ∧ True) ∧ ((True ∧ (True ∧ (True ∧ (True ∧ ((type_of% h1) ∧ True))))) ∧ ((True ∧ True) ∧ ((True ∧ True) ∧ (((type_of% h2) ∧ (True ∧ True)) ∧ (((type_of% h2) ∧ (True ∧ True)) ∧ (((type_of% h2) ∧ (True ∧ True)) ∧ (((type_of% h2) ∧ (True ∧ True)) ∧ True))))))))) ∧ ((type_of% h3) ∧ (((True ∧ True) ∧ ((True ∧ True) ∧ ((True ∧ True) ∧ ((True ∧ True) ∧ ((True ∧ (True ∧ ((type_of% h4) ∧ (type_of% h5)))) ∧ ((True ∧ True) ∧ ((True ∧ True) ∧ True))))))) ∧ (((True ∧ True) ∧ ((True ∧ True) ∧ (True ∧ True))) ∧ True))))) ∧ (True ∧ (True ∧ (True ∧ (True ∧ (True ∧ (True ∧ True)))))))) by kernel_rfl) ⟨⟨⟨trivial, trivial⟩, ⟨⟨⟨trivial, trivial⟩, ⟨⟨trivial, trivial⟩, ⟨⟨trivial, ⟨trivial, ⟨trivial, ⟨trivial, ⟨h1, trivial⟩⟩⟩⟩⟩, ⟨⟨trivial, trivial⟩, ⟨⟨trivial, trivial⟩, ⟨⟨h2, ⟨trivial, trivial⟩⟩, ⟨⟨h2, ⟨trivial, trivial⟩⟩, ⟨⟨h2, ⟨trivial, trivial⟩⟩, ⟨⟨h2, ⟨trivial, trivial⟩⟩, trivial⟩⟩⟩⟩⟩⟩⟩⟩⟩, ⟨h3, ⟨⟨⟨trivial, trivial⟩, ⟨⟨trivial, trivial⟩, ⟨⟨trivial, trivial⟩, ⟨⟨trivial, trivial⟩, ⟨⟨trivial, ⟨trivial, ⟨h4, h5⟩⟩⟩, ⟨⟨trivial, trivial⟩, ⟨⟨trivial, trivial⟩, trivial⟩⟩⟩⟩⟩⟩⟩, ⟨⟨⟨trivial, trivial⟩, ⟨⟨trivial, trivial⟩, ⟨trivial, trivial⟩⟩⟩, trivial⟩⟩⟩⟩⟩, ⟨trivial, ⟨trivial, ⟨trivial, ⟨trivial, ⟨trivial, ⟨trivial, trivial⟩⟩⟩⟩⟩⟩⟩ ht
theorem clx_0 (q : QE) (h1 : (decide (iN q.i < iN q.o.length) = false)) : ∃ o' st' q', go2 Try.prog ({ dec := [(31, false)], els := eCl q, calls := cE q, unroll := false } : HT) 0 4000 (loopC (bodyOf Try.f17) 0) (loopK (bodyOf Try.f17) 0) (lo17 q) = some (o', st', q') ∧ q' ∧ Go.AX.Rest Try.prog 0 (Fin Try.prog Try.f17 0 [] (AV.bool true)) st' o' :=
  endF_spec (σ := []) (fz := []) (show endF Try.prog Try.f17 0 [] [] (go2 Try.prog ({ dec := [(31, false)], els := eCl q, calls := cE q, unroll := false } : HT) 0 4000 (loopC (bodyOf Try.f17) 0) (loopK (bodyOf Try.f17) 0) (lo17 q)) = some ([], AV.bool true, (((((True ∧ (True ∧ True)) ∧ True) ∧ ((type_of% h1) ∧ True)) ∧ ((True ∧ True) ∧ True)) ∧ (True ∧ True))) by kernel_rfl) ⟨⟨⟨⟨⟨trivial, ⟨trivial, trivial⟩⟩, trivial⟩, ⟨h1, trivial⟩⟩, ⟨⟨trivial, trivial⟩, trivial⟩⟩, ⟨trivial, trivial⟩⟩
theorem cla_0 (q : QE) (h1 : (decide (iN q.i < iN q.o.length) = true)) (h2 : (0 ≤ iN q.i)) (h3 : ((List.map (AV.int IntKind.i64) q.o)[(iN q.i).toNat]? = some (AV.int IntKind.i64 q.x))) (h4 : (decide (q.x < 0) = true)) : ∃ o' st' q', go2 Try.prog ({ dec := [(31, true), (36, true)], els := eCl q, calls := cE q, unroll := false } : HT) 0 4000 (loopC (bodyOf Try.f17) 0) (loopK (bodyOf Try.f17) 0) (lo17 q) = some (o', st', q') ∧ q' ∧ Go.AX.Rest Try.prog 0 (Fin Try.prog Try.f17 0 [] (AV.bool false)) st' o' :=
  endF_spec (σ := []) (fz := []) (show endF Try.prog Try.f17 0 [] [] (go2 Try.prog ({ dec := [(31, true), (36, true)], els := eCl q, calls := cE q, unroll := false } : HT) 0 4000 (loopC (bodyOf Try.f17) 0) (loopK (bodyOf Try.f17) 0) (lo17 q)) = some ([], AV.bool false, (((((True ∧ (True ∧ True)) ∧ True) ∧ ((type_of% h1) ∧ (((True ∧ (True ∧ ((type_of% h2) ∧ (type_of% h3)))) ∧ ((True ∧ True) ∧ ((True ∧ True) ∧ True))) ∧ (((True ∧ True) ∧ ((True ∧ True) ∧ ((True ∧ True) ∧ ((type_of% h4) ∧ ((type_of% h4) ∧ ((type_of% h4) ∧ ((type_of% h4) ∧ (((type_of% h4) ∧ (True ∧ True)) ∧ ((True ∧ True) ∧ (True ∧ (True ∧ (True ∧ (True ∧ ((True ∧ (True ∧ True)) ∧ ((True ∧ True) ∧ (True ∧ (True ∧ ((True ∧ (True ∧ True)) ∧ ((True ∧ True) ∧ (True ∧ (True ∧ (True ∧ (True ∧ ((True ∧ (True ∧ True)) ∧ True)))))))))))))))))))))))) ∧ (True ∧ ((True ∧ True) ∧ True)))))) ∧ True) ∧ (True ∧ True))) by kernel_rfl) ⟨⟨⟨⟨⟨trivial, ⟨trivial, trivial⟩⟩, trivial⟩, ⟨h1, ⟨⟨⟨trivial, ⟨trivial, ⟨h2, h3⟩⟩⟩, ⟨⟨trivial, trivial⟩, ⟨⟨trivial, trivial⟩, trivial⟩⟩⟩, ⟨⟨⟨trivial, trivial⟩, ⟨⟨trivial, trivial⟩, ⟨⟨trivial, trivial⟩, ⟨h4, ⟨h4, ⟨h4, ⟨h4, ⟨⟨h4, ⟨trivial, trivial⟩⟩, ⟨⟨trivial, trivial⟩, ⟨trivial, ⟨trivial, ⟨trivial, ⟨trivial, ⟨⟨trivial, ⟨trivial, trivial⟩⟩, ⟨⟨trivial, trivial⟩, ⟨trivial, ⟨trivial, ⟨⟨trivial, ⟨trivial, trivial⟩⟩, ⟨⟨trivial, trivial⟩, ⟨trivial, ⟨trivial, ⟨trivial, ⟨trivial, ⟨⟨trivial, ⟨trivial, trivial⟩⟩, trivial⟩⟩⟩⟩⟩⟩⟩⟩⟩⟩⟩⟩⟩⟩⟩⟩⟩⟩⟩⟩⟩⟩⟩⟩, ⟨trivial, ⟨⟨trivial, trivial⟩, trivial⟩⟩⟩⟩⟩⟩, trivial⟩, ⟨trivial, trivial⟩⟩
theorem cla_1 (q : QE) (h1 : (decide (iN q.i < iN q.o.length) = true)) (h2 : (0 ≤ iN q.i)) (h3 : ((List.map (AV.int IntKind.i64) q.o)[(iN q.i).toNat]? = some (AV.int IntKind.i64 q.x))) (h4 : (decide (q.x < 0) = false)) (h5 : (decide (iN (gL q.g).length ≤ q.x) = true)) : ∃ o' st' q', go2 Try.prog ({ dec := [(31, true), (36, false), (42, true)], els := eCl q, calls := cE q, unroll := false } : HT) 0 4000 (loopC (bodyOf Try.f17) 0) (loopK (bodyOf Try.f17) 0) (lo17 q) = some (o', st', q') ∧ q' ∧ Go.AX.Rest Try.prog 0 (Fin Try.prog Try.f17 0 [] (AV.bool false)) st' o' :=
  endF_spec (σ := []) (fz := []) (show endF Try.prog Try.f17 0 [] [] (go2 Try.prog ({ dec := [(31, true), (36, false), (42, true)], els := eCl q, calls := cE q, unroll := false } : HT) 0 4000 (loopC (bodyOf Try.f17) 0) (loopK (bodyOf Try.f17) 0) (lo17 q)) = some ([], AV.bool false, (((((True ∧ (True ∧ True)) ∧ True) ∧ ((type_of% h1) ∧ (((True ∧ (True ∧ ((type_of% h2) ∧ (type_of% h3)))) ∧ ((True ∧ True) ∧ ((True ∧ True) ∧ True))) ∧ (((True ∧ True) ∧ ((True ∧ True) ∧ ((True ∧ True) ∧ (((type_of% h4) ∧ (True ∧ True)) ∧ (((type_of% h4) ∧ (True ∧ True)) ∧ (((type_of% h4) ∧ (True ∧ True)) ∧ (((type_of% h4) ∧ (True ∧ (True ∧ True))) ∧ (((type_of% h4) ∧ (True ∧ True)) ∧ ((True ∧ True) ∧ ((type_of% h5) ∧ ((type_of% h5) ∧ ((type_of% h5) ∧ ((type_of% h5) ∧ (((type_of% h5) ∧ (True ∧ True)) ∧ ((True ∧ True) ∧ (True ∧ (True ∧ ((True ∧ (True ∧ True)) ∧ ((True ∧ True) ∧ (True ∧ (True ∧ (True ∧ (True ∧ ((True ∧ (True ∧ True)) ∧ True)))))))))))))))))))))))) ∧ (True ∧ ((True ∧ True) ∧ True)))))) ∧ True) ∧ (True ∧ True))) by kernel_rfl) ⟨⟨⟨⟨⟨trivial, ⟨trivial, trivial⟩⟩, trivial⟩, ⟨h1, ⟨⟨⟨trivial, ⟨trivial, ⟨h2, h3⟩⟩⟩, ⟨⟨trivial, trivial⟩, ⟨⟨trivial, trivial⟩, trivial⟩⟩⟩, ⟨⟨⟨trivial, trivial⟩, ⟨⟨trivial, trivial⟩, ⟨⟨trivial, trivial⟩, ⟨⟨h4, ⟨trivial, trivial⟩⟩, ⟨⟨h4, ⟨trivial, trivial⟩⟩, ⟨⟨h4, ⟨trivial, trivial⟩⟩, ⟨⟨h4, ⟨trivial, ⟨trivial, trivial⟩⟩⟩, ⟨⟨h4, ⟨trivial, trivial⟩⟩, ⟨⟨trivial, trivial⟩, ⟨h5, ⟨h5, ⟨h5, ⟨h5, ⟨⟨h5, ⟨trivial, trivial⟩⟩, ⟨⟨trivial, trivial⟩, ⟨trivial, ⟨trivial, ⟨⟨trivial, ⟨trivial, trivial⟩⟩, ⟨⟨trivial, trivial⟩, ⟨trivial, ⟨trivial, ⟨trivial, ⟨trivial, ⟨⟨trivial, ⟨trivial, trivial⟩⟩, trivial⟩⟩⟩⟩⟩⟩⟩⟩⟩⟩⟩⟩⟩⟩⟩⟩⟩⟩⟩⟩⟩⟩⟩⟩, ⟨trivial, ⟨⟨trivial, trivial⟩, trivial⟩⟩⟩⟩⟩⟩, trivial⟩, ⟨trivial, trivial⟩⟩
theorem cla_2 (q : QE) (h1 : (decide (iN q.i < iN q.o.length) = true)) (h2 : (0 ≤ iN q.i)) (h3 : ((List.map (AV.int IntKind.i64) q.o)[(iN q.i).toNat]? = some (AV.int IntKind.i64 q.x))) (h4 : (decide (q.x < 0) = false)) (h5 : (decide (iN (gL q.g).length ≤ q.x) = false)) (h6 : (0 ≤ q.x)) (h7 : ((boL q.s)[q.x.toNat]? = some (AV.bool q.sb))) (h8 : (q.sb = true)) : ∃ o' st' q', go2 Try.prog ({ dec := [(31, true), (36, false), (42, false), (48, true)], els := eCl q, calls := cE q, unroll := false } : HT) 0 4000 (loopC (bodyOf Try.f17) 0) (loopK (bodyOf Try.f17) 0) (lo17 q) = some (o', st', q') ∧ q' ∧ Go.AX.Rest Try.prog 0 (Fin Try.prog Try.f17 0 [] (AV.bool false)) st' o' :=
  endF_spec (σ := []) (fz := []) (show endF Try.prog Try.f17 0 [] [] (go2 Try.prog ({ dec := [(31, true), (36, false), (42, false), (48, true)], els := eCl q, calls := cE q, unroll := false } : HT) 0 4000 (loopC (bodyOf Try.f17) 0) (loopK (bodyOf Try.f17) 0) (lo17 q)) = some ([], AV.bool false, (((((True ∧ (True ∧ True)) ∧ True) ∧ ((type_of% h1) ∧ (((True ∧ (True ∧ ((type_of% h2) ∧ (type_of% h3)))) ∧ ((True ∧ True) ∧ ((True ∧ True) ∧ True))) ∧ (((True ∧ True) ∧ ((True ∧ True) ∧ ((True ∧ True) ∧ (((type_of% h4) ∧ (True ∧ True)) ∧ (((type_of% h4) ∧ (True ∧ True)) ∧ (((type_of% h4) ∧ (True ∧ True)) ∧ (((type_of% h4) ∧ (True ∧ (True ∧ True))) ∧ (((type_of% h4) ∧ (True ∧ True)) ∧ ((True ∧ True) ∧ (((type_of% h5) ∧ (True ∧ True)) ∧ (((type_of% h5) ∧ (True ∧ True)) ∧ (((type_of% h5) ∧ (True ∧ (True ∧ ((type_of% h6) ∧ (type_of% h7))))) ∧ (((type_of% h5) ∧ (True ∧ True)) ∧ (((type_of% h5) ∧ (True ∧ True)) ∧ ((True ∧ True) ∧ ((type_of% h8) ∧ ((type_of% h8) ∧ (((type_of% h8) ∧ (True ∧ True)) ∧ ((True ∧ True) ∧ (True ∧ (True ∧ (True ∧ (True ∧ ((True ∧ (True ∧ True)) ∧ True)))))))))))))))))))))))) ∧ (True ∧ ((True ∧ True) ∧ True)))))) ∧ True) ∧ (True ∧ True))) by kernel_rfl) ⟨⟨⟨⟨⟨trivial, ⟨trivial, trivial⟩⟩, trivial⟩, ⟨h1, ⟨⟨⟨trivial, ⟨trivial, ⟨h2, h3⟩⟩⟩, ⟨⟨trivial, trivial⟩, ⟨⟨trivial, trivial⟩, trivial⟩⟩⟩, ⟨⟨⟨trivial, trivial⟩, ⟨⟨trivial, trivial⟩, ⟨⟨trivial, trivial⟩, ⟨⟨h4, ⟨trivial, trivial⟩⟩, ⟨⟨h4, ⟨trivial, trivial⟩⟩, ⟨⟨h4, ⟨trivial, trivial⟩⟩, ⟨⟨h4, ⟨trivial, ⟨trivial, trivial⟩⟩⟩, ⟨⟨h4, ⟨trivial, trivial⟩⟩, ⟨⟨trivial, trivial⟩, ⟨⟨h5, ⟨trivial, trivial⟩⟩, ⟨⟨h5, ⟨trivial, trivial⟩⟩, ⟨⟨h5, ⟨trivial, ⟨trivial, ⟨h6, h7⟩⟩⟩⟩, ⟨⟨h5, ⟨trivial, trivial⟩⟩, ⟨⟨h5, ⟨trivial, trivial⟩⟩, ⟨⟨trivial, trivial⟩, ⟨h8, ⟨h8, ⟨⟨h8, ⟨trivial, trivial⟩⟩, ⟨⟨trivial, trivial⟩, ⟨trivial, ⟨trivial, ⟨trivial, ⟨trivial, ⟨⟨trivial, ⟨trivial, trivial⟩⟩, trivial⟩⟩⟩⟩⟩⟩⟩⟩⟩⟩⟩⟩⟩⟩⟩⟩⟩⟩⟩⟩⟩⟩⟩⟩, ⟨trivial, ⟨⟨trivial, trivial⟩, trivial⟩⟩⟩⟩⟩⟩, trivial⟩, ⟨trivial, trivial⟩⟩
theorem cla_3 (q : QE) (h1 : (decide (iN q.i < iN q.o.length) = true)) (h2 : (0 ≤ iN q.i)) (h3 : ((List.map (AV.int IntKind.i64) q.o)[(iN q.i).toNat]? = some (AV.int IntKind.i64 q.x))) (h4 : (decide (q.x < 0) = false)) (h5 : (decide (iN (gL q.g).length ≤ q.x) = false)) (h6 : (0 ≤ q.x)) (h7 : ((boL q.s)[q.x.toNat]? = some (AV.bool q.sb))) (h8 : (q.sb = false)) (h9 : (decide (q.y < 0) = true)) : ∃ o' st' q', go2 Try.prog ({ dec := [(31, true), (36, false), (42, false), (48, false), (52, true)], els := eCl q, calls := cE q, unroll := false } : HT) 0 4000 (loopC (bodyOf Try.f17) 0) (loopK (bodyOf Try.f17) 0) (lo17 q) = some (o', st', q') ∧ q' ∧ Go.AX.Rest Try.prog 0 (Fin Try.prog Try.f17 0 [] (AV.bool false)) st' o' :=
  endF_spec (σ := []) (fz := []) (show endF Try.prog Try.f17 0 [] [] (go2 Try.prog ({ dec := [(31, true), (36, false), (42, false), (48, false), (52, true)], els := eCl q, calls := cE q, unroll := false } : HT) 0 4000 (loopC (bodyOf Try.f17) 0) (loopK (bodyOf Try.f17) 0) (lo17 q)) = some ([], AV.bool false, (((((True ∧ (True ∧ True)) ∧ True) ∧ ((type_of% h1) ∧ (((True ∧ (True ∧ ((type_of% h2) ∧ (type_of% h3)))) ∧ ((True ∧ True) ∧ ((True ∧ True) ∧ True))) ∧ (((True ∧ True) ∧ ((True ∧ True) ∧ ((True ∧ True) ∧ (((type_of% h4) ∧ (True ∧ True)) ∧ (((type_of% h4) ∧ (True ∧ True)) ∧ (((type_of% h4) ∧ (True ∧ True)) ∧ (((type_of% h4) ∧ (True ∧ (True ∧ True))) ∧ (((type_of% h4) ∧ (True ∧ True)) ∧ ((True ∧ True) ∧ (((type_of% h5) ∧ (True ∧ True)) ∧ (((type_of% h5) ∧ (True ∧ True)) ∧ (((type_of% h5) ∧ (True ∧ (True ∧ ((type_of% h6) ∧ (type_of% h7))))) ∧ (((type_of% h5) ∧ (True ∧ True)) ∧ (((type_of% h5) ∧ (True ∧ True)) ∧ ((True ∧ True) ∧ (((type_of% h8) ∧ (True ∧ True)) ∧ (((type_of% h8) ∧ (True ∧ True)) ∧ (((type_of% h8) ∧ (True ∧ True)) ∧ ((True ∧ True) ∧ ((type_of% h9) ∧ ((type_of% h9) ∧ ((type_of% h9) ∧ ((type_of% h9) ∧ (((type_of% h9) ∧ (True ∧ True)) ∧ True)))))))))))))))))))))))) ∧ (True ∧ ((True ∧ True) ∧ True)))))) ∧ True) ∧ (True ∧ True))) by kernel_rfl) ⟨⟨⟨⟨⟨trivial, ⟨trivial, trivial⟩⟩, trivial⟩, ⟨h1, ⟨⟨⟨trivial, ⟨trivial, ⟨h2, h3⟩⟩⟩, ⟨⟨trivial, trivial⟩, ⟨⟨trivial, trivial⟩, trivial⟩⟩⟩, ⟨⟨⟨trivial, trivial⟩, ⟨⟨trivial, trivial⟩, ⟨⟨trivial, trivial⟩, ⟨⟨h4, ⟨trivial, trivial⟩⟩, ⟨⟨h4, ⟨trivial, trivial⟩⟩, ⟨⟨h4, ⟨trivial, trivial⟩⟩, ⟨⟨h4, ⟨trivial, ⟨trivial, trivial⟩⟩⟩, ⟨⟨h4, ⟨trivial, trivial⟩⟩, ⟨⟨trivial, trivial⟩, ⟨⟨h5, ⟨trivial, trivial⟩⟩, ⟨⟨h5, ⟨trivial, trivial⟩⟩, ⟨⟨h5, ⟨trivial, ⟨trivial, ⟨h6, h7⟩⟩⟩⟩, ⟨⟨h5, ⟨trivial, trivial⟩⟩, ⟨⟨h5, ⟨trivial, trivial⟩⟩, ⟨⟨trivial, trivial⟩, ⟨⟨h8, ⟨trivial, trivial⟩⟩, ⟨⟨h8, ⟨trivial, trivial⟩⟩, ⟨⟨h8, ⟨trivial, trivial⟩⟩, ⟨⟨trivial, trivial⟩, ⟨h9, ⟨h9, ⟨h9, ⟨h9, ⟨⟨h9, ⟨trivial, trivial⟩⟩, trivial⟩⟩⟩⟩⟩⟩⟩⟩⟩⟩⟩⟩⟩⟩⟩⟩⟩⟩⟩⟩⟩⟩⟩⟩, ⟨trivial, ⟨⟨trivial, trivial⟩, trivial⟩⟩⟩⟩⟩⟩, trivial⟩, ⟨trivial, trivial⟩⟩
theorem cla_4 (q : QE) (h1 : (decide (iN q.i < iN q.o.length) = true)) (h2 : (0 ≤ iN q.i)) (h3 : ((List.map (AV.int IntKind.i64) q.o)[(iN q.i).toNat]? = some (AV.int IntKind.i64 q.x))) (h4 : (decide (q.x < 0) = false)) (h5 : (decide (iN (gL q.g).length ≤ q.x) = false)) (h6 : (0 ≤ q.x)) (h7 : ((boL q.s)[q.x.toNat]? = some (AV.bool q.sb))) (h8 : (q.sb = false)) (h9 : (decide (q.y < 0) = false)) (h10 : (decide (iN (gL q.g).length ≤ q.y) = true)) : ∃ o' st' q', go2 Try.prog ({ dec := [(31, true), (36, false), (42, false), (48, false), (52, false), (57, true)], els := eCl q, calls := cE q, unroll := false } : HT) 0 4000 (loopC (bodyOf Try.f17) 0) (loopK (bodyOf Try.f17) 0) (lo17 q) = some (o', st', q') ∧ q' ∧ Go.AX.Rest Try.prog 0 (Fin Try.prog Try.f17 0 [] (AV.bool false)) st' o' :=
  endF_spec (σ := []) (fz := []) (show endF Try.prog Try.f17 0 [] [] (go2 Try.prog ({ dec := [(31, true), (36, false), (42, false), (48, false), (52, false), (57, true)], els := eCl q, calls := cE q, unroll := false } : HT) 0 4000 (loopC (bodyOf Try.f17) 0) (loopK (bodyOf Try.f17) 0) (lo17 q)) = some ([], AV.bool false, (((((True ∧ (True ∧ True)) ∧ True) ∧ ((type_of% h1) ∧ (((True ∧ (True ∧ ((type_of% h2) ∧ (type_of% h3)))) ∧ ((True ∧ True) ∧ ((True ∧ True) ∧ True))) ∧ (((True ∧ True) ∧ ((True ∧ True) ∧ ((True ∧ True) ∧ (((type_of% h4) ∧ (True ∧ True)) ∧ (((type_of% h4) ∧ (True ∧ True)) ∧ (((type_of% h4) ∧ (True ∧ True)) ∧ (((type_of% h4) ∧ (True ∧ (True ∧ True))) ∧ (((type_of% h4) ∧ (True ∧ True)) ∧ ((True ∧ True) ∧ (((type_of% h5) ∧ (True ∧ True)) ∧ (((type_of% h5) ∧ (True ∧ True)) ∧ (((type_of% h5) ∧ (True ∧ (True ∧ ((type_of% h6) ∧ (type_of% h7))))) ∧ (((type_of% h5) ∧ (True ∧ True)) ∧ (((type_of% h5) ∧ (True ∧ True)) ∧ ((True ∧ True) ∧ (((type_of% h8) ∧ (True ∧ True)) ∧ (((type_of% h8) ∧ (True ∧ True)) ∧ (((type_of% h8) ∧ (True ∧ True)) ∧ ((True ∧ True) ∧ (((type_of% h9) ∧ (True ∧ True)) ∧ (((type_of% h9) ∧ (True ∧ True)) ∧ (((type_of% h9) ∧ (True ∧ True)) ∧ (((type_of% h9) ∧ (True ∧ (True ∧ True))) ∧ (((type_of% h9) ∧ (True ∧ True)) ∧ True)))))))))))))))))))))))) ∧ ((type_of% h10) ∧ ((True ∧ True) ∧ True)))))) ∧ True) ∧ (True ∧ True))) by kernel_rfl) ⟨⟨⟨⟨⟨trivial, ⟨trivial, trivial⟩⟩, trivial⟩, ⟨h1, ⟨⟨⟨trivial, ⟨trivial, ⟨h2, h3⟩⟩⟩, ⟨⟨trivial, trivial⟩, ⟨⟨trivial, trivial⟩, trivial⟩⟩⟩, ⟨⟨⟨trivial, trivial⟩, ⟨⟨trivial, trivial⟩, ⟨⟨trivial, trivial⟩, ⟨⟨h4, ⟨trivial, trivial⟩⟩, ⟨⟨h4, ⟨trivial, trivial⟩⟩, ⟨⟨h4, ⟨trivial, trivial⟩⟩, ⟨⟨h4, ⟨trivial, ⟨trivial, trivial⟩⟩⟩, ⟨⟨h4, ⟨trivial, trivial⟩⟩, ⟨⟨trivial, trivial⟩, ⟨⟨h5, ⟨trivial, trivial⟩⟩, ⟨⟨h5, ⟨trivial, trivial⟩⟩, ⟨⟨h5, ⟨trivial, ⟨trivial, ⟨h6, h7⟩⟩⟩⟩, ⟨⟨h5, ⟨trivial, trivial⟩⟩, ⟨⟨h5, ⟨trivial, trivial⟩⟩, ⟨⟨trivial, trivial⟩, ⟨⟨h8, ⟨trivial, trivial⟩⟩, ⟨⟨h8, ⟨trivial, trivial⟩⟩, ⟨⟨h8, ⟨trivial, trivial⟩⟩, ⟨⟨trivial, trivial⟩, ⟨⟨h9, ⟨trivial, trivial⟩⟩, ⟨⟨h9, ⟨trivial, trivial⟩⟩, ⟨⟨h9, ⟨trivial, trivial⟩⟩, ⟨⟨h9, ⟨trivial, ⟨trivial, trivial⟩⟩⟩, ⟨⟨h9, ⟨trivial, trivial⟩⟩, trivial⟩⟩⟩⟩⟩⟩⟩⟩⟩⟩⟩⟩⟩⟩⟩⟩⟩⟩⟩⟩⟩⟩⟩⟩, ⟨h10, ⟨⟨trivial, trivial⟩, trivial⟩⟩⟩⟩⟩⟩, trivial⟩, ⟨trivial, trivial⟩⟩
theorem cla_5 (q : QE) (h1 : (decide (iN q.i < iN q.o.length) = true)) (h2 : (0 ≤ iN q.i)) (h3 : ((List.map (AV.int IntKind.i64) q.o)[(iN q.i).toNat]? = some (AV.int IntKind.i64 q.x))) (h4 : (decide (q.x < 0) = false)) (h5 : (decide (iN (gL q.g).length ≤ q.x) = false)) (h6 : (0 ≤ q.x)) (h7 : ((boL q.s)[q.x.toNat]? = some (AV.bool q.sb))) (h8 : (q.sb = false)) (h9 : (decide (q.y < 0) = false)) (h10 : (decide (iN (gL q.g).length ≤ q.y) = false)) (h11 : (0 ≤ q.y)) (h12 : ((gL q.g)[q.y.toNat]? = some (AV.lst (List.map (AV.int IntKind.i64) q.r)))) {post : Exit → St → Prop} (ht : T Try.prog 0 (.loop (loopC (loopC (bodyOf Try.f17) 0) 0)) (St.mk 78 [(0, AV.lst (gL q.g)), (1, AV.lst (boL q.s)), (9, AV.int IntKind.i64 q.x), (10, AV.bool false), (28, AV.lst (List.map (AV.int IntKind.i64) q.o)), (29, AV.int IntKind.i64 (iN q.o.length)), (30, AV.int IntKind.i64 (iN q.i)), (61, AV.lst (List.map (AV.int IntKind.i64) q.r)), (62, AV.int IntKind.i64 (iN (List.map (AV.int IntKind.i64) q.r).length)), (63, AV.int IntKind.i64 0)] []) (TK Try.prog 0 post (loopK (loopC (bodyOf Try.f17) 0) 0))) : ∃ o' st' q', go Try.prog ({ dec := [(31, true), (36, false), (42, false), (48, false), (52, false), (57, false)], els := eCl q, calls := cE q, unroll := false } : HT) 0 4000 (.inl (loopC (bodyOf Try.f17) 0)) [] (lo17 q) = some (o', st', q') ∧ q' ∧ Go.AX.Rest Try.prog 0 post st' o' :=
  endR_spec (σ := []) (fz := []) (vars := [0,1,9,10,28,29,30,61,62,63]) (show endR 0 [] [] [0,1,9,10,28,29,30,61,62,63] (go Try.prog ({ dec := [(31, true), (36, false), (42, false), (48, false), (52, false), (57, false)], els := eCl q, calls := cE q, unroll := false } : HT) 0 4000 (.inl (loopC (bodyOf Try.f17) 0)) [] (lo17 q)) = some (loopC (loopC (bodyOf Try.f17) 0) 0, loopK (loopC (bodyOf Try.f17) 0) 0, St.mk 78 [(0, AV.lst (gL q.g)), (1, AV.lst (boL q.s)), (9, AV.int IntKind.i64 q.x), (10, AV.bool false), (28, AV.lst (List.map (AV.int IntKind.i64) q.o)), (29, AV.int IntKind.i64 (iN q.o.length)), (30, AV.int IntKind.i64 (iN q.i)), (61, AV.lst (List.map (AV.int IntKind.i64) q.r)), (62, AV.int IntKind.i64 (iN (List.map (AV.int IntKind.i64) q.r).length)), (63, AV.int IntKind.i64 0)] [], ((((True ∧ (True ∧ True)) ∧ True) ∧ ((type_of% h1) ∧ (((True ∧ (True ∧ ((type_of% h2) ∧ (type_of% h3)))) ∧ ((True ∧ True) ∧ ((True ∧ True) ∧ True))) ∧ (((True ∧ True) ∧ ((True ∧ True) ∧ ((True ∧ True) ∧ (((type_of% h4) ∧ (True ∧ True)) ∧ (((type_of% h4) ∧ (True ∧ True)) ∧ (((type_of% h4) ∧ (True ∧ True)) ∧ (((type_of% h4) ∧ (True ∧ (True ∧ True))) ∧ (((type_of% h4) ∧ (True ∧ True)) ∧ ((True ∧ True) ∧ (((type_of% h5) ∧ (True ∧ True)) ∧ (((type_of% h5) ∧ (True ∧ True)) ∧ (((type_of% h5) ∧ (True ∧ (True ∧ ((type_of% h6) ∧ (type_of% h7))))) ∧ (((type_of% h5) ∧ (True ∧ True)) ∧ (((type_of% h5) ∧ (True ∧ True)) ∧ ((True ∧ True) ∧ (((type_of% h8) ∧ (True ∧ True)) ∧ (((type_of% h8) ∧ (True ∧ True)) ∧ (((type_of% h8) ∧ (True ∧ True)) ∧ ((True ∧ True) ∧ (((type_of% h9) ∧ (True ∧ True)) ∧ (((type_of% h9) ∧ (True ∧ True)) ∧ (((type_of% h9) ∧ (True ∧ True)) ∧ (((type_of% h9) ∧ (True ∧ (True ∧ True))) ∧ (((type_of% h9) ∧ (True ∧ True)) ∧ True)))))))))))))))))))))))) ∧ ((type_of% h10) ∧ ((True ∧ True) ∧ (((True ∧ True) ∧ ((True ∧ True) ∧ ((True ∧ (True ∧ ((type_of% h11) ∧ (type_of% h12)))) ∧ ((True ∧ True) ∧ ((True ∧ True) ∧ (True ∧ True)))))) ∧ True))))))) ∧ (True ∧ (True ∧ (True ∧ (True ∧ (True ∧ (True ∧ (True ∧ (True ∧ (True ∧ (True ∧ True)))))))))))) by kernel_rfl) ⟨⟨⟨⟨trivial, ⟨trivial, trivial⟩⟩, trivial⟩, ⟨h1, ⟨⟨⟨trivial, ⟨trivial, ⟨h2, h3⟩⟩⟩, ⟨⟨trivial, trivial⟩, ⟨⟨trivial, trivial⟩, trivial⟩⟩⟩, ⟨⟨⟨trivial, trivial⟩, ⟨⟨trivial, trivial⟩, ⟨⟨trivial, trivial⟩, ⟨⟨h4, ⟨trivial, trivial⟩⟩, ⟨⟨h4, ⟨trivial, trivial⟩⟩, ⟨⟨h4, ⟨trivial, trivial⟩⟩, ⟨⟨h4, ⟨trivial, ⟨trivial, trivial⟩⟩⟩, ⟨⟨h4, ⟨trivial, trivial⟩⟩, ⟨⟨trivial, trivial⟩, ⟨⟨h5, ⟨trivial, trivial⟩⟩, ⟨⟨h5, ⟨trivial, trivial⟩⟩, ⟨⟨h5, ⟨trivial, ⟨trivial, ⟨h6, h7⟩⟩⟩⟩, ⟨⟨h5, ⟨trivial, trivial⟩⟩, ⟨⟨h5, ⟨trivial, trivial⟩⟩, ⟨⟨trivial, trivial⟩, ⟨⟨h8, ⟨trivial, trivial⟩⟩, ⟨⟨h8, ⟨trivial, trivial⟩⟩, ⟨⟨h8, ⟨trivial, trivial⟩⟩, ⟨⟨trivial, trivial⟩, ⟨⟨h9, ⟨trivial, trivial⟩⟩, ⟨⟨h9, ⟨trivial, trivial⟩⟩, ⟨⟨h9, ⟨trivial, trivial⟩⟩, ⟨⟨h9, ⟨trivial, ⟨trivial, trivial⟩⟩⟩, ⟨⟨h9, ⟨trivial, trivial⟩⟩, trivial⟩⟩⟩⟩⟩⟩⟩⟩⟩⟩⟩⟩⟩⟩⟩⟩⟩⟩⟩⟩⟩⟩⟩⟩, ⟨h10, ⟨⟨trivial, trivial⟩, ⟨⟨⟨trivial, trivial⟩, ⟨⟨trivial, trivial⟩, ⟨⟨trivial, ⟨trivial, ⟨h11, h12⟩⟩⟩, ⟨⟨trivial, trivial⟩, ⟨⟨trivial, trivial⟩, ⟨trivial, trivial⟩⟩⟩⟩⟩⟩, trivial⟩⟩⟩⟩⟩⟩⟩, ⟨trivial, ⟨trivial, ⟨trivial, ⟨trivial, ⟨trivial, ⟨trivial, ⟨trivial, ⟨trivial, ⟨trivial, ⟨trivial, trivial⟩⟩⟩⟩⟩⟩⟩⟩⟩⟩⟩ ht
theorem cix_0 (q : QE) (h1 : (decide (iN q.a < iN q.r.length) = false)) (h2 : ((!q.b) = true)) {post : Exit → St → Prop} (hP : Pass post (Fin Try.prog Try.f17 0 [] (AV.bool false))) : ∃ o' st' q', go2 Try.prog ({ dec := [(64, false), (75, true)], els := eCl q, calls := cE q, unroll := false } : HT) 0 4000 (loopC (loopC (bodyOf Try.f17) 0) 0) (loopK (loopC (bodyOf Try.f17) 0) 0) (li17 q) = some (o', st', q') ∧ q' ∧ Go.AX.Rest Try.prog 0 post st' o' :=
  endT_spec (σ := []) (fz := []) (show endT Try.prog Try.f17 0 [] [] (go2 Try.prog ({ dec := [(64, false), (75, true)], els := eCl q, calls := cE q, unroll := false } : HT) 0 4000 (loopC (loopC (bodyOf Try.f17) 0) 0) (loopK (loopC (bodyOf Try.f17) 0) 0) (li17 q)) = some ([], AV.bool false, (((((True ∧ (True ∧ True)) ∧ True) ∧ ((type_of% h1) ∧ True)) ∧ (((True ∧ True) ∧ ((True ∧ True) ∧ True)) ∧ ((type_of% h2) ∧ ((True ∧ True) ∧ True)))) ∧ (True ∧ True))) by kernel_rfl) ⟨⟨⟨⟨⟨trivial, ⟨trivial, trivial⟩⟩, trivial⟩, ⟨h1, trivial⟩⟩, ⟨⟨⟨trivial, trivial⟩, ⟨⟨trivial, trivial⟩, trivial⟩⟩, ⟨h2, ⟨⟨trivial, trivial⟩, trivial⟩⟩⟩⟩, ⟨trivial, trivial⟩⟩ hP
theorem cix_1 (q : QE) (h1 : (decide (iN q.a < iN q.r.length) = false)) (h2 : ((!q.b) = false)) {post : Exit → St → Prop} {R : St → Prop} (hR : ∀ st, Ren 0 st (St.mk 78 [(0, AV.lst (gL q.g)), (1, AV.lst (boL q.s)), (7, AV.int IntKind.i64 q.x), (28, AV.lst (List.map (AV.int IntKind.i64) q.o)), (29, AV.int IntKind.i64 (iN q.o.length)), (30, AV.int IntKind.i64 (IntKind.i64.wrap (iN q.i + 1)))] []) → R st) : ∃ o' st' q', go2 Try.prog ({ dec := [(64, false), (75, false)], els := eCl q, calls := cE q, unroll := false } : HT) 0 4000 (loopC (loopC (bodyOf Try.f17) 0) 0) (loopK (loopC (bodyOf Try.f17) 0) 0) (li17 q) = some (o', st', q') ∧ q' ∧ Go.AX.Rest Try.prog 0 (andThen R post) st' o' :=
  endN_spec (σ := []) (fz := []) (vars := [0,1,7,28,29,30]) (show endN 0 [] [] [0,1,7,28,29,30] (go2 Try.prog ({ dec := [(64, false), (75, false)], els := eCl q, calls := cE q, unroll := false } : HT) 0 4000 (loopC (loopC (bodyOf Try.f17) 0) 0) (loopK (loopC (bodyOf Try.f17) 0) 0) (li17 q)) = some (St.mk 78 [(0, AV.lst (gL q.g)), (1, AV.lst (boL q.s)), (7, AV.int IntKind.i64 q.x), (28, AV.lst (List.map (AV.int IntKind.i64) q.o)), (29, AV.int IntKind.i64 (iN q.o.length)), (30, AV.int IntKind.i64 (IntKind.i64.wrap (iN q.i + 1)))] [], (((((True ∧ (True ∧ True)) ∧ True) ∧ ((type_of% h1) ∧ True)) ∧ (((True ∧ True) ∧ ((True ∧ True) ∧ True)) ∧ ((type_of% h2) ∧ (((True ∧ True) ∧ ((True ∧ True) ∧ True)) ∧ (((True ∧ True) ∧ ((True ∧ True) ∧ True)) ∧ True))))) ∧ (True ∧ (True ∧ (True ∧ (True ∧ (True ∧ (True ∧ True)))))))) by kernel_rfl) ⟨⟨⟨⟨⟨trivial, ⟨trivial, trivial⟩⟩, trivial⟩, ⟨h1, trivial⟩⟩, ⟨⟨⟨trivial, trivial⟩, ⟨⟨trivial, trivial⟩, trivial⟩⟩, ⟨h2, ⟨⟨⟨trivial, trivial⟩, ⟨⟨trivial, trivial⟩, trivial⟩⟩, ⟨⟨⟨trivial, trivial⟩, ⟨⟨trivial, trivial⟩, trivial⟩⟩, trivial⟩⟩⟩⟩⟩, ⟨trivial, ⟨trivial, ⟨trivial, ⟨trivial, ⟨trivial, ⟨trivial, trivial⟩⟩⟩⟩⟩⟩⟩ hR
theorem cir_0 (q : QE) (h1 : (decide (iN q.a < iN q.r.length) = true)) (h2 : (0 ≤ iN q.a)) (h3 : ((List.map (AV.int IntKind.i64) q.r)[(iN q.a).toNat]? = some (AV.int IntKind.i64 q.z))) (h4 : (q.b = true)) {post : Exit → St → Prop} {R : St → Prop} (hR : ∀ st, Ren 0 st (St.mk 78 [(0, AV.lst (gL q.g)), (1, AV.lst (boL q.s)), (9, AV.int IntKind.i64 q.x), (10, AV.bool true), (28, AV.lst (List.map (AV.int IntKind.i64) q.o)), (29, AV.int IntKind.i64 (iN q.o.length)), (30, AV.int IntKind.i64 (iN q.i)), (61, AV.lst (List.map (AV.int IntKind.i64) q.r)), (62, AV.int IntKind.i64 (iN q.r.length)), (63, AV.int IntKind.i64 (IntKind.i64.wrap (iN q.a + 1)))] []) → R st) : ∃ o' st' q', go Try.prog ({ dec := [(64, true), (68, true)], els := eCl q, calls := cE q, unroll := false } : HT) 0 4000 (.inl (loopC (loopC (bodyOf Try.f17) 0) 0)) [] (li17 q) = some (o', st', q') ∧ q' ∧ Go.AX.Rest Try.prog 0 (andThen R post) st' o' :=
  endN_spec (σ := []) (fz := []) (vars := [0,1,9,10,28,29,30,61,62,63]) (show endN 0 [] [] [0,1,9,10,28,29,30,61,62,63] (go Try.prog ({ dec := [(64, true), (68, true)], els := eCl q, calls := cE q, unroll := false } : HT) 0 4000 (.inl (loopC (loopC (bodyOf Try.f17) 0) 0)) [] (li17 q)) = some (St.mk 78 [(0, AV.lst (gL q.g)), (1, AV.lst (boL q.s)), (9, AV.int IntKind.i64 q.x), (10, AV.bool true), (28, AV.lst (List.map (AV.int IntKind.i64) q.o)), (29, AV.int IntKind.i64 (iN q.o.length)), (30, AV.int IntKind.i64 (iN q.i)), (61, AV.lst (List.map (AV.int IntKind.i64) q.r)), (62, AV.int IntKind.i64 (iN q.r.length)), (63, AV.int IntKind.i64 (IntKind.i64.wrap (iN q.a + 1)))] [], ((((True ∧ (True ∧ True)) ∧ True) ∧ ((type_of% h1) ∧ (((True ∧ (True ∧ ((type_of% h2) ∧ (type_of% h3)))) ∧ ((True ∧ True) ∧ ((True ∧ True) ∧ True))) ∧ (((True ∧ True) ∧ ((True ∧ True) ∧ ((type_of% h4) ∧ ((type_of% h4) ∧ ((type_of% h4) ∧ (((type_of% h4) ∧ (True ∧ True)) ∧ ((True ∧ True) ∧ True))))))) ∧ (((True ∧ True) ∧ ((True ∧ True) ∧ True)) ∧ True))))) ∧ (True ∧ (True ∧ (True ∧ (True ∧ (True ∧ (True ∧ (True ∧ (True ∧ (True ∧ (True ∧ True)))))))))))) by kernel_rfl) ⟨⟨⟨⟨trivial, ⟨trivial, trivial⟩⟩, trivial⟩, ⟨h1, ⟨⟨⟨trivial, ⟨trivial, ⟨h2, h3⟩⟩⟩, ⟨⟨trivial, trivial⟩, ⟨⟨trivial, trivial⟩, trivial⟩⟩⟩, ⟨⟨⟨trivial, trivial⟩, ⟨⟨trivial, trivial⟩, ⟨h4, ⟨h4, ⟨h4, ⟨⟨h4, ⟨trivial, trivial⟩⟩, ⟨⟨trivial, trivial⟩, trivial⟩⟩⟩⟩⟩⟩⟩, ⟨⟨⟨trivial, trivial⟩, ⟨⟨trivial, trivial⟩, trivial⟩⟩, trivial⟩⟩⟩⟩⟩, ⟨trivial, ⟨trivial, ⟨trivial, ⟨trivial, ⟨trivial, ⟨trivial, ⟨trivial, ⟨trivial, ⟨trivial, ⟨trivial, trivial⟩⟩⟩⟩⟩⟩⟩⟩⟩⟩⟩ hR
theorem cir_1 (q : QE) (h1 : (decide (iN q.a < iN q.r.length) = true)) (h2 : (0 ≤ iN q.a)) (h3 : ((List.map (AV.int IntKind.i64) q.r)[(iN q.a).toNat]? = some (AV.int IntKind.i64 q.z))) (h4 : (q.b = false)) {post : Exit → St → Prop} {R : St → Prop} (hR : ∀ st, Ren 0 st (St.mk 78 [(0, AV.lst (gL q.g)), (1, AV.lst (boL q.s)), (9, AV.int IntKind.i64 q.x), (10, AV.bool (q.z == q.x)), (28, AV.lst (List.map (AV.int IntKind.i64) q.o)), (29, AV.int IntKind.i64 (iN q.o.length)), (30, AV.int IntKind.i64 (iN q.i)), (61, AV.lst (List.map (AV.int IntKind.i64) q.r)), (62, AV.int IntKind.i64 (iN q.r.length)), (63, AV.int IntKind.i64 (IntKind.i64.wrap (iN q.a + 1)))] []) → R st) : ∃ o' st' q', go Try.prog ({ dec := [(64, true), (68, false)], els := eCl q, calls := cE q, unroll := false } : HT) 0 4000 (.inl (loopC (loopC (bodyOf Try.f17) 0) 0)) [] (li17 q) = some (o', st', q') ∧ q' ∧ Go.AX.Rest Try.prog 0 (andThen R post) st' o' :=
  endN_spec (σ := []) (fz := []) (vars := [0,1,9,10,28,29,30,61,62,63]) (show endN 0 [] [] [0,1,9,10,28,29,30,61,62,63] (go Try.prog ({ dec := [(64, true), (68, false)], els := eCl q, calls := cE q, unroll := false } : HT) 0 4000 (.inl (loopC (loopC (bodyOf Try.f17) 0) 0)) [] (li17 q)) = some (St.mk 78 [(0, AV.lst (gL q.g)), (1, AV.lst (boL q.s)), (9, AV.int IntKind.i64 q.x), (10, AV.bool (q.z == q.x)), (28, AV.lst (List.map (AV.int IntKind.i64) q.o)), (29, AV.int IntKind.i64 (iN q.o.length)), (30, AV.int IntKind.i64 (iN q.i)), (61, AV.lst (List.map (AV.int IntKind.i64) q.r)), (62, AV.int IntKind.i64 (iN q.r.length)), (63, AV.int IntKind.i64 (IntKind.i64.wrap (iN q.a + 1)))] [], ((((True ∧ (True ∧ True)) ∧ True) ∧ ((type_of% h1) ∧ (((True ∧ (True ∧ ((type_of% h2) ∧ (type_of% h3)))) ∧ ((True ∧ True) ∧ ((True ∧ True) ∧ True))) ∧ (((True ∧ True) ∧ ((True ∧ True) ∧ (((type_of% h4) ∧ (True ∧ True)) ∧ (((type_of% h4) ∧ (True ∧ True)) ∧ (((type_of% h4) ∧ (True ∧ (True ∧ True))) ∧ (((type_of% h4) ∧ (True ∧ True)) ∧ ((True ∧ True) ∧ True))))))) ∧ (((True ∧ True) ∧ ((True ∧ True) ∧ True)) ∧ True))))) ∧ (True ∧ (True ∧ (True ∧ (True ∧ (True ∧ (True ∧ (True ∧ (True ∧ (True ∧ (True ∧ True)))))))))))) by kernel_rfl) ⟨⟨⟨⟨trivial, ⟨trivial, trivial⟩⟩, trivial⟩, ⟨h1, ⟨⟨⟨trivial, ⟨trivial, ⟨h2, h3⟩⟩⟩, ⟨⟨trivial, trivial⟩, ⟨⟨trivial, trivial⟩, trivial⟩⟩⟩, ⟨⟨⟨trivial, trivial⟩, ⟨⟨trivial, trivial⟩, ⟨⟨h4, ⟨trivial, trivial⟩⟩, ⟨⟨h4, ⟨trivial, trivial⟩⟩, ⟨⟨h4, ⟨trivial, ⟨trivial, trivial⟩⟩⟩, ⟨⟨h4, ⟨trivial, trivial⟩⟩, ⟨⟨trivial, trivial⟩, trivial⟩⟩⟩⟩⟩⟩⟩, ⟨⟨⟨trivial, trivial⟩, ⟨⟨trivial, trivial⟩, trivial⟩⟩, trivial⟩⟩⟩⟩⟩, ⟨trivial, ⟨trivial, ⟨trivial, ⟨trivial, ⟨trivial, ⟨trivial, ⟨trivial, ⟨trivial, ⟨trivial, ⟨trivial, trivial⟩⟩⟩⟩⟩⟩⟩⟩⟩⟩⟩ hR
end Go.Proofs.Ytcdgphdieemjcaa

/-! Contracts. -/
open Go Go.AX Go.Proofs
set_option maxRecDepth 100000
set_option maxHeartbeats 1000000
set_option linter.unusedVariables false
set_option linter.unusedSimpArgs false
namespace Go.Proofs.Ytcdgphdieemjcaa
/-! Girth's check of any graph. -/
def badL (r : List Int) (n v i : Nat) : Bool := decide (r.getD i 0 ≤ lastZ r i) || (decide ((n : Int) ≤ r.getD i 0) || r.getD i 0 == (v : Int))
theorem badL_badE {r : List Int} {n v : Nat} : (fnd (badL r n v) 0 r.length).isSome = (fnd (badE r n v) 0 r.length).isSome := by
  have up : ∀ i, badL r n v i = true → badE r n v i = true := by
    intro i h
    unfold badL lastZ at h
    unfold badE
    simp only [Bool.or_eq_true, Bool.and_eq_true, decide_eq_true_eq, beq_iff_eq] at h ⊢
    rcases h with h | h | h
    · split at h
      · exact .inl (by omega)
      · exact .inr (.inr (.inr ⟨by omega, h⟩))
    · exact .inr (.inl h)
    · exact .inr (.inr (.inl h))
  have dn : ∀ i, badE r n v i = true → ∃ j, j ≤ i ∧ badL r n v j = true := by
    intro i
    induction i with
    | zero =>
      intro h
      refine ⟨0, Nat.le_refl _, ?_⟩
      unfold badE at h
      unfold badL lastZ
      simp only [Bool.or_eq_true, Bool.and_eq_true, decide_eq_true_eq, beq_iff_eq] at h ⊢
      rcases h with h | h | h | ⟨h, _⟩
      · exact .inl (show r.getD 0 0 ≤ (-1 : Int) by omega)
      · exact .inr (.inl h)
      · exact .inr (.inr h)
      · omega
    | succ i ih =>
      intro h
      by_cases hl : badL r n v (i + 1) = true
      · exact ⟨i + 1, Nat.le_refl _, hl⟩
      · have hneg : badE r n v i = true := by
          unfold badL lastZ at hl
          unfold badE at h ⊢
          simp only [Bool.or_eq_true, Bool.and_eq_true, decide_eq_true_eq, beq_iff_eq, not_or] at h hl ⊢
          rw [if_neg (by omega)] at hl
          rcases h with h | h | h | ⟨_, h⟩
          · simp only [Nat.add_sub_cancel] at hl
            exact .inl (by omega)
          · exact absurd h hl.2.1
          · exact absurd h hl.2.2
          · exact absurd h hl.1
        obtain ⟨j, hj, h2⟩ := ih hneg
        exact ⟨j, by omega, h2⟩
  cases h1 : fnd (badL r n v) 0 r.length with
  | none =>
    cases h2 : fnd (badE r n v) 0 r.length with
    | none => rfl
    | some i =>
      obtain ⟨a, _, b⟩ := fnd_some h2
      obtain ⟨j, hj, hb⟩ := dn i a
      have := fnd_none h1 j (Nat.zero_le _) (by omega)
      rw [hb] at this; cases this
  | some i =>
    cases h2 : fnd (badE r n v) 0 r.length with
    | some _ => rfl
    | none =>
      obtain ⟨a, _, b⟩ := fnd_some h1
      have := fnd_none h2 i (Nat.zero_le _) (by omega)
      rw [up i a] at this; cases this

noncomputable def qe (g : List (List Int)) (s : List Bool) (e : Int) (a i : Nat) (r : List Int) (x y : Int) : QE := ⟨g, s, 0, [], [], [], r, e, i, a, 0, x, y, 0, 0, false, false⟩

theorem hc_run {g : List (List Int)} {s : List Bool} (hrw : Rows g) (hn : g.length ≤ 24) (a : Nat) (ha : a < g.length) {R : St → Prop} {post : Exit → St → Prop}
    (hy : badR g a = true → Pass post (Fin Try.prog Try.f23 0 [] (.int .i64 20)))
    (hR : badR g a = false → ∀ st, Ren 0 st (la23 (qe g s 0 (a + 1) 0 [] 0 0)) → R st) :
    T Try.prog 0 (.loop (loopC (loopC (bodyOf Try.f23) 0) 0)) (lb23 (qe g s 0 a 0 (g.getD a []) (-1) 0)) (TK Try.prog 0 (andThen R post) (loopK (loopC (bodyOf Try.f23) 0) 0)) := by
  have hr1 := hrw a ha
  have hl := gL_len g
  unfold badR at hy hR
  rw [← badL_badE] at hy hR
  generalize g.getD a [] = r at hr1 hy hR
  generalize hrr : fnd (badL r g.length a) 0 r.length = res at hy hR
  refine T.loop (fun i : Nat => lb23 (qe g s 0 a i r (lastZ r i) 0)) (fun i => i ≤ r.length ∧ fnd (badL r g.length a) i (r.length - i) = res) (fun i => r.length + 1 - i) 0 ⟨Nat.zero_le _, hrr⟩ ?_
  rintro i ⟨hi, hf⟩
  by_cases h : i < r.length
  · rw [fnd_step h] at hf
    have hg1 := lI_get h
    have dk : decide (iN i < iN r.length) = true := decide_eq_true (by simp only [iN]; omega)
    have found : badL r g.length a i = true → Pass (andThen R post) (Fin Try.prog Try.f23 0 [] (.int .i64 20)) := by
      intro hb
      simp only [hb] at hf
      subst hf
      exact hy rfl
    have wi : IntKind.i64.wrap (iN i + 1) = ((i + 1 : Nat) : Int) := wrap_nat i (by omega)
    by_cases b1 : r.getD i 0 ≤ lastZ r i
    · exact T.out mix (hcbr_0 (qe g s 0 a i r (lastZ r i) (r.getD i 0)) dk (by simp [iN]) hg1 (decide_eq_true b1) (found (by unfold badL; rw [decide_eq_true b1]; simp)))
    · by_cases b2 : (g.length : Int) ≤ r.getD i 0
      · exact T.out mix (hcbr_1 (qe g s 0 a i r (lastZ r i) (r.getD i 0)) dk (by simp [iN]) hg1 (decide_eq_false b1) (decide_eq_true (by simp only [iN, qe, hl]; exact b2)) (found (by unfold badL; rw [decide_eq_true b2]; simp)))
      · by_cases b3 : (r.getD i 0 == (a : Int)) = true
        · exact T.out mix (hcbr_2 (qe g s 0 a i r (lastZ r i) (r.getD i 0)) dk (by simp [iN]) hg1 (decide_eq_false b1) (decide_eq_false (by simp only [iN, qe, hl]; exact b2)) b3 (found (by unfold badL; rw [b3]; simp)))
        · have b3' := Bool.eq_false_iff.2 b3
          have hb : badL r g.length a i = false := by unfold badL; rw [decide_eq_false b1, decide_eq_false b2, b3']; rfl
          simp only [hb] at hf
          refine T.path mix (hcbr_3 (qe g s 0 a i r (lastZ r i) (r.getD i 0)) dk (by simp [iN]) hg1 (decide_eq_false b1) (decide_eq_false (by simp only [iN, qe, hl]; exact b2)) b3' ?_)
          intro st hst
          simp only [qe, wi] at hst
          refine ⟨i + 1, ?_, ⟨h, hf⟩, by omega⟩
          rw [lastZ_succ]
          exact hst
  · rw [fnd_end h] at hf
    subst hf
    refine T.out mix (hcbx_0 (qe g s 0 a i r (lastZ r i) 0) (decide_eq_false (by simp only [iN, qe]; omega)) ?_)
    intro st hst
    simp only [iN, qe, wrap_nat a (show a < 9223372036854775807 by omega)] at hst
    exact hR rfl st hst

theorem gcheckG_ct {g : List (List Int)} {s : List Bool} (hrw : Rows g) : CT Try.prog 23 [] [.lst (gL g), .lst (boL s)] [] (.int .i64 (chk4 g s)) := by
  have hl := gL_len g
  have hbl := boL_len s
  have hbd : Try.f23.body = some (bodyOf Try.f23) := by kernel_rfl
  unfold chk4
  by_cases h24 : 24 < g.length
  · rw [if_pos h24]
    exact CT.path mix Try.func23 hbd (Nat.le_of_ble_eq_true rfl) (hc_0 (qe g s 0 0 0 [] 0 0) (decide_eq_true (by simp only [iN, qe, hl]; omega)))
  rw [if_neg h24]
  refine CT.path mix Try.func23 hbd (Nat.le_of_ble_eq_true rfl) (hc_1 (qe g s 0 0 0 [] 0 0) (decide_eq_false (by simp only [iN, qe, hl]; omega)) ?_)
  simp only [qe, hl]
  unfold badG
  generalize hrr : fnd (badR g) 0 g.length = res
  refine T.loop (fun a : Nat => la23 (qe g s 0 a 0 [] 0 0)) (fun a => a ≤ g.length ∧ fnd (badR g) a (g.length - a) = res) (fun a => g.length + 1 - a) 0 ⟨Nat.zero_le _, hrr⟩ ?_
  rintro a ⟨ha, hf⟩
  by_cases h : a < g.length
  · rw [fnd_step h] at hf
    refine T.path mix (hca_0 (qe g s 0 a 0 (g.getD a []) 0 0) (decide_eq_true (by simp only [iN, qe]; omega)) (by simp [iN]) (gL_get h) ?_)
    simp only [qe, lI_len]
    refine hc_run hrw (by omega) a h (fun hb => ?_) (fun hb st hst => ?_)
    · simp only [hb] at hf
      subst hf
      exact fun st hst => TK.ret hst _
    · simp only [hb] at hf
      exact ⟨a + 1, hst, ⟨h, hf⟩, by omega⟩
  · rw [fnd_end h] at hf
    subst hf
    have da : decide (iN a < iN g.length) = false := decide_eq_false (by simp only [iN]; omega)
    simp only [Option.isSome_none, Bool.false_eq_true, if_false]
    by_cases c1 : s.length = g.length
    · rw [if_neg (by simp [c1])]
      exact T.out mix (hcx_1 (qe g s 0 a 0 [] 0 0) da (by simp [iN, qe, hl, hbl, c1]))
    · rw [if_pos c1]
      exact T.out mix (hcx_0 (qe g s 0 a 0 [] 0 0) da (by simp only [iN, qe, hl, hbl, bne_iff_ne, ne_eq]; omega))

theorem chk4_ok {g : List (List Int)} {s : List Bool} (hrw : Rows g) (h : chk4 g s = 0) : OkG g s ∧ Asc g := by
  unfold chk4 at h
  by_cases h1 : 24 < g.length
  · rw [if_pos h1] at h; cases h
  rw [if_neg h1] at h
  by_cases h2 : badG g = true
  · rw [if_pos h2] at h; cases h
  rw [if_neg h2] at h
  by_cases h3 : s.length = g.length
  · have hb : ∀ a, a < g.length → ∀ i, i < (g.getD a []).length → badE (g.getD a []) g.length a i = false := by
      intro a ha i hi
      have e1 : fnd (badR g) 0 g.length = none := by unfold badG at h2; simpa using h2
      have e2 := fnd_none e1 a (Nat.zero_le _) (by omega)
      unfold badR at e2
      have e3 : fnd (badE (g.getD a []) g.length a) 0 (g.getD a []).length = none := by simpa using e2
      exact fnd_none e3 i (Nat.zero_le _) (by omega)
    refine ⟨⟨by omega, fun a ha => ⟨hrw a ha, fun x hx => ?_⟩, h3⟩, fun a ha i h0 hi => ?_⟩
    · obtain ⟨i, hi, rfl⟩ := mem_row hx
      have hbad := hb a ha i hi
      unfold badE at hbad
      simp only [Bool.or_eq_false_iff, decide_eq_false_iff_not, beq_eq_false_iff_ne, ne_eq] at hbad
      exact ⟨by omega, by omega, hbad.2.2.1⟩
    · have hbad := hb a ha i hi
      unfold badE at hbad
      rw [decide_eq_true h0, Bool.true_and] at hbad
      simp only [Bool.or_eq_false_iff, decide_eq_false_iff_not] at hbad
      omega
  · rw [if_pos h3] at h; cases h

/-! The reference's walk. -/
end Go.Proofs.Ytcdgphdieemjcaa

/-! Contracts. -/
open Go Go.AX Go.Proofs
set_option maxRecDepth 100000
set_option maxHeartbeats 1000000
set_option linter.unusedVariables false
set_option linter.unusedSimpArgs false
namespace Go.Proofs.Ytcdgphdieemjcaa
def thT (e : Int) (l : List Int) : AV := .tup [.int .i64 (iN l.length), lI l, .int .i64 e]
noncomputable def thE (g : List (List Int)) (s : List Bool) (v : Int) : Int := if chk4 g s ≠ 0 then chk4 g s else if v < 0 ∨ (g.length : Int) ≤ v then 19 else 0
noncomputable def thL (g : List (List Int)) (s : List Bool) (v : Int) : List Int := if thE g s v = 0 then thZ g s v.toNat else []

def girF (o p : List Int) : List Int := if 0 < p.length ∧ (o = [] ∨ p.length < o.length) then p else o
noncomputable def girN (g : List (List Int)) (s : List Bool) : Nat → List Int
  | 0 => []
  | v + 1 => girF (girN g s v) (thZ g s v)
noncomputable def girL (g : List (List Int)) (s : List Bool) : List Int := if chk4 g s = 0 then girN g s g.length else []

noncomputable def qgi (g : List (List Int)) (s : List Bool) (p o : List Int) (i : Nat) : QE := ⟨g, s, 0, p, o, [], [], 0, i, 0, 0, 0, 0, 0, 0, false, false⟩
noncomputable def st12S (g : List (List Int)) (s : List Bool) (o : List Int) (i : Nat) : St := match o with
  | [] => la12 (qgi g s [] [] i)
  | _ => lb12 (qgi g s [] o i)
theorem st12S_ne {g : List (List Int)} {s : List Bool} {o : List Int} (h : o ≠ []) (i : Nat) : st12S g s o i = lb12 (qgi g s [] o i) := by
  cases o with
  | nil => exact absurd rfl h
  | cons _ _ => rfl

theorem GirthG_ct {g : List (List Int)} {s : List Bool} (hrw : Rows g) : CT Try.prog 12 [] [.lst (gL g), .lst (boL s)] [] (thT (chk4 g s) (girL g s)) := by
  have hl := gL_len g
  have c := gcheckG_ct (s := s) hrw
  have hb : Try.f12.body = some (bodyOf Try.f12) := by kernel_rfl
  have hn : [AV.lst (gL g), .lst (boL s)].length ≤ Try.f12.ntmps := Nat.le_of_ble_eq_true rfl
  unfold girL
  by_cases h : chk4 g s = 0
  · rw [if_pos h]
    rw [h] at c ⊢
    obtain ⟨hg, ha⟩ := chk4_ok hrw h
    have hgl := hg.len
    have run : ∀ res, (girN g s g.length = [] → res = .tup [.int .i64 0, .nils, .int .i64 0]) → (girN g s g.length ≠ [] → res = thT 0 (girN g s g.length)) →
        T Try.prog 0 (.loop (loopC (bodyOf Try.f12) 0)) (la12 (qgi g s [] [] 0)) (TK Try.prog 0 (Fin Try.prog Try.f12 0 [] res) (loopK (bodyOf Try.f12) 0)) := by
      intro res hnil hsome
      refine T.loop (fun i : Nat => st12S g s (girN g s i) i) (fun i => i ≤ g.length) (fun i => g.length + 1 - i) 0 (Nat.zero_le _) ?_
      intro i hi
      by_cases hil : i < g.length
      · have ct := through_ct hg ha i hil
        have hs1 : girN g s (i + 1) = girF (girN g s i) (thZ g s i) := rfl
        have next : ∀ st, Ren 0 st (st12S g s (girN g s (i + 1)) (i + 1)) → ∃ j, Ren 0 st (st12S g s (girN g s j) j) ∧ j ≤ g.length ∧ g.length + 1 - j < g.length + 1 - i := fun st hst => ⟨i + 1, hst, hil, by omega⟩
        rw [hs1] at next
        generalize thZ g s i = p at ct next
        generalize girN g s i = o at next
        have hpl := lI_len p
        have hol := lI_len o
        have dk : decide (iN i < iN g.length) = true := decide_eq_true (by simp only [iN]; omega)
        have wi : IntKind.i64.wrap (iN i + 1) = ((i + 1 : Nat) : Int) := wrap_nat i (by omega)
        unfold girF at next
        by_cases hp : 0 < p.length
        · have hpne : p ≠ [] := by intro e; rw [e] at hp; simp at hp
          cases o with
          | nil =>
            rw [if_pos ⟨hp, .inl rfl⟩, st12S_ne hpne] at next
            refine T.path mix (gar_0 (qgi g s p [] i) dk ct (decide_eq_true (by simp only [iN, qgi, hpl]; omega)) ?_)
            intro st hst
            simp only [wi, qgi] at hst
            exact next st hst
          | cons o0 o1 =>
            by_cases hlt : p.length < (o0 :: o1).length
            · rw [if_pos ⟨hp, .inr hlt⟩, st12S_ne hpne] at next
              refine T.path mix (gbr_0 (qgi g s p (o0 :: o1) i) dk ct (decide_eq_true (by simp only [iN, qgi, hpl]; omega)) (by simp [qgi]) (decide_eq_true (by simp only [iN, qgi, hpl, hol]; omega)) ?_)
              intro st hst
              simp only [wi, qgi] at hst
              exact next st hst
            · rw [if_neg (fun h => h.2.elim (fun e => by cases e) hlt)] at next
              refine T.path mix (gbr_1 (qgi g s p (o0 :: o1) i) dk ct (decide_eq_true (by simp only [iN, qgi, hpl]; omega)) (by simp [qgi]) (decide_eq_false (by simp only [iN, qgi, hpl, hol]; omega)) ?_)
              intro st hst
              simp only [wi, qgi] at hst
              exact next st hst
        · rw [if_neg (fun h => hp h.1)] at next
          cases o with
          | nil =>
            refine T.path mix (gar_1 (qgi g s p [] i) dk ct (decide_eq_false (by simp only [iN, qgi, hpl]; omega)) ?_)
            intro st hst
            simp only [wi, qgi] at hst
            exact next st hst
          | cons o0 o1 =>
            refine T.path mix (gbr_2 (qgi g s p (o0 :: o1) i) dk ct (decide_eq_false (by simp only [iN, qgi, hpl]; omega)) ?_)
            intro st hst
            simp only [wi, qgi] at hst
            exact next st hst
      · obtain rfl : i = g.length := by omega
        have dn : decide (iN g.length < iN g.length) = false := decide_eq_false (by omega)
        generalize girN g s g.length = o at hnil hsome
        cases o with
        | nil =>
          rw [hnil rfl]
          exact T.out mix (gax_0 (qgi g s [] [] g.length) dn)
        | cons o0 o1 =>
          rw [hsome (by simp)]
          have k := gbx_0 (qgi g s [] (o0 :: o1) g.length) dn
          simp only [lI_len, qgi] at k
          exact T.out mix k
    by_cases hz : girN g s g.length = []
    · refine CT.pathW mix Try.func12 hb hn (res := .tup [.int .i64 0, .nils, .int .i64 0]) (gi_1 ⟨g, s, 0, [], [], [], [], 0, 0, 0, 0, 0, 0, 0, 0, false, false⟩ c rfl ?_) (by rw [hz]; rfl)
      simp only [hl]
      exact run _ (fun _ => rfl) (fun h => absurd hz h)
    · refine CT.path mix Try.func12 hb hn (gi_1 ⟨g, s, 0, [], [], [], [], 0, 0, 0, 0, 0, 0, 0, 0, false, false⟩ c rfl ?_)
      simp only [hl]
      exact run _ (fun h => absurd h hz) (fun _ => rfl)
  · rw [if_neg h]
    exact CT.pathW mix Try.func12 hb hn (gi_0 ⟨g, s, 0, [], [], [], [], chk4 g s, 0, 0, 0, 0, 0, 0, 0, false, false⟩ c (by simpa using h)) rfl

/-! Closed walks. -/
def ClsP (g : List (List Int)) (s : List Bool) (o : List Int) : Prop := o ≠ [] ∧ (∀ x ∈ o, 0 ≤ x ∧ x < (g.length : Int) ∧ s.getD x.toNat false = false) ∧ ∀ i, i < o.length → o.getD ((i + 1) % o.length) 0 ∈ g.getD (o.getD i 0).toNat []
open Classical in
noncomputable def clsB (g : List (List Int)) (s : List Bool) (o : List Int) : Bool := decide (chk4 g s = 0 ∧ ClsP g s o)
theorem clsB_iff {g : List (List Int)} {s : List Bool} {o : List Int} : clsB g s o = true ↔ chk4 g s = 0 ∧ ClsP g s o := by simp [clsB]

def anyN (r : List Int) (x : Int) : Nat → Bool
  | 0 => false
  | a + 1 => anyN r x a || (r.getD a 0 == x)
theorem anyN_iff {r : List Int} {x : Int} : ∀ n, anyN r x n = true ↔ ∃ j, j < n ∧ r.getD j 0 = x := by
  intro n
  induction n with
  | zero => simp [anyN]
  | succ n ih =>
    rw [anyN, Bool.or_eq_true, ih, beq_iff_eq]
    constructor
    · rintro (⟨j, hj, e⟩ | e)
      · exact ⟨j, by omega, e⟩
      · exact ⟨n, by omega, e⟩
    · rintro ⟨j, hj, e⟩
      by_cases ej : j = n
      · exact .inr (by rw [← ej]; exact e)
      · exact .inl ⟨j, by omega, e⟩

theorem get_mem {o : List Int} {i : Nat} (h : i < o.length) : o.getD i 0 ∈ o := by
  rw [List.getD_eq_getElem?_getD, List.getElem?_eq_getElem h]
  exact List.getElem_mem h
theorem mem_get {o : List Int} {x : Int} (h : x ∈ o) : ∃ i, i < o.length ∧ o.getD i 0 = x := by
  obtain ⟨i, hi, e⟩ := List.mem_iff_getElem.1 h
  exact ⟨i, hi, by rw [List.getD_eq_getElem?_getD, List.getElem?_eq_getElem hi]; exact e⟩

def prevW (o : List Int) (i : Nat) : Int := if i = 0 then o.getD (o.length - 1) 0 else o.getD (i - 1) 0
noncomputable def qcl (g : List (List Int)) (s : List Bool) (o r : List Int) (i a : Nat) (x y : Int) (b : Bool) : QE := ⟨g, s, 0, [], o, [], r, 0, i, a, 0, x, y, 0, 0, b, false⟩

theorem ci_run {g : List (List Int)} {s : List Bool} (o r : List Int) (i : Nat) (hi : i < o.length) (hol : o.length ≤ 9223372036854775807) (hr : r.length ≤ 9223372036854775807) (x : Int) {R : St → Prop} {post : Exit → St → Prop}
    (hy : x ∉ r → Pass post (Fin Try.prog Try.f17 0 [] (.bool false)))
    (hR : x ∈ r → ∀ st, Ren 0 st (lo17 (qcl g s o [] (i + 1) 0 0 x false)) → R st) :
    T Try.prog 0 (.loop (loopC (loopC (bodyOf Try.f17) 0) 0)) (li17 (qcl g s o r i 0 x 0 false)) (TK Try.prog 0 (andThen R post) (loopK (loopC (bodyOf Try.f17) 0) 0)) := by
  refine T.loop (fun a : Nat => li17 (qcl g s o r i a x 0 (anyN r x a))) (fun a => a ≤ r.length) (fun a => r.length + 1 - a) 0 (Nat.zero_le _) ?_
  intro a hal
  by_cases h : a < r.length
  · have hg1 := lI_get h
    have dk : decide (iN a < iN r.length) = true := decide_eq_true (by simp only [iN]; omega)
    have wa : IntKind.i64.wrap (iN a + 1) = ((a + 1 : Nat) : Int) := wrap_nat a (by omega)
    cases hb : anyN r x a with
    | true =>
      refine T.path mix (cir_0 ⟨g, s, 0, [], o, [], r, 0, i, a, 0, x, 0, r.getD a 0, 0, true, false⟩ dk (by simp [iN]) hg1 rfl ?_)
      intro st hst
      simp only [wa] at hst
      refine ⟨a + 1, ?_, h, by omega⟩
      rw [anyN, hb, Bool.true_or]
      exact hst
    | false =>
      refine T.path mix (cir_1 ⟨g, s, 0, [], o, [], r, 0, i, a, 0, x, 0, r.getD a 0, 0, false, false⟩ dk (by simp [iN]) hg1 rfl ?_)
      intro st hst
      simp only [wa] at hst
      refine ⟨a + 1, ?_, h, by omega⟩
      rw [anyN, hb, Bool.false_or]
      exact hst
  · obtain rfl : a = r.length := by omega
    have dn : decide (iN r.length < iN r.length) = false := decide_eq_false (by omega)
    have hm : anyN r x r.length = true ↔ x ∈ r := by
      rw [anyN_iff]
      exact ⟨fun ⟨j, hj, e⟩ => by rw [← e]; exact get_mem hj, mem_get⟩
    cases hb : anyN r x r.length with
    | true =>
      refine T.out mix (cix_1 (qcl g s o r i r.length x 0 true) dn rfl ?_)
      intro st hst
      simp only [qcl, wrap_nat i (show i < 9223372036854775807 by omega)] at hst
      exact hR (hm.1 hb) st hst
    | false =>
      exact T.out mix (cix_0 (qcl g s o r i r.length x 0 false) dn rfl (hy fun h => by rw [hm.2 h] at hb; cases hb))

theorem ClsP.prev {g : List (List Int)} {s : List Bool} {o : List Int} (h : ClsP g s o) {i : Nat} (hi : i < o.length) : prevW o i ∈ o ∧ o.getD i 0 ∈ g.getD (prevW o i).toNat [] := by
  unfold prevW
  split
  · rename_i e
    subst e
    refine ⟨get_mem (by omega), ?_⟩
    have := h.2.2 (o.length - 1) (by omega)
    rwa [show o.length - 1 + 1 = o.length by omega, Nat.mod_self] at this
  · rename_i e
    refine ⟨get_mem (by omega), ?_⟩
    have := h.2.2 (i - 1) (by omega)
    rwa [show i - 1 + 1 = i by omega, Nat.mod_eq_of_lt hi] at this

theorem ClsP.of {g : List (List Int)} {s : List Bool} {o : List Int} (h0 : o ≠ []) (h : ∀ i, i < o.length → (0 ≤ o.getD i 0 ∧ o.getD i 0 < (g.length : Int) ∧ s.getD (o.getD i 0).toNat false = false) ∧ o.getD i 0 ∈ g.getD (prevW o i).toNat []) : ClsP g s o := by
  refine ⟨h0, fun x hx => ?_, fun i hi => ?_⟩
  · obtain ⟨i, hi, rfl⟩ := mem_get hx
    exact (h i hi).1
  · by_cases e : i + 1 = o.length
    · rw [e, Nat.mod_self]
      have := (h 0 (by omega)).2
      unfold prevW at this
      rw [if_pos rfl] at this
      rwa [show i = o.length - 1 by omega]
    · rw [Nat.mod_eq_of_lt (by omega)]
      have := (h (i + 1) (by omega)).2
      unfold prevW at this
      rwa [if_neg (by omega), Nat.add_sub_cancel] at this

theorem closed_ct {g : List (List Int)} {s : List Bool} (hrw : Rows g) (o : List Int) (hol : o.length ≤ 9223372036854775807) : CT Try.prog 17 [] [.lst (gL g), .lst (boL s), lI o] [] (.bool (clsB g s o)) := by
  have hl := gL_len g
  have c := gcheckG_ct (s := s) hrw
  have hlo := lI_len o
  have hb : Try.f17.body = some (bodyOf Try.f17) := by kernel_rfl
  have hn : [AV.lst (gL g), .lst (boL s), lI o].length ≤ Try.f17.ntmps := Nat.le_of_ble_eq_true rfl
  have hcb := clsB_iff (g := g) (s := s) (o := o)
  generalize clsB g s o = b at hcb
  have hf : ¬ (chk4 g s = 0 ∧ ClsP g s o) → b = false := fun h => Bool.eq_false_iff.2 fun e => h (hcb.1 e)
  by_cases h : chk4 g s = 0
  · rw [h] at c
    obtain ⟨hg, ha⟩ := chk4_ok hrw h
    by_cases h0 : o = []
    · rw [hf fun h => h.2.1 h0]
      exact CT.path mix Try.func17 hb hn (cl_1 ⟨g, s, 0, [], o, [], [], 0, 0, 0, 0, 0, 0, 0, 0, false, false⟩ c rfl (by simp [iN, h0]))
    · have hop : 0 < o.length := List.length_pos_iff.2 h0
      have hw1 : IntKind.i64.wrap (iN (o.map (AV.int .i64)).length - 1) = ((o.length - 1 : Nat) : Int) := by
        rw [hlo]; exact wrapM1 o.length hop (by omega)
      refine CT.path mix Try.func17 hb hn (cl_2 ⟨g, s, 0, [], o, [], [], 0, 0, 0, 0, 0, o.getD (o.length - 1) 0, 0, 0, false, false⟩ c rfl (by simp only [iN, hlo, beq_eq_false_iff_ne, ne_eq]; omega) (by simp only [hw1]; omega) (by simp only [hw1, Int.toNat_natCast]; exact lI_get (by omega)) ?_)
      simp only [hlo]
      refine T.loop (fun i : Nat => lo17 (qcl g s o [] i 0 0 (prevW o i) false)) (fun i => i ≤ o.length ∧ ∀ j, j < i → (0 ≤ o.getD j 0 ∧ o.getD j 0 < (g.length : Int) ∧ s.getD (o.getD j 0).toNat false = false) ∧ o.getD j 0 ∈ g.getD (prevW o j).toNat []) (fun i => o.length + 1 - i) 0 ⟨Nat.zero_le _, fun j hj => by omega⟩ ?_
      rintro i ⟨hi, hok⟩
      by_cases hil : i < o.length
      · have hg1 := lI_get hil
        have dk : decide (iN i < iN o.length) = true := decide_eq_true (by simp only [iN]; omega)
        by_cases b1 : o.getD i 0 < 0
        · rw [hf fun hc => by have := hc.2.2.1 _ (get_mem hil); omega]
          exact T.out mix (cla_0 ⟨g, s, 0, [], o, [], [], 0, i, 0, 0, o.getD i 0, prevW o i, 0, 0, false, false⟩ dk (by simp [iN]) hg1 (decide_eq_true b1))
        · by_cases b2 : (g.length : Int) ≤ o.getD i 0
          · rw [hf fun hc => by have := hc.2.2.1 _ (get_mem hil); omega]
            exact T.out mix (cla_1 ⟨g, s, 0, [], o, [], [], 0, i, 0, 0, o.getD i 0, prevW o i, 0, 0, false, false⟩ dk (by simp [iN]) hg1 (decide_eq_false b1) (decide_eq_true (by simp only [iN, hl]; exact b2)))
          · have hsv := boL_get (s := s) (v := (o.getD i 0).toNat) (by rw [hg.sh]; omega)
            by_cases b3 : s.getD (o.getD i 0).toNat false = true
            · rw [hf fun hc => by have := (hc.2.2.1 _ (get_mem hil)).2.2; rw [b3] at this; cases this]
              exact T.out mix (cla_2 ⟨g, s, 0, [], o, [], [], 0, i, 0, 0, o.getD i 0, prevW o i, 0, 0, false, s.getD (o.getD i 0).toNat false⟩ dk (by simp [iN]) hg1 (decide_eq_false b1) (decide_eq_false (by simp only [iN, hl]; exact b2)) (by simp only; omega) hsv b3)
            · have b3 := Bool.eq_false_iff.2 b3
              by_cases b4 : prevW o i < 0
              · rw [hf fun hc => by have := hc.2.2.1 _ (hc.2.prev hil).1; omega]
                exact T.out mix (cla_3 ⟨g, s, 0, [], o, [], [], 0, i, 0, 0, o.getD i 0, prevW o i, 0, 0, false, s.getD (o.getD i 0).toNat false⟩ dk (by simp [iN]) hg1 (decide_eq_false b1) (decide_eq_false (by simp only [iN, hl]; exact b2)) (by simp only; omega) hsv b3 (decide_eq_true b4))
              · by_cases b5 : (g.length : Int) ≤ prevW o i
                · rw [hf fun hc => by have := hc.2.2.1 _ (hc.2.prev hil).1; omega]
                  exact T.out mix (cla_4 ⟨g, s, 0, [], o, [], [], 0, i, 0, 0, o.getD i 0, prevW o i, 0, 0, false, s.getD (o.getD i 0).toNat false⟩ dk (by simp [iN]) hg1 (decide_eq_false b1) (decide_eq_false (by simp only [iN, hl]; exact b2)) (by simp only; omega) hsv b3 (decide_eq_false b4) (decide_eq_true (by simp only [iN, hl]; exact b5)))
                · have hrow := gL_get (g := g) (v := (prevW o i).toNat) (by omega)
                  have hr1 := (hg.row (prevW o i).toNat (by omega)).1
                  refine T.path mix (cla_5 ⟨g, s, 0, [], o, [], g.getD (prevW o i).toNat [], 0, i, 0, 0, o.getD i 0, prevW o i, 0, 0, false, s.getD (o.getD i 0).toNat false⟩ dk (by simp [iN]) hg1 (decide_eq_false b1) (decide_eq_false (by simp only [iN, hl]; exact b2)) (by simp only; omega) hsv b3 (decide_eq_false b4) (decide_eq_false (by simp only [iN, hl]; exact b5)) (by simp only; omega) hrow ?_)
                  simp only [lI_len]
                  refine ci_run o _ i hil hol hr1 (o.getD i 0) (fun hm => ?_) (fun hm st hst => ?_)
                  · rw [hf fun hc => hm (hc.2.prev hil).2]
                    exact fun st hst => TK.ret hst _
                  · refine ⟨i + 1, ?_, ⟨hil, fun j hj => ?_⟩, by omega⟩
                    · have e : prevW o (i + 1) = o.getD i 0 := by unfold prevW; rw [if_neg (by omega), Nat.add_sub_cancel]
                      rw [e]
                      exact hst
                    · by_cases ej : j = i
                      · rw [ej]; exact ⟨⟨by omega, by omega, b3⟩, hm⟩
                      · exact hok j (by omega)
      · obtain rfl : i = o.length := by omega
        rw [hcb.2 ⟨h, ClsP.of h0 hok⟩]
        exact T.out mix (clx_0 (qcl g s o [] o.length 0 0 (prevW o o.length) false) (decide_eq_false (by simp only [iN, qcl]; omega)))
  · rw [hf fun hc => h hc.1]
    exact CT.path mix Try.func17 hb hn (cl_0 ⟨g, s, 0, [], o, [], [], chk4 g s, 0, 0, 0, 0, 0, 0, 0, false, false⟩ c (by simpa using h))

end Go.Proofs.Ytcdgphdieemjcaa

/-! Contracts. -/
open Go Go.AX Go.Proofs
set_option maxRecDepth 100000
set_option maxHeartbeats 1000000
set_option linter.unusedVariables false
set_option linter.unusedSimpArgs false
namespace Go.Proofs.Ytcdgphdieemjcaa
/-! Shortest closed walks. -/
theorem chk4_of {g : List (List Int)} {s : List Bool} (hg : OkG g s) (ha : Asc g) : chk4 g s = 0 := by
  unfold chk4
  rw [if_neg (by have := hg.len; omega)]
  have hb : badG g = false := by
    unfold badG
    have : fnd (badR g) 0 g.length = none := fnd_false fun v _ hv => by
      unfold badR
      have hv : v < g.length := by omega
      have hget := fun i => row_get hg hv (i := i)
      have hs := ha v hv
      have : fnd (badE (g.getD v []) g.length v) 0 (g.getD v []).length = none := fnd_false fun i _ hi => by
        obtain ⟨w, hw, hw1, hw2⟩ := hget i (by omega)
        unfold badE
        rw [decide_eq_false (by omega), decide_eq_false (by omega), Bool.false_or, Bool.false_or, beq_eq_false_iff_ne.2 (by omega), Bool.false_or]
        by_cases h0 : 0 < i
        · have := hs i h0 (by omega)
          rw [decide_eq_false (p := (g.getD v []).getD i 0 ≤ (g.getD v []).getD (i - 1) 0) (by omega), Bool.and_false]
        · rw [decide_eq_false h0, Bool.false_and]
      rw [this]; rfl
    rw [this]; rfl
  rw [if_neg (by simp [hb]), if_neg (by simp [hg.sh])]

theorem thZ_spec {g : List (List Int)} {s : List Bool} (hg : OkG g s) {v : Nat} (hv : v < g.length) (hne : thZ g s v ≠ []) :
    ∃ b m : Nat, s.getD v false = false ∧ b < g.length ∧ (b : Int) ∈ g.getD v [] ∧ (distL g s v g.length).getD b 0 = (m : Int) ∧ 1 ≤ m ∧ thZ g s v = (v : Int) :: (List.range m).map (wkZ g (distL g s v g.length) b) ∧
      ∀ w ∈ g.getD v [], 0 ≤ (distL g s v g.length).getD w.toNat 0 → (m : Int) ≤ (distL g s v g.length).getD w.toNat 0 := by
  unfold thZ at hne ⊢
  by_cases hso : s.getD v false = true
  · rw [if_pos hso] at hne; exact absurd rfl hne
  · rw [if_neg hso] at hne ⊢
    have hso := Bool.eq_false_iff.2 hso
    have hD := dst_ok hg hv
    generalize distL g s v g.length = d at hne hD ⊢
    have hbo := best_ok (d := d) (row_nn hg hv) _ (Nat.le_refl _)
    generalize hbb : bestN d (g.getD v []) (g.getD v []).length = b at hbo hne ⊢
    unfold thD at hne ⊢
    rcases hbo with ⟨rfl, _⟩ | ⟨k, hk, hbk, hk0, hmin, _⟩
    · rw [if_pos (by decide)] at hne; exact absurd rfl hne
    · obtain ⟨w, hw, hw1, hw2⟩ := row_get hg hv hk
      rw [hw] at hbk
      subst hbk
      rw [hw, Int.toNat_natCast] at hk0 hmin
      rw [if_neg (by omega)]
      refine ⟨w, (d.getD w 0).toNat, hso, hw1, by rw [← hw]; exact row_mem hk, by omega, ?_, by rw [Int.toNat_natCast], fun x hx h0 => ?_⟩
      · by_cases e : d.getD w 0 = 0
        · exact absurd (zero_goal hD hw1 e) hw2
        · omega
      · obtain ⟨j, hj, rfl⟩ := mem_row hx
        have := hmin j hj h0
        omega

theorem th_get {g : List (List Int)} {d : List Int} {v b m : Nat} : ∀ i, i < m + 1 → ((v : Int) :: (List.range m).map (wkZ g d b)).getD i 0 = if i = 0 then (v : Int) else wkZ g d b (i - 1) := by
  intro i hi
  cases i with
  | zero => rfl
  | succ i => rw [if_neg (by omega), Nat.add_sub_cancel, List.getD_cons_succ, List.getD_eq_getElem?_getD, List.getElem?_map, List.getElem?_range (by omega)]; rfl

theorem th_cls {g : List (List Int)} {s : List Bool} (hg : OkG g s) {v : Nat} (hv : v < g.length) (hne : thZ g s v ≠ []) : ClsP g s (thZ g s v) ∧ (thZ g s v).getD 0 0 = (v : Int) ∧ ∀ i, i < (thZ g s v).length → (thZ g s v).getD i 0 ∉ (thZ g s v).take i := by
  obtain ⟨b, m, hso, hb, hbm, hm, h1, e, _⟩ := thZ_spec hg hv hne
  rw [e]
  have hD := dst_ok hg hv
  generalize distL g s v g.length = d at hD hm
  have hok := wk_ok hg hv hD hb hm hso
  have hz := hD.zero hso
  have hlen : ((v : Int) :: (List.range m).map (wkZ g d b)).length = m + 1 := by simp
  have hget := th_get (g := g) (d := d) (v := v) (b := b) (m := m)
  have hwm : wkZ g d b m = (v : Int) := by
    obtain ⟨a1, a2, a3⟩ := hok m (Nat.le_refl _)
    have := zero_goal hD (v := (wkZ g d b m).toNat) (by omega) (by rw [a3]; simp)
    omega
  generalize hl : (v : Int) :: (List.range m).map (wkZ g d b) = l at hlen hget
  refine ⟨⟨by rw [← hl]; simp, fun x hx => ?_, fun i hi => ?_⟩, by rw [← hl]; rfl, fun i hi hm' => ?_⟩
  · obtain ⟨i, hi, rfl⟩ := mem_get hx
    rw [hget i (by omega)]
    split
    · exact ⟨by omega, by omega, by rw [Int.toNat_natCast]; exact hso⟩
    · obtain ⟨a1, a2, a3⟩ := hok (i - 1) (by omega)
      exact ⟨a1, a2, by
        have hu : (wkZ g d b (i - 1)).toNat < g.length := by omega
        rcases hD.back _ hu (by rw [a3]; omega) with e | e
        · rw [e]; exact hso
        · exact e.1⟩
  · have hnx : l.getD ((i + 1) % l.length) 0 = wkZ g d b i := by
      by_cases e2 : i = m
      · rw [hlen, e2, Nat.mod_self, hget 0 (by omega), if_pos rfl, hwm]
      · rw [hlen, Nat.mod_eq_of_lt (by omega), hget (i + 1) (by omega), if_neg (by omega), Nat.add_sub_cancel]
    rw [hnx, hget i (by omega)]
    split
    · rename_i e0
      rw [e0, Int.toNat_natCast]
      exact hbm
    · rename_i e0
      obtain ⟨a1, a2, a3⟩ := hok (i - 1) (by omega)
      have := hop_mem hg hD (u := (wkZ g d b (i - 1)).toNat) (by omega) (by rw [a3]; omega) hso
      obtain ⟨i', rfl⟩ : ∃ i', i = i' + 1 := ⟨i - 1, by omega⟩
      exact this
  · have hm2 : ∃ j, j < i ∧ l.getD j 0 = l.getD i 0 := by
      obtain ⟨j, hj, e2⟩ := mem_get hm'
      have hj2 : j < i := by simp only [List.length_take] at hj; omega
      refine ⟨j, hj2, ?_⟩
      rw [← e2, List.getD_eq_getElem?_getD, List.getD_eq_getElem?_getD, List.getElem?_take, if_pos hj2]
    obtain ⟨j, hj, e2⟩ := hm2
    rw [hget i (by omega), hget j (by omega), if_neg (show ¬ i = 0 by omega)] at e2
    obtain ⟨a1, a2, a3⟩ := hok (i - 1) (by omega)
    by_cases ej : j = 0
    · rw [if_pos ej] at e2
      rw [← e2, Int.toNat_natCast, hz] at a3
      omega
    · rw [if_neg ej] at e2
      obtain ⟨b1, b2, b3⟩ := hok (j - 1) (by omega)
      rw [e2, a3] at b3
      omega

theorem girN_spec (g : List (List Int)) (s : List Bool) : ∀ k, (girN g s k = [] ∧ ∀ v, v < k → thZ g s v = []) ∨ ∃ v, v < k ∧ girN g s k = thZ g s v ∧ thZ g s v ≠ [] ∧ ∀ u, u < k → thZ g s u ≠ [] → (thZ g s v).length ≤ (thZ g s u).length := by
  intro k
  induction k with
  | zero => exact .inl ⟨rfl, fun v hv => by omega⟩
  | succ k ih =>
    have e : girN g s (k + 1) = girF (girN g s k) (thZ g s k) := rfl
    rw [e]
    unfold girF
    by_cases hp : thZ g s k = []
    · rw [if_neg (fun h => by rw [hp] at h; exact absurd h.1 (by simp))]
      rcases ih with ⟨h1, h2⟩ | ⟨v, hv, h1, h2, h3⟩
      · refine .inl ⟨h1, fun v hv => ?_⟩
        by_cases ev : v = k
        · rw [ev]; exact hp
        · exact h2 v (by omega)
      · refine .inr ⟨v, by omega, h1, h2, fun u hu hne => ?_⟩
        by_cases eu : u = k
        · rw [eu] at hne; exact absurd hp hne
        · exact h3 u (by omega) hne
    · have hpl : 0 < (thZ g s k).length := List.length_pos_iff.2 hp
      rcases ih with ⟨h1, h2⟩ | ⟨v, hv, h1, h2, h3⟩
      · rw [if_pos ⟨hpl, .inl h1⟩]
        refine .inr ⟨k, by omega, rfl, hp, fun u hu hne => ?_⟩
        by_cases eu : u = k
        · rw [eu]; exact Nat.le_refl _
        · exact absurd (h2 u (by omega)) hne
      · rw [h1]
        by_cases hlt : (thZ g s k).length < (thZ g s v).length
        · rw [if_pos ⟨hpl, .inr hlt⟩]
          refine .inr ⟨k, by omega, rfl, hp, fun u hu hne => ?_⟩
          by_cases eu : u = k
          · rw [eu]; exact Nat.le_refl _
          · have := h3 u (by omega) hne; omega
        · rw [if_neg (fun h => h.2.elim h2 hlt)]
          refine .inr ⟨v, by omega, rfl, h2, fun u hu hne => ?_⟩
          by_cases eu : u = k
          · rw [eu]; omega
          · exact h3 u (by omega) hne

theorem cls_dist {g : List (List Int)} {s : List Bool} {o : List Int} (hc : ClsP g s o) {d : List Int} (hD : Dst g s (o.getD 0 0).toNat d) : ∀ j, j ≤ o.length → 0 ≤ d.getD (o.getD ((o.length - j) % o.length) 0).toNat 0 ∧ d.getD (o.getD ((o.length - j) % o.length) 0).toNat 0 ≤ (j : Int) := by
  have hop : 0 < o.length := List.length_pos_iff.2 hc.1
  intro j
  induction j with
  | zero =>
    intro _
    rw [Nat.sub_zero, Nat.mod_self, hD.zero (hc.2.1 _ (get_mem hop)).2.2]
    exact ⟨Int.le_refl _, Int.le_refl _⟩
  | succ j ih =>
    intro hj
    obtain ⟨a, b⟩ := ih (by omega)
    have hi : o.length - (j + 1) < o.length := by omega
    rw [Nat.mod_eq_of_lt hi]
    have hed := hc.2.2 _ hi
    rw [show o.length - (j + 1) + 1 = o.length - j by omega] at hed
    obtain ⟨r0, r1, r2⟩ := hc.2.1 _ (get_mem hi)
    obtain ⟨a', b'⟩ := hD.fwd _ (by omega) r2 _ hed a
    exact ⟨a', by omega⟩

/-- No closed walk is shorter than the girth. -/
theorem girth_min {g : List (List Int)} {s : List Bool} (hg : OkG g s) {o : List Int} (hc : ClsP g s o) : girN g s g.length ≠ [] ∧ (girN g s g.length).length ≤ o.length := by
  have hop : 0 < o.length := List.length_pos_iff.2 hc.1
  obtain ⟨r0, r1, r2⟩ := hc.2.1 _ (get_mem hop)
  have hv : (o.getD 0 0).toNat < g.length := by omega
  have hD := dst_ok hg hv
  have hd := cls_dist hc hD (o.length - 1) (by omega)
  rw [show o.length - (o.length - 1) = 1 by omega] at hd
  have hed := hc.2.2 0 hop
  rw [Nat.zero_add] at hed
  have hth : thZ g s (o.getD 0 0).toNat ≠ [] ∧ (thZ g s (o.getD 0 0).toNat).length ≤ o.length := by
    unfold thZ
    rw [if_neg (by rw [r2]; simp)]
    generalize distL g s (o.getD 0 0).toNat g.length = d at hD hd
    have hbo := best_ok (d := d) (row_nn hg hv) _ (Nat.le_refl _)
    obtain ⟨j, hj, hje⟩ := mem_row hed
    rw [← hje] at hd
    have hnn := row_nn hg hv
    generalize bestN d (g.getD (o.getD 0 0).toNat []) (g.getD (o.getD 0 0).toNat []).length = b at hbo
    unfold thD
    rcases hbo with ⟨_, hn⟩ | ⟨k, hk, rfl, hk0, hmin, _⟩
    · have := hn j hj; omega
    · have h1 := hnn k hk
      have h2 := hmin j hj hd.1
      rw [if_neg (by omega)]
      refine ⟨by simp, ?_⟩
      simp only [List.length_cons, List.length_map, List.length_range]
      omega
  rcases girN_spec g s g.length with ⟨_, h⟩ | ⟨v, _, h1, h2, h3⟩
  · exact absurd (h _ hv) hth.1
  · rw [h1]
    exact ⟨h2, Nat.le_trans (h3 _ hv hth.1) hth.2⟩

theorem girth_cls {g : List (List Int)} {s : List Bool} (hg : OkG g s) (hne : girN g s g.length ≠ []) : ClsP g s (girN g s g.length) ∧ ∀ i, i < (girN g s g.length).length → (girN g s g.length).getD i 0 ∉ (girN g s g.length).take i := by
  rcases girN_spec g s g.length with ⟨h, _⟩ | ⟨v, hv, h1, h2, _⟩
  · exact absurd h hne
  · rw [h1]
    obtain ⟨a, _, c⟩ := th_cls hg hv h2
    exact ⟨a, c⟩

end Go.Proofs.Ytcdgphdieemjcaa

/-! The paths of a function, by evaluation. -/
open Go Go.AX Go.Proofs
set_option maxRecDepth 100000
set_option maxHeartbeats 4000000
set_option linter.unusedVariables false
namespace Go.Proofs.Ytcdgphdieemjcaa
def kg6 : List (List Int) := [[1], [0, 2], [0]]
def ks6 : List Bool := [false, false, false]
noncomputable def sk8 (u : Unit) : St := { n := Try.f8.ntmps, fr := [], hp := [] }
noncomputable def sk8b (u : Unit) : St := { n := Try.f8.ntmps, fr := [(0, .bool false)], hp := [] }
noncomputable def sk8c (u : Unit) : St := { n := Try.f8.ntmps, fr := [(0, .bool false), (1, .lst (gL kg6)), (2, .lst (boL ks6))], hp := [] }
def ck8 (u : Unit) : Nat → FuncId → List AV → List (Option Blk) → Hint := fun dst f args _ => match f with
  | 12 => .call [] [] [] (.tup [.int .i64 2, lI [0, 1], .int .i64 0])
  | 14 => .call [] [] [] (.tup [.int .i64 3, lI [2, 0, 1], .int .i64 0])
  | 16 => match args with
    | [_, .sl b _ _] => .call [] [b] [] (.bool true)
    | _ => .call [] [] [] (.bool true)
  | 17 => match args with
    | [_, _, .sl b _ _] => .call [] [b] [] (.bool true)
    | _ => .call [] [] [] (.bool true)
  | _ => .no
def ek8 (u : Unit) : List (Nat × AV) := []
structure QM where
  L : List Int
  W : List Int
  g : List (List Int)
  s : List Bool
  o : List Int
  p : List Int
  t : List Int
  i : Nat
  v : Nat
  w : Nat
  x : Int
  y : Int
  z : Int
  l : Int
  b : Bool
  r : List Int
  m1 : Nat
  m2 : Nat
  h : List (List Int)
def mkS (q : QM) : Nat → FuncId → List AV → List (Option Blk) → Hint := fun dst f args hp => match f with
  | 8 => .call [] [] [] (.bool true)
  | 9 => match args with
    | [.ptr b _ _, _] => .call [b] [] [tapeB q.L q.m1] (.lst (gL q.g))
    | _ => .no
  | 10 => match args with
    | [.ptr b _ _, _] => .call [b] [] [tapeB q.L q.m2] (.lst (boL q.s))
    | _ => .no
  | 12 => .call [] [] [] (.tup [.int .i64 (iN q.o.length), lI q.o, .int .i64 0])
  | 14 => .call [] [] [] (.tup [.int .i64 (iN q.p.length), lI q.p, .int .i64 0])
  | 17 => match args with
    | [_, _, .sl b _ _] => .call [] [b] [] (.bool q.b)
    | _ => .call [] [] [] (.bool q.b)
  | 19 => .call [] [] [] (.bool false)
  | 20 => .call [] [] [] (.int .i64 q.y)
  | _ => .no
noncomputable def st5 (q : QM) : St := { n := Try.f5.ntmps, fr := [(0, lI q.L)], hp := [] }
noncomputable def lo5 (q : QM) : St := { n := Try.f5.ntmps, fr := [(4, .lst (gL q.g)), (5, .lst (boL q.s)), (6, .int .i64 (iN q.o.length)), (8, .int .i64 0), (9, .int .i64 q.l), (10, .int .i64 (iN q.i))], hp := [] }
def eLe (q : QM) : List (Nat × AV) := [(59, .int .i64 (iN q.i))]
noncomputable def st4 (q : QM) : St := { n := Try.f4.ntmps, fr := [(0, lI q.L), (1, lI q.W)], hp := [] }
noncomputable def la4 (q : QM) : St := { n := Try.f4.ntmps, fr := [(1, lI q.W), (6, .lst (gL q.g)), (7, .lst (boL q.s)), (8, .int .i64 (iN q.o.length)), (9, lI q.o), (11, .int .i64 (iN q.i))], hp := [] }
noncomputable def lz4 (q : QM) : St := { n := Try.f4.ntmps, fr := [(1, lI q.W), (6, .lst (gL q.g)), (7, .lst (boL q.s)), (8, .int .i64 (iN q.o.length)), (12, .nils), (13, .int .i64 (iN q.i))], hp := [] }
noncomputable def lb4 (q : QM) : St := { n := Try.f4.ntmps, fr := [(1, lI q.W), (6, .lst (gL q.g)), (7, .lst (boL q.s)), (8, .int .i64 (iN q.o.length)), (12, .sl 0 0 q.t.length), (13, .int .i64 (iN q.i))], hp := [some (dB q.t)] }
def eSh (q : QM) : List (Nat × AV) := [(62, .int .i64 q.x), (83, .int .i64 q.x)]
theorem hk0_0 (u : Unit) {post : Exit → St → Prop} {R : St → Prop} (hR : ∀ st, Ren 0 st (St.mk 58 [(0, AV.bool false)] []) → R st) : ∃ o' st' q', go Try.prog ({ dec := [], els := ek8 u, calls := ck8 u, unroll := false } : HT) 0 4000 (.inl (sL (sR 0 (bodyOf Try.f8)))) [] (sk8 u) = some (o', st', q') ∧ q' ∧ Go.AX.Rest Try.prog 0 (andThen R post) st' o' :=
  endN_spec (σ := []) (fz := []) (vars := [0]) (show endN 0 [] [] [0] (go Try.prog ({ dec := [], els := ek8 u, calls := ck8 u, unroll := false } : HT) 0 4000 (.inl (sL (sR 0 (bodyOf Try.f8)))) [] (sk8 u)) = some (St.mk 58 [(0, AV.bool false)] [], (((True ∧ True) ∧ True) ∧ (True ∧ True))) by kernel_rfl) ⟨⟨⟨trivial, trivial⟩, trivial⟩, ⟨trivial, trivial⟩⟩ hR
theorem hk1_0 (u : Unit) {post : Exit → St → Prop} {R : St → Prop} (hR : ∀ st, Ren 0 st (St.mk 58 [(0, AV.bool false), (1, AV.sl 0 0 3), (2, AV.lst [AV.bool false, AV.bool false, AV.bool false])] [some (Blk.mk [AV.lst [AV.int IntKind.i64 1], AV.lst [AV.int IntKind.i64 0, AV.int IntKind.i64 2], AV.lst [AV.int IntKind.i64 0]] 1 true true)]) → R st) : ∃ o' st' q', go Try.prog ({ dec := [], els := ek8 u, calls := ck8 u, unroll := false } : HT) 0 4000 (.inl (sL (sR 1 (bodyOf Try.f8)))) [] (sk8b u) = some (o', st', q') ∧ q' ∧ Go.AX.Rest Try.prog 0 (andThen R post) st' o' :=
  endN_spec (σ := [3]) (fz := [0,1,2,4]) (vars := [0,1,2]) (show endN 0 [3] [0,1,2,4] [0,1,2] (go Try.prog ({ dec := [], els := ek8 u, calls := ck8 u, unroll := false } : HT) 0 4000 (.inl (sL (sR 1 (bodyOf Try.f8)))) [] (sk8b u)) = some (St.mk 58 [(0, AV.bool false), (1, AV.sl 0 0 3), (2, AV.lst [AV.bool false, AV.bool false, AV.bool false])] [some (Blk.mk [AV.lst [AV.int IntKind.i64 1], AV.lst [AV.int IntKind.i64 0, AV.int IntKind.i64 2], AV.lst [AV.int IntKind.i64 0]] 1 true true)], (((True ∧ (True ∧ (True ∧ ((True ∧ (True ∧ (True ∧ True))) ∧ (True ∧ ((True ∧ True) ∧ ((True ∧ True) ∧ True))))))) ∧ True) ∧ (True ∧ (True ∧ ((nat_lit 3 = nat_lit 3) ∧ (((nat_lit 1 = nat_lit 1) ∧ ((nat_lit 2 = nat_lit 2) ∧ ((nat_lit 1 = nat_lit 1) ∧ True))) ∧ True)))))) by kernel_rfl) ⟨⟨⟨trivial, ⟨trivial, ⟨trivial, ⟨⟨trivial, ⟨trivial, ⟨trivial, trivial⟩⟩⟩, ⟨trivial, ⟨⟨trivial, trivial⟩, ⟨⟨trivial, trivial⟩, trivial⟩⟩⟩⟩⟩⟩⟩, trivial⟩, ⟨trivial, ⟨trivial, ⟨(by first | decide | exact Int.NonNeg.mk _), ⟨⟨(by first | decide | exact Int.NonNeg.mk _), ⟨(by first | decide | exact Int.NonNeg.mk _), ⟨(by first | decide | exact Int.NonNeg.mk _), trivial⟩⟩⟩, trivial⟩⟩⟩⟩⟩ hR
theorem hk2_0 (u : Unit) (h1 : (CT Try.prog (nat_lit 12) [] [AV.lst [AV.lst [AV.int IntKind.i64 (1 : Int)], AV.lst [AV.int IntKind.i64 (0 : Int), AV.int IntKind.i64 (2 : Int)], AV.lst [AV.int IntKind.i64 (0 : Int)]], AV.lst [AV.bool false, AV.bool false, AV.bool false]] [] (AV.tup [AV.int IntKind.i64 (2 : Int), AV.lst [AV.int IntKind.i64 (0 : Int), AV.int IntKind.i64 (1 : Int)], AV.int IntKind.i64 (0 : Int)]))) (h2 : (CT Try.prog (nat_lit 14) [] [AV.lst [AV.lst [AV.int IntKind.i64 (1 : Int)], AV.lst [AV.int IntKind.i64 (0 : Int), AV.int IntKind.i64 (2 : Int)], AV.lst [AV.int IntKind.i64 (0 : Int)]], AV.lst [AV.bool false, AV.bool false, AV.bool false], AV.int IntKind.i64 (2 : Int)] [] (AV.tup [AV.int IntKind.i64 (3 : Int), AV.lst [AV.int IntKind.i64 (2 : Int), AV.int IntKind.i64 (0 : Int), AV.int IntKind.i64 (1 : Int)], AV.int IntKind.i64 (0 : Int)]))) (h3 : (CT Try.prog (nat_lit 16) [] [AV.lst [AV.int IntKind.i64 (0 : Int), AV.int IntKind.i64 (1 : Int)], AV.lst [AV.int IntKind.i64 (0 : Int), AV.int IntKind.i64 (1 : Int)]] [] (AV.bool true))) (h4 : (CT Try.prog (nat_lit 16) [] [AV.lst [AV.int IntKind.i64 (2 : Int), AV.int IntKind.i64 (0 : Int), AV.int IntKind.i64 (1 : Int)], AV.lst [AV.int IntKind.i64 (2 : Int), AV.int IntKind.i64 (0 : Int), AV.int IntKind.i64 (1 : Int)]] [] (AV.bool true))) (h5 : (CT Try.prog (nat_lit 17) [] [AV.lst [AV.lst [AV.int IntKind.i64 (1 : Int)], AV.lst [AV.int IntKind.i64 (0 : Int), AV.int IntKind.i64 (2 : Int)], AV.lst [AV.int IntKind.i64 (0 : Int)]], AV.lst [AV.bool false, AV.bool false, AV.bool false], AV.lst [AV.int IntKind.i64 (0 : Int), AV.int IntKind.i64 (1 : Int)]] [] (AV.bool true))) : ∃ o' st' q', go Try.prog ({ dec := [], els := ek8 u, calls := ck8 u, unroll := false } : HT) 0 4000 (.inl (sR 2 (bodyOf Try.f8))) [] (sk8c u) = some (o', st', q') ∧ q' ∧ Go.AX.Rest Try.prog 0 (Fin Try.prog Try.f8 0 [] (AV.bool true)) st' o' :=
  endF_spec (σ := []) (fz := []) (show endF Try.prog Try.f8 0 [] [] (go Try.prog ({ dec := [], els := ek8 u, calls := ck8 u, unroll := false } : HT) 0 4000 (.inl (sR 2 (bodyOf Try.f8))) [] (sk8c u)) = some ([], AV.bool true, ((((True ∧ True) ∧ ((True ∧ True) ∧ ((True ∧ (True ∧ (True ∧ (True ∧ ((type_of% h1) ∧ True))))) ∧ ((True ∧ True) ∧ ((True ∧ True) ∧ ((True ∧ True) ∧ ((True ∧ True) ∧ ((True ∧ True) ∧ ((True ∧ True) ∧ ((True ∧ True) ∧ True)))))))))) ∧ (((True ∧ True) ∧ ((True ∧ True) ∧ ((True ∧ (True ∧ (True ∧ (True ∧ (True ∧ ((type_of% h2) ∧ True)))))) ∧ ((True ∧ True) ∧ ((True ∧ True) ∧ ((True ∧ True) ∧ ((True ∧ True) ∧ ((True ∧ True) ∧ ((True ∧ True) ∧ ((True ∧ True) ∧ True)))))))))) ∧ (((True ∧ True) ∧ ((True ∧ True) ∧ ((True ∧ True) ∧ ((True ∧ (True ∧ True)) ∧ ((True ∧ (True ∧ True)) ∧ ((True ∧ (True ∧ True)) ∧ ((True ∧ True) ∧ ((True ∧ (True ∧ True)) ∧ ((True ∧ (True ∧ True)) ∧ ((True ∧ (True ∧ True)) ∧ ((True ∧ True) ∧ ((True ∧ (True ∧ True)) ∧ ((True ∧ True) ∧ ((True ∧ (True ∧ (True ∧ (True ∧ ((nat_lit 2 = nat_lit 2) ∧ ((type_of% h3) ∧ (∀ (blk : Blk), blk ∈ [] → ImmB blk))))))) ∧ ((True ∧ (True ∧ True)) ∧ ((True ∧ True) ∧ ((True ∧ (True ∧ True)) ∧ ((True ∧ (True ∧ True)) ∧ ((True ∧ (True ∧ True)) ∧ ((True ∧ True) ∧ ((True ∧ (True ∧ True)) ∧ ((True ∧ True) ∧ ((True ∧ (True ∧ (True ∧ (True ∧ ((nat_lit 3 = nat_lit 3) ∧ ((type_of% h4) ∧ (∀ (blk : Blk), blk ∈ [] → ImmB blk))))))) ∧ ((True ∧ (True ∧ True)) ∧ ((True ∧ True) ∧ ((True ∧ (True ∧ True)) ∧ ((True ∧ (True ∧ True)) ∧ ((True ∧ True) ∧ ((True ∧ (True ∧ (True ∧ (True ∧ (True ∧ (True ∧ ((nat_lit 2 = nat_lit 2) ∧ ((type_of% h5) ∧ (∀ (blk : Blk), blk ∈ [] → ImmB blk))))))))) ∧ ((True ∧ (True ∧ True)) ∧ ((True ∧ True) ∧ True))))))))))))))))))))))))))))))) ∧ True))) ∧ (True ∧ True))) by kernel_rfl) ⟨⟨⟨⟨trivial, trivial⟩, ⟨⟨trivial, trivial⟩, ⟨⟨trivial, ⟨trivial, ⟨trivial, ⟨trivial, ⟨h1, trivial⟩⟩⟩⟩⟩, ⟨⟨trivial, trivial⟩, ⟨⟨trivial, trivial⟩, ⟨⟨trivial, trivial⟩, ⟨⟨trivial, trivial⟩, ⟨⟨trivial, trivial⟩, ⟨⟨trivial, trivial⟩, ⟨⟨trivial, trivial⟩, trivial⟩⟩⟩⟩⟩⟩⟩⟩⟩⟩, ⟨⟨⟨trivial, trivial⟩, ⟨⟨trivial, trivial⟩, ⟨⟨trivial, ⟨trivial, ⟨trivial, ⟨trivial, ⟨trivial, ⟨h2, trivial⟩⟩⟩⟩⟩⟩, ⟨⟨trivial, trivial⟩, ⟨⟨trivial, trivial⟩, ⟨⟨trivial, trivial⟩, ⟨⟨trivial, trivial⟩, ⟨⟨trivial, trivial⟩, ⟨⟨trivial, trivial⟩, ⟨⟨trivial, trivial⟩, trivial⟩⟩⟩⟩⟩⟩⟩⟩⟩⟩, ⟨⟨⟨trivial, trivial⟩, ⟨⟨trivial, trivial⟩, ⟨⟨trivial, trivial⟩, ⟨⟨trivial, ⟨trivial, trivial⟩⟩, ⟨⟨trivial, ⟨trivial, trivial⟩⟩, ⟨⟨trivial, ⟨trivial, trivial⟩⟩, ⟨⟨trivial, trivial⟩, ⟨⟨trivial, ⟨trivial, trivial⟩⟩, ⟨⟨trivial, ⟨trivial, trivial⟩⟩, ⟨⟨trivial, ⟨trivial, trivial⟩⟩, ⟨⟨trivial, trivial⟩, ⟨⟨trivial, ⟨trivial, trivial⟩⟩, ⟨⟨trivial, trivial⟩, ⟨⟨trivial, ⟨trivial, ⟨trivial, ⟨trivial, ⟨(by first | decide | exact Int.NonNeg.mk _), ⟨h3, (by intro _ h; cases h)⟩⟩⟩⟩⟩⟩, ⟨⟨trivial, ⟨trivial, trivial⟩⟩, ⟨⟨trivial, trivial⟩, ⟨⟨trivial, ⟨trivial, trivial⟩⟩, ⟨⟨trivial, ⟨trivial, trivial⟩⟩, ⟨⟨trivial, ⟨trivial, trivial⟩⟩, ⟨⟨trivial, trivial⟩, ⟨⟨trivial, ⟨trivial, trivial⟩⟩, ⟨⟨trivial, trivial⟩, ⟨⟨trivial, ⟨trivial, ⟨trivial, ⟨trivial, ⟨(by first | decide | exact Int.NonNeg.mk _), ⟨h4, (by intro _ h; cases h)⟩⟩⟩⟩⟩⟩, ⟨⟨trivial, ⟨trivial, trivial⟩⟩, ⟨⟨trivial, trivial⟩, ⟨⟨trivial, ⟨trivial, trivial⟩⟩, ⟨⟨trivial, ⟨trivial, trivial⟩⟩, ⟨⟨trivial, trivial⟩, ⟨⟨trivial, ⟨trivial, ⟨trivial, ⟨trivial, ⟨trivial, ⟨trivial, ⟨(by first | decide | exact Int.NonNeg.mk _), ⟨h5, (by intro _ h; cases h)⟩⟩⟩⟩⟩⟩⟩⟩, ⟨⟨trivial, ⟨trivial, trivial⟩⟩, ⟨⟨trivial, trivial⟩, trivial⟩⟩⟩⟩⟩⟩⟩⟩⟩⟩⟩⟩⟩⟩⟩⟩⟩⟩⟩⟩⟩⟩⟩⟩⟩⟩⟩⟩⟩⟩⟩, trivial⟩⟩⟩, ⟨trivial, trivial⟩⟩
end Go.Proofs.Ytcdgphdieemjcaa

/-! Contracts. -/
open Go Go.AX Go.Proofs
set_option maxRecDepth 100000
set_option maxHeartbeats 1000000
set_option linter.unusedVariables false
set_option linter.unusedSimpArgs false
namespace Go.Proofs.Ytcdgphdieemjcaa
theorem hasZ_mem {l : List Int} {x : Int} : hasZ l x = true ↔ x ∈ l := by
  constructor
  · intro hh
    unfold hasZ at hh
    cases hfd : fnd (fun j => l.getD j 0 == x) 0 l.length with
    | none => rw [hfd] at hh; cases hh
    | some j =>
      obtain ⟨a1, _, a2⟩ := fnd_some hfd
      rw [← beq_iff_eq.1 a1]
      exact get_mem (by omega)
  · exact hasZ_true
theorem hasZ_no {l : List Int} {x : Int} (h : x ∉ l) : hasZ l x = false := Bool.eq_false_iff.2 fun e => h (hasZ_mem.1 e)

theorem rows_ok {g : List (List Int)} {s : List Bool} (hg : OkG g s) : Rows g := fun v hv => (hg.row v hv).1
theorem girth_ct {g : List (List Int)} {s : List Bool} (hg : OkG g s) (ha : Asc g) : CT Try.prog 12 [] [.lst (gL g), .lst (boL s)] [] (.tup [.int .i64 (iN (girN g s g.length).length), lI (girN g s g.length), .int .i64 0]) := by
  have h := GirthG_ct (s := s) (rows_ok hg)
  have hc := chk4_of hg ha
  unfold girL at h
  rw [if_pos hc, hc] at h
  exact h

theorem kg6_ok : OkG kg6 ks6 := by
  refine ⟨by decide, fun v hv => ?_, rfl⟩
  have : v < 3 := hv
  match v, this with
  | 0, _ => exact ⟨by decide, by decide⟩
  | 1, _ => exact ⟨by decide, by decide⟩
  | 2, _ => exact ⟨by decide, by decide⟩
theorem kg6_asc : Asc kg6 := by
  intro v hv i h0 hi
  have : v < 3 := hv
  match v, this with
  | 0, _ => exact absurd hi (by show ¬ i < 1; omega)
  | 1, _ =>
    have hi : i < 2 := hi
    obtain rfl : i = 1 := by omega
    decide
  | 2, _ => exact absurd hi (by show ¬ i < 1; omega)
theorem kgir : girN kg6 ks6 3 = [0, 1] := by decide +kernel
theorem kth2 : thZ kg6 ks6 2 = [2, 0, 1] := by decide +kernel
theorem kcls : ClsP kg6 ks6 [0, 1] := by unfold ClsP; decide +kernel

theorem known6_ct : CT Try.prog 8 [] [] [] (.bool true) := by
  have hb : Try.f8.body = some (bodyOf Try.f8) := by kernel_rfl
  have a1 := girth_ct kg6_ok kg6_asc
  rw [show kg6.length = 3 from rfl, kgir] at a1
  have a2 := Through_ct kg6_ok kg6_asc 2 (by decide)
  rw [kth2] at a2
  have a3 := closed_ct (s := ks6) (rows_ok kg6_ok) [0, 1] (by decide)
  rw [clsB_iff.2 ⟨chk4_of kg6_ok kg6_asc, kcls⟩] at a3
  refine CT.of Try.func8 hb (Nat.zero_le _) (T.cut (by kernel_rfl) (T.path mix (hk0_0 () fun st hst => T.ren hst ?_)))
  refine T.cut (by kernel_rfl) (T.path mix (hk1_0 () fun st hst => T.ren hst ?_))
  rw [sR_succ 1 (bodyOf Try.f8) (by kernel_rfl)]
  refine T.ren ?_ (T.path mix (hk2_0 () a1 a2 (sameInts_ct [0, 1] (by decide)) (sameInts_ct [2, 0, 1] (by decide)) a3))
  exact okRen_spec (σ := []) (fz := [0]) (vars := [0, 1, 2]) (p := (True ∧ ((3 = [1, 2, 3].length) ∧ (True ∧ True)))) rfl (by kernel_rfl) ⟨trivial, rfl, trivial, trivial⟩
noncomputable def qm (L W : List Int) (g : List (List Int)) (s : List Bool) (o p t : List Int) (i : Nat) (x y l : Int) (b : Bool) (kk kk2 : Nat) : QM := ⟨L, W, g, s, o, p, t, i, 0, 0, x, y, 0, l, b, [], kk, kk2, []⟩

noncomputable def st4S (g : List (List Int)) (s : List Bool) (o W t : List Int) (i : Nat) : St := match t with
  | [] => lz4 (qm [] W g s o [] [] i 0 0 0 false 0 0)
  | _ => lb4 (qm [] W g s o [] t i 0 0 0 false 0 0)
theorem ints6 {n : Nat} {es : List AV} (h : ∀ x ∈ es, ShV Try.prog n 3 x) : ∃ L : List Int, es = L.map (AV.int .i64) := by
  induction es with
  | nil => exact ⟨[], rfl⟩
  | cons x es ih =>
    obtain ⟨L, rfl⟩ := ih fun y hy => h y (List.mem_cons_of_mem _ hy)
    obtain ⟨i, _, rfl⟩ := (h x (by simp)).intD Try.underlying3
    exact ⟨i :: L, rfl⟩
end Go.Proofs.Ytcdgphdieemjcaa

/-! The paths of a function, by evaluation. -/
open Go Go.AX Go.Proofs
set_option maxRecDepth 100000
set_option maxHeartbeats 4000000
set_option linter.unusedVariables false
namespace Go.Proofs.Ytcdgphdieemjcaa
structure QN where
  L : List Int
  W : List Int
  g : List (List Int)
  s : List Bool
  o : List Int
  p : List Int
  t : List Int
  i : Nat
  v : Nat
  w : Nat
  x : Int
  y : Int
  z : Int
  b : Bool
  r : List Int
  m1 : Nat
  m2 : Nat
  h : List (List Int)
  kk : Nat
  s' : List Bool
  g' : List (List Int)
  e1 : Int
  e2 : Int
def cGr (q : QN) : Nat → FuncId → List AV → List (Option Blk) → Hint := fun dst f args hp => match f with
  | 8 => .call [] [] [] (.bool true)
  | 9 => match args with
    | [.ptr b _ _, _] => .call [b] [] [tapeB q.L q.m1] (.lst (gL q.g))
    | _ => .no
  | 10 => match args with
    | [.ptr b _ _, _] => .call [b] [] [tapeB q.L q.m2] (.lst (boL q.s))
    | _ => .no
  | 11 => nextG q.L args hp (match dst with | 46 => iN q.i | 58 => iN q.v | _ => iN q.w)
  | 12 => .call [] [] [] (.tup [.int .i64 (match dst with | 36 => q.z | 51 => q.y | _ => q.x), lI (match dst with | 36 => q.o | 51 => q.p | _ => q.t), .int .i64 0])
  | 19 => .call [] [] [] (.bool q.b)
  | 21 => .call [] [] [] (lI q.t)
  | _ => .no
def eGr (q : QN) : List (Nat × AV) := [(72, lI q.r), (82, lI q.r)]
noncomputable def st6 (q : QN) : St := { n := Try.f6.ntmps, fr := [(0, lI q.L)], hp := [] }
noncomputable def s63 (q : QN) : St := { n := Try.f6.ntmps, fr := [(3, .ptr 0 0 0)], hp := [some (tapeB q.L 0)] }
noncomputable def s64 (q : QN) : St := { n := Try.f6.ntmps, fr := [(3, .ptr 0 0 0), (4, .lst (gL q.g))], hp := [some (tapeB q.L q.m1)] }
noncomputable def s66 (q : QN) : St := { n := Try.f6.ntmps, fr := [(3, .ptr 0 0 0), (4, .lst (gL q.g)), (5, .lst (boL q.s))], hp := [some (tapeB q.L q.m2)] }
noncomputable def s67 (q : QN) : St := { n := Try.f6.ntmps, fr := [(3, .ptr 0 0 0), (4, .lst (gL q.g)), (5, .lst (boL q.s)), (6, .int .i64 q.z), (8, .int .i64 0)], hp := [some (tapeB q.L q.m2)] }
noncomputable def s68 (q : QN) : St := { n := Try.f6.ntmps, fr := [(3, .ptr 0 0 0), (4, .lst (gL q.g)), (5, .lst (boL q.s)), (6, .int .i64 q.z), (8, .int .i64 0), (9, .sl 1 0 (boL q.s).length)], hp := [some (tapeB q.L q.m2), some { es := boL q.s, z := 1 }] }
noncomputable def s69 (q : QN) : St := { n := Try.f6.ntmps, fr := [(3, .ptr 0 0 0), (4, .lst (gL q.g)), (5, .lst (boL q.s)), (6, .int .i64 q.z), (8, .int .i64 0), (9, .lst (boL q.s'))], hp := [some (tapeB q.L (q.m2 + 1))] }
noncomputable def s6a (q : QN) : St := { n := Try.f6.ntmps, fr := [(3, .ptr 0 0 0), (4, .lst (gL q.g)), (5, .lst (boL q.s)), (6, .int .i64 q.z), (8, .int .i64 0), (10, .int .i64 q.y), (12, .int .i64 0)], hp := [some (tapeB q.L (q.m2 + 1))] }
noncomputable def s6b (q : QN) : St := { n := Try.f6.ntmps, fr := [(4, .lst (gL q.g)), (5, .lst (boL q.s)), (6, .int .i64 q.z), (8, .int .i64 0), (10, .int .i64 q.y), (12, .int .i64 0), (13, .int .i64 (iN q.v)), (14, .int .i64 (iN q.w))], hp := [] }
noncomputable def s6c (q : QN) : St := { n := Try.f6.ntmps, fr := [(5, .lst (boL q.s)), (6, .int .i64 q.z), (8, .int .i64 0), (10, .int .i64 q.y), (12, .int .i64 0), (13, .int .i64 (iN q.v)), (14, .int .i64 (iN q.w)), (15, .sl 0 0 (gL q.g).length)], hp := [some { es := gL q.g, z := 1 }] }
noncomputable def s6d (q : QN) : St := { n := Try.f6.ntmps, fr := [(5, .lst (boL q.s)), (6, .int .i64 q.z), (8, .int .i64 0), (10, .int .i64 q.y), (12, .int .i64 0), (15, .lst (gL q.h))], hp := [] }
noncomputable def st3 (q : QN) : St := { n := Try.f3.ntmps, fr := [(0, .lst (gL q.g)), (1, .lst (boL q.s)), (2, lI q.o), (3, .int .i64 q.x), (4, lI q.L)], hp := [] }
noncomputable def lo3z (q : QN) : St := { n := Try.f3.ntmps, fr := [(0, .lst (gL q.g)), (1, .lst (boL q.s)), (2, lI q.o), (3, .int .i64 q.x), (11, .ptr 0 0 0), (12, .int .i64 0)], hp := [some (tapeB q.L q.kk)] }
noncomputable def lo3o (q : QN) : St := { n := Try.f3.ntmps, fr := [(11, .ptr 0 0 0), (12, .int .i64 1)], hp := [some (tapeB q.L q.kk)] }
noncomputable def lo3e (q : QN) : St := { n := Try.f3.ntmps, fr := [(12, .int .i64 2)], hp := [] }
noncomputable def lw3z (q : QN) : St := { n := Try.f3.ntmps, fr := [(0, .lst (gL q.g)), (1, .lst (boL q.s)), (2, .nils), (3, .int .i64 q.x), (11, .ptr 0 0 0), (12, .int .i64 1), (13, .int .i64 q.z)], hp := [some (tapeB q.L q.kk)] }
noncomputable def lw3 (q : QN) : St := { n := Try.f3.ntmps, fr := [(0, .lst (gL q.g)), (1, .lst (boL q.s)), (2, .sl 1 0 q.o.length), (3, .int .i64 q.x), (11, .ptr 0 0 0), (12, .int .i64 1), (13, .int .i64 q.z)], hp := [some (tapeB q.L q.kk), some (dB q.o)] }
def cFi (q : QN) : Nat → FuncId → List AV → List (Option Blk) → Hint := fun dst f args hp => match f with
  | 8 => .call [] [] [] (.bool true)
  | 9 => match args with
    | [.ptr b _ _, _] => .call [b] [] [tapeB q.L q.m1] (.lst (gL q.g'))
    | _ => .no
  | 10 => match args with
    | [.ptr b _ _, _] => .call [b] [] [tapeB q.L q.m2] (.lst (boL q.s'))
    | _ => .no
  | 11 => nextG q.L args hp (match dst with | 46 => q.x | 48 => q.z | _ => q.y)
  | 12 => .call [] [] [] (thT q.e1 q.p)
  | 13 => .call [] [] [] (thT q.e1 q.p)
  | 14 => .call [] [] [] (thT q.e2 q.t)
  | 15 => .call [] [] [] (thT q.e2 q.t)
  | 16 => .call [] [] [] (.bool true)
  | 17 => match args with
    | [_, _, .sl b _ _] => .call [] [b] [] (.bool q.b)
    | _ => .call [] [] [] (.bool q.b)
  | 18 => match args with
    | [_, _, .sl b _ _] => .call [] [b] [] (.bool q.b)
    | _ => .call [] [] [] (.bool q.b)
  | _ => .no
def eFi (q : QN) : List (Nat × AV) := []
theorem zz_0 (q : QN) (h1 : (CT Try.prog (nat_lit 8) [] [] [] (AV.bool true))) (h2 : (CT Try.prog 9 [some (Blk.mk [AV.agg [AV.lst (List.map (AV.int IntKind.i64) q.L), AV.int IntKind.i64 0]] [AV.lst (List.map (AV.int IntKind.i64) q.L), AV.int IntKind.i64 0].length true true)] [AV.ptr 0 0 0, AV.int IntKind.i64 9] [some (Blk.mk [AV.agg [AV.lst (List.map (AV.int IntKind.i64) q.L), AV.int IntKind.i64 (iN q.m1)]] 2 true true)] (AV.lst (gL q.g)))) (h3 : (decide (iN (gL q.g).length < 2) = true)) : ∃ o' st' q', go Try.prog ({ dec := [(28, true)], els := eGr q, calls := cGr q, unroll := false } : HT) 0 4000 (.inl (bodyOf Try.f6)) [] (st6 q) = some (o', st', q') ∧ q' ∧ Go.AX.Rest Try.prog 0 (Fin Try.prog Try.f6 0 [] (AV.bool true)) st' o' :=
  endF_spec (σ := []) (fz := []) (show endF Try.prog Try.f6 0 [] [] (go Try.prog ({ dec := [(28, true)], els := eGr q, calls := cGr q, unroll := false } : HT) 0 4000 (.inl (bodyOf Try.f6)) [] (st6 q)) = some ([], AV.bool true, (((True ∧ True) ∧ ((((type_of% h1) ∧ True) ∧ ((True ∧ True) ∧ True)) ∧ (True ∧ (((True ∧ True) ∧ ((True ∧ True) ∧ ((True ∧ True) ∧ ((True ∧ True) ∧ True)))) ∧ (((True ∧ True) ∧ ((True ∧ (True ∧ (True ∧ (True ∧ ((type_of% h2) ∧ True))))) ∧ ((True ∧ True) ∧ True))) ∧ (((True ∧ True) ∧ ((True ∧ True) ∧ ((True ∧ True) ∧ True))) ∧ ((type_of% h3) ∧ ((True ∧ True) ∧ True)))))))) ∧ (True ∧ True))) by kernel_rfl) ⟨⟨⟨trivial, trivial⟩, ⟨⟨⟨h1, trivial⟩, ⟨⟨trivial, trivial⟩, trivial⟩⟩, ⟨trivial, ⟨⟨⟨trivial, trivial⟩, ⟨⟨trivial, trivial⟩, ⟨⟨trivial, trivial⟩, ⟨⟨trivial, trivial⟩, trivial⟩⟩⟩⟩, ⟨⟨⟨trivial, trivial⟩, ⟨⟨trivial, ⟨trivial, ⟨trivial, ⟨trivial, ⟨h2, trivial⟩⟩⟩⟩⟩, ⟨⟨trivial, trivial⟩, trivial⟩⟩⟩, ⟨⟨⟨trivial, trivial⟩, ⟨⟨trivial, trivial⟩, ⟨⟨trivial, trivial⟩, trivial⟩⟩⟩, ⟨h3, ⟨⟨trivial, trivial⟩, trivial⟩⟩⟩⟩⟩⟩⟩⟩, ⟨trivial, trivial⟩⟩
theorem z0_0 (q : QN) {post : Exit → St → Prop} {R : St → Prop} (hR : ∀ st, Ren 0 st (St.mk 129 [(0, AV.lst (List.map (AV.int IntKind.i64) q.L))] []) → R st) : ∃ o' st' q', go Try.prog ({ dec := [], els := eGr q, calls := cGr q, unroll := false } : HT) 0 4000 (.inl (sL (sR 0 (bodyOf Try.f6)))) [] (st6 q) = some (o', st', q') ∧ q' ∧ Go.AX.Rest Try.prog 0 (andThen R post) st' o' :=
  endN_spec (σ := []) (fz := []) (vars := [0]) (show endN 0 [] [] [0] (go Try.prog ({ dec := [], els := eGr q, calls := cGr q, unroll := false } : HT) 0 4000 (.inl (sL (sR 0 (bodyOf Try.f6)))) [] (st6 q)) = some (St.mk 129 [(0, AV.lst (List.map (AV.int IntKind.i64) q.L))] [], (((True ∧ True) ∧ True) ∧ (True ∧ True))) by kernel_rfl) ⟨⟨⟨trivial, trivial⟩, trivial⟩, ⟨trivial, trivial⟩⟩ hR
theorem z1_0 (q : QN) (h1 : (CT Try.prog (nat_lit 8) [] [] [] (AV.bool true))) {post : Exit → St → Prop} {R : St → Prop} (hR : ∀ st, Ren 0 st (St.mk 129 [(0, AV.lst (List.map (AV.int IntKind.i64) q.L))] []) → R st) : ∃ o' st' q', go Try.prog ({ dec := [], els := eGr q, calls := cGr q, unroll := false } : HT) 0 4000 (.inl (sL (sR 1 (bodyOf Try.f6)))) [] (st6 q) = some (o', st', q') ∧ q' ∧ Go.AX.Rest Try.prog 0 (andThen R post) st' o' :=
  endN_spec (σ := []) (fz := []) (vars := [0]) (show endN 0 [] [] [0] (go Try.prog ({ dec := [], els := eGr q, calls := cGr q, unroll := false } : HT) 0 4000 (.inl (sL (sR 1 (bodyOf Try.f6)))) [] (st6 q)) = some (St.mk 129 [(0, AV.lst (List.map (AV.int IntKind.i64) q.L))] [], (((((type_of% h1) ∧ True) ∧ ((True ∧ True) ∧ True)) ∧ (True ∧ True)) ∧ (True ∧ True))) by kernel_rfl) ⟨⟨⟨⟨h1, trivial⟩, ⟨⟨trivial, trivial⟩, trivial⟩⟩, ⟨trivial, trivial⟩⟩, ⟨trivial, trivial⟩⟩ hR
theorem z2_0 (q : QN) {post : Exit → St → Prop} {R : St → Prop} (hR : ∀ st, Ren 0 st (St.mk 129 [(3, AV.ptr 0 0 0)] [some (Blk.mk [AV.agg [AV.lst (List.map (AV.int IntKind.i64) q.L), AV.int IntKind.i64 0]] [AV.lst (List.map (AV.int IntKind.i64) q.L), AV.int IntKind.i64 0].length true true)]) → R st) : ∃ o' st' q', go Try.prog ({ dec := [], els := eGr q, calls := cGr q, unroll := false } : HT) 0 4000 (.inl (sL (sR 2 (bodyOf Try.f6)))) [] (st6 q) = some (o', st', q') ∧ q' ∧ Go.AX.Rest Try.prog 0 (andThen R post) st' o' :=
  endN_spec (σ := [0]) (fz := []) (vars := [3]) (show endN 0 [0] [] [3] (go Try.prog ({ dec := [], els := eGr q, calls := cGr q, unroll := false } : HT) 0 4000 (.inl (sL (sR 2 (bodyOf Try.f6)))) [] (st6 q)) = some (St.mk 129 [(3, AV.ptr 0 0 0)] [some (Blk.mk [AV.agg [AV.lst (List.map (AV.int IntKind.i64) q.L), AV.int IntKind.i64 0]] [AV.lst (List.map (AV.int IntKind.i64) q.L), AV.int IntKind.i64 0].length true true)], ((((True ∧ True) ∧ ((True ∧ True) ∧ ((True ∧ True) ∧ ((True ∧ True) ∧ True)))) ∧ True) ∧ (True ∧ (True ∧ True)))) by kernel_rfl) ⟨⟨⟨⟨trivial, trivial⟩, ⟨⟨trivial, trivial⟩, ⟨⟨trivial, trivial⟩, ⟨⟨trivial, trivial⟩, trivial⟩⟩⟩⟩, trivial⟩, ⟨trivial, ⟨trivial, trivial⟩⟩⟩ hR
theorem z3_0 (q : QN) (h1 : (CT Try.prog 9 [some (Blk.mk [AV.agg [AV.lst (List.map (AV.int IntKind.i64) q.L), AV.int IntKind.i64 0]] 2 true true)] [AV.ptr 0 0 0, AV.int IntKind.i64 9] [some (Blk.mk [AV.agg [AV.lst (List.map (AV.int IntKind.i64) q.L), AV.int IntKind.i64 (iN q.m1)]] 2 true true)] (AV.lst (gL q.g)))) {post : Exit → St → Prop} {R : St → Prop} (hR : ∀ st, Ren 0 st (St.mk 129 [(3, AV.ptr 0 0 0), (4, AV.lst (gL q.g))] [some (Blk.mk [AV.agg [AV.lst (List.map (AV.int IntKind.i64) q.L), AV.int IntKind.i64 (iN q.m1)]] 2 true true)]) → R st) : ∃ o' st' q', go Try.prog ({ dec := [], els := eGr q, calls := cGr q, unroll := false } : HT) 0 4000 (.inl (sL (sR 3 (bodyOf Try.f6)))) [] (s63 q) = some (o', st', q') ∧ q' ∧ Go.AX.Rest Try.prog 0 (andThen R post) st' o' :=
  endN_spec (σ := [0]) (fz := []) (vars := [3,4]) (show endN 0 [0] [] [3,4] (go Try.prog ({ dec := [], els := eGr q, calls := cGr q, unroll := false } : HT) 0 4000 (.inl (sL (sR 3 (bodyOf Try.f6)))) [] (s63 q)) = some (St.mk 129 [(3, AV.ptr 0 0 0), (4, AV.lst (gL q.g))] [some (Blk.mk [AV.agg [AV.lst (List.map (AV.int IntKind.i64) q.L), AV.int IntKind.i64 (iN q.m1)]] 2 true true)], ((((True ∧ True) ∧ ((True ∧ (True ∧ (True ∧ (True ∧ ((type_of% h1) ∧ True))))) ∧ ((True ∧ True) ∧ True))) ∧ True) ∧ (True ∧ (True ∧ (True ∧ True))))) by kernel_rfl) ⟨⟨⟨⟨trivial, trivial⟩, ⟨⟨trivial, ⟨trivial, ⟨trivial, ⟨trivial, ⟨h1, trivial⟩⟩⟩⟩⟩, ⟨⟨trivial, trivial⟩, trivial⟩⟩⟩, trivial⟩, ⟨trivial, ⟨trivial, ⟨trivial, trivial⟩⟩⟩⟩ hR
theorem z4_0 (q : QN) (h1 : (decide (iN (gL q.g).length < 2) = false)) {post : Exit → St → Prop} {R : St → Prop} (hR : ∀ st, Ren 0 st (St.mk 129 [(3, AV.ptr 0 0 0), (4, AV.lst (gL q.g))] [some (Blk.mk [AV.agg [AV.lst (List.map (AV.int IntKind.i64) q.L), AV.int IntKind.i64 (iN q.m1)]] 2 true true)]) → R st) : ∃ o' st' q', go Try.prog ({ dec := [(28, false)], els := eGr q, calls := cGr q, unroll := false } : HT) 0 4000 (.inl (sL (sR 4 (bodyOf Try.f6)))) [] (s64 q) = some (o', st', q') ∧ q' ∧ Go.AX.Rest Try.prog 0 (andThen R post) st' o' :=
  endN_spec (σ := [0]) (fz := []) (vars := [3,4]) (show endN 0 [0] [] [3,4] (go Try.prog ({ dec := [(28, false)], els := eGr q, calls := cGr q, unroll := false } : HT) 0 4000 (.inl (sL (sR 4 (bodyOf Try.f6)))) [] (s64 q)) = some (St.mk 129 [(3, AV.ptr 0 0 0), (4, AV.lst (gL q.g))] [some (Blk.mk [AV.agg [AV.lst (List.map (AV.int IntKind.i64) q.L), AV.int IntKind.i64 (iN q.m1)]] 2 true true)], ((((True ∧ True) ∧ ((True ∧ True) ∧ ((True ∧ True) ∧ True))) ∧ ((type_of% h1) ∧ True)) ∧ (True ∧ (True ∧ (True ∧ True))))) by kernel_rfl) ⟨⟨⟨⟨trivial, trivial⟩, ⟨⟨trivial, trivial⟩, ⟨⟨trivial, trivial⟩, trivial⟩⟩⟩, ⟨h1, trivial⟩⟩, ⟨trivial, ⟨trivial, ⟨trivial, trivial⟩⟩⟩⟩ hR
theorem z5_0 (q : QN) (h1 : (CT Try.prog 10 [some (Blk.mk [AV.agg [AV.lst (List.map (AV.int IntKind.i64) q.L), AV.int IntKind.i64 (iN q.m1)]] 2 true true)] [AV.ptr 0 0 0, AV.int IntKind.i64 (iN (gL q.g).length)] [some (Blk.mk [AV.agg [AV.lst (List.map (AV.int IntKind.i64) q.L), AV.int IntKind.i64 (iN q.m2)]] 2 true true)] (AV.lst (boL q.s)))) {post : Exit → St → Prop} {R : St → Prop} (hR : ∀ st, Ren 0 st (St.mk 129 [(3, AV.ptr 0 0 0), (4, AV.lst (gL q.g)), (5, AV.lst (boL q.s))] [some (Blk.mk [AV.agg [AV.lst (List.map (AV.int IntKind.i64) q.L), AV.int IntKind.i64 (iN q.m2)]] 2 true true)]) → R st) : ∃ o' st' q', go Try.prog ({ dec := [], els := eGr q, calls := cGr q, unroll := false } : HT) 0 4000 (.inl (sL (sR 5 (bodyOf Try.f6)))) [] (s64 q) = some (o', st', q') ∧ q' ∧ Go.AX.Rest Try.prog 0 (andThen R post) st' o' :=
  endN_spec (σ := [0]) (fz := []) (vars := [3,4,5]) (show endN 0 [0] [] [3,4,5] (go Try.prog ({ dec := [], els := eGr q, calls := cGr q, unroll := false } : HT) 0 4000 (.inl (sL (sR 5 (bodyOf Try.f6)))) [] (s64 q)) = some (St.mk 129 [(3, AV.ptr 0 0 0), (4, AV.lst (gL q.g)), (5, AV.lst (boL q.s))] [some (Blk.mk [AV.agg [AV.lst (List.map (AV.int IntKind.i64) q.L), AV.int IntKind.i64 (iN q.m2)]] 2 true true)], ((((True ∧ True) ∧ ((True ∧ True) ∧ ((True ∧ True) ∧ ((True ∧ (True ∧ (True ∧ (True ∧ (True ∧ ((type_of% h1) ∧ True)))))) ∧ ((True ∧ True) ∧ True))))) ∧ True) ∧ (True ∧ (True ∧ (True ∧ (True ∧ True)))))) by kernel_rfl) ⟨⟨⟨⟨trivial, trivial⟩, ⟨⟨trivial, trivial⟩, ⟨⟨trivial, trivial⟩, ⟨⟨trivial, ⟨trivial, ⟨trivial, ⟨trivial, ⟨trivial, ⟨h1, trivial⟩⟩⟩⟩⟩⟩, ⟨⟨trivial, trivial⟩, trivial⟩⟩⟩⟩⟩, trivial⟩, ⟨trivial, ⟨trivial, ⟨trivial, ⟨trivial, trivial⟩⟩⟩⟩⟩ hR
theorem z6_0 (q : QN) (h1 : (CT Try.prog 12 [] [AV.lst (gL q.g), AV.lst (boL q.s)] [] (AV.tup [AV.int IntKind.i64 q.z, AV.lst (List.map (AV.int IntKind.i64) q.o), AV.int IntKind.i64 0]))) {post : Exit → St → Prop} {R : St → Prop} (hR : ∀ st, Ren 0 st (St.mk 129 [(3, AV.ptr 0 0 0), (4, AV.lst (gL q.g)), (5, AV.lst (boL q.s)), (6, AV.int IntKind.i64 q.z), (8, AV.int IntKind.i64 0)] [some (Blk.mk [AV.agg [AV.lst (List.map (AV.int IntKind.i64) q.L), AV.int IntKind.i64 (iN q.m2)]] 2 true true)]) → R st) : ∃ o' st' q', go Try.prog ({ dec := [], els := eGr q, calls := cGr q, unroll := false } : HT) 0 4000 (.inl (sL (sR 6 (bodyOf Try.f6)))) [] (s66 q) = some (o', st', q') ∧ q' ∧ Go.AX.Rest Try.prog 0 (andThen R post) st' o' :=
  endN_spec (σ := [0]) (fz := []) (vars := [3,4,5,6,8]) (show endN 0 [0] [] [3,4,5,6,8] (go Try.prog ({ dec := [], els := eGr q, calls := cGr q, unroll := false } : HT) 0 4000 (.inl (sL (sR 6 (bodyOf Try.f6)))) [] (s66 q)) = some (St.mk 129 [(3, AV.ptr 0 0 0), (4, AV.lst (gL q.g)), (5, AV.lst (boL q.s)), (6, AV.int IntKind.i64 q.z), (8, AV.int IntKind.i64 0)] [some (Blk.mk [AV.agg [AV.lst (List.map (AV.int IntKind.i64) q.L), AV.int IntKind.i64 (iN q.m2)]] 2 true true)], ((((True ∧ True) ∧ ((True ∧ True) ∧ ((True ∧ (True ∧ (True ∧ (True ∧ ((type_of% h1) ∧ True))))) ∧ ((True ∧ True) ∧ ((True ∧ True) ∧ ((True ∧ True) ∧ ((True ∧ True) ∧ ((True ∧ True) ∧ ((True ∧ True) ∧ ((True ∧ True) ∧ True)))))))))) ∧ True) ∧ (True ∧ (True ∧ (True ∧ (True ∧ (True ∧ (True ∧ True)))))))) by kernel_rfl) ⟨⟨⟨⟨trivial, trivial⟩, ⟨⟨trivial, trivial⟩, ⟨⟨trivial, ⟨trivial, ⟨trivial, ⟨trivial, ⟨h1, trivial⟩⟩⟩⟩⟩, ⟨⟨trivial, trivial⟩, ⟨⟨trivial, trivial⟩, ⟨⟨trivial, trivial⟩, ⟨⟨trivial, trivial⟩, ⟨⟨trivial, trivial⟩, ⟨⟨trivial, trivial⟩, ⟨⟨trivial, trivial⟩, trivial⟩⟩⟩⟩⟩⟩⟩⟩⟩⟩, trivial⟩, ⟨trivial, ⟨trivial, ⟨trivial, ⟨trivial, ⟨trivial, ⟨trivial, trivial⟩⟩⟩⟩⟩⟩⟩ hR
theorem z7_0 (q : QN) (h1 : (∀ (e : AV), e ∈ boL q.s → e.cells.length = 1)) (h2 : ((boL q.s).length ≤ 9223372036854775807)) (h3 : ((boL q.s).length * 1 ≤ 140737488355328)) {post : Exit → St → Prop} {R : St → Prop} (hR : ∀ st, Ren 0 st (St.mk 129 [(3, AV.ptr 0 0 0), (4, AV.lst (gL q.g)), (5, AV.lst (boL q.s)), (6, AV.int IntKind.i64 q.z), (8, AV.int IntKind.i64 0), (9, AV.sl 1 0 (boL q.s).length)] [some (Blk.mk [AV.agg [AV.lst (List.map (AV.int IntKind.i64) q.L), AV.int IntKind.i64 (iN q.m2)]] 2 true true), some (Blk.mk (boL q.s) 1 true true)]) → R st) : ∃ o' st' q', go Try.prog ({ dec := [], els := eGr q, calls := cGr q, unroll := false } : HT) 0 4000 (.inl (sL (sR 7 (bodyOf Try.f6)))) [] (s67 q) = some (o', st', q') ∧ q' ∧ Go.AX.Rest Try.prog 0 (andThen R post) st' o' :=
  endN_spec (σ := [0,1]) (fz := []) (vars := [3,4,5,6,8,9]) (show endN 0 [0,1] [] [3,4,5,6,8,9] (go Try.prog ({ dec := [], els := eGr q, calls := cGr q, unroll := false } : HT) 0 4000 (.inl (sL (sR 7 (bodyOf Try.f6)))) [] (s67 q)) = some (St.mk 129 [(3, AV.ptr 0 0 0), (4, AV.lst (gL q.g)), (5, AV.lst (boL q.s)), (6, AV.int IntKind.i64 q.z), (8, AV.int IntKind.i64 0), (9, AV.sl 1 0 (boL q.s).length)] [some (Blk.mk [AV.agg [AV.lst (List.map (AV.int IntKind.i64) q.L), AV.int IntKind.i64 (iN q.m2)]] 2 true true), some (Blk.mk (boL q.s) 1 true true)], ((((True ∧ True) ∧ ((True ∧ ((type_of% h1) ∧ ((type_of% h2) ∧ (type_of% h3)))) ∧ ((True ∧ True) ∧ True))) ∧ True) ∧ (True ∧ (True ∧ (True ∧ (True ∧ (True ∧ (True ∧ (True ∧ (True ∧ True)))))))))) by kernel_rfl) ⟨⟨⟨⟨trivial, trivial⟩, ⟨⟨trivial, ⟨h1, ⟨h2, h3⟩⟩⟩, ⟨⟨trivial, trivial⟩, trivial⟩⟩⟩, trivial⟩, ⟨trivial, ⟨trivial, ⟨trivial, ⟨trivial, ⟨trivial, ⟨trivial, ⟨trivial, ⟨trivial, trivial⟩⟩⟩⟩⟩⟩⟩⟩⟩ hR
theorem z8_0 (q : QN) (h1 : (CT Try.prog 11 [some (Blk.mk [AV.agg [AV.lst (List.map (AV.int IntKind.i64) q.L), AV.int IntKind.i64 (iN q.m2)]] 2 true true)] [AV.ptr 0 0 0, AV.int IntKind.i64 (iN (gL q.g).length)] [some (Blk.mk [AV.agg [AV.lst (List.map (AV.int IntKind.i64) q.L), AV.int IntKind.i64 (iN (q.m2 + 1))]] 2 true true)] (AV.int IntKind.i64 (iN q.i)))) (h2 : (0 ≤ iN q.i)) (h3 : (iN q.i < iN (boL q.s).length)) (h4 : ((0 + (iN q.i).toNat).succ.le (boL q.s).length)) (h5 : ((boL q.s).length = ((boL q.s).set (0 + (iN q.i).toNat) (AV.bool true)).length)) {post : Exit → St → Prop} {R : St → Prop} (hR : ∀ st, Ren 0 st (St.mk 129 [(3, AV.ptr 0 0 0), (4, AV.lst (gL q.g)), (5, AV.lst (boL q.s)), (6, AV.int IntKind.i64 q.z), (8, AV.int IntKind.i64 0), (9, AV.lst ((boL q.s).set (0 + (iN q.i).toNat) (AV.bool true)))] [some (Blk.mk [AV.agg [AV.lst (List.map (AV.int IntKind.i64) q.L), AV.int IntKind.i64 (iN (q.m2 + 1))]] 2 true true)]) → R st) : ∃ o' st' q', go Try.prog ({ dec := [], els := eGr q, calls := cGr q, unroll := false } : HT) 0 4000 (.inl (sL (sR 8 (bodyOf Try.f6)))) [] (s68 q) = some (o', st', q') ∧ q' ∧ Go.AX.Rest Try.prog 0 (andThen R post) st' o' :=
  endN_spec (σ := [0]) (fz := [1]) (vars := [3,4,5,6,8,9]) (show endN 0 [0] [1] [3,4,5,6,8,9] (go Try.prog ({ dec := [], els := eGr q, calls := cGr q, unroll := false } : HT) 0 4000 (.inl (sL (sR 8 (bodyOf Try.f6)))) [] (s68 q)) = some (St.mk 129 [(3, AV.ptr 0 0 0), (4, AV.lst (gL q.g)), (5, AV.lst (boL q.s)), (6, AV.int IntKind.i64 q.z), (8, AV.int IntKind.i64 0), (9, AV.lst ((boL q.s).set (0 + (iN q.i).toNat) (AV.bool true)))] [some (Blk.mk [AV.agg [AV.lst (List.map (AV.int IntKind.i64) q.L), AV.int IntKind.i64 (iN (q.m2 + 1))]] 2 true true)], ((((True ∧ True) ∧ ((True ∧ True) ∧ ((True ∧ True) ∧ ((True ∧ True) ∧ ((True ∧ (True ∧ (True ∧ (True ∧ (True ∧ ((type_of% h1) ∧ True)))))) ∧ ((True ∧ (True ∧ ((type_of% h2) ∧ (type_of% h3)))) ∧ ((True ∧ (type_of% h4)) ∧ True))))))) ∧ True) ∧ (True ∧ (True ∧ (True ∧ (True ∧ (True ∧ ((type_of% h5) ∧ (True ∧ True))))))))) by kernel_rfl) ⟨⟨⟨⟨trivial, trivial⟩, ⟨⟨trivial, trivial⟩, ⟨⟨trivial, trivial⟩, ⟨⟨trivial, trivial⟩, ⟨⟨trivial, ⟨trivial, ⟨trivial, ⟨trivial, ⟨trivial, ⟨h1, trivial⟩⟩⟩⟩⟩⟩, ⟨⟨trivial, ⟨trivial, ⟨h2, h3⟩⟩⟩, ⟨⟨trivial, h4⟩, trivial⟩⟩⟩⟩⟩⟩⟩, trivial⟩, ⟨trivial, ⟨trivial, ⟨trivial, ⟨trivial, ⟨trivial, ⟨h5, ⟨trivial, trivial⟩⟩⟩⟩⟩⟩⟩⟩ hR
theorem z9_0 (q : QN) (h1 : (CT Try.prog 12 [] [AV.lst (gL q.g), AV.lst (boL q.s')] [] (AV.tup [AV.int IntKind.i64 q.y, AV.lst (List.map (AV.int IntKind.i64) q.p), AV.int IntKind.i64 0]))) {post : Exit → St → Prop} {R : St → Prop} (hR : ∀ st, Ren 0 st (St.mk 129 [(3, AV.ptr 0 0 0), (4, AV.lst (gL q.g)), (5, AV.lst (boL q.s)), (6, AV.int IntKind.i64 q.z), (8, AV.int IntKind.i64 0), (10, AV.int IntKind.i64 q.y), (12, AV.int IntKind.i64 0)] [some (Blk.mk [AV.agg [AV.lst (List.map (AV.int IntKind.i64) q.L), AV.int IntKind.i64 (iN (q.m2 + 1))]] 2 true true)]) → R st) : ∃ o' st' q', go Try.prog ({ dec := [], els := eGr q, calls := cGr q, unroll := false } : HT) 0 4000 (.inl (sL (sR 9 (bodyOf Try.f6)))) [] (s69 q) = some (o', st', q') ∧ q' ∧ Go.AX.Rest Try.prog 0 (andThen R post) st' o' :=
  endN_spec (σ := [0]) (fz := []) (vars := [3,4,5,6,8,10,12]) (show endN 0 [0] [] [3,4,5,6,8,10,12] (go Try.prog ({ dec := [], els := eGr q, calls := cGr q, unroll := false } : HT) 0 4000 (.inl (sL (sR 9 (bodyOf Try.f6)))) [] (s69 q)) = some (St.mk 129 [(3, AV.ptr 0 0 0), (4, AV.lst (gL q.g)), (5, AV.lst (boL q.s)), (6, AV.int IntKind.i64 q.z), (8, AV.int IntKind.i64 0), (10, AV.int IntKind.i64 q.y), (12, AV.int IntKind.i64 0)] [some (Blk.mk [AV.agg [AV.lst (List.map (AV.int IntKind.i64) q.L), AV.int IntKind.i64 (iN (q.m2 + 1))]] 2 true true)], ((((True ∧ True) ∧ ((True ∧ True) ∧ ((True ∧ (True ∧ (True ∧ (True ∧ ((type_of% h1) ∧ True))))) ∧ ((True ∧ True) ∧ ((True ∧ True) ∧ ((True ∧ True) ∧ ((True ∧ True) ∧ ((True ∧ True) ∧ ((True ∧ True) ∧ ((True ∧ True) ∧ True)))))))))) ∧ True) ∧ (True ∧ (True ∧ (True ∧ (True ∧ (True ∧ (True ∧ (True ∧ (True ∧ True)))))))))) by kernel_rfl) ⟨⟨⟨⟨trivial, trivial⟩, ⟨⟨trivial, trivial⟩, ⟨⟨trivial, ⟨trivial, ⟨trivial, ⟨trivial, ⟨h1, trivial⟩⟩⟩⟩⟩, ⟨⟨trivial, trivial⟩, ⟨⟨trivial, trivial⟩, ⟨⟨trivial, trivial⟩, ⟨⟨trivial, trivial⟩, ⟨⟨trivial, trivial⟩, ⟨⟨trivial, trivial⟩, ⟨⟨trivial, trivial⟩, trivial⟩⟩⟩⟩⟩⟩⟩⟩⟩⟩, trivial⟩, ⟨trivial, ⟨trivial, ⟨trivial, ⟨trivial, ⟨trivial, ⟨trivial, ⟨trivial, ⟨trivial, trivial⟩⟩⟩⟩⟩⟩⟩⟩⟩ hR
theorem za_0 (q : QN) (h1 : (CT Try.prog 11 [some (Blk.mk [AV.agg [AV.lst (List.map (AV.int IntKind.i64) q.L), AV.int IntKind.i64 (iN (q.m2 + 1))]] 2 true true)] [AV.ptr 0 0 0, AV.int IntKind.i64 (iN (gL q.g).length)] [some (Blk.mk [AV.agg [AV.lst (List.map (AV.int IntKind.i64) q.L), AV.int IntKind.i64 (iN (q.m2 + 1 + 1))]] 2 true true)] (AV.int IntKind.i64 (iN q.v)))) (h2 : (CT Try.prog 11 [some (Blk.mk [AV.agg [AV.lst (List.map (AV.int IntKind.i64) q.L), AV.int IntKind.i64 (iN (q.m2 + 1 + 1))]] 2 true true)] [AV.ptr 0 0 0, AV.int IntKind.i64 (iN (gL q.g).length)] [some (Blk.mk [AV.agg [AV.lst (List.map (AV.int IntKind.i64) q.L), AV.int IntKind.i64 (iN (q.m2 + 1 + 1 + 1))]] 2 true true)] (AV.int IntKind.i64 (iN q.w)))) {post : Exit → St → Prop} {R : St → Prop} (hR : ∀ st, Ren 0 st (St.mk 129 [(4, AV.lst (gL q.g)), (5, AV.lst (boL q.s)), (6, AV.int IntKind.i64 q.z), (8, AV.int IntKind.i64 0), (10, AV.int IntKind.i64 q.y), (12, AV.int IntKind.i64 0), (13, AV.int IntKind.i64 (iN q.v)), (14, AV.int IntKind.i64 (iN q.w))] []) → R st) : ∃ o' st' q', go Try.prog ({ dec := [], els := eGr q, calls := cGr q, unroll := false } : HT) 0 4000 (.inl (sL (sR 10 (bodyOf Try.f6)))) [] (s6a q) = some (o', st', q') ∧ q' ∧ Go.AX.Rest Try.prog 0 (andThen R post) st' o' :=
  endN_spec (σ := []) (fz := []) (vars := [4,5,6,8,10,12,13,14]) (show endN 0 [] [] [4,5,6,8,10,12,13,14] (go Try.prog ({ dec := [], els := eGr q, calls := cGr q, unroll := false } : HT) 0 4000 (.inl (sL (sR 10 (bodyOf Try.f6)))) [] (s6a q)) = some (St.mk 129 [(4, AV.lst (gL q.g)), (5, AV.lst (boL q.s)), (6, AV.int IntKind.i64 q.z), (8, AV.int IntKind.i64 0), (10, AV.int IntKind.i64 q.y), (12, AV.int IntKind.i64 0), (13, AV.int IntKind.i64 (iN q.v)), (14, AV.int IntKind.i64 (iN q.w))] [], ((((True ∧ True) ∧ ((True ∧ True) ∧ ((True ∧ True) ∧ ((True ∧ (True ∧ (True ∧ (True ∧ (True ∧ ((type_of% h1) ∧ True)))))) ∧ ((True ∧ True) ∧ ((True ∧ True) ∧ ((True ∧ True) ∧ ((True ∧ (True ∧ (True ∧ (True ∧ (True ∧ ((type_of% h2) ∧ True)))))) ∧ ((True ∧ True) ∧ ((True ∧ True) ∧ True)))))))))) ∧ True) ∧ (True ∧ (True ∧ (True ∧ (True ∧ (True ∧ (True ∧ (True ∧ (True ∧ True)))))))))) by kernel_rfl) ⟨⟨⟨⟨trivial, trivial⟩, ⟨⟨trivial, trivial⟩, ⟨⟨trivial, trivial⟩, ⟨⟨trivial, ⟨trivial, ⟨trivial, ⟨trivial, ⟨trivial, ⟨h1, trivial⟩⟩⟩⟩⟩⟩, ⟨⟨trivial, trivial⟩, ⟨⟨trivial, trivial⟩, ⟨⟨trivial, trivial⟩, ⟨⟨trivial, ⟨trivial, ⟨trivial, ⟨trivial, ⟨trivial, ⟨h2, trivial⟩⟩⟩⟩⟩⟩, ⟨⟨trivial, trivial⟩, ⟨⟨trivial, trivial⟩, trivial⟩⟩⟩⟩⟩⟩⟩⟩⟩⟩, trivial⟩, ⟨trivial, ⟨trivial, ⟨trivial, ⟨trivial, ⟨trivial, ⟨trivial, ⟨trivial, ⟨trivial, trivial⟩⟩⟩⟩⟩⟩⟩⟩⟩ hR
theorem zb_0 (q : QN) (h1 : (∀ (e : AV), e ∈ gL q.g → e.cells.length = 1)) (h2 : ((gL q.g).length ≤ 9223372036854775807)) (h3 : ((gL q.g).length * 24 ≤ 140737488355328)) {post : Exit → St → Prop} {R : St → Prop} (hR : ∀ st, Ren 0 st (St.mk 129 [(5, AV.lst (boL q.s)), (6, AV.int IntKind.i64 q.z), (8, AV.int IntKind.i64 0), (10, AV.int IntKind.i64 q.y), (12, AV.int IntKind.i64 0), (13, AV.int IntKind.i64 (iN q.v)), (14, AV.int IntKind.i64 (iN q.w)), (15, AV.sl 0 0 (gL q.g).length)] [some (Blk.mk (gL q.g) 1 true true)]) → R st) : ∃ o' st' q', go Try.prog ({ dec := [], els := eGr q, calls := cGr q, unroll := false } : HT) 0 4000 (.inl (sL (sR 11 (bodyOf Try.f6)))) [] (s6b q) = some (o', st', q') ∧ q' ∧ Go.AX.Rest Try.prog 0 (andThen R post) st' o' :=
  endN_spec (σ := [0]) (fz := []) (vars := [5,6,8,10,12,13,14,15]) (show endN 0 [0] [] [5,6,8,10,12,13,14,15] (go Try.prog ({ dec := [], els := eGr q, calls := cGr q, unroll := false } : HT) 0 4000 (.inl (sL (sR 11 (bodyOf Try.f6)))) [] (s6b q)) = some (St.mk 129 [(5, AV.lst (boL q.s)), (6, AV.int IntKind.i64 q.z), (8, AV.int IntKind.i64 0), (10, AV.int IntKind.i64 q.y), (12, AV.int IntKind.i64 0), (13, AV.int IntKind.i64 (iN q.v)), (14, AV.int IntKind.i64 (iN q.w)), (15, AV.sl 0 0 (gL q.g).length)] [some (Blk.mk (gL q.g) 1 true true)], ((((True ∧ True) ∧ ((True ∧ ((type_of% h1) ∧ ((type_of% h2) ∧ (type_of% h3)))) ∧ ((True ∧ True) ∧ True))) ∧ True) ∧ (True ∧ (True ∧ (True ∧ (True ∧ (True ∧ (True ∧ (True ∧ (True ∧ (True ∧ True))))))))))) by kernel_rfl) ⟨⟨⟨⟨trivial, trivial⟩, ⟨⟨trivial, ⟨h1, ⟨h2, h3⟩⟩⟩, ⟨⟨trivial, trivial⟩, trivial⟩⟩⟩, trivial⟩, ⟨trivial, ⟨trivial, ⟨trivial, ⟨trivial, ⟨trivial, ⟨trivial, ⟨trivial, ⟨trivial, ⟨trivial, trivial⟩⟩⟩⟩⟩⟩⟩⟩⟩⟩ hR
theorem zc_0 (q : QN) (h1 : ((iN q.v != iN q.w) = true)) (h2 : (0 ≤ iN q.v)) (h3 : (iN q.v < iN (gL q.g).length)) (h4 : ((gL q.g)[0 + (iN q.v).toNat]? = some (AV.lst (List.map (AV.int IntKind.i64) q.r)))) (h5 : (CT Try.prog 19 [] [AV.lst (List.map (AV.int IntKind.i64) q.r), AV.int IntKind.i64 (iN q.w)] [] (AV.bool q.b))) (h6 : ((!q.b) = true)) (h7 : (CT Try.prog 21 [] [AV.lst (List.map (AV.int IntKind.i64) q.r), AV.int IntKind.i64 (iN q.w)] [] (AV.lst (List.map (AV.int IntKind.i64) q.t)))) (h8 : ((0 + (iN q.v).toNat).succ.le (gL q.g).length)) (h9 : ((gL q.g).length = ((gL q.g).set (0 + (iN q.v).toNat) (AV.lst (List.map (AV.int IntKind.i64) q.t))).length)) {post : Exit → St → Prop} {R : St → Prop} (hR : ∀ st, Ren 0 st (St.mk 129 [(5, AV.lst (boL q.s)), (6, AV.int IntKind.i64 q.z), (8, AV.int IntKind.i64 0), (10, AV.int IntKind.i64 q.y), (12, AV.int IntKind.i64 0), (15, AV.lst ((gL q.g).set (0 + (iN q.v).toNat) (AV.lst (List.map (AV.int IntKind.i64) q.t))))] []) → R st) : ∃ o' st' q', go Try.prog ({ dec := [(68, true), (76, true)], els := eGr q, calls := cGr q, unroll := false } : HT) 0 4000 (.inl (sL (sR 12 (bodyOf Try.f6)))) [] (s6c q) = some (o', st', q') ∧ q' ∧ Go.AX.Rest Try.prog 0 (andThen R post) st' o' :=
  endN_spec (σ := []) (fz := [0]) (vars := [5,6,8,10,12,15]) (show endN 0 [] [0] [5,6,8,10,12,15] (go Try.prog ({ dec := [(68, true), (76, true)], els := eGr q, calls := cGr q, unroll := false } : HT) 0 4000 (.inl (sL (sR 12 (bodyOf Try.f6)))) [] (s6c q)) = some (St.mk 129 [(5, AV.lst (boL q.s)), (6, AV.int IntKind.i64 q.z), (8, AV.int IntKind.i64 0), (10, AV.int IntKind.i64 q.y), (12, AV.int IntKind.i64 0), (15, AV.lst ((gL q.g).set (0 + (iN q.v).toNat) (AV.lst (List.map (AV.int IntKind.i64) q.t))))] [], ((((True ∧ True) ∧ ((True ∧ True) ∧ ((True ∧ (True ∧ True)) ∧ ((True ∧ True) ∧ (((type_of% h1) ∧ (True ∧ True)) ∧ (((type_of% h1) ∧ (True ∧ True)) ∧ (((type_of% h1) ∧ (True ∧ (True ∧ ((type_of% h2) ∧ (type_of% h3))))) ∧ (((type_of% h1) ∧ (True ∧ (type_of% h4))) ∧ (((type_of% h1) ∧ (True ∧ True)) ∧ (((type_of% h1) ∧ (True ∧ (True ∧ (True ∧ (True ∧ ((type_of% h5) ∧ True)))))) ∧ (((type_of% h1) ∧ (True ∧ True)) ∧ (((type_of% h1) ∧ (True ∧ True)) ∧ True)))))))))))) ∧ ((type_of% h6) ∧ (((True ∧ True) ∧ ((True ∧ True) ∧ ((True ∧ True) ∧ ((True ∧ True) ∧ ((True ∧ (True ∧ ((type_of% h2) ∧ (type_of% h3)))) ∧ ((True ∧ (type_of% h4)) ∧ ((True ∧ True) ∧ ((True ∧ (True ∧ (True ∧ (True ∧ ((type_of% h7) ∧ True))))) ∧ ((True ∧ (True ∧ ((type_of% h2) ∧ (type_of% h3)))) ∧ ((True ∧ (True ∧ (type_of% h8))) ∧ True)))))))))) ∧ True))) ∧ (True ∧ (True ∧ (True ∧ (True ∧ (True ∧ ((type_of% h9) ∧ True)))))))) by kernel_rfl) ⟨⟨⟨⟨trivial, trivial⟩, ⟨⟨trivial, trivial⟩, ⟨⟨trivial, ⟨trivial, trivial⟩⟩, ⟨⟨trivial, trivial⟩, ⟨⟨h1, ⟨trivial, trivial⟩⟩, ⟨⟨h1, ⟨trivial, trivial⟩⟩, ⟨⟨h1, ⟨trivial, ⟨trivial, ⟨h2, h3⟩⟩⟩⟩, ⟨⟨h1, ⟨trivial, h4⟩⟩, ⟨⟨h1, ⟨trivial, trivial⟩⟩, ⟨⟨h1, ⟨trivial, ⟨trivial, ⟨trivial, ⟨trivial, ⟨h5, trivial⟩⟩⟩⟩⟩⟩, ⟨⟨h1, ⟨trivial, trivial⟩⟩, ⟨⟨h1, ⟨trivial, trivial⟩⟩, trivial⟩⟩⟩⟩⟩⟩⟩⟩⟩⟩⟩⟩, ⟨h6, ⟨⟨⟨trivial, trivial⟩, ⟨⟨trivial, trivial⟩, ⟨⟨trivial, trivial⟩, ⟨⟨trivial, trivial⟩, ⟨⟨trivial, ⟨trivial, ⟨h2, h3⟩⟩⟩, ⟨⟨trivial, h4⟩, ⟨⟨trivial, trivial⟩, ⟨⟨trivial, ⟨trivial, ⟨trivial, ⟨trivial, ⟨h7, trivial⟩⟩⟩⟩⟩, ⟨⟨trivial, ⟨trivial, ⟨h2, h3⟩⟩⟩, ⟨⟨trivial, ⟨trivial, h8⟩⟩, trivial⟩⟩⟩⟩⟩⟩⟩⟩⟩⟩, trivial⟩⟩⟩, ⟨trivial, ⟨trivial, ⟨trivial, ⟨trivial, ⟨trivial, ⟨h9, trivial⟩⟩⟩⟩⟩⟩⟩ hR
theorem zc_1 (q : QN) (h1 : ((iN q.v != iN q.w) = true)) (h2 : (0 ≤ iN q.v)) (h3 : (iN q.v < iN (gL q.g).length)) (h4 : ((gL q.g)[0 + (iN q.v).toNat]? = some (AV.lst (List.map (AV.int IntKind.i64) q.r)))) (h5 : (CT Try.prog 19 [] [AV.lst (List.map (AV.int IntKind.i64) q.r), AV.int IntKind.i64 (iN q.w)] [] (AV.bool q.b))) (h6 : ((!q.b) = false)) {post : Exit → St → Prop} {R : St → Prop} (hR : ∀ st, Ren 0 st (St.mk 129 [(5, AV.lst (boL q.s)), (6, AV.int IntKind.i64 q.z), (8, AV.int IntKind.i64 0), (10, AV.int IntKind.i64 q.y), (12, AV.int IntKind.i64 0), (15, AV.lst (gL q.g))] []) → R st) : ∃ o' st' q', go Try.prog ({ dec := [(68, true), (76, false)], els := eGr q, calls := cGr q, unroll := false } : HT) 0 4000 (.inl (sL (sR 12 (bodyOf Try.f6)))) [] (s6c q) = some (o', st', q') ∧ q' ∧ Go.AX.Rest Try.prog 0 (andThen R post) st' o' :=
  endN_spec (σ := []) (fz := [0]) (vars := [5,6,8,10,12,15]) (show endN 0 [] [0] [5,6,8,10,12,15] (go Try.prog ({ dec := [(68, true), (76, false)], els := eGr q, calls := cGr q, unroll := false } : HT) 0 4000 (.inl (sL (sR 12 (bodyOf Try.f6)))) [] (s6c q)) = some (St.mk 129 [(5, AV.lst (boL q.s)), (6, AV.int IntKind.i64 q.z), (8, AV.int IntKind.i64 0), (10, AV.int IntKind.i64 q.y), (12, AV.int IntKind.i64 0), (15, AV.lst (gL q.g))] [], ((((True ∧ True) ∧ ((True ∧ True) ∧ ((True ∧ (True ∧ True)) ∧ ((True ∧ True) ∧ (((type_of% h1) ∧ (True ∧ True)) ∧ (((type_of% h1) ∧ (True ∧ True)) ∧ (((type_of% h1) ∧ (True ∧ (True ∧ ((type_of% h2) ∧ (type_of% h3))))) ∧ (((type_of% h1) ∧ (True ∧ (type_of% h4))) ∧ (((type_of% h1) ∧ (True ∧ True)) ∧ (((type_of% h1) ∧ (True ∧ (True ∧ (True ∧ (True ∧ ((type_of% h5) ∧ True)))))) ∧ (((type_of% h1) ∧ (True ∧ True)) ∧ (((type_of% h1) ∧ (True ∧ True)) ∧ True)))))))))))) ∧ ((type_of% h6) ∧ True)) ∧ (True ∧ (True ∧ (True ∧ (True ∧ (True ∧ (((gL q.g).length = (gL q.g).length) ∧ True)))))))) by kernel_rfl) ⟨⟨⟨⟨trivial, trivial⟩, ⟨⟨trivial, trivial⟩, ⟨⟨trivial, ⟨trivial, trivial⟩⟩, ⟨⟨trivial, trivial⟩, ⟨⟨h1, ⟨trivial, trivial⟩⟩, ⟨⟨h1, ⟨trivial, trivial⟩⟩, ⟨⟨h1, ⟨trivial, ⟨trivial, ⟨h2, h3⟩⟩⟩⟩, ⟨⟨h1, ⟨trivial, h4⟩⟩, ⟨⟨h1, ⟨trivial, trivial⟩⟩, ⟨⟨h1, ⟨trivial, ⟨trivial, ⟨trivial, ⟨trivial, ⟨h5, trivial⟩⟩⟩⟩⟩⟩, ⟨⟨h1, ⟨trivial, trivial⟩⟩, ⟨⟨h1, ⟨trivial, trivial⟩⟩, trivial⟩⟩⟩⟩⟩⟩⟩⟩⟩⟩⟩⟩, ⟨h6, trivial⟩⟩, ⟨trivial, ⟨trivial, ⟨trivial, ⟨trivial, ⟨trivial, ⟨rfl, trivial⟩⟩⟩⟩⟩⟩⟩ hR
theorem zc_2 (q : QN) (h1 : ((iN q.v != iN q.w) = false)) {post : Exit → St → Prop} {R : St → Prop} (hR : ∀ st, Ren 0 st (St.mk 129 [(5, AV.lst (boL q.s)), (6, AV.int IntKind.i64 q.z), (8, AV.int IntKind.i64 0), (10, AV.int IntKind.i64 q.y), (12, AV.int IntKind.i64 0), (15, AV.lst (gL q.g))] []) → R st) : ∃ o' st' q', go Try.prog ({ dec := [(68, false)], els := eGr q, calls := cGr q, unroll := false } : HT) 0 4000 (.inl (sL (sR 12 (bodyOf Try.f6)))) [] (s6c q) = some (o', st', q') ∧ q' ∧ Go.AX.Rest Try.prog 0 (andThen R post) st' o' :=
  endN_spec (σ := []) (fz := [0]) (vars := [5,6,8,10,12,15]) (show endN 0 [] [0] [5,6,8,10,12,15] (go Try.prog ({ dec := [(68, false)], els := eGr q, calls := cGr q, unroll := false } : HT) 0 4000 (.inl (sL (sR 12 (bodyOf Try.f6)))) [] (s6c q)) = some (St.mk 129 [(5, AV.lst (boL q.s)), (6, AV.int IntKind.i64 q.z), (8, AV.int IntKind.i64 0), (10, AV.int IntKind.i64 q.y), (12, AV.int IntKind.i64 0), (15, AV.lst (gL q.g))] [], ((((True ∧ True) ∧ ((True ∧ True) ∧ ((True ∧ (True ∧ True)) ∧ ((True ∧ True) ∧ ((type_of% h1) ∧ ((type_of% h1) ∧ ((type_of% h1) ∧ ((type_of% h1) ∧ ((type_of% h1) ∧ ((type_of% h1) ∧ ((type_of% h1) ∧ (((type_of% h1) ∧ (True ∧ True)) ∧ True)))))))))))) ∧ (True ∧ True)) ∧ (True ∧ (True ∧ (True ∧ (True ∧ (True ∧ (((gL q.g).length = (gL q.g).length) ∧ True)))))))) by kernel_rfl) ⟨⟨⟨⟨trivial, trivial⟩, ⟨⟨trivial, trivial⟩, ⟨⟨trivial, ⟨trivial, trivial⟩⟩, ⟨⟨trivial, trivial⟩, ⟨h1, ⟨h1, ⟨h1, ⟨h1, ⟨h1, ⟨h1, ⟨h1, ⟨⟨h1, ⟨trivial, trivial⟩⟩, trivial⟩⟩⟩⟩⟩⟩⟩⟩⟩⟩⟩⟩, ⟨trivial, trivial⟩⟩, ⟨trivial, ⟨trivial, ⟨trivial, ⟨trivial, ⟨trivial, ⟨rfl, trivial⟩⟩⟩⟩⟩⟩⟩ hR
theorem zdaa_0 (q : QN) (h1 : (CT Try.prog 12 [] [AV.lst (gL q.h), AV.lst (boL q.s)] [] (AV.tup [AV.int IntKind.i64 q.x, AV.lst (List.map (AV.int IntKind.i64) q.t), AV.int IntKind.i64 0]))) (h2 : ((q.y == 0) = true)) (h3 : ((q.z == 0) = true)) : ∃ o' st' q', go Try.prog ({ dec := [(105, true), (118, true)], els := eGr q, calls := cGr q, unroll := false } : HT) 0 4000 (.inl (sR 13 (bodyOf Try.f6))) [] (s6d q) = some (o', st', q') ∧ q' ∧ Go.AX.Rest Try.prog 0 (Fin Try.prog Try.f6 0 [] (AV.bool true)) st' o' :=
  endF_spec (σ := []) (fz := []) (show endF Try.prog Try.f6 0 [] [] (go Try.prog ({ dec := [(105, true), (118, true)], els := eGr q, calls := cGr q, unroll := false } : HT) 0 4000 (.inl (sR 13 (bodyOf Try.f6))) [] (s6d q)) = some ([], AV.bool true, ((((True ∧ True) ∧ ((True ∧ True) ∧ ((True ∧ (True ∧ (True ∧ (True ∧ ((type_of% h1) ∧ True))))) ∧ ((True ∧ True) ∧ ((True ∧ True) ∧ ((True ∧ True) ∧ ((True ∧ True) ∧ ((True ∧ True) ∧ ((True ∧ True) ∧ ((True ∧ True) ∧ True)))))))))) ∧ (((True ∧ True) ∧ ((True ∧ True) ∧ ((True ∧ True) ∧ ((True ∧ (True ∧ True)) ∧ ((True ∧ (True ∧ True)) ∧ ((True ∧ (True ∧ True)) ∧ ((True ∧ True) ∧ ((True ∧ (True ∧ True)) ∧ ((True ∧ (True ∧ True)) ∧ ((True ∧ (True ∧ True)) ∧ ((True ∧ True) ∧ ((True ∧ (True ∧ True)) ∧ ((True ∧ (True ∧ True)) ∧ ((True ∧ ((type_of% h2) ∧ True)) ∧ (True ∧ (True ∧ (True ∧ (True ∧ (True ∧ (True ∧ (True ∧ ((True ∧ (True ∧ (True ∧ True))) ∧ ((True ∧ (True ∧ True)) ∧ ((True ∧ True) ∧ ((True ∧ (True ∧ True)) ∧ ((True ∧ (True ∧ True)) ∧ ((True ∧ ((type_of% h3) ∧ True)) ∧ (True ∧ (True ∧ (True ∧ (True ∧ (True ∧ (True ∧ (True ∧ ((True ∧ (True ∧ (True ∧ True))) ∧ ((True ∧ (True ∧ True)) ∧ ((True ∧ True) ∧ True))))))))))))))))))))))))))))))))))))) ∧ True)) ∧ (True ∧ True))) by kernel_rfl) ⟨⟨⟨⟨trivial, trivial⟩, ⟨⟨trivial, trivial⟩, ⟨⟨trivial, ⟨trivial, ⟨trivial, ⟨trivial, ⟨h1, trivial⟩⟩⟩⟩⟩, ⟨⟨trivial, trivial⟩, ⟨⟨trivial, trivial⟩, ⟨⟨trivial, trivial⟩, ⟨⟨trivial, trivial⟩, ⟨⟨trivial, trivial⟩, ⟨⟨trivial, trivial⟩, ⟨⟨trivial, trivial⟩, trivial⟩⟩⟩⟩⟩⟩⟩⟩⟩⟩, ⟨⟨⟨trivial, trivial⟩, ⟨⟨trivial, trivial⟩, ⟨⟨trivial, trivial⟩, ⟨⟨trivial, ⟨trivial, trivial⟩⟩, ⟨⟨trivial, ⟨trivial, trivial⟩⟩, ⟨⟨trivial, ⟨trivial, trivial⟩⟩, ⟨⟨trivial, trivial⟩, ⟨⟨trivial, ⟨trivial, trivial⟩⟩, ⟨⟨trivial, ⟨trivial, trivial⟩⟩, ⟨⟨trivial, ⟨trivial, trivial⟩⟩, ⟨⟨trivial, trivial⟩, ⟨⟨trivial, ⟨trivial, trivial⟩⟩, ⟨⟨trivial, ⟨trivial, trivial⟩⟩, ⟨⟨trivial, ⟨h2, trivial⟩⟩, ⟨trivial, ⟨trivial, ⟨trivial, ⟨trivial, ⟨trivial, ⟨trivial, ⟨trivial, ⟨⟨trivial, ⟨trivial, ⟨trivial, trivial⟩⟩⟩, ⟨⟨trivial, ⟨trivial, trivial⟩⟩, ⟨⟨trivial, trivial⟩, ⟨⟨trivial, ⟨trivial, trivial⟩⟩, ⟨⟨trivial, ⟨trivial, trivial⟩⟩, ⟨⟨trivial, ⟨h3, trivial⟩⟩, ⟨trivial, ⟨trivial, ⟨trivial, ⟨trivial, ⟨trivial, ⟨trivial, ⟨trivial, ⟨⟨trivial, ⟨trivial, ⟨trivial, trivial⟩⟩⟩, ⟨⟨trivial, ⟨trivial, trivial⟩⟩, ⟨⟨trivial, trivial⟩, trivial⟩⟩⟩⟩⟩⟩⟩⟩⟩⟩⟩⟩⟩⟩⟩⟩⟩⟩⟩⟩⟩⟩⟩⟩⟩⟩⟩⟩⟩⟩⟩⟩⟩⟩⟩⟩⟩, trivial⟩⟩, ⟨trivial, trivial⟩⟩
theorem zdab_0 (q : QN) (h1 : (CT Try.prog 12 [] [AV.lst (gL q.h), AV.lst (boL q.s)] [] (AV.tup [AV.int IntKind.i64 q.x, AV.lst (List.map (AV.int IntKind.i64) q.t), AV.int IntKind.i64 0]))) (h2 : ((q.y == 0) = true)) (h3 : ((q.z == 0) = false)) (h4 : (decide (0 < q.x) = true)) : ∃ o' st' q', go Try.prog ({ dec := [(105, true), (118, false), (121, true)], els := eGr q, calls := cGr q, unroll := false } : HT) 0 4000 (.inl (sR 13 (bodyOf Try.f6))) [] (s6d q) = some (o', st', q') ∧ q' ∧ Go.AX.Rest Try.prog 0 (Fin Try.prog Try.f6 0 [] (AV.bool (decide (q.x ≤ q.z)))) st' o' :=
  endF_spec (σ := []) (fz := []) (show endF Try.prog Try.f6 0 [] [] (go Try.prog ({ dec := [(105, true), (118, false), (121, true)], els := eGr q, calls := cGr q, unroll := false } : HT) 0 4000 (.inl (sR 13 (bodyOf Try.f6))) [] (s6d q)) = some ([], AV.bool (decide (q.x ≤ q.z)), ((((True ∧ True) ∧ ((True ∧ True) ∧ ((True ∧ (True ∧ (True ∧ (True ∧ ((type_of% h1) ∧ True))))) ∧ ((True ∧ True) ∧ ((True ∧ True) ∧ ((True ∧ True) ∧ ((True ∧ True) ∧ ((True ∧ True) ∧ ((True ∧ True) ∧ ((True ∧ True) ∧ True)))))))))) ∧ (((True ∧ True) ∧ ((True ∧ True) ∧ ((True ∧ True) ∧ ((True ∧ (True ∧ True)) ∧ ((True ∧ (True ∧ True)) ∧ ((True ∧ (True ∧ True)) ∧ ((True ∧ True) ∧ ((True ∧ (True ∧ True)) ∧ ((True ∧ (True ∧ True)) ∧ ((True ∧ (True ∧ True)) ∧ ((True ∧ True) ∧ ((True ∧ (True ∧ True)) ∧ ((True ∧ (True ∧ True)) ∧ ((True ∧ ((type_of% h2) ∧ True)) ∧ (True ∧ (True ∧ (True ∧ (True ∧ (True ∧ (True ∧ (True ∧ ((True ∧ (True ∧ (True ∧ True))) ∧ ((True ∧ (True ∧ True)) ∧ ((True ∧ True) ∧ ((True ∧ (True ∧ True)) ∧ ((True ∧ (True ∧ True)) ∧ ((True ∧ ((type_of% h3) ∧ True)) ∧ ((True ∧ (True ∧ True)) ∧ ((True ∧ (True ∧ True)) ∧ ((True ∧ ((type_of% h4) ∧ True)) ∧ ((True ∧ (True ∧ True)) ∧ ((True ∧ (True ∧ True)) ∧ ((True ∧ (True ∧ (True ∧ True))) ∧ ((True ∧ (True ∧ (True ∧ True))) ∧ ((True ∧ (True ∧ (True ∧ True))) ∧ ((True ∧ (True ∧ True)) ∧ ((True ∧ True) ∧ True))))))))))))))))))))))))))))))))))))) ∧ True)) ∧ (True ∧ True))) by kernel_rfl) ⟨⟨⟨⟨trivial, trivial⟩, ⟨⟨trivial, trivial⟩, ⟨⟨trivial, ⟨trivial, ⟨trivial, ⟨trivial, ⟨h1, trivial⟩⟩⟩⟩⟩, ⟨⟨trivial, trivial⟩, ⟨⟨trivial, trivial⟩, ⟨⟨trivial, trivial⟩, ⟨⟨trivial, trivial⟩, ⟨⟨trivial, trivial⟩, ⟨⟨trivial, trivial⟩, ⟨⟨trivial, trivial⟩, trivial⟩⟩⟩⟩⟩⟩⟩⟩⟩⟩, ⟨⟨⟨trivial, trivial⟩, ⟨⟨trivial, trivial⟩, ⟨⟨trivial, trivial⟩, ⟨⟨trivial, ⟨trivial, trivial⟩⟩, ⟨⟨trivial, ⟨trivial, trivial⟩⟩, ⟨⟨trivial, ⟨trivial, trivial⟩⟩, ⟨⟨trivial, trivial⟩, ⟨⟨trivial, ⟨trivial, trivial⟩⟩, ⟨⟨trivial, ⟨trivial, trivial⟩⟩, ⟨⟨trivial, ⟨trivial, trivial⟩⟩, ⟨⟨trivial, trivial⟩, ⟨⟨trivial, ⟨trivial, trivial⟩⟩, ⟨⟨trivial, ⟨trivial, trivial⟩⟩, ⟨⟨trivial, ⟨h2, trivial⟩⟩, ⟨trivial, ⟨trivial, ⟨trivial, ⟨trivial, ⟨trivial, ⟨trivial, ⟨trivial, ⟨⟨trivial, ⟨trivial, ⟨trivial, trivial⟩⟩⟩, ⟨⟨trivial, ⟨trivial, trivial⟩⟩, ⟨⟨trivial, trivial⟩, ⟨⟨trivial, ⟨trivial, trivial⟩⟩, ⟨⟨trivial, ⟨trivial, trivial⟩⟩, ⟨⟨trivial, ⟨h3, trivial⟩⟩, ⟨⟨trivial, ⟨trivial, trivial⟩⟩, ⟨⟨trivial, ⟨trivial, trivial⟩⟩, ⟨⟨trivial, ⟨h4, trivial⟩⟩, ⟨⟨trivial, ⟨trivial, trivial⟩⟩, ⟨⟨trivial, ⟨trivial, trivial⟩⟩, ⟨⟨trivial, ⟨trivial, ⟨trivial, trivial⟩⟩⟩, ⟨⟨trivial, ⟨trivial, ⟨trivial, trivial⟩⟩⟩, ⟨⟨trivial, ⟨trivial, ⟨trivial, trivial⟩⟩⟩, ⟨⟨trivial, ⟨trivial, trivial⟩⟩, ⟨⟨trivial, trivial⟩, trivial⟩⟩⟩⟩⟩⟩⟩⟩⟩⟩⟩⟩⟩⟩⟩⟩⟩⟩⟩⟩⟩⟩⟩⟩⟩⟩⟩⟩⟩⟩⟩⟩⟩⟩⟩⟩⟩, trivial⟩⟩, ⟨trivial, trivial⟩⟩
theorem zdbb_0 (q : QN) (h1 : (CT Try.prog 12 [] [AV.lst (gL q.h), AV.lst (boL q.s)] [] (AV.tup [AV.int IntKind.i64 q.x, AV.lst (List.map (AV.int IntKind.i64) q.t), AV.int IntKind.i64 0]))) (h2 : ((q.y == 0) = false)) (h3 : (decide (0 < q.z) = true)) (h4 : (decide (q.z ≤ q.y) = true)) (h5 : ((q.z == 0) = false)) (h6 : (decide (0 < q.x) = true)) : ∃ o' st' q', go Try.prog ({ dec := [(105, false), (108, true), (112, true), (118, false), (121, true)], els := eGr q, calls := cGr q, unroll := false } : HT) 0 4000 (.inl (sR 13 (bodyOf Try.f6))) [] (s6d q) = some (o', st', q') ∧ q' ∧ Go.AX.Rest Try.prog 0 (Fin Try.prog Try.f6 0 [] (AV.bool (decide (q.x ≤ q.z)))) st' o' :=
  endF_spec (σ := []) (fz := []) (show endF Try.prog Try.f6 0 [] [] (go Try.prog ({ dec := [(105, false), (108, true), (112, true), (118, false), (121, true)], els := eGr q, calls := cGr q, unroll := false } : HT) 0 4000 (.inl (sR 13 (bodyOf Try.f6))) [] (s6d q)) = some ([], AV.bool (decide (q.x ≤ q.z)), ((((True ∧ True) ∧ ((True ∧ True) ∧ ((True ∧ (True ∧ (True ∧ (True ∧ ((type_of% h1) ∧ True))))) ∧ ((True ∧ True) ∧ ((True ∧ True) ∧ ((True ∧ True) ∧ ((True ∧ True) ∧ ((True ∧ True) ∧ ((True ∧ True) ∧ ((True ∧ True) ∧ True)))))))))) ∧ (((True ∧ True) ∧ ((True ∧ True) ∧ ((True ∧ True) ∧ ((True ∧ (True ∧ True)) ∧ ((True ∧ (True ∧ True)) ∧ ((True ∧ (True ∧ True)) ∧ ((True ∧ True) ∧ ((True ∧ (True ∧ True)) ∧ ((True ∧ (True ∧ True)) ∧ ((True ∧ (True ∧ True)) ∧ ((True ∧ True) ∧ ((True ∧ (True ∧ True)) ∧ ((True ∧ (True ∧ True)) ∧ ((True ∧ ((type_of% h2) ∧ True)) ∧ ((True ∧ (True ∧ True)) ∧ ((True ∧ (True ∧ True)) ∧ ((True ∧ ((type_of% h3) ∧ True)) ∧ ((True ∧ (True ∧ True)) ∧ ((True ∧ (True ∧ True)) ∧ ((True ∧ (True ∧ (True ∧ True))) ∧ ((True ∧ (True ∧ ((type_of% h4) ∧ True))) ∧ ((True ∧ (True ∧ (True ∧ True))) ∧ ((True ∧ (True ∧ True)) ∧ ((True ∧ True) ∧ ((True ∧ (True ∧ True)) ∧ ((True ∧ (True ∧ True)) ∧ ((True ∧ ((type_of% h5) ∧ True)) ∧ ((True ∧ (True ∧ True)) ∧ ((True ∧ (True ∧ True)) ∧ ((True ∧ ((type_of% h6) ∧ True)) ∧ ((True ∧ (True ∧ True)) ∧ ((True ∧ (True ∧ True)) ∧ ((True ∧ (True ∧ (True ∧ True))) ∧ ((True ∧ (True ∧ (True ∧ True))) ∧ ((True ∧ (True ∧ (True ∧ True))) ∧ ((True ∧ (True ∧ True)) ∧ ((True ∧ True) ∧ True))))))))))))))))))))))))))))))))))))) ∧ True)) ∧ (True ∧ True))) by kernel_rfl) ⟨⟨⟨⟨trivial, trivial⟩, ⟨⟨trivial, trivial⟩, ⟨⟨trivial, ⟨trivial, ⟨trivial, ⟨trivial, ⟨h1, trivial⟩⟩⟩⟩⟩, ⟨⟨trivial, trivial⟩, ⟨⟨trivial, trivial⟩, ⟨⟨trivial, trivial⟩, ⟨⟨trivial, trivial⟩, ⟨⟨trivial, trivial⟩, ⟨⟨trivial, trivial⟩, ⟨⟨trivial, trivial⟩, trivial⟩⟩⟩⟩⟩⟩⟩⟩⟩⟩, ⟨⟨⟨trivial, trivial⟩, ⟨⟨trivial, trivial⟩, ⟨⟨trivial, trivial⟩, ⟨⟨trivial, ⟨trivial, trivial⟩⟩, ⟨⟨trivial, ⟨trivial, trivial⟩⟩, ⟨⟨trivial, ⟨trivial, trivial⟩⟩, ⟨⟨trivial, trivial⟩, ⟨⟨trivial, ⟨trivial, trivial⟩⟩, ⟨⟨trivial, ⟨trivial, trivial⟩⟩, ⟨⟨trivial, ⟨trivial, trivial⟩⟩, ⟨⟨trivial, trivial⟩, ⟨⟨trivial, ⟨trivial, trivial⟩⟩, ⟨⟨trivial, ⟨trivial, trivial⟩⟩, ⟨⟨trivial, ⟨h2, trivial⟩⟩, ⟨⟨trivial, ⟨trivial, trivial⟩⟩, ⟨⟨trivial, ⟨trivial, trivial⟩⟩, ⟨⟨trivial, ⟨h3, trivial⟩⟩, ⟨⟨trivial, ⟨trivial, trivial⟩⟩, ⟨⟨trivial, ⟨trivial, trivial⟩⟩, ⟨⟨trivial, ⟨trivial, ⟨trivial, trivial⟩⟩⟩, ⟨⟨trivial, ⟨trivial, ⟨h4, trivial⟩⟩⟩, ⟨⟨trivial, ⟨trivial, ⟨trivial, trivial⟩⟩⟩, ⟨⟨trivial, ⟨trivial, trivial⟩⟩, ⟨⟨trivial, trivial⟩, ⟨⟨trivial, ⟨trivial, trivial⟩⟩, ⟨⟨trivial, ⟨trivial, trivial⟩⟩, ⟨⟨trivial, ⟨h5, trivial⟩⟩, ⟨⟨trivial, ⟨trivial, trivial⟩⟩, ⟨⟨trivial, ⟨trivial, trivial⟩⟩, ⟨⟨trivial, ⟨h6, trivial⟩⟩, ⟨⟨trivial, ⟨trivial, trivial⟩⟩, ⟨⟨trivial, ⟨trivial, trivial⟩⟩, ⟨⟨trivial, ⟨trivial, ⟨trivial, trivial⟩⟩⟩, ⟨⟨trivial, ⟨trivial, ⟨trivial, trivial⟩⟩⟩, ⟨⟨trivial, ⟨trivial, ⟨trivial, trivial⟩⟩⟩, ⟨⟨trivial, ⟨trivial, trivial⟩⟩, ⟨⟨trivial, trivial⟩, trivial⟩⟩⟩⟩⟩⟩⟩⟩⟩⟩⟩⟩⟩⟩⟩⟩⟩⟩⟩⟩⟩⟩⟩⟩⟩⟩⟩⟩⟩⟩⟩⟩⟩⟩⟩⟩⟩, trivial⟩⟩, ⟨trivial, trivial⟩⟩
end Go.Proofs.Ytcdgphdieemjcaa

/-! Contracts. -/
open Go Go.AX Go.Proofs
set_option maxRecDepth 100000
set_option maxHeartbeats 1000000
set_option linter.unusedVariables false
set_option linter.unusedSimpArgs false
namespace Go.Proofs.Ytcdgphdieemjcaa
theorem GI.ins {n m : Nat} {g : List (List Int)} (h : GI n m g) {a w : Nat} (ha : a < n) (hw : w < n) (hne : a ≠ w) (hno : (w : Int) ∉ g.getD a []) : GI n (m + 1) (g.set a (insB (w : Int) (g.getD a []))) ∧ ∀ v, ∀ x ∈ g.getD v [], x ∈ (g.set a (insB (w : Int) (g.getD a []))).getD v [] := by
  have e : ∀ v, (g.set a (insB (w : Int) (g.getD a []))).getD v [] = if a = v then insB (w : Int) (g.getD a []) else g.getD v [] := by
    intro v
    rw [List.getD_eq_getElem?_getD, List.getElem?_set]
    split
    · rename_i e; subst e; rw [if_pos (by rw [h.len]; exact ha)]; rfl
    · rw [List.getD_eq_getElem?_getD]
  refine ⟨⟨by simp [h.len], fun v hv => ?_⟩, fun v x hx => ?_⟩
  · rw [e]
    split
    · rename_i e2
      obtain ⟨g1, g2, g3⟩ := h.row a ha
      refine ⟨by rw [insB_len]; omega, insB_asc g2 hno, fun x hx => ?_⟩
      rcases mem_insB.1 hx with rfl | hx
      · exact ⟨by omega, by omega, by omega⟩
      · have := g3 x hx; exact ⟨this.1, this.2.1, by omega⟩
    · have := h.row v hv
      exact ⟨by omega, this.2⟩
  · rw [e]
    split
    · rename_i e2; rw [← e2] at hx; exact mem_insB.2 (.inr hx)
    · exact hx

theorem ClsP.mono {g h : List (List Int)} {s m : List Bool} {o : List Int} (hc : ClsP g m o) (hl : h.length = g.length) (hg : ∀ v, ∀ x ∈ g.getD v [], x ∈ h.getD v []) (hm : ∀ v, m.getD v false = false → s.getD v false = false) : ClsP h s o :=
  ⟨hc.1, fun x hx => by obtain ⟨a, b, c⟩ := hc.2.1 x hx; exact ⟨a, by rw [hl]; exact b, hm _ c⟩, fun i hi => hg _ _ (hc.2.2 i hi)⟩

/-- The girth never falls when a vertex is shut, and never rises when edges are added. -/
theorem girth_mono {g h : List (List Int)} {s m : List Bool} (hg : OkG g m) (hh : OkG h s) (hl : h.length = g.length) (hgh : ∀ v, ∀ x ∈ g.getD v [], x ∈ h.getD v []) (hm : ∀ v, m.getD v false = false → s.getD v false = false) :
    (girN g m g.length).length = 0 ∨ (0 < (girN h s h.length).length ∧ (girN h s h.length).length ≤ (girN g m g.length).length) := by
  by_cases hz : girN g m g.length = []
  · exact .inl (by rw [hz]; rfl)
  · obtain ⟨a, b⟩ := girth_min hh ((girth_cls hg hz).1.mono hl hgh hm)
    exact .inr ⟨List.length_pos_iff.2 a, b⟩

noncomputable def qn (L : List Int) (g : List (List Int)) (s : List Bool) (o p t : List Int) (i v w : Nat) (x y z : Int) (b : Bool) (r : List Int) (m1 m2 : Nat) (h : List (List Int)) (s' : List Bool) : QN := ⟨L, [], g, s, o, p, t, i, v, w, x, y, z, b, r, m1, m2, h, 0, s', [], 0, 0⟩

theorem grows_ct (L : List Int) : CT Try.prog 6 [] [lI L] [] (.bool true) := by
  have hb : Try.f6.body = some (bodyOf Try.f6) := by kernel_rfl
  obtain ⟨g, kk, n, hn, hgi, hkk, c1⟩ := graph_ex L 0 9 (by omega) (by omega)
  obtain ⟨s, kk2, hs, hkk2, c2⟩ := shut_ex L kk n (by omega) (by omega)
  obtain ⟨hg, ha⟩ := hgi.ok (by omega) (by omega) hs
  have hgn := hgi.len
  have hl := gL_len g
  have hbl := boL_len s
  by_cases h0 : g.length < 2
  · exact CT.path mix Try.func6 hb (Nat.le_of_ble_eq_true rfl) (zz_0 (qn L g s [] [] [] 0 0 0 0 0 0 false [] kk kk2 [] []) known6_ct c1 (decide_eq_true (by simp only [iN, qn, hl]; omega)))
  have r1 := nextZ_rng L kk2 n (by omega) (by omega)
  have n1 := next_ct L kk2 n (by omega)
  obtain ⟨a, hza⟩ : ∃ a : Nat, nextZ L kk2 n = (a : Int) := ⟨(nextZ L kk2 n).toNat, by omega⟩
  rw [hza] at r1 n1
  have r2 := nextZ_rng L (kk2 + 1) n (by omega) (by omega)
  have n2 := next_ct L (kk2 + 1) n (by omega)
  obtain ⟨v, hzv⟩ : ∃ a : Nat, nextZ L (kk2 + 1) n = (a : Int) := ⟨(nextZ L (kk2 + 1) n).toNat, by omega⟩
  rw [hzv] at r2 n2
  have r3 := nextZ_rng L (kk2 + 1 + 1) n (by omega) (by omega)
  have n3 := next_ct L (kk2 + 1 + 1) n (by omega)
  obtain ⟨w, hzw⟩ : ∃ a : Nat, nextZ L (kk2 + 1 + 1) n = (a : Int) := ⟨(nextZ L (kk2 + 1 + 1) n).toNat, by omega⟩
  rw [hzw] at r3 n3
  have hgm : OkG g (s.set a true) := ⟨hg.len, hg.row, by rw [List.length_set]; exact hg.sh⟩
  have cg1 := girth_ct hg ha
  have cg2 := girth_ct hgm ha
  have mA := girth_mono hgm hg rfl (fun _ _ h => h) (fun v => getD_setB s a v)
  have hrow := hgi.row v (by omega)
  have hvl : v < g.length := by omega
  rw [← hgn] at c2 n1 n2 n3
  -- the end: any graph that has all edges of the first one
  have fin : ∀ (h : List (List Int)), OkG h s → Asc h → h.length = g.length → (∀ v, ∀ x ∈ g.getD v [], x ∈ h.getD v []) → T Try.prog 0 (sR 13 (bodyOf Try.f6)) (s6d (qn L g s (girN g s g.length) (girN g (s.set a true) g.length) (girN h s h.length) a v w (iN (girN h s h.length).length) (iN (girN g (s.set a true) g.length).length) (iN (girN g s g.length).length) false [] kk kk2 h (s.set a true))) (Fin Try.prog Try.f6 0 [] (.bool true)) := by
    intro h hh hha hhl hsub
    have cg3 := girth_ct hh hha
    have mB := girth_mono hg hh hhl hsub (fun _ h => h)
    generalize girN h s h.length = t at cg3 mB ⊢
    generalize girN g s g.length = o at mA mB ⊢
    generalize girN g (s.set a true) g.length = p at mA ⊢
    by_cases y0 : p.length = 0
    · by_cases z0 : o.length = 0
      · exact T.path mix (zdaa_0 (qn L g s o p t a v w (iN t.length) (iN p.length) (iN o.length) false [] kk kk2 h (s.set a true)) cg3 (by simp [qn, iN, y0]) (by simp [qn, iN, z0]))
      · have mB := mB.resolve_left z0
        have dl : decide (iN t.length ≤ iN o.length) = true := decide_eq_true (by simp only [iN]; omega)
        rw [show AV.bool true = AV.bool (decide (iN t.length ≤ iN o.length)) by rw [dl]]
        exact T.path mix (zdab_0 (qn L g s o p t a v w (iN t.length) (iN p.length) (iN o.length) false [] kk kk2 h (s.set a true)) cg3 (by simp [qn, iN, y0]) (by simp only [qn, iN, beq_eq_false_iff_ne, ne_eq]; omega) (decide_eq_true (by simp only [qn, iN]; omega)))
    · have mA := mA.resolve_left y0
      have z0 : ¬ o.length = 0 := by omega
      have mB := mB.resolve_left z0
      have dl : decide (iN t.length ≤ iN o.length) = true := decide_eq_true (by simp only [iN]; omega)
      rw [show AV.bool true = AV.bool (decide (iN t.length ≤ iN o.length)) by rw [dl]]
      exact T.path mix (zdbb_0 (qn L g s o p t a v w (iN t.length) (iN p.length) (iN o.length) false [] kk kk2 h (s.set a true)) cg3 (by simp only [qn, iN, beq_eq_false_iff_ne, ne_eq]; omega) (decide_eq_true (by simp only [qn, iN]; omega)) (decide_eq_true (by simp only [qn, iN]; omega)) (by simp only [qn, iN, beq_eq_false_iff_ne, ne_eq]; omega) (decide_eq_true (by simp only [qn, iN]; omega)))
  have fin2 : ∀ (h : List (List Int)), OkG h s → Asc h → h.length = g.length → (∀ v, ∀ x ∈ g.getD v [], x ∈ h.getD v []) → ∀ st, Ren 0 st (s6d (qn L g s (girN g s g.length) (girN g (s.set a true) g.length) (girN h s h.length) a v w (iN (girN h s h.length).length) (iN (girN g (s.set a true) g.length).length) (iN (girN g s g.length).length) false [] kk kk2 h (s.set a true))) → T Try.prog 0 (sR 13 (bodyOf Try.f6)) st (Fin Try.prog Try.f6 0 [] (.bool true)) :=
    fun h h1 h2 h3 h4 st hst => T.ren hst (fin h h1 h2 h3 h4)
  generalize hz : iN (girN g s g.length).length = z at fin2
  generalize hy : iN (girN g (s.set a true) g.length).length = y at fin2
  rw [hz] at cg1
  rw [hy] at cg2
  generalize girN g s g.length = o at cg1 fin2
  generalize girN g (s.set a true) g.length = p at cg2 fin2
  let q : Bool → List Int → List Int → QN := fun b r t => qn L g s o p t a v w 0 y z b r kk kk2 [] (s.set a true)
  have n1' : CT Try.prog 11 [some (tapeB L kk2)] [.ptr 0 0 0, .int .i64 (iN (gL g).length)] [some (tapeB L (kk2 + 1))] (.int .i64 (iN a)) := by simp only [iN, hl]; exact n1
  have n2' : CT Try.prog 11 [some (tapeB L (kk2 + 1))] [.ptr 0 0 0, .int .i64 (iN (gL g).length)] [some (tapeB L (kk2 + 1 + 1))] (.int .i64 (iN v)) := by simp only [iN, hl]; exact n2
  have n3' : CT Try.prog 11 [some (tapeB L (kk2 + 1 + 1))] [.ptr 0 0 0, .int .i64 (iN (gL g).length)] [some (tapeB L (kk2 + 1 + 1 + 1))] (.int .i64 (iN w)) := by simp only [iN, hl]; exact n3
  refine CT.of Try.func6 hb (Nat.le_of_ble_eq_true rfl) (T.cut (by kernel_rfl) (T.path mix (z0_0 (q false [] []) fun st hst => T.ren hst ?_)))
  refine T.cut (by kernel_rfl) (T.path mix (z1_0 (q false [] []) known6_ct fun st hst => T.ren hst ?_))
  rw [sR_succ 1 (bodyOf Try.f6) (by kernel_rfl)]
  refine T.cut (by kernel_rfl) (T.path mix (z2_0 (q false [] []) fun st hst => T.ren hst ?_))
  rw [sR_succ 2 (bodyOf Try.f6) (by kernel_rfl)]
  refine T.cut (by kernel_rfl) (T.path mix (z3_0 (q false [] []) c1 fun st hst => T.ren hst ?_))
  rw [sR_succ 3 (bodyOf Try.f6) (by kernel_rfl)]
  refine T.cut (by kernel_rfl) (T.path mix (z4_0 (q false [] []) (decide_eq_false (by simp only [iN, q, qn, hl]; omega)) fun st hst => T.ren hst ?_))
  rw [sR_succ 4 (bodyOf Try.f6) (by kernel_rfl)]
  refine T.cut (by kernel_rfl) (T.path mix (z5_0 (q false [] []) (by simp only [iN, q, qn, hl]; exact c2) fun st hst => T.ren hst ?_))
  rw [sR_succ 5 (bodyOf Try.f6) (by kernel_rfl)]
  refine T.cut (by kernel_rfl) (T.path mix (z6_0 (q false [] []) cg1 fun st hst => T.ren hst ?_))
  rw [sR_succ 6 (bodyOf Try.f6) (by kernel_rfl)]
  refine T.cut (by kernel_rfl) (T.path mix (z7_0 (q false [] []) (fun x hx => ?_) (by simp only [q, qn, hbl]; omega) (by simp only [q, qn, hbl]; omega) fun st hst => T.ren hst ?_))
  · obtain ⟨b, _, rfl⟩ := List.mem_map.1 hx
    rfl
  rw [sR_succ 7 (bodyOf Try.f6) (by kernel_rfl)]
  refine T.cut (by kernel_rfl) (T.path mix (z8_0 (q false [] []) n1' (by simp [iN]) (by simp only [iN, q, qn, hbl]; omega) (by show (_ : Nat) ≤ _; simp [iN, q, qn, hbl]; omega) (by simp) fun st hst => T.ren hst ?_))
  rw [sR_succ 8 (bodyOf Try.f6) (by kernel_rfl)]
  have hset : (boL s).set (0 + (iN a).toNat) (.bool true) = boL (s.set a true) := boL_set s a true
  change T Try.prog 0 _ { n := Try.f6.ntmps, fr := [(3, .ptr 0 0 0), (4, .lst (gL g)), (5, .lst (boL s)), (6, .int .i64 z), (8, .int .i64 0), (9, .lst ((boL s).set (0 + (iN a).toNat) (.bool true)))], hp := [some (tapeB L (kk2 + 1))] } _
  rw [hset]
  refine T.cut (by kernel_rfl) (T.path mix (z9_0 (q false [] []) cg2 fun st hst => T.ren hst ?_))
  rw [sR_succ 9 (bodyOf Try.f6) (by kernel_rfl)]
  refine T.cut (by kernel_rfl) (T.path mix (za_0 (q false [] []) n2' n3' fun st hst => T.ren hst ?_))
  rw [sR_succ 10 (bodyOf Try.f6) (by kernel_rfl)]
  refine T.cut (by kernel_rfl) (T.path mix (zb_0 (q false [] []) (fun x hx => ?_) (by simp only [q, qn, hl]; omega) (by simp only [q, qn, hl]; omega) fun st hst => T.ren hst ?_))
  · obtain ⟨b, _, rfl⟩ := List.mem_map.1 hx
    rfl
  rw [sR_succ 11 (bodyOf Try.f6) (by kernel_rfl)]
  refine T.cut (by kernel_rfl) ?_
  rw [sR_succ 12 (bodyOf Try.f6) (by kernel_rfl)]
  by_cases hvw : v = w
  · refine T.path mix (zc_2 (q false [] []) (by simp [iN, q, qn, hvw]) fun st hst => ?_)
    exact fin2 g hg ha rfl (fun _ _ h => h) st hst
  · have d1 : (iN v != iN w) = true := by simp only [iN, bne_iff_ne, ne_eq]; omega
    have ch := has_ct (g.getD v []) (w : Int) (by omega)
    have hrg := gL_get0 hvl
    by_cases hm : (w : Int) ∈ g.getD v []
    · rw [hasZ_true hm] at ch
      refine T.path mix (zc_1 (q true (g.getD v []) []) d1 (by simp [iN]) (by simp only [iN, q, qn, hl]; omega) hrg ch rfl fun st hst => ?_)
      exact fin2 g hg ha rfl (fun _ _ h => h) st hst
    · rw [hasZ_no hm] at ch
      have ci := ins_ct (g.getD v []) (w : Int) (by omega)
      obtain ⟨hgi2, hsub⟩ := hgi.ins (a := v) (w := w) (by omega) (by omega) hvw hm
      obtain ⟨hg2, ha2⟩ := hgi2.ok (by omega) (by omega) hs
      refine T.path mix (zc_0 (q false (g.getD v []) (insB (w : Int) (g.getD v []))) d1 (by simp [iN]) (by simp only [iN, q, qn, hl]; omega) hrg ch rfl ci (by show (_ : Nat) ≤ _; simp [iN, q, qn, hl]; omega) (by simp) fun st hst => ?_)
      refine fin2 (g.set v (insB (w : Int) (g.getD v []))) hg2 ha2 (by simp) hsub st ?_
      have hst2 : (gL g).set (0 + (iN v).toNat) (AV.lst ((insB (w : Int) (g.getD v [])).map (AV.int .i64))) = gL (g.set v (insB (w : Int) (g.getD v []))) := gL_set g v _
      simp only [q, qn] at hst
      rw [hst2] at hst
      exact hst
noncomputable def qf3 (L : List Int) (g : List (List Int)) (s : List Bool) (o : List Int) (x z y : Int) (kk : Nat) : QN := ⟨L, [], g, s, o, girL g s, thL g s x, 0, 0, 0, x, y, z, clsB g s o, [], 0, 0, [], kk, [], [], chk4 g s, thE g s x⟩
noncomputable def lwS (L : List Int) (g : List (List Int)) (s : List Bool) (o : List Int) (x z : Int) (kk : Nat) : St := match o with
  | [] => lw3z (qf3 L g s [] x z 0 kk)
  | _ => lw3 (qf3 L g s o x z 0 kk)
theorem girthGrows_row (avs : List AV) (h : ShVs Try.prog 4 Try.f6.params.toList avs) : CT Try.prog 6 [] avs [] (.bool true) := by
  rw [Try.params6] at h
  obtain ⟨a, _, rfl, ka, h⟩ := h.consD
  obtain rfl := h.nilD
  obtain ⟨ls, _, hl, rfl⟩ := ka.sliceD Try.underlying24
  obtain ⟨L, rfl⟩ := ints6 hl
  exact grows_ct L
end Go.Proofs.Ytcdgphdieemjcaa


/- Parts of the proof: Rt8p, RtP, RtR, RtQ, Rt9p, RtU, Rt11p, AxTr, RtA, Rt12p, RtB, Rt13p. -/
import Derived.Test.YtcdgphdieemjcaaProg
import Derived.KernelRfl
import Derived.Test.YtcdgphdieemjcaaGirthFindsM3
/-! The paths of a function, by evaluation. -/
open Go Go.AX Go.Proofs
set_option maxRecDepth 100000
set_option maxHeartbeats 4000000
set_option linter.unusedVariables false
namespace Go.Proofs.Ytcdgphdieemjcaa
noncomputable def st32 (q : QK) : St := { n := Try.f36.ntmps, fr := [(0, .lst (gL q.g)), (1, .lst (boL q.s)), (2, .int .i64 (iN q.v))], hp := [] }
noncomputable def la32 (q : QK) : St := { n := Try.f36.ntmps, fr := [(0, .lst (gL q.g)), (7, lI q.d), (8, .sl 0 0 q.p.length), (9, .int .i64 (iN q.v))], hp := [some (dB q.p)] }
noncomputable def lb32 (q : QK) : St := { n := Try.f36.ntmps, fr := [(0, .lst (gL q.g)), (7, lI q.d), (8, .sl 0 0 q.p.length), (9, .int .i64 (iN q.v)), (10, .int .i64 (iN q.i - 1))], hp := [some (dB q.p)] }
def cW (q : QK) : Nat → FuncId → List AV → List (Option Blk) → Hint := fun dst f args _ => match f with
  | 32 => .call [] [] [] (lI q.d)
  | 36 => .call [] [] [] (lI q.p)
  | 25 => .call [] [] [] (.int .i64 q.e)
  | 33 => .call [] [] [] (lI q.p)
  | 16 => .call [] [] [] (.bool true)
  | _ => .no
def e32 (q : QK) : List (Nat × AV) := [(30, lI q.r), (39, .int .i64 q.x), (47, lI q.r), (50, .int .i64 (iN q.w)), (54, .int .i64 q.y), (58, .int .i64 q.x)]
noncomputable def st34 (q : QK) : St := { n := Try.f33.ntmps, fr := [(0, .lst (gL q.g)), (1, .lst (boL q.s)), (2, .int .i64 (iN q.v)), (3, .int .i64 (iN q.w))], hp := [] }
noncomputable def lo34 (q : QK) : St := { n := Try.f33.ntmps, fr := [(2, .int .i64 (iN q.v)), (3, .int .i64 (iN q.w)), (9, lI q.p), (10, .sl 0 0 (q.i + 1))], hp := [some (dB q.r)] }
def e34 (q : QK) : List (Nat × AV) := [(16, .int .i64 q.x), (30, .int .i64 (iN q.a))]
def e21 (q : QK) : List (Nat × AV) := [(17, lI q.r), (18, lI q.r), (19, lI q.r), (20, lI q.r), (21, lI q.r), (22, lI q.r), (23, lI q.r), (24, lI q.r)]
theorem rh_0 (q : QK) (h1 : (CT Try.prog 32 [] [AV.lst (gL q.g), AV.lst (boL q.s), AV.int IntKind.i64 (iN q.v)] [] (AV.lst (List.map (AV.int IntKind.i64) q.d)))) (h2 : (iN (gL q.g).length ≤ iN (gL q.g).length)) (h3 : (8 * iN (gL q.g).length ≤ 281474976710656)) (h4 : (iN (gL q.g).length ≤ 9223372036854775807)) {post : Exit → St → Prop} (ht : T Try.prog 0 (.loop (loopC (bodyOf Try.f36) 0)) (St.mk 67 [(0, AV.lst (gL q.g)), (7, AV.lst (List.map (AV.int IntKind.i64) q.d)), (8, AV.sl 0 0 (gL q.g).length), (9, AV.int IntKind.i64 0)] [some (Blk.mk (List.replicate (gL q.g).length (AV.int IntKind.i64 0)) 1 true true)]) (TK Try.prog 0 post (loopK (bodyOf Try.f36) 0))) : ∃ o' st' q', go Try.prog ({ dec := [], els := e32 q, calls := cW q, unroll := false } : HT) 0 4000 (.inl (bodyOf Try.f36)) [] (st32 q) = some (o', st', q') ∧ q' ∧ Go.AX.Rest Try.prog 0 post st' o' :=
  endR_spec (σ := [0]) (fz := []) (vars := [0,7,8,9]) (show endR 0 [0] [] [0,7,8,9] (go Try.prog ({ dec := [], els := e32 q, calls := cW q, unroll := false } : HT) 0 4000 (.inl (bodyOf Try.f36)) [] (st32 q)) = some (loopC (bodyOf Try.f36) 0, loopK (bodyOf Try.f36) 0, St.mk 67 [(0, AV.lst (gL q.g)), (7, AV.lst (List.map (AV.int IntKind.i64) q.d)), (8, AV.sl 0 0 (gL q.g).length), (9, AV.int IntKind.i64 0)] [some (Blk.mk (List.replicate (gL q.g).length (AV.int IntKind.i64 0)) 1 true true)], (((True ∧ True) ∧ (((True ∧ True) ∧ ((True ∧ True) ∧ ((True ∧ True) ∧ ((True ∧ (True ∧ (True ∧ (True ∧ (True ∧ (True ∧ ((type_of% h1) ∧ True))))))) ∧ ((True ∧ True) ∧ True))))) ∧ (((True ∧ True) ∧ ((True ∧ True) ∧ ((True ∧ (True ∧ ((0 ≤ iN (gL q.g).length) ∧ ((type_of% h2) ∧ ((type_of% h3) ∧ (type_of% h4)))))) ∧ ((True ∧ True) ∧ True)))) ∧ ((True ∧ True) ∧ True)))) ∧ (True ∧ (True ∧ (True ∧ (True ∧ (True ∧ True))))))) by kernel_rfl) ⟨⟨⟨trivial, trivial⟩, ⟨⟨⟨trivial, trivial⟩, ⟨⟨trivial, trivial⟩, ⟨⟨trivial, trivial⟩, ⟨⟨trivial, ⟨trivial, ⟨trivial, ⟨trivial, ⟨trivial, ⟨trivial, ⟨h1, trivial⟩⟩⟩⟩⟩⟩⟩, ⟨⟨trivial, trivial⟩, trivial⟩⟩⟩⟩⟩, ⟨⟨⟨trivial, trivial⟩, ⟨⟨trivial, trivial⟩, ⟨⟨trivial, ⟨trivial, ⟨(Int.natCast_nonneg _), ⟨h2, ⟨h3, h4⟩⟩⟩⟩⟩, ⟨⟨trivial, trivial⟩, trivial⟩⟩⟩⟩, ⟨⟨trivial, trivial⟩, trivial⟩⟩⟩⟩, ⟨trivial, ⟨trivial, ⟨trivial, ⟨trivial, ⟨trivial, trivial⟩⟩⟩⟩⟩⟩ ht
theorem rhx_0 (q : QK) (h1 : (decide (iN q.v < iN (gL q.g).length) = false)) (h2 : (q.p.length = (List.map (AV.int IntKind.i64) q.p).length)) : ∃ o' st' q', go2 Try.prog ({ dec := [(22, false)], els := e32 q, calls := cW q, unroll := false } : HT) 0 4000 (loopC (bodyOf Try.f36) 0) (loopK (bodyOf Try.f36) 0) (la32 q) = some (o', st', q') ∧ q' ∧ Go.AX.Rest Try.prog 0 (Fin Try.prog Try.f36 0 [] (AV.lst (List.map (AV.int IntKind.i64) q.p))) st' o' :=
  endF_spec (σ := []) (fz := [0]) (show endF Try.prog Try.f36 0 [] [0] (go2 Try.prog ({ dec := [(22, false)], els := e32 q, calls := cW q, unroll := false } : HT) 0 4000 (loopC (bodyOf Try.f36) 0) (loopK (bodyOf Try.f36) 0) (la32 q)) = some ([], AV.lst (List.map (AV.int IntKind.i64) q.p), (((((True ∧ True) ∧ ((True ∧ True) ∧ ((True ∧ True) ∧ ((True ∧ (True ∧ True)) ∧ True)))) ∧ ((type_of% h1) ∧ True)) ∧ (((True ∧ True) ∧ ((True ∧ True) ∧ True)) ∧ True)) ∧ ((type_of% h2) ∧ True))) by kernel_rfl) ⟨⟨⟨⟨⟨trivial, trivial⟩, ⟨⟨trivial, trivial⟩, ⟨⟨trivial, trivial⟩, ⟨⟨trivial, ⟨trivial, trivial⟩⟩, trivial⟩⟩⟩⟩, ⟨h1, trivial⟩⟩, ⟨⟨⟨trivial, trivial⟩, ⟨⟨trivial, trivial⟩, trivial⟩⟩, trivial⟩⟩, ⟨h2, trivial⟩⟩
theorem rhi_0 (q : QK) (h1 : (decide (iN q.v < iN (gL q.g).length) = true)) (h2 : (0 ≤ iN q.v)) (h3 : (iN q.v < iN q.p.length)) (h4 : ((0 + (iN q.v).toNat).succ.le (List.map (AV.int IntKind.i64) q.p).length)) (h5 : ((gL q.g)[(iN q.v).toNat]? = some (AV.lst (List.map (AV.int IntKind.i64) q.r)))) {post : Exit → St → Prop} (ht : T Try.prog 0 (.loop (loopC (loopC (bodyOf Try.f36) 0) 0)) (St.mk 67 [(0, AV.lst (gL q.g)), (7, AV.lst (List.map (AV.int IntKind.i64) q.d)), (8, AV.sl 0 0 q.p.length), (9, AV.int IntKind.i64 (iN q.v)), (10, AV.int IntKind.i64 (IntKind.i64.wrap (iN (List.map (AV.int IntKind.i64) q.r).length - 1)))] [some (Blk.mk ((List.map (AV.int IntKind.i64) q.p).set (0 + (iN q.v).toNat) (AV.int IntKind.i64 (-1))) 1 true true)]) (TK Try.prog 0 post (loopK (loopC (bodyOf Try.f36) 0) 0))) : ∃ o' st' q', go Try.prog ({ dec := [(22, true)], els := e32 q, calls := cW q, unroll := false } : HT) 0 4000 (.inl (loopC (bodyOf Try.f36) 0)) [] (la32 q) = some (o', st', q') ∧ q' ∧ Go.AX.Rest Try.prog 0 post st' o' :=
  endR_spec (σ := [0]) (fz := []) (vars := [0,7,8,9,10]) (show endR 0 [0] [] [0,7,8,9,10] (go Try.prog ({ dec := [(22, true)], els := e32 q, calls := cW q, unroll := false } : HT) 0 4000 (.inl (loopC (bodyOf Try.f36) 0)) [] (la32 q)) = some (loopC (loopC (bodyOf Try.f36) 0) 0, loopK (loopC (bodyOf Try.f36) 0) 0, St.mk 67 [(0, AV.lst (gL q.g)), (7, AV.lst (List.map (AV.int IntKind.i64) q.d)), (8, AV.sl 0 0 q.p.length), (9, AV.int IntKind.i64 (iN q.v)), (10, AV.int IntKind.i64 (IntKind.i64.wrap (iN (List.map (AV.int IntKind.i64) q.r).length - 1)))] [some (Blk.mk ((List.map (AV.int IntKind.i64) q.p).set (0 + (iN q.v).toNat) (AV.int IntKind.i64 (-1))) 1 true true)], ((((True ∧ True) ∧ ((True ∧ True) ∧ ((True ∧ True) ∧ ((True ∧ (True ∧ True)) ∧ True)))) ∧ ((type_of% h1) ∧ (((True ∧ True) ∧ ((True ∧ True) ∧ ((True ∧ (True ∧ ((type_of% h2) ∧ (type_of% h3)))) ∧ ((True ∧ (type_of% h4)) ∧ True)))) ∧ (((True ∧ True) ∧ ((True ∧ True) ∧ ((True ∧ (True ∧ ((type_of% h2) ∧ (type_of% h5)))) ∧ ((True ∧ True) ∧ ((True ∧ True) ∧ ((True ∧ True) ∧ ((True ∧ True) ∧ True))))))) ∧ True)))) ∧ (True ∧ (True ∧ (True ∧ (True ∧ (True ∧ (True ∧ True)))))))) by kernel_rfl) ⟨⟨⟨⟨trivial, trivial⟩, ⟨⟨trivial, trivial⟩, ⟨⟨trivial, trivial⟩, ⟨⟨trivial, ⟨trivial, trivial⟩⟩, trivial⟩⟩⟩⟩, ⟨h1, ⟨⟨⟨trivial, trivial⟩, ⟨⟨trivial, trivial⟩, ⟨⟨trivial, ⟨trivial, ⟨h2, h3⟩⟩⟩, ⟨⟨trivial, h4⟩, trivial⟩⟩⟩⟩, ⟨⟨⟨trivial, trivial⟩, ⟨⟨trivial, trivial⟩, ⟨⟨trivial, ⟨trivial, ⟨h2, h5⟩⟩⟩, ⟨⟨trivial, trivial⟩, ⟨⟨trivial, trivial⟩, ⟨⟨trivial, trivial⟩, ⟨⟨trivial, trivial⟩, trivial⟩⟩⟩⟩⟩⟩⟩, trivial⟩⟩⟩⟩, ⟨trivial, ⟨trivial, ⟨trivial, ⟨trivial, ⟨trivial, ⟨trivial, trivial⟩⟩⟩⟩⟩⟩⟩ ht
theorem rhbx_0 (q : QK) (h1 : (decide (0 ≤ iN q.i - 1) = true)) (h2 : (0 ≤ iN q.v)) (h3 : ((List.map (AV.int IntKind.i64) q.d)[(iN q.v).toNat]? = some (AV.int IntKind.i64 q.x))) (h4 : (decide (0 < q.x) = false)) {post : Exit → St → Prop} {R : St → Prop} (hR : ∀ st, Ren 0 st (St.mk 67 [(0, AV.lst (gL q.g)), (7, AV.lst (List.map (AV.int IntKind.i64) q.d)), (8, AV.sl 0 0 q.p.length), (9, AV.int IntKind.i64 (IntKind.i64.wrap (iN q.v + 1)))] [some (Blk.mk (List.map (AV.int IntKind.i64) q.p) 1 true true)]) → R st) : ∃ o' st' q', go2 Try.prog ({ dec := [(42, false), (36, true)], els := e32 q, calls := cW q, unroll := false } : HT) 0 4000 (loopC (loopC (bodyOf Try.f36) 0) 0) (loopK (loopC (bodyOf Try.f36) 0) 0) (lb32 q) = some (o', st', q') ∧ q' ∧ Go.AX.Rest Try.prog 0 (andThen R post) st' o' :=
  endN_spec (σ := [0]) (fz := []) (vars := [0,7,8,9]) (show endN 0 [0] [] [0,7,8,9] (go2 Try.prog ({ dec := [(42, false), (36, true)], els := e32 q, calls := cW q, unroll := false } : HT) 0 4000 (loopC (loopC (bodyOf Try.f36) 0) 0) (loopK (loopC (bodyOf Try.f36) 0) 0) (lb32 q)) = some (St.mk 67 [(0, AV.lst (gL q.g)), (7, AV.lst (List.map (AV.int IntKind.i64) q.d)), (8, AV.sl 0 0 q.p.length), (9, AV.int IntKind.i64 (IntKind.i64.wrap (iN q.v + 1)))] [some (Blk.mk (List.map (AV.int IntKind.i64) q.p) 1 true true)], (((((True ∧ True) ∧ ((True ∧ True) ∧ ((True ∧ True) ∧ (((type_of% h1) ∧ (True ∧ True)) ∧ (((type_of% h1) ∧ (True ∧ True)) ∧ (((type_of% h1) ∧ (True ∧ (True ∧ ((type_of% h2) ∧ (type_of% h3))))) ∧ (((type_of% h1) ∧ (True ∧ True)) ∧ (((type_of% h1) ∧ (True ∧ True)) ∧ (((type_of% h1) ∧ (True ∧ True)) ∧ True))))))))) ∧ ((type_of% h4) ∧ True)) ∧ (((True ∧ True) ∧ ((True ∧ True) ∧ ((True ∧ True) ∧ True))) ∧ True)) ∧ (True ∧ (True ∧ (True ∧ (True ∧ (True ∧ True))))))) by kernel_rfl) ⟨⟨⟨⟨⟨trivial, trivial⟩, ⟨⟨trivial, trivial⟩, ⟨⟨trivial, trivial⟩, ⟨⟨h1, ⟨trivial, trivial⟩⟩, ⟨⟨h1, ⟨trivial, trivial⟩⟩, ⟨⟨h1, ⟨trivial, ⟨trivial, ⟨h2, h3⟩⟩⟩⟩, ⟨⟨h1, ⟨trivial, trivial⟩⟩, ⟨⟨h1, ⟨trivial, trivial⟩⟩, ⟨⟨h1, ⟨trivial, trivial⟩⟩, trivial⟩⟩⟩⟩⟩⟩⟩⟩⟩, ⟨h4, trivial⟩⟩, ⟨⟨⟨trivial, trivial⟩, ⟨⟨trivial, trivial⟩, ⟨⟨trivial, trivial⟩, trivial⟩⟩⟩, trivial⟩⟩, ⟨trivial, ⟨trivial, ⟨trivial, ⟨trivial, ⟨trivial, trivial⟩⟩⟩⟩⟩⟩ hR
theorem rhbx_1 (q : QK) (h1 : (decide (0 ≤ iN q.i - 1) = false)) {post : Exit → St → Prop} {R : St → Prop} (hR : ∀ st, Ren 0 st (St.mk 67 [(0, AV.lst (gL q.g)), (7, AV.lst (List.map (AV.int IntKind.i64) q.d)), (8, AV.sl 0 0 q.p.length), (9, AV.int IntKind.i64 (IntKind.i64.wrap (iN q.v + 1)))] [some (Blk.mk (List.map (AV.int IntKind.i64) q.p) 1 true true)]) → R st) : ∃ o' st' q', go2 Try.prog ({ dec := [(42, false), (36, false)], els := e32 q, calls := cW q, unroll := false } : HT) 0 4000 (loopC (loopC (bodyOf Try.f36) 0) 0) (loopK (loopC (bodyOf Try.f36) 0) 0) (lb32 q) = some (o', st', q') ∧ q' ∧ Go.AX.Rest Try.prog 0 (andThen R post) st' o' :=
  endN_spec (σ := [0]) (fz := []) (vars := [0,7,8,9]) (show endN 0 [0] [] [0,7,8,9] (go2 Try.prog ({ dec := [(42, false), (36, false)], els := e32 q, calls := cW q, unroll := false } : HT) 0 4000 (loopC (loopC (bodyOf Try.f36) 0) 0) (loopK (loopC (bodyOf Try.f36) 0) 0) (lb32 q)) = some (St.mk 67 [(0, AV.lst (gL q.g)), (7, AV.lst (List.map (AV.int IntKind.i64) q.d)), (8, AV.sl 0 0 q.p.length), (9, AV.int IntKind.i64 (IntKind.i64.wrap (iN q.v + 1)))] [some (Blk.mk (List.map (AV.int IntKind.i64) q.p) 1 true true)], (((((True ∧ True) ∧ ((True ∧ True) ∧ ((True ∧ True) ∧ ((type_of% h1) ∧ ((type_of% h1) ∧ ((type_of% h1) ∧ ((type_of% h1) ∧ ((type_of% h1) ∧ (((type_of% h1) ∧ (True ∧ True)) ∧ True))))))))) ∧ ((false = false) ∧ True)) ∧ (((True ∧ True) ∧ ((True ∧ True) ∧ ((True ∧ True) ∧ True))) ∧ True)) ∧ (True ∧ (True ∧ (True ∧ (True ∧ (True ∧ True))))))) by kernel_rfl) ⟨⟨⟨⟨⟨trivial, trivial⟩, ⟨⟨trivial, trivial⟩, ⟨⟨trivial, trivial⟩, ⟨h1, ⟨h1, ⟨h1, ⟨h1, ⟨h1, ⟨⟨h1, ⟨trivial, trivial⟩⟩, trivial⟩⟩⟩⟩⟩⟩⟩⟩⟩, ⟨(by first | decide | exact Int.NonNeg.mk _), trivial⟩⟩, ⟨⟨⟨trivial, trivial⟩, ⟨⟨trivial, trivial⟩, ⟨⟨trivial, trivial⟩, trivial⟩⟩⟩, trivial⟩⟩, ⟨trivial, ⟨trivial, ⟨trivial, ⟨trivial, ⟨trivial, trivial⟩⟩⟩⟩⟩⟩ hR
theorem rhbr_0 (q : QK) (h1 : (decide (0 ≤ iN q.i - 1) = true)) (h2 : (0 ≤ iN q.v)) (h3 : ((List.map (AV.int IntKind.i64) q.d)[(iN q.v).toNat]? = some (AV.int IntKind.i64 q.x))) (h4 : (decide (0 < q.x) = true)) (h5 : ((gL q.g)[(iN q.v).toNat]? = some (AV.lst (List.map (AV.int IntKind.i64) q.r)))) (h6 : (0 ≤ iN q.i - 1)) (h7 : ((List.map (AV.int IntKind.i64) q.r)[(iN q.i - 1).toNat]? = some (AV.int IntKind.i64 (iN q.w)))) (h8 : (0 ≤ iN q.w)) (h9 : ((List.map (AV.int IntKind.i64) q.d)[(iN q.w).toNat]? = some (AV.int IntKind.i64 q.y))) (h10 : ((q.y == IntKind.i64.wrap (q.x - 1)) = true)) (h11 : (iN q.v < iN q.p.length)) (h12 : ((0 + (iN q.v).toNat).succ.le (List.map (AV.int IntKind.i64) q.p).length)) {post : Exit → St → Prop} {R : St → Prop} (hR : ∀ st, Ren 0 st (St.mk 67 [(0, AV.lst (gL q.g)), (7, AV.lst (List.map (AV.int IntKind.i64) q.d)), (8, AV.sl 0 0 q.p.length), (9, AV.int IntKind.i64 (iN q.v)), (10, AV.int IntKind.i64 (IntKind.i64.wrap (iN q.i - 1 - 1)))] [some (Blk.mk ((List.map (AV.int IntKind.i64) q.p).set (0 + (iN q.v).toNat) (AV.int IntKind.i64 (iN q.w))) 1 true true)]) → R st) : ∃ o' st' q', go Try.prog ({ dec := [(36, true), (42, true), (61, true)], els := e32 q, calls := cW q, unroll := false } : HT) 0 4000 (.inl (loopC (loopC (bodyOf Try.f36) 0) 0)) [] (lb32 q) = some (o', st', q') ∧ q' ∧ Go.AX.Rest Try.prog 0 (andThen R post) st' o' :=
  endN_spec (σ := [0]) (fz := []) (vars := [0,7,8,9,10]) (show endN 0 [0] [] [0,7,8,9,10] (go Try.prog ({ dec := [(36, true), (42, true), (61, true)], els := e32 q, calls := cW q, unroll := false } : HT) 0 4000 (.inl (loopC (loopC (bodyOf Try.f36) 0) 0)) [] (lb32 q)) = some (St.mk 67 [(0, AV.lst (gL q.g)), (7, AV.lst (List.map (AV.int IntKind.i64) q.d)), (8, AV.sl 0 0 q.p.length), (9, AV.int IntKind.i64 (iN q.v)), (10, AV.int IntKind.i64 (IntKind.i64.wrap (iN q.i - 1 - 1)))] [some (Blk.mk ((List.map (AV.int IntKind.i64) q.p).set (0 + (iN q.v).toNat) (AV.int IntKind.i64 (iN q.w))) 1 true true)], ((((True ∧ True) ∧ ((True ∧ True) ∧ ((True ∧ True) ∧ (((type_of% h1) ∧ (True ∧ True)) ∧ (((type_of% h1) ∧ (True ∧ True)) ∧ (((type_of% h1) ∧ (True ∧ (True ∧ ((type_of% h2) ∧ (type_of% h3))))) ∧ (((type_of% h1) ∧ (True ∧ True)) ∧ (((type_of% h1) ∧ (True ∧ True)) ∧ (((type_of% h1) ∧ (True ∧ True)) ∧ True))))))))) ∧ ((type_of% h4) ∧ (((True ∧ True) ∧ ((True ∧ True) ∧ ((True ∧ (True ∧ ((type_of% h2) ∧ (type_of% h5)))) ∧ ((True ∧ True) ∧ ((True ∧ True) ∧ ((True ∧ (True ∧ ((type_of% h6) ∧ (type_of% h7)))) ∧ ((True ∧ True) ∧ ((True ∧ True) ∧ True)))))))) ∧ (((True ∧ True) ∧ ((True ∧ True) ∧ ((True ∧ (True ∧ ((type_of% h8) ∧ (type_of% h9)))) ∧ ((True ∧ True) ∧ ((True ∧ True) ∧ ((True ∧ True) ∧ ((True ∧ (True ∧ ((type_of% h2) ∧ (type_of% h3)))) ∧ ((True ∧ True) ∧ ((True ∧ True) ∧ ((True ∧ (True ∧ True)) ∧ True)))))))))) ∧ ((type_of% h10) ∧ (((True ∧ True) ∧ ((True ∧ True) ∧ ((True ∧ True) ∧ ((True ∧ (True ∧ ((type_of% h2) ∧ (type_of% h11)))) ∧ ((True ∧ (True ∧ (type_of% h12))) ∧ True))))) ∧ (((True ∧ True) ∧ ((True ∧ True) ∧ ((True ∧ True) ∧ True))) ∧ True))))))) ∧ (True ∧ (True ∧ (True ∧ (True ∧ (True ∧ (True ∧ True)))))))) by kernel_rfl) ⟨⟨⟨⟨trivial, trivial⟩, ⟨⟨trivial, trivial⟩, ⟨⟨trivial, trivial⟩, ⟨⟨h1, ⟨trivial, trivial⟩⟩, ⟨⟨h1, ⟨trivial, trivial⟩⟩, ⟨⟨h1, ⟨trivial, ⟨trivial, ⟨h2, h3⟩⟩⟩⟩, ⟨⟨h1, ⟨trivial, trivial⟩⟩, ⟨⟨h1, ⟨trivial, trivial⟩⟩, ⟨⟨h1, ⟨trivial, trivial⟩⟩, trivial⟩⟩⟩⟩⟩⟩⟩⟩⟩, ⟨h4, ⟨⟨⟨trivial, trivial⟩, ⟨⟨trivial, trivial⟩, ⟨⟨trivial, ⟨trivial, ⟨h2, h5⟩⟩⟩, ⟨⟨trivial, trivial⟩, ⟨⟨trivial, trivial⟩, ⟨⟨trivial, ⟨trivial, ⟨h6, h7⟩⟩⟩, ⟨⟨trivial, trivial⟩, ⟨⟨trivial, trivial⟩, trivial⟩⟩⟩⟩⟩⟩⟩⟩, ⟨⟨⟨trivial, trivial⟩, ⟨⟨trivial, trivial⟩, ⟨⟨trivial, ⟨trivial, ⟨h8, h9⟩⟩⟩, ⟨⟨trivial, trivial⟩, ⟨⟨trivial, trivial⟩, ⟨⟨trivial, trivial⟩, ⟨⟨trivial, ⟨trivial, ⟨h2, h3⟩⟩⟩, ⟨⟨trivial, trivial⟩, ⟨⟨trivial, trivial⟩, ⟨⟨trivial, ⟨trivial, trivial⟩⟩, trivial⟩⟩⟩⟩⟩⟩⟩⟩⟩⟩, ⟨h10, ⟨⟨⟨trivial, trivial⟩, ⟨⟨trivial, trivial⟩, ⟨⟨trivial, trivial⟩, ⟨⟨trivial, ⟨trivial, ⟨h2, h11⟩⟩⟩, ⟨⟨trivial, ⟨trivial, h12⟩⟩, trivial⟩⟩⟩⟩⟩, ⟨⟨⟨trivial, trivial⟩, ⟨⟨trivial, trivial⟩, ⟨⟨trivial, trivial⟩, trivial⟩⟩⟩, trivial⟩⟩⟩⟩⟩⟩⟩, ⟨trivial, ⟨trivial, ⟨trivial, ⟨trivial, ⟨trivial, ⟨trivial, trivial⟩⟩⟩⟩⟩⟩⟩ hR
theorem rhbr_1 (q : QK) (h1 : (decide (0 ≤ iN q.i - 1) = true)) (h2 : (0 ≤ iN q.v)) (h3 : ((List.map (AV.int IntKind.i64) q.d)[(iN q.v).toNat]? = some (AV.int IntKind.i64 q.x))) (h4 : (decide (0 < q.x) = true)) (h5 : ((gL q.g)[(iN q.v).toNat]? = some (AV.lst (List.map (AV.int IntKind.i64) q.r)))) (h6 : (0 ≤ iN q.i - 1)) (h7 : ((List.map (AV.int IntKind.i64) q.r)[(iN q.i - 1).toNat]? = some (AV.int IntKind.i64 (iN q.w)))) (h8 : (0 ≤ iN q.w)) (h9 : ((List.map (AV.int IntKind.i64) q.d)[(iN q.w).toNat]? = some (AV.int IntKind.i64 q.y))) (h10 : ((q.y == IntKind.i64.wrap (q.x - 1)) = false)) {post : Exit → St → Prop} {R : St → Prop} (hR : ∀ st, Ren 0 st (St.mk 67 [(0, AV.lst (gL q.g)), (7, AV.lst (List.map (AV.int IntKind.i64) q.d)), (8, AV.sl 0 0 q.p.length), (9, AV.int IntKind.i64 (iN q.v)), (10, AV.int IntKind.i64 (IntKind.i64.wrap (iN q.i - 1 - 1)))] [some (Blk.mk (List.map (AV.int IntKind.i64) q.p) 1 true true)]) → R st) : ∃ o' st' q', go Try.prog ({ dec := [(36, true), (42, true), (61, false)], els := e32 q, calls := cW q, unroll := false } : HT) 0 4000 (.inl (loopC (loopC (bodyOf Try.f36) 0) 0)) [] (lb32 q) = some (o', st', q') ∧ q' ∧ Go.AX.Rest Try.prog 0 (andThen R post) st' o' :=
  endN_spec (σ := [0]) (fz := []) (vars := [0,7,8,9,10]) (show endN 0 [0] [] [0,7,8,9,10] (go Try.prog ({ dec := [(36, true), (42, true), (61, false)], els := e32 q, calls := cW q, unroll := false } : HT) 0 4000 (.inl (loopC (loopC (bodyOf Try.f36) 0) 0)) [] (lb32 q)) = some (St.mk 67 [(0, AV.lst (gL q.g)), (7, AV.lst (List.map (AV.int IntKind.i64) q.d)), (8, AV.sl 0 0 q.p.length), (9, AV.int IntKind.i64 (iN q.v)), (10, AV.int IntKind.i64 (IntKind.i64.wrap (iN q.i - 1 - 1)))] [some (Blk.mk (List.map (AV.int IntKind.i64) q.p) 1 true true)], ((((True ∧ True) ∧ ((True ∧ True) ∧ ((True ∧ True) ∧ (((type_of% h1) ∧ (True ∧ True)) ∧ (((type_of% h1) ∧ (True ∧ True)) ∧ (((type_of% h1) ∧ (True ∧ (True ∧ ((type_of% h2) ∧ (type_of% h3))))) ∧ (((type_of% h1) ∧ (True ∧ True)) ∧ (((type_of% h1) ∧ (True ∧ True)) ∧ (((type_of% h1) ∧ (True ∧ True)) ∧ True))))))))) ∧ ((type_of% h4) ∧ (((True ∧ True) ∧ ((True ∧ True) ∧ ((True ∧ (True ∧ ((type_of% h2) ∧ (type_of% h5)))) ∧ ((True ∧ True) ∧ ((True ∧ True) ∧ ((True ∧ (True ∧ ((type_of% h6) ∧ (type_of% h7)))) ∧ ((True ∧ True) ∧ ((True ∧ True) ∧ True)))))))) ∧ (((True ∧ True) ∧ ((True ∧ True) ∧ ((True ∧ (True ∧ ((type_of% h8) ∧ (type_of% h9)))) ∧ ((True ∧ True) ∧ ((True ∧ True) ∧ ((True ∧ True) ∧ ((True ∧ (True ∧ ((type_of% h2) ∧ (type_of% h3)))) ∧ ((True ∧ True) ∧ ((True ∧ True) ∧ ((True ∧ (True ∧ True)) ∧ True)))))))))) ∧ ((type_of% h10) ∧ (((True ∧ True) ∧ ((True ∧ True) ∧ ((True ∧ True) ∧ True))) ∧ True)))))) ∧ (True ∧ (True ∧ (True ∧ (True ∧ (True ∧ (True ∧ True)))))))) by kernel_rfl) ⟨⟨⟨⟨trivial, trivial⟩, ⟨⟨trivial, trivial⟩, ⟨⟨trivial, trivial⟩, ⟨⟨h1, ⟨trivial, trivial⟩⟩, ⟨⟨h1, ⟨trivial, trivial⟩⟩, ⟨⟨h1, ⟨trivial, ⟨trivial, ⟨h2, h3⟩⟩⟩⟩, ⟨⟨h1, ⟨trivial, trivial⟩⟩, ⟨⟨h1, ⟨trivial, trivial⟩⟩, ⟨⟨h1, ⟨trivial, trivial⟩⟩, trivial⟩⟩⟩⟩⟩⟩⟩⟩⟩, ⟨h4, ⟨⟨⟨trivial, trivial⟩, ⟨⟨trivial, trivial⟩, ⟨⟨trivial, ⟨trivial, ⟨h2, h5⟩⟩⟩, ⟨⟨trivial, trivial⟩, ⟨⟨trivial, trivial⟩, ⟨⟨trivial, ⟨trivial, ⟨h6, h7⟩⟩⟩, ⟨⟨trivial, trivial⟩, ⟨⟨trivial, trivial⟩, trivial⟩⟩⟩⟩⟩⟩⟩⟩, ⟨⟨⟨trivial, trivial⟩, ⟨⟨trivial, trivial⟩, ⟨⟨trivial, ⟨trivial, ⟨h8, h9⟩⟩⟩, ⟨⟨trivial, trivial⟩, ⟨⟨trivial, trivial⟩, ⟨⟨trivial, trivial⟩, ⟨⟨trivial, ⟨trivial, ⟨h2, h3⟩⟩⟩, ⟨⟨trivial, trivial⟩, ⟨⟨trivial, trivial⟩, ⟨⟨trivial, ⟨trivial, trivial⟩⟩, trivial⟩⟩⟩⟩⟩⟩⟩⟩⟩⟩, ⟨h10, ⟨⟨⟨trivial, trivial⟩, ⟨⟨trivial, trivial⟩, ⟨⟨trivial, trivial⟩, trivial⟩⟩⟩, trivial⟩⟩⟩⟩⟩⟩, ⟨trivial, ⟨trivial, ⟨trivial, ⟨trivial, ⟨trivial, ⟨trivial, trivial⟩⟩⟩⟩⟩⟩⟩ hR
theorem rf_0 (q : QK) (h1 : (CT Try.prog 32 [] [AV.lst (gL q.g), AV.lst (boL q.s), AV.int IntKind.i64 (iN q.w)] [] (AV.lst (List.map (AV.int IntKind.i64) q.d)))) (h2 : (0 ≤ iN q.v)) (h3 : ((List.map (AV.int IntKind.i64) q.d)[(iN q.v).toNat]? = some (AV.int IntKind.i64 q.x))) (h4 : (decide (q.x < 0) = false)) (h5 : (CT Try.prog 36 [] [AV.lst (gL q.g), AV.lst (boL q.s), AV.int IntKind.i64 (iN q.w)] [] (AV.lst (List.map (AV.int IntKind.i64) q.p)))) {post : Exit → St → Prop} (ht : T Try.prog 0 (.loop (loopC (bodyOf Try.f33) 0)) (St.mk 37 [(2, AV.int IntKind.i64 (iN q.v)), (3, AV.int IntKind.i64 (iN q.w)), (9, AV.lst (List.map (AV.int IntKind.i64) q.p)), (10, AV.sl 0 0 1)] [some (Blk.mk [AV.int IntKind.i64 (iN q.v)] 1 true true)]) (TK Try.prog 0 post (loopK (bodyOf Try.f33) 0))) : ∃ o' st' q', go Try.prog ({ dec := [(18, false)], els := e34 q, calls := cW q, unroll := false } : HT) 0 4000 (.inl (bodyOf Try.f33)) [] (st34 q) = some (o', st', q') ∧ q' ∧ Go.AX.Rest Try.prog 0 post st' o' :=
  endR_spec (σ := [0]) (fz := []) (vars := [2,3,9,10]) (show endR 0 [0] [] [2,3,9,10] (go Try.prog ({ dec := [(18, false)], els := e34 q, calls := cW q, unroll := false } : HT) 0 4000 (.inl (bodyOf Try.f33)) [] (st34 q)) = some (loopC (bodyOf Try.f33) 0, loopK (bodyOf Try.f33) 0, St.mk 37 [(2, AV.int IntKind.i64 (iN q.v)), (3, AV.int IntKind.i64 (iN q.w)), (9, AV.lst (List.map (AV.int IntKind.i64) q.p)), (10, AV.sl 0 0 1)] [some (Blk.mk [AV.int IntKind.i64 (iN q.v)] 1 true true)], (((True ∧ True) ∧ (((True ∧ True) ∧ ((True ∧ True) ∧ ((True ∧ True) ∧ ((True ∧ (True ∧ (True ∧ (True ∧ (True ∧ (True ∧ ((type_of% h1) ∧ True))))))) ∧ ((True ∧ True) ∧ ((True ∧ (True ∧ ((type_of% h2) ∧ (type_of% h3)))) ∧ ((True ∧ True) ∧ ((True ∧ True) ∧ True)))))))) ∧ ((type_of% h4) ∧ (((True ∧ True) ∧ ((True ∧ True) ∧ ((True ∧ True) ∧ ((True ∧ (True ∧ (True ∧ (True ∧ (True ∧ (True ∧ ((type_of% h5) ∧ True))))))) ∧ ((True ∧ True) ∧ True))))) ∧ (((True ∧ True) ∧ ((True ∧ True) ∧ ((True ∧ True) ∧ True))) ∧ True))))) ∧ (True ∧ (True ∧ (True ∧ (True ∧ (True ∧ True))))))) by kernel_rfl) ⟨⟨⟨trivial, trivial⟩, ⟨⟨⟨trivial, trivial⟩, ⟨⟨trivial, trivial⟩, ⟨⟨trivial, trivial⟩, ⟨⟨trivial, ⟨trivial, ⟨trivial, ⟨trivial, ⟨trivial, ⟨trivial, ⟨h1, trivial⟩⟩⟩⟩⟩⟩⟩, ⟨⟨trivial, trivial⟩, ⟨⟨trivial, ⟨trivial, ⟨h2, h3⟩⟩⟩, ⟨⟨trivial, trivial⟩, ⟨⟨trivial, trivial⟩, trivial⟩⟩⟩⟩⟩⟩⟩⟩, ⟨h4, ⟨⟨⟨trivial, trivial⟩, ⟨⟨trivial, trivial⟩, ⟨⟨trivial, trivial⟩, ⟨⟨trivial, ⟨trivial, ⟨trivial, ⟨trivial, ⟨trivial, ⟨trivial, ⟨h5, trivial⟩⟩⟩⟩⟩⟩⟩, ⟨⟨trivial, trivial⟩, trivial⟩⟩⟩⟩⟩, ⟨⟨⟨trivial, trivial⟩, ⟨⟨trivial, trivial⟩, ⟨⟨trivial, trivial⟩, trivial⟩⟩⟩, trivial⟩⟩⟩⟩⟩, ⟨trivial, ⟨trivial, ⟨trivial, ⟨trivial, ⟨trivial, trivial⟩⟩⟩⟩⟩⟩ ht
theorem rfn_0 (q : QK) (h1 : (CT Try.prog 32 [] [AV.lst (gL q.g), AV.lst (boL q.s), AV.int IntKind.i64 (iN q.w)] [] (AV.lst (List.map (AV.int IntKind.i64) q.d)))) (h2 : (0 ≤ iN q.v)) (h3 : ((List.map (AV.int IntKind.i64) q.d)[(iN q.v).toNat]? = some (AV.int IntKind.i64 q.x))) (h4 : (decide (q.x < 0) = true)) : ∃ o' st' q', go Try.prog ({ dec := [(18, true)], els := e34 q, calls := cW q, unroll := false } : HT) 0 4000 (.inl (bodyOf Try.f33)) [] (st34 q) = some (o', st', q') ∧ q' ∧ Go.AX.Rest Try.prog 0 (Fin Try.prog Try.f33 0 [] (AV.nils)) st' o' :=
  endF_spec (σ := []) (fz := []) (show endF Try.prog Try.f33 0 [] [] (go Try.prog ({ dec := [(18, true)], els := e34 q, calls := cW q, unroll := false } : HT) 0 4000 (.inl (bodyOf Try.f33)) [] (st34 q)) = some ([], AV.nils, (((True ∧ True) ∧ (((True ∧ True) ∧ ((True ∧ True) ∧ ((True ∧ True) ∧ ((True ∧ (True ∧ (True ∧ (True ∧ (True ∧ (True ∧ ((type_of% h1) ∧ True))))))) ∧ ((True ∧ True) ∧ ((True ∧ (True ∧ ((type_of% h2) ∧ (type_of% h3)))) ∧ ((True ∧ True) ∧ ((True ∧ True) ∧ True)))))))) ∧ ((type_of% h4) ∧ ((True ∧ True) ∧ True)))) ∧ (True ∧ True))) by kernel_rfl) ⟨⟨⟨trivial, trivial⟩, ⟨⟨⟨trivial, trivial⟩, ⟨⟨trivial, trivial⟩, ⟨⟨trivial, trivial⟩, ⟨⟨trivial, ⟨trivial, ⟨trivial, ⟨trivial, ⟨trivial, ⟨trivial, ⟨h1, trivial⟩⟩⟩⟩⟩⟩⟩, ⟨⟨trivial, trivial⟩, ⟨⟨trivial, ⟨trivial, ⟨h2, h3⟩⟩⟩, ⟨⟨trivial, trivial⟩, ⟨⟨trivial, trivial⟩, trivial⟩⟩⟩⟩⟩⟩⟩⟩, ⟨h4, ⟨⟨trivial, trivial⟩, trivial⟩⟩⟩⟩, ⟨trivial, trivial⟩⟩
theorem rfex_0 (q : QK) (h1 : ((iN q.v != iN q.w) = false)) (h2 : (q.i + 1 = (List.map (AV.int IntKind.i64) q.r).length)) : ∃ o' st' q', go2 Try.prog ({ dec := [(27, false)], els := e34 q, calls := cW q, unroll := false } : HT) 0 4000 (loopC (bodyOf Try.f33) 0) (loopK (bodyOf Try.f33) 0) (lo34 q) = some (o', st', q') ∧ q' ∧ Go.AX.Rest Try.prog 0 (Fin Try.prog Try.f33 0 [] (AV.lst (List.map (AV.int IntKind.i64) q.r))) st' o' :=
  endF_spec (σ := []) (fz := [0]) (show endF Try.prog Try.f33 0 [] [0] (go2 Try.prog ({ dec := [(27, false)], els := e34 q, calls := cW q, unroll := false } : HT) 0 4000 (loopC (bodyOf Try.f33) 0) (loopK (bodyOf Try.f33) 0) (lo34 q)) = some ([], AV.lst (List.map (AV.int IntKind.i64) q.r), (((((True ∧ True) ∧ ((True ∧ True) ∧ ((True ∧ (True ∧ True)) ∧ True))) ∧ ((type_of% h1) ∧ True)) ∧ (((True ∧ True) ∧ ((True ∧ True) ∧ True)) ∧ True)) ∧ ((type_of% h2) ∧ True))) by kernel_rfl) ⟨⟨⟨⟨⟨trivial, trivial⟩, ⟨⟨trivial, trivial⟩, ⟨⟨trivial, ⟨trivial, trivial⟩⟩, trivial⟩⟩⟩, ⟨h1, trivial⟩⟩, ⟨⟨⟨trivial, trivial⟩, ⟨⟨trivial, trivial⟩, trivial⟩⟩, trivial⟩⟩, ⟨h2, trivial⟩⟩
theorem rfe_0 (q : QK) (h1 : ((iN q.v != iN q.w) = true)) (h2 : (0 ≤ iN q.v)) (h3 : ((List.map (AV.int IntKind.i64) q.p)[(iN q.v).toNat]? = some (AV.int IntKind.i64 (iN q.a)))) (h4 : ((List.map (AV.int IntKind.i64) q.r).length = q.i + 1)) (h5 : (1 ≤ [AV.int IntKind.i64 (iN q.a)].length)) (h6 : ((List.map (AV.int IntKind.i64) q.r).length + [AV.int IntKind.i64 (iN q.a)].length ≤ 9223372036854775807)) (h7 : (((List.map (AV.int IntKind.i64) q.r).length + [AV.int IntKind.i64 (iN q.a)].length) * 8 ≤ 140737488355328)) {post : Exit → St → Prop} {R : St → Prop} (hR : ∀ st, Ren 0 st (St.mk 37 [(2, AV.int IntKind.i64 (iN q.a)), (3, AV.int IntKind.i64 (iN q.w)), (9, AV.lst (List.map (AV.int IntKind.i64) q.p)), (10, AV.sl 0 0 ((List.map (AV.int IntKind.i64) q.r).length + [AV.int IntKind.i64 (iN q.a)].length))] [some (Blk.mk (List.map (AV.int IntKind.i64) q.r ++ [AV.int IntKind.i64 (iN q.a)]) 1 true true)]) → R st) : ∃ o' st' q', go Try.prog ({ dec := [(27, true)], els := e34 q, calls := cW q, unroll := false } : HT) 0 4000 (.inl (loopC (bodyOf Try.f33) 0)) [] (lo34 q) = some (o', st', q') ∧ q' ∧ Go.AX.Rest Try.prog 0 (andThen R post) st' o' :=
  endN_spec (σ := [2]) (fz := []) (vars := [2,3,9,10]) (show endN 0 [2] [] [2,3,9,10] (go Try.prog ({ dec := [(27, true)], els := e34 q, calls := cW q, unroll := false } : HT) 0 4000 (.inl (loopC (bodyOf Try.f33) 0)) [] (lo34 q)) = some (St.mk 37 [(2, AV.int IntKind.i64 (iN q.a)), (3, AV.int IntKind.i64 (iN q.w)), (9, AV.lst (List.map (AV.int IntKind.i64) q.p)), (10, AV.sl 0 0 ((List.map (AV.int IntKind.i64) q.r).length + [AV.int IntKind.i64 (iN q.a)].length))] [some (Blk.mk (List.map (AV.int IntKind.i64) q.r ++ [AV.int IntKind.i64 (iN q.a)]) 1 true true)], ((((True ∧ True) ∧ ((True ∧ True) ∧ ((True ∧ (True ∧ True)) ∧ True))) ∧ ((type_of% h1) ∧ (((True ∧ True) ∧ ((True ∧ True) ∧ ((True ∧ (True ∧ ((type_of% h2) ∧ (type_of% h3)))) ∧ ((True ∧ True) ∧ ((True ∧ True) ∧ True))))) ∧ (((True ∧ True) ∧ ((True ∧ True) ∧ ((True ∧ True) ∧ ((True ∧ (True ∧ ((type_of% h4) ∧ (((nat_lit 1 = nat_lit 1) ∧ (type_of% h5)) ∧ ((type_of% h6) ∧ (type_of% h7)))))) ∧ ((True ∧ True) ∧ True))))) ∧ True)))) ∧ (True ∧ (True ∧ (True ∧ (True ∧ (True ∧ True))))))) by kernel_rfl) ⟨⟨⟨⟨trivial, trivial⟩, ⟨⟨trivial, trivial⟩, ⟨⟨trivial, ⟨trivial, trivial⟩⟩, trivial⟩⟩⟩, ⟨h1, ⟨⟨⟨trivial, trivial⟩, ⟨⟨trivial, trivial⟩, ⟨⟨trivial, ⟨trivial, ⟨h2, h3⟩⟩⟩, ⟨⟨trivial, trivial⟩, ⟨⟨trivial, trivial⟩, trivial⟩⟩⟩⟩⟩, ⟨⟨⟨trivial, trivial⟩, ⟨⟨trivial, trivial⟩, ⟨⟨trivial, trivial⟩, ⟨⟨trivial, ⟨trivial, ⟨h4, ⟨⟨(by first | decide | exact Int.NonNeg.mk _), h5⟩, ⟨h6, h7⟩⟩⟩⟩⟩, ⟨⟨trivial, trivial⟩, trivial⟩⟩⟩⟩⟩, trivial⟩⟩⟩⟩, ⟨trivial, ⟨trivial, ⟨trivial, ⟨trivial, ⟨trivial, trivial⟩⟩⟩⟩⟩⟩ hR
end Go.Proofs.Ytcdgphdieemjcaa

/-! Contracts. -/
open Go Go.AX Go.Proofs
set_option maxRecDepth 100000
set_option maxHeartbeats 1000000
set_option linter.unusedVariables false
set_option linter.unusedSimpArgs false
namespace Go.Proofs.Ytcdgphdieemjcaa
theorem Lev.occ {g : List (List Int)} {s : List Bool} (hg : OkG g s) {goal k : Nat} {d : List Int} (h : Lev g s goal k d) {v m : Nat} (hv : v < g.length) (hm : d.getD v 0 = (m : Int)) : ∀ j, j ≤ m → ((m - j : Nat) : Int) ∈ d := by
  have occ : ∀ j, j ≤ m → ∃ u, u < g.length ∧ d.getD u 0 = ((m - j : Nat) : Int) := by
    intro j
    induction j with
    | zero => intro _; exact ⟨v, hv, by rw [hm]; rfl⟩
    | succ j ih =>
      intro hj
      obtain ⟨u, hu, he⟩ := ih (by omega)
      rcases h.back u hu (by omega) with rfl | ⟨_, w, hw, h1, h2⟩
      · rw [h.zero] at he; omega
      · have := (hg.row u hu).2 w hw
        exact ⟨w.toNat, by omega, by omega⟩
  intro j hj
  obtain ⟨u, hu, he⟩ := occ j hj
  rw [← he, List.getD_eq_getElem?_getD, List.getElem?_eq_getElem (by rw [h.len]; exact hu)]
  exact List.getElem_mem _

/-- The last round changes nothing. -/
theorem last_round {g : List (List Int)} {s : List Bool} (hg : OkG g s) {goal k : Nat} (hk : k + 1 = g.length) {d : List Int} (h : Lev g s goal k d) : roundL g s d k = d := by
  apply List.ext_getElem (by rw [roundL_len])
  intro v h1 h2
  have hv : v < g.length := by rw [← h.len]; exact h2
  have e := round_get hg d h.len k v hv
  rw [List.getD_eq_getElem?_getD, List.getElem?_eq_getElem h1] at e
  have e2 : d.getD v 0 = d[v] := by rw [List.getD_eq_getElem?_getD, List.getElem?_eq_getElem h2]; rfl
  show (roundL g s d k)[v] = d[v]
  rw [← e2]
  refine Eq.trans e ?_
  unfold rdV
  by_cases c1 : s.getD v false = true
  · rw [if_pos c1]
  · rw [if_neg c1]
    by_cases c2 : 0 ≤ d.getD v 0
    · rw [if_pos c2]
    · rw [if_neg c2]
      by_cases c3 : ((g.getD v []).any fun w => d.getD w.toNat 0 == (k : Int)) = true
      · exfalso
        obtain ⟨w, hw, he⟩ := List.any_eq_true.1 c3
        have hwr := (hg.row v hv).2 w hw
        have occ := h.occ hg (v := w.toNat) (m := k) (by omega) (by simpa using he)
        have hb := (h.bnd v hv).1
        have hneg : (-1 : Int) ∈ d := by
          have : d.getD v 0 = -1 := by omega
          rw [← this, e2]; exact List.getElem_mem _
        have nd : ((-1 : Int) :: (List.range (k + 1)).map (fun j : Nat => (j : Int))).Nodup := by
          refine List.nodup_cons.2 ⟨fun hm => ?_, List.pairwise_map.2 ((List.nodup_range (n := k + 1)).imp fun hne e => hne (Int.ofNat_inj.1 e))⟩
          obtain ⟨j, _, hj⟩ := List.mem_map.1 hm
          omega
        have := nodup_len nd fun x hx => by
          rcases List.mem_cons.1 hx with rfl | hx
          · exact hneg
          · obtain ⟨j, hj, rfl⟩ := List.mem_map.1 hx
            have hj := List.mem_range.1 hj
            have := occ (k - j) (by omega)
            rwa [show k - (k - j) = j by omega] at this
        simp only [List.length_cons, List.length_map, List.length_range, h.len] at this
        omega
      · rw [if_neg c3]

theorem dist_eq {g : List (List Int)} {s : List Bool} (hg : OkG g s) {goal : Nat} (hgo : goal < g.length) : distL g s goal (g.length - 1) = distL g s goal g.length := by
  unfold distL
  by_cases hs : s.getD goal false = true
  · rw [if_pos hs, if_pos hs]
  · rw [if_neg hs, if_neg hs]
    obtain ⟨k, hk⟩ : ∃ k, k + 1 = g.length := ⟨g.length - 1, by omega⟩
    rw [← hk, Nat.add_sub_cancel, range_fold]
    exact (last_round hg hk (Lev.run hg hgo k)).symm

theorem fnd_false {p : Nat → Bool} : ∀ {n s : Nat}, (∀ i, s ≤ i → i < s + n → p i = false) → fnd p s n = none := by
  intro n
  induction n with
  | zero => intro s _; rfl
  | succ n ih => intro s h; rw [fnd, h s (Nat.le_refl _) (by omega)]; exact ih fun i h1 h2 => h i (by omega) (by omega)
theorem fnd_some {p : Nat → Bool} : ∀ {n s j : Nat}, fnd p s n = some j → p j = true ∧ s ≤ j ∧ j < s + n := by
  intro n
  induction n with
  | zero => intro s j h; cases h
  | succ n ih =>
    intro s j h
    rw [fnd] at h
    cases hp : p s with
    | true => rw [hp] at h; cases h; exact ⟨hp, Nat.le_refl _, by omega⟩
    | false => rw [hp] at h; obtain ⟨a, b, c⟩ := ih h; exact ⟨a, by omega, by omega⟩

/-- A hop is one step nearer. -/
theorem hop_ok {g : List (List Int)} {s : List Bool} (hg : OkG g s) {goal : Nat} {d : List Int} (hD : Dst g s goal d) {u : Nat} (hu : u < g.length) (h0 : 0 < d.getD u 0) (hgd : s.getD goal false = false) : 0 ≤ hopZ g d u ∧ hopZ g d u < (g.length : Int) ∧ d.getD (hopZ g d u).toNat 0 = d.getD u 0 - 1 := by
  unfold hopZ
  cases hf : fnd (hopP g d u) 0 (g.getD u []).length with
  | some i =>
    obtain ⟨a, _, b⟩ := fnd_some hf
    obtain ⟨w, hw, hw1, _⟩ := row_get hg hu (i := i) (by omega)
    unfold hopP at a
    simp only [Bool.and_eq_true, decide_eq_true_eq, beq_iff_eq] at a
    show 0 ≤ (g.getD u []).getD i 0 ∧ (g.getD u []).getD i 0 < (g.length : Int) ∧ d.getD ((g.getD u []).getD i 0).toNat 0 = _
    exact ⟨by omega, by omega, a.2⟩
  | none =>
    exfalso
    rcases hD.back u hu (by omega) with rfl | ⟨_, w, hw, h1, h2⟩
    · rw [hD.zero hgd] at h0; omega
    · obtain ⟨i, hi, rfl⟩ := List.mem_iff_getElem.1 hw
      have hn := fnd_none hf i (Nat.zero_le _) (by omega)
      have e : (g.getD u []).getD i 0 = (g.getD u [])[i] := by rw [List.getD_eq_getElem?_getD (l := g.getD u []), List.getElem?_eq_getElem hi]; rfl
      unfold hopP at hn
      rw [e, decide_eq_true h0, Bool.true_and] at hn
      have : d.getD ((g.getD u [])[i]).toNat 0 = d.getD u 0 - 1 := by omega
      rw [this] at hn
      simp at hn

theorem wk_ok {g : List (List Int)} {s : List Bool} (hg : OkG g s) {goal : Nat} (hgo : goal < g.length) {d : List Int} (hD : Dst g s goal d) {a m : Nat} (ha : a < g.length) (hm : d.getD a 0 = (m : Int)) (hgd : s.getD goal false = false) :
    ∀ k, k ≤ m → 0 ≤ wkZ g d a k ∧ wkZ g d a k < (g.length : Int) ∧ d.getD (wkZ g d a k).toNat 0 = ((m - k : Nat) : Int) := by
  intro k
  induction k with
  | zero => intro _; exact ⟨by simp [wkZ], by simp only [wkZ]; omega, by simp only [wkZ, Int.toNat_natCast]; rw [hm]; rfl⟩
  | succ k ih =>
    intro hk
    obtain ⟨h1, h2, h3⟩ := ih (by omega)
    obtain ⟨g1, g2, g3⟩ := hop_ok hg hD (u := (wkZ g d a k).toNat) (by omega) (by omega) hgd
    exact ⟨g1, g2, by rw [wkZ, g3, h3]; omega⟩

/-- Only the goal has distance zero. -/
theorem zero_goal {g : List (List Int)} {s : List Bool} {goal : Nat} {d : List Int} (hD : Dst g s goal d) {v : Nat} (hv : v < g.length) (h0 : d.getD v 0 = 0) : v = goal := by
  rcases hD.back v hv (by omega) with e | ⟨_, w, _, h1, h2⟩
  · exact e
  · omega
end Go.Proofs.Ytcdgphdieemjcaa

/-! Contracts. -/
open Go Go.AX Go.Proofs
set_option maxRecDepth 100000
set_option maxHeartbeats 1000000
set_option linter.unusedVariables false
set_option linter.unusedSimpArgs false
namespace Go.Proofs.Ytcdgphdieemjcaa
theorem wrapM (far : Nat) (h : far < 1000000) : IntKind.i64.wrap (iN (far + 1) - 1) = (far : Int) := by
  have e1 : (2 : Int) ^ IntKind.i64.bits = 18446744073709551616 := by decide
  have e2 : (2 : Int) ^ (IntKind.i64.bits - 1) = 9223372036854775808 := by decide
  have e3 : IntKind.i64.signed = true := by decide
  simp only [IntKind.wrap, e1, e2, e3, Bool.true_and, decide_eq_true_eq, iN]
  split <;> omega

theorem rc_run {g : List (List Int)} {s : List Bool} (hg : OkG g s) (goal far v : Nat) (d : List Int) (hd : d.length = g.length) (hf : far < 1000) (hv : v < g.length) {R : St → Prop} {post : Exit → St → Prop}
    (hR : ∀ st, Ren 0 st (lb30 (qd g s goal (edgesL (g.getD v []) v far d) far (v + 1) 0 [])) → R st) :
    T Try.prog 0 (.loop (loopC (loopC (loopC (bodyOf Try.f32) 1) 0) 0)) (lc30 (qd g s goal d far v 0 (g.getD v []))) (TK Try.prog 0 (andThen R post) (loopK (loopC (loopC (bodyOf Try.f32) 1) 0) 0)) := by
  obtain ⟨hr1, hr2⟩ := hg.row v hv
  have hgl := hg.len
  have hrow := gL_get hv
  generalize g.getD v [] = r at hR hr1 hr2 hrow
  have hrl := lI_len r
  refine T.loop (fun i : Nat => lc30 (qd g s goal ((r.take i).foldl (edgeF v far) d) far v i r)) (fun i => i ≤ r.length) (fun i => r.length + 1 - i) 0 (Nat.zero_le _) ?_
  intro i hi
  have hdl : ((r.take i).foldl (edgeF v far) d).length = g.length := by rw [foldl_len (edgeF_len v far), hd]
  by_cases h : i < r.length
  · obtain ⟨w0, w1, _⟩ := hr2 r[i] (List.getElem_mem h)
    obtain ⟨w, hw⟩ : ∃ w : Nat, r[i] = (w : Int) := ⟨r[i].toNat, by omega⟩
    have hwn : w < g.length := by omega
    have hget : (r.map (AV.int .i64))[i]? = some (.int .i64 (w : Int)) := by rw [List.getElem?_map, List.getElem?_eq_getElem h, hw]; rfl
    have hstep := take_fold (edgeF v far) r d i h
    generalize hdd : (r.take i).foldl (edgeF v far) d = d' at hdl hstep
    rw [hw] at hstep
    have hml := lI_len d'
    by_cases he : (d'.getD w 0 == (far : Int)) = true
    · refine T.path mix (rcr_0 ⟨g, s, goal, g.length, d', far, v, i, r, w, false, d'.getD w 0⟩ (by simp [iN]) hrow (decide_eq_true (by simp only [iN, hrl]; omega)) (by simp [iN]) hget (by simp [iN]) (by simp [iN]; omega) (lI_get0 (l := d') (j := w) (by omega)) (by simp only [wrapM far (show far < 1000000 by omega)]; exact he) (by simp [iN]; omega) (by simp [iN, hml]; omega) ?_)
      intro st hst
      refine ⟨i + 1, ?_, h, by omega⟩
      have e : edgeF v far d' ((w : Nat) : Int) = d'.set v ((far + 1 : Nat) : Int) := by unfold edgeF; rw [Int.toNat_natCast, if_pos he]
      rw [hstep, e]
      simp only [iN, Int.toNat_natCast, wrap_nat i (show i < 9223372036854775807 by omega)] at hst
      rw [map_set] at hst
      exact hst
    · have hne := he
      have he := Bool.eq_false_iff.2 he
      refine T.path mix (rcr_1 ⟨g, s, goal, g.length, d', far, v, i, r, w, false, d'.getD w 0⟩ (by simp [iN]) hrow (decide_eq_true (by simp only [iN, hrl]; omega)) (by simp [iN]) hget (by simp [iN]) (by simp [iN]; omega) (lI_get0 (l := d') (j := w) (by omega)) (by simp only [wrapM far (show far < 1000000 by omega)]; exact he) ?_)
      intro st hst
      refine ⟨i + 1, ?_, h, by omega⟩
      have e : edgeF v far d' ((w : Nat) : Int) = d' := by unfold edgeF; rw [Int.toNat_natCast, if_neg hne]
      rw [hstep, e]
      simp only [iN, wrap_nat i (show i < 9223372036854775807 by omega)] at hst
      exact hst
  · have hti : r.take i = r := List.take_of_length_le (by omega)
    refine T.out mix (rcx_0 (qd g s goal ((r.take i).foldl (edgeF v far) d) far v i r) (by simp [iN]) hrow (decide_eq_false (by simp only [iN, qd, hrl]; omega)) ?_)
    intro st hst
    refine hR st ?_
    rw [hti] at hst
    simp only [iN, qd, wrap_nat v (show v < 9223372036854775807 by omega)] at hst
    exact hst

theorem rb_run {g : List (List Int)} {s : List Bool} (hg : OkG g s) (goal far : Nat) (d : List Int) (hd : d.length = g.length) (hf : far < 1000) {R : St → Prop} {post : Exit → St → Prop}
    (hR : ∀ st, Ren 0 st (la30 (qd g s goal (roundL g s d far) (far + 1) 0 0 [])) → R st) :
    T Try.prog 0 (.loop (loopC (loopC (bodyOf Try.f32) 1) 0)) (lb30 (qd g s goal d far 0 0 [])) (TK Try.prog 0 (andThen R post) (loopK (loopC (bodyOf Try.f32) 1) 0)) := by
  have hgl := hg.len
  have hl := gL_len g
  refine T.loop (fun v : Nat => lb30 (qd g s goal ((List.range v).foldl (vertF g s far) d) far v 0 [])) (fun v => v ≤ g.length) (fun v => g.length + 1 - v) 0 (Nat.zero_le _) ?_
  intro v hv
  have hdl : ((List.range v).foldl (vertF g s far) d).length = g.length := by rw [foldl_len (vertF_len g s far), hd]
  by_cases h : v < g.length
  · have hstep := range_fold (vertF g s far) d v
    generalize (List.range v).foldl (vertF g s far) d = d' at hdl hstep
    have hb := boL_get (s := s) (v := v) (by rw [hg.sh]; exact h)
    have d1 : ∀ q : QD, q.g = g → q.v = v → decide (iN q.v < iN (gL q.g).length) = true := fun q e1 e2 => decide_eq_true (by rw [e1, e2]; simp only [iN, hl]; omega)
    have next : ∀ (d'' : List Int) (st : St), vertF g s far d' v = d'' → Ren 0 st (lb30 (qd g s goal d'' far (v + 1) 0 [])) → ∃ j, Ren 0 st (lb30 (qd g s goal ((List.range j).foldl (vertF g s far) d) far j 0 [])) ∧ j ≤ g.length ∧ g.length + 1 - j < g.length + 1 - v := by
      intro d'' st e hst
      refine ⟨v + 1, ?_, h, by omega⟩
      rw [hstep, e]; exact hst
    by_cases hs : s.getD v false = true
    · refine T.path mix (rbn_0 ⟨g, s, goal, g.length, d', far, v, 0, [], 0, s.getD v false, 0⟩ (d1 _ rfl rfl) (by simp [iN]) hb hs ?_)
      intro st hst
      simp only [iN, wrap_nat v (show v < 9223372036854775807 by omega)] at hst
      exact next d' st (by unfold vertF; rw [if_pos hs]) hst
    · by_cases hd0 : decide (0 ≤ d'.getD v 0) = true
      · refine T.path mix (rbn_1 ⟨g, s, goal, g.length, d', far, v, 0, [], 0, s.getD v false, d'.getD v 0⟩ (d1 _ rfl rfl) (by simp [iN]) hb (Bool.eq_false_iff.2 hs) (by simp [iN]; omega) (lI_get0 (l := d') (j := v) (by omega)) hd0 ?_)
        intro st hst
        simp only [iN, wrap_nat v (show v < 9223372036854775807 by omega)] at hst
        exact next d' st (by unfold vertF; rw [if_neg hs, if_pos hd0]) hst
      · refine T.path mix (rbi_0 ⟨g, s, goal, g.length, d', far, v, 0, g.getD v [], 0, s.getD v false, d'.getD v 0⟩ (d1 _ rfl rfl) (by simp [iN]) hb (Bool.eq_false_iff.2 hs) (by simp [iN]; omega) (lI_get0 (l := d') (j := v) (by omega)) (Bool.eq_false_iff.2 hd0) ?_)
        exact rc_run hg goal far v d' hdl hf h (R := fun st' => ∃ j, Ren 0 st' (lb30 (qd g s goal ((List.range j).foldl (vertF g s far) d) far j 0 [])) ∧ j ≤ g.length ∧ g.length + 1 - j < g.length + 1 - v) (post := TK Try.prog 0 (andThen R post) (loopK (loopC (bodyOf Try.f32) 1) 0)) fun st hst => next _ st (by unfold vertF; rw [if_neg hs, if_neg hd0]) hst
  · obtain rfl : v = g.length := by omega
    refine T.out mix (rbx_0 (qd g s goal ((List.range g.length).foldl (vertF g s far) d) far g.length 0 []) (decide_eq_false (by simp only [iN, qd, hl]; omega)) ?_)
    intro st hst
    refine hR st ?_
    simp only [iN, qd, wrap_nat (far + 1) (show far + 1 < 9223372036854775807 by omega)] at hst
    exact hst

theorem rdist_ct {g : List (List Int)} {s : List Bool} (hg : OkG g s) (goal : Nat) (hgo : goal < g.length) : CT Try.prog 32 [] [.lst (gL g), .lst (boL s), .int .i64 (goal : Nat)] [] (lI (distL g s goal (g.length - 1))) := by
  have hgl := hg.len
  have hl := gL_len g
  refine CT.path mix Try.func32 (show Try.f32.body = some (bodyOf Try.f32) by kernel_rfl) (Nat.le_of_ble_eq_true rfl) (ri_0 (qd g s goal [] 0 0 0 []) (Int.le_refl _) (by simp only [qd, iN, hl]; omega) (by simp only [qd, iN, hl]; omega) ?_)
  have hb := boL_get (s := s) (v := goal) (by rw [hg.sh]; exact hgo)
  have key : T Try.prog 0 (.loop (loopC (bodyOf Try.f32) 0)) (lf30 (qd g s goal (fillL g.length 0) 0 0 0 [])) (TK Try.prog 0 (Fin Try.prog Try.f32 0 [] (lI (distL g s goal (g.length - 1)))) (loopK (bodyOf Try.f32) 0)) := by
    refine T.loop (fun i : Nat => lf30 (qd g s goal (fillL g.length i) 0 0 i [])) (fun i => i ≤ g.length) (fun i => g.length + 1 - i) 0 (Nat.zero_le _) ?_
    intro i hi
    by_cases h : i < g.length
    · refine T.path mix (rfr_0 (qd g s goal (fillL g.length i) 0 0 i []) (decide_eq_true (by simp only [iN, qd, hl]; omega)) (by simp [iN]) (by simp [iN, qd]; omega) (by simp [iN, qd, fillL_len]; omega) ?_)
      intro st hst
      refine ⟨i + 1, ?_, h, by omega⟩
      simp only [iN, qd, Int.toNat_natCast, wrap_nat i (show i < 9223372036854775807 by omega)] at hst
      rw [map_set, fillL_set _ _ h] at hst
      exact hst
    · obtain rfl : i = g.length := by omega
      by_cases hs : s.getD goal false = true
      · have k := rfs_0 ⟨g, s, goal, g.length, fillL g.length g.length, 0, 0, g.length, [], 0, s.getD goal false, 0⟩ (decide_eq_false (by simp only [iN, hl]; omega)) (by simp [iN]) hb hs (by simp [fillL_len])
        have e : distL g s goal (g.length - 1) = fillL g.length g.length := by unfold distL; rw [if_pos hs, fillL_n]
        rw [e]
        exact T.out mix k
      · have e : distL g s goal (g.length - 1) = (List.range (g.length - 1)).foldl (roundL g s) (dist0 g goal) := by unfold distL; rw [if_neg hs]
        refine T.out mix (rfx_0 ⟨g, s, goal, g.length, fillL g.length g.length, 0, 0, g.length, [], 0, s.getD goal false, 0⟩ (decide_eq_false (by simp only [iN, hl]; omega)) (by simp [iN]) hb (Bool.eq_false_iff.2 hs) (by simp [iN]; omega) (by simp [iN, fillL_len]; omega) ?_)
        simp only [iN, Int.toNat_natCast]
        rw [map_set, fillL_n, e]
        refine T.loop (fun far : Nat => la30 (qd g s goal ((List.range far).foldl (roundL g s) (dist0 g goal)) far 0 0 [])) (fun far => far ≤ g.length - 1) (fun far => g.length + 1 - far) 0 (Nat.zero_le _) ?_
        intro far hfar
        have hdl : ((List.range far).foldl (roundL g s) (dist0 g goal)).length = g.length := by rw [foldl_len (roundL_len g s), dist0_len]
        by_cases hf : far < g.length - 1
        · refine T.path mix (rai_0 (qd g s goal ((List.range far).foldl (roundL g s) (dist0 g goal)) far 0 0 []) (decide_eq_true (by simp only [iN, qd, hl]; omega)) ?_)
          refine rb_run hg goal far _ hdl (by omega) fun st hst => ⟨far + 1, ?_, hf, by omega⟩
          rw [range_fold]; exact hst
        · obtain rfl : far = g.length - 1 := by omega
          exact T.out mix (rax_0 (qd g s goal ((List.range (g.length - 1)).foldl (roundL g s) (dist0 g goal)) (g.length - 1) 0 0 []) (decide_eq_false (by simp only [iN, qd, hl]; omega)) (by simp [qd, hdl]))
  unfold lf30 qd dB at key
  simp only [qd, hl, fillL_0]
  exact key
end Go.Proofs.Ytcdgphdieemjcaa

/-! Contracts. -/
open Go Go.AX Go.Proofs
set_option maxRecDepth 100000
set_option maxHeartbeats 1000000
set_option linter.unusedVariables false
set_option linter.unusedSimpArgs false
namespace Go.Proofs.Ytcdgphdieemjcaa
def qw (g : List (List Int)) (s : List Bool) (d : List Int) (v w i : Nat) (r p : List Int) (x y : Int) : QK := ⟨g, s, d, v, w, 0, i, r, x, y, false, 0, p, []⟩

theorem set_set' (l : List Int) (v : Nat) (a b : Int) : (l.set v a).set v b = l.set v b := by rw [List.set_set]

theorem rhb_run {g : List (List Int)} {s : List Bool} (hg : OkG g s) (d : List Int) (hd : d.length = g.length) (hsm : Small d) (v : Nat) (hv : v < g.length) {R : St → Prop} {post : Exit → St → Prop}
    (hR : ∀ st, Ren 0 st (la32 (qw g s d (v + 1) 0 0 [] (fillH g d (v + 1)) 0 0)) → R st) :
    T Try.prog 0 (.loop (loopC (loopC (bodyOf Try.f36) 0) 0)) (lb32 (qw g s d v 0 (g.getD v []).length (g.getD v []) ((fillH g d v).set v (-1)) 0 0)) (TK Try.prog 0 (andThen R post) (loopK (loopC (bodyOf Try.f36) 0) 0)) := by
  have hgl := hg.len
  have hr1 := (hg.row v hv).1
  have hrow := gL_get hv
  have hget := fun i => row_get hg hv (i := i)
  have hdv := hsm.get (v := v) (by omega)
  have hv1 := lI_get (l := d) (j := v) (by omega)
  have hz : hopZ g d v = hopR (g.getD v []) (fnd (hopP g d v) 0 (g.getD v []).length) := rfl
  have hP : ∀ i, hopP g d v i = (decide (0 < d.getD v 0) && (d.getD ((g.getD v []).getD i 0).toNat 0 == d.getD v 0 - 1)) := fun i => rfl
  have hfs := fillH_set g d v hv
  have hfl := fillH_len g d v
  generalize hopP g d v = pp at hz hP
  generalize g.getD v [] = r at hr1 hrow hget hP hz
  rw [hz] at hfs
  have fin : ∀ cur, cur = hopR r (fnd pp 0 r.length) → ∀ st, Ren 0 st (la32 (qw g s d (v + 1) 0 0 [] ((fillH g d v).set v cur) 0 0)) → R st := by
    intro cur hc st hst
    rw [hc, hfs] at hst
    exact hR st hst
  have lenS : ∀ cur : Int, ((fillH g d v).set v cur).length = g.length := by intro cur; simp [hfl]
  have wv : IntKind.i64.wrap (iN v + 1) = ((v + 1 : Nat) : Int) := wrap_nat v (by omega)
  refine T.loop (fun i : Nat => lb32 (qw g s d v 0 i r ((fillH g d v).set v (hopR r (fnd pp i (r.length - i)))) 0 0)) (fun i => i ≤ r.length) (fun i => i) r.length ?_ ?_ |> fun h => by
    simpa [fnd, hopR] using h
  · exact Nat.le_refl _
  intro i hi
  by_cases h0 : 0 < i
  · have hik : decide (0 ≤ iN i - 1) = true := decide_eq_true (by simp only [iN]; omega)
    by_cases hp : 0 < d.getD v 0
    · obtain ⟨w, hw, hw1, hw2⟩ := hget (i - 1) (by omega)
      have hg1 := lI_get (l := r) (j := i - 1) (by omega)
      rw [hw] at hg1
      have hidx : (iN i - 1).toNat = i - 1 := by simp only [iN]; omega
      have hw3 := lI_get (l := d) (j := w) (by omega)
      have hpi := hP (i - 1)
      rw [hw, Int.toNat_natCast, decide_eq_true hp, Bool.true_and] at hpi
      obtain ⟨m, hm⟩ : ∃ m : Nat, d.getD v 0 = (m : Int) := ⟨(d.getD v 0).toNat, by omega⟩
      have hwr : IntKind.i64.wrap (d.getD v 0 - 1) = d.getD v 0 - 1 := by rw [hm, wrapM1 m (by omega) (by omega)]; omega
      have hwi : IntKind.i64.wrap (iN i - 1 - 1) = iN (i - 1) - 1 := by
        by_cases h1 : 1 < i
        · have := wrapM1 (i - 1) (by omega) (by omega)
          have e : iN i - 1 - 1 = ((i - 1 : Nat) : Int) - 1 := by simp only [iN]; omega
          rw [e, this]; simp only [iN]; omega
        · obtain rfl : i = 1 := by omega
          exact wrapS _ (by decide) (by decide)
      have hf : fnd pp (i - 1) (r.length - (i - 1)) = (match pp (i - 1) with | true => some (i - 1) | false => fnd pp i (r.length - i)) := by
        have := fnd_step (p := pp) (s := i - 1) (k := r.length) (by omega)
        rwa [show i - 1 + 1 = i by omega] at this
      by_cases he : (d.getD w 0 == d.getD v 0 - 1) = true
      · rw [he] at hpi
        refine T.path mix (rhbr_0 ⟨g, s, d, v, w, 0, i, r, d.getD v 0, d.getD w 0, false, 0, (fillH g d v).set v (hopR r (fnd pp i (r.length - i))), []⟩ hik (by simp [iN]) hv1 (decide_eq_true hp) hrow (by simp only [iN]; omega) (by simp only [hidx]; exact hg1) (by simp [iN]) hw3 (by simp only [hwr]; exact he) (by simp [iN, hfl]; omega) (by simp [iN, hfl]; omega) ?_)
        intro st hst
        refine ⟨i - 1, ?_, by omega, by omega⟩
        simp only [iN, Int.toNat_natCast] at hst hwi
        rw [hwi, map_set, set_set'] at hst
        rw [hf, hpi]
        simp only [List.length_set] at hst
        unfold lb32 qw
        simp only [List.length_set]
        show Ren 0 st { n := _, fr := _, hp := [some (dB ((fillH g d v).set v (r.getD (i - 1) 0)))] }
        rw [hw]
        exact hst
      · have he := Bool.eq_false_iff.2 he
        rw [he] at hpi
        refine T.path mix (rhbr_1 ⟨g, s, d, v, w, 0, i, r, d.getD v 0, d.getD w 0, false, 0, (fillH g d v).set v (hopR r (fnd pp i (r.length - i))), []⟩ hik (by simp [iN]) hv1 (decide_eq_true hp) hrow (by simp only [iN]; omega) (by simp only [hidx]; exact hg1) (by simp [iN]) hw3 (by simp only [hwr]; exact he) ?_)
        intro st hst
        refine ⟨i - 1, ?_, by omega, by omega⟩
        simp only [iN] at hst hwi
        rw [hwi] at hst
        rw [hf, hpi]
        exact hst
    · have hall : ∀ j n', fnd pp j n' = none := fun j n' => fnd_false fun k _ _ => by rw [hP k, decide_eq_false hp, Bool.false_and]
      refine T.out mix (rhbx_0 ⟨g, s, d, v, 0, 0, i, r, d.getD v 0, 0, false, 0, (fillH g d v).set v (hopR r (fnd pp i (r.length - i))), []⟩ hik (by simp [iN]) hv1 (decide_eq_false hp) ?_)
      intro st hst
      simp only [wv] at hst
      refine fin (hopR r (fnd pp i (r.length - i))) (by rw [hall, hall]) st hst
  · obtain rfl : i = 0 := by omega
    refine T.out mix (rhbx_1 ⟨g, s, d, v, 0, 0, 0, r, 0, 0, false, 0, (fillH g d v).set v (hopR r (fnd pp 0 (r.length - 0))), []⟩ (by simp [iN]) ?_)
    intro st hst
    simp only [wv] at hst
    exact fin _ rfl st hst

theorem rhops_ct {g : List (List Int)} {s : List Bool} (hg : OkG g s) (goal : Nat) (hgo : goal < g.length) : CT Try.prog 36 [] [.lst (gL g), .lst (boL s), .int .i64 (goal : Nat)] [] (lI (hopsZ g (distL g s goal g.length))) := by
  have hgl := hg.len
  have hl := gL_len g
  have c0 := rdist_ct hg goal hgo
  rw [dist_eq hg hgo] at c0
  have hdl := distL_len g s goal g.length
  have hsm := distL_small g s goal g.length (by omega)
  generalize distL g s goal g.length = d at c0 hdl hsm
  refine CT.path mix Try.func36 (show Try.f36.body = some (bodyOf Try.f36) by kernel_rfl) (Nat.le_of_ble_eq_true rfl) (rh_0 ⟨g, s, d, goal, 0, 0, 0, [], 0, 0, false, 0, [], []⟩ c0 (Int.le_refl _) (by simp only [iN, hl]; omega) (by simp only [iN, hl]; omega) ?_)
  have key : T Try.prog 0 (.loop (loopC (bodyOf Try.f36) 0)) (la32 (qw g s d 0 0 0 [] (fillH g d 0) 0 0)) (TK Try.prog 0 (Fin Try.prog Try.f36 0 [] (lI (hopsZ g d))) (loopK (bodyOf Try.f36) 0)) := by
    refine T.loop (fun v : Nat => la32 (qw g s d v 0 0 [] (fillH g d v) 0 0)) (fun v => v ≤ g.length) (fun v => g.length + 1 - v) 0 (Nat.zero_le _) ?_
    intro v hv
    have hfl := fillH_len g d v
    by_cases h : v < g.length
    · have hr1 := (hg.row v h).1
      have ew : IntKind.i64.wrap (iN ((g.getD v []).map (AV.int .i64)).length - 1) = iN (g.getD v []).length - 1 := by
        rw [lI_len]
        by_cases h1 : 0 < (g.getD v []).length
        · have := wrapM1 _ h1 (by omega)
          simp only [iN]; rw [this]; omega
        · rw [show (g.getD v []).length = 0 by omega]; exact wrapS _ (by decide) (by decide)
      refine T.path mix (rhi_0 (qw g s d v 0 0 (g.getD v []) (fillH g d v) 0 0) (decide_eq_true (by simp only [iN, qw, hl]; omega)) (by simp [iN]) (by simp [iN, qw, hfl]; omega) (by simp [iN, qw, hfl]; omega) (gL_get h) ?_)
      have k := rhb_run hg d hdl hsm v h (R := fun st' => ∃ j, Ren 0 st' (la32 (qw g s d j 0 0 [] (fillH g d j) 0 0)) ∧ j ≤ g.length ∧ g.length + 1 - j < g.length + 1 - v) (post := TK Try.prog 0 (Fin Try.prog Try.f36 0 [] (lI (hopsZ g d))) (loopK (bodyOf Try.f36) 0)) fun st hst => ⟨v + 1, hst, h, by omega⟩
      simp only [qw, ew]
      rw [show (iN v).toNat = v from rfl, map_set]
      unfold lb32 qw at k
      simp only [List.length_set] at k
      exact k
    · obtain rfl : v = g.length := by omega
      have k := rhx_0 (qw g s d g.length 0 0 [] (fillH g d g.length) 0 0) (decide_eq_false (by simp only [iN, qw, hl]; omega)) (by simp [qw])
      rw [← fillH_n]
      exact T.out mix k
  unfold la32 qw dB at key
  simp only [fillH_len, fillH_0 g d] at key
  simp only [hl, fillH_0 g d]
  exact key
end Go.Proofs.Ytcdgphdieemjcaa

/-! The paths of a function, by evaluation. -/
open Go Go.AX Go.Proofs
set_option maxRecDepth 100000
set_option maxHeartbeats 4000000
set_option linter.unusedVariables false
namespace Go.Proofs.Ytcdgphdieemjcaa
end Go.Proofs.Ytcdgphdieemjcaa

/-! Contracts. -/
open Go Go.AX Go.Proofs
set_option maxRecDepth 100000
set_option maxHeartbeats 1000000
set_option linter.unusedVariables false
set_option linter.unusedSimpArgs false
namespace Go.Proofs.Ytcdgphdieemjcaa
def prA (y : List Int × Int) : AV := .tup [lI y.1, .int .i64 y.2]
noncomputable def distO (g : List (List Int)) (s : List Bool) (v : Int) : List Int × Int := if chkZ g s v v = 0 then (distL g s v.toNat g.length, 0) else ([], chkZ g s v v)
noncomputable def hopsO (g : List (List Int)) (s : List Bool) (v : Int) : List Int × Int := if chkZ g s v v = 0 then (hopsZ g (distL g s v.toNat g.length), 0) else ([], chkZ g s v v)
noncomputable def pathO (g : List (List Int)) (s : List Bool) (v w : Int) : List Int × Int :=
  if chkZ g s v w = 0 then (if (distL g s w.toNat g.length).getD v.toNat 0 < 0 then ([], 0) else (wkL g (distL g s w.toNat g.length) v.toNat ((distL g s w.toNat g.length).getD v.toNat 0).toNat, 0)) else ([], chkZ g s v w)
noncomputable def tabO (g : List (List Int)) (s : List Bool) : List (List Int) × Int := if chk4 g s = 0 then (tabZ g s g.length, 0) else ([], chk4 g s)
def tabA (y : List (List Int) × Int) : AV := .tup [.lst (gL y.1), .int .i64 y.2]

theorem toN {v : Int} (h : 0 ≤ v) : ((v.toNat : Nat) : Int) = v := Int.toNat_of_nonneg h

theorem shutNeg {g : List (List Int)} {s : List Bool} {goal a : Nat} {d : List Int} (hD : Dst g s goal d) (ha : a < g.length) (h0 : 0 ≤ d.getD a 0) : s.getD goal false = false := by
  cases h : s.getD goal false with
  | false => rfl
  | true => have := hD.shut h a ha; omega

theorem first_ct {g : List (List Int)} {s : List Bool} (hg : OkG g s) (a goal : Nat) (hal : a < g.length) (hgo : goal < g.length) : CT Try.prog 33 [] [.lst (gL g), .lst (boL s), .int .i64 (a : Nat), .int .i64 (goal : Nat)] [] (lI (if (distL g s goal g.length).getD a 0 < 0 then [] else wkL g (distL g s goal g.length) a ((distL g s goal g.length).getD a 0).toNat)) := by
  have hb : Try.f33.body = some (bodyOf Try.f33) := by kernel_rfl
  have hn : [AV.lst (gL g), .lst (boL s), .int .i64 (a : Nat), .int .i64 (goal : Nat)].length ≤ Try.f33.ntmps := Nat.le_of_ble_eq_true rfl
  have hgl := hg.len
  have cd := rdist_ct hg goal hgo
  rw [dist_eq hg hgo] at cd
  have ch := rhops_ct hg goal hgo
  have hD := dst_ok hg hgo
  have hbd := hD.bnd a hal
  generalize distL g s goal g.length = d at cd ch hD hbd
  have hda := lI_get (l := d) (j := a) (by rw [hD.len]; exact hal)
  by_cases hneg : d.getD a 0 < 0
  · rw [if_pos hneg]
    exact CT.pathW mix Try.func33 hb hn (rfn_0 ⟨g, s, d, a, goal, 0, 0, [], d.getD a 0, 0, false, 0, [], []⟩ cd (by simp [iN]) hda (decide_eq_true hneg)) rfl
  · rw [if_neg hneg]
    obtain ⟨m, hm⟩ : ∃ m : Nat, d.getD a 0 = (m : Int) := ⟨(d.getD a 0).toNat, (toN (by omega)).symm⟩
    have hgd := shutNeg hD hal (by omega)
    have hok := wk_ok hg hgo hD hal hm hgd
    rw [hm, Int.toNat_natCast]
    refine CT.path mix Try.func33 hb hn (rf_0 ⟨g, s, d, a, goal, 0, 0, [], d.getD a 0, 0, false, 0, hopsZ g d, []⟩ cd (by simp [iN]) hda (decide_eq_false hneg) ch ?_)
    have key : T Try.prog 0 (.loop (loopC (bodyOf Try.f33) 0)) (lo34 ⟨g, s, d, (wkZ g d a 0).toNat, goal, 0, 0, wkL g d a 0, 0, 0, false, 0, hopsZ g d, []⟩) (TK Try.prog 0 (Fin Try.prog Try.f33 0 [] (lI (wkL g d a m))) (loopK (bodyOf Try.f33) 0)) := by
      refine T.loop (fun k : Nat => lo34 ⟨g, s, d, (wkZ g d a k).toNat, goal, 0, k, wkL g d a k, 0, 0, false, 0, hopsZ g d, []⟩) (fun k => k ≤ m) (fun k => m + 1 - k) 0 (Nat.zero_le _) ?_
      intro k hk
      obtain ⟨w1, w2, w3⟩ := hok k hk
      have hlen := wkL_len g d a k
      by_cases h : k < m
      · obtain ⟨x1, x2, x3⟩ := hok (k + 1) h
        have hne : (wkZ g d a k).toNat ≠ goal := by
          intro e; rw [e, hD.zero hgd] at w3; omega
        have hgt : (hopsZ g d).getD (wkZ g d a k).toNat 0 = wkZ g d a (k + 1) := by
          have hlt : (wkZ g d a k).toNat < g.length := by omega
          simp [hopsZ, List.getD_eq_getElem?_getD, List.getElem?_range hlt, wkZ]
        have hg2 := lI_get (l := hopsZ g d) (j := (wkZ g d a k).toNat) (by simp [hopsZ]; omega)
        rw [hgt, ← toN x1] at hg2
        refine T.path mix (rfe_0 ⟨g, s, d, (wkZ g d a k).toNat, goal, (wkZ g d a (k + 1)).toNat, k, wkL g d a k, 0, 0, false, 0, hopsZ g d, []⟩ (by simp [iN]; omega) (Int.natCast_nonneg _) hg2 (by simp [hlen]) (by simp) (by simp [hlen]; omega) (by simp [hlen]; omega) ?_)
        intro st hst
        refine ⟨k + 1, ?_, h, by omega⟩
        have e2 : ∀ y : AV, ((wkL g d a k).map (AV.int .i64)).length + [y].length = k + 1 + 1 := by intro y; simp [hlen]
        have e3 : (wkL g d a (k + 1)).map (AV.int .i64) = (wkL g d a k).map (AV.int .i64) ++ [.int .i64 (((wkZ g d a (k + 1)).toNat : Nat) : Int)] := by
          rw [wkL_succ, List.map_append, toN x1]; rfl
        simp only [e2] at hst
        show Ren 0 st (lo34 ⟨g, s, d, (wkZ g d a (k + 1)).toNat, goal, 0, k + 1, wkL g d a (k + 1), 0, 0, false, 0, hopsZ g d, []⟩)
        unfold lo34 dB
        simp only [e3]
        exact hst
      · obtain rfl : k = m := by omega
        have he : (wkZ g d a k).toNat = goal := zero_goal hD (by omega) (by rw [w3]; omega)
        exact T.out mix (rfex_0 ⟨g, s, d, (wkZ g d a k).toNat, goal, 0, k, wkL g d a k, 0, 0, false, 0, hopsZ g d, []⟩ (by simp [iN, he]) (by simp [hlen]))
    exact key
end Go.Proofs.Ytcdgphdieemjcaa

/-! The paths of a function, by evaluation. -/
open Go Go.AX Go.Proofs
set_option maxRecDepth 100000
set_option maxHeartbeats 4000000
set_option linter.unusedVariables false
namespace Go.Proofs.Ytcdgphdieemjcaa
def mkC (m : Nat → Bool) : List AV := [.bool (m 0), .bool (m 1), .bool (m 2), .bool (m 3), .bool (m 4), .bool (m 5), .bool (m 6), .bool (m 7), .bool (m 8), .bool (m 9), .bool (m 10), .bool (m 11), .bool (m 12), .bool (m 13), .bool (m 14), .bool (m 15), .bool (m 16), .bool (m 17), .bool (m 18), .bool (m 19), .bool (m 20), .bool (m 21), .bool (m 22), .bool (m 23)]
structure QZ where
  g : List (List Int)
  s : List Bool
  v : Nat
  m : Nat → Bool
  o : List Int
  u : Nat
  r : List Int
  i : Nat
  w : Nat
  sb : Bool
  mb : Bool
  k : Nat
  a : Nat
  x : Int
  y : Int
  d : List Int
  p : List Int
def cZ (q : QZ) : Nat → FuncId → List AV → List (Option Blk) → Hint := fun dst f args hp => match f with
  | 23 => .call [] [] [] (.int .i64 0)
  | 30 => .call [] [] [] (lI q.d)
  | 24 => .call [] [] [] (lI q.p)
  | _ => .no
def e41 (q : QZ) : List (Nat × AV) := [(16, lI q.r), (22, .int .i64 (iN q.w))]
noncomputable def st38 (q : QZ) : St := { n := Try.f23.ntmps, fr := [(0, .lst (gL q.g)), (1, .lst (boL q.s))], hp := [] }
noncomputable def la38 (q : QZ) : St := { n := Try.f23.ntmps, fr := [(0, .lst (gL q.g)), (1, .lst (boL q.s)), (13, .lst (gL q.g)), (14, .int .i64 (iN q.g.length)), (15, .int .i64 (iN q.a))], hp := [] }
noncomputable def lb38 (q : QZ) : St := { n := Try.f23.ntmps, fr := [(0, .lst (gL q.g)), (1, .lst (boL q.s)), (5, .int .i64 (iN q.a)), (7, .int .i64 q.x), (13, .lst (gL q.g)), (14, .int .i64 (iN q.g.length)), (15, .int .i64 (iN q.a)), (20, lI q.r), (21, .int .i64 (iN q.r.length)), (22, .int .i64 (iN q.i))], hp := [] }
def e38 (q : QZ) : List (Nat × AV) := [(18, lI q.r), (24, .int .i64 (iN q.w))]
def e36 (q : QZ) : List (Nat × AV) := []
def zB : Blk := { es := [.agg [.bool false, .bool false, .bool false, .bool false, .bool false, .bool false, .bool false, .bool false, .bool false, .bool false, .bool false, .bool false, .bool false, .bool false, .bool false, .bool false, .bool false, .bool false, .bool false, .bool false, .bool false, .bool false, .bool false, .bool false]], z := 24 }
def mB (m : Nat → Bool) : Blk := { es := [.agg (mkC m)], z := 24 }
def e37 (q : QZ) : List (Nat × AV) := [(14, .bool q.sb), (18, .tup []), (29, .int .i64 (iN q.u)), (37, lI q.r), (42, .int .i64 (iN q.w)), (46, .bool q.sb), (52, .tup [.bool q.mb]), (56, .tup [])]
theorem gc_0 (q : QZ) (h1 : (decide (24 < iN (gL q.g).length) = false)) {post : Exit → St → Prop} (ht : T Try.prog 0 (.loop (loopC (bodyOf Try.f23) 0)) (St.mk 48 [(0, AV.lst (gL q.g)), (1, AV.lst (boL q.s)), (13, AV.lst (gL q.g)), (14, AV.int IntKind.i64 (iN (gL q.g).length)), (15, AV.int IntKind.i64 0)] []) (TK Try.prog 0 post (loopK (bodyOf Try.f23) 0))) : ∃ o' st' q', go Try.prog ({ dec := [(12, false)], els := e38 q, calls := cZ q, unroll := false } : HT) 0 4000 (.inl (bodyOf Try.f23)) [] (st38 q) = some (o', st', q') ∧ q' ∧ Go.AX.Rest Try.prog 0 post st' o' :=
  endR_spec (σ := []) (fz := []) (vars := [0,1,13,14,15]) (show endR 0 [] [] [0,1,13,14,15] (go Try.prog ({ dec := [(12, false)], els := e38 q, calls := cZ q, unroll := false } : HT) 0 4000 (.inl (bodyOf Try.f23)) [] (st38 q)) = some (loopC (bodyOf Try.f23) 0, loopK (bodyOf Try.f23) 0, St.mk 48 [(0, AV.lst (gL q.g)), (1, AV.lst (boL q.s)), (13, AV.lst (gL q.g)), (14, AV.int IntKind.i64 (iN (gL q.g).length)), (15, AV.int IntKind.i64 0)] [], (((True ∧ True) ∧ (((True ∧ True) ∧ ((True ∧ True) ∧ ((True ∧ True) ∧ True))) ∧ ((type_of% h1) ∧ (((True ∧ True) ∧ ((True ∧ True) ∧ (True ∧ True))) ∧ True)))) ∧ (True ∧ (True ∧ (True ∧ (True ∧ (True ∧ True))))))) by kernel_rfl) ⟨⟨⟨trivial, trivial⟩, ⟨⟨⟨trivial, trivial⟩, ⟨⟨trivial, trivial⟩, ⟨⟨trivial, trivial⟩, trivial⟩⟩⟩, ⟨h1, ⟨⟨⟨trivial, trivial⟩, ⟨⟨trivial, trivial⟩, ⟨trivial, trivial⟩⟩⟩, trivial⟩⟩⟩⟩, ⟨trivial, ⟨trivial, ⟨trivial, ⟨trivial, ⟨trivial, trivial⟩⟩⟩⟩⟩⟩ ht
theorem gcx_0 (q : QZ) (h1 : (decide (iN q.a < iN q.g.length) = false)) (h2 : ((iN (boL q.s).length != iN (gL q.g).length) = false)) : ∃ o' st' q', go2 Try.prog ({ dec := [(16, false), (47, false)], els := e38 q, calls := cZ q, unroll := false } : HT) 0 4000 (loopC (bodyOf Try.f23) 0) (loopK (bodyOf Try.f23) 0) (la38 q) = some (o', st', q') ∧ q' ∧ Go.AX.Rest Try.prog 0 (Fin Try.prog Try.f23 0 [] (AV.int IntKind.i64 0)) st' o' :=
  endF_spec (σ := []) (fz := []) (show endF Try.prog Try.f23 0 [] [] (go2 Try.prog ({ dec := [(16, false), (47, false)], els := e38 q, calls := cZ q, unroll := false } : HT) 0 4000 (loopC (bodyOf Try.f23) 0) (loopK (bodyOf Try.f23) 0) (la38 q)) = some ([], AV.int IntKind.i64 0, (((((True ∧ (True ∧ True)) ∧ True) ∧ ((type_of% h1) ∧ True)) ∧ (((True ∧ True) ∧ ((True ∧ True) ∧ ((True ∧ True) ∧ ((True ∧ True) ∧ ((True ∧ (True ∧ True)) ∧ True))))) ∧ ((type_of% h2) ∧ ((True ∧ True) ∧ True)))) ∧ (True ∧ True))) by kernel_rfl) ⟨⟨⟨⟨⟨trivial, ⟨trivial, trivial⟩⟩, trivial⟩, ⟨h1, trivial⟩⟩, ⟨⟨⟨trivial, trivial⟩, ⟨⟨trivial, trivial⟩, ⟨⟨trivial, trivial⟩, ⟨⟨trivial, trivial⟩, ⟨⟨trivial, ⟨trivial, trivial⟩⟩, trivial⟩⟩⟩⟩⟩, ⟨h2, ⟨⟨trivial, trivial⟩, trivial⟩⟩⟩⟩, ⟨trivial, trivial⟩⟩
theorem gca_0 (q : QZ) (h1 : (decide (iN q.a < iN q.g.length) = true)) (h2 : (0 ≤ iN q.a)) (h3 : ((gL q.g)[(iN q.a).toNat]? = some (AV.lst (List.map (AV.int IntKind.i64) q.r)))) {post : Exit → St → Prop} (ht : T Try.prog 0 (.loop (loopC (loopC (bodyOf Try.f23) 0) 0)) (St.mk 48 [(0, AV.lst (gL q.g)), (1, AV.lst (boL q.s)), (5, AV.int IntKind.i64 (iN q.a)), (7, AV.int IntKind.i64 (-1)), (13, AV.lst (gL q.g)), (14, AV.int IntKind.i64 (iN q.g.length)), (15, AV.int IntKind.i64 (iN q.a)), (20, AV.lst (List.map (AV.int IntKind.i64) q.r)), (21, AV.int IntKind.i64 (iN (List.map (AV.int IntKind.i64) q.r).length)), (22, AV.int IntKind.i64 0)] []) (TK Try.prog 0 post (loopK (loopC (bodyOf Try.f23) 0) 0))) : ∃ o' st' q', go Try.prog ({ dec := [(16, true)], els := e38 q, calls := cZ q, unroll := false } : HT) 0 4000 (.inl (loopC (bodyOf Try.f23) 0)) [] (la38 q) = some (o', st', q') ∧ q' ∧ Go.AX.Rest Try.prog 0 post st' o' :=
  endR_spec (σ := []) (fz := []) (vars := [0,1,5,7,13,14,15,20,21,22]) (show endR 0 [] [] [0,1,5,7,13,14,15,20,21,22] (go Try.prog ({ dec := [(16, true)], els := e38 q, calls := cZ q, unroll := false } : HT) 0 4000 (.inl (loopC (bodyOf Try.f23) 0)) [] (la38 q)) = some (loopC (loopC (bodyOf Try.f23) 0) 0, loopK (loopC (bodyOf Try.f23) 0) 0, St.mk 48 [(0, AV.lst (gL q.g)), (1, AV.lst (boL q.s)), (5, AV.int IntKind.i64 (iN q.a)), (7, AV.int IntKind.i64 (-1)), (13, AV.lst (gL q.g)), (14, AV.int IntKind.i64 (iN q.g.length)), (15, AV.int IntKind.i64 (iN q.a)), (20, AV.lst (List.map (AV.int IntKind.i64) q.r)), (21, AV.int IntKind.i64 (iN (List.map (AV.int IntKind.i64) q.r).length)), (22, AV.int IntKind.i64 0)] [], ((((True ∧ (True ∧ True)) ∧ True) ∧ ((type_of% h1) ∧ (((True ∧ True) ∧ ((True ∧ (True ∧ ((type_of% h2) ∧ (type_of% h3)))) ∧ ((True ∧ True) ∧ ((True ∧ True) ∧ ((True ∧ True) ∧ True))))) ∧ ((True ∧ True) ∧ (((True ∧ True) ∧ ((True ∧ True) ∧ (True ∧ True))) ∧ True))))) ∧ (True ∧ (True ∧ (True ∧ (True ∧ (True ∧ (True ∧ (True ∧ (True ∧ (True ∧ (True ∧ True)))))))))))) by kernel_rfl) ⟨⟨⟨⟨trivial, ⟨trivial, trivial⟩⟩, trivial⟩, ⟨h1, ⟨⟨⟨trivial, trivial⟩, ⟨⟨trivial, ⟨trivial, ⟨h2, h3⟩⟩⟩, ⟨⟨trivial, trivial⟩, ⟨⟨trivial, trivial⟩, ⟨⟨trivial, trivial⟩, trivial⟩⟩⟩⟩⟩, ⟨⟨trivial, trivial⟩, ⟨⟨⟨trivial, trivial⟩, ⟨⟨trivial, trivial⟩, ⟨trivial, trivial⟩⟩⟩, trivial⟩⟩⟩⟩⟩, ⟨trivial, ⟨trivial, ⟨trivial, ⟨trivial, ⟨trivial, ⟨trivial, ⟨trivial, ⟨trivial, ⟨trivial, ⟨trivial, trivial⟩⟩⟩⟩⟩⟩⟩⟩⟩⟩⟩ ht
theorem gcbx_0 (q : QZ) (h1 : (decide (iN q.i < iN q.r.length) = false)) {post : Exit → St → Prop} {R : St → Prop} (hR : ∀ st, Ren 0 st (St.mk 48 [(0, AV.lst (gL q.g)), (1, AV.lst (boL q.s)), (13, AV.lst (gL q.g)), (14, AV.int IntKind.i64 (iN q.g.length)), (15, AV.int IntKind.i64 (IntKind.i64.wrap (iN q.a + 1)))] []) → R st) : ∃ o' st' q', go2 Try.prog ({ dec := [(23, false)], els := e38 q, calls := cZ q, unroll := false } : HT) 0 4000 (loopC (loopC (bodyOf Try.f23) 0) 0) (loopK (loopC (bodyOf Try.f23) 0) 0) (lb38 q) = some (o', st', q') ∧ q' ∧ Go.AX.Rest Try.prog 0 (andThen R post) st' o' :=
  endN_spec (σ := []) (fz := []) (vars := [0,1,13,14,15]) (show endN 0 [] [] [0,1,13,14,15] (go2 Try.prog ({ dec := [(23, false)], els := e38 q, calls := cZ q, unroll := false } : HT) 0 4000 (loopC (loopC (bodyOf Try.f23) 0) 0) (loopK (loopC (bodyOf Try.f23) 0) 0) (lb38 q)) = some (St.mk 48 [(0, AV.lst (gL q.g)), (1, AV.lst (boL q.s)), (13, AV.lst (gL q.g)), (14, AV.int IntKind.i64 (iN q.g.length)), (15, AV.int IntKind.i64 (IntKind.i64.wrap (iN q.a + 1)))] [], (((((True ∧ (True ∧ True)) ∧ True) ∧ ((type_of% h1) ∧ True)) ∧ (((True ∧ True) ∧ ((True ∧ True) ∧ True)) ∧ True)) ∧ (True ∧ (True ∧ (True ∧ (True ∧ (True ∧ True))))))) by kernel_rfl) ⟨⟨⟨⟨⟨trivial, ⟨trivial, trivial⟩⟩, trivial⟩, ⟨h1, trivial⟩⟩, ⟨⟨⟨trivial, trivial⟩, ⟨⟨trivial, trivial⟩, trivial⟩⟩, trivial⟩⟩, ⟨trivial, ⟨trivial, ⟨trivial, ⟨trivial, ⟨trivial, trivial⟩⟩⟩⟩⟩⟩ hR
theorem gcbr_0 (q : QZ) (h1 : (decide (iN q.i < iN q.r.length) = true)) (h2 : (0 ≤ iN q.i)) (h3 : ((List.map (AV.int IntKind.i64) q.r)[(iN q.i).toNat]? = some (AV.int IntKind.i64 (iN q.w)))) (h4 : (decide (iN q.w ≤ q.x) = false)) (h5 : (decide (iN (gL q.g).length ≤ iN q.w) = false)) (h6 : ((iN q.w == iN q.a) = false)) {post : Exit → St → Prop} {R : St → Prop} (hR : ∀ st, Ren 0 st (St.mk 48 [(0, AV.lst (gL q.g)), (1, AV.lst (boL q.s)), (5, AV.int IntKind.i64 (iN q.a)), (7, AV.int IntKind.i64 (iN q.w)), (13, AV.lst (gL q.g)), (14, AV.int IntKind.i64 (iN q.g.length)), (15, AV.int IntKind.i64 (iN q.a)), (20, AV.lst (List.map (AV.int IntKind.i64) q.r)), (21, AV.int IntKind.i64 (iN q.r.length)), (22, AV.int IntKind.i64 (IntKind.i64.wrap (iN q.i + 1)))] []) → R st) : ∃ o' st' q', go Try.prog ({ dec := [(23, true), (28, false), (33, false), (38, false)], els := e38 q, calls := cZ q, unroll := false } : HT) 0 4000 (.inl (loopC (loopC (bodyOf Try.f23) 0) 0)) [] (lb38 q) = some (o', st', q') ∧ q' ∧ Go.AX.Rest Try.prog 0 (andThen R post) st' o' :=
  endN_spec (σ := []) (fz := []) (vars := [0,1,5,7,13,14,15,20,21,22]) (show endN 0 [] [] [0,1,5,7,13,14,15,20,21,22] (go Try.prog ({ dec := [(23, true), (28, false), (33, false), (38, false)], els := e38 q, calls := cZ q, unroll := false } : HT) 0 4000 (.inl (loopC (loopC (bodyOf Try.f23) 0) 0)) [] (lb38 q)) = some (St.mk 48 [(0, AV.lst (gL q.g)), (1, AV.lst (boL q.s)), (5, AV.int IntKind.i64 (iN q.a)), (7, AV.int IntKind.i64 (iN q.w)), (13, AV.lst (gL q.g)), (14, AV.int IntKind.i64 (iN q.g.length)), (15, AV.int IntKind.i64 (iN q.a)), (20, AV.lst (List.map (AV.int IntKind.i64) q.r)), (21, AV.int IntKind.i64 (iN q.r.length)), (22, AV.int IntKind.i64 (IntKind.i64.wrap (iN q.i + 1)))] [], ((((True ∧ (True ∧ True)) ∧ True) ∧ ((type_of% h1) ∧ (((True ∧ (True ∧ ((type_of% h2) ∧ (type_of% h3)))) ∧ ((True ∧ True) ∧ ((True ∧ True) ∧ True))) ∧ (((True ∧ True) ∧ ((True ∧ True) ∧ ((True ∧ (True ∧ True)) ∧ (((type_of% h4) ∧ True) ∧ ((True ∧ (True ∧ True)) ∧ ((True ∧ (True ∧ True)) ∧ ((True ∧ (True ∧ True)) ∧ ((True ∧ (True ∧ (True ∧ True))) ∧ ((True ∧ ((type_of% h5) ∧ True)) ∧ ((True ∧ True) ∧ ((True ∧ (True ∧ True)) ∧ ((True ∧ (True ∧ True)) ∧ ((True ∧ (True ∧ (True ∧ True))) ∧ ((True ∧ ((type_of% h6) ∧ True)) ∧ True)))))))))))))) ∧ (True ∧ (((True ∧ True) ∧ ((True ∧ True) ∧ True)) ∧ (((True ∧ True) ∧ ((True ∧ True) ∧ True)) ∧ True))))))) ∧ (True ∧ (True ∧ (True ∧ (True ∧ (True ∧ (True ∧ (True ∧ (True ∧ (True ∧ (True ∧ True)))))))))))) by kernel_rfl) ⟨⟨⟨⟨trivial, ⟨trivial, trivial⟩⟩, trivial⟩, ⟨h1, ⟨⟨⟨trivial, ⟨trivial, ⟨h2, h3⟩⟩⟩, ⟨⟨trivial, trivial⟩, ⟨⟨trivial, trivial⟩, trivial⟩⟩⟩, ⟨⟨⟨trivial, trivial⟩, ⟨⟨trivial, trivial⟩, ⟨⟨trivial, ⟨trivial, trivial⟩⟩, ⟨⟨h4, trivial⟩, ⟨⟨trivial, ⟨trivial, trivial⟩⟩, ⟨⟨trivial, ⟨trivial, trivial⟩⟩, ⟨⟨trivial, ⟨trivial, trivial⟩⟩, ⟨⟨trivial, ⟨trivial, ⟨trivial, trivial⟩⟩⟩, ⟨⟨trivial, ⟨h5, trivial⟩⟩, ⟨⟨trivial, trivial⟩, ⟨⟨trivial, ⟨trivial, trivial⟩⟩, ⟨⟨trivial, ⟨trivial, trivial⟩⟩, ⟨⟨trivial, ⟨trivial, ⟨trivial, trivial⟩⟩⟩, ⟨⟨trivial, ⟨h6, trivial⟩⟩, trivial⟩⟩⟩⟩⟩⟩⟩⟩⟩⟩⟩⟩⟩⟩, ⟨trivial, ⟨⟨⟨trivial, trivial⟩, ⟨⟨trivial, trivial⟩, trivial⟩⟩, ⟨⟨⟨trivial, trivial⟩, ⟨⟨trivial, trivial⟩, trivial⟩⟩, trivial⟩⟩⟩⟩⟩⟩⟩, ⟨trivial, ⟨trivial, ⟨trivial, ⟨trivial, ⟨trivial, ⟨trivial, ⟨trivial, ⟨trivial, ⟨trivial, ⟨trivial, trivial⟩⟩⟩⟩⟩⟩⟩⟩⟩⟩⟩ hR
end Go.Proofs.Ytcdgphdieemjcaa

/-! A block told shorter, and an array's variable told as a row of elements. -/
namespace Go.AX
variable {P : Program}

/-- The block b turned by f. -/
def onH (f : Blk → Blk) : Nat → List (Option Blk) → List (Option Blk)
  | _, [] => []
  | 0, some blk :: r => some (f blk) :: r
  | 0, none :: r => none :: r
  | b + 1, x :: r => x :: onH f b r

theorem nth_onH (f : Blk → Blk) : ∀ (hp : List (Option Blk)) (b b' : Nat), nth (onH f b hp) b' = if b' = b then (nth hp b').map f else nth hp b' := by
  intro hp
  induction hp with
  | nil => intro b b'; simp [onH, nth]
  | cons x r ih =>
    intro b b'
    cases b with
    | zero => cases b' <;> cases x <;> simp [onH, nth]
    | succ b =>
      cases b' with
      | zero => simp [onH, nth]
      | succ b' => simp [onH, nth, ih b b']

theorem onH_len (f : Blk → Blk) : ∀ (hp : List (Option Blk)) (b : Nat), (onH f b hp).length = hp.length := by
  intro hp
  induction hp with
  | nil => intro b; cases b <;> rfl
  | cons x r ih => intro b; cases b <;> cases x <;> simp [onH, ih]

theorem Mut_onH {f : Blk → Blk} (hf : ∀ blk, (f blk).wr = blk.wr) {φ : Phi} {hp : List (Option Blk)} {b r : Nat} : Mut φ (nth (onH f b hp)) r ↔ Mut φ (nth hp) r := by
  constructor
  · rintro ⟨b', blk, z, h1, h2, h3⟩
    rw [nth_onH] at h1
    split at h1
    · obtain ⟨blk', h4, rfl⟩ := Option.map_eq_some_iff.1 h1
      exact ⟨b', blk', z, h4, by rw [← hf]; exact h2, h3⟩
    · exact ⟨b', blk, z, h1, h2, h3⟩
  · rintro ⟨b', blk, z, h1, h2, h3⟩
    by_cases hb : b' = b
    · exact ⟨b', f blk, z, by rw [nth_onH, if_pos hb, h1]; rfl, by rw [hf]; exact h2, h3⟩
    · exact ⟨b', blk, z, by rw [nth_onH, if_neg hb]; exact h1, h2, h3⟩

def truncB (k : Nat) (blk : Blk) : Blk := { blk with es := blk.es.take k }
def truncS (b k : Nat) (st : St) : St := { st with hp := onH (truncB k) b st.hp }

theorem Ren.wk (m : Nat) (st : St) : Ren m st (wkSt st) := by
  intro A0 n0 φ a w hm hr
  refine ⟨φ, ⟨hr.defs, hr.size, fun s => ?_, hr.heap, hr.out, hr.base, hr.own⟩, hm, .refl m φ _ w⟩
  show VR φ _ w (look (wkFr st.fr) s) _
  rw [look_wkFr]
  exact (hr.slot s).wk1

/-! An array's variable: one element of many cells, told as many elements of one cell. -/

def flatB (blk : Blk) : Blk := match blk.es with
  | [.agg cs] => { blk with es := cs, z := 1 }
  | _ => blk

def flatV (b : Nat) (v : AV) : AV := match v with
  | .ptr b' i j => match Nat.beq b' b, i with
    | false, _ => v
    | true, 0 => .ptr b j 0
    | true, _ => .unk
  | .sl b' _ _ => match Nat.beq b' b with
    | false => v
    | true => .unk
  | .agg cs => match norefL cs with
    | true => v
    | false => .unk
  | .tup cs => match norefL cs with
    | true => v
    | false => .unk
  | .fn _ _ => .unk
  | v => v

def flatFr (b : Nat) : List (Nat × AV) → List (Nat × AV)
  | [] => []
  | (s, v) :: r => (s, flatV b v) :: flatFr b r

theorem look_flatFr (b : Nat) : ∀ (fr : List (Nat × AV)) (s : Nat), look (flatFr b fr) s = flatV b (look fr s) := by
  intro fr
  induction fr with
  | nil => intro s; rfl
  | cons x r ih =>
    intro s
    obtain ⟨t, v⟩ := x
    simp only [flatFr, look]
    split
    · rfl
    · exact ih s

def flatS (b : Nat) (st : St) : St := { st with fr := flatFr b st.fr, hp := onH flatB b st.hp }

def allFlat (hp : List (Option Blk)) : Bool := hp.all fun x => match x with | some blk => blk.flat | none => true

def isArr (hp : List (Option Blk)) (b : Nat) : Bool := match nth hp b with
  | some blk => match blk.es with
    | [.agg _] => true
    | _ => false
  | none => false

theorem allFlat_spec : ∀ {hp : List (Option Blk)}, allFlat hp = true → ∀ b blk, nth hp b = some blk → blk.flat = true := by
  intro hp
  induction hp with
  | nil => intro _ b blk h; cases b <;> cases h
  | cons x r ih =>
    intro h b blk hb
    simp only [allFlat, List.all_cons, Bool.and_eq_true] at h
    cases b with
    | zero => simp [nth] at hb; subst hb; exact h.1
    | succ b => exact ih h.2 b blk (by simpa [nth] using hb)

theorem VR.noref_any {φ φ' : Phi} {A A' : Nat → Prop} {w : World} {c : AV} {v : Value} (h : VR φ A w c v) (hn : c.noref = true) (hA : ∀ r, A r → A' r) : VR φ' A' w c v :=
  .imm _ _ ((h.noref_rt hn).mono hA (fun _ _ => rfl))

theorem Ren.flat (m : Nat) (b : Nat) (st : St) (hmb : m ≤ b) (hf : allFlat st.hp = true) (ha : isArr st.hp b = true) : Ren m st (flatS b st) := by
  intro A0 n0 φ a w hm hr
  let φ' : Phi := fun x => if x = b then (φ x).map (fun p => (p.1, 1)) else φ x
  have hwr : ∀ blk, (flatB blk).wr = blk.wr := by
    intro blk; unfold flatB; split <;> rfl
  have hmut : ∀ r, Mut φ' (nth (onH flatB b st.hp)) r ↔ Mut φ (nth st.hp) r := by
    intro r
    rw [Mut_onH hwr]
    constructor
    · rintro ⟨b', blk, z, h1, h2, h3⟩
      simp only [φ'] at h3
      split at h3
      · obtain ⟨p, h4, h5⟩ := Option.map_eq_some_iff.1 h3
        simp only [Prod.mk.injEq] at h5
        exact ⟨b', blk, p.2, h1, h2, by rw [h4, ← h5.1]⟩
      · exact ⟨b', blk, z, h1, h2, h3⟩
    · rintro ⟨b', blk, z, h1, h2, h3⟩
      by_cases hb : b' = b
      · exact ⟨b', blk, 1, h1, h2, by simp only [φ']; rw [if_pos hb, h3]; rfl⟩
      · exact ⟨b', blk, z, h1, h2, by simp only [φ']; rw [if_neg hb]; exact h3⟩
  have hok : ∀ r, Ok A0 n0 φ st.h w r → Ok A0 n0 φ' (flatS b st).h w r := fun r ⟨h1, h2, h3⟩ => ⟨h1, h2, fun h => h3 ((hmut r).1 h)⟩
  have hne : ∀ x, x ≠ b → φ' x = φ x := fun x hx => by simp only [φ']; rw [if_neg hx]
  have vr : ∀ {v : AV} {u : Value}, VR φ (Ok A0 n0 φ st.h w) w v u → VR φ' (Ok A0 n0 φ' (flatS b st).h w) w (flatV b v) u := by
    intro v u h
    cases v with
    | ptr b' i j =>
      simp only [flatV]
      cases hbb : Nat.beq b' b with
      | false =>
        obtain ⟨r, z, h1, rfl⟩ := h.ptr_inv
        have : b' ≠ b := fun e => by subst e; rw [Nat.beq_refl] at hbb; cases hbb
        exact .ptr b' i j r z (by rw [hne b' this]; exact h1)
      | true =>
        have := Nat.eq_of_beq_eq_true hbb
        subst this
        obtain ⟨r, z, h1, rfl⟩ := h.ptr_inv
        cases i with
        | zero =>
          have := VR.ptr (φ := φ') (A := Ok A0 n0 φ' (flatS b' st).h w) (w := w) b' j 0 r 1 (by simp only [φ']; rw [h1]; rfl)
          simpa using this
        | succ i => exact .imm _ _ (.unk _)
    | sl b' i n =>
      simp only [flatV]
      cases hbb : Nat.beq b' b with
      | false =>
        have : b' ≠ b := fun e => by subst e; rw [Nat.beq_refl] at hbb; cases hbb
        rcases h.sl_inv with ⟨rfl, a, rfl⟩ | ⟨r, z, cap, h1, h2, h3, rfl⟩
        · exact .slnil b' i a
        · exact .sl b' i n r z cap (by rw [hne b' this]; exact h1) h2 h3
      | true => exact .imm _ _ (.unk _)
    | agg cs =>
      simp only [flatV]
      cases hn : norefL cs with
      | false => exact .imm _ _ (.unk _)
      | true =>
        obtain ⟨us, rfl, hl, hh⟩ := h.agg_inv
        exact .agg cs us hl fun i c v hc hv => (hh i c v hc hv).noref_any (List.all_eq_true.1 hn c (List.mem_of_getElem? hc)) hok
    | tup cs =>
      simp only [flatV]
      cases hn : norefL cs with
      | false => exact .imm _ _ (.unk _)
      | true =>
        obtain ⟨us, rfl, hl, hh⟩ := h.tup_inv
        exact .tup cs us hl fun i c v hc hv => (hh i c v hc hv).noref_any (List.all_eq_true.1 hn c (List.mem_of_getElem? hc)) hok
    | fn f cs => exact .imm _ _ (.unk _)
    | _ => exact h.noref_any rfl hok
  have cellV : ∀ {b' : Nat} {blk : Blk}, nth st.hp b' = some blk → ∀ {e c : AV} {u : Value}, e ∈ blk.es → c ∈ e.cells → VR φ (Ok A0 n0 φ st.h w) w c u → VR φ' (Ok A0 n0 φ' (flatS b st).h w) w c u := by
    intro b' blk hb e c u he hc h
    exact h.noref_any (hr.heap.flat b' blk hb (allFlat_spec hf b' blk hb) e he c hc) hok
  refine ⟨φ', ⟨hr.defs, hr.size, fun s => ?_, ?_, fun b' hb => ?_, hr.base, fun b' r z hb h1 => ?_⟩, by simpa [flatS, onH_len] using hm, fun b' hb => ?_, Keep.refl _ w, fun r h => .inl ((hmut r).1 h)⟩
  · show VR φ' _ w (look (flatFr b st.fr) s) _
    rw [look_flatFr]
    exact vr (hr.slot s)
  · refine ⟨fun b' blk hb => ?_, fun b' blk hb hfl => ?_, fun b1 b2 r z z' h1 h2 g1 g2 => ?_⟩
    · change nth (onH flatB b st.hp) b' = some blk at hb
      rw [nth_onH] at hb
      split at hb
      · rename_i hbb
        subst hbb
        obtain ⟨blk', h4, rfl⟩ := Option.map_eq_some_iff.1 hb
        have hes : ∃ cs, blk'.es = [.agg cs] := by
          unfold isArr at ha; rw [h4] at ha; simp only at ha
          split at ha
          · rename_i cs he; exact ⟨cs, he⟩
          · cases ha
        obtain ⟨cs, hes⟩ := hes
        have hfb : flatB blk' = { blk' with es := cs, z := 1 } := by unfold flatB; rw [hes]
        rw [hfb]
        rcases hr.heap.blk b' blk' h4 with ⟨h1, _⟩ | ⟨r, cells, T, h1, h2, h3, h5⟩
        · rw [hes] at h1; cases h1
        · obtain ⟨g1, g2⟩ := h5 0 (.agg cs) (by rw [hes]; rfl)
          simp only [AV.cells] at g1 g2
          refine .inr ⟨r, cells, T, by simp only [φ']; rw [h1]; rfl, h2, ?_, fun i c hc => ?_⟩
          · simp only [Nat.mul_one]; rw [hes] at h3; simp only [List.length_singleton, Nat.one_mul] at h3; omega
          · obtain ⟨g3, u, g4, g5⟩ := g2 i c hc
            have hcc := one_cells g3
            refine ⟨by rw [hcc]; rfl, fun j c' hj => ?_⟩
            rw [hcc] at hj
            match j, hj with
            | 0, hj =>
              simp at hj; subst hj
              refine ⟨g3, u, by simpa using g4, ?_⟩
              exact cellV h4 (e := .agg cs) (by rw [hes]; simp) (List.mem_of_getElem? hc) g5
      · rename_i hbb
        rcases hr.heap.blk b' blk hb with ⟨h1, h2, h3⟩ | ⟨r, cells, T, h1, h2, h3, h5⟩
        · exact .inl ⟨h1, by rw [hne b' hbb]; exact h2, h3⟩
        · refine .inr ⟨r, cells, T, by rw [hne b' hbb]; exact h1, h2, h3, fun i e he => ⟨(h5 i e he).1, fun j c hc => ?_⟩⟩
          obtain ⟨g3, u, g4, g5⟩ := (h5 i e he).2 j c hc
          exact ⟨g3, u, g4, cellV hb (List.mem_of_getElem? he) (List.mem_of_getElem? hc) g5⟩
    · change nth (onH flatB b st.hp) b' = some blk at hb
      rw [nth_onH] at hb
      split at hb
      · obtain ⟨blk', h4, rfl⟩ := Option.map_eq_some_iff.1 hb
        have hno := hr.heap.flat b' blk' h4 (allFlat_spec hf b' blk' h4)
        have h5 := hr.heap.blk b' blk' h4
        intro e he c hc
        unfold flatB at he
        split at he
        · rename_i cs hes
          simp only at he
          rcases h5 with ⟨h1, _⟩ | ⟨r, cells, T, h1, h2, h3, h5⟩
          · rw [hes] at h1; cases h1
          · obtain ⟨i, hi⟩ := List.getElem?_of_mem he
            obtain ⟨g3, _⟩ := (h5 0 (.agg cs) (by rw [hes]; rfl)).2 i e hi
            rw [one_cells g3] at hc
            simp at hc; subst hc
            exact hno (.agg cs) (by rw [hes]; simp) c he
        · exact hno e he c hc
      · exact hr.heap.flat b' blk hb hfl
    · have up : ∀ x r z, φ' x = some (r, z) → ∃ z', φ x = some (r, z') := by
        intro x r z h
        simp only [φ'] at h
        split at h
        · obtain ⟨p, h4, h5⟩ := Option.map_eq_some_iff.1 h
          simp only [Prod.mk.injEq] at h5
          exact ⟨p.2, by rw [h4, ← h5.1]⟩
        · exact ⟨z, h⟩
      have iss : ∀ x, (nth (onH flatB b st.hp) x).isSome = true → (nth st.hp x).isSome = true := by
        intro x h
        rw [nth_onH] at h
        split at h <;> simpa using h
      obtain ⟨z1, k1⟩ := up b1 r z g1
      obtain ⟨z2, k2⟩ := up b2 r z' g2
      exact hr.heap.inj b1 b2 r z1 z2 (iss b1 h1) (iss b2 h2) k1 k2
  · have h0 := hr.out b' (by simpa [flatS, onH_len] using hb)
    simp only [φ']; split
    · rw [h0]; rfl
    · exact h0
  · simp only [φ'] at h1
    split at h1
    · obtain ⟨p, h4, h5⟩ := Option.map_eq_some_iff.1 h1
      simp only [Prod.mk.injEq] at h5
      exact hr.own b' r p.2 hb (by rw [h4, ← h5.1])
    · exact hr.own b' r z hb h1
  · exact hne b' (by omega)

end Go.AX

/-! Contracts. -/
open Go Go.AX Go.Proofs
set_option maxRecDepth 100000
set_option maxHeartbeats 1000000
set_option linter.unusedVariables false
set_option linter.unusedSimpArgs false
namespace Go.Proofs.Ytcdgphdieemjcaa
/-! Which vertices a vertex reaches. -/
def upd (m : Nat → Bool) (w : Nat) : Nat → Bool := fun i => if i = w then true else m i
/-- How many are not marked. -/
def cnt (m : Nat → Bool) : Nat → Nat
  | 0 => 0
  | n + 1 => cnt m n + if m n = true then 0 else 1
theorem cnt_upd_ge (m : Nat → Bool) (w : Nat) : ∀ n, n ≤ w → cnt (upd m w) n = cnt m n := by
  intro n
  induction n with
  | zero => intro _; rfl
  | succ n ih => intro h; rw [cnt, cnt, ih (by omega)]; simp [upd, show n ≠ w by omega]
theorem cnt_upd (m : Nat → Bool) (w : Nat) (hm : m w = false) : ∀ n, w < n → cnt (upd m w) n + 1 = cnt m n := by
  intro n
  induction n with
  | zero => intro h; omega
  | succ n ih =>
    intro h
    rw [cnt, cnt]
    by_cases e : n = w
    · subst e; rw [cnt_upd_ge m n n (Nat.le_refl _), hm]; simp [upd]
    · have := ih (by omega)
      simp only [upd, e, if_false] at this ⊢
      omega
theorem cnt_le (m : Nat → Bool) : ∀ n, cnt m n ≤ n := by
  intro n
  induction n with
  | zero => exact Nat.le_refl _
  | succ n ih => rw [cnt]; split <;> omega

/-- Closed under the edges to open vertices. -/
def Clo (g : List (List Int)) (s : List Bool) (C : Nat → Prop) : Prop := ∀ u, u < g.length → C u → ∀ w ∈ g.getD u [], s.getD w.toNat false = false → C w.toNat
def Rch (g : List (List Int)) (s : List Bool) (v u : Nat) : Prop := s.getD v false = false ∧ ∀ C : Nat → Prop, C v → Clo g s C → C u
open Classical in
noncomputable def mR (g : List (List Int)) (s : List Bool) (v : Nat) : Nat → Bool := fun u => decide (Rch g s v u)
theorem Rch.step {g : List (List Int)} {s : List Bool} {v u : Nat} (h : Rch g s v u) (hu : u < g.length) {w : Int} (hw : w ∈ g.getD u []) (ho : s.getD w.toNat false = false) : Rch g s v w.toNat :=
  ⟨h.1, fun C hv hc => hc u hu (h.2 C hv hc) w hw ho⟩
theorem Rch.refl {g : List (List Int)} {s : List Bool} {v : Nat} (h : s.getD v false = false) : Rch g s v v := ⟨h, fun _ hv _ => hv⟩
theorem Rch.lt {g : List (List Int)} {s : List Bool} (hg : OkG g s) {v u : Nat} (hv : v < g.length) (h : Rch g s v u) : u < g.length :=
  h.2 (· < g.length) hv fun x hx _ w hw _ => by have := (hg.row x hx).2 w hw; omega
def qz (g : List (List Int)) (s : List Bool) (v : Nat) (m : Nat → Bool) (o : List Int) (r : List Int) (i a : Nat) (x : Int) : QZ := ⟨g, s, v, m, o, 0, r, i, 0, false, false, o.length, a, x, 0, [], []⟩
def lastZ (r : List Int) (i : Nat) : Int := if i = 0 then -1 else r.getD (i - 1) 0
theorem lastZ_lt {r : List Int} {i : Nat} (h : i < r.length) (h0 : ∀ j, j < r.length → 0 ≤ r.getD j 0) (hs : ∀ i, 0 < i → i < r.length → r.getD (i - 1) 0 < r.getD i 0) : lastZ r i < r.getD i 0 := by
  unfold lastZ
  split
  · have := h0 i h; omega
  · exact hs i (by omega) h
theorem lastZ_succ {r : List Int} {i : Nat} : lastZ r (i + 1) = r.getD i 0 := by unfold lastZ; simp

theorem gcb_run {g : List (List Int)} {s : List Bool} (hg : OkG g s) (hs : Asc g) (a : Nat) (ha : a < g.length) {R : St → Prop} {post : Exit → St → Prop}
    (hR : ∀ st, Ren 0 st (la38 (qz g s 0 (fun _ => false) [] [] 0 (a + 1) 0)) → R st) :
    T Try.prog 0 (.loop (loopC (loopC (bodyOf Try.f23) 0) 0)) (lb38 (qz g s 0 (fun _ => false) [] (g.getD a []) 0 a (-1))) (TK Try.prog 0 (andThen R post) (loopK (loopC (bodyOf Try.f23) 0) 0)) := by
  have hgl := hg.len
  have hl := gL_len g
  have hr1 := (hg.row a ha).1
  have hget := fun i => row_get hg ha (i := i)
  have hsr := hs a ha
  generalize g.getD a [] = r at hr1 hget hsr
  refine T.loop (fun i : Nat => lb38 (qz g s 0 (fun _ => false) [] r i a (lastZ r i))) (fun i => i ≤ r.length) (fun i => r.length + 1 - i) 0 (Nat.zero_le _) ?_
  intro i hi
  by_cases h : i < r.length
  · obtain ⟨x, hx, hx1, hx2⟩ := hget i h
    have hg1 := lI_get h
    have hlt := lastZ_lt h (fun j hj => by obtain ⟨y, hy, _⟩ := hget j hj; omega) hsr
    rw [hx] at hg1 hlt
    refine T.path mix (gcbr_0 ⟨g, s, 0, fun _ => false, [], 0, r, i, x, false, false, 0, a, lastZ r i, 0, [], []⟩ (decide_eq_true (by simp only [iN]; omega)) (by simp [iN]) hg1 (decide_eq_false (by simp only [iN]; omega)) (decide_eq_false (by simp only [iN, hl]; omega)) (by simp [iN]; omega) ?_)
    intro st hst
    simp only [iN, wrap_nat i (show i < 9223372036854775807 by omega)] at hst
    refine ⟨i + 1, ?_, h, by omega⟩
    rw [lastZ_succ, hx]
    exact hst
  · refine T.out mix (gcbx_0 (qz g s 0 (fun _ => false) [] r i a (lastZ r i)) (decide_eq_false (by simp only [iN, qz]; omega)) ?_)
    intro st hst
    simp only [iN, qz, wrap_nat a (show a < 9223372036854775807 by omega)] at hst
    exact hR st hst

theorem gcheck_ct {g : List (List Int)} {s : List Bool} (hg : OkG g s) (hs : Asc g) : CT Try.prog 23 [] [.lst (gL g), .lst (boL s)] [] (.int .i64 0) := by
  have hgl := hg.len
  have hl := gL_len g
  have hbl := boL_len s
  have hsl := hg.sh
  refine CT.path mix Try.func23 (show Try.f23.body = some (bodyOf Try.f23) by kernel_rfl) (Nat.le_of_ble_eq_true rfl) (gc_0 (qz g s 0 (fun _ => false) [] [] 0 0 0) (decide_eq_false (by simp only [iN, qz, hl]; omega)) ?_)
  simp only [qz, hl]
  refine T.loop (fun a : Nat => la38 (qz g s 0 (fun _ => false) [] [] 0 a 0)) (fun a => a ≤ g.length) (fun a => g.length + 1 - a) 0 (Nat.zero_le _) ?_
  intro a ha
  by_cases h : a < g.length
  · refine T.path mix (gca_0 (qz g s 0 (fun _ => false) [] (g.getD a []) 0 a 0) (decide_eq_true (by simp only [iN, qz]; omega)) (by simp [iN]) (gL_get h) ?_)
    simp only [qz, lI_len]
    exact gcb_run hg hs a h fun st hst => ⟨a + 1, hst, h, by omega⟩
  · exact T.out mix (gcx_0 (qz g s 0 (fun _ => false) [] [] 0 a 0) (decide_eq_false (by simp only [iN, qz]; omega)) (by simp [iN, qz, hl, hbl, hsl]))

/-- The search's state: marks and stack. -/
structure Srch (g : List (List Int)) (s : List Bool) (v : Nat) (m : Nat → Bool) (o : List Int) : Prop where
  stk : ∀ x ∈ o, ∃ u : Nat, x = (u : Int) ∧ u < g.length ∧ m u = true
  snd : ∀ u, m u = true → Rch g s v u
  beg : m v = true
  cnt : o.length + cnt m 24 ≤ 24
def ClosedAt (g : List (List Int)) (s : List Bool) (m : Nat → Bool) (u : Nat) : Prop := ∀ w ∈ g.getD u [], s.getD w.toNat false = false → m w.toNat = true
theorem ClosedAt.upd {g : List (List Int)} {s : List Bool} {m : Nat → Bool} {u : Nat} (h : ClosedAt g s m u) (w : Nat) : ClosedAt g s (upd m w) u := fun x hx ho => by unfold Go.Proofs.Ytcdgphdieemjcaa.upd; rw [h x hx ho]; simp
end Go.Proofs.Ytcdgphdieemjcaa

/-! The paths of a function, by evaluation. -/
open Go Go.AX Go.Proofs
set_option maxRecDepth 100000
set_option maxHeartbeats 4000000
set_option linter.unusedVariables false
namespace Go.Proofs.Ytcdgphdieemjcaa
structure QL where
  L : List Int
  g : List (List Int)
  s : List Bool
  v : Nat
  goal : Nat
  p : List Int
  d : List Int
  h : List Int
  rl : List Bool
  k : Nat
  w : Nat
  x : Int
  y : Int
  z : Int
  b : Bool
  sb : Bool
  r : List Int
  m1 : Nat
  m2 : Nat
def c6 (q : QL) : Nat → FuncId → List AV → List (Option Blk) → Hint := fun dst f args hp => match f with
  | 9 => match args with
    | [.ptr b _ _, _] => .call [b] [] [tapeB q.L q.m1] (.lst (gL q.g))
    | _ => .no
  | 10 => match args with
    | [.ptr b _ _, _] => .call [b] [] [tapeB q.L q.m2] (.lst (boL q.s))
    | _ => .no
  | 11 => nextG q.L args hp (match dst with | 34 => iN q.v | _ => iN q.goal)
  | 19 => .call [] [] [] (.bool true)
  | _ => .no
def e6 (q : QL) : List (Nat × AV) := [(106, .bool q.b), (116, .bool q.b), (120, .int .i64 q.x), (129, .int .i64 q.y), (138, .int .i64 q.z), (149, .int .i64 q.x), (161, .int .i64 (iN q.w)), (167, .int .i64 (iN q.w)), (177, .int .i64 (iN q.w)), (179, .bool q.sb), (192, .int .i64 (iN q.w)), (194, .int .i64 q.y), (199, .int .i64 q.y), (206, .int .i64 (iN q.w)), (208, lI q.r), (213, .int .i64 q.y)]
end Go.Proofs.Ytcdgphdieemjcaa

/-! Contracts. -/
open Go Go.AX Go.Proofs
set_option maxRecDepth 100000
set_option maxHeartbeats 1000000
set_option linter.unusedVariables false
set_option linter.unusedSimpArgs false
namespace Go.Proofs.Ytcdgphdieemjcaa
noncomputable def pthZ (g : List (List Int)) (d : List Int) (v : Nat) : List Int := if d.getD v 0 < 0 then [] else wkL g d v (d.getD v 0).toNat
end Go.Proofs.Ytcdgphdieemjcaa

/-! The paths of a function, by evaluation. -/
open Go Go.AX Go.Proofs
set_option maxRecDepth 100000
set_option maxHeartbeats 4000000
set_option linter.unusedVariables false
namespace Go.Proofs.Ytcdgphdieemjcaa
structure QB where
  g : List (List Int)
  s : List Bool
  goal : Nat
  n : Nat
  d : List Int
  o : List Int
  w : Nat
  v : Nat
  r : List Int
  i : Nat
  u : Nat
  x : Int
  y : Int
  bz : Int
  sb : Bool
  p : List Int
def cB (q : QB) : Nat → FuncId → List AV → List (Option Blk) → Hint := fun dst f args hp => match f with
  | 23 => .call [] [] [] (.int .i64 0)
  | 30 => .call [] [] [] (lI q.d)
  | 24 => .call [] [] [] (lI q.p)
  | _ => .no
noncomputable def st42 (q : QB) : St := { n := Try.f30.ntmps, fr := [(0, .lst (gL q.g)), (1, .lst (boL q.s)), (2, .int .i64 (iN q.goal))], hp := [] }
noncomputable def lf42 (q : QB) : St := { n := Try.f30.ntmps, fr := [(0, .lst (gL q.g)), (1, .lst (boL q.s)), (2, .int .i64 (iN q.goal)), (7, .sl 0 0 q.n), (19, .int .i64 (iN q.n)), (20, .int .i64 (iN q.i))], hp := [some (dB q.d)] }
noncomputable def lo42 (q : QB) : St := { n := Try.f30.ntmps, fr := [(0, .lst (gL q.g)), (1, .lst (boL q.s)), (7, .sl 0 0 q.n), (9, lI q.o)], hp := [some (dB q.d)] }
noncomputable def la42 (q : QB) : St := { n := Try.f30.ntmps, fr := [(0, .lst (gL q.g)), (1, .lst (boL q.s)), (7, .sl 0 0 q.n), (9, .lstc (q.o.map (AV.int .i64))), (10, .int .i64 (iN q.w)), (44, .lst (gL q.g)), (45, .int .i64 (iN q.n)), (46, .int .i64 (iN q.v))], hp := [some (dB q.d)] }
noncomputable def lb42 (q : QB) : St := { n := Try.f30.ntmps, fr := [(0, .lst (gL q.g)), (1, .lst (boL q.s)), (7, .sl 0 0 q.n), (9, .sl 1 0 q.o.length), (10, .int .i64 (iN q.w)), (44, .lst (gL q.g)), (45, .int .i64 (iN q.n)), (46, .int .i64 (iN q.v))], hp := [some (dB q.d), some (dB q.o)] }
noncomputable def lc42 (q : QB) : St := { n := Try.f30.ntmps, fr := [(0, .lst (gL q.g)), (1, .lst (boL q.s)), (7, .sl 0 0 q.n), (9, .lstc (q.o.map (AV.int .i64))), (10, .int .i64 (iN q.w)), (11, .int .i64 (iN q.v)), (44, .lst (gL q.g)), (45, .int .i64 (iN q.n)), (46, .int .i64 (iN q.v)), (62, lI q.r), (63, .int .i64 (iN q.r.length)), (64, .int .i64 (iN q.i))], hp := [some (dB q.d)] }
noncomputable def ld42 (q : QB) : St := { n := Try.f30.ntmps, fr := [(0, .lst (gL q.g)), (1, .lst (boL q.s)), (7, .sl 0 0 q.n), (9, .sl 1 0 q.o.length), (10, .int .i64 (iN q.w)), (11, .int .i64 (iN q.v)), (44, .lst (gL q.g)), (45, .int .i64 (iN q.n)), (46, .int .i64 (iN q.v)), (62, lI q.r), (63, .int .i64 (iN q.r.length)), (64, .int .i64 (iN q.i))], hp := [some (dB q.d), some (dB q.o)] }
def e42 (q : QB) : List (Nat × AV) := [(36, .int .i64 (iN q.w)), (49, lI q.r), (54, .int .i64 q.x), (59, .bool q.sb), (66, .int .i64 (iN q.u)), (76, .int .i64 q.x)]
noncomputable def st39 (q : QB) : St := { n := Try.f24.ntmps, fr := [(0, .lst (gL q.g)), (1, .lst (boL q.s)), (2, .int .i64 (iN q.goal))], hp := [] }
noncomputable def lo39 (q : QB) : St := { n := Try.f24.ntmps, fr := [(0, .lst (gL q.g)), (2, .int .i64 (iN q.goal)), (7, lI q.d), (8, .sl 0 0 q.p.length), (9, .int .i64 (iN q.v))], hp := [some (dB q.p)] }
noncomputable def li39 (q : QB) : St := { n := Try.f24.ntmps, fr := [(0, .lst (gL q.g)), (2, .int .i64 (iN q.goal)), (7, lI q.d), (8, .sl 0 0 q.p.length), (10, .int .i64 q.bz), (27, lI q.r), (28, .int .i64 (iN q.r.length)), (29, .int .i64 (iN q.i))], hp := [some (dB q.p)] }
def e39 (q : QB) : List (Nat × AV) := [(15, .bool q.sb), (26, lI q.r), (31, .int .i64 (iN q.u)), (35, .int .i64 q.x), (44, .int .i64 q.x), (48, .int .i64 q.y)]
noncomputable def st24 (q : QB) : St := { n := Try.f14.ntmps, fr := [(0, .lst (gL q.g)), (1, .lst (boL q.s)), (2, .int .i64 (iN q.goal))], hp := [] }
def e24 (q : QB) : List (Nat × AV) := []
theorem bi_0 (q : QB) (h1 : (iN (gL q.g).length ≤ iN (gL q.g).length)) (h2 : (8 * iN (gL q.g).length ≤ 281474976710656)) (h3 : (iN (gL q.g).length ≤ 9223372036854775807)) {post : Exit → St → Prop} (ht : T Try.prog 0 (.loop (loopC (bodyOf Try.f30) 0)) (St.mk 86 [(0, AV.lst (gL q.g)), (1, AV.lst (boL q.s)), (2, AV.int IntKind.i64 (iN q.goal)), (7, AV.sl 0 0 (gL q.g).length), (19, AV.int IntKind.i64 (iN (gL q.g).length)), (20, AV.int IntKind.i64 0)] [some (Blk.mk (List.replicate (gL q.g).length (AV.int IntKind.i64 0)) 1 true true)]) (TK Try.prog 0 post (loopK (bodyOf Try.f30) 0))) : ∃ o' st' q', go Try.prog ({ dec := [], els := e42 q, calls := cB q, unroll := false } : HT) 0 4000 (.inl (bodyOf Try.f30)) [] (st42 q) = some (o', st', q') ∧ q' ∧ Go.AX.Rest Try.prog 0 post st' o' :=
  endR_spec (σ := [0]) (fz := []) (vars := [0,1,2,7,19,20]) (show endR 0 [0] [] [0,1,2,7,19,20] (go Try.prog ({ dec := [], els := e42 q, calls := cB q, unroll := false } : HT) 0 4000 (.inl (bodyOf Try.f30)) [] (st42 q)) = some (loopC (bodyOf Try.f30) 0, loopK (bodyOf Try.f30) 0, St.mk 86 [(0, AV.lst (gL q.g)), (1, AV.lst (boL q.s)), (2, AV.int IntKind.i64 (iN q.goal)), (7, AV.sl 0 0 (gL q.g).length), (19, AV.int IntKind.i64 (iN (gL q.g).length)), (20, AV.int IntKind.i64 0)] [some (Blk.mk (List.replicate (gL q.g).length (AV.int IntKind.i64 0)) 1 true true)], (((True ∧ True) ∧ (((True ∧ True) ∧ ((True ∧ True) ∧ ((True ∧ (True ∧ ((0 ≤ iN (gL q.g).length) ∧ ((type_of% h1) ∧ ((type_of% h2) ∧ (type_of% h3)))))) ∧ ((True ∧ True) ∧ True)))) ∧ (((True ∧ True) ∧ ((True ∧ True) ∧ (True ∧ True))) ∧ True))) ∧ (True ∧ (True ∧ (True ∧ (True ∧ (True ∧ (True ∧ (True ∧ True))))))))) by kernel_rfl) ⟨⟨⟨trivial, trivial⟩, ⟨⟨⟨trivial, trivial⟩, ⟨⟨trivial, trivial⟩, ⟨⟨trivial, ⟨trivial, ⟨(Int.natCast_nonneg _), ⟨h1, ⟨h2, h3⟩⟩⟩⟩⟩, ⟨⟨trivial, trivial⟩, trivial⟩⟩⟩⟩, ⟨⟨⟨trivial, trivial⟩, ⟨⟨trivial, trivial⟩, ⟨trivial, trivial⟩⟩⟩, trivial⟩⟩⟩, ⟨trivial, ⟨trivial, ⟨trivial, ⟨trivial, ⟨trivial, ⟨trivial, ⟨trivial, trivial⟩⟩⟩⟩⟩⟩⟩⟩ ht
theorem bfr_0 (q : QB) (h1 : (decide (iN q.i < iN q.n) = true)) (h2 : (0 ≤ iN q.i)) (h3 : (iN q.i < iN q.n)) (h4 : ((0 + (iN q.i).toNat).succ.le (List.map (AV.int IntKind.i64) q.d).length)) {post : Exit → St → Prop} {R : St → Prop} (hR : ∀ st, Ren 0 st (St.mk 86 [(0, AV.lst (gL q.g)), (1, AV.lst (boL q.s)), (2, AV.int IntKind.i64 (iN q.goal)), (7, AV.sl 0 0 q.n), (19, AV.int IntKind.i64 (iN q.n)), (20, AV.int IntKind.i64 (IntKind.i64.wrap (iN q.i + 1)))] [some (Blk.mk ((List.map (AV.int IntKind.i64) q.d).set (0 + (iN q.i).toNat) (AV.int IntKind.i64 (-1))) 1 true true)]) → R st) : ∃ o' st' q', go Try.prog ({ dec := [(21, true)], els := e42 q, calls := cB q, unroll := false } : HT) 0 4000 (.inl (loopC (bodyOf Try.f30) 0)) [] (lf42 q) = some (o', st', q') ∧ q' ∧ Go.AX.Rest Try.prog 0 (andThen R post) st' o' :=
  endN_spec (σ := [0]) (fz := []) (vars := [0,1,2,7,19,20]) (show endN 0 [0] [] [0,1,2,7,19,20] (go Try.prog ({ dec := [(21, true)], els := e42 q, calls := cB q, unroll := false } : HT) 0 4000 (.inl (loopC (bodyOf Try.f30) 0)) [] (lf42 q)) = some (St.mk 86 [(0, AV.lst (gL q.g)), (1, AV.lst (boL q.s)), (2, AV.int IntKind.i64 (iN q.goal)), (7, AV.sl 0 0 q.n), (19, AV.int IntKind.i64 (iN q.n)), (20, AV.int IntKind.i64 (IntKind.i64.wrap (iN q.i + 1)))] [some (Blk.mk ((List.map (AV.int IntKind.i64) q.d).set (0 + (iN q.i).toNat) (AV.int IntKind.i64 (-1))) 1 true true)], ((((True ∧ (True ∧ True)) ∧ True) ∧ ((type_of% h1) ∧ (((True ∧ True) ∧ ((True ∧ True) ∧ True)) ∧ (((True ∧ True) ∧ ((True ∧ True) ∧ ((True ∧ (True ∧ ((type_of% h2) ∧ (type_of% h3)))) ∧ ((True ∧ (type_of% h4)) ∧ True)))) ∧ (((True ∧ True) ∧ ((True ∧ True) ∧ True)) ∧ True))))) ∧ (True ∧ (True ∧ (True ∧ (True ∧ (True ∧ (True ∧ (True ∧ True))))))))) by kernel_rfl) ⟨⟨⟨⟨trivial, ⟨trivial, trivial⟩⟩, trivial⟩, ⟨h1, ⟨⟨⟨trivial, trivial⟩, ⟨⟨trivial, trivial⟩, trivial⟩⟩, ⟨⟨⟨trivial, trivial⟩, ⟨⟨trivial, trivial⟩, ⟨⟨trivial, ⟨trivial, ⟨h2, h3⟩⟩⟩, ⟨⟨trivial, h4⟩, trivial⟩⟩⟩⟩, ⟨⟨⟨trivial, trivial⟩, ⟨⟨trivial, trivial⟩, trivial⟩⟩, trivial⟩⟩⟩⟩⟩, ⟨trivial, ⟨trivial, ⟨trivial, ⟨trivial, ⟨trivial, ⟨trivial, ⟨trivial, trivial⟩⟩⟩⟩⟩⟩⟩⟩ hR
theorem bfx_0 (q : QB) (h1 : (decide (iN q.i < iN q.n) = false)) (h2 : (0 ≤ iN q.goal)) (h3 : (iN q.goal < iN q.n)) (h4 : ((0 + (iN q.goal).toNat).succ.le (List.map (AV.int IntKind.i64) q.d).length)) (h5 : (1 = [AV.int IntKind.i64 (iN q.goal)].length)) {post : Exit → St → Prop} (ht : T Try.prog 0 (.loop (loopC (bodyOf Try.f30) 1)) (St.mk 86 [(0, AV.lst (gL q.g)), (1, AV.lst (boL q.s)), (7, AV.sl 0 0 q.n), (9, AV.lst [AV.int IntKind.i64 (iN q.goal)])] [some (Blk.mk ((List.map (AV.int IntKind.i64) q.d).set (0 + (iN q.goal).toNat) (AV.int IntKind.i64 0)) 1 true true)]) (TK Try.prog 0 post (loopK (bodyOf Try.f30) 1))) : ∃ o' st' q', go2 Try.prog ({ dec := [(21, false)], els := e42 q, calls := cB q, unroll := false } : HT) 0 4000 (loopC (bodyOf Try.f30) 0) (loopK (bodyOf Try.f30) 0) (lf42 q) = some (o', st', q') ∧ q' ∧ Go.AX.Rest Try.prog 0 post st' o' :=
  endR_spec (σ := [0]) (fz := [1]) (vars := [0,1,7,9]) (show endR 0 [0] [1] [0,1,7,9] (go2 Try.prog ({ dec := [(21, false)], els := e42 q, calls := cB q, unroll := false } : HT) 0 4000 (loopC (bodyOf Try.f30) 0) (loopK (bodyOf Try.f30) 0) (lf42 q)) = some (loopC (bodyOf Try.f30) 1, loopK (bodyOf Try.f30) 1, St.mk 86 [(0, AV.lst (gL q.g)), (1, AV.lst (boL q.s)), (7, AV.sl 0 0 q.n), (9, AV.lst [AV.int IntKind.i64 (iN q.goal)])] [some (Blk.mk ((List.map (AV.int IntKind.i64) q.d).set (0 + (iN q.goal).toNat) (AV.int IntKind.i64 0)) 1 true true)], (((((True ∧ (True ∧ True)) ∧ True) ∧ ((type_of% h1) ∧ True)) ∧ (((True ∧ True) ∧ ((True ∧ True) ∧ ((True ∧ (True ∧ ((type_of% h2) ∧ (type_of% h3)))) ∧ ((True ∧ (type_of% h4)) ∧ True)))) ∧ (((True ∧ True) ∧ ((True ∧ True) ∧ ((True ∧ True) ∧ True))) ∧ True))) ∧ (True ∧ (True ∧ (True ∧ ((type_of% h5) ∧ (True ∧ True))))))) by kernel_rfl) ⟨⟨⟨⟨⟨trivial, ⟨trivial, trivial⟩⟩, trivial⟩, ⟨h1, trivial⟩⟩, ⟨⟨⟨trivial, trivial⟩, ⟨⟨trivial, trivial⟩, ⟨⟨trivial, ⟨trivial, ⟨h2, h3⟩⟩⟩, ⟨⟨trivial, h4⟩, trivial⟩⟩⟩⟩, ⟨⟨⟨trivial, trivial⟩, ⟨⟨trivial, trivial⟩, ⟨⟨trivial, trivial⟩, trivial⟩⟩⟩, trivial⟩⟩⟩, ⟨trivial, ⟨trivial, ⟨trivial, ⟨h5, ⟨trivial, trivial⟩⟩⟩⟩⟩⟩ ht
theorem bo_0 (q : QB) (h1 : (decide (0 < iN (List.map (AV.int IntKind.i64) q.o).length) = true)) (h2 : ((List.map (AV.int IntKind.i64) q.o)[Int.toNat 0]? = some (AV.int IntKind.i64 (iN q.w)))) (h3 : (∀ (e : AV), e ∈ List.map (AV.int IntKind.i64) q.o → e.cells.length = 1)) (h4 : (1 ≤ iN (List.map (AV.int IntKind.i64) q.o).length)) (h5 : (iN (List.map (AV.int IntKind.i64) q.o).length ≤ iN (List.map (AV.int IntKind.i64) q.o).length)) {post : Exit → St → Prop} (ht : T Try.prog 0 (.loop (loopC (loopC (bodyOf Try.f30) 1) 0)) (St.mk 86 [(0, AV.lst (gL q.g)), (1, AV.lst (boL q.s)), (7, AV.sl 0 0 q.n), (9, AV.lstc (List.take ((List.map (AV.int IntKind.i64) q.o).length - Int.toNat 1) (List.drop (Int.toNat 1) (List.map (AV.int IntKind.i64) q.o)))), (10, AV.int IntKind.i64 (iN q.w)), (44, AV.lst (gL q.g)), (45, AV.int IntKind.i64 (iN (gL q.g).length)), (46, AV.int IntKind.i64 0)] [some (Blk.mk (List.map (AV.int IntKind.i64) q.d) 1 true true)]) (TK Try.prog 0 post (loopK (loopC (bodyOf Try.f30) 1) 0))) : ∃ o' st' q', go Try.prog ({ dec := [(34, true)], els := e42 q, calls := cB q, unroll := false } : HT) 0 4000 (.inl (loopC (bodyOf Try.f30) 1)) [] (lo42 q) = some (o', st', q') ∧ q' ∧ Go.AX.Rest Try.prog 0 post st' o' :=
  endR_spec (σ := [0]) (fz := []) (vars := [0,1,7,9,10,44,45,46]) (show endR 0 [0] [] [0,1,7,9,10,44,45,46] (go Try.prog ({ dec := [(34, true)], els := e42 q, calls := cB q, unroll := false } : HT) 0 4000 (.inl (loopC (bodyOf Try.f30) 1)) [] (lo42 q)) = some (loopC (loopC (bodyOf Try.f30) 1) 0, loopK (loopC (bodyOf Try.f30) 1) 0, St.mk 86 [(0, AV.lst (gL q.g)), (1, AV.lst (boL q.s)), (7, AV.sl 0 0 q.n), (9, AV.lstc (List.take ((List.map (AV.int IntKind.i64) q.o).length - Int.toNat 1) (List.drop (Int.toNat 1) (List.map (AV.int IntKind.i64) q.o)))), (10, AV.int IntKind.i64 (iN q.w)), (44, AV.lst (gL q.g)), (45, AV.int IntKind.i64 (iN (gL q.g).length)), (46, AV.int IntKind.i64 0)] [some (Blk.mk (List.map (AV.int IntKind.i64) q.d) 1 true true)], ((((True ∧ True) ∧ ((True ∧ True) ∧ ((True ∧ True) ∧ True))) ∧ ((type_of% h1) ∧ (((True ∧ True) ∧ ((True ∧ (((0 : Int) ≤ (0 : Int)) ∧ (type_of% h2))) ∧ ((True ∧ True) ∧ ((True ∧ True) ∧ True)))) ∧ (((True ∧ True) ∧ ((True ∧ True) ∧ ((True ∧ True) ∧ ((True ∧ True) ∧ ((True ∧ True) ∧ ((True ∧ (True ∧ (True ∧ ((type_of% h3) ∧ (((0 : Int) ≤ (1 : Int)) ∧ ((type_of% h4) ∧ ((iN (List.map (AV.int IntKind.i64) q.o).length = iN (List.map (AV.int IntKind.i64) q.o).length) ∧ (type_of% h5)))))))) ∧ ((True ∧ True) ∧ True))))))) ∧ (((True ∧ True) ∧ ((True ∧ True) ∧ (True ∧ True))) ∧ True))))) ∧ (True ∧ (True ∧ (True ∧ (True ∧ (True ∧ (True ∧ (True ∧ (True ∧ (True ∧ True))))))))))) by kernel_rfl) ⟨⟨⟨⟨trivial, trivial⟩, ⟨⟨trivial, trivial⟩, ⟨⟨trivial, trivial⟩, trivial⟩⟩⟩, ⟨h1, ⟨⟨⟨trivial, trivial⟩, ⟨⟨trivial, ⟨(by first | exact Nat.le_of_ble_eq_true rfl | decide), h2⟩⟩, ⟨⟨trivial, trivial⟩, ⟨⟨trivial, trivial⟩, trivial⟩⟩⟩⟩, ⟨⟨⟨trivial, trivial⟩, ⟨⟨trivial, trivial⟩, ⟨⟨trivial, trivial⟩, ⟨⟨trivial, trivial⟩, ⟨⟨trivial, trivial⟩, ⟨⟨trivial, ⟨trivial, ⟨trivial, ⟨h3, ⟨(by first | exact Nat.le_of_ble_eq_true rfl | decide), ⟨h4, ⟨rfl, h5⟩⟩⟩⟩⟩⟩⟩, ⟨⟨trivial, trivial⟩, trivial⟩⟩⟩⟩⟩⟩⟩, ⟨⟨⟨trivial, trivial⟩, ⟨⟨trivial, trivial⟩, ⟨trivial, trivial⟩⟩⟩, trivial⟩⟩⟩⟩⟩, ⟨trivial, ⟨trivial, ⟨trivial, ⟨trivial, ⟨trivial, ⟨trivial, ⟨trivial, ⟨trivial, ⟨trivial, trivial⟩⟩⟩⟩⟩⟩⟩⟩⟩⟩ ht
theorem box_0 (q : QB) (h1 : (decide (0 < iN (List.map (AV.int IntKind.i64) q.o).length) = false)) (h2 : (q.n = (List.map (AV.int IntKind.i64) q.d).length)) : ∃ o' st' q', go2 Try.prog ({ dec := [(34, false)], els := e42 q, calls := cB q, unroll := false } : HT) 0 4000 (loopC (bodyOf Try.f30) 1) (loopK (bodyOf Try.f30) 1) (lo42 q) = some (o', st', q') ∧ q' ∧ Go.AX.Rest Try.prog 0 (Fin Try.prog Try.f30 0 [] (AV.lst (List.map (AV.int IntKind.i64) q.d))) st' o' :=
  endF_spec (σ := []) (fz := [0]) (show endF Try.prog Try.f30 0 [] [0] (go2 Try.prog ({ dec := [(34, false)], els := e42 q, calls := cB q, unroll := false } : HT) 0 4000 (loopC (bodyOf Try.f30) 1) (loopK (bodyOf Try.f30) 1) (lo42 q)) = some ([], AV.lst (List.map (AV.int IntKind.i64) q.d), (((((True ∧ True) ∧ ((True ∧ True) ∧ ((True ∧ True) ∧ True))) ∧ ((type_of% h1) ∧ True)) ∧ (((True ∧ True) ∧ ((True ∧ True) ∧ True)) ∧ True)) ∧ ((type_of% h2) ∧ True))) by kernel_rfl) ⟨⟨⟨⟨⟨trivial, trivial⟩, ⟨⟨trivial, trivial⟩, ⟨⟨trivial, trivial⟩, trivial⟩⟩⟩, ⟨h1, trivial⟩⟩, ⟨⟨⟨trivial, trivial⟩, ⟨⟨trivial, trivial⟩, trivial⟩⟩, trivial⟩⟩, ⟨h2, trivial⟩⟩
theorem bax_0 (q : QB) (h1 : (decide (iN q.v < iN q.n) = false)) {post : Exit → St → Prop} {R : St → Prop} (hR : ∀ st, Ren 0 st (St.mk 86 [(0, AV.lst (gL q.g)), (1, AV.lst (boL q.s)), (7, AV.sl 0 0 q.n), (9, AV.lstc (List.map (AV.int IntKind.i64) q.o))] [some (Blk.mk (List.map (AV.int IntKind.i64) q.d) 1 true true)]) → R st) : ∃ o' st' q', go2 Try.prog ({ dec := [(47, false)], els := e42 q, calls := cB q, unroll := false } : HT) 0 4000 (loopC (loopC (bodyOf Try.f30) 1) 0) (loopK (loopC (bodyOf Try.f30) 1) 0) (la42 q) = some (o', st', q') ∧ q' ∧ Go.AX.Rest Try.prog 0 (andThen R post) st' o' :=
  endN_spec (σ := [0]) (fz := []) (vars := [0,1,7,9]) (show endN 0 [0] [] [0,1,7,9] (go2 Try.prog ({ dec := [(47, false)], els := e42 q, calls := cB q, unroll := false } : HT) 0 4000 (loopC (loopC (bodyOf Try.f30) 1) 0) (loopK (loopC (bodyOf Try.f30) 1) 0) (la42 q)) = some (St.mk 86 [(0, AV.lst (gL q.g)), (1, AV.lst (boL q.s)), (7, AV.sl 0 0 q.n), (9, AV.lstc (List.map (AV.int IntKind.i64) q.o))] [some (Blk.mk (List.map (AV.int IntKind.i64) q.d) 1 true true)], (((((True ∧ (True ∧ True)) ∧ True) ∧ ((type_of% h1) ∧ True)) ∧ True) ∧ (True ∧ (True ∧ (True ∧ (True ∧ (True ∧ True))))))) by kernel_rfl) ⟨⟨⟨⟨⟨trivial, ⟨trivial, trivial⟩⟩, trivial⟩, ⟨h1, trivial⟩⟩, trivial⟩, ⟨trivial, ⟨trivial, ⟨trivial, ⟨trivial, ⟨trivial, trivial⟩⟩⟩⟩⟩⟩ hR
theorem bbx_0 (q : QB) (h1 : (decide (iN q.v < iN q.n) = false)) (h2 : (q.o.length = (List.map (AV.int IntKind.i64) q.o).length)) {post : Exit → St → Prop} {R : St → Prop} (hR : ∀ st, Ren 0 st (St.mk 86 [(0, AV.lst (gL q.g)), (1, AV.lst (boL q.s)), (7, AV.sl 0 0 q.n), (9, AV.lst (List.map (AV.int IntKind.i64) q.o))] [some (Blk.mk (List.map (AV.int IntKind.i64) q.d) 1 true true)]) → R st) : ∃ o' st' q', go2 Try.prog ({ dec := [(47, false)], els := e42 q, calls := cB q, unroll := false } : HT) 0 4000 (loopC (loopC (bodyOf Try.f30) 1) 0) (loopK (loopC (bodyOf Try.f30) 1) 0) (lb42 q) = some (o', st', q') ∧ q' ∧ Go.AX.Rest Try.prog 0 (andThen R post) st' o' :=
  endN_spec (σ := [0]) (fz := [1]) (vars := [0,1,7,9]) (show endN 0 [0] [1] [0,1,7,9] (go2 Try.prog ({ dec := [(47, false)], els := e42 q, calls := cB q, unroll := false } : HT) 0 4000 (loopC (loopC (bodyOf Try.f30) 1) 0) (loopK (loopC (bodyOf Try.f30) 1) 0) (lb42 q)) = some (St.mk 86 [(0, AV.lst (gL q.g)), (1, AV.lst (boL q.s)), (7, AV.sl 0 0 q.n), (9, AV.lst (List.map (AV.int IntKind.i64) q.o))] [some (Blk.mk (List.map (AV.int IntKind.i64) q.d) 1 true true)], (((((True ∧ (True ∧ True)) ∧ True) ∧ ((type_of% h1) ∧ True)) ∧ True) ∧ (True ∧ (True ∧ (True ∧ ((type_of% h2) ∧ (True ∧ True))))))) by kernel_rfl) ⟨⟨⟨⟨⟨trivial, ⟨trivial, trivial⟩⟩, trivial⟩, ⟨h1, trivial⟩⟩, trivial⟩, ⟨trivial, ⟨trivial, ⟨trivial, ⟨h2, ⟨trivial, trivial⟩⟩⟩⟩⟩⟩ hR
theorem bas_0 (q : QB) (h1 : (decide (iN q.v < iN q.n) = true)) (h2 : (0 ≤ iN q.v)) (h3 : ((gL q.g)[(iN q.v).toNat]? = some (AV.lst (List.map (AV.int IntKind.i64) q.r)))) (h4 : (iN q.v < iN q.n)) (h5 : ((List.map (AV.int IntKind.i64) q.d)[0 + (iN q.v).toNat]? = some (AV.int IntKind.i64 q.x))) (h6 : (decide (0 ≤ q.x) = true)) {post : Exit → St → Prop} {R : St → Prop} (hR : ∀ st, Ren 0 st (St.mk 86 [(0, AV.lst (gL q.g)), (1, AV.lst (boL q.s)), (7, AV.sl 0 0 q.n), (9, AV.lstc (List.map (AV.int IntKind.i64) q.o)), (10, AV.int IntKind.i64 (iN q.w)), (44, AV.lst (gL q.g)), (45, AV.int IntKind.i64 (iN q.n)), (46, AV.int IntKind.i64 (IntKind.i64.wrap (iN q.v + 1)))] [some (Blk.mk (List.map (AV.int IntKind.i64) q.d) 1 true true)]) → R st) : ∃ o' st' q', go Try.prog ({ dec := [(47, true), (61, true), (56, true)], els := e42 q, calls := cB q, unroll := false } : HT) 0 4000 (.inl (loopC (loopC (bodyOf Try.f30) 1) 0)) [] (la42 q) = some (o', st', q') ∧ q' ∧ Go.AX.Rest Try.prog 0 (andThen R post) st' o' :=
  endN_spec (σ := [0]) (fz := []) (vars := [0,1,7,9,10,44,45,46]) (show endN 0 [0] [] [0,1,7,9,10,44,45,46] (go Try.prog ({ dec := [(47, true), (61, true), (56, true)], els := e42 q, calls := cB q, unroll := false } : HT) 0 4000 (.inl (loopC (loopC (bodyOf Try.f30) 1) 0)) [] (la42 q)) = some (St.mk 86 [(0, AV.lst (gL q.g)), (1, AV.lst (boL q.s)), (7, AV.sl 0 0 q.n), (9, AV.lstc (List.map (AV.int IntKind.i64) q.o)), (10, AV.int IntKind.i64 (iN q.w)), (44, AV.lst (gL q.g)), (45, AV.int IntKind.i64 (iN q.n)), (46, AV.int IntKind.i64 (IntKind.i64.wrap (iN q.v + 1)))] [some (Blk.mk (List.map (AV.int IntKind.i64) q.d) 1 true true)], ((((True ∧ (True ∧ True)) ∧ True) ∧ ((type_of% h1) ∧ (((True ∧ True) ∧ ((True ∧ (True ∧ ((type_of% h2) ∧ (type_of% h3)))) ∧ ((True ∧ True) ∧ ((True ∧ True) ∧ ((True ∧ True) ∧ True))))) ∧ (((True ∧ True) ∧ ((True ∧ True) ∧ ((True ∧ (True ∧ ((type_of% h2) ∧ (type_of% h4)))) ∧ ((True ∧ (type_of% h5)) ∧ ((True ∧ True) ∧ ((True ∧ True) ∧ ((type_of% h6) ∧ ((type_of% h6) ∧ ((type_of% h6) ∧ ((type_of% h6) ∧ (((type_of% h6) ∧ (True ∧ True)) ∧ True))))))))))) ∧ ((true = true) ∧ (((True ∧ True) ∧ ((True ∧ True) ∧ True)) ∧ True)))))) ∧ (True ∧ (True ∧ (True ∧ (True ∧ (True ∧ (True ∧ (True ∧ (True ∧ (True ∧ True))))))))))) by kernel_rfl) ⟨⟨⟨⟨trivial, ⟨trivial, trivial⟩⟩, trivial⟩, ⟨h1, ⟨⟨⟨trivial, trivial⟩, ⟨⟨trivial, ⟨trivial, ⟨h2, h3⟩⟩⟩, ⟨⟨trivial, trivial⟩, ⟨⟨trivial, trivial⟩, ⟨⟨trivial, trivial⟩, trivial⟩⟩⟩⟩⟩, ⟨⟨⟨trivial, trivial⟩, ⟨⟨trivial, trivial⟩, ⟨⟨trivial, ⟨trivial, ⟨h2, h4⟩⟩⟩, ⟨⟨trivial, h5⟩, ⟨⟨trivial, trivial⟩, ⟨⟨trivial, trivial⟩, ⟨h6, ⟨h6, ⟨h6, ⟨h6, ⟨⟨h6, ⟨trivial, trivial⟩⟩, trivial⟩⟩⟩⟩⟩⟩⟩⟩⟩⟩⟩, ⟨(by first | decide | exact Int.NonNeg.mk _), ⟨⟨⟨trivial, trivial⟩, ⟨⟨trivial, trivial⟩, trivial⟩⟩, trivial⟩⟩⟩⟩⟩⟩, ⟨trivial, ⟨trivial, ⟨trivial, ⟨trivial, ⟨trivial, ⟨trivial, ⟨trivial, ⟨trivial, ⟨trivial, trivial⟩⟩⟩⟩⟩⟩⟩⟩⟩⟩ hR
theorem bas_1 (q : QB) (h1 : (decide (iN q.v < iN q.n) = true)) (h2 : (0 ≤ iN q.v)) (h3 : ((gL q.g)[(iN q.v).toNat]? = some (AV.lst (List.map (AV.int IntKind.i64) q.r)))) (h4 : (iN q.v < iN q.n)) (h5 : ((List.map (AV.int IntKind.i64) q.d)[0 + (iN q.v).toNat]? = some (AV.int IntKind.i64 q.x))) (h6 : (decide (0 ≤ q.x) = false)) (h7 : ((boL q.s)[(iN q.v).toNat]? = some (AV.bool q.sb))) (h8 : (q.sb = true)) {post : Exit → St → Prop} {R : St → Prop} (hR : ∀ st, Ren 0 st (St.mk 86 [(0, AV.lst (gL q.g)), (1, AV.lst (boL q.s)), (7, AV.sl 0 0 q.n), (9, AV.lstc (List.map (AV.int IntKind.i64) q.o)), (10, AV.int IntKind.i64 (iN q.w)), (44, AV.lst (gL q.g)), (45, AV.int IntKind.i64 (iN q.n)), (46, AV.int IntKind.i64 (IntKind.i64.wrap (iN q.v + 1)))] [some (Blk.mk (List.map (AV.int IntKind.i64) q.d) 1 true true)]) → R st) : ∃ o' st' q', go Try.prog ({ dec := [(47, true), (61, true), (56, false)], els := e42 q, calls := cB q, unroll := false } : HT) 0 4000 (.inl (loopC (loopC (bodyOf Try.f30) 1) 0)) [] (la42 q) = some (o', st', q') ∧ q' ∧ Go.AX.Rest Try.prog 0 (andThen R post) st' o' :=
  endN_spec (σ := [0]) (fz := []) (vars := [0,1,7,9,10,44,45,46]) (show endN 0 [0] [] [0,1,7,9,10,44,45,46] (go Try.prog ({ dec := [(47, true), (61, true), (56, false)], els := e42 q, calls := cB q, unroll := false } : HT) 0 4000 (.inl (loopC (loopC (bodyOf Try.f30) 1) 0)) [] (la42 q)) = some (St.mk 86 [(0, AV.lst (gL q.g)), (1, AV.lst (boL q.s)), (7, AV.sl 0 0 q.n), (9, AV.lstc (List.map (AV.int IntKind.i64) q.o)), (10, AV.int IntKind.i64 (iN q.w)), (44, AV.lst (gL q.g)), (45, AV.int IntKind.i64 (iN q.n)), (46, AV.int IntKind.i64 (IntKind.i64.wrap (iN q.v + 1)))] [some (Blk.mk (List.map (AV.int IntKind.i64) q.d) 1 true true)], ((((True ∧ (True ∧ True)) ∧ True) ∧ ((type_of% h1) ∧ (((True ∧ True) ∧ ((True ∧ (True ∧ ((type_of% h2) ∧ (type_of% h3)))) ∧ ((True ∧ True) ∧ ((True ∧ True) ∧ ((True ∧ True) ∧ True))))) ∧ (((True ∧ True) ∧ ((True ∧ True) ∧ ((True ∧ (True ∧ ((type_of% h2) ∧ (type_of% h4)))) ∧ ((True ∧ (type_of% h5)) ∧ ((True ∧ True) ∧ ((True ∧ True) ∧ (((type_of% h6) ∧ (True ∧ True)) ∧ (((type_of% h6) ∧ (True ∧ True)) ∧ (((type_of% h6) ∧ (True ∧ (True ∧ ((type_of% h2) ∧ (type_of% h7))))) ∧ (((type_of% h6) ∧ (True ∧ True)) ∧ (((type_of% h6) ∧ (True ∧ True)) ∧ True))))))))))) ∧ ((type_of% h8) ∧ (((True ∧ True) ∧ ((True ∧ True) ∧ True)) ∧ True)))))) ∧ (True ∧ (True ∧ (True ∧ (True ∧ (True ∧ (True ∧ (True ∧ (True ∧ (True ∧ True))))))))))) by kernel_rfl) ⟨⟨⟨⟨trivial, ⟨trivial, trivial⟩⟩, trivial⟩, ⟨h1, ⟨⟨⟨trivial, trivial⟩, ⟨⟨trivial, ⟨trivial, ⟨h2, h3⟩⟩⟩, ⟨⟨trivial, trivial⟩, ⟨⟨trivial, trivial⟩, ⟨⟨trivial, trivial⟩, trivial⟩⟩⟩⟩⟩, ⟨⟨⟨trivial, trivial⟩, ⟨⟨trivial, trivial⟩, ⟨⟨trivial, ⟨trivial, ⟨h2, h4⟩⟩⟩, ⟨⟨trivial, h5⟩, ⟨⟨trivial, trivial⟩, ⟨⟨trivial, trivial⟩, ⟨⟨h6, ⟨trivial, trivial⟩⟩, ⟨⟨h6, ⟨trivial, trivial⟩⟩, ⟨⟨h6, ⟨trivial, ⟨trivial, ⟨h2, h7⟩⟩⟩⟩, ⟨⟨h6, ⟨trivial, trivial⟩⟩, ⟨⟨h6, ⟨trivial, trivial⟩⟩, trivial⟩⟩⟩⟩⟩⟩⟩⟩⟩⟩⟩, ⟨h8, ⟨⟨⟨trivial, trivial⟩, ⟨⟨trivial, trivial⟩, trivial⟩⟩, trivial⟩⟩⟩⟩⟩⟩, ⟨trivial, ⟨trivial, ⟨trivial, ⟨trivial, ⟨trivial, ⟨trivial, ⟨trivial, ⟨trivial, ⟨trivial, trivial⟩⟩⟩⟩⟩⟩⟩⟩⟩⟩ hR
theorem bbs_0 (q : QB) (h1 : (decide (iN q.v < iN q.n) = true)) (h2 : (0 ≤ iN q.v)) (h3 : ((gL q.g)[(iN q.v).toNat]? = some (AV.lst (List.map (AV.int IntKind.i64) q.r)))) (h4 : (iN q.v < iN q.n)) (h5 : ((List.map (AV.int IntKind.i64) q.d)[0 + (iN q.v).toNat]? = some (AV.int IntKind.i64 q.x))) (h6 : (decide (0 ≤ q.x) = true)) {post : Exit → St → Prop} {R : St → Prop} (hR : ∀ st, Ren 0 st (St.mk 86 [(0, AV.lst (gL q.g)), (1, AV.lst (boL q.s)), (7, AV.sl 0 0 q.n), (9, AV.sl 1 0 q.o.length), (10, AV.int IntKind.i64 (iN q.w)), (44, AV.lst (gL q.g)), (45, AV.int IntKind.i64 (iN q.n)), (46, AV.int IntKind.i64 (IntKind.i64.wrap (iN q.v + 1)))] [some (Blk.mk (List.map (AV.int IntKind.i64) q.d) 1 true true), some (Blk.mk (List.map (AV.int IntKind.i64) q.o) 1 true true)]) → R st) : ∃ o' st' q', go Try.prog ({ dec := [(47, true), (61, true), (56, true)], els := e42 q, calls := cB q, unroll := false } : HT) 0 4000 (.inl (loopC (loopC (bodyOf Try.f30) 1) 0)) [] (lb42 q) = some (o', st', q') ∧ q' ∧ Go.AX.Rest Try.prog 0 (andThen R post) st' o' :=
  endN_spec (σ := [0,1]) (fz := []) (vars := [0,1,7,9,10,44,45,46]) (show endN 0 [0,1] [] [0,1,7,9,10,44,45,46] (go Try.prog ({ dec := [(47, true), (61, true), (56, true)], els := e42 q, calls := cB q, unroll := false } : HT) 0 4000 (.inl (loopC (loopC (bodyOf Try.f30) 1) 0)) [] (lb42 q)) = some (St.mk 86 [(0, AV.lst (gL q.g)), (1, AV.lst (boL q.s)), (7, AV.sl 0 0 q.n), (9, AV.sl 1 0 q.o.length), (10, AV.int IntKind.i64 (iN q.w)), (44, AV.lst (gL q.g)), (45, AV.int IntKind.i64 (iN q.n)), (46, AV.int IntKind.i64 (IntKind.i64.wrap (iN q.v + 1)))] [some (Blk.mk (List.map (AV.int IntKind.i64) q.d) 1 true true), some (Blk.mk (List.map (AV.int IntKind.i64) q.o) 1 true true)], ((((True ∧ (True ∧ True)) ∧ True) ∧ ((type_of% h1) ∧ (((True ∧ True) ∧ ((True ∧ (True ∧ ((type_of% h2) ∧ (type_of% h3)))) ∧ ((True ∧ True) ∧ ((True ∧ True) ∧ ((True ∧ True) ∧ True))))) ∧ (((True ∧ True) ∧ ((True ∧ True) ∧ ((True ∧ (True ∧ ((type_of% h2) ∧ (type_of% h4)))) ∧ ((True ∧ (type_of% h5)) ∧ ((True ∧ True) ∧ ((True ∧ True) ∧ ((type_of% h6) ∧ ((type_of% h6) ∧ ((type_of% h6) ∧ ((type_of% h6) ∧ (((type_of% h6) ∧ (True ∧ True)) ∧ True))))))))))) ∧ ((true = true) ∧ (((True ∧ True) ∧ ((True ∧ True) ∧ True)) ∧ True)))))) ∧ (True ∧ (True ∧ (True ∧ (True ∧ (True ∧ (True ∧ (True ∧ (True ∧ (True ∧ (True ∧ True)))))))))))) by kernel_rfl) ⟨⟨⟨⟨trivial, ⟨trivial, trivial⟩⟩, trivial⟩, ⟨h1, ⟨⟨⟨trivial, trivial⟩, ⟨⟨trivial, ⟨trivial, ⟨h2, h3⟩⟩⟩, ⟨⟨trivial, trivial⟩, ⟨⟨trivial, trivial⟩, ⟨⟨trivial, trivial⟩, trivial⟩⟩⟩⟩⟩, ⟨⟨⟨trivial, trivial⟩, ⟨⟨trivial, trivial⟩, ⟨⟨trivial, ⟨trivial, ⟨h2, h4⟩⟩⟩, ⟨⟨trivial, h5⟩, ⟨⟨trivial, trivial⟩, ⟨⟨trivial, trivial⟩, ⟨h6, ⟨h6, ⟨h6, ⟨h6, ⟨⟨h6, ⟨trivial, trivial⟩⟩, trivial⟩⟩⟩⟩⟩⟩⟩⟩⟩⟩⟩, ⟨(by first | decide | exact Int.NonNeg.mk _), ⟨⟨⟨trivial, trivial⟩, ⟨⟨trivial, trivial⟩, trivial⟩⟩, trivial⟩⟩⟩⟩⟩⟩, ⟨trivial, ⟨trivial, ⟨trivial, ⟨trivial, ⟨trivial, ⟨trivial, ⟨trivial, ⟨trivial, ⟨trivial, ⟨trivial, trivial⟩⟩⟩⟩⟩⟩⟩⟩⟩⟩⟩ hR
theorem bbs_1 (q : QB) (h1 : (decide (iN q.v < iN q.n) = true)) (h2 : (0 ≤ iN q.v)) (h3 : ((gL q.g)[(iN q.v).toNat]? = some (AV.lst (List.map (AV.int IntKind.i64) q.r)))) (h4 : (iN q.v < iN q.n)) (h5 : ((List.map (AV.int IntKind.i64) q.d)[0 + (iN q.v).toNat]? = some (AV.int IntKind.i64 q.x))) (h6 : (decide (0 ≤ q.x) = false)) (h7 : ((boL q.s)[(iN q.v).toNat]? = some (AV.bool q.sb))) (h8 : (q.sb = true)) {post : Exit → St → Prop} {R : St → Prop} (hR : ∀ st, Ren 0 st (St.mk 86 [(0, AV.lst (gL q.g)), (1, AV.lst (boL q.s)), (7, AV.sl 0 0 q.n), (9, AV.sl 1 0 q.o.length), (10, AV.int IntKind.i64 (iN q.w)), (44, AV.lst (gL q.g)), (45, AV.int IntKind.i64 (iN q.n)), (46, AV.int IntKind.i64 (IntKind.i64.wrap (iN q.v + 1)))] [some (Blk.mk (List.map (AV.int IntKind.i64) q.d) 1 true true), some (Blk.mk (List.map (AV.int IntKind.i64) q.o) 1 true true)]) → R st) : ∃ o' st' q', go Try.prog ({ dec := [(47, true), (61, true), (56, false)], els := e42 q, calls := cB q, unroll := false } : HT) 0 4000 (.inl (loopC (loopC (bodyOf Try.f30) 1) 0)) [] (lb42 q) = some (o', st', q') ∧ q' ∧ Go.AX.Rest Try.prog 0 (andThen R post) st' o' :=
  endN_spec (σ := [0,1]) (fz := []) (vars := [0,1,7,9,10,44,45,46]) (show endN 0 [0,1] [] [0,1,7,9,10,44,45,46] (go Try.prog ({ dec := [(47, true), (61, true), (56, false)], els := e42 q, calls := cB q, unroll := false } : HT) 0 4000 (.inl (loopC (loopC (bodyOf Try.f30) 1) 0)) [] (lb42 q)) = some (St.mk 86 [(0, AV.lst (gL q.g)), (1, AV.lst (boL q.s)), (7, AV.sl 0 0 q.n), (9, AV.sl 1 0 q.o.length), (10, AV.int IntKind.i64 (iN q.w)), (44, AV.lst (gL q.g)), (45, AV.int IntKind.i64 (iN q.n)), (46, AV.int IntKind.i64 (IntKind.i64.wrap (iN q.v + 1)))] [some (Blk.mk (List.map (AV.int IntKind.i64) q.d) 1 true true), some (Blk.mk (List.map (AV.int IntKind.i64) q.o) 1 true true)], ((((True ∧ (True ∧ True)) ∧ True) ∧ ((type_of% h1) ∧ (((True ∧ True) ∧ ((True ∧ (True ∧ ((type_of% h2) ∧ (type_of% h3)))) ∧ ((True ∧ True) ∧ ((True ∧ True) ∧ ((True ∧ True) ∧ True))))) ∧ (((True ∧ True) ∧ ((True ∧ True) ∧ ((True ∧ (True ∧ ((type_of% h2) ∧ (type_of% h4)))) ∧ ((True ∧ (type_of% h5)) ∧ ((True ∧ True) ∧ ((True ∧ True) ∧ (((type_of% h6) ∧ (True ∧ True)) ∧ (((type_of% h6) ∧ (True ∧ True)) ∧ (((type_of% h6) ∧ (True ∧ (True ∧ ((type_of% h2) ∧ (type_of% h7))))) ∧ (((type_of% h6) ∧ (True ∧ True)) ∧ (((type_of% h6) ∧ (True ∧ True)) ∧ True))))))))))) ∧ ((type_of% h8) ∧ (((True ∧ True) ∧ ((True ∧ True) ∧ True)) ∧ True)))))) ∧ (True ∧ (True ∧ (True ∧ (True ∧ (True ∧ (True ∧ (True ∧ (True ∧ (True ∧ (True ∧ True)))))))))))) by kernel_rfl) ⟨⟨⟨⟨trivial, ⟨trivial, trivial⟩⟩, trivial⟩, ⟨h1, ⟨⟨⟨trivial, trivial⟩, ⟨⟨trivial, ⟨trivial, ⟨h2, h3⟩⟩⟩, ⟨⟨trivial, trivial⟩, ⟨⟨trivial, trivial⟩, ⟨⟨trivial, trivial⟩, trivial⟩⟩⟩⟩⟩, ⟨⟨⟨trivial, trivial⟩, ⟨⟨trivial, trivial⟩, ⟨⟨trivial, ⟨trivial, ⟨h2, h4⟩⟩⟩, ⟨⟨trivial, h5⟩, ⟨⟨trivial, trivial⟩, ⟨⟨trivial, trivial⟩, ⟨⟨h6, ⟨trivial, trivial⟩⟩, ⟨⟨h6, ⟨trivial, trivial⟩⟩, ⟨⟨h6, ⟨trivial, ⟨trivial, ⟨h2, h7⟩⟩⟩⟩, ⟨⟨h6, ⟨trivial, trivial⟩⟩, ⟨⟨h6, ⟨trivial, trivial⟩⟩, trivial⟩⟩⟩⟩⟩⟩⟩⟩⟩⟩⟩, ⟨h8, ⟨⟨⟨trivial, trivial⟩, ⟨⟨trivial, trivial⟩, trivial⟩⟩, trivial⟩⟩⟩⟩⟩⟩, ⟨trivial, ⟨trivial, ⟨trivial, ⟨trivial, ⟨trivial, ⟨trivial, ⟨trivial, ⟨trivial, ⟨trivial, ⟨trivial, trivial⟩⟩⟩⟩⟩⟩⟩⟩⟩⟩⟩ hR
theorem bai_0 (q : QB) (h1 : (decide (iN q.v < iN q.n) = true)) (h2 : (0 ≤ iN q.v)) (h3 : ((gL q.g)[(iN q.v).toNat]? = some (AV.lst (List.map (AV.int IntKind.i64) q.r)))) (h4 : (iN q.v < iN q.n)) (h5 : ((List.map (AV.int IntKind.i64) q.d)[0 + (iN q.v).toNat]? = some (AV.int IntKind.i64 q.x))) (h6 : (decide (0 ≤ q.x) = false)) (h7 : ((boL q.s)[(iN q.v).toNat]? = some (AV.bool q.sb))) (h8 : (q.sb = false)) {post : Exit → St → Prop} (ht : T Try.prog 0 (.loop (loopC (loopC (loopC (bodyOf Try.f30) 1) 0) 0)) (St.mk 86 [(0, AV.lst (gL q.g)), (1, AV.lst (boL q.s)), (7, AV.sl 0 0 q.n), (9, AV.lstc (List.map (AV.int IntKind.i64) q.o)), (10, AV.int IntKind.i64 (iN q.w)), (11, AV.int IntKind.i64 (iN q.v)), (44, AV.lst (gL q.g)), (45, AV.int IntKind.i64 (iN q.n)), (46, AV.int IntKind.i64 (iN q.v)), (62, AV.lst (List.map (AV.int IntKind.i64) q.r)), (63, AV.int IntKind.i64 (iN (List.map (AV.int IntKind.i64) q.r).length)), (64, AV.int IntKind.i64 0)] [some (Blk.mk (List.map (AV.int IntKind.i64) q.d) 1 true true)]) (TK Try.prog 0 post (loopK (loopC (loopC (bodyOf Try.f30) 1) 0) 0))) : ∃ o' st' q', go Try.prog ({ dec := [(47, true), (55, false), (60, false)], els := e42 q, calls := cB q, unroll := false } : HT) 0 4000 (.inl (loopC (loopC (bodyOf Try.f30) 1) 0)) [] (la42 q) = some (o', st', q') ∧ q' ∧ Go.AX.Rest Try.prog 0 post st' o' :=
  endR_spec (σ := [0]) (fz := []) (vars := [0,1,7,9,10,11,44,45,46,62,63,64]) (show endR 0 [0] [] [0,1,7,9,10,11,44,45,46,62,63,64] (go Try.prog ({ dec := [(47, true), (55, false), (60, false)], els := e42 q, calls := cB q, unroll := false } : HT) 0 4000 (.inl (loopC (loopC (bodyOf Try.f30) 1) 0)) [] (la42 q)) = some (loopC (loopC (loopC (bodyOf Try.f30) 1) 0) 0, loopK (loopC (loopC (bodyOf Try.f30) 1) 0) 0, St.mk 86 [(0, AV.lst (gL q.g)), (1, AV.lst (boL q.s)), (7, AV.sl 0 0 q.n), (9, AV.lstc (List.map (AV.int IntKind.i64) q.o)), (10, AV.int IntKind.i64 (iN q.w)), (11, AV.int IntKind.i64 (iN q.v)), (44, AV.lst (gL q.g)), (45, AV.int IntKind.i64 (iN q.n)), (46, AV.int IntKind.i64 (iN q.v)), (62, AV.lst (List.map (AV.int IntKind.i64) q.r)), (63, AV.int IntKind.i64 (iN (List.map (AV.int IntKind.i64) q.r).length)), (64, AV.int IntKind.i64 0)] [some (Blk.mk (List.map (AV.int IntKind.i64) q.d) 1 true true)], ((((True ∧ (True ∧ True)) ∧ True) ∧ ((type_of% h1) ∧ (((True ∧ True) ∧ ((True ∧ (True ∧ ((type_of% h2) ∧ (type_of% h3)))) ∧ ((True ∧ True) ∧ ((True ∧ True) ∧ ((True ∧ True) ∧ True))))) ∧ (((True ∧ True) ∧ ((True ∧ True) ∧ ((True ∧ (True ∧ ((type_of% h2) ∧ (type_of% h4)))) ∧ ((True ∧ (type_of% h5)) ∧ ((True ∧ True) ∧ (((type_of% h6) ∧ True) ∧ ((True ∧ (True ∧ True)) ∧ ((True ∧ (True ∧ True)) ∧ ((True ∧ (True ∧ (True ∧ ((type_of% h2) ∧ (type_of% h7))))) ∧ ((True ∧ (True ∧ True)) ∧ ((True ∧ ((type_of% h8) ∧ True)) ∧ True))))))))))) ∧ (True ∧ (((True ∧ True) ∧ ((True ∧ True) ∧ (True ∧ True))) ∧ True)))))) ∧ (True ∧ (True ∧ (True ∧ (True ∧ (True ∧ (True ∧ (True ∧ (True ∧ (True ∧ (True ∧ (True ∧ (True ∧ (True ∧ True))))))))))))))) by kernel_rfl) ⟨⟨⟨⟨trivial, ⟨trivial, trivial⟩⟩, trivial⟩, ⟨h1, ⟨⟨⟨trivial, trivial⟩, ⟨⟨trivial, ⟨trivial, ⟨h2, h3⟩⟩⟩, ⟨⟨trivial, trivial⟩, ⟨⟨trivial, trivial⟩, ⟨⟨trivial, trivial⟩, trivial⟩⟩⟩⟩⟩, ⟨⟨⟨trivial, trivial⟩, ⟨⟨trivial, trivial⟩, ⟨⟨trivial, ⟨trivial, ⟨h2, h4⟩⟩⟩, ⟨⟨trivial, h5⟩, ⟨⟨trivial, trivial⟩, ⟨⟨h6, trivial⟩, ⟨⟨trivial, ⟨trivial, trivial⟩⟩, ⟨⟨trivial, ⟨trivial, trivial⟩⟩, ⟨⟨trivial, ⟨trivial, ⟨trivial, ⟨h2, h7⟩⟩⟩⟩, ⟨⟨trivial, ⟨trivial, trivial⟩⟩, ⟨⟨trivial, ⟨h8, trivial⟩⟩, trivial⟩⟩⟩⟩⟩⟩⟩⟩⟩⟩⟩, ⟨trivial, ⟨⟨⟨trivial, trivial⟩, ⟨⟨trivial, trivial⟩, ⟨trivial, trivial⟩⟩⟩, trivial⟩⟩⟩⟩⟩⟩, ⟨trivial, ⟨trivial, ⟨trivial, ⟨trivial, ⟨trivial, ⟨trivial, ⟨trivial, ⟨trivial, ⟨trivial, ⟨trivial, ⟨trivial, ⟨trivial, ⟨trivial, trivial⟩⟩⟩⟩⟩⟩⟩⟩⟩⟩⟩⟩⟩⟩ ht
theorem bbi_0 (q : QB) (h1 : (decide (iN q.v < iN q.n) = true)) (h2 : (0 ≤ iN q.v)) (h3 : ((gL q.g)[(iN q.v).toNat]? = some (AV.lst (List.map (AV.int IntKind.i64) q.r)))) (h4 : (iN q.v < iN q.n)) (h5 : ((List.map (AV.int IntKind.i64) q.d)[0 + (iN q.v).toNat]? = some (AV.int IntKind.i64 q.x))) (h6 : (decide (0 ≤ q.x) = false)) (h7 : ((boL q.s)[(iN q.v).toNat]? = some (AV.bool q.sb))) (h8 : (q.sb = false)) {post : Exit → St → Prop} (ht : T Try.prog 0 (.loop (loopC (loopC (loopC (bodyOf Try.f30) 1) 0) 0)) (St.mk 86 [(0, AV.lst (gL q.g)), (1, AV.lst (boL q.s)), (7, AV.sl 0 0 q.n), (9, AV.sl 1 0 q.o.length), (10, AV.int IntKind.i64 (iN q.w)), (11, AV.int IntKind.i64 (iN q.v)), (44, AV.lst (gL q.g)), (45, AV.int IntKind.i64 (iN q.n)), (46, AV.int IntKind.i64 (iN q.v)), (62, AV.lst (List.map (AV.int IntKind.i64) q.r)), (63, AV.int IntKind.i64 (iN (List.map (AV.int IntKind.i64) q.r).length)), (64, AV.int IntKind.i64 0)] [some (Blk.mk (List.map (AV.int IntKind.i64) q.d) 1 true true), some (Blk.mk (List.map (AV.int IntKind.i64) q.o) 1 true true)]) (TK Try.prog 0 post (loopK (loopC (loopC (bodyOf Try.f30) 1) 0) 0))) : ∃ o' st' q', go Try.prog ({ dec := [(47, true), (55, false), (60, false)], els := e42 q, calls := cB q, unroll := false } : HT) 0 4000 (.inl (loopC (loopC (bodyOf Try.f30) 1) 0)) [] (lb42 q) = some (o', st', q') ∧ q' ∧ Go.AX.Rest Try.prog 0 post st' o' :=
  endR_spec (σ := [0,1]) (fz := []) (vars := [0,1,7,9,10,11,44,45,46,62,63,64]) (show endR 0 [0,1] [] [0,1,7,9,10,11,44,45,46,62,63,64] (go Try.prog ({ dec := [(47, true), (55, false), (60, false)], els := e42 q, calls := cB q, unroll := false } : HT) 0 4000 (.inl (loopC (loopC (bodyOf Try.f30) 1) 0)) [] (lb42 q)) = some (loopC (loopC (loopC (bodyOf Try.f30) 1) 0) 0, loopK (loopC (loopC (bodyOf Try.f30) 1) 0) 0, St.mk 86 [(0, AV.lst (gL q.g)), (1, AV.lst (boL q.s)), (7, AV.sl 0 0 q.n), (9, AV.sl 1 0 q.o.length), (10, AV.int IntKind.i64 (iN q.w)), (11, AV.int IntKind.i64 (iN q.v)), (44, AV.lst (gL q.g)), (45, AV.int IntKind.i64 (iN q.n)), (46, AV.int IntKind.i64 (iN q.v)), (62, AV.lst (List.map (AV.int IntKind.i64) q.r)), (63, AV.int IntKind.i64 (iN (List.map (AV.int IntKind.i64) q.r).length)), (64, AV.int IntKind.i64 0)] [some (Blk.mk (List.map (AV.int IntKind.i64) q.d) 1 true true), some (Blk.mk (List.map (AV.int IntKind.i64) q.o) 1 true true)], ((((True ∧ (True ∧ True)) ∧ True) ∧ ((type_of% h1) ∧ (((True ∧ True) ∧ ((True ∧ (True ∧ ((type_of% h2) ∧ (type_of% h3)))) ∧ ((True ∧ True) ∧ ((True ∧ True) ∧ ((True ∧ True) ∧ True))))) ∧ (((True ∧ True) ∧ ((True ∧ True) ∧ ((True ∧ (True ∧ ((type_of% h2) ∧ (type_of% h4)))) ∧ ((True ∧ (type_of% h5)) ∧ ((True ∧ True) ∧ (((type_of% h6) ∧ True) ∧ ((True ∧ (True ∧ True)) ∧ ((True ∧ (True ∧ True)) ∧ ((True ∧ (True ∧ (True ∧ ((type_of% h2) ∧ (type_of% h7))))) ∧ ((True ∧ (True ∧ True)) ∧ ((True ∧ ((type_of% h8) ∧ True)) ∧ True))))))))))) ∧ (True ∧ (((True ∧ True) ∧ ((True ∧ True) ∧ (True ∧ True))) ∧ True)))))) ∧ (True ∧ (True ∧ (True ∧ (True ∧ (True ∧ (True ∧ (True ∧ (True ∧ (True ∧ (True ∧ (True ∧ (True ∧ (True ∧ (True ∧ True)))))))))))))))) by kernel_rfl) ⟨⟨⟨⟨trivial, ⟨trivial, trivial⟩⟩, trivial⟩, ⟨h1, ⟨⟨⟨trivial, trivial⟩, ⟨⟨trivial, ⟨trivial, ⟨h2, h3⟩⟩⟩, ⟨⟨trivial, trivial⟩, ⟨⟨trivial, trivial⟩, ⟨⟨trivial, trivial⟩, trivial⟩⟩⟩⟩⟩, ⟨⟨⟨trivial, trivial⟩, ⟨⟨trivial, trivial⟩, ⟨⟨trivial, ⟨trivial, ⟨h2, h4⟩⟩⟩, ⟨⟨trivial, h5⟩, ⟨⟨trivial, trivial⟩, ⟨⟨h6, trivial⟩, ⟨⟨trivial, ⟨trivial, trivial⟩⟩, ⟨⟨trivial, ⟨trivial, trivial⟩⟩, ⟨⟨trivial, ⟨trivial, ⟨trivial, ⟨h2, h7⟩⟩⟩⟩, ⟨⟨trivial, ⟨trivial, trivial⟩⟩, ⟨⟨trivial, ⟨h8, trivial⟩⟩, trivial⟩⟩⟩⟩⟩⟩⟩⟩⟩⟩⟩, ⟨trivial, ⟨⟨⟨trivial, trivial⟩, ⟨⟨trivial, trivial⟩, ⟨trivial, trivial⟩⟩⟩, trivial⟩⟩⟩⟩⟩⟩, ⟨trivial, ⟨trivial, ⟨trivial, ⟨trivial, ⟨trivial, ⟨trivial, ⟨trivial, ⟨trivial, ⟨trivial, ⟨trivial, ⟨trivial, ⟨trivial, ⟨trivial, ⟨trivial, trivial⟩⟩⟩⟩⟩⟩⟩⟩⟩⟩⟩⟩⟩⟩⟩ ht
theorem bcx_0 (q : QB) (h1 : (decide (iN q.i < iN q.r.length) = false)) {post : Exit → St → Prop} {R : St → Prop} (hR : ∀ st, Ren 0 st (St.mk 86 [(0, AV.lst (gL q.g)), (1, AV.lst (boL q.s)), (7, AV.sl 0 0 q.n), (9, AV.lstc (List.map (AV.int IntKind.i64) q.o)), (10, AV.int IntKind.i64 (iN q.w)), (44, AV.lst (gL q.g)), (45, AV.int IntKind.i64 (iN q.n)), (46, AV.int IntKind.i64 (IntKind.i64.wrap (iN q.v + 1)))] [some (Blk.mk (List.map (AV.int IntKind.i64) q.d) 1 true true)]) → R st) : ∃ o' st' q', go2 Try.prog ({ dec := [(65, false)], els := e42 q, calls := cB q, unroll := false } : HT) 0 4000 (loopC (loopC (loopC (bodyOf Try.f30) 1) 0) 0) (loopK (loopC (loopC (bodyOf Try.f30) 1) 0) 0) (lc42 q) = some (o', st', q') ∧ q' ∧ Go.AX.Rest Try.prog 0 (andThen R post) st' o' :=
  endN_spec (σ := [0]) (fz := []) (vars := [0,1,7,9,10,44,45,46]) (show endN 0 [0] [] [0,1,7,9,10,44,45,46] (go2 Try.prog ({ dec := [(65, false)], els := e42 q, calls := cB q, unroll := false } : HT) 0 4000 (loopC (loopC (loopC (bodyOf Try.f30) 1) 0) 0) (loopK (loopC (loopC (bodyOf Try.f30) 1) 0) 0) (lc42 q)) = some (St.mk 86 [(0, AV.lst (gL q.g)), (1, AV.lst (boL q.s)), (7, AV.sl 0 0 q.n), (9, AV.lstc (List.map (AV.int IntKind.i64) q.o)), (10, AV.int IntKind.i64 (iN q.w)), (44, AV.lst (gL q.g)), (45, AV.int IntKind.i64 (iN q.n)), (46, AV.int IntKind.i64 (IntKind.i64.wrap (iN q.v + 1)))] [some (Blk.mk (List.map (AV.int IntKind.i64) q.d) 1 true true)], (((((True ∧ (True ∧ True)) ∧ True) ∧ ((type_of% h1) ∧ True)) ∧ (((True ∧ True) ∧ ((True ∧ True) ∧ True)) ∧ True)) ∧ (True ∧ (True ∧ (True ∧ (True ∧ (True ∧ (True ∧ (True ∧ (True ∧ (True ∧ True))))))))))) by kernel_rfl) ⟨⟨⟨⟨⟨trivial, ⟨trivial, trivial⟩⟩, trivial⟩, ⟨h1, trivial⟩⟩, ⟨⟨⟨trivial, trivial⟩, ⟨⟨trivial, trivial⟩, trivial⟩⟩, trivial⟩⟩, ⟨trivial, ⟨trivial, ⟨trivial, ⟨trivial, ⟨trivial, ⟨trivial, ⟨trivial, ⟨trivial, ⟨trivial, trivial⟩⟩⟩⟩⟩⟩⟩⟩⟩⟩ hR
theorem bdx_0 (q : QB) (h1 : (decide (iN q.i < iN q.r.length) = false)) {post : Exit → St → Prop} {R : St → Prop} (hR : ∀ st, Ren 0 st (St.mk 86 [(0, AV.lst (gL q.g)), (1, AV.lst (boL q.s)), (7, AV.sl 0 0 q.n), (9, AV.sl 1 0 q.o.length), (10, AV.int IntKind.i64 (iN q.w)), (44, AV.lst (gL q.g)), (45, AV.int IntKind.i64 (iN q.n)), (46, AV.int IntKind.i64 (IntKind.i64.wrap (iN q.v + 1)))] [some (Blk.mk (List.map (AV.int IntKind.i64) q.d) 1 true true), some (Blk.mk (List.map (AV.int IntKind.i64) q.o) 1 true true)]) → R st) : ∃ o' st' q', go2 Try.prog ({ dec := [(65, false)], els := e42 q, calls := cB q, unroll := false } : HT) 0 4000 (loopC (loopC (loopC (bodyOf Try.f30) 1) 0) 0) (loopK (loopC (loopC (bodyOf Try.f30) 1) 0) 0) (ld42 q) = some (o', st', q') ∧ q' ∧ Go.AX.Rest Try.prog 0 (andThen R post) st' o' :=
  endN_spec (σ := [0,1]) (fz := []) (vars := [0,1,7,9,10,44,45,46]) (show endN 0 [0,1] [] [0,1,7,9,10,44,45,46] (go2 Try.prog ({ dec := [(65, false)], els := e42 q, calls := cB q, unroll := false } : HT) 0 4000 (loopC (loopC (loopC (bodyOf Try.f30) 1) 0) 0) (loopK (loopC (loopC (bodyOf Try.f30) 1) 0) 0) (ld42 q)) = some (St.mk 86 [(0, AV.lst (gL q.g)), (1, AV.lst (boL q.s)), (7, AV.sl 0 0 q.n), (9, AV.sl 1 0 q.o.length), (10, AV.int IntKind.i64 (iN q.w)), (44, AV.lst (gL q.g)), (45, AV.int IntKind.i64 (iN q.n)), (46, AV.int IntKind.i64 (IntKind.i64.wrap (iN q.v + 1)))] [some (Blk.mk (List.map (AV.int IntKind.i64) q.d) 1 true true), some (Blk.mk (List.map (AV.int IntKind.i64) q.o) 1 true true)], (((((True ∧ (True ∧ True)) ∧ True) ∧ ((type_of% h1) ∧ True)) ∧ (((True ∧ True) ∧ ((True ∧ True) ∧ True)) ∧ True)) ∧ (True ∧ (True ∧ (True ∧ (True ∧ (True ∧ (True ∧ (True ∧ (True ∧ (True ∧ (True ∧ True)))))))))))) by kernel_rfl) ⟨⟨⟨⟨⟨trivial, ⟨trivial, trivial⟩⟩, trivial⟩, ⟨h1, trivial⟩⟩, ⟨⟨⟨trivial, trivial⟩, ⟨⟨trivial, trivial⟩, trivial⟩⟩, trivial⟩⟩, ⟨trivial, ⟨trivial, ⟨trivial, ⟨trivial, ⟨trivial, ⟨trivial, ⟨trivial, ⟨trivial, ⟨trivial, ⟨trivial, trivial⟩⟩⟩⟩⟩⟩⟩⟩⟩⟩⟩ hR
theorem bcn_0 (q : QB) (h1 : (decide (iN q.i < iN q.r.length) = true)) (h2 : (0 ≤ iN q.i)) (h3 : ((List.map (AV.int IntKind.i64) q.r)[(iN q.i).toNat]? = some (AV.int IntKind.i64 (iN q.u)))) (h4 : ((iN q.u == iN q.w) = false)) {post : Exit → St → Prop} {R : St → Prop} (hR : ∀ st, Ren 0 st (St.mk 86 [(0, AV.lst (gL q.g)), (1, AV.lst (boL q.s)), (7, AV.sl 0 0 q.n), (9, AV.lstc (List.map (AV.int IntKind.i64) q.o)), (10, AV.int IntKind.i64 (iN q.w)), (11, AV.int IntKind.i64 (iN q.v)), (44, AV.lst (gL q.g)), (45, AV.int IntKind.i64 (iN q.n)), (46, AV.int IntKind.i64 (iN q.v)), (62, AV.lst (List.map (AV.int IntKind.i64) q.r)), (63, AV.int IntKind.i64 (iN q.r.length)), (64, AV.int IntKind.i64 (IntKind.i64.wrap (iN q.i + 1)))] [some (Blk.mk (List.map (AV.int IntKind.i64) q.d) 1 true true)]) → R st) : ∃ o' st' q', go Try.prog ({ dec := [(65, true), (70, false)], els := e42 q, calls := cB q, unroll := false } : HT) 0 4000 (.inl (loopC (loopC (loopC (bodyOf Try.f30) 1) 0) 0)) [] (lc42 q) = some (o', st', q') ∧ q' ∧ Go.AX.Rest Try.prog 0 (andThen R post) st' o' :=
  endN_spec (σ := [0]) (fz := []) (vars := [0,1,7,9,10,11,44,45,46,62,63,64]) (show endN 0 [0] [] [0,1,7,9,10,11,44,45,46,62,63,64] (go Try.prog ({ dec := [(65, true), (70, false)], els := e42 q, calls := cB q, unroll := false } : HT) 0 4000 (.inl (loopC (loopC (loopC (bodyOf Try.f30) 1) 0) 0)) [] (lc42 q)) = some (St.mk 86 [(0, AV.lst (gL q.g)), (1, AV.lst (boL q.s)), (7, AV.sl 0 0 q.n), (9, AV.lstc (List.map (AV.int IntKind.i64) q.o)), (10, AV.int IntKind.i64 (iN q.w)), (11, AV.int IntKind.i64 (iN q.v)), (44, AV.lst (gL q.g)), (45, AV.int IntKind.i64 (iN q.n)), (46, AV.int IntKind.i64 (iN q.v)), (62, AV.lst (List.map (AV.int IntKind.i64) q.r)), (63, AV.int IntKind.i64 (iN q.r.length)), (64, AV.int IntKind.i64 (IntKind.i64.wrap (iN q.i + 1)))] [some (Blk.mk (List.map (AV.int IntKind.i64) q.d) 1 true true)], ((((True ∧ (True ∧ True)) ∧ True) ∧ ((type_of% h1) ∧ (((True ∧ (True ∧ ((type_of% h2) ∧ (type_of% h3)))) ∧ ((True ∧ True) ∧ ((True ∧ True) ∧ True))) ∧ (((True ∧ True) ∧ ((True ∧ True) ∧ ((True ∧ (True ∧ True)) ∧ True))) ∧ ((type_of% h4) ∧ (((True ∧ True) ∧ ((True ∧ True) ∧ True)) ∧ True)))))) ∧ (True ∧ (True ∧ (True ∧ (True ∧ (True ∧ (True ∧ (True ∧ (True ∧ (True ∧ (True ∧ (True ∧ (True ∧ (True ∧ True))))))))))))))) by kernel_rfl) ⟨⟨⟨⟨trivial, ⟨trivial, trivial⟩⟩, trivial⟩, ⟨h1, ⟨⟨⟨trivial, ⟨trivial, ⟨h2, h3⟩⟩⟩, ⟨⟨trivial, trivial⟩, ⟨⟨trivial, trivial⟩, trivial⟩⟩⟩, ⟨⟨⟨trivial, trivial⟩, ⟨⟨trivial, trivial⟩, ⟨⟨trivial, ⟨trivial, trivial⟩⟩, trivial⟩⟩⟩, ⟨h4, ⟨⟨⟨trivial, trivial⟩, ⟨⟨trivial, trivial⟩, trivial⟩⟩, trivial⟩⟩⟩⟩⟩⟩, ⟨trivial, ⟨trivial, ⟨trivial, ⟨trivial, ⟨trivial, ⟨trivial, ⟨trivial, ⟨trivial, ⟨trivial, ⟨trivial, ⟨trivial, ⟨trivial, ⟨trivial, trivial⟩⟩⟩⟩⟩⟩⟩⟩⟩⟩⟩⟩⟩⟩ hR
theorem bdn_0 (q : QB) (h1 : (decide (iN q.i < iN q.r.length) = true)) (h2 : (0 ≤ iN q.i)) (h3 : ((List.map (AV.int IntKind.i64) q.r)[(iN q.i).toNat]? = some (AV.int IntKind.i64 (iN q.u)))) (h4 : ((iN q.u == iN q.w) = false)) {post : Exit → St → Prop} {R : St → Prop} (hR : ∀ st, Ren 0 st (St.mk 86 [(0, AV.lst (gL q.g)), (1, AV.lst (boL q.s)), (7, AV.sl 0 0 q.n), (9, AV.sl 1 0 q.o.length), (10, AV.int IntKind.i64 (iN q.w)), (11, AV.int IntKind.i64 (iN q.v)), (44, AV.lst (gL q.g)), (45, AV.int IntKind.i64 (iN q.n)), (46, AV.int IntKind.i64 (iN q.v)), (62, AV.lst (List.map (AV.int IntKind.i64) q.r)), (63, AV.int IntKind.i64 (iN q.r.length)), (64, AV.int IntKind.i64 (IntKind.i64.wrap (iN q.i + 1)))] [some (Blk.mk (List.map (AV.int IntKind.i64) q.d) 1 true true), some (Blk.mk (List.map (AV.int IntKind.i64) q.o) 1 true true)]) → R st) : ∃ o' st' q', go Try.prog ({ dec := [(65, true), (70, false)], els := e42 q, calls := cB q, unroll := false } : HT) 0 4000 (.inl (loopC (loopC (loopC (bodyOf Try.f30) 1) 0) 0)) [] (ld42 q) = some (o', st', q') ∧ q' ∧ Go.AX.Rest Try.prog 0 (andThen R post) st' o' :=
  endN_spec (σ := [0,1]) (fz := []) (vars := [0,1,7,9,10,11,44,45,46,62,63,64]) (show endN 0 [0,1] [] [0,1,7,9,10,11,44,45,46,62,63,64] (go Try.prog ({ dec := [(65, true), (70, false)], els := e42 q, calls := cB q, unroll := false } : HT) 0 4000 (.inl (loopC (loopC (loopC (bodyOf Try.f30) 1) 0) 0)) [] (ld42 q)) = some (St.mk 86 [(0, AV.lst (gL q.g)), (1, AV.lst (boL q.s)), (7, AV.sl 0 0 q.n), (9, AV.sl 1 0 q.o.length), (10, AV.int IntKind.i64 (iN q.w)), (11, AV.int IntKind.i64 (iN q.v)), (44, AV.lst (gL q.g)), (45, AV.int IntKind.i64 (iN q.n)), (46, AV.int IntKind.i64 (iN q.v)), (62, AV.lst (List.map (AV.int IntKind.i64) q.r)), (63, AV.int IntKind.i64 (iN q.r.length)), (64, AV.int IntKind.i64 (IntKind.i64.wrap (iN q.i + 1)))] [some (Blk.mk (List.map (AV.int IntKind.i64) q.d) 1 true true), some (Blk.mk (List.map (AV.int IntKind.i64) q.o) 1 true true)], ((((True ∧ (True ∧ True)) ∧ True) ∧ ((type_of% h1) ∧ (((True ∧ (True ∧ ((type_of% h2) ∧ (type_of% h3)))) ∧ ((True ∧ True) ∧ ((True ∧ True) ∧ True))) ∧ (((True ∧ True) ∧ ((True ∧ True) ∧ ((True ∧ (True ∧ True)) ∧ True))) ∧ ((type_of% h4) ∧ (((True ∧ True) ∧ ((True ∧ True) ∧ True)) ∧ True)))))) ∧ (True ∧ (True ∧ (True ∧ (True ∧ (True ∧ (True ∧ (True ∧ (True ∧ (True ∧ (True ∧ (True ∧ (True ∧ (True ∧ (True ∧ True)))))))))))))))) by kernel_rfl) ⟨⟨⟨⟨trivial, ⟨trivial, trivial⟩⟩, trivial⟩, ⟨h1, ⟨⟨⟨trivial, ⟨trivial, ⟨h2, h3⟩⟩⟩, ⟨⟨trivial, trivial⟩, ⟨⟨trivial, trivial⟩, trivial⟩⟩⟩, ⟨⟨⟨trivial, trivial⟩, ⟨⟨trivial, trivial⟩, ⟨⟨trivial, ⟨trivial, trivial⟩⟩, trivial⟩⟩⟩, ⟨h4, ⟨⟨⟨trivial, trivial⟩, ⟨⟨trivial, trivial⟩, trivial⟩⟩, trivial⟩⟩⟩⟩⟩⟩, ⟨trivial, ⟨trivial, ⟨trivial, ⟨trivial, ⟨trivial, ⟨trivial, ⟨trivial, ⟨trivial, ⟨trivial, ⟨trivial, ⟨trivial, ⟨trivial, ⟨trivial, ⟨trivial, trivial⟩⟩⟩⟩⟩⟩⟩⟩⟩⟩⟩⟩⟩⟩⟩ hR
theorem bcm_0 (q : QB) (h1 : (decide (iN q.i < iN q.r.length) = true)) (h2 : (0 ≤ iN q.i)) (h3 : ((List.map (AV.int IntKind.i64) q.r)[(iN q.i).toNat]? = some (AV.int IntKind.i64 (iN q.u)))) (h4 : ((iN q.u == iN q.w) = true)) (h5 : (0 ≤ iN q.w)) (h6 : (iN q.w < iN q.n)) (h7 : ((List.map (AV.int IntKind.i64) q.d)[0 + (iN q.w).toNat]? = some (AV.int IntKind.i64 q.x))) (h8 : (0 ≤ iN q.v)) (h9 : (iN q.v < iN q.n)) (h10 : ((0 + (iN q.v).toNat).succ.le (List.map (AV.int IntKind.i64) q.d).length)) (h11 : (∀ (e : AV), e ∈ List.map (AV.int IntKind.i64) q.o → e.cells.length = 1)) (h12 : (1 ≤ [AV.int IntKind.i64 (iN q.v)].length)) (h13 : (0 < [AV.int IntKind.i64 (iN q.v)].length)) (h14 : ((List.map (AV.int IntKind.i64) q.o).length + [AV.int IntKind.i64 (iN q.v)].length ≤ 9223372036854775807)) (h15 : (((List.map (AV.int IntKind.i64) q.o).length + [AV.int IntKind.i64 (iN q.v)].length) * 8 ≤ 140737488355328)) {post : Exit → St → Prop} {R : St → Prop} (hR : ∀ st, Ren 0 st (St.mk 86 [(0, AV.lst (gL q.g)), (1, AV.lst (boL q.s)), (7, AV.sl 0 0 q.n), (9, AV.sl 1 0 ((List.map (AV.int IntKind.i64) q.o).length + [AV.int IntKind.i64 (iN q.v)].length)), (10, AV.int IntKind.i64 (iN q.w)), (11, AV.int IntKind.i64 (iN q.v)), (44, AV.lst (gL q.g)), (45, AV.int IntKind.i64 (iN q.n)), (46, AV.int IntKind.i64 (iN q.v)), (62, AV.lst (List.map (AV.int IntKind.i64) q.r)), (63, AV.int IntKind.i64 (iN q.r.length)), (64, AV.int IntKind.i64 (IntKind.i64.wrap (iN q.i + 1)))] [some (Blk.mk ((List.map (AV.int IntKind.i64) q.d).set (0 + (iN q.v).toNat) (AV.int IntKind.i64 (IntKind.i64.wrap (q.x + 1)))) 1 true true), some (Blk.mk (List.map (AV.int IntKind.i64) q.o ++ [AV.int IntKind.i64 (iN q.v)]) 1 true true)]) → R st) : ∃ o' st' q', go Try.prog ({ dec := [(65, true), (70, true)], els := e42 q, calls := cB q, unroll := false } : HT) 0 4000 (.inl (loopC (loopC (loopC (bodyOf Try.f30) 1) 0) 0)) [] (lc42 q) = some (o', st', q') ∧ q' ∧ Go.AX.Rest Try.prog 0 (andThen R post) st' o' :=
  endN_spec (σ := [0,2]) (fz := []) (vars := [0,1,7,9,10,11,44,45,46,62,63,64]) (show endN 0 [0,2] [] [0,1,7,9,10,11,44,45,46,62,63,64] (go Try.prog ({ dec := [(65, true), (70, true)], els := e42 q, calls := cB q, unroll := false } : HT) 0 4000 (.inl (loopC (loopC (loopC (bodyOf Try.f30) 1) 0) 0)) [] (lc42 q)) = some (St.mk 86 [(0, AV.lst (gL q.g)), (1, AV.lst (boL q.s)), (7, AV.sl 0 0 q.n), (9, AV.sl 1 0 ((List.map (AV.int IntKind.i64) q.o).length + [AV.int IntKind.i64 (iN q.v)].length)), (10, AV.int IntKind.i64 (iN q.w)), (11, AV.int IntKind.i64 (iN q.v)), (44, AV.lst (gL q.g)), (45, AV.int IntKind.i64 (iN q.n)), (46, AV.int IntKind.i64 (iN q.v)), (62, AV.lst (List.map (AV.int IntKind.i64) q.r)), (63, AV.int IntKind.i64 (iN q.r.length)), (64, AV.int IntKind.i64 (IntKind.i64.wrap (iN q.i + 1)))] [some (Blk.mk ((List.map (AV.int IntKind.i64) q.d).set (0 + (iN q.v).toNat) (AV.int IntKind.i64 (IntKind.i64.wrap (q.x + 1)))) 1 true true), some (Blk.mk (List.map (AV.int IntKind.i64) q.o ++ [AV.int IntKind.i64 (iN q.v)]) 1 true true)], ((((True ∧ (True ∧ True)) ∧ True) ∧ ((type_of% h1) ∧ (((True ∧ (True ∧ ((type_of% h2) ∧ (type_of% h3)))) ∧ ((True ∧ True) ∧ ((True ∧ True) ∧ True))) ∧ (((True ∧ True) ∧ ((True ∧ True) ∧ ((True ∧ (True ∧ True)) ∧ True))) ∧ ((type_of% h4) ∧ (((True ∧ True) ∧ ((True ∧ True) ∧ ((True ∧ True) ∧ ((True ∧ True) ∧ ((True ∧ (True ∧ ((type_of% h5) ∧ (type_of% h6)))) ∧ ((True ∧ (type_of% h7)) ∧ ((True ∧ True) ∧ ((True ∧ (True ∧ ((type_of% h8) ∧ (type_of% h9)))) ∧ ((True ∧ (True ∧ (type_of% h10))) ∧ True))))))))) ∧ (((True ∧ True) ∧ ((True ∧ True) ∧ ((True ∧ True) ∧ ((True ∧ (True ∧ ((type_of% h11) ∧ (((nat_lit 1 = nat_lit 1) ∧ (type_of% h12)) ∧ ((type_of% h13) ∧ ((type_of% h14) ∧ (type_of% h15))))))) ∧ ((True ∧ True) ∧ True))))) ∧ (((True ∧ True) ∧ ((True ∧ True) ∧ True)) ∧ True)))))))) ∧ (True ∧ (True ∧ (True ∧ (True ∧ (True ∧ (True ∧ (True ∧ (True ∧ (True ∧ (True ∧ (True ∧ (True ∧ (True ∧ (True ∧ True)))))))))))))))) by kernel_rfl) ⟨⟨⟨⟨trivial, ⟨trivial, trivial⟩⟩, trivial⟩, ⟨h1, ⟨⟨⟨trivial, ⟨trivial, ⟨h2, h3⟩⟩⟩, ⟨⟨trivial, trivial⟩, ⟨⟨trivial, trivial⟩, trivial⟩⟩⟩, ⟨⟨⟨trivial, trivial⟩, ⟨⟨trivial, trivial⟩, ⟨⟨trivial, ⟨trivial, trivial⟩⟩, trivial⟩⟩⟩, ⟨h4, ⟨⟨⟨trivial, trivial⟩, ⟨⟨trivial, trivial⟩, ⟨⟨trivial, trivial⟩, ⟨⟨trivial, trivial⟩, ⟨⟨trivial, ⟨trivial, ⟨h5, h6⟩⟩⟩, ⟨⟨trivial, h7⟩, ⟨⟨trivial, trivial⟩, ⟨⟨trivial, ⟨trivial, ⟨h8, h9⟩⟩⟩, ⟨⟨trivial, ⟨trivial, h10⟩⟩, trivial⟩⟩⟩⟩⟩⟩⟩⟩⟩, ⟨⟨⟨trivial, trivial⟩, ⟨⟨trivial, trivial⟩, ⟨⟨trivial, trivial⟩, ⟨⟨trivial, ⟨trivial, ⟨h11, ⟨⟨(by first | decide | exact Int.NonNeg.mk _), h12⟩, ⟨h13, ⟨h14, h15⟩⟩⟩⟩⟩⟩, ⟨⟨trivial, trivial⟩, trivial⟩⟩⟩⟩⟩, ⟨⟨⟨trivial, trivial⟩, ⟨⟨trivial, trivial⟩, trivial⟩⟩, trivial⟩⟩⟩⟩⟩⟩⟩⟩, ⟨trivial, ⟨trivial, ⟨trivial, ⟨trivial, ⟨trivial, ⟨trivial, ⟨trivial, ⟨trivial, ⟨trivial, ⟨trivial, ⟨trivial, ⟨trivial, ⟨trivial, ⟨trivial, trivial⟩⟩⟩⟩⟩⟩⟩⟩⟩⟩⟩⟩⟩⟩⟩ hR
theorem bdm_0 (q : QB) (h1 : (decide (iN q.i < iN q.r.length) = true)) (h2 : (0 ≤ iN q.i)) (h3 : ((List.map (AV.int IntKind.i64) q.r)[(iN q.i).toNat]? = some (AV.int IntKind.i64 (iN q.u)))) (h4 : ((iN q.u == iN q.w) = true)) (h5 : (0 ≤ iN q.w)) (h6 : (iN q.w < iN q.n)) (h7 : ((List.map (AV.int IntKind.i64) q.d)[0 + (iN q.w).toNat]? = some (AV.int IntKind.i64 q.x))) (h8 : (0 ≤ iN q.v)) (h9 : (iN q.v < iN q.n)) (h10 : ((0 + (iN q.v).toNat).succ.le (List.map (AV.int IntKind.i64) q.d).length)) (h11 : ((List.map (AV.int IntKind.i64) q.o).length = q.o.length)) (h12 : (1 ≤ [AV.int IntKind.i64 (iN q.v)].length)) (h13 : ((List.map (AV.int IntKind.i64) q.o).length + [AV.int IntKind.i64 (iN q.v)].length ≤ 9223372036854775807)) (h14 : (((List.map (AV.int IntKind.i64) q.o).length + [AV.int IntKind.i64 (iN q.v)].length) * 8 ≤ 140737488355328)) {post : Exit → St → Prop} {R : St → Prop} (hR : ∀ st, Ren 0 st (St.mk 86 [(0, AV.lst (gL q.g)), (1, AV.lst (boL q.s)), (7, AV.sl 0 0 q.n), (9, AV.sl 1 0 ((List.map (AV.int IntKind.i64) q.o).length + [AV.int IntKind.i64 (iN q.v)].length)), (10, AV.int IntKind.i64 (iN q.w)), (11, AV.int IntKind.i64 (iN q.v)), (44, AV.lst (gL q.g)), (45, AV.int IntKind.i64 (iN q.n)), (46, AV.int IntKind.i64 (iN q.v)), (62, AV.lst (List.map (AV.int IntKind.i64) q.r)), (63, AV.int IntKind.i64 (iN q.r.length)), (64, AV.int IntKind.i64 (IntKind.i64.wrap (iN q.i + 1)))] [some (Blk.mk ((List.map (AV.int IntKind.i64) q.d).set (0 + (iN q.v).toNat) (AV.int IntKind.i64 (IntKind.i64.wrap (q.x + 1)))) 1 true true), some (Blk.mk (List.map (AV.int IntKind.i64) q.o ++ [AV.int IntKind.i64 (iN q.v)]) 1 true true)]) → R st) : ∃ o' st' q', go Try.prog ({ dec := [(65, true), (70, true)], els := e42 q, calls := cB q, unroll := false } : HT) 0 4000 (.inl (loopC (loopC (loopC (bodyOf Try.f30) 1) 0) 0)) [] (ld42 q) = some (o', st', q') ∧ q' ∧ Go.AX.Rest Try.prog 0 (andThen R post) st' o' :=
  endN_spec (σ := [0,3]) (fz := []) (vars := [0,1,7,9,10,11,44,45,46,62,63,64]) (show endN 0 [0,3] [] [0,1,7,9,10,11,44,45,46,62,63,64] (go Try.prog ({ dec := [(65, true), (70, true)], els := e42 q, calls := cB q, unroll := false } : HT) 0 4000 (.inl (loopC (loopC (loopC (bodyOf Try.f30) 1) 0) 0)) [] (ld42 q)) = some (St.mk 86 [(0, AV.lst (gL q.g)), (1, AV.lst (boL q.s)), (7, AV.sl 0 0 q.n), (9, AV.sl 1 0 ((List.map (AV.int IntKind.i64) q.o).length + [AV.int IntKind.i64 (iN q.v)].length)), (10, AV.int IntKind.i64 (iN q.w)), (11, AV.int IntKind.i64 (iN q.v)), (44, AV.lst (gL q.g)), (45, AV.int IntKind.i64 (iN q.n)), (46, AV.int IntKind.i64 (iN q.v)), (62, AV.lst (List.map (AV.int IntKind.i64) q.r)), (63, AV.int IntKind.i64 (iN q.r.length)), (64, AV.int IntKind.i64 (IntKind.i64.wrap (iN q.i + 1)))] [some (Blk.mk ((List.map (AV.int IntKind.i64) q.d).set (0 + (iN q.v).toNat) (AV.int IntKind.i64 (IntKind.i64.wrap (q.x + 1)))) 1 true true), some (Blk.mk (List.map (AV.int IntKind.i64) q.o ++ [AV.int IntKind.i64 (iN q.v)]) 1 true true)], ((((True ∧ (True ∧ True)) ∧ True) ∧ ((type_of% h1) ∧ (((True ∧ (True ∧ ((type_of% h2) ∧ (type_of% h3)))) ∧ ((True ∧ True) ∧ ((True ∧ True) ∧ True))) ∧ (((True ∧ True) ∧ ((True ∧ True) ∧ ((True ∧ (True ∧ True)) ∧ True))) ∧ ((type_of% h4) ∧ (((True ∧ True) ∧ ((True ∧ True) ∧ ((True ∧ True) ∧ ((True ∧ True) ∧ ((True ∧ (True ∧ ((type_of% h5) ∧ (type_of% h6)))) ∧ ((True ∧ (type_of% h7)) ∧ ((True ∧ True) ∧ ((True ∧ (True ∧ ((type_of% h8) ∧ (type_of% h9)))) ∧ ((True ∧ (True ∧ (type_of% h10))) ∧ True))))))))) ∧ (((True ∧ True) ∧ ((True ∧ True) ∧ ((True ∧ True) ∧ ((True ∧ (True ∧ ((type_of% h11) ∧ (((nat_lit 1 = nat_lit 1) ∧ (type_of% h12)) ∧ ((type_of% h13) ∧ (type_of% h14)))))) ∧ ((True ∧ True) ∧ True))))) ∧ (((True ∧ True) ∧ ((True ∧ True) ∧ True)) ∧ True)))))))) ∧ (True ∧ (True ∧ (True ∧ (True ∧ (True ∧ (True ∧ (True ∧ (True ∧ (True ∧ (True ∧ (True ∧ (True ∧ (True ∧ (True ∧ True)))))))))))))))) by kernel_rfl) ⟨⟨⟨⟨trivial, ⟨trivial, trivial⟩⟩, trivial⟩, ⟨h1, ⟨⟨⟨trivial, ⟨trivial, ⟨h2, h3⟩⟩⟩, ⟨⟨trivial, trivial⟩, ⟨⟨trivial, trivial⟩, trivial⟩⟩⟩, ⟨⟨⟨trivial, trivial⟩, ⟨⟨trivial, trivial⟩, ⟨⟨trivial, ⟨trivial, trivial⟩⟩, trivial⟩⟩⟩, ⟨h4, ⟨⟨⟨trivial, trivial⟩, ⟨⟨trivial, trivial⟩, ⟨⟨trivial, trivial⟩, ⟨⟨trivial, trivial⟩, ⟨⟨trivial, ⟨trivial, ⟨h5, h6⟩⟩⟩, ⟨⟨trivial, h7⟩, ⟨⟨trivial, trivial⟩, ⟨⟨trivial, ⟨trivial, ⟨h8, h9⟩⟩⟩, ⟨⟨trivial, ⟨trivial, h10⟩⟩, trivial⟩⟩⟩⟩⟩⟩⟩⟩⟩, ⟨⟨⟨trivial, trivial⟩, ⟨⟨trivial, trivial⟩, ⟨⟨trivial, trivial⟩, ⟨⟨trivial, ⟨trivial, ⟨h11, ⟨⟨(by first | decide | exact Int.NonNeg.mk _), h12⟩, ⟨h13, h14⟩⟩⟩⟩⟩, ⟨⟨trivial, trivial⟩, trivial⟩⟩⟩⟩⟩, ⟨⟨⟨trivial, trivial⟩, ⟨⟨trivial, trivial⟩, trivial⟩⟩, trivial⟩⟩⟩⟩⟩⟩⟩⟩, ⟨trivial, ⟨trivial, ⟨trivial, ⟨trivial, ⟨trivial, ⟨trivial, ⟨trivial, ⟨trivial, ⟨trivial, ⟨trivial, ⟨trivial, ⟨trivial, ⟨trivial, ⟨trivial, trivial⟩⟩⟩⟩⟩⟩⟩⟩⟩⟩⟩⟩⟩⟩⟩ hR
theorem th_0 (q : QB) (h1 : (0 ≤ iN q.goal)) (h2 : ((boL q.s)[(iN q.goal).toNat]? = some (AV.bool q.sb))) (h3 : (q.sb = true)) : ∃ o' st' q', go Try.prog ({ dec := [(16, true)], els := e39 q, calls := cB q, unroll := false } : HT) 0 4000 (.inl (bodyOf Try.f24)) [] (st39 q) = some (o', st', q') ∧ q' ∧ Go.AX.Rest Try.prog 0 (Fin Try.prog Try.f24 0 [] (AV.nils)) st' o' :=
  endF_spec (σ := []) (fz := []) (show endF Try.prog Try.f24 0 [] [] (go Try.prog ({ dec := [(16, true)], els := e39 q, calls := cB q, unroll := false } : HT) 0 4000 (.inl (bodyOf Try.f24)) [] (st39 q)) = some ([], AV.nils, (((True ∧ True) ∧ (((True ∧ True) ∧ ((True ∧ True) ∧ ((True ∧ (True ∧ ((type_of% h1) ∧ (type_of% h2)))) ∧ ((True ∧ True) ∧ True)))) ∧ ((type_of% h3) ∧ ((True ∧ True) ∧ True)))) ∧ (True ∧ True))) by kernel_rfl) ⟨⟨⟨trivial, trivial⟩, ⟨⟨⟨trivial, trivial⟩, ⟨⟨trivial, trivial⟩, ⟨⟨trivial, ⟨trivial, ⟨h1, h2⟩⟩⟩, ⟨⟨trivial, trivial⟩, trivial⟩⟩⟩⟩, ⟨h3, ⟨⟨trivial, trivial⟩, trivial⟩⟩⟩⟩, ⟨trivial, trivial⟩⟩
theorem tn_0 (q : QB) (h1 : (0 ≤ iN q.goal)) (h2 : ((boL q.s)[(iN q.goal).toNat]? = some (AV.bool q.sb))) (h3 : (q.sb = false)) (h4 : (CT Try.prog 30 [] [AV.lst (gL q.g), AV.lst (boL q.s), AV.int IntKind.i64 (iN q.goal)] [] (AV.lst (List.map (AV.int IntKind.i64) q.d)))) {post : Exit → St → Prop} (ht : T Try.prog 0 (.loop (loopC (bodyOf Try.f24) 0)) (St.mk 68 [(0, AV.lst (gL q.g)), (2, AV.int IntKind.i64 (iN q.goal)), (7, AV.lst (List.map (AV.int IntKind.i64) q.d)), (8, AV.sl 0 0 1), (9, AV.int IntKind.i64 (iN q.goal))] [some (Blk.mk [AV.int IntKind.i64 (iN q.goal)] 1 true true)]) (TK Try.prog 0 post (loopK (bodyOf Try.f24) 0))) : ∃ o' st' q', go Try.prog ({ dec := [(16, false)], els := e39 q, calls := cB q, unroll := false } : HT) 0 4000 (.inl (bodyOf Try.f24)) [] (st39 q) = some (o', st', q') ∧ q' ∧ Go.AX.Rest Try.prog 0 post st' o' :=
  endR_spec (σ := [0]) (fz := []) (vars := [0,2,7,8,9]) (show endR 0 [0] [] [0,2,7,8,9] (go Try.prog ({ dec := [(16, false)], els := e39 q, calls := cB q, unroll := false } : HT) 0 4000 (.inl (bodyOf Try.f24)) [] (st39 q)) = some (loopC (bodyOf Try.f24) 0, loopK (bodyOf Try.f24) 0, St.mk 68 [(0, AV.lst (gL q.g)), (2, AV.int IntKind.i64 (iN q.goal)), (7, AV.lst (List.map (AV.int IntKind.i64) q.d)), (8, AV.sl 0 0 1), (9, AV.int IntKind.i64 (iN q.goal))] [some (Blk.mk [AV.int IntKind.i64 (iN q.goal)] 1 true true)], (((True ∧ True) ∧ (((True ∧ True) ∧ ((True ∧ True) ∧ ((True ∧ (True ∧ ((type_of% h1) ∧ (type_of% h2)))) ∧ ((True ∧ True) ∧ True)))) ∧ ((type_of% h3) ∧ (((True ∧ True) ∧ ((True ∧ True) ∧ ((True ∧ True) ∧ ((True ∧ (True ∧ (True ∧ (True ∧ (True ∧ (True ∧ ((type_of% h4) ∧ True))))))) ∧ ((True ∧ True) ∧ True))))) ∧ (((True ∧ True) ∧ ((True ∧ True) ∧ ((True ∧ True) ∧ ((True ∧ True) ∧ ((True ∧ True) ∧ True))))) ∧ True))))) ∧ (True ∧ (True ∧ (True ∧ (True ∧ (True ∧ (True ∧ True)))))))) by kernel_rfl) ⟨⟨⟨trivial, trivial⟩, ⟨⟨⟨trivial, trivial⟩, ⟨⟨trivial, trivial⟩, ⟨⟨trivial, ⟨trivial, ⟨h1, h2⟩⟩⟩, ⟨⟨trivial, trivial⟩, trivial⟩⟩⟩⟩, ⟨h3, ⟨⟨⟨trivial, trivial⟩, ⟨⟨trivial, trivial⟩, ⟨⟨trivial, trivial⟩, ⟨⟨trivial, ⟨trivial, ⟨trivial, ⟨trivial, ⟨trivial, ⟨trivial, ⟨h4, trivial⟩⟩⟩⟩⟩⟩⟩, ⟨⟨trivial, trivial⟩, trivial⟩⟩⟩⟩⟩, ⟨⟨⟨trivial, trivial⟩, ⟨⟨trivial, trivial⟩, ⟨⟨trivial, trivial⟩, ⟨⟨trivial, trivial⟩, ⟨⟨trivial, trivial⟩, trivial⟩⟩⟩⟩⟩, trivial⟩⟩⟩⟩⟩, ⟨trivial, ⟨trivial, ⟨trivial, ⟨trivial, ⟨trivial, ⟨trivial, trivial⟩⟩⟩⟩⟩⟩⟩ ht
theorem to_0 (q : QB) (h1 : (0 ≤ iN q.v)) (h2 : ((gL q.g)[(iN q.v).toNat]? = some (AV.lst (List.map (AV.int IntKind.i64) q.r)))) {post : Exit → St → Prop} (ht : T Try.prog 0 (.loop (loopC (loopC (bodyOf Try.f24) 0) 0)) (St.mk 68 [(0, AV.lst (gL q.g)), (2, AV.int IntKind.i64 (iN q.goal)), (7, AV.lst (List.map (AV.int IntKind.i64) q.d)), (8, AV.sl 0 0 q.p.length), (10, AV.int IntKind.i64 (-1)), (27, AV.lst (List.map (AV.int IntKind.i64) q.r)), (28, AV.int IntKind.i64 (iN (List.map (AV.int IntKind.i64) q.r).length)), (29, AV.int IntKind.i64 0)] [some (Blk.mk (List.map (AV.int IntKind.i64) q.p) 1 true true)]) (TK Try.prog 0 post (loopK (loopC (bodyOf Try.f24) 0) 0))) : ∃ o' st' q', go Try.prog ({ dec := [], els := e39 q, calls := cB q, unroll := false } : HT) 0 4000 (.inl (loopC (bodyOf Try.f24) 0)) [] (lo39 q) = some (o', st', q') ∧ q' ∧ Go.AX.Rest Try.prog 0 post st' o' :=
  endR_spec (σ := [0]) (fz := []) (vars := [0,2,7,8,10,27,28,29]) (show endR 0 [0] [] [0,2,7,8,10,27,28,29] (go Try.prog ({ dec := [], els := e39 q, calls := cB q, unroll := false } : HT) 0 4000 (.inl (loopC (bodyOf Try.f24) 0)) [] (lo39 q)) = some (loopC (loopC (bodyOf Try.f24) 0) 0, loopK (loopC (bodyOf Try.f24) 0) 0, St.mk 68 [(0, AV.lst (gL q.g)), (2, AV.int IntKind.i64 (iN q.goal)), (7, AV.lst (List.map (AV.int IntKind.i64) q.d)), (8, AV.sl 0 0 q.p.length), (10, AV.int IntKind.i64 (-1)), (27, AV.lst (List.map (AV.int IntKind.i64) q.r)), (28, AV.int IntKind.i64 (iN (List.map (AV.int IntKind.i64) q.r).length)), (29, AV.int IntKind.i64 0)] [some (Blk.mk (List.map (AV.int IntKind.i64) q.p) 1 true true)], (((True ∧ True) ∧ (((True ∧ True) ∧ ((True ∧ True) ∧ ((True ∧ (True ∧ ((type_of% h1) ∧ (type_of% h2)))) ∧ ((True ∧ True) ∧ ((True ∧ True) ∧ (True ∧ True)))))) ∧ True)) ∧ (True ∧ (True ∧ (True ∧ (True ∧ (True ∧ (True ∧ (True ∧ (True ∧ (True ∧ True))))))))))) by kernel_rfl) ⟨⟨⟨trivial, trivial⟩, ⟨⟨⟨trivial, trivial⟩, ⟨⟨trivial, trivial⟩, ⟨⟨trivial, ⟨trivial, ⟨h1, h2⟩⟩⟩, ⟨⟨trivial, trivial⟩, ⟨⟨trivial, trivial⟩, ⟨trivial, trivial⟩⟩⟩⟩⟩⟩, trivial⟩⟩, ⟨trivial, ⟨trivial, ⟨trivial, ⟨trivial, ⟨trivial, ⟨trivial, ⟨trivial, ⟨trivial, ⟨trivial, trivial⟩⟩⟩⟩⟩⟩⟩⟩⟩⟩ ht
theorem tea_0 (q : QB) (h1 : (decide (iN q.i < iN q.r.length) = false)) (h2 : (decide (q.bz < 0) = true)) {post : Exit → St → Prop} (hP : Pass post (Fin Try.prog Try.f24 0 [] (AV.nils))) : ∃ o' st' q', go2 Try.prog ({ dec := [(30, false), (57, true)], els := e39 q, calls := cB q, unroll := false } : HT) 0 4000 (loopC (loopC (bodyOf Try.f24) 0) 0) (loopK (loopC (bodyOf Try.f24) 0) 0) (li39 q) = some (o', st', q') ∧ q' ∧ Go.AX.Rest Try.prog 0 post st' o' :=
  endT_spec (σ := []) (fz := []) (show endT Try.prog Try.f24 0 [] [] (go2 Try.prog ({ dec := [(30, false), (57, true)], els := e39 q, calls := cB q, unroll := false } : HT) 0 4000 (loopC (loopC (bodyOf Try.f24) 0) 0) (loopK (loopC (bodyOf Try.f24) 0) 0) (li39 q)) = some ([], AV.nils, (((((True ∧ (True ∧ True)) ∧ True) ∧ ((type_of% h1) ∧ True)) ∧ (((True ∧ True) ∧ ((True ∧ True) ∧ (((type_of% h2) ∧ True) ∧ True))) ∧ (True ∧ ((True ∧ True) ∧ True)))) ∧ (True ∧ True))) by kernel_rfl) ⟨⟨⟨⟨⟨trivial, ⟨trivial, trivial⟩⟩, trivial⟩, ⟨h1, trivial⟩⟩, ⟨⟨⟨trivial, trivial⟩, ⟨⟨trivial, trivial⟩, ⟨⟨h2, trivial⟩, trivial⟩⟩⟩, ⟨trivial, ⟨⟨trivial, trivial⟩, trivial⟩⟩⟩⟩, ⟨trivial, trivial⟩⟩ hP
theorem teb_0 (q : QB) (h1 : (decide (iN q.i < iN q.r.length) = false)) (h2 : (decide (q.bz < 0) = false)) (h3 : ((q.bz == iN q.goal) = true)) (h4 : (q.p.length = (List.map (AV.int IntKind.i64) q.p).length)) {post : Exit → St → Prop} (hP : Pass post (Fin Try.prog Try.f24 0 [] (AV.lst (List.map (AV.int IntKind.i64) q.p)))) : ∃ o' st' q', go2 Try.prog ({ dec := [(30, false), (57, false), (61, true)], els := e39 q, calls := cB q, unroll := false } : HT) 0 4000 (loopC (loopC (bodyOf Try.f24) 0) 0) (loopK (loopC (bodyOf Try.f24) 0) 0) (li39 q) = some (o', st', q') ∧ q' ∧ Go.AX.Rest Try.prog 0 post st' o' :=
  endT_spec (σ := []) (fz := [0]) (show endT Try.prog Try.f24 0 [] [0] (go2 Try.prog ({ dec := [(30, false), (57, false), (61, true)], els := e39 q, calls := cB q, unroll := false } : HT) 0 4000 (loopC (loopC (bodyOf Try.f24) 0) 0) (loopK (loopC (bodyOf Try.f24) 0) 0) (li39 q)) = some ([], AV.lst (List.map (AV.int IntKind.i64) q.p), (((((True ∧ (True ∧ True)) ∧ True) ∧ ((type_of% h1) ∧ True)) ∧ (((True ∧ True) ∧ ((True ∧ True) ∧ (((type_of% h2) ∧ True) ∧ True))) ∧ (True ∧ (((True ∧ True) ∧ ((True ∧ True) ∧ ((True ∧ (True ∧ True)) ∧ (((type_of% h3) ∧ True) ∧ True)))) ∧ (True ∧ (((True ∧ True) ∧ ((True ∧ True) ∧ True)) ∧ True)))))) ∧ ((type_of% h4) ∧ True))) by kernel_rfl) ⟨⟨⟨⟨⟨trivial, ⟨trivial, trivial⟩⟩, trivial⟩, ⟨h1, trivial⟩⟩, ⟨⟨⟨trivial, trivial⟩, ⟨⟨trivial, trivial⟩, ⟨⟨h2, trivial⟩, trivial⟩⟩⟩, ⟨trivial, ⟨⟨⟨trivial, trivial⟩, ⟨⟨trivial, trivial⟩, ⟨⟨trivial, ⟨trivial, trivial⟩⟩, ⟨⟨h3, trivial⟩, trivial⟩⟩⟩⟩, ⟨trivial, ⟨⟨⟨trivial, trivial⟩, ⟨⟨trivial, trivial⟩, trivial⟩⟩, trivial⟩⟩⟩⟩⟩⟩, ⟨h4, trivial⟩⟩ hP
theorem tec_0 (q : QB) (h1 : (decide (iN q.i < iN q.r.length) = false)) (h2 : (decide (q.bz < 0) = false)) (h3 : ((q.bz == iN q.goal) = false)) (h4 : ((List.map (AV.int IntKind.i64) q.p).length = q.p.length)) (h5 : (1 ≤ [AV.int IntKind.i64 q.bz].length)) (h6 : ((List.map (AV.int IntKind.i64) q.p).length + [AV.int IntKind.i64 q.bz].length ≤ 9223372036854775807)) (h7 : (((List.map (AV.int IntKind.i64) q.p).length + [AV.int IntKind.i64 q.bz].length) * 8 ≤ 140737488355328)) {post : Exit → St → Prop} {R : St → Prop} (hR : ∀ st, Ren 0 st (St.mk 68 [(0, AV.lst (gL q.g)), (2, AV.int IntKind.i64 (iN q.goal)), (7, AV.lst (List.map (AV.int IntKind.i64) q.d)), (8, AV.sl 0 0 ((List.map (AV.int IntKind.i64) q.p).length + [AV.int IntKind.i64 q.bz].length)), (9, AV.int IntKind.i64 q.bz)] [some (Blk.mk (List.map (AV.int IntKind.i64) q.p ++ [AV.int IntKind.i64 q.bz]) 1 true true)]) → R st) : ∃ o' st' q', go2 Try.prog ({ dec := [(30, false), (57, false), (61, false)], els := e39 q, calls := cB q, unroll := false } : HT) 0 4000 (loopC (loopC (bodyOf Try.f24) 0) 0) (loopK (loopC (bodyOf Try.f24) 0) 0) (li39 q) = some (o', st', q') ∧ q' ∧ Go.AX.Rest Try.prog 0 (andThen R post) st' o' :=
  endN_spec (σ := [2]) (fz := []) (vars := [0,2,7,8,9]) (show endN 0 [2] [] [0,2,7,8,9] (go2 Try.prog ({ dec := [(30, false), (57, false), (61, false)], els := e39 q, calls := cB q, unroll := false } : HT) 0 4000 (loopC (loopC (bodyOf Try.f24) 0) 0) (loopK (loopC (bodyOf Try.f24) 0) 0) (li39 q)) = some (St.mk 68 [(0, AV.lst (gL q.g)), (2, AV.int IntKind.i64 (iN q.goal)), (7, AV.lst (List.map (AV.int IntKind.i64) q.d)), (8, AV.sl 0 0 ((List.map (AV.int IntKind.i64) q.p).length + [AV.int IntKind.i64 q.bz].length)), (9, AV.int IntKind.i64 q.bz)] [some (Blk.mk (List.map (AV.int IntKind.i64) q.p ++ [AV.int IntKind.i64 q.bz]) 1 true true)], (((((True ∧ (True ∧ True)) ∧ True) ∧ ((type_of% h1) ∧ True)) ∧ (((True ∧ True) ∧ ((True ∧ True) ∧ (((type_of% h2) ∧ True) ∧ True))) ∧ (True ∧ (((True ∧ True) ∧ ((True ∧ True) ∧ ((True ∧ (True ∧ True)) ∧ (((type_of% h3) ∧ True) ∧ True)))) ∧ (True ∧ (((True ∧ True) ∧ ((True ∧ True) ∧ ((True ∧ True) ∧ ((True ∧ (True ∧ ((type_of% h4) ∧ (((nat_lit 1 = nat_lit 1) ∧ (type_of% h5)) ∧ ((type_of% h6) ∧ (type_of% h7)))))) ∧ ((True ∧ True) ∧ ((True ∧ True) ∧ ((True ∧ True) ∧ True))))))) ∧ True)))))) ∧ (True ∧ (True ∧ (True ∧ (True ∧ (True ∧ (True ∧ True)))))))) by kernel_rfl) ⟨⟨⟨⟨⟨trivial, ⟨trivial, trivial⟩⟩, trivial⟩, ⟨h1, trivial⟩⟩, ⟨⟨⟨trivial, trivial⟩, ⟨⟨trivial, trivial⟩, ⟨⟨h2, trivial⟩, trivial⟩⟩⟩, ⟨trivial, ⟨⟨⟨trivial, trivial⟩, ⟨⟨trivial, trivial⟩, ⟨⟨trivial, ⟨trivial, trivial⟩⟩, ⟨⟨h3, trivial⟩, trivial⟩⟩⟩⟩, ⟨trivial, ⟨⟨⟨trivial, trivial⟩, ⟨⟨trivial, trivial⟩, ⟨⟨trivial, trivial⟩, ⟨⟨trivial, ⟨trivial, ⟨h4, ⟨⟨(by first | decide | exact Int.NonNeg.mk _), h5⟩, ⟨h6, h7⟩⟩⟩⟩⟩, ⟨⟨trivial, trivial⟩, ⟨⟨trivial, trivial⟩, ⟨⟨trivial, trivial⟩, trivial⟩⟩⟩⟩⟩⟩⟩, trivial⟩⟩⟩⟩⟩⟩, ⟨trivial, ⟨trivial, ⟨trivial, ⟨trivial, ⟨trivial, ⟨trivial, trivial⟩⟩⟩⟩⟩⟩⟩ hR
theorem tis_0 (q : QB) (h1 : (decide (iN q.i < iN q.r.length) = true)) (h2 : (0 ≤ iN q.i)) (h3 : ((List.map (AV.int IntKind.i64) q.r)[(iN q.i).toNat]? = some (AV.int IntKind.i64 (iN q.u)))) (h4 : (0 ≤ iN q.u)) (h5 : ((List.map (AV.int IntKind.i64) q.d)[(iN q.u).toNat]? = some (AV.int IntKind.i64 q.x))) (h6 : (decide (0 ≤ q.x) = false)) {post : Exit → St → Prop} {R : St → Prop} (hR : ∀ st, Ren 0 st (St.mk 68 [(0, AV.lst (gL q.g)), (2, AV.int IntKind.i64 (iN q.goal)), (7, AV.lst (List.map (AV.int IntKind.i64) q.d)), (8, AV.sl 0 0 q.p.length), (10, AV.int IntKind.i64 q.bz), (27, AV.lst (List.map (AV.int IntKind.i64) q.r)), (28, AV.int IntKind.i64 (iN q.r.length)), (29, AV.int IntKind.i64 (IntKind.i64.wrap (iN q.i + 1)))] [some (Blk.mk (List.map (AV.int IntKind.i64) q.p) 1 true true)]) → R st) : ∃ o' st' q', go Try.prog ({ dec := [(30, true), (37, false)], els := e39 q, calls := cB q, unroll := false } : HT) 0 4000 (.inl (loopC (loopC (bodyOf Try.f24) 0) 0)) [] (li39 q) = some (o', st', q') ∧ q' ∧ Go.AX.Rest Try.prog 0 (andThen R post) st' o' :=
  endN_spec (σ := [0]) (fz := []) (vars := [0,2,7,8,10,27,28,29]) (show endN 0 [0] [] [0,2,7,8,10,27,28,29] (go Try.prog ({ dec := [(30, true), (37, false)], els := e39 q, calls := cB q, unroll := false } : HT) 0 4000 (.inl (loopC (loopC (bodyOf Try.f24) 0) 0)) [] (li39 q)) = some (St.mk 68 [(0, AV.lst (gL q.g)), (2, AV.int IntKind.i64 (iN q.goal)), (7, AV.lst (List.map (AV.int IntKind.i64) q.d)), (8, AV.sl 0 0 q.p.length), (10, AV.int IntKind.i64 q.bz), (27, AV.lst (List.map (AV.int IntKind.i64) q.r)), (28, AV.int IntKind.i64 (iN q.r.length)), (29, AV.int IntKind.i64 (IntKind.i64.wrap (iN q.i + 1)))] [some (Blk.mk (List.map (AV.int IntKind.i64) q.p) 1 true true)], ((((True ∧ (True ∧ True)) ∧ True) ∧ ((type_of% h1) ∧ (((True ∧ (True ∧ ((type_of% h2) ∧ (type_of% h3)))) ∧ ((True ∧ True) ∧ ((True ∧ True) ∧ True))) ∧ (((True ∧ True) ∧ ((True ∧ True) ∧ ((True ∧ (True ∧ ((type_of% h4) ∧ (type_of% h5)))) ∧ ((True ∧ True) ∧ ((True ∧ True) ∧ (((type_of% h6) ∧ True) ∧ (True ∧ (True ∧ (True ∧ (True ∧ (True ∧ (True ∧ (True ∧ (True ∧ (True ∧ (True ∧ (True ∧ (True ∧ (True ∧ ((True ∧ (True ∧ True)) ∧ True)))))))))))))))))))) ∧ (True ∧ (((True ∧ True) ∧ ((True ∧ True) ∧ True)) ∧ True)))))) ∧ (True ∧ (True ∧ (True ∧ (True ∧ (True ∧ (True ∧ (True ∧ (True ∧ (True ∧ True))))))))))) by kernel_rfl) ⟨⟨⟨⟨trivial, ⟨trivial, trivial⟩⟩, trivial⟩, ⟨h1, ⟨⟨⟨trivial, ⟨trivial, ⟨h2, h3⟩⟩⟩, ⟨⟨trivial, trivial⟩, ⟨⟨trivial, trivial⟩, trivial⟩⟩⟩, ⟨⟨⟨trivial, trivial⟩, ⟨⟨trivial, trivial⟩, ⟨⟨trivial, ⟨trivial, ⟨h4, h5⟩⟩⟩, ⟨⟨trivial, trivial⟩, ⟨⟨trivial, trivial⟩, ⟨⟨h6, trivial⟩, ⟨trivial, ⟨trivial, ⟨trivial, ⟨trivial, ⟨trivial, ⟨trivial, ⟨trivial, ⟨trivial, ⟨trivial, ⟨trivial, ⟨trivial, ⟨trivial, ⟨trivial, ⟨⟨trivial, ⟨trivial, trivial⟩⟩, trivial⟩⟩⟩⟩⟩⟩⟩⟩⟩⟩⟩⟩⟩⟩⟩⟩⟩⟩⟩⟩, ⟨trivial, ⟨⟨⟨trivial, trivial⟩, ⟨⟨trivial, trivial⟩, trivial⟩⟩, trivial⟩⟩⟩⟩⟩⟩, ⟨trivial, ⟨trivial, ⟨trivial, ⟨trivial, ⟨trivial, ⟨trivial, ⟨trivial, ⟨trivial, ⟨trivial, trivial⟩⟩⟩⟩⟩⟩⟩⟩⟩⟩ hR
theorem tit_0 (q : QB) (h1 : (decide (iN q.i < iN q.r.length) = true)) (h2 : (0 ≤ iN q.i)) (h3 : ((List.map (AV.int IntKind.i64) q.r)[(iN q.i).toNat]? = some (AV.int IntKind.i64 (iN q.u)))) (h4 : (0 ≤ iN q.u)) (h5 : ((List.map (AV.int IntKind.i64) q.d)[(iN q.u).toNat]? = some (AV.int IntKind.i64 q.x))) (h6 : (decide (0 ≤ q.x) = true)) (h7 : (decide (q.bz < 0) = true)) {post : Exit → St → Prop} {R : St → Prop} (hR : ∀ st, Ren 0 st (St.mk 68 [(0, AV.lst (gL q.g)), (2, AV.int IntKind.i64 (iN q.goal)), (7, AV.lst (List.map (AV.int IntKind.i64) q.d)), (8, AV.sl 0 0 q.p.length), (10, AV.int IntKind.i64 (iN q.u)), (27, AV.lst (List.map (AV.int IntKind.i64) q.r)), (28, AV.int IntKind.i64 (iN q.r.length)), (29, AV.int IntKind.i64 (IntKind.i64.wrap (iN q.i + 1)))] [some (Blk.mk (List.map (AV.int IntKind.i64) q.p) 1 true true)]) → R st) : ∃ o' st' q', go Try.prog ({ dec := [(30, true), (37, true), (40, true)], els := e39 q, calls := cB q, unroll := false } : HT) 0 4000 (.inl (loopC (loopC (bodyOf Try.f24) 0) 0)) [] (li39 q) = some (o', st', q') ∧ q' ∧ Go.AX.Rest Try.prog 0 (andThen R post) st' o' :=
  endN_spec (σ := [0]) (fz := []) (vars := [0,2,7,8,10,27,28,29]) (show endN 0 [0] [] [0,2,7,8,10,27,28,29] (go Try.prog ({ dec := [(30, true), (37, true), (40, true)], els := e39 q, calls := cB q, unroll := false } : HT) 0 4000 (.inl (loopC (loopC (bodyOf Try.f24) 0) 0)) [] (li39 q)) = some (St.mk 68 [(0, AV.lst (gL q.g)), (2, AV.int IntKind.i64 (iN q.goal)), (7, AV.lst (List.map (AV.int IntKind.i64) q.d)), (8, AV.sl 0 0 q.p.length), (10, AV.int IntKind.i64 (iN q.u)), (27, AV.lst (List.map (AV.int IntKind.i64) q.r)), (28, AV.int IntKind.i64 (iN q.r.length)), (29, AV.int IntKind.i64 (IntKind.i64.wrap (iN q.i + 1)))] [some (Blk.mk (List.map (AV.int IntKind.i64) q.p) 1 true true)], ((((True ∧ (True ∧ True)) ∧ True) ∧ ((type_of% h1) ∧ (((True ∧ (True ∧ ((type_of% h2) ∧ (type_of% h3)))) ∧ ((True ∧ True) ∧ ((True ∧ True) ∧ True))) ∧ (((True ∧ True) ∧ ((True ∧ True) ∧ ((True ∧ (True ∧ ((type_of% h4) ∧ (type_of% h5)))) ∧ ((True ∧ True) ∧ ((True ∧ True) ∧ (((type_of% h6) ∧ True) ∧ ((True ∧ (True ∧ True)) ∧ ((True ∧ (True ∧ True)) ∧ ((True ∧ ((type_of% h7) ∧ True)) ∧ (True ∧ (True ∧ (True ∧ (True ∧ (True ∧ (True ∧ (True ∧ (True ∧ (True ∧ ((True ∧ (True ∧ (True ∧ True))) ∧ ((True ∧ (True ∧ True)) ∧ True)))))))))))))))))))) ∧ (True ∧ (((True ∧ True) ∧ ((True ∧ True) ∧ True)) ∧ (((True ∧ True) ∧ ((True ∧ True) ∧ True)) ∧ True))))))) ∧ (True ∧ (True ∧ (True ∧ (True ∧ (True ∧ (True ∧ (True ∧ (True ∧ (True ∧ True))))))))))) by kernel_rfl) ⟨⟨⟨⟨trivial, ⟨trivial, trivial⟩⟩, trivial⟩, ⟨h1, ⟨⟨⟨trivial, ⟨trivial, ⟨h2, h3⟩⟩⟩, ⟨⟨trivial, trivial⟩, ⟨⟨trivial, trivial⟩, trivial⟩⟩⟩, ⟨⟨⟨trivial, trivial⟩, ⟨⟨trivial, trivial⟩, ⟨⟨trivial, ⟨trivial, ⟨h4, h5⟩⟩⟩, ⟨⟨trivial, trivial⟩, ⟨⟨trivial, trivial⟩, ⟨⟨h6, trivial⟩, ⟨⟨trivial, ⟨trivial, trivial⟩⟩, ⟨⟨trivial, ⟨trivial, trivial⟩⟩, ⟨⟨trivial, ⟨h7, trivial⟩⟩, ⟨trivial, ⟨trivial, ⟨trivial, ⟨trivial, ⟨trivial, ⟨trivial, ⟨trivial, ⟨trivial, ⟨trivial, ⟨⟨trivial, ⟨trivial, ⟨trivial, trivial⟩⟩⟩, ⟨⟨trivial, ⟨trivial, trivial⟩⟩, trivial⟩⟩⟩⟩⟩⟩⟩⟩⟩⟩⟩⟩⟩⟩⟩⟩⟩⟩⟩⟩, ⟨trivial, ⟨⟨⟨trivial, trivial⟩, ⟨⟨trivial, trivial⟩, trivial⟩⟩, ⟨⟨⟨trivial, trivial⟩, ⟨⟨trivial, trivial⟩, trivial⟩⟩, trivial⟩⟩⟩⟩⟩⟩⟩, ⟨trivial, ⟨trivial, ⟨trivial, ⟨trivial, ⟨trivial, ⟨trivial, ⟨trivial, ⟨trivial, ⟨trivial, trivial⟩⟩⟩⟩⟩⟩⟩⟩⟩⟩ hR
theorem tiu_0 (q : QB) (h1 : (decide (iN q.i < iN q.r.length) = true)) (h2 : (0 ≤ iN q.i)) (h3 : ((List.map (AV.int IntKind.i64) q.r)[(iN q.i).toNat]? = some (AV.int IntKind.i64 (iN q.u)))) (h4 : (0 ≤ iN q.u)) (h5 : ((List.map (AV.int IntKind.i64) q.d)[(iN q.u).toNat]? = some (AV.int IntKind.i64 q.x))) (h6 : (decide (0 ≤ q.x) = true)) (h7 : (decide (q.bz < 0) = false)) (h8 : (0 ≤ q.bz)) (h9 : ((List.map (AV.int IntKind.i64) q.d)[q.bz.toNat]? = some (AV.int IntKind.i64 q.y))) (h10 : (decide (q.x < q.y) = true)) {post : Exit → St → Prop} {R : St → Prop} (hR : ∀ st, Ren 0 st (St.mk 68 [(0, AV.lst (gL q.g)), (2, AV.int IntKind.i64 (iN q.goal)), (7, AV.lst (List.map (AV.int IntKind.i64) q.d)), (8, AV.sl 0 0 q.p.length), (10, AV.int IntKind.i64 (iN q.u)), (27, AV.lst (List.map (AV.int IntKind.i64) q.r)), (28, AV.int IntKind.i64 (iN q.r.length)), (29, AV.int IntKind.i64 (IntKind.i64.wrap (iN q.i + 1)))] [some (Blk.mk (List.map (AV.int IntKind.i64) q.p) 1 true true)]) → R st) : ∃ o' st' q', go Try.prog ({ dec := [(30, true), (37, true), (40, false), (52, true)], els := e39 q, calls := cB q, unroll := false } : HT) 0 4000 (.inl (loopC (loopC (bodyOf Try.f24) 0) 0)) [] (li39 q) = some (o', st', q') ∧ q' ∧ Go.AX.Rest Try.prog 0 (andThen R post) st' o' :=
  endN_spec (σ := [0]) (fz := []) (vars := [0,2,7,8,10,27,28,29]) (show endN 0 [0] [] [0,2,7,8,10,27,28,29] (go Try.prog ({ dec := [(30, true), (37, true), (40, false), (52, true)], els := e39 q, calls := cB q, unroll := false } : HT) 0 4000 (.inl (loopC (loopC (bodyOf Try.f24) 0) 0)) [] (li39 q)) = some (St.mk 68 [(0, AV.lst (gL q.g)), (2, AV.int IntKind.i64 (iN q.goal)), (7, AV.lst (List.map (AV.int IntKind.i64) q.d)), (8, AV.sl 0 0 q.p.length), (10, AV.int IntKind.i64 (iN q.u)), (27, AV.lst (List.map (AV.int IntKind.i64) q.r)), (28, AV.int IntKind.i64 (iN q.r.length)), (29, AV.int IntKind.i64 (IntKind.i64.wrap (iN q.i + 1)))] [some (Blk.mk (List.map (AV.int IntKind.i64) q.p) 1 true true)], ((((True ∧ (True ∧ True)) ∧ True) ∧ ((type_of% h1) ∧ (((True ∧ (True ∧ ((type_of% h2) ∧ (type_of% h3)))) ∧ ((True ∧ True) ∧ ((True ∧ True) ∧ True))) ∧ (((True ∧ True) ∧ ((True ∧ True) ∧ ((True ∧ (True ∧ ((type_of% h4) ∧ (type_of% h5)))) ∧ ((True ∧ True) ∧ ((True ∧ True) ∧ (((type_of% h6) ∧ True) ∧ ((True ∧ (True ∧ True)) ∧ ((True ∧ (True ∧ True)) ∧ ((True ∧ ((type_of% h7) ∧ True)) ∧ ((True ∧ (True ∧ True)) ∧ ((True ∧ (True ∧ True)) ∧ ((True ∧ (True ∧ (True ∧ ((type_of% h4) ∧ (type_of% h5))))) ∧ ((True ∧ (True ∧ True)) ∧ ((True ∧ (True ∧ True)) ∧ ((True ∧ (True ∧ True)) ∧ ((True ∧ (True ∧ (True ∧ ((type_of% h8) ∧ (type_of% h9))))) ∧ ((True ∧ (True ∧ True)) ∧ ((True ∧ (True ∧ (True ∧ True))) ∧ ((True ∧ (True ∧ (True ∧ True))) ∧ ((True ∧ (True ∧ True)) ∧ True)))))))))))))))))))) ∧ ((type_of% h10) ∧ (((True ∧ True) ∧ ((True ∧ True) ∧ True)) ∧ (((True ∧ True) ∧ ((True ∧ True) ∧ True)) ∧ True))))))) ∧ (True ∧ (True ∧ (True ∧ (True ∧ (True ∧ (True ∧ (True ∧ (True ∧ (True ∧ True))))))))))) by kernel_rfl) ⟨⟨⟨⟨trivial, ⟨trivial, trivial⟩⟩, trivial⟩, ⟨h1, ⟨⟨⟨trivial, ⟨trivial, ⟨h2, h3⟩⟩⟩, ⟨⟨trivial, trivial⟩, ⟨⟨trivial, trivial⟩, trivial⟩⟩⟩, ⟨⟨⟨trivial, trivial⟩, ⟨⟨trivial, trivial⟩, ⟨⟨trivial, ⟨trivial, ⟨h4, h5⟩⟩⟩, ⟨⟨trivial, trivial⟩, ⟨⟨trivial, trivial⟩, ⟨⟨h6, trivial⟩, ⟨⟨trivial, ⟨trivial, trivial⟩⟩, ⟨⟨trivial, ⟨trivial, trivial⟩⟩, ⟨⟨trivial, ⟨h7, trivial⟩⟩, ⟨⟨trivial, ⟨trivial, trivial⟩⟩, ⟨⟨trivial, ⟨trivial, trivial⟩⟩, ⟨⟨trivial, ⟨trivial, ⟨trivial, ⟨h4, h5⟩⟩⟩⟩, ⟨⟨trivial, ⟨trivial, trivial⟩⟩, ⟨⟨trivial, ⟨trivial, trivial⟩⟩, ⟨⟨trivial, ⟨trivial, trivial⟩⟩, ⟨⟨trivial, ⟨trivial, ⟨trivial, ⟨h8, h9⟩⟩⟩⟩, ⟨⟨trivial, ⟨trivial, trivial⟩⟩, ⟨⟨trivial, ⟨trivial, ⟨trivial, trivial⟩⟩⟩, ⟨⟨trivial, ⟨trivial, ⟨trivial, trivial⟩⟩⟩, ⟨⟨trivial, ⟨trivial, trivial⟩⟩, trivial⟩⟩⟩⟩⟩⟩⟩⟩⟩⟩⟩⟩⟩⟩⟩⟩⟩⟩⟩⟩, ⟨h10, ⟨⟨⟨trivial, trivial⟩, ⟨⟨trivial, trivial⟩, trivial⟩⟩, ⟨⟨⟨trivial, trivial⟩, ⟨⟨trivial, trivial⟩, trivial⟩⟩, trivial⟩⟩⟩⟩⟩⟩⟩, ⟨trivial, ⟨trivial, ⟨trivial, ⟨trivial, ⟨trivial, ⟨trivial, ⟨trivial, ⟨trivial, ⟨trivial, trivial⟩⟩⟩⟩⟩⟩⟩⟩⟩⟩ hR
theorem tiu_1 (q : QB) (h1 : (decide (iN q.i < iN q.r.length) = true)) (h2 : (0 ≤ iN q.i)) (h3 : ((List.map (AV.int IntKind.i64) q.r)[(iN q.i).toNat]? = some (AV.int IntKind.i64 (iN q.u)))) (h4 : (0 ≤ iN q.u)) (h5 : ((List.map (AV.int IntKind.i64) q.d)[(iN q.u).toNat]? = some (AV.int IntKind.i64 q.x))) (h6 : (decide (0 ≤ q.x) = true)) (h7 : (decide (q.bz < 0) = false)) (h8 : (0 ≤ q.bz)) (h9 : ((List.map (AV.int IntKind.i64) q.d)[q.bz.toNat]? = some (AV.int IntKind.i64 q.y))) (h10 : (decide (q.x < q.y) = false)) {post : Exit → St → Prop} {R : St → Prop} (hR : ∀ st, Ren 0 st (St.mk 68 [(0, AV.lst (gL q.g)), (2, AV.int IntKind.i64 (iN q.goal)), (7, AV.lst (List.map (AV.int IntKind.i64) q.d)), (8, AV.sl 0 0 q.p.length), (10, AV.int IntKind.i64 q.bz), (27, AV.lst (List.map (AV.int IntKind.i64) q.r)), (28, AV.int IntKind.i64 (iN q.r.length)), (29, AV.int IntKind.i64 (IntKind.i64.wrap (iN q.i + 1)))] [some (Blk.mk (List.map (AV.int IntKind.i64) q.p) 1 true true)]) → R st) : ∃ o' st' q', go Try.prog ({ dec := [(30, true), (37, true), (40, false), (52, false)], els := e39 q, calls := cB q, unroll := false } : HT) 0 4000 (.inl (loopC (loopC (bodyOf Try.f24) 0) 0)) [] (li39 q) = some (o', st', q') ∧ q' ∧ Go.AX.Rest Try.prog 0 (andThen R post) st' o' :=
  endN_spec (σ := [0]) (fz := []) (vars := [0,2,7,8,10,27,28,29]) (show endN 0 [0] [] [0,2,7,8,10,27,28,29] (go Try.prog ({ dec := [(30, true), (37, true), (40, false), (52, false)], els := e39 q, calls := cB q, unroll := false } : HT) 0 4000 (.inl (loopC (loopC (bodyOf Try.f24) 0) 0)) [] (li39 q)) = some (St.mk 68 [(0, AV.lst (gL q.g)), (2, AV.int IntKind.i64 (iN q.goal)), (7, AV.lst (List.map (AV.int IntKind.i64) q.d)), (8, AV.sl 0 0 q.p.length), (10, AV.int IntKind.i64 q.bz), (27, AV.lst (List.map (AV.int IntKind.i64) q.r)), (28, AV.int IntKind.i64 (iN q.r.length)), (29, AV.int IntKind.i64 (IntKind.i64.wrap (iN q.i + 1)))] [some (Blk.mk (List.map (AV.int IntKind.i64) q.p) 1 true true)], ((((True ∧ (True ∧ True)) ∧ True) ∧ ((type_of% h1) ∧ (((True ∧ (True ∧ ((type_of% h2) ∧ (type_of% h3)))) ∧ ((True ∧ True) ∧ ((True ∧ True) ∧ True))) ∧ (((True ∧ True) ∧ ((True ∧ True) ∧ ((True ∧ (True ∧ ((type_of% h4) ∧ (type_of% h5)))) ∧ ((True ∧ True) ∧ ((True ∧ True) ∧ (((type_of% h6) ∧ True) ∧ ((True ∧ (True ∧ True)) ∧ ((True ∧ (True ∧ True)) ∧ ((True ∧ ((type_of% h7) ∧ True)) ∧ ((True ∧ (True ∧ True)) ∧ ((True ∧ (True ∧ True)) ∧ ((True ∧ (True ∧ (True ∧ ((type_of% h4) ∧ (type_of% h5))))) ∧ ((True ∧ (True ∧ True)) ∧ ((True ∧ (True ∧ True)) ∧ ((True ∧ (True ∧ True)) ∧ ((True ∧ (True ∧ (True ∧ ((type_of% h8) ∧ (type_of% h9))))) ∧ ((True ∧ (True ∧ True)) ∧ ((True ∧ (True ∧ (True ∧ True))) ∧ ((True ∧ (True ∧ (True ∧ True))) ∧ ((True ∧ (True ∧ True)) ∧ True)))))))))))))))))))) ∧ ((type_of% h10) ∧ (((True ∧ True) ∧ ((True ∧ True) ∧ True)) ∧ True)))))) ∧ (True ∧ (True ∧ (True ∧ (True ∧ (True ∧ (True ∧ (True ∧ (True ∧ (True ∧ True))))))))))) by kernel_rfl) ⟨⟨⟨⟨trivial, ⟨trivial, trivial⟩⟩, trivial⟩, ⟨h1, ⟨⟨⟨trivial, ⟨trivial, ⟨h2, h3⟩⟩⟩, ⟨⟨trivial, trivial⟩, ⟨⟨trivial, trivial⟩, trivial⟩⟩⟩, ⟨⟨⟨trivial, trivial⟩, ⟨⟨trivial, trivial⟩, ⟨⟨trivial, ⟨trivial, ⟨h4, h5⟩⟩⟩, ⟨⟨trivial, trivial⟩, ⟨⟨trivial, trivial⟩, ⟨⟨h6, trivial⟩, ⟨⟨trivial, ⟨trivial, trivial⟩⟩, ⟨⟨trivial, ⟨trivial, trivial⟩⟩, ⟨⟨trivial, ⟨h7, trivial⟩⟩, ⟨⟨trivial, ⟨trivial, trivial⟩⟩, ⟨⟨trivial, ⟨trivial, trivial⟩⟩, ⟨⟨trivial, ⟨trivial, ⟨trivial, ⟨h4, h5⟩⟩⟩⟩, ⟨⟨trivial, ⟨trivial, trivial⟩⟩, ⟨⟨trivial, ⟨trivial, trivial⟩⟩, ⟨⟨trivial, ⟨trivial, trivial⟩⟩, ⟨⟨trivial, ⟨trivial, ⟨trivial, ⟨h8, h9⟩⟩⟩⟩, ⟨⟨trivial, ⟨trivial, trivial⟩⟩, ⟨⟨trivial, ⟨trivial, ⟨trivial, trivial⟩⟩⟩, ⟨⟨trivial, ⟨trivial, ⟨trivial, trivial⟩⟩⟩, ⟨⟨trivial, ⟨trivial, trivial⟩⟩, trivial⟩⟩⟩⟩⟩⟩⟩⟩⟩⟩⟩⟩⟩⟩⟩⟩⟩⟩⟩⟩, ⟨h10, ⟨⟨⟨trivial, trivial⟩, ⟨⟨trivial, trivial⟩, trivial⟩⟩, trivial⟩⟩⟩⟩⟩⟩, ⟨trivial, ⟨trivial, ⟨trivial, ⟨trivial, ⟨trivial, ⟨trivial, ⟨trivial, ⟨trivial, ⟨trivial, trivial⟩⟩⟩⟩⟩⟩⟩⟩⟩⟩ hR
theorem tw_0 (q : QB) (h1 : (CT Try.prog 23 [] [AV.lst (gL q.g), AV.lst (boL q.s)] [] (AV.int IntKind.i64 0))) (h2 : (decide (iN (gL q.g).length ≤ iN q.goal) = false)) (h3 : (CT Try.prog 24 [] [AV.lst (gL q.g), AV.lst (boL q.s), AV.int IntKind.i64 (iN q.goal)] [] (AV.lst (List.map (AV.int IntKind.i64) q.p)))) : ∃ o' st' q', go Try.prog ({ dec := [(18, false), (23, false)], els := e24 q, calls := cB q, unroll := false } : HT) 0 4000 (.inl (bodyOf Try.f14)) [] (st24 q) = some (o', st', q') ∧ q' ∧ Go.AX.Rest Try.prog 0 (Fin Try.prog Try.f14 0 [] (AV.tup [AV.int IntKind.i64 (iN (List.map (AV.int IntKind.i64) q.p).length), AV.lst (List.map (AV.int IntKind.i64) q.p), AV.int IntKind.i64 0])) st' o' :=
  endF_spec (σ := []) (fz := []) (show endF Try.prog Try.f14 0 [] [] (go Try.prog ({ dec := [(18, false), (23, false)], els := e24 q, calls := cB q, unroll := false } : HT) 0 4000 (.inl (bodyOf Try.f14)) [] (st24 q)) = some ([], AV.tup [AV.int IntKind.i64 (iN (List.map (AV.int IntKind.i64) q.p).length), AV.lst (List.map (AV.int IntKind.i64) q.p), AV.int IntKind.i64 0], (((True ∧ (True ∧ (True ∧ True))) ∧ (((True ∧ True) ∧ ((True ∧ True) ∧ ((True ∧ (True ∧ (True ∧ (True ∧ ((type_of% h1) ∧ True))))) ∧ ((True ∧ True) ∧ True)))) ∧ (((True ∧ True) ∧ ((True ∧ True) ∧ True)) ∧ (True ∧ (((True ∧ True) ∧ ((True ∧ True) ∧ (((false = false) ∧ True) ∧ ((True ∧ (True ∧ True)) ∧ ((True ∧ (True ∧ True)) ∧ ((True ∧ (True ∧ True)) ∧ ((True ∧ (True ∧ (True ∧ True))) ∧ ((True ∧ ((type_of% h2) ∧ True)) ∧ True)))))))) ∧ (True ∧ (((True ∧ True) ∧ ((True ∧ True) ∧ ((True ∧ True) ∧ ((True ∧ (True ∧ (True ∧ (True ∧ (True ∧ (True ∧ ((type_of% h3) ∧ True))))))) ∧ ((True ∧ True) ∧ True))))) ∧ (((True ∧ True) ∧ ((True ∧ True) ∧ ((True ∧ True) ∧ ((True ∧ True) ∧ ((True ∧ True) ∧ (True ∧ True)))))) ∧ True)))))))) ∧ ((True ∧ (True ∧ (True ∧ True))) ∧ True))) by kernel_rfl) ⟨⟨⟨trivial, ⟨trivial, ⟨trivial, trivial⟩⟩⟩, ⟨⟨⟨trivial, trivial⟩, ⟨⟨trivial, trivial⟩, ⟨⟨trivial, ⟨trivial, ⟨trivial, ⟨trivial, ⟨h1, trivial⟩⟩⟩⟩⟩, ⟨⟨trivial, trivial⟩, trivial⟩⟩⟩⟩, ⟨⟨⟨trivial, trivial⟩, ⟨⟨trivial, trivial⟩, trivial⟩⟩, ⟨trivial, ⟨⟨⟨trivial, trivial⟩, ⟨⟨trivial, trivial⟩, ⟨⟨(by first | decide | exact Int.NonNeg.mk _), trivial⟩, ⟨⟨trivial, ⟨trivial, trivial⟩⟩, ⟨⟨trivial, ⟨trivial, trivial⟩⟩, ⟨⟨trivial, ⟨trivial, trivial⟩⟩, ⟨⟨trivial, ⟨trivial, ⟨trivial, trivial⟩⟩⟩, ⟨⟨trivial, ⟨h2, trivial⟩⟩, trivial⟩⟩⟩⟩⟩⟩⟩⟩, ⟨trivial, ⟨⟨⟨trivial, trivial⟩, ⟨⟨trivial, trivial⟩, ⟨⟨trivial, trivial⟩, ⟨⟨trivial, ⟨trivial, ⟨trivial, ⟨trivial, ⟨trivial, ⟨trivial, ⟨h3, trivial⟩⟩⟩⟩⟩⟩⟩, ⟨⟨trivial, trivial⟩, trivial⟩⟩⟩⟩⟩, ⟨⟨⟨trivial, trivial⟩, ⟨⟨trivial, trivial⟩, ⟨⟨trivial, trivial⟩, ⟨⟨trivial, trivial⟩, ⟨⟨trivial, trivial⟩, ⟨trivial, trivial⟩⟩⟩⟩⟩⟩, trivial⟩⟩⟩⟩⟩⟩⟩⟩, ⟨⟨trivial, ⟨trivial, ⟨trivial, trivial⟩⟩⟩, trivial⟩⟩
end Go.Proofs.Ytcdgphdieemjcaa


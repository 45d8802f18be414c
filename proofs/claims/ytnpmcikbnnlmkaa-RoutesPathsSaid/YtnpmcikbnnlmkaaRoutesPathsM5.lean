/- Parts of the proof: Rt6p, RtS, Rt7p, RtN, RtO, Rt8p, RtP, RtR, RtQ. -/
import Derived.Test.YtnpmcikbnnlmkaaProg
import Derived.KernelRfl
import Derived.Test.YtnpmcikbnnlmkaaRoutesPathsM4
/-! The paths of a function, by evaluation. -/
open Go Go.AX Go.Proofs
set_option maxRecDepth 100000
set_option maxHeartbeats 4000000
set_option linter.unusedVariables false
namespace Go.Proofs.Ytnpmcikbnnlmkaa
noncomputable def st5 (q : QT) : St := { n := Try.f5.ntmps, fr := [(0, lI q.L)], hp := [] }
noncomputable def s51 (q : QT) : St := { n := Try.f5.ntmps, fr := [(0, lI q.L)], hp := [] }
noncomputable def s53 (q : QT) : St := { n := Try.f5.ntmps, fr := [(3, .ptr 0 0 0)], hp := [some (tapeB q.L 0)] }
noncomputable def s54 (q : QT) : St := { n := Try.f5.ntmps, fr := [(3, .ptr 0 0 0), (4, .lst (gL q.g))], hp := [some (tapeB q.L q.m1)] }
noncomputable def s56 (q : QT) : St := { n := Try.f5.ntmps, fr := [(3, .ptr 0 0 0), (4, .lst (gL q.g)), (5, .lst (boL q.s))], hp := [some (tapeB q.L q.m2)] }
noncomputable def s57 (q : QT) : St := { n := Try.f5.ntmps, fr := [(3, .ptr 0 0 0), (4, .lst (gL q.g)), (5, .lst (boL q.s)), (6, .sl 1 0 (boL q.s).length)], hp := [some (tapeB q.L q.m2), some { es := boL q.s, z := 1 }] }
def bo2 (q : QT) : AV := .lst (boL (q.s.set q.v true))
noncomputable def s58 (q : QT) : St := { n := Try.f5.ntmps, fr := [(3, .ptr 0 0 0), (4, .lst (gL q.g)), (5, .lst (boL q.s)), (6, bo2 q)], hp := [some (tapeB q.L (q.m2 + 1))] }
noncomputable def lo5 (q : QT) : St := { n := Try.f5.ntmps, fr := [(4, .lst (gL q.g)), (8, lI q.d), (10, lI q.r), (12, .int .i64 (iN q.k))], hp := [] }
def c5 (q : QT) : Nat → FuncId → List AV → List (Option Blk) → Hint := fun dst f args hp => match f with
  | 11 => nextG q.L args hp (match dst with | 33 => iN q.v | _ => iN q.goal)
  | 12 => .call [] [] [] (.tup [lI (match dst with | 43 => q.d | _ => q.r), .int .i64 0])
  | _ => cT q dst f args hp
def e5 (q : QT) : List (Nat × AV) := [(81, .int .i64 q.y), (87, .int .i64 q.x), (93, .int .i64 q.y), (97, .int .i64 q.x)]
theorem sz_0 (q : QT) (h1 : (CT Try.prog (nat_lit 8) [] [] [] (AV.bool true))) (h2 : (CT Try.prog 9 [some (Blk.mk [AV.agg [AV.lst (List.map (AV.int IntKind.i64) q.L), AV.int IntKind.i64 0]] [AV.lst (List.map (AV.int IntKind.i64) q.L), AV.int IntKind.i64 0].length true true)] [AV.ptr 0 0 0, AV.int IntKind.i64 9] [some (Blk.mk [AV.agg [AV.lst (List.map (AV.int IntKind.i64) q.L), AV.int IntKind.i64 (iN q.m1)]] 2 true true)] (AV.lst (gL q.g)))) (h3 : ((iN (gL q.g).length == 0) = true)) : ∃ o' st' q', go Try.prog ({ dec := [(22, true)], els := e5 q, calls := c5 q, unroll := false } : HT) 0 4000 (.inl (bodyOf Try.f5)) [] (st5 q) = some (o', st', q') ∧ q' ∧ Go.AX.Rest Try.prog 0 (Fin Try.prog Try.f5 0 [] (AV.bool true)) st' o' :=
  endF_spec (σ := []) (fz := []) (show endF Try.prog Try.f5 0 [] [] (go Try.prog ({ dec := [(22, true)], els := e5 q, calls := c5 q, unroll := false } : HT) 0 4000 (.inl (bodyOf Try.f5)) [] (st5 q)) = some ([], AV.bool true, (((True ∧ True) ∧ ((((type_of% h1) ∧ True) ∧ ((True ∧ True) ∧ True)) ∧ (True ∧ (((True ∧ True) ∧ ((True ∧ True) ∧ ((True ∧ True) ∧ ((True ∧ True) ∧ True)))) ∧ (((True ∧ True) ∧ ((True ∧ (True ∧ (True ∧ (True ∧ ((type_of% h2) ∧ True))))) ∧ ((True ∧ True) ∧ True))) ∧ (((True ∧ True) ∧ ((True ∧ True) ∧ ((True ∧ True) ∧ True))) ∧ ((type_of% h3) ∧ ((True ∧ True) ∧ True)))))))) ∧ (True ∧ True))) by kernel_rfl) ⟨⟨⟨trivial, trivial⟩, ⟨⟨⟨h1, trivial⟩, ⟨⟨trivial, trivial⟩, trivial⟩⟩, ⟨trivial, ⟨⟨⟨trivial, trivial⟩, ⟨⟨trivial, trivial⟩, ⟨⟨trivial, trivial⟩, ⟨⟨trivial, trivial⟩, trivial⟩⟩⟩⟩, ⟨⟨⟨trivial, trivial⟩, ⟨⟨trivial, ⟨trivial, ⟨trivial, ⟨trivial, ⟨h2, trivial⟩⟩⟩⟩⟩, ⟨⟨trivial, trivial⟩, trivial⟩⟩⟩, ⟨⟨⟨trivial, trivial⟩, ⟨⟨trivial, trivial⟩, ⟨⟨trivial, trivial⟩, trivial⟩⟩⟩, ⟨h3, ⟨⟨trivial, trivial⟩, trivial⟩⟩⟩⟩⟩⟩⟩⟩, ⟨trivial, trivial⟩⟩
theorem s0_0 (q : QT) {post : Exit → St → Prop} {R : St → Prop} (hR : ∀ st, Ren 0 st (St.mk 102 [(0, AV.lst (List.map (AV.int IntKind.i64) q.L))] []) → R st) : ∃ o' st' q', go Try.prog ({ dec := [], els := e5 q, calls := c5 q, unroll := false } : HT) 0 4000 (.inl (sL (sR 0 (bodyOf Try.f5)))) [] (st5 q) = some (o', st', q') ∧ q' ∧ Go.AX.Rest Try.prog 0 (andThen R post) st' o' :=
  endN_spec (σ := []) (fz := []) (vars := [0]) (show endN 0 [] [] [0] (go Try.prog ({ dec := [], els := e5 q, calls := c5 q, unroll := false } : HT) 0 4000 (.inl (sL (sR 0 (bodyOf Try.f5)))) [] (st5 q)) = some (St.mk 102 [(0, AV.lst (List.map (AV.int IntKind.i64) q.L))] [], (((True ∧ True) ∧ True) ∧ (True ∧ True))) by kernel_rfl) ⟨⟨⟨trivial, trivial⟩, trivial⟩, ⟨trivial, trivial⟩⟩ hR
theorem s1_0 (q : QT) (h1 : (CT Try.prog (nat_lit 8) [] [] [] (AV.bool true))) {post : Exit → St → Prop} {R : St → Prop} (hR : ∀ st, Ren 0 st (St.mk 102 [(0, AV.lst (List.map (AV.int IntKind.i64) q.L))] []) → R st) : ∃ o' st' q', go Try.prog ({ dec := [], els := e5 q, calls := c5 q, unroll := false } : HT) 0 4000 (.inl (sL (sR 1 (bodyOf Try.f5)))) [] (s51 q) = some (o', st', q') ∧ q' ∧ Go.AX.Rest Try.prog 0 (andThen R post) st' o' :=
  endN_spec (σ := []) (fz := []) (vars := [0]) (show endN 0 [] [] [0] (go Try.prog ({ dec := [], els := e5 q, calls := c5 q, unroll := false } : HT) 0 4000 (.inl (sL (sR 1 (bodyOf Try.f5)))) [] (s51 q)) = some (St.mk 102 [(0, AV.lst (List.map (AV.int IntKind.i64) q.L))] [], (((((type_of% h1) ∧ True) ∧ ((True ∧ True) ∧ True)) ∧ (True ∧ True)) ∧ (True ∧ True))) by kernel_rfl) ⟨⟨⟨⟨h1, trivial⟩, ⟨⟨trivial, trivial⟩, trivial⟩⟩, ⟨trivial, trivial⟩⟩, ⟨trivial, trivial⟩⟩ hR
theorem s2_0 (q : QT) {post : Exit → St → Prop} {R : St → Prop} (hR : ∀ st, Ren 0 st (St.mk 102 [(3, AV.ptr 0 0 0)] [some (Blk.mk [AV.agg [AV.lst (List.map (AV.int IntKind.i64) q.L), AV.int IntKind.i64 0]] [AV.lst (List.map (AV.int IntKind.i64) q.L), AV.int IntKind.i64 0].length true true)]) → R st) : ∃ o' st' q', go Try.prog ({ dec := [], els := e5 q, calls := c5 q, unroll := false } : HT) 0 4000 (.inl (sL (sR 2 (bodyOf Try.f5)))) [] (s51 q) = some (o', st', q') ∧ q' ∧ Go.AX.Rest Try.prog 0 (andThen R post) st' o' :=
  endN_spec (σ := [0]) (fz := []) (vars := [3]) (show endN 0 [0] [] [3] (go Try.prog ({ dec := [], els := e5 q, calls := c5 q, unroll := false } : HT) 0 4000 (.inl (sL (sR 2 (bodyOf Try.f5)))) [] (s51 q)) = some (St.mk 102 [(3, AV.ptr 0 0 0)] [some (Blk.mk [AV.agg [AV.lst (List.map (AV.int IntKind.i64) q.L), AV.int IntKind.i64 0]] [AV.lst (List.map (AV.int IntKind.i64) q.L), AV.int IntKind.i64 0].length true true)], ((((True ∧ True) ∧ ((True ∧ True) ∧ ((True ∧ True) ∧ ((True ∧ True) ∧ True)))) ∧ True) ∧ (True ∧ (True ∧ True)))) by kernel_rfl) ⟨⟨⟨⟨trivial, trivial⟩, ⟨⟨trivial, trivial⟩, ⟨⟨trivial, trivial⟩, ⟨⟨trivial, trivial⟩, trivial⟩⟩⟩⟩, trivial⟩, ⟨trivial, ⟨trivial, trivial⟩⟩⟩ hR
theorem s3_0 (q : QT) (h1 : (CT Try.prog 9 [some (Blk.mk [AV.agg [AV.lst (List.map (AV.int IntKind.i64) q.L), AV.int IntKind.i64 0]] 2 true true)] [AV.ptr 0 0 0, AV.int IntKind.i64 9] [some (Blk.mk [AV.agg [AV.lst (List.map (AV.int IntKind.i64) q.L), AV.int IntKind.i64 (iN q.m1)]] 2 true true)] (AV.lst (gL q.g)))) {post : Exit → St → Prop} {R : St → Prop} (hR : ∀ st, Ren 0 st (St.mk 102 [(3, AV.ptr 0 0 0), (4, AV.lst (gL q.g))] [some (Blk.mk [AV.agg [AV.lst (List.map (AV.int IntKind.i64) q.L), AV.int IntKind.i64 (iN q.m1)]] 2 true true)]) → R st) : ∃ o' st' q', go Try.prog ({ dec := [], els := e5 q, calls := c5 q, unroll := false } : HT) 0 4000 (.inl (sL (sR 3 (bodyOf Try.f5)))) [] (s53 q) = some (o', st', q') ∧ q' ∧ Go.AX.Rest Try.prog 0 (andThen R post) st' o' :=
  endN_spec (σ := [0]) (fz := []) (vars := [3,4]) (show endN 0 [0] [] [3,4] (go Try.prog ({ dec := [], els := e5 q, calls := c5 q, unroll := false } : HT) 0 4000 (.inl (sL (sR 3 (bodyOf Try.f5)))) [] (s53 q)) = some (St.mk 102 [(3, AV.ptr 0 0 0), (4, AV.lst (gL q.g))] [some (Blk.mk [AV.agg [AV.lst (List.map (AV.int IntKind.i64) q.L), AV.int IntKind.i64 (iN q.m1)]] 2 true true)], ((((True ∧ True) ∧ ((True ∧ (True ∧ (True ∧ (True ∧ ((type_of% h1) ∧ True))))) ∧ ((True ∧ True) ∧ True))) ∧ True) ∧ (True ∧ (True ∧ (True ∧ True))))) by kernel_rfl) ⟨⟨⟨⟨trivial, trivial⟩, ⟨⟨trivial, ⟨trivial, ⟨trivial, ⟨trivial, ⟨h1, trivial⟩⟩⟩⟩⟩, ⟨⟨trivial, trivial⟩, trivial⟩⟩⟩, trivial⟩, ⟨trivial, ⟨trivial, ⟨trivial, trivial⟩⟩⟩⟩ hR
theorem s4_0 (q : QT) (h1 : ((iN (gL q.g).length == 0) = false)) {post : Exit → St → Prop} {R : St → Prop} (hR : ∀ st, Ren 0 st (St.mk 102 [(3, AV.ptr 0 0 0), (4, AV.lst (gL q.g))] [some (Blk.mk [AV.agg [AV.lst (List.map (AV.int IntKind.i64) q.L), AV.int IntKind.i64 (iN q.m1)]] 2 true true)]) → R st) : ∃ o' st' q', go Try.prog ({ dec := [(22, false)], els := e5 q, calls := c5 q, unroll := false } : HT) 0 4000 (.inl (sL (sR 4 (bodyOf Try.f5)))) [] (s54 q) = some (o', st', q') ∧ q' ∧ Go.AX.Rest Try.prog 0 (andThen R post) st' o' :=
  endN_spec (σ := [0]) (fz := []) (vars := [3,4]) (show endN 0 [0] [] [3,4] (go Try.prog ({ dec := [(22, false)], els := e5 q, calls := c5 q, unroll := false } : HT) 0 4000 (.inl (sL (sR 4 (bodyOf Try.f5)))) [] (s54 q)) = some (St.mk 102 [(3, AV.ptr 0 0 0), (4, AV.lst (gL q.g))] [some (Blk.mk [AV.agg [AV.lst (List.map (AV.int IntKind.i64) q.L), AV.int IntKind.i64 (iN q.m1)]] 2 true true)], ((((True ∧ True) ∧ ((True ∧ True) ∧ ((True ∧ True) ∧ True))) ∧ ((type_of% h1) ∧ True)) ∧ (True ∧ (True ∧ (True ∧ True))))) by kernel_rfl) ⟨⟨⟨⟨trivial, trivial⟩, ⟨⟨trivial, trivial⟩, ⟨⟨trivial, trivial⟩, trivial⟩⟩⟩, ⟨h1, trivial⟩⟩, ⟨trivial, ⟨trivial, ⟨trivial, trivial⟩⟩⟩⟩ hR
theorem s5_0 (q : QT) (h1 : (CT Try.prog 10 [some (Blk.mk [AV.agg [AV.lst (List.map (AV.int IntKind.i64) q.L), AV.int IntKind.i64 (iN q.m1)]] 2 true true)] [AV.ptr 0 0 0, AV.int IntKind.i64 (iN (gL q.g).length)] [some (Blk.mk [AV.agg [AV.lst (List.map (AV.int IntKind.i64) q.L), AV.int IntKind.i64 (iN q.m2)]] 2 true true)] (AV.lst (boL q.s)))) {post : Exit → St → Prop} {R : St → Prop} (hR : ∀ st, Ren 0 st (St.mk 102 [(3, AV.ptr 0 0 0), (4, AV.lst (gL q.g)), (5, AV.lst (boL q.s))] [some (Blk.mk [AV.agg [AV.lst (List.map (AV.int IntKind.i64) q.L), AV.int IntKind.i64 (iN q.m2)]] 2 true true)]) → R st) : ∃ o' st' q', go Try.prog ({ dec := [], els := e5 q, calls := c5 q, unroll := false } : HT) 0 4000 (.inl (sL (sR 5 (bodyOf Try.f5)))) [] (s54 q) = some (o', st', q') ∧ q' ∧ Go.AX.Rest Try.prog 0 (andThen R post) st' o' :=
  endN_spec (σ := [0]) (fz := []) (vars := [3,4,5]) (show endN 0 [0] [] [3,4,5] (go Try.prog ({ dec := [], els := e5 q, calls := c5 q, unroll := false } : HT) 0 4000 (.inl (sL (sR 5 (bodyOf Try.f5)))) [] (s54 q)) = some (St.mk 102 [(3, AV.ptr 0 0 0), (4, AV.lst (gL q.g)), (5, AV.lst (boL q.s))] [some (Blk.mk [AV.agg [AV.lst (List.map (AV.int IntKind.i64) q.L), AV.int IntKind.i64 (iN q.m2)]] 2 true true)], ((((True ∧ True) ∧ ((True ∧ True) ∧ ((True ∧ True) ∧ ((True ∧ (True ∧ (True ∧ (True ∧ (True ∧ ((type_of% h1) ∧ True)))))) ∧ ((True ∧ True) ∧ True))))) ∧ True) ∧ (True ∧ (True ∧ (True ∧ (True ∧ True)))))) by kernel_rfl) ⟨⟨⟨⟨trivial, trivial⟩, ⟨⟨trivial, trivial⟩, ⟨⟨trivial, trivial⟩, ⟨⟨trivial, ⟨trivial, ⟨trivial, ⟨trivial, ⟨trivial, ⟨h1, trivial⟩⟩⟩⟩⟩⟩, ⟨⟨trivial, trivial⟩, trivial⟩⟩⟩⟩⟩, trivial⟩, ⟨trivial, ⟨trivial, ⟨trivial, ⟨trivial, trivial⟩⟩⟩⟩⟩ hR
theorem s6_0 (q : QT) (h1 : (∀ (e : AV), e ∈ boL q.s → e.cells.length = 1)) (h2 : ((boL q.s).length ≤ 9223372036854775807)) (h3 : ((boL q.s).length * 1 ≤ 140737488355328)) {post : Exit → St → Prop} {R : St → Prop} (hR : ∀ st, Ren 0 st (St.mk 102 [(3, AV.ptr 0 0 0), (4, AV.lst (gL q.g)), (5, AV.lst (boL q.s)), (6, AV.sl 1 0 (boL q.s).length)] [some (Blk.mk [AV.agg [AV.lst (List.map (AV.int IntKind.i64) q.L), AV.int IntKind.i64 (iN q.m2)]] 2 true true), some (Blk.mk (boL q.s) 1 true true)]) → R st) : ∃ o' st' q', go Try.prog ({ dec := [], els := e5 q, calls := c5 q, unroll := false } : HT) 0 4000 (.inl (sL (sR 6 (bodyOf Try.f5)))) [] (s56 q) = some (o', st', q') ∧ q' ∧ Go.AX.Rest Try.prog 0 (andThen R post) st' o' :=
  endN_spec (σ := [0,1]) (fz := []) (vars := [3,4,5,6]) (show endN 0 [0,1] [] [3,4,5,6] (go Try.prog ({ dec := [], els := e5 q, calls := c5 q, unroll := false } : HT) 0 4000 (.inl (sL (sR 6 (bodyOf Try.f5)))) [] (s56 q)) = some (St.mk 102 [(3, AV.ptr 0 0 0), (4, AV.lst (gL q.g)), (5, AV.lst (boL q.s)), (6, AV.sl 1 0 (boL q.s).length)] [some (Blk.mk [AV.agg [AV.lst (List.map (AV.int IntKind.i64) q.L), AV.int IntKind.i64 (iN q.m2)]] 2 true true), some (Blk.mk (boL q.s) 1 true true)], ((((True ∧ True) ∧ ((True ∧ ((type_of% h1) ∧ ((type_of% h2) ∧ (type_of% h3)))) ∧ ((True ∧ True) ∧ True))) ∧ True) ∧ (True ∧ (True ∧ (True ∧ (True ∧ (True ∧ (True ∧ True)))))))) by kernel_rfl) ⟨⟨⟨⟨trivial, trivial⟩, ⟨⟨trivial, ⟨h1, ⟨h2, h3⟩⟩⟩, ⟨⟨trivial, trivial⟩, trivial⟩⟩⟩, trivial⟩, ⟨trivial, ⟨trivial, ⟨trivial, ⟨trivial, ⟨trivial, ⟨trivial, trivial⟩⟩⟩⟩⟩⟩⟩ hR
theorem s7_0 (q : QT) (h1 : (CT Try.prog 11 [some (Blk.mk [AV.agg [AV.lst (List.map (AV.int IntKind.i64) q.L), AV.int IntKind.i64 (iN q.m2)]] 2 true true)] [AV.ptr 0 0 0, AV.int IntKind.i64 (iN (gL q.g).length)] [some (Blk.mk [AV.agg [AV.lst (List.map (AV.int IntKind.i64) q.L), AV.int IntKind.i64 (iN (q.m2 + 1))]] 2 true true)] (AV.int IntKind.i64 (iN q.v)))) (h2 : (0 ≤ iN q.v)) (h3 : (iN q.v < iN (boL q.s).length)) (h4 : ((0 + (iN q.v).toNat).succ.le (boL q.s).length)) (h5 : ((boL q.s).length = ((boL q.s).set (0 + (iN q.v).toNat) (AV.bool true)).length)) {post : Exit → St → Prop} {R : St → Prop} (hR : ∀ st, Ren 0 st (St.mk 102 [(3, AV.ptr 0 0 0), (4, AV.lst (gL q.g)), (5, AV.lst (boL q.s)), (6, AV.lst ((boL q.s).set (0 + (iN q.v).toNat) (AV.bool true)))] [some (Blk.mk [AV.agg [AV.lst (List.map (AV.int IntKind.i64) q.L), AV.int IntKind.i64 (iN (q.m2 + 1))]] 2 true true)]) → R st) : ∃ o' st' q', go Try.prog ({ dec := [], els := e5 q, calls := c5 q, unroll := false } : HT) 0 4000 (.inl (sL (sR 7 (bodyOf Try.f5)))) [] (s57 q) = some (o', st', q') ∧ q' ∧ Go.AX.Rest Try.prog 0 (andThen R post) st' o' :=
  endN_spec (σ := [0]) (fz := [1]) (vars := [3,4,5,6]) (show endN 0 [0] [1] [3,4,5,6] (go Try.prog ({ dec := [], els := e5 q, calls := c5 q, unroll := false } : HT) 0 4000 (.inl (sL (sR 7 (bodyOf Try.f5)))) [] (s57 q)) = some (St.mk 102 [(3, AV.ptr 0 0 0), (4, AV.lst (gL q.g)), (5, AV.lst (boL q.s)), (6, AV.lst ((boL q.s).set (0 + (iN q.v).toNat) (AV.bool true)))] [some (Blk.mk [AV.agg [AV.lst (List.map (AV.int IntKind.i64) q.L), AV.int IntKind.i64 (iN (q.m2 + 1))]] 2 true true)], ((((True ∧ True) ∧ ((True ∧ True) ∧ ((True ∧ True) ∧ ((True ∧ True) ∧ ((True ∧ (True ∧ (True ∧ (True ∧ (True ∧ ((type_of% h1) ∧ True)))))) ∧ ((True ∧ (True ∧ ((type_of% h2) ∧ (type_of% h3)))) ∧ ((True ∧ (type_of% h4)) ∧ True))))))) ∧ True) ∧ (True ∧ (True ∧ (True ∧ ((type_of% h5) ∧ (True ∧ True))))))) by kernel_rfl) ⟨⟨⟨⟨trivial, trivial⟩, ⟨⟨trivial, trivial⟩, ⟨⟨trivial, trivial⟩, ⟨⟨trivial, trivial⟩, ⟨⟨trivial, ⟨trivial, ⟨trivial, ⟨trivial, ⟨trivial, ⟨h1, trivial⟩⟩⟩⟩⟩⟩, ⟨⟨trivial, ⟨trivial, ⟨h2, h3⟩⟩⟩, ⟨⟨trivial, h4⟩, trivial⟩⟩⟩⟩⟩⟩⟩, trivial⟩, ⟨trivial, ⟨trivial, ⟨trivial, ⟨h5, ⟨trivial, trivial⟩⟩⟩⟩⟩⟩ hR
theorem s8_0 (q : QT) (h1 : (CT Try.prog 11 [some (Blk.mk [AV.agg [AV.lst (List.map (AV.int IntKind.i64) q.L), AV.int IntKind.i64 (iN (q.m2 + 1))]] 2 true true)] [AV.ptr 0 0 0, AV.int IntKind.i64 (iN (gL q.g).length)] [some (Blk.mk [AV.agg [AV.lst (List.map (AV.int IntKind.i64) q.L), AV.int IntKind.i64 (iN (q.m2 + 1 + 1))]] 2 true true)] (AV.int IntKind.i64 (iN q.goal)))) (h2 : (CT Try.prog 12 [] [AV.lst (gL q.g), AV.lst (boL q.s), AV.int IntKind.i64 (iN q.goal)] [] (AV.tup [AV.lst (List.map (AV.int IntKind.i64) q.d), AV.int IntKind.i64 0]))) (h3 : (CT Try.prog 12 [] [AV.lst (gL q.g), AV.lst (boL (q.s.set q.v true)), AV.int IntKind.i64 (iN q.goal)] [] (AV.tup [AV.lst (List.map (AV.int IntKind.i64) q.r), AV.int IntKind.i64 0]))) (h4 : ((iN (List.map (AV.int IntKind.i64) q.d).length != iN (gL q.g).length) = false)) (h5 : ((iN (List.map (AV.int IntKind.i64) q.r).length != iN (gL q.g).length) = false)) {post : Exit → St → Prop} (ht : T Try.prog 0 (.loop (loopC (sR 8 (bodyOf Try.f5)) 0)) (St.mk 102 [(4, AV.lst (gL q.g)), (8, AV.lst (List.map (AV.int IntKind.i64) q.d)), (10, AV.lst (List.map (AV.int IntKind.i64) q.r)), (12, AV.int IntKind.i64 0)] []) (TK Try.prog 0 post (loopK (sR 8 (bodyOf Try.f5)) 0))) : ∃ o' st' q', go Try.prog ({ dec := [(59, false), (66, false), (72, false)], els := e5 q, calls := c5 q, unroll := false } : HT) 0 4000 (.inl (sR 8 (bodyOf Try.f5))) [] (s58 q) = some (o', st', q') ∧ q' ∧ Go.AX.Rest Try.prog 0 post st' o' :=
  endR_spec (σ := []) (fz := []) (vars := [4,8,10,12]) (show endR 0 [] [] [4,8,10,12] (go Try.prog ({ dec := [(59, false), (66, false), (72, false)], els := e5 q, calls := c5 q, unroll := false } : HT) 0 4000 (.inl (sR 8 (bodyOf Try.f5))) [] (s58 q)) = some (loopC (sR 8 (bodyOf Try.f5)) 0, loopK (sR 8 (bodyOf Try.f5)) 0, St.mk 102 [(4, AV.lst (gL q.g)), (8, AV.lst (List.map (AV.int IntKind.i64) q.d)), (10, AV.lst (List.map (AV.int IntKind.i64) q.r)), (12, AV.int IntKind.i64 0)] [], ((((True ∧ True) ∧ ((True ∧ True) ∧ ((True ∧ True) ∧ ((True ∧ (True ∧ (True ∧ (True ∧ (True ∧ ((type_of% h1) ∧ True)))))) ∧ ((True ∧ True) ∧ True))))) ∧ (((True ∧ True) ∧ ((True ∧ True) ∧ ((True ∧ True) ∧ ((True ∧ (True ∧ (True ∧ (True ∧ (True ∧ (True ∧ ((type_of% h2) ∧ True))))))) ∧ ((True ∧ True) ∧ ((True ∧ True) ∧ ((True ∧ True) ∧ ((True ∧ True) ∧ ((True ∧ True) ∧ True))))))))) ∧ (((True ∧ True) ∧ ((True ∧ True) ∧ ((True ∧ True) ∧ ((True ∧ (True ∧ (True ∧ (True ∧ (True ∧ (True ∧ ((type_of% h3) ∧ True))))))) ∧ ((True ∧ True) ∧ ((True ∧ True) ∧ ((True ∧ True) ∧ ((True ∧ True) ∧ ((True ∧ True) ∧ True))))))))) ∧ (((True ∧ True) ∧ ((True ∧ True) ∧ ((True ∧ True) ∧ ((True ∧ (True ∧ True)) ∧ ((True ∧ (True ∧ True)) ∧ ((True ∧ (True ∧ True)) ∧ ((True ∧ True) ∧ (((false = false) ∧ (True ∧ True)) ∧ (((false = false) ∧ (True ∧ True)) ∧ (((false = false) ∧ (True ∧ True)) ∧ (((false = false) ∧ (True ∧ True)) ∧ (((false = false) ∧ (True ∧ (True ∧ True))) ∧ (((false = false) ∧ (True ∧ True)) ∧ ((True ∧ True) ∧ (((type_of% h4) ∧ (True ∧ True)) ∧ (((type_of% h4) ∧ (True ∧ True)) ∧ (((type_of% h4) ∧ (True ∧ True)) ∧ (((type_of% h4) ∧ (True ∧ True)) ∧ (((type_of% h4) ∧ (True ∧ (True ∧ True))) ∧ (((type_of% h4) ∧ (True ∧ True)) ∧ True)))))))))))))))))))) ∧ ((type_of% h5) ∧ ((True ∧ True) ∧ True)))))) ∧ (True ∧ (True ∧ (True ∧ (True ∧ True)))))) by kernel_rfl) ⟨⟨⟨⟨trivial, trivial⟩, ⟨⟨trivial, trivial⟩, ⟨⟨trivial, trivial⟩, ⟨⟨trivial, ⟨trivial, ⟨trivial, ⟨trivial, ⟨trivial, ⟨h1, trivial⟩⟩⟩⟩⟩⟩, ⟨⟨trivial, trivial⟩, trivial⟩⟩⟩⟩⟩, ⟨⟨⟨trivial, trivial⟩, ⟨⟨trivial, trivial⟩, ⟨⟨trivial, trivial⟩, ⟨⟨trivial, ⟨trivial, ⟨trivial, ⟨trivial, ⟨trivial, ⟨trivial, ⟨h2, trivial⟩⟩⟩⟩⟩⟩⟩, ⟨⟨trivial, trivial⟩, ⟨⟨trivial, trivial⟩, ⟨⟨trivial, trivial⟩, ⟨⟨trivial, trivial⟩, ⟨⟨trivial, trivial⟩, trivial⟩⟩⟩⟩⟩⟩⟩⟩⟩, ⟨⟨⟨trivial, trivial⟩, ⟨⟨trivial, trivial⟩, ⟨⟨trivial, trivial⟩, ⟨⟨trivial, ⟨trivial, ⟨trivial, ⟨trivial, ⟨trivial, ⟨trivial, ⟨h3, trivial⟩⟩⟩⟩⟩⟩⟩, ⟨⟨trivial, trivial⟩, ⟨⟨trivial, trivial⟩, ⟨⟨trivial, trivial⟩, ⟨⟨trivial, trivial⟩, ⟨⟨trivial, trivial⟩, trivial⟩⟩⟩⟩⟩⟩⟩⟩⟩, ⟨⟨⟨trivial, trivial⟩, ⟨⟨trivial, trivial⟩, ⟨⟨trivial, trivial⟩, ⟨⟨trivial, ⟨trivial, trivial⟩⟩, ⟨⟨trivial, ⟨trivial, trivial⟩⟩, ⟨⟨trivial, ⟨trivial, trivial⟩⟩, ⟨⟨trivial, trivial⟩, ⟨⟨(by first | decide | exact Int.NonNeg.mk _), ⟨trivial, trivial⟩⟩, ⟨⟨(by first | decide | exact Int.NonNeg.mk _), ⟨trivial, trivial⟩⟩, ⟨⟨(by first | decide | exact Int.NonNeg.mk _), ⟨trivial, trivial⟩⟩, ⟨⟨(by first | decide | exact Int.NonNeg.mk _), ⟨trivial, trivial⟩⟩, ⟨⟨(by first | decide | exact Int.NonNeg.mk _), ⟨trivial, ⟨trivial, trivial⟩⟩⟩, ⟨⟨(by first | decide | exact Int.NonNeg.mk _), ⟨trivial, trivial⟩⟩, ⟨⟨trivial, trivial⟩, ⟨⟨h4, ⟨trivial, trivial⟩⟩, ⟨⟨h4, ⟨trivial, trivial⟩⟩, ⟨⟨h4, ⟨trivial, trivial⟩⟩, ⟨⟨h4, ⟨trivial, trivial⟩⟩, ⟨⟨h4, ⟨trivial, ⟨trivial, trivial⟩⟩⟩, ⟨⟨h4, ⟨trivial, trivial⟩⟩, trivial⟩⟩⟩⟩⟩⟩⟩⟩⟩⟩⟩⟩⟩⟩⟩⟩⟩⟩⟩⟩, ⟨h5, ⟨⟨trivial, trivial⟩, trivial⟩⟩⟩⟩⟩⟩, ⟨trivial, ⟨trivial, ⟨trivial, ⟨trivial, trivial⟩⟩⟩⟩⟩ ht
theorem sr_0 (q : QT) (h1 : (decide (iN q.k < iN (gL q.g).length) = true)) (h2 : (0 ≤ iN q.k)) (h3 : ((List.map (AV.int IntKind.i64) q.r)[(iN q.k).toNat]? = some (AV.int IntKind.i64 q.y))) (h4 : (decide (0 ≤ q.y) = true)) (h5 : ((List.map (AV.int IntKind.i64) q.d)[(iN q.k).toNat]? = some (AV.int IntKind.i64 q.x))) (h6 : (decide (q.x < 0) = false)) (h7 : (decide (q.y < q.x) = false)) {post : Exit → St → Prop} {R : St → Prop} (hR : ∀ st, Ren 0 st (St.mk 102 [(4, AV.lst (gL q.g)), (8, AV.lst (List.map (AV.int IntKind.i64) q.d)), (10, AV.lst (List.map (AV.int IntKind.i64) q.r)), (12, AV.int IntKind.i64 (IntKind.i64.wrap (iN q.k + 1)))] []) → R st) : ∃ o' st' q', go Try.prog ({ dec := [(76, true), (90, false), (101, false), (84, true)], els := e5 q, calls := c5 q, unroll := false } : HT) 0 4000 (.inl (loopC (bodyOf Try.f5) 0)) [] (lo5 q) = some (o', st', q') ∧ q' ∧ Go.AX.Rest Try.prog 0 (andThen R post) st' o' :=
  endN_spec (σ := []) (fz := []) (vars := [4,8,10,12]) (show endN 0 [] [] [4,8,10,12] (go Try.prog ({ dec := [(76, true), (90, false), (101, false), (84, true)], els := e5 q, calls := c5 q, unroll := false } : HT) 0 4000 (.inl (loopC (bodyOf Try.f5) 0)) [] (lo5 q)) = some (St.mk 102 [(4, AV.lst (gL q.g)), (8, AV.lst (List.map (AV.int IntKind.i64) q.d)), (10, AV.lst (List.map (AV.int IntKind.i64) q.r)), (12, AV.int IntKind.i64 (IntKind.i64.wrap (iN q.k + 1)))] [], ((((True ∧ True) ∧ ((True ∧ True) ∧ ((True ∧ True) ∧ ((True ∧ (True ∧ True)) ∧ True)))) ∧ ((type_of% h1) ∧ (((True ∧ True) ∧ ((True ∧ True) ∧ ((True ∧ (True ∧ ((type_of% h2) ∧ (type_of% h3)))) ∧ ((True ∧ True) ∧ ((True ∧ True) ∧ ((True ∧ True) ∧ (((type_of% h4) ∧ (True ∧ True)) ∧ (((type_of% h4) ∧ (True ∧ True)) ∧ (((type_of% h4) ∧ (True ∧ (True ∧ ((type_of% h2) ∧ (type_of% h5))))) ∧ (((type_of% h4) ∧ (True ∧ True)) ∧ (((type_of% h4) ∧ (True ∧ True)) ∧ (((type_of% h4) ∧ (True ∧ True)) ∧ (((type_of% h6) ∧ (True ∧ True)) ∧ (((type_of% h6) ∧ (True ∧ True)) ∧ (((type_of% h6) ∧ (True ∧ (True ∧ ((type_of% h2) ∧ (type_of% h3))))) ∧ (((type_of% h6) ∧ (True ∧ True)) ∧ (((type_of% h6) ∧ (True ∧ True)) ∧ (((type_of% h6) ∧ (True ∧ True)) ∧ (((type_of% h6) ∧ (True ∧ (True ∧ ((type_of% h2) ∧ (type_of% h5))))) ∧ (((type_of% h6) ∧ (True ∧ True)) ∧ (((type_of% h6) ∧ (True ∧ (True ∧ True))) ∧ (((type_of% h4) ∧ ((type_of% h6) ∧ (True ∧ True))) ∧ (((type_of% h4) ∧ (True ∧ True)) ∧ True))))))))))))))))))))))) ∧ ((type_of% h7) ∧ (((True ∧ True) ∧ ((True ∧ True) ∧ ((True ∧ True) ∧ True))) ∧ True))))) ∧ (True ∧ (True ∧ (True ∧ (True ∧ True)))))) by kernel_rfl) ⟨⟨⟨⟨trivial, trivial⟩, ⟨⟨trivial, trivial⟩, ⟨⟨trivial, trivial⟩, ⟨⟨trivial, ⟨trivial, trivial⟩⟩, trivial⟩⟩⟩⟩, ⟨h1, ⟨⟨⟨trivial, trivial⟩, ⟨⟨trivial, trivial⟩, ⟨⟨trivial, ⟨trivial, ⟨h2, h3⟩⟩⟩, ⟨⟨trivial, trivial⟩, ⟨⟨trivial, trivial⟩, ⟨⟨trivial, trivial⟩, ⟨⟨h4, ⟨trivial, trivial⟩⟩, ⟨⟨h4, ⟨trivial, trivial⟩⟩, ⟨⟨h4, ⟨trivial, ⟨trivial, ⟨h2, h5⟩⟩⟩⟩, ⟨⟨h4, ⟨trivial, trivial⟩⟩, ⟨⟨h4, ⟨trivial, trivial⟩⟩, ⟨⟨h4, ⟨trivial, trivial⟩⟩, ⟨⟨h6, ⟨trivial, trivial⟩⟩, ⟨⟨h6, ⟨trivial, trivial⟩⟩, ⟨⟨h6, ⟨trivial, ⟨trivial, ⟨h2, h3⟩⟩⟩⟩, ⟨⟨h6, ⟨trivial, trivial⟩⟩, ⟨⟨h6, ⟨trivial, trivial⟩⟩, ⟨⟨h6, ⟨trivial, trivial⟩⟩, ⟨⟨h6, ⟨trivial, ⟨trivial, ⟨h2, h5⟩⟩⟩⟩, ⟨⟨h6, ⟨trivial, trivial⟩⟩, ⟨⟨h6, ⟨trivial, ⟨trivial, trivial⟩⟩⟩, ⟨⟨h4, ⟨h6, ⟨trivial, trivial⟩⟩⟩, ⟨⟨h4, ⟨trivial, trivial⟩⟩, trivial⟩⟩⟩⟩⟩⟩⟩⟩⟩⟩⟩⟩⟩⟩⟩⟩⟩⟩⟩⟩⟩⟩⟩, ⟨h7, ⟨⟨⟨trivial, trivial⟩, ⟨⟨trivial, trivial⟩, ⟨⟨trivial, trivial⟩, trivial⟩⟩⟩, trivial⟩⟩⟩⟩⟩, ⟨trivial, ⟨trivial, ⟨trivial, ⟨trivial, trivial⟩⟩⟩⟩⟩ hR
theorem sr_1 (q : QT) (h1 : (decide (iN q.k < iN (gL q.g).length) = true)) (h2 : (0 ≤ iN q.k)) (h3 : ((List.map (AV.int IntKind.i64) q.r)[(iN q.k).toNat]? = some (AV.int IntKind.i64 q.y))) (h4 : (decide (0 ≤ q.y) = false)) {post : Exit → St → Prop} {R : St → Prop} (hR : ∀ st, Ren 0 st (St.mk 102 [(4, AV.lst (gL q.g)), (8, AV.lst (List.map (AV.int IntKind.i64) q.d)), (10, AV.lst (List.map (AV.int IntKind.i64) q.r)), (12, AV.int IntKind.i64 (IntKind.i64.wrap (iN q.k + 1)))] []) → R st) : ∃ o' st' q', go Try.prog ({ dec := [(76, true), (90, false), (101, false), (84, false)], els := e5 q, calls := c5 q, unroll := false } : HT) 0 4000 (.inl (loopC (bodyOf Try.f5) 0)) [] (lo5 q) = some (o', st', q') ∧ q' ∧ Go.AX.Rest Try.prog 0 (andThen R post) st' o' :=
  endN_spec (σ := []) (fz := []) (vars := [4,8,10,12]) (show endN 0 [] [] [4,8,10,12] (go Try.prog ({ dec := [(76, true), (90, false), (101, false), (84, false)], els := e5 q, calls := c5 q, unroll := false } : HT) 0 4000 (.inl (loopC (bodyOf Try.f5) 0)) [] (lo5 q)) = some (St.mk 102 [(4, AV.lst (gL q.g)), (8, AV.lst (List.map (AV.int IntKind.i64) q.d)), (10, AV.lst (List.map (AV.int IntKind.i64) q.r)), (12, AV.int IntKind.i64 (IntKind.i64.wrap (iN q.k + 1)))] [], ((((True ∧ True) ∧ ((True ∧ True) ∧ ((True ∧ True) ∧ ((True ∧ (True ∧ True)) ∧ True)))) ∧ ((type_of% h1) ∧ (((True ∧ True) ∧ ((True ∧ True) ∧ ((True ∧ (True ∧ ((type_of% h2) ∧ (type_of% h3)))) ∧ ((True ∧ True) ∧ ((True ∧ True) ∧ ((True ∧ True) ∧ ((type_of% h4) ∧ ((type_of% h4) ∧ ((type_of% h4) ∧ ((type_of% h4) ∧ ((type_of% h4) ∧ ((type_of% h4) ∧ (True ∧ (True ∧ (True ∧ (True ∧ (True ∧ (True ∧ (True ∧ (True ∧ (True ∧ ((type_of% h4) ∧ (((type_of% h4) ∧ (True ∧ True)) ∧ True))))))))))))))))))))))) ∧ ((false = false) ∧ (((True ∧ True) ∧ ((True ∧ True) ∧ ((True ∧ True) ∧ True))) ∧ True))))) ∧ (True ∧ (True ∧ (True ∧ (True ∧ True)))))) by kernel_rfl) ⟨⟨⟨⟨trivial, trivial⟩, ⟨⟨trivial, trivial⟩, ⟨⟨trivial, trivial⟩, ⟨⟨trivial, ⟨trivial, trivial⟩⟩, trivial⟩⟩⟩⟩, ⟨h1, ⟨⟨⟨trivial, trivial⟩, ⟨⟨trivial, trivial⟩, ⟨⟨trivial, ⟨trivial, ⟨h2, h3⟩⟩⟩, ⟨⟨trivial, trivial⟩, ⟨⟨trivial, trivial⟩, ⟨⟨trivial, trivial⟩, ⟨h4, ⟨h4, ⟨h4, ⟨h4, ⟨h4, ⟨h4, ⟨trivial, ⟨trivial, ⟨trivial, ⟨trivial, ⟨trivial, ⟨trivial, ⟨trivial, ⟨trivial, ⟨trivial, ⟨h4, ⟨⟨h4, ⟨trivial, trivial⟩⟩, trivial⟩⟩⟩⟩⟩⟩⟩⟩⟩⟩⟩⟩⟩⟩⟩⟩⟩⟩⟩⟩⟩⟩⟩, ⟨(by first | decide | exact Int.NonNeg.mk _), ⟨⟨⟨trivial, trivial⟩, ⟨⟨trivial, trivial⟩, ⟨⟨trivial, trivial⟩, trivial⟩⟩⟩, trivial⟩⟩⟩⟩⟩, ⟨trivial, ⟨trivial, ⟨trivial, ⟨trivial, trivial⟩⟩⟩⟩⟩ hR
theorem sx_0 (q : QT) (h1 : (decide (iN q.k < iN (gL q.g).length) = false)) : ∃ o' st' q', go2 Try.prog ({ dec := [(76, false)], els := e5 q, calls := c5 q, unroll := false } : HT) 0 4000 (loopC (bodyOf Try.f5) 0) (loopK (bodyOf Try.f5) 0) (lo5 q) = some (o', st', q') ∧ q' ∧ Go.AX.Rest Try.prog 0 (Fin Try.prog Try.f5 0 [] (AV.bool true)) st' o' :=
  endF_spec (σ := []) (fz := []) (show endF Try.prog Try.f5 0 [] [] (go2 Try.prog ({ dec := [(76, false)], els := e5 q, calls := c5 q, unroll := false } : HT) 0 4000 (loopC (bodyOf Try.f5) 0) (loopK (bodyOf Try.f5) 0) (lo5 q)) = some ([], AV.bool true, (((((True ∧ True) ∧ ((True ∧ True) ∧ ((True ∧ True) ∧ ((True ∧ (True ∧ True)) ∧ True)))) ∧ ((type_of% h1) ∧ True)) ∧ ((True ∧ True) ∧ True)) ∧ (True ∧ True))) by kernel_rfl) ⟨⟨⟨⟨⟨trivial, trivial⟩, ⟨⟨trivial, trivial⟩, ⟨⟨trivial, trivial⟩, ⟨⟨trivial, ⟨trivial, trivial⟩⟩, trivial⟩⟩⟩⟩, ⟨h1, trivial⟩⟩, ⟨⟨trivial, trivial⟩, trivial⟩⟩, ⟨trivial, trivial⟩⟩
end Go.Proofs.Ytnpmcikbnnlmkaa

/-! RoutesShut's contract. -/
open Go Go.AX Go.Proofs
set_option maxRecDepth 100000
set_option maxHeartbeats 1000000
set_option linter.unusedVariables false
set_option linter.unusedSimpArgs false
namespace Go.Proofs.Ytnpmcikbnnlmkaa
/-- Shutting more makes no distance smaller. -/
theorem shut_mono {g : List (List Int)} {s m : List Bool} (hg : OkG g s) {goal : Nat} (hgo : goal < g.length) {d e : List Int} (hd : Dst g s goal d) (he : Dst g m goal e) (hm : ∀ v, m.getD v false = false → s.getD v false = false) :
    ∀ (k : Nat) (v : Nat), v < g.length → e.getD v 0 = (k : Int) → 0 ≤ d.getD v 0 ∧ d.getD v 0 ≤ e.getD v 0 := by
  have goalCase : ∀ k : Nat, e.getD goal 0 = (k : Int) → d.getD goal 0 = 0 := by
    intro k hk
    have hmg : m.getD goal false = false := by
      cases h : m.getD goal false with
      | false => rfl
      | true => have := he.shut h goal hgo; omega
    exact hd.zero (hm goal hmg)
  intro k
  induction k with
  | zero =>
    intro v hv hk
    rcases he.back v hv (by omega) with rfl | ⟨h1, w, hw, h2, h3⟩
    · rw [goalCase 0 hk]; omega
    · omega
  | succ k ih =>
    intro v hv hk
    rcases he.back v hv (by omega) with rfl | ⟨h1, w, hw, h2, h3⟩
    · rw [goalCase _ hk]; omega
    · have hw1 := (hg.row v hv).2 w hw
      obtain ⟨i1, i2⟩ := ih w.toNat (by omega) (by omega)
      obtain ⟨f1, f2⟩ := hd.fwd v hv (hm v h1) w hw i1
      exact ⟨f1, by omega⟩

theorem getD_setB (s : List Bool) (a v : Nat) (h : (s.set a true).getD v false = false) : s.getD v false = false := by
  rw [List.getD_eq_getElem?_getD, List.getElem?_set] at h
  rw [List.getD_eq_getElem?_getD]
  split at h
  · split at h
    · simp at h
    · rename_i e hlt
      rw [List.getElem?_eq_none (by omega)]; rfl
  · exact h

theorem shut_ct (L : List Int) : CT Try.prog 5 [] [lI L] [] (.bool true) := by
  have hb : Try.f5.body = some (bodyOf Try.f5) := by kernel_rfl
  obtain ⟨g, kk, n, hn, hgi, hkk, c1⟩ := graph_ex L 0 9 (by omega) (by omega)
  obtain ⟨s, kk2, hs, hkk2, c2⟩ := shut_ex L kk n (by omega) (by omega)
  obtain ⟨hg, ha⟩ := hgi.ok (by omega) (by omega) hs
  have hgn := hgi.len
  have hl := gL_len g
  have hbl := boL_len s
  by_cases h0 : g.length = 0
  · exact CT.path mix Try.func5 hb (Nat.le_of_ble_eq_true rfl) (sz_0 ⟨L, g, s, 0, [], 0, 0, [], 0, false, false, 0, 0, kk, kk2⟩ known_ct c1 (by simp [iN, hl, h0]))
  have r1 := nextZ_rng L kk2 n (by omega) (by omega)
  have n1 := next_ct L kk2 n (by omega)
  obtain ⟨a, hza⟩ : ∃ a : Nat, nextZ L kk2 n = (a : Int) := ⟨(nextZ L kk2 n).toNat, by omega⟩
  rw [hza] at r1 n1
  have r2 := nextZ_rng L (kk2 + 1) n (by omega) (by omega)
  have n2 := next_ct L (kk2 + 1) n (by omega)
  obtain ⟨goal, hzg⟩ : ∃ b : Nat, nextZ L (kk2 + 1) n = (b : Int) := ⟨(nextZ L (kk2 + 1) n).toNat, by omega⟩
  rw [hzg] at r2 n2
  have hgo : goal < g.length := by omega
  have hgm : OkG g (s.set a true) := ⟨hg.len, hg.row, by rw [List.length_set]; exact hg.sh⟩
  have d1 := Distances_ct hg ha goal hgo
  have d2 := Distances_ct hgm ha goal hgo
  have D1 := dst_ok hg hgo
  have D2 := dst_ok hgm hgo
  generalize distL g s goal g.length = d at d1 D1
  generalize distL g (s.set a true) goal g.length = e at d2 D2
  have mono := shut_mono hg hgo D1 D2 fun v => getD_setB s a v
  have hA : ∀ st5 : St, st5 = lo5 ⟨L, g, s, goal, d, a, 0, e, 0, false, false, 0, 0, kk, kk2⟩ → T Try.prog 0 (.loop (loopC (bodyOf Try.f5) 0)) st5 (TK Try.prog 0 (Fin Try.prog Try.f5 0 [] (.bool true)) (loopK (bodyOf Try.f5) 0)) := by
    rintro _ rfl
    refine T.loop (fun v : Nat => lo5 ⟨L, g, s, goal, d, a, v, e, 0, false, false, 0, 0, kk, kk2⟩) (fun v => v ≤ g.length) (fun v => g.length + 1 - v) 0 (Nat.zero_le _) ?_
    intro v hv
    by_cases h : v < g.length
    · have x1 := lI_get (l := d) (j := v) (by rw [D1.len]; exact h)
      have y1 := lI_get (l := e) (j := v) (by rw [D2.len]; exact h)
      have dk : decide (iN v < iN (gL g).length) = true := decide_eq_true (by simp only [iN, hl]; omega)
      have wv : IntKind.i64.wrap (iN v + 1) = ((v + 1 : Nat) : Int) := wrap_nat v (by omega)
      by_cases hy : 0 ≤ e.getD v 0
      · obtain ⟨m1, m2⟩ := mono (e.getD v 0).toNat v h (by omega)
        refine T.path mix (sr_0 ⟨L, g, s, goal, d, a, v, e, 0, false, false, d.getD v 0, e.getD v 0, kk, kk2⟩ dk (by simp [iN]) y1 (decide_eq_true hy) x1 (decide_eq_false (by simp only; omega)) (decide_eq_false (by simp only; omega)) ?_)
        intro st hst
        simp only [wv] at hst
        exact ⟨v + 1, hst, h, by omega⟩
      · refine T.path mix (sr_1 ⟨L, g, s, goal, d, a, v, e, 0, false, false, d.getD v 0, e.getD v 0, kk, kk2⟩ dk (by simp [iN]) y1 (decide_eq_false hy) ?_)
        intro st hst
        simp only [wv] at hst
        exact ⟨v + 1, hst, h, by omega⟩
    · exact T.out mix (sx_0 ⟨L, g, s, goal, d, a, v, e, 0, false, false, 0, 0, kk, kk2⟩ (decide_eq_false (by simp only [iN, hl]; omega)))
  refine CT.of Try.func5 hb (Nat.le_of_ble_eq_true rfl) (T.cut (by kernel_rfl) (T.path mix (s0_0 ⟨L, g, s, goal, d, a, 0, e, 0, false, false, 0, 0, kk, kk2⟩ fun st hst => T.ren hst ?_)))
  refine T.cut (by kernel_rfl) (T.path mix (s1_0 ⟨L, g, s, goal, d, a, 0, e, 0, false, false, 0, 0, kk, kk2⟩ known_ct fun st hst => T.ren hst ?_))
  rw [sR_succ 1 (bodyOf Try.f5) (by kernel_rfl)]
  refine T.cut (by kernel_rfl) (T.path mix (s2_0 ⟨L, g, s, goal, d, a, 0, e, 0, false, false, 0, 0, kk, kk2⟩ fun st hst => T.ren hst ?_))
  rw [sR_succ 2 (bodyOf Try.f5) (by kernel_rfl)]
  refine T.cut (by kernel_rfl) (T.path mix (s3_0 ⟨L, g, s, goal, d, a, 0, e, 0, false, false, 0, 0, kk, kk2⟩ c1 fun st hst => T.ren hst ?_))
  rw [sR_succ 3 (bodyOf Try.f5) (by kernel_rfl)]
  refine T.cut (by kernel_rfl) (T.path mix (s4_0 ⟨L, g, s, goal, d, a, 0, e, 0, false, false, 0, 0, kk, kk2⟩ (by simp only [iN, hl]; simpa using h0) fun st hst => T.ren hst ?_))
  rw [sR_succ 4 (bodyOf Try.f5) (by kernel_rfl)]
  refine T.cut (by kernel_rfl) (T.path mix (s5_0 ⟨L, g, s, goal, d, a, 0, e, 0, false, false, 0, 0, kk, kk2⟩ (by simp only [iN, hl, hgn]; exact c2) fun st hst => T.ren hst ?_))
  rw [sR_succ 5 (bodyOf Try.f5) (by kernel_rfl)]
  refine T.cut (by kernel_rfl) (T.path mix (s6_0 ⟨L, g, s, goal, d, a, 0, e, 0, false, false, 0, 0, kk, kk2⟩ (fun x hx => ?_) (by simp only [hbl]; omega) (by simp only [hbl]; omega) fun st hst => T.ren hst ?_))
  · obtain ⟨b, _, rfl⟩ := List.mem_map.1 hx
    rfl
  rw [sR_succ 6 (bodyOf Try.f5) (by kernel_rfl)]
  refine T.cut (by kernel_rfl) (T.path mix (s7_0 ⟨L, g, s, goal, d, a, 0, e, 0, false, false, 0, 0, kk, kk2⟩ (by simp only [iN, hl, hgn]; exact n1) (by simp [iN]) (by simp only [iN, hbl]; omega) (by simp [iN, hbl]; omega) (by simp) fun st hst => T.ren hst ?_))
  rw [sR_succ 7 (bodyOf Try.f5) (by kernel_rfl)]
  have hset : (boL s).set (0 + a) (.bool true) = boL (s.set a true) := boL_set s a true
  simp only [iN, Int.toNat_natCast, hset]
  refine T.path mix (s8_0 ⟨L, g, s, goal, d, a, 0, e, 0, false, false, 0, 0, kk, kk2⟩ (by simp only [iN, hl, hgn]; exact n2) d1 d2 (by simp [iN, hl, D1.len]) (by simp [iN, hl, D2.len]) ?_)
  rw [show loopC (sR 8 (bodyOf Try.f5)) 0 = loopC (bodyOf Try.f5) 0 by kernel_rfl, show loopK (sR 8 (bodyOf Try.f5)) 0 = loopK (bodyOf Try.f5) 0 by kernel_rfl]
  exact hA _ rfl

theorem intsU {n : Nat} {es : List AV} (h : ∀ x ∈ es, ShV Try.prog n 3 x) : ∃ L : List Int, es = L.map (AV.int .i64) := by
  induction es with
  | nil => exact ⟨[], rfl⟩
  | cons x es ih =>
    obtain ⟨L, rfl⟩ := ih fun y hy => h y (List.mem_cons_of_mem _ hy)
    obtain ⟨i, _, rfl⟩ := (h x (by simp)).intD Try.underlying3
    exact ⟨i :: L, rfl⟩
theorem routesShut_row (avs : List AV) (h : ShVs Try.prog 4 Try.f5.params.toList avs) : CT Try.prog 5 [] avs [] (.bool true) := by
  rw [Try.params5] at h
  obtain ⟨a, _, rfl, ka, h⟩ := h.consD
  obtain rfl := h.nilD
  obtain ⟨ls, _, hl, rfl⟩ := ka.sliceD Try.underlying25
  obtain ⟨L, rfl⟩ := intsU hl
  exact shut_ct L
#print axioms routesShut_row
end Go.Proofs.Ytnpmcikbnnlmkaa

/-! The paths of a function, by evaluation. -/
open Go Go.AX Go.Proofs
set_option maxRecDepth 100000
set_option maxHeartbeats 4000000
set_option linter.unusedVariables false
namespace Go.Proofs.Ytnpmcikbnnlmkaa
def e27g (q : QK) : List (Nat × AV) := [(23, lI q.r), (31, lI q.r), (34, .int .i64 q.e), (55, lI q.r), (59, .int .i64 (iN q.w))]
def e27h (q : QK) : List (Nat × AV) := [(23, lI q.r), (31, lI q.r), (34, .int .i64 q.e), (55, lI q.r), (59, .int .i64 (q.p.getD 0 0))]
noncomputable def st40 (q : QK) : St := { n := Try.f40.ntmps, fr := [(0, .lst (gL q.g))], hp := [] }
noncomputable def la40 (q : QK) : St := { n := Try.f40.ntmps, fr := [(0, .lst (gL q.g)), (3, .int .i64 (iN q.a))], hp := [] }
noncomputable def lb40 (q : QK) : St := { n := Try.f40.ntmps, fr := [(0, .lst (gL q.g)), (3, .int .i64 (iN q.a)), (4, .int .i64 (iN q.i))], hp := [] }
def e40 (q : QK) : List (Nat × AV) := [(18, lI q.r), (26, lI q.r), (29, .int .i64 q.e), (51, lI q.r), (55, .int .i64 (q.p.getD 0 0))]
noncomputable def st35 (q : QK) : St := { n := Try.f35.ntmps, fr := [(0, .lst (gL q.g)), (1, .lst (boL q.s))], hp := [] }
noncomputable def st29 (q : QK) : St := { n := Try.f29.ntmps, fr := [(0, .lst (gL q.g)), (1, .lst (boL q.s)), (2, .int .i64 q.x), (3, .int .i64 q.y)], hp := [] }
def cV (q : QK) : Nat → FuncId → List AV → List (Option Blk) → Hint := fun dst f args _ => match f with
  | 40 => .call [] [] [] (.bool q.b)
  | 35 => .call [] [] [] (.int .i64 q.e)
  | _ => .no
theorem cgr_0 (q : QK) (h1 : (decide (iN q.i < iN q.r.length) = true)) (h2 : (0 ≤ iN q.a)) (h3 : ((gL q.g)[(iN q.a).toNat]? = some (AV.lst (List.map (AV.int IntKind.i64) q.r)))) (h4 : (0 ≤ iN q.i)) (h5 : ((List.map (AV.int IntKind.i64) q.r)[(iN q.i).toNat]? = some (AV.int IntKind.i64 q.e))) (h6 : (decide (q.e < 0) = true)) {post : Exit → St → Prop} (hP : Pass post (Fin Try.prog Try.f27 0 [] (AV.int IntKind.i64 20))) : ∃ o' st' q', go2 Try.prog ({ dec := [(27, true), (38, true)], els := e27h q, calls := cK q, unroll := false } : HT) 0 4000 (loopC (loopC (bodyOf Try.f27) 0) 0) (loopK (loopC (bodyOf Try.f27) 0) 0) (lb27 q) = some (o', st', q') ∧ q' ∧ Go.AX.Rest Try.prog 0 post st' o' :=
  endT_spec (σ := []) (fz := []) (show endT Try.prog Try.f27 0 [] [] (go2 Try.prog ({ dec := [(27, true), (38, true)], els := e27h q, calls := cK q, unroll := false } : HT) 0 4000 (loopC (loopC (bodyOf Try.f27) 0) 0) (loopK (loopC (bodyOf Try.f27) 0) 0) (lb27 q)) = some ([], AV.int IntKind.i64 20, (((((True ∧ (True ∧ True)) ∧ True) ∧ ((type_of% h1) ∧ (((True ∧ True) ∧ ((True ∧ True) ∧ True)) ∧ (((True ∧ True) ∧ ((True ∧ True) ∧ ((True ∧ (True ∧ ((type_of% h2) ∧ (type_of% h3)))) ∧ ((True ∧ True) ∧ ((True ∧ True) ∧ ((True ∧ (True ∧ ((type_of% h4) ∧ (type_of% h5)))) ∧ ((True ∧ True) ∧ ((True ∧ True) ∧ True)))))))) ∧ (((True ∧ True) ∧ ((True ∧ True) ∧ ((True ∧ True) ∧ ((type_of% h6) ∧ ((type_of% h6) ∧ ((type_of% h6) ∧ (((type_of% h6) ∧ (True ∧ True)) ∧ ((True ∧ True) ∧ (True ∧ (True ∧ (True ∧ ((True ∧ (True ∧ True)) ∧ ((True ∧ True) ∧ (True ∧ (True ∧ (True ∧ (True ∧ (True ∧ (True ∧ (True ∧ (True ∧ (True ∧ (True ∧ (True ∧ (True ∧ (True ∧ (True ∧ ((True ∧ (True ∧ True)) ∧ True)))))))))))))))))))))))))))) ∧ (True ∧ ((True ∧ True) ∧ True))))))) ∧ True) ∧ (True ∧ True))) by kernel_rfl) ⟨⟨⟨⟨⟨trivial, ⟨trivial, trivial⟩⟩, trivial⟩, ⟨h1, ⟨⟨⟨trivial, trivial⟩, ⟨⟨trivial, trivial⟩, trivial⟩⟩, ⟨⟨⟨trivial, trivial⟩, ⟨⟨trivial, trivial⟩, ⟨⟨trivial, ⟨trivial, ⟨h2, h3⟩⟩⟩, ⟨⟨trivial, trivial⟩, ⟨⟨trivial, trivial⟩, ⟨⟨trivial, ⟨trivial, ⟨h4, h5⟩⟩⟩, ⟨⟨trivial, trivial⟩, ⟨⟨trivial, trivial⟩, trivial⟩⟩⟩⟩⟩⟩⟩⟩, ⟨⟨⟨trivial, trivial⟩, ⟨⟨trivial, trivial⟩, ⟨⟨trivial, trivial⟩, ⟨h6, ⟨h6, ⟨h6, ⟨⟨h6, ⟨trivial, trivial⟩⟩, ⟨⟨trivial, trivial⟩, ⟨trivial, ⟨trivial, ⟨trivial, ⟨⟨trivial, ⟨trivial, trivial⟩⟩, ⟨⟨trivial, trivial⟩, ⟨trivial, ⟨trivial, ⟨trivial, ⟨trivial, ⟨trivial, ⟨trivial, ⟨trivial, ⟨trivial, ⟨trivial, ⟨trivial, ⟨trivial, ⟨trivial, ⟨trivial, ⟨trivial, ⟨⟨trivial, ⟨trivial, trivial⟩⟩, trivial⟩⟩⟩⟩⟩⟩⟩⟩⟩⟩⟩⟩⟩⟩⟩⟩⟩⟩⟩⟩⟩⟩⟩⟩⟩⟩⟩⟩, ⟨trivial, ⟨⟨trivial, trivial⟩, trivial⟩⟩⟩⟩⟩⟩⟩, trivial⟩, ⟨trivial, trivial⟩⟩ hP
theorem cgr_1 (q : QK) (h1 : (decide (iN q.i < iN q.r.length) = true)) (h2 : (0 ≤ iN q.a)) (h3 : ((gL q.g)[(iN q.a).toNat]? = some (AV.lst (List.map (AV.int IntKind.i64) q.r)))) (h4 : (0 ≤ iN q.i)) (h5 : ((List.map (AV.int IntKind.i64) q.r)[(iN q.i).toNat]? = some (AV.int IntKind.i64 q.e))) (h6 : (decide (q.e < 0) = false)) (h7 : (decide (iN q.g.length ≤ q.e) = true)) {post : Exit → St → Prop} (hP : Pass post (Fin Try.prog Try.f27 0 [] (AV.int IntKind.i64 20))) : ∃ o' st' q', go2 Try.prog ({ dec := [(27, true), (38, false), (43, true)], els := e27h q, calls := cK q, unroll := false } : HT) 0 4000 (loopC (loopC (bodyOf Try.f27) 0) 0) (loopK (loopC (bodyOf Try.f27) 0) 0) (lb27 q) = some (o', st', q') ∧ q' ∧ Go.AX.Rest Try.prog 0 post st' o' :=
  endT_spec (σ := []) (fz := []) (show endT Try.prog Try.f27 0 [] [] (go2 Try.prog ({ dec := [(27, true), (38, false), (43, true)], els := e27h q, calls := cK q, unroll := false } : HT) 0 4000 (loopC (loopC (bodyOf Try.f27) 0) 0) (loopK (loopC (bodyOf Try.f27) 0) 0) (lb27 q)) = some ([], AV.int IntKind.i64 20, (((((True ∧ (True ∧ True)) ∧ True) ∧ ((type_of% h1) ∧ (((True ∧ True) ∧ ((True ∧ True) ∧ True)) ∧ (((True ∧ True) ∧ ((True ∧ True) ∧ ((True ∧ (True ∧ ((type_of% h2) ∧ (type_of% h3)))) ∧ ((True ∧ True) ∧ ((True ∧ True) ∧ ((True ∧ (True ∧ ((type_of% h4) ∧ (type_of% h5)))) ∧ ((True ∧ True) ∧ ((True ∧ True) ∧ True)))))))) ∧ (((True ∧ True) ∧ ((True ∧ True) ∧ ((True ∧ True) ∧ (((type_of% h6) ∧ (True ∧ True)) ∧ (((type_of% h6) ∧ (True ∧ True)) ∧ (((type_of% h6) ∧ (True ∧ (True ∧ True))) ∧ (((type_of% h6) ∧ (True ∧ True)) ∧ ((True ∧ True) ∧ ((type_of% h7) ∧ ((type_of% h7) ∧ ((type_of% h7) ∧ (((type_of% h7) ∧ (True ∧ True)) ∧ ((True ∧ True) ∧ (True ∧ (True ∧ (True ∧ (True ∧ (True ∧ (True ∧ (True ∧ (True ∧ (True ∧ (True ∧ (True ∧ (True ∧ (True ∧ (True ∧ ((True ∧ (True ∧ True)) ∧ True)))))))))))))))))))))))))))) ∧ (True ∧ ((True ∧ True) ∧ True))))))) ∧ True) ∧ (True ∧ True))) by kernel_rfl) ⟨⟨⟨⟨⟨trivial, ⟨trivial, trivial⟩⟩, trivial⟩, ⟨h1, ⟨⟨⟨trivial, trivial⟩, ⟨⟨trivial, trivial⟩, trivial⟩⟩, ⟨⟨⟨trivial, trivial⟩, ⟨⟨trivial, trivial⟩, ⟨⟨trivial, ⟨trivial, ⟨h2, h3⟩⟩⟩, ⟨⟨trivial, trivial⟩, ⟨⟨trivial, trivial⟩, ⟨⟨trivial, ⟨trivial, ⟨h4, h5⟩⟩⟩, ⟨⟨trivial, trivial⟩, ⟨⟨trivial, trivial⟩, trivial⟩⟩⟩⟩⟩⟩⟩⟩, ⟨⟨⟨trivial, trivial⟩, ⟨⟨trivial, trivial⟩, ⟨⟨trivial, trivial⟩, ⟨⟨h6, ⟨trivial, trivial⟩⟩, ⟨⟨h6, ⟨trivial, trivial⟩⟩, ⟨⟨h6, ⟨trivial, ⟨trivial, trivial⟩⟩⟩, ⟨⟨h6, ⟨trivial, trivial⟩⟩, ⟨⟨trivial, trivial⟩, ⟨h7, ⟨h7, ⟨h7, ⟨⟨h7, ⟨trivial, trivial⟩⟩, ⟨⟨trivial, trivial⟩, ⟨trivial, ⟨trivial, ⟨trivial, ⟨trivial, ⟨trivial, ⟨trivial, ⟨trivial, ⟨trivial, ⟨trivial, ⟨trivial, ⟨trivial, ⟨trivial, ⟨trivial, ⟨trivial, ⟨⟨trivial, ⟨trivial, trivial⟩⟩, trivial⟩⟩⟩⟩⟩⟩⟩⟩⟩⟩⟩⟩⟩⟩⟩⟩⟩⟩⟩⟩⟩⟩⟩⟩⟩⟩⟩⟩, ⟨trivial, ⟨⟨trivial, trivial⟩, trivial⟩⟩⟩⟩⟩⟩⟩, trivial⟩, ⟨trivial, trivial⟩⟩ hP
theorem cgr_2 (q : QK) (h1 : (decide (iN q.i < iN q.r.length) = true)) (h2 : (0 ≤ iN q.a)) (h3 : ((gL q.g)[(iN q.a).toNat]? = some (AV.lst (List.map (AV.int IntKind.i64) q.r)))) (h4 : (0 ≤ iN q.i)) (h5 : ((List.map (AV.int IntKind.i64) q.r)[(iN q.i).toNat]? = some (AV.int IntKind.i64 q.e))) (h6 : (decide (q.e < 0) = false)) (h7 : (decide (iN q.g.length ≤ q.e) = false)) (h8 : ((q.e == iN q.a) = true)) {post : Exit → St → Prop} (hP : Pass post (Fin Try.prog Try.f27 0 [] (AV.int IntKind.i64 20))) : ∃ o' st' q', go2 Try.prog ({ dec := [(27, true), (38, false), (43, false), (48, true)], els := e27h q, calls := cK q, unroll := false } : HT) 0 4000 (loopC (loopC (bodyOf Try.f27) 0) 0) (loopK (loopC (bodyOf Try.f27) 0) 0) (lb27 q) = some (o', st', q') ∧ q' ∧ Go.AX.Rest Try.prog 0 post st' o' :=
  endT_spec (σ := []) (fz := []) (show endT Try.prog Try.f27 0 [] [] (go2 Try.prog ({ dec := [(27, true), (38, false), (43, false), (48, true)], els := e27h q, calls := cK q, unroll := false } : HT) 0 4000 (loopC (loopC (bodyOf Try.f27) 0) 0) (loopK (loopC (bodyOf Try.f27) 0) 0) (lb27 q)) = some ([], AV.int IntKind.i64 20, (((((True ∧ (True ∧ True)) ∧ True) ∧ ((type_of% h1) ∧ (((True ∧ True) ∧ ((True ∧ True) ∧ True)) ∧ (((True ∧ True) ∧ ((True ∧ True) ∧ ((True ∧ (True ∧ ((type_of% h2) ∧ (type_of% h3)))) ∧ ((True ∧ True) ∧ ((True ∧ True) ∧ ((True ∧ (True ∧ ((type_of% h4) ∧ (type_of% h5)))) ∧ ((True ∧ True) ∧ ((True ∧ True) ∧ True)))))))) ∧ (((True ∧ True) ∧ ((True ∧ True) ∧ ((True ∧ True) ∧ (((type_of% h6) ∧ (True ∧ True)) ∧ (((type_of% h6) ∧ (True ∧ True)) ∧ (((type_of% h6) ∧ (True ∧ (True ∧ True))) ∧ (((type_of% h6) ∧ (True ∧ True)) ∧ ((True ∧ True) ∧ (((type_of% h7) ∧ (True ∧ True)) ∧ (((type_of% h7) ∧ (True ∧ True)) ∧ (((type_of% h7) ∧ (True ∧ (True ∧ True))) ∧ (((type_of% h7) ∧ (True ∧ True)) ∧ ((True ∧ True) ∧ ((type_of% h8) ∧ ((type_of% h8) ∧ ((type_of% h8) ∧ (True ∧ (True ∧ (True ∧ (True ∧ (True ∧ (True ∧ (True ∧ (True ∧ (True ∧ (True ∧ ((type_of% h8) ∧ (((type_of% h8) ∧ (True ∧ True)) ∧ True)))))))))))))))))))))))))))) ∧ (True ∧ ((True ∧ True) ∧ True))))))) ∧ True) ∧ (True ∧ True))) by kernel_rfl) ⟨⟨⟨⟨⟨trivial, ⟨trivial, trivial⟩⟩, trivial⟩, ⟨h1, ⟨⟨⟨trivial, trivial⟩, ⟨⟨trivial, trivial⟩, trivial⟩⟩, ⟨⟨⟨trivial, trivial⟩, ⟨⟨trivial, trivial⟩, ⟨⟨trivial, ⟨trivial, ⟨h2, h3⟩⟩⟩, ⟨⟨trivial, trivial⟩, ⟨⟨trivial, trivial⟩, ⟨⟨trivial, ⟨trivial, ⟨h4, h5⟩⟩⟩, ⟨⟨trivial, trivial⟩, ⟨⟨trivial, trivial⟩, trivial⟩⟩⟩⟩⟩⟩⟩⟩, ⟨⟨⟨trivial, trivial⟩, ⟨⟨trivial, trivial⟩, ⟨⟨trivial, trivial⟩, ⟨⟨h6, ⟨trivial, trivial⟩⟩, ⟨⟨h6, ⟨trivial, trivial⟩⟩, ⟨⟨h6, ⟨trivial, ⟨trivial, trivial⟩⟩⟩, ⟨⟨h6, ⟨trivial, trivial⟩⟩, ⟨⟨trivial, trivial⟩, ⟨⟨h7, ⟨trivial, trivial⟩⟩, ⟨⟨h7, ⟨trivial, trivial⟩⟩, ⟨⟨h7, ⟨trivial, ⟨trivial, trivial⟩⟩⟩, ⟨⟨h7, ⟨trivial, trivial⟩⟩, ⟨⟨trivial, trivial⟩, ⟨h8, ⟨h8, ⟨h8, ⟨trivial, ⟨trivial, ⟨trivial, ⟨trivial, ⟨trivial, ⟨trivial, ⟨trivial, ⟨trivial, ⟨trivial, ⟨trivial, ⟨h8, ⟨⟨h8, ⟨trivial, trivial⟩⟩, trivial⟩⟩⟩⟩⟩⟩⟩⟩⟩⟩⟩⟩⟩⟩⟩⟩⟩⟩⟩⟩⟩⟩⟩⟩⟩⟩⟩⟩, ⟨trivial, ⟨⟨trivial, trivial⟩, trivial⟩⟩⟩⟩⟩⟩⟩, trivial⟩, ⟨trivial, trivial⟩⟩ hP
theorem cgr_3 (q : QK) (h1 : (decide (iN q.i < iN q.r.length) = true)) (h2 : (0 ≤ iN q.a)) (h3 : ((gL q.g)[(iN q.a).toNat]? = some (AV.lst (List.map (AV.int IntKind.i64) q.r)))) (h4 : (0 ≤ iN q.i)) (h5 : ((List.map (AV.int IntKind.i64) q.r)[(iN q.i).toNat]? = some (AV.int IntKind.i64 q.e))) (h6 : (decide (q.e < 0) = false)) (h7 : (decide (iN q.g.length ≤ q.e) = false)) (h8 : ((q.e == iN q.a) = false)) (h9 : (decide (0 < iN q.i) = true)) (h10 : (0 ≤ IntKind.i64.wrap (iN q.i - 1))) (h11 : ((List.map (AV.int IntKind.i64) q.r)[(IntKind.i64.wrap (iN q.i - 1)).toNat]? = some (AV.int IntKind.i64 (q.p.getD 0 0)))) (h12 : (decide (q.e ≤ q.p.getD 0 0) = true)) {post : Exit → St → Prop} (hP : Pass post (Fin Try.prog Try.f27 0 [] (AV.int IntKind.i64 20))) : ∃ o' st' q', go2 Try.prog ({ dec := [(27, true), (38, false), (43, false), (48, false), (51, true), (63, true)], els := e27h q, calls := cK q, unroll := false } : HT) 0 4000 (loopC (loopC (bodyOf Try.f27) 0) 0) (loopK (loopC (bodyOf Try.f27) 0) 0) (lb27 q) = some (o', st', q') ∧ q' ∧ Go.AX.Rest Try.prog 0 post st' o' :=
  endT_spec (σ := []) (fz := []) (show endT Try.prog Try.f27 0 [] [] (go2 Try.prog ({ dec := [(27, true), (38, false), (43, false), (48, false), (51, true), (63, true)], els := e27h q, calls := cK q, unroll := false } : HT) 0 4000 (loopC (loopC (bodyOf Try.f27) 0) 0) (loopK (loopC (bodyOf Try.f27) 0) 0) (lb27 q)) = some ([], AV.int IntKind.i64 20, (((((True ∧ (True ∧ True)) ∧ True) ∧ ((type_of% h1) ∧ (((True ∧ True) ∧ ((True ∧ True) ∧ True)) ∧ (((True ∧ True) ∧ ((True ∧ True) ∧ ((True ∧ (True ∧ ((type_of% h2) ∧ (type_of% h3)))) ∧ ((True ∧ True) ∧ ((True ∧ True) ∧ ((True ∧ (True ∧ ((type_of% h4) ∧ (type_of% h5)))) ∧ ((True ∧ True) ∧ ((True ∧ True) ∧ True)))))))) ∧ (((True ∧ True) ∧ ((True ∧ True) ∧ ((True ∧ True) ∧ (((type_of% h6) ∧ (True ∧ True)) ∧ (((type_of% h6) ∧ (True ∧ True)) ∧ (((type_of% h6) ∧ (True ∧ (True ∧ True))) ∧ (((type_of% h6) ∧ (True ∧ True)) ∧ ((True ∧ True) ∧ (((type_of% h7) ∧ (True ∧ True)) ∧ (((type_of% h7) ∧ (True ∧ True)) ∧ (((type_of% h7) ∧ (True ∧ (True ∧ True))) ∧ (((type_of% h7) ∧ (True ∧ True)) ∧ ((True ∧ True) ∧ (((type_of% h8) ∧ (True ∧ True)) ∧ (((type_of% h8) ∧ (True ∧ True)) ∧ (((type_of% h8) ∧ (True ∧ True)) ∧ (((type_of% h9) ∧ (True ∧ True)) ∧ (((type_of% h9) ∧ (True ∧ True)) ∧ (((type_of% h9) ∧ (True ∧ True)) ∧ (((type_of% h9) ∧ (True ∧ (True ∧ ((type_of% h2) ∧ (type_of% h3))))) ∧ (((type_of% h9) ∧ (True ∧ True)) ∧ (((type_of% h9) ∧ (True ∧ True)) ∧ (((type_of% h9) ∧ (True ∧ True)) ∧ (((type_of% h9) ∧ (True ∧ (True ∧ ((type_of% h10) ∧ (type_of% h11))))) ∧ (((type_of% h9) ∧ (True ∧ True)) ∧ (((type_of% h9) ∧ (True ∧ (True ∧ True))) ∧ (((type_of% h8) ∧ ((type_of% h9) ∧ (True ∧ True))) ∧ (((type_of% h8) ∧ (True ∧ True)) ∧ True)))))))))))))))))))))))))))) ∧ ((type_of% h12) ∧ ((True ∧ True) ∧ True))))))) ∧ True) ∧ (True ∧ True))) by kernel_rfl) ⟨⟨⟨⟨⟨trivial, ⟨trivial, trivial⟩⟩, trivial⟩, ⟨h1, ⟨⟨⟨trivial, trivial⟩, ⟨⟨trivial, trivial⟩, trivial⟩⟩, ⟨⟨⟨trivial, trivial⟩, ⟨⟨trivial, trivial⟩, ⟨⟨trivial, ⟨trivial, ⟨h2, h3⟩⟩⟩, ⟨⟨trivial, trivial⟩, ⟨⟨trivial, trivial⟩, ⟨⟨trivial, ⟨trivial, ⟨h4, h5⟩⟩⟩, ⟨⟨trivial, trivial⟩, ⟨⟨trivial, trivial⟩, trivial⟩⟩⟩⟩⟩⟩⟩⟩, ⟨⟨⟨trivial, trivial⟩, ⟨⟨trivial, trivial⟩, ⟨⟨trivial, trivial⟩, ⟨⟨h6, ⟨trivial, trivial⟩⟩, ⟨⟨h6, ⟨trivial, trivial⟩⟩, ⟨⟨h6, ⟨trivial, ⟨trivial, trivial⟩⟩⟩, ⟨⟨h6, ⟨trivial, trivial⟩⟩, ⟨⟨trivial, trivial⟩, ⟨⟨h7, ⟨trivial, trivial⟩⟩, ⟨⟨h7, ⟨trivial, trivial⟩⟩, ⟨⟨h7, ⟨trivial, ⟨trivial, trivial⟩⟩⟩, ⟨⟨h7, ⟨trivial, trivial⟩⟩, ⟨⟨trivial, trivial⟩, ⟨⟨h8, ⟨trivial, trivial⟩⟩, ⟨⟨h8, ⟨trivial, trivial⟩⟩, ⟨⟨h8, ⟨trivial, trivial⟩⟩, ⟨⟨h9, ⟨trivial, trivial⟩⟩, ⟨⟨h9, ⟨trivial, trivial⟩⟩, ⟨⟨h9, ⟨trivial, trivial⟩⟩, ⟨⟨h9, ⟨trivial, ⟨trivial, ⟨h2, h3⟩⟩⟩⟩, ⟨⟨h9, ⟨trivial, trivial⟩⟩, ⟨⟨h9, ⟨trivial, trivial⟩⟩, ⟨⟨h9, ⟨trivial, trivial⟩⟩, ⟨⟨h9, ⟨trivial, ⟨trivial, ⟨h10, h11⟩⟩⟩⟩, ⟨⟨h9, ⟨trivial, trivial⟩⟩, ⟨⟨h9, ⟨trivial, ⟨trivial, trivial⟩⟩⟩, ⟨⟨h8, ⟨h9, ⟨trivial, trivial⟩⟩⟩, ⟨⟨h8, ⟨trivial, trivial⟩⟩, trivial⟩⟩⟩⟩⟩⟩⟩⟩⟩⟩⟩⟩⟩⟩⟩⟩⟩⟩⟩⟩⟩⟩⟩⟩⟩⟩⟩⟩, ⟨h12, ⟨⟨trivial, trivial⟩, trivial⟩⟩⟩⟩⟩⟩⟩, trivial⟩, ⟨trivial, trivial⟩⟩ hP
theorem cgr_4 (q : QK) (h1 : (decide (iN q.i < iN q.r.length) = true)) (h2 : (0 ≤ iN q.a)) (h3 : ((gL q.g)[(iN q.a).toNat]? = some (AV.lst (List.map (AV.int IntKind.i64) q.r)))) (h4 : (0 ≤ iN q.i)) (h5 : ((List.map (AV.int IntKind.i64) q.r)[(iN q.i).toNat]? = some (AV.int IntKind.i64 q.e))) (h6 : (decide (q.e < 0) = false)) (h7 : (decide (iN q.g.length ≤ q.e) = false)) (h8 : ((q.e == iN q.a) = false)) (h9 : (decide (0 < iN q.i) = true)) (h10 : (0 ≤ IntKind.i64.wrap (iN q.i - 1))) (h11 : ((List.map (AV.int IntKind.i64) q.r)[(IntKind.i64.wrap (iN q.i - 1)).toNat]? = some (AV.int IntKind.i64 (q.p.getD 0 0)))) (h12 : (decide (q.e ≤ q.p.getD 0 0) = false)) {post : Exit → St → Prop} {R : St → Prop} (hR : ∀ st, Ren 0 st (St.mk 88 [(0, AV.lst (gL q.g)), (1, AV.lst (boL q.s)), (2, AV.int IntKind.i64 q.x), (3, AV.int IntKind.i64 q.y), (9, AV.int IntKind.i64 (iN q.g.length)), (10, AV.int IntKind.i64 (iN q.a)), (17, AV.int IntKind.i64 (iN q.g.length)), (18, AV.int IntKind.i64 (iN q.a)), (25, AV.int IntKind.i64 (iN q.r.length)), (26, AV.int IntKind.i64 (IntKind.i64.wrap (iN q.i + 1)))] []) → R st) : ∃ o' st' q', go Try.prog ({ dec := [(27, true), (38, false), (43, false), (48, false), (51, true), (63, false)], els := e27h q, calls := cK q, unroll := false } : HT) 0 4000 (.inl (loopC (loopC (bodyOf Try.f27) 0) 0)) [] (lb27 q) = some (o', st', q') ∧ q' ∧ Go.AX.Rest Try.prog 0 (andThen R post) st' o' :=
  endN_spec (σ := []) (fz := []) (vars := [0,1,2,3,9,10,17,18,25,26]) (show endN 0 [] [] [0,1,2,3,9,10,17,18,25,26] (go Try.prog ({ dec := [(27, true), (38, false), (43, false), (48, false), (51, true), (63, false)], els := e27h q, calls := cK q, unroll := false } : HT) 0 4000 (.inl (loopC (loopC (bodyOf Try.f27) 0) 0)) [] (lb27 q)) = some (St.mk 88 [(0, AV.lst (gL q.g)), (1, AV.lst (boL q.s)), (2, AV.int IntKind.i64 q.x), (3, AV.int IntKind.i64 q.y), (9, AV.int IntKind.i64 (iN q.g.length)), (10, AV.int IntKind.i64 (iN q.a)), (17, AV.int IntKind.i64 (iN q.g.length)), (18, AV.int IntKind.i64 (iN q.a)), (25, AV.int IntKind.i64 (iN q.r.length)), (26, AV.int IntKind.i64 (IntKind.i64.wrap (iN q.i + 1)))] [], ((((True ∧ (True ∧ True)) ∧ True) ∧ ((type_of% h1) ∧ (((True ∧ True) ∧ ((True ∧ True) ∧ True)) ∧ (((True ∧ True) ∧ ((True ∧ True) ∧ ((True ∧ (True ∧ ((type_of% h2) ∧ (type_of% h3)))) ∧ ((True ∧ True) ∧ ((True ∧ True) ∧ ((True ∧ (True ∧ ((type_of% h4) ∧ (type_of% h5)))) ∧ ((True ∧ True) ∧ ((True ∧ True) ∧ True)))))))) ∧ (((True ∧ True) ∧ ((True ∧ True) ∧ ((True ∧ True) ∧ (((type_of% h6) ∧ (True ∧ True)) ∧ (((type_of% h6) ∧ (True ∧ True)) ∧ (((type_of% h6) ∧ (True ∧ (True ∧ True))) ∧ (((type_of% h6) ∧ (True ∧ True)) ∧ ((True ∧ True) ∧ (((type_of% h7) ∧ (True ∧ True)) ∧ (((type_of% h7) ∧ (True ∧ True)) ∧ (((type_of% h7) ∧ (True ∧ (True ∧ True))) ∧ (((type_of% h7) ∧ (True ∧ True)) ∧ ((True ∧ True) ∧ (((type_of% h8) ∧ (True ∧ True)) ∧ (((type_of% h8) ∧ (True ∧ True)) ∧ (((type_of% h8) ∧ (True ∧ True)) ∧ (((type_of% h9) ∧ (True ∧ True)) ∧ (((type_of% h9) ∧ (True ∧ True)) ∧ (((type_of% h9) ∧ (True ∧ True)) ∧ (((type_of% h9) ∧ (True ∧ (True ∧ ((type_of% h2) ∧ (type_of% h3))))) ∧ (((type_of% h9) ∧ (True ∧ True)) ∧ (((type_of% h9) ∧ (True ∧ True)) ∧ (((type_of% h9) ∧ (True ∧ True)) ∧ (((type_of% h9) ∧ (True ∧ (True ∧ ((type_of% h10) ∧ (type_of% h11))))) ∧ (((type_of% h9) ∧ (True ∧ True)) ∧ (((type_of% h9) ∧ (True ∧ (True ∧ True))) ∧ (((type_of% h8) ∧ ((type_of% h9) ∧ (True ∧ True))) ∧ (((type_of% h8) ∧ (True ∧ True)) ∧ True)))))))))))))))))))))))))))) ∧ ((type_of% h12) ∧ (((True ∧ True) ∧ ((True ∧ True) ∧ True)) ∧ True))))))) ∧ (True ∧ (True ∧ (True ∧ (True ∧ (True ∧ (True ∧ (True ∧ (True ∧ (True ∧ (True ∧ True)))))))))))) by kernel_rfl) ⟨⟨⟨⟨trivial, ⟨trivial, trivial⟩⟩, trivial⟩, ⟨h1, ⟨⟨⟨trivial, trivial⟩, ⟨⟨trivial, trivial⟩, trivial⟩⟩, ⟨⟨⟨trivial, trivial⟩, ⟨⟨trivial, trivial⟩, ⟨⟨trivial, ⟨trivial, ⟨h2, h3⟩⟩⟩, ⟨⟨trivial, trivial⟩, ⟨⟨trivial, trivial⟩, ⟨⟨trivial, ⟨trivial, ⟨h4, h5⟩⟩⟩, ⟨⟨trivial, trivial⟩, ⟨⟨trivial, trivial⟩, trivial⟩⟩⟩⟩⟩⟩⟩⟩, ⟨⟨⟨trivial, trivial⟩, ⟨⟨trivial, trivial⟩, ⟨⟨trivial, trivial⟩, ⟨⟨h6, ⟨trivial, trivial⟩⟩, ⟨⟨h6, ⟨trivial, trivial⟩⟩, ⟨⟨h6, ⟨trivial, ⟨trivial, trivial⟩⟩⟩, ⟨⟨h6, ⟨trivial, trivial⟩⟩, ⟨⟨trivial, trivial⟩, ⟨⟨h7, ⟨trivial, trivial⟩⟩, ⟨⟨h7, ⟨trivial, trivial⟩⟩, ⟨⟨h7, ⟨trivial, ⟨trivial, trivial⟩⟩⟩, ⟨⟨h7, ⟨trivial, trivial⟩⟩, ⟨⟨trivial, trivial⟩, ⟨⟨h8, ⟨trivial, trivial⟩⟩, ⟨⟨h8, ⟨trivial, trivial⟩⟩, ⟨⟨h8, ⟨trivial, trivial⟩⟩, ⟨⟨h9, ⟨trivial, trivial⟩⟩, ⟨⟨h9, ⟨trivial, trivial⟩⟩, ⟨⟨h9, ⟨trivial, trivial⟩⟩, ⟨⟨h9, ⟨trivial, ⟨trivial, ⟨h2, h3⟩⟩⟩⟩, ⟨⟨h9, ⟨trivial, trivial⟩⟩, ⟨⟨h9, ⟨trivial, trivial⟩⟩, ⟨⟨h9, ⟨trivial, trivial⟩⟩, ⟨⟨h9, ⟨trivial, ⟨trivial, ⟨h10, h11⟩⟩⟩⟩, ⟨⟨h9, ⟨trivial, trivial⟩⟩, ⟨⟨h9, ⟨trivial, ⟨trivial, trivial⟩⟩⟩, ⟨⟨h8, ⟨h9, ⟨trivial, trivial⟩⟩⟩, ⟨⟨h8, ⟨trivial, trivial⟩⟩, trivial⟩⟩⟩⟩⟩⟩⟩⟩⟩⟩⟩⟩⟩⟩⟩⟩⟩⟩⟩⟩⟩⟩⟩⟩⟩⟩⟩⟩, ⟨h12, ⟨⟨⟨trivial, trivial⟩, ⟨⟨trivial, trivial⟩, trivial⟩⟩, trivial⟩⟩⟩⟩⟩⟩⟩, ⟨trivial, ⟨trivial, ⟨trivial, ⟨trivial, ⟨trivial, ⟨trivial, ⟨trivial, ⟨trivial, ⟨trivial, ⟨trivial, trivial⟩⟩⟩⟩⟩⟩⟩⟩⟩⟩⟩ hR
theorem cgr_5 (q : QK) (h1 : (decide (iN q.i < iN q.r.length) = true)) (h2 : (0 ≤ iN q.a)) (h3 : ((gL q.g)[(iN q.a).toNat]? = some (AV.lst (List.map (AV.int IntKind.i64) q.r)))) (h4 : (0 ≤ iN q.i)) (h5 : ((List.map (AV.int IntKind.i64) q.r)[(iN q.i).toNat]? = some (AV.int IntKind.i64 q.e))) (h6 : (decide (q.e < 0) = false)) (h7 : (decide (iN q.g.length ≤ q.e) = false)) (h8 : ((q.e == iN q.a) = false)) (h9 : (decide (0 < iN q.i) = false)) {post : Exit → St → Prop} {R : St → Prop} (hR : ∀ st, Ren 0 st (St.mk 88 [(0, AV.lst (gL q.g)), (1, AV.lst (boL q.s)), (2, AV.int IntKind.i64 q.x), (3, AV.int IntKind.i64 q.y), (9, AV.int IntKind.i64 (iN q.g.length)), (10, AV.int IntKind.i64 (iN q.a)), (17, AV.int IntKind.i64 (iN q.g.length)), (18, AV.int IntKind.i64 (iN q.a)), (25, AV.int IntKind.i64 (iN q.r.length)), (26, AV.int IntKind.i64 (IntKind.i64.wrap (iN q.i + 1)))] []) → R st) : ∃ o' st' q', go Try.prog ({ dec := [(27, true), (38, false), (43, false), (48, false), (51, false)], els := e27h q, calls := cK q, unroll := false } : HT) 0 4000 (.inl (loopC (loopC (bodyOf Try.f27) 0) 0)) [] (lb27 q) = some (o', st', q') ∧ q' ∧ Go.AX.Rest Try.prog 0 (andThen R post) st' o' :=
  endN_spec (σ := []) (fz := []) (vars := [0,1,2,3,9,10,17,18,25,26]) (show endN 0 [] [] [0,1,2,3,9,10,17,18,25,26] (go Try.prog ({ dec := [(27, true), (38, false), (43, false), (48, false), (51, false)], els := e27h q, calls := cK q, unroll := false } : HT) 0 4000 (.inl (loopC (loopC (bodyOf Try.f27) 0) 0)) [] (lb27 q)) = some (St.mk 88 [(0, AV.lst (gL q.g)), (1, AV.lst (boL q.s)), (2, AV.int IntKind.i64 q.x), (3, AV.int IntKind.i64 q.y), (9, AV.int IntKind.i64 (iN q.g.length)), (10, AV.int IntKind.i64 (iN q.a)), (17, AV.int IntKind.i64 (iN q.g.length)), (18, AV.int IntKind.i64 (iN q.a)), (25, AV.int IntKind.i64 (iN q.r.length)), (26, AV.int IntKind.i64 (IntKind.i64.wrap (iN q.i + 1)))] [], ((((True ∧ (True ∧ True)) ∧ True) ∧ ((type_of% h1) ∧ (((True ∧ True) ∧ ((True ∧ True) ∧ True)) ∧ (((True ∧ True) ∧ ((True ∧ True) ∧ ((True ∧ (True ∧ ((type_of% h2) ∧ (type_of% h3)))) ∧ ((True ∧ True) ∧ ((True ∧ True) ∧ ((True ∧ (True ∧ ((type_of% h4) ∧ (type_of% h5)))) ∧ ((True ∧ True) ∧ ((True ∧ True) ∧ True)))))))) ∧ (((True ∧ True) ∧ ((True ∧ True) ∧ ((True ∧ True) ∧ (((type_of% h6) ∧ (True ∧ True)) ∧ (((type_of% h6) ∧ (True ∧ True)) ∧ (((type_of% h6) ∧ (True ∧ (True ∧ True))) ∧ (((type_of% h6) ∧ (True ∧ True)) ∧ ((True ∧ True) ∧ (((type_of% h7) ∧ (True ∧ True)) ∧ (((type_of% h7) ∧ (True ∧ True)) ∧ (((type_of% h7) ∧ (True ∧ (True ∧ True))) ∧ (((type_of% h7) ∧ (True ∧ True)) ∧ ((True ∧ True) ∧ (((type_of% h8) ∧ (True ∧ True)) ∧ (((type_of% h8) ∧ (True ∧ True)) ∧ (((type_of% h8) ∧ (True ∧ True)) ∧ ((type_of% h9) ∧ ((type_of% h9) ∧ ((type_of% h9) ∧ ((type_of% h9) ∧ ((type_of% h9) ∧ ((type_of% h9) ∧ ((type_of% h9) ∧ ((type_of% h9) ∧ ((type_of% h9) ∧ ((type_of% h9) ∧ (((type_of% h8) ∧ ((type_of% h9) ∧ (True ∧ True))) ∧ (((type_of% h8) ∧ (True ∧ True)) ∧ True)))))))))))))))))))))))))))) ∧ (True ∧ (((True ∧ True) ∧ ((True ∧ True) ∧ True)) ∧ True))))))) ∧ (True ∧ (True ∧ (True ∧ (True ∧ (True ∧ (True ∧ (True ∧ (True ∧ (True ∧ (True ∧ True)))))))))))) by kernel_rfl) ⟨⟨⟨⟨trivial, ⟨trivial, trivial⟩⟩, trivial⟩, ⟨h1, ⟨⟨⟨trivial, trivial⟩, ⟨⟨trivial, trivial⟩, trivial⟩⟩, ⟨⟨⟨trivial, trivial⟩, ⟨⟨trivial, trivial⟩, ⟨⟨trivial, ⟨trivial, ⟨h2, h3⟩⟩⟩, ⟨⟨trivial, trivial⟩, ⟨⟨trivial, trivial⟩, ⟨⟨trivial, ⟨trivial, ⟨h4, h5⟩⟩⟩, ⟨⟨trivial, trivial⟩, ⟨⟨trivial, trivial⟩, trivial⟩⟩⟩⟩⟩⟩⟩⟩, ⟨⟨⟨trivial, trivial⟩, ⟨⟨trivial, trivial⟩, ⟨⟨trivial, trivial⟩, ⟨⟨h6, ⟨trivial, trivial⟩⟩, ⟨⟨h6, ⟨trivial, trivial⟩⟩, ⟨⟨h6, ⟨trivial, ⟨trivial, trivial⟩⟩⟩, ⟨⟨h6, ⟨trivial, trivial⟩⟩, ⟨⟨trivial, trivial⟩, ⟨⟨h7, ⟨trivial, trivial⟩⟩, ⟨⟨h7, ⟨trivial, trivial⟩⟩, ⟨⟨h7, ⟨trivial, ⟨trivial, trivial⟩⟩⟩, ⟨⟨h7, ⟨trivial, trivial⟩⟩, ⟨⟨trivial, trivial⟩, ⟨⟨h8, ⟨trivial, trivial⟩⟩, ⟨⟨h8, ⟨trivial, trivial⟩⟩, ⟨⟨h8, ⟨trivial, trivial⟩⟩, ⟨h9, ⟨h9, ⟨h9, ⟨h9, ⟨h9, ⟨h9, ⟨h9, ⟨h9, ⟨h9, ⟨h9, ⟨⟨h8, ⟨h9, ⟨trivial, trivial⟩⟩⟩, ⟨⟨h8, ⟨trivial, trivial⟩⟩, trivial⟩⟩⟩⟩⟩⟩⟩⟩⟩⟩⟩⟩⟩⟩⟩⟩⟩⟩⟩⟩⟩⟩⟩⟩⟩⟩⟩⟩, ⟨trivial, ⟨⟨⟨trivial, trivial⟩, ⟨⟨trivial, trivial⟩, trivial⟩⟩, trivial⟩⟩⟩⟩⟩⟩⟩, ⟨trivial, ⟨trivial, ⟨trivial, ⟨trivial, ⟨trivial, ⟨trivial, ⟨trivial, ⟨trivial, ⟨trivial, ⟨trivial, trivial⟩⟩⟩⟩⟩⟩⟩⟩⟩⟩⟩ hR
theorem va_0 (q : QK) (h1 : (decide (24 < iN (gL q.g).length) = true)) : ∃ o' st' q', go Try.prog ({ dec := [(8, true)], els := e40 q, calls := cV q, unroll := false } : HT) 0 4000 (.inl (bodyOf Try.f40)) [] (st40 q) = some (o', st', q') ∧ q' ∧ Go.AX.Rest Try.prog 0 (Fin Try.prog Try.f40 0 [] (AV.bool false)) st' o' :=
  endF_spec (σ := []) (fz := []) (show endF Try.prog Try.f40 0 [] [] (go Try.prog ({ dec := [(8, true)], els := e40 q, calls := cV q, unroll := false } : HT) 0 4000 (.inl (bodyOf Try.f40)) [] (st40 q)) = some ([], AV.bool false, (((True ∧ True) ∧ (((True ∧ True) ∧ ((True ∧ True) ∧ ((True ∧ True) ∧ True))) ∧ ((type_of% h1) ∧ ((True ∧ True) ∧ True)))) ∧ (True ∧ True))) by kernel_rfl) ⟨⟨⟨trivial, trivial⟩, ⟨⟨⟨trivial, trivial⟩, ⟨⟨trivial, trivial⟩, ⟨⟨trivial, trivial⟩, trivial⟩⟩⟩, ⟨h1, ⟨⟨trivial, trivial⟩, trivial⟩⟩⟩⟩, ⟨trivial, trivial⟩⟩
theorem va_1 (q : QK) (h1 : (decide (24 < iN (gL q.g).length) = false)) {post : Exit → St → Prop} (ht : T Try.prog 0 (.loop (loopC (bodyOf Try.f40) 0)) (St.mk 60 [(0, AV.lst (gL q.g)), (3, AV.int IntKind.i64 0)] []) (TK Try.prog 0 post (loopK (bodyOf Try.f40) 0))) : ∃ o' st' q', go Try.prog ({ dec := [(8, false)], els := e40 q, calls := cV q, unroll := false } : HT) 0 4000 (.inl (bodyOf Try.f40)) [] (st40 q) = some (o', st', q') ∧ q' ∧ Go.AX.Rest Try.prog 0 post st' o' :=
  endR_spec (σ := []) (fz := []) (vars := [0,3]) (show endR 0 [] [] [0,3] (go Try.prog ({ dec := [(8, false)], els := e40 q, calls := cV q, unroll := false } : HT) 0 4000 (.inl (bodyOf Try.f40)) [] (st40 q)) = some (loopC (bodyOf Try.f40) 0, loopK (bodyOf Try.f40) 0, St.mk 60 [(0, AV.lst (gL q.g)), (3, AV.int IntKind.i64 0)] [], (((True ∧ True) ∧ (((True ∧ True) ∧ ((True ∧ True) ∧ ((True ∧ True) ∧ True))) ∧ ((type_of% h1) ∧ ((True ∧ True) ∧ True)))) ∧ (True ∧ (True ∧ True)))) by kernel_rfl) ⟨⟨⟨trivial, trivial⟩, ⟨⟨⟨trivial, trivial⟩, ⟨⟨trivial, trivial⟩, ⟨⟨trivial, trivial⟩, trivial⟩⟩⟩, ⟨h1, ⟨⟨trivial, trivial⟩, trivial⟩⟩⟩⟩, ⟨trivial, ⟨trivial, trivial⟩⟩⟩ ht
theorem vax_0 (q : QK) (h1 : (decide (iN q.a < iN (gL q.g).length) = false)) : ∃ o' st' q', go2 Try.prog ({ dec := [(12, false)], els := e40 q, calls := cV q, unroll := false } : HT) 0 4000 (loopC (bodyOf Try.f40) 0) (loopK (bodyOf Try.f40) 0) (la40 q) = some (o', st', q') ∧ q' ∧ Go.AX.Rest Try.prog 0 (Fin Try.prog Try.f40 0 [] (AV.bool true)) st' o' :=
  endF_spec (σ := []) (fz := []) (show endF Try.prog Try.f40 0 [] [] (go2 Try.prog ({ dec := [(12, false)], els := e40 q, calls := cV q, unroll := false } : HT) 0 4000 (loopC (bodyOf Try.f40) 0) (loopK (bodyOf Try.f40) 0) (la40 q)) = some ([], AV.bool true, (((((True ∧ True) ∧ ((True ∧ True) ∧ ((True ∧ True) ∧ ((True ∧ (True ∧ True)) ∧ True)))) ∧ ((type_of% h1) ∧ True)) ∧ ((True ∧ True) ∧ True)) ∧ (True ∧ True))) by kernel_rfl) ⟨⟨⟨⟨⟨trivial, trivial⟩, ⟨⟨trivial, trivial⟩, ⟨⟨trivial, trivial⟩, ⟨⟨trivial, ⟨trivial, trivial⟩⟩, trivial⟩⟩⟩⟩, ⟨h1, trivial⟩⟩, ⟨⟨trivial, trivial⟩, trivial⟩⟩, ⟨trivial, trivial⟩⟩
theorem vai_0 (q : QK) (h1 : (decide (iN q.a < iN (gL q.g).length) = true)) {post : Exit → St → Prop} (ht : T Try.prog 0 (.loop (loopC (loopC (bodyOf Try.f40) 0) 0)) (St.mk 60 [(0, AV.lst (gL q.g)), (3, AV.int IntKind.i64 (iN q.a)), (4, AV.int IntKind.i64 0)] []) (TK Try.prog 0 post (loopK (loopC (bodyOf Try.f40) 0) 0))) : ∃ o' st' q', go Try.prog ({ dec := [(12, true)], els := e40 q, calls := cV q, unroll := false } : HT) 0 4000 (.inl (loopC (bodyOf Try.f40) 0)) [] (la40 q) = some (o', st', q') ∧ q' ∧ Go.AX.Rest Try.prog 0 post st' o' :=
  endR_spec (σ := []) (fz := []) (vars := [0,3,4]) (show endR 0 [] [] [0,3,4] (go Try.prog ({ dec := [(12, true)], els := e40 q, calls := cV q, unroll := false } : HT) 0 4000 (.inl (loopC (bodyOf Try.f40) 0)) [] (la40 q)) = some (loopC (loopC (bodyOf Try.f40) 0) 0, loopK (loopC (bodyOf Try.f40) 0) 0, St.mk 60 [(0, AV.lst (gL q.g)), (3, AV.int IntKind.i64 (iN q.a)), (4, AV.int IntKind.i64 0)] [], ((((True ∧ True) ∧ ((True ∧ True) ∧ ((True ∧ True) ∧ ((True ∧ (True ∧ True)) ∧ True)))) ∧ ((type_of% h1) ∧ ((True ∧ True) ∧ True))) ∧ (True ∧ (True ∧ (True ∧ True))))) by kernel_rfl) ⟨⟨⟨⟨trivial, trivial⟩, ⟨⟨trivial, trivial⟩, ⟨⟨trivial, trivial⟩, ⟨⟨trivial, ⟨trivial, trivial⟩⟩, trivial⟩⟩⟩⟩, ⟨h1, ⟨⟨trivial, trivial⟩, trivial⟩⟩⟩, ⟨trivial, ⟨trivial, ⟨trivial, trivial⟩⟩⟩⟩ ht
theorem vbx_0 (q : QK) (h1 : (0 ≤ iN q.a)) (h2 : ((gL q.g)[(iN q.a).toNat]? = some (AV.lst (List.map (AV.int IntKind.i64) q.r)))) (h3 : (decide (iN q.i < iN (List.map (AV.int IntKind.i64) q.r).length) = false)) {post : Exit → St → Prop} {R : St → Prop} (hR : ∀ st, Ren 0 st (St.mk 60 [(0, AV.lst (gL q.g)), (3, AV.int IntKind.i64 (IntKind.i64.wrap (iN q.a + 1)))] []) → R st) : ∃ o' st' q', go2 Try.prog ({ dec := [(21, false)], els := e40 q, calls := cV q, unroll := false } : HT) 0 4000 (loopC (loopC (bodyOf Try.f40) 0) 0) (loopK (loopC (bodyOf Try.f40) 0) 0) (lb40 q) = some (o', st', q') ∧ q' ∧ Go.AX.Rest Try.prog 0 (andThen R post) st' o' :=
  endN_spec (σ := []) (fz := []) (vars := [0,3]) (show endN 0 [] [] [0,3] (go2 Try.prog ({ dec := [(21, false)], els := e40 q, calls := cV q, unroll := false } : HT) 0 4000 (loopC (loopC (bodyOf Try.f40) 0) 0) (loopK (loopC (bodyOf Try.f40) 0) 0) (lb40 q)) = some (St.mk 60 [(0, AV.lst (gL q.g)), (3, AV.int IntKind.i64 (IntKind.i64.wrap (iN q.a + 1)))] [], (((((True ∧ True) ∧ ((True ∧ True) ∧ ((True ∧ True) ∧ ((True ∧ (True ∧ ((type_of% h1) ∧ (type_of% h2)))) ∧ ((True ∧ True) ∧ ((True ∧ True) ∧ ((True ∧ (True ∧ True)) ∧ True))))))) ∧ ((type_of% h3) ∧ True)) ∧ (((True ∧ True) ∧ ((True ∧ True) ∧ ((True ∧ True) ∧ True))) ∧ True)) ∧ (True ∧ (True ∧ True)))) by kernel_rfl) ⟨⟨⟨⟨⟨trivial, trivial⟩, ⟨⟨trivial, trivial⟩, ⟨⟨trivial, trivial⟩, ⟨⟨trivial, ⟨trivial, ⟨h1, h2⟩⟩⟩, ⟨⟨trivial, trivial⟩, ⟨⟨trivial, trivial⟩, ⟨⟨trivial, ⟨trivial, trivial⟩⟩, trivial⟩⟩⟩⟩⟩⟩⟩, ⟨h3, trivial⟩⟩, ⟨⟨⟨trivial, trivial⟩, ⟨⟨trivial, trivial⟩, ⟨⟨trivial, trivial⟩, trivial⟩⟩⟩, trivial⟩⟩, ⟨trivial, ⟨trivial, trivial⟩⟩⟩ hR
theorem vbr_0 (q : QK) (h1 : (0 ≤ iN q.a)) (h2 : ((gL q.g)[(iN q.a).toNat]? = some (AV.lst (List.map (AV.int IntKind.i64) q.r)))) (h3 : (decide (iN q.i < iN (List.map (AV.int IntKind.i64) q.r).length) = true)) (h4 : (0 ≤ iN q.i)) (h5 : ((List.map (AV.int IntKind.i64) q.r)[(iN q.i).toNat]? = some (AV.int IntKind.i64 q.e))) (h6 : (decide (q.e < 0) = true)) {post : Exit → St → Prop} (hP : Pass post (Fin Try.prog Try.f40 0 [] (AV.bool false))) : ∃ o' st' q', go2 Try.prog ({ dec := [(21, true), (33, true)], els := e40 q, calls := cV q, unroll := false } : HT) 0 4000 (loopC (loopC (bodyOf Try.f40) 0) 0) (loopK (loopC (bodyOf Try.f40) 0) 0) (lb40 q) = some (o', st', q') ∧ q' ∧ Go.AX.Rest Try.prog 0 post st' o' :=
  endT_spec (σ := []) (fz := []) (show endT Try.prog Try.f40 0 [] [] (go2 Try.prog ({ dec := [(21, true), (33, true)], els := e40 q, calls := cV q, unroll := false } : HT) 0 4000 (loopC (loopC (bodyOf Try.f40) 0) 0) (loopK (loopC (bodyOf Try.f40) 0) 0) (lb40 q)) = some ([], AV.bool false, (((((True ∧ True) ∧ ((True ∧ True) ∧ ((True ∧ True) ∧ ((True ∧ (True ∧ ((type_of% h1) ∧ (type_of% h2)))) ∧ ((True ∧ True) ∧ ((True ∧ True) ∧ ((True ∧ (True ∧ True)) ∧ True))))))) ∧ ((type_of% h3) ∧ (((True ∧ True) ∧ ((True ∧ True) ∧ ((True ∧ (True ∧ ((type_of% h1) ∧ (type_of% h2)))) ∧ ((True ∧ True) ∧ ((True ∧ True) ∧ ((True ∧ (True ∧ ((type_of% h4) ∧ (type_of% h5)))) ∧ ((True ∧ True) ∧ ((True ∧ True) ∧ True)))))))) ∧ (((True ∧ True) ∧ ((True ∧ True) ∧ ((True ∧ True) ∧ ((type_of% h6) ∧ ((type_of% h6) ∧ ((type_of% h6) ∧ ((type_of% h6) ∧ (((type_of% h6) ∧ (True ∧ True)) ∧ ((True ∧ True) ∧ (True ∧ (True ∧ (True ∧ ((True ∧ (True ∧ True)) ∧ ((True ∧ True) ∧ (True ∧ (True ∧ (True ∧ (True ∧ (True ∧ (True ∧ (True ∧ (True ∧ (True ∧ (True ∧ (True ∧ (True ∧ (True ∧ (True ∧ ((True ∧ (True ∧ True)) ∧ True))))))))))))))))))))))))))))) ∧ (True ∧ ((True ∧ True) ∧ True)))))) ∧ True) ∧ (True ∧ True))) by kernel_rfl) ⟨⟨⟨⟨⟨trivial, trivial⟩, ⟨⟨trivial, trivial⟩, ⟨⟨trivial, trivial⟩, ⟨⟨trivial, ⟨trivial, ⟨h1, h2⟩⟩⟩, ⟨⟨trivial, trivial⟩, ⟨⟨trivial, trivial⟩, ⟨⟨trivial, ⟨trivial, trivial⟩⟩, trivial⟩⟩⟩⟩⟩⟩⟩, ⟨h3, ⟨⟨⟨trivial, trivial⟩, ⟨⟨trivial, trivial⟩, ⟨⟨trivial, ⟨trivial, ⟨h1, h2⟩⟩⟩, ⟨⟨trivial, trivial⟩, ⟨⟨trivial, trivial⟩, ⟨⟨trivial, ⟨trivial, ⟨h4, h5⟩⟩⟩, ⟨⟨trivial, trivial⟩, ⟨⟨trivial, trivial⟩, trivial⟩⟩⟩⟩⟩⟩⟩⟩, ⟨⟨⟨trivial, trivial⟩, ⟨⟨trivial, trivial⟩, ⟨⟨trivial, trivial⟩, ⟨h6, ⟨h6, ⟨h6, ⟨h6, ⟨⟨h6, ⟨trivial, trivial⟩⟩, ⟨⟨trivial, trivial⟩, ⟨trivial, ⟨trivial, ⟨trivial, ⟨⟨trivial, ⟨trivial, trivial⟩⟩, ⟨⟨trivial, trivial⟩, ⟨trivial, ⟨trivial, ⟨trivial, ⟨trivial, ⟨trivial, ⟨trivial, ⟨trivial, ⟨trivial, ⟨trivial, ⟨trivial, ⟨trivial, ⟨trivial, ⟨trivial, ⟨trivial, ⟨⟨trivial, ⟨trivial, trivial⟩⟩, trivial⟩⟩⟩⟩⟩⟩⟩⟩⟩⟩⟩⟩⟩⟩⟩⟩⟩⟩⟩⟩⟩⟩⟩⟩⟩⟩⟩⟩⟩, ⟨trivial, ⟨⟨trivial, trivial⟩, trivial⟩⟩⟩⟩⟩⟩, trivial⟩, ⟨trivial, trivial⟩⟩ hP
theorem vbr_1 (q : QK) (h1 : (0 ≤ iN q.a)) (h2 : ((gL q.g)[(iN q.a).toNat]? = some (AV.lst (List.map (AV.int IntKind.i64) q.r)))) (h3 : (decide (iN q.i < iN (List.map (AV.int IntKind.i64) q.r).length) = true)) (h4 : (0 ≤ iN q.i)) (h5 : ((List.map (AV.int IntKind.i64) q.r)[(iN q.i).toNat]? = some (AV.int IntKind.i64 q.e))) (h6 : (decide (q.e < 0) = false)) (h7 : (decide (iN (gL q.g).length ≤ q.e) = true)) {post : Exit → St → Prop} (hP : Pass post (Fin Try.prog Try.f40 0 [] (AV.bool false))) : ∃ o' st' q', go2 Try.prog ({ dec := [(21, true), (33, false), (39, true)], els := e40 q, calls := cV q, unroll := false } : HT) 0 4000 (loopC (loopC (bodyOf Try.f40) 0) 0) (loopK (loopC (bodyOf Try.f40) 0) 0) (lb40 q) = some (o', st', q') ∧ q' ∧ Go.AX.Rest Try.prog 0 post st' o' :=
  endT_spec (σ := []) (fz := []) (show endT Try.prog Try.f40 0 [] [] (go2 Try.prog ({ dec := [(21, true), (33, false), (39, true)], els := e40 q, calls := cV q, unroll := false } : HT) 0 4000 (loopC (loopC (bodyOf Try.f40) 0) 0) (loopK (loopC (bodyOf Try.f40) 0) 0) (lb40 q)) = some ([], AV.bool false, (((((True ∧ True) ∧ ((True ∧ True) ∧ ((True ∧ True) ∧ ((True ∧ (True ∧ ((type_of% h1) ∧ (type_of% h2)))) ∧ ((True ∧ True) ∧ ((True ∧ True) ∧ ((True ∧ (True ∧ True)) ∧ True))))))) ∧ ((type_of% h3) ∧ (((True ∧ True) ∧ ((True ∧ True) ∧ ((True ∧ (True ∧ ((type_of% h1) ∧ (type_of% h2)))) ∧ ((True ∧ True) ∧ ((True ∧ True) ∧ ((True ∧ (True ∧ ((type_of% h4) ∧ (type_of% h5)))) ∧ ((True ∧ True) ∧ ((True ∧ True) ∧ True)))))))) ∧ (((True ∧ True) ∧ ((True ∧ True) ∧ ((True ∧ True) ∧ (((type_of% h6) ∧ (True ∧ True)) ∧ (((type_of% h6) ∧ (True ∧ True)) ∧ (((type_of% h6) ∧ (True ∧ True)) ∧ (((type_of% h6) ∧ (True ∧ (True ∧ True))) ∧ (((type_of% h6) ∧ (True ∧ True)) ∧ ((True ∧ True) ∧ ((type_of% h7) ∧ ((type_of% h7) ∧ ((type_of% h7) ∧ (((type_of% h7) ∧ (True ∧ True)) ∧ ((True ∧ True) ∧ (True ∧ (True ∧ (True ∧ (True ∧ (True ∧ (True ∧ (True ∧ (True ∧ (True ∧ (True ∧ (True ∧ (True ∧ (True ∧ (True ∧ ((True ∧ (True ∧ True)) ∧ True))))))))))))))))))))))))))))) ∧ (True ∧ ((True ∧ True) ∧ True)))))) ∧ True) ∧ (True ∧ True))) by kernel_rfl) ⟨⟨⟨⟨⟨trivial, trivial⟩, ⟨⟨trivial, trivial⟩, ⟨⟨trivial, trivial⟩, ⟨⟨trivial, ⟨trivial, ⟨h1, h2⟩⟩⟩, ⟨⟨trivial, trivial⟩, ⟨⟨trivial, trivial⟩, ⟨⟨trivial, ⟨trivial, trivial⟩⟩, trivial⟩⟩⟩⟩⟩⟩⟩, ⟨h3, ⟨⟨⟨trivial, trivial⟩, ⟨⟨trivial, trivial⟩, ⟨⟨trivial, ⟨trivial, ⟨h1, h2⟩⟩⟩, ⟨⟨trivial, trivial⟩, ⟨⟨trivial, trivial⟩, ⟨⟨trivial, ⟨trivial, ⟨h4, h5⟩⟩⟩, ⟨⟨trivial, trivial⟩, ⟨⟨trivial, trivial⟩, trivial⟩⟩⟩⟩⟩⟩⟩⟩, ⟨⟨⟨trivial, trivial⟩, ⟨⟨trivial, trivial⟩, ⟨⟨trivial, trivial⟩, ⟨⟨h6, ⟨trivial, trivial⟩⟩, ⟨⟨h6, ⟨trivial, trivial⟩⟩, ⟨⟨h6, ⟨trivial, trivial⟩⟩, ⟨⟨h6, ⟨trivial, ⟨trivial, trivial⟩⟩⟩, ⟨⟨h6, ⟨trivial, trivial⟩⟩, ⟨⟨trivial, trivial⟩, ⟨h7, ⟨h7, ⟨h7, ⟨⟨h7, ⟨trivial, trivial⟩⟩, ⟨⟨trivial, trivial⟩, ⟨trivial, ⟨trivial, ⟨trivial, ⟨trivial, ⟨trivial, ⟨trivial, ⟨trivial, ⟨trivial, ⟨trivial, ⟨trivial, ⟨trivial, ⟨trivial, ⟨trivial, ⟨trivial, ⟨⟨trivial, ⟨trivial, trivial⟩⟩, trivial⟩⟩⟩⟩⟩⟩⟩⟩⟩⟩⟩⟩⟩⟩⟩⟩⟩⟩⟩⟩⟩⟩⟩⟩⟩⟩⟩⟩⟩, ⟨trivial, ⟨⟨trivial, trivial⟩, trivial⟩⟩⟩⟩⟩⟩, trivial⟩, ⟨trivial, trivial⟩⟩ hP
theorem vbr_2 (q : QK) (h1 : (0 ≤ iN q.a)) (h2 : ((gL q.g)[(iN q.a).toNat]? = some (AV.lst (List.map (AV.int IntKind.i64) q.r)))) (h3 : (decide (iN q.i < iN (List.map (AV.int IntKind.i64) q.r).length) = true)) (h4 : (0 ≤ iN q.i)) (h5 : ((List.map (AV.int IntKind.i64) q.r)[(iN q.i).toNat]? = some (AV.int IntKind.i64 q.e))) (h6 : (decide (q.e < 0) = false)) (h7 : (decide (iN (gL q.g).length ≤ q.e) = false)) (h8 : ((q.e == iN q.a) = true)) {post : Exit → St → Prop} (hP : Pass post (Fin Try.prog Try.f40 0 [] (AV.bool false))) : ∃ o' st' q', go2 Try.prog ({ dec := [(21, true), (33, false), (39, false), (44, true)], els := e40 q, calls := cV q, unroll := false } : HT) 0 4000 (loopC (loopC (bodyOf Try.f40) 0) 0) (loopK (loopC (bodyOf Try.f40) 0) 0) (lb40 q) = some (o', st', q') ∧ q' ∧ Go.AX.Rest Try.prog 0 post st' o' :=
  endT_spec (σ := []) (fz := []) (show endT Try.prog Try.f40 0 [] [] (go2 Try.prog ({ dec := [(21, true), (33, false), (39, false), (44, true)], els := e40 q, calls := cV q, unroll := false } : HT) 0 4000 (loopC (loopC (bodyOf Try.f40) 0) 0) (loopK (loopC (bodyOf Try.f40) 0) 0) (lb40 q)) = some ([], AV.bool false, (((((True ∧ True) ∧ ((True ∧ True) ∧ ((True ∧ True) ∧ ((True ∧ (True ∧ ((type_of% h1) ∧ (type_of% h2)))) ∧ ((True ∧ True) ∧ ((True ∧ True) ∧ ((True ∧ (True ∧ True)) ∧ True))))))) ∧ ((type_of% h3) ∧ (((True ∧ True) ∧ ((True ∧ True) ∧ ((True ∧ (True ∧ ((type_of% h1) ∧ (type_of% h2)))) ∧ ((True ∧ True) ∧ ((True ∧ True) ∧ ((True ∧ (True ∧ ((type_of% h4) ∧ (type_of% h5)))) ∧ ((True ∧ True) ∧ ((True ∧ True) ∧ True)))))))) ∧ (((True ∧ True) ∧ ((True ∧ True) ∧ ((True ∧ True) ∧ (((type_of% h6) ∧ (True ∧ True)) ∧ (((type_of% h6) ∧ (True ∧ True)) ∧ (((type_of% h6) ∧ (True ∧ True)) ∧ (((type_of% h6) ∧ (True ∧ (True ∧ True))) ∧ (((type_of% h6) ∧ (True ∧ True)) ∧ ((True ∧ True) ∧ (((type_of% h7) ∧ (True ∧ True)) ∧ (((type_of% h7) ∧ (True ∧ True)) ∧ (((type_of% h7) ∧ (True ∧ (True ∧ True))) ∧ (((type_of% h7) ∧ (True ∧ True)) ∧ ((True ∧ True) ∧ ((type_of% h8) ∧ ((type_of% h8) ∧ ((type_of% h8) ∧ (True ∧ (True ∧ (True ∧ (True ∧ (True ∧ (True ∧ (True ∧ (True ∧ (True ∧ (True ∧ ((type_of% h8) ∧ (((type_of% h8) ∧ (True ∧ True)) ∧ True))))))))))))))))))))))))))))) ∧ (True ∧ ((True ∧ True) ∧ True)))))) ∧ True) ∧ (True ∧ True))) by kernel_rfl) ⟨⟨⟨⟨⟨trivial, trivial⟩, ⟨⟨trivial, trivial⟩, ⟨⟨trivial, trivial⟩, ⟨⟨trivial, ⟨trivial, ⟨h1, h2⟩⟩⟩, ⟨⟨trivial, trivial⟩, ⟨⟨trivial, trivial⟩, ⟨⟨trivial, ⟨trivial, trivial⟩⟩, trivial⟩⟩⟩⟩⟩⟩⟩, ⟨h3, ⟨⟨⟨trivial, trivial⟩, ⟨⟨trivial, trivial⟩, ⟨⟨trivial, ⟨trivial, ⟨h1, h2⟩⟩⟩, ⟨⟨trivial, trivial⟩, ⟨⟨trivial, trivial⟩, ⟨⟨trivial, ⟨trivial, ⟨h4, h5⟩⟩⟩, ⟨⟨trivial, trivial⟩, ⟨⟨trivial, trivial⟩, trivial⟩⟩⟩⟩⟩⟩⟩⟩, ⟨⟨⟨trivial, trivial⟩, ⟨⟨trivial, trivial⟩, ⟨⟨trivial, trivial⟩, ⟨⟨h6, ⟨trivial, trivial⟩⟩, ⟨⟨h6, ⟨trivial, trivial⟩⟩, ⟨⟨h6, ⟨trivial, trivial⟩⟩, ⟨⟨h6, ⟨trivial, ⟨trivial, trivial⟩⟩⟩, ⟨⟨h6, ⟨trivial, trivial⟩⟩, ⟨⟨trivial, trivial⟩, ⟨⟨h7, ⟨trivial, trivial⟩⟩, ⟨⟨h7, ⟨trivial, trivial⟩⟩, ⟨⟨h7, ⟨trivial, ⟨trivial, trivial⟩⟩⟩, ⟨⟨h7, ⟨trivial, trivial⟩⟩, ⟨⟨trivial, trivial⟩, ⟨h8, ⟨h8, ⟨h8, ⟨trivial, ⟨trivial, ⟨trivial, ⟨trivial, ⟨trivial, ⟨trivial, ⟨trivial, ⟨trivial, ⟨trivial, ⟨trivial, ⟨h8, ⟨⟨h8, ⟨trivial, trivial⟩⟩, trivial⟩⟩⟩⟩⟩⟩⟩⟩⟩⟩⟩⟩⟩⟩⟩⟩⟩⟩⟩⟩⟩⟩⟩⟩⟩⟩⟩⟩⟩, ⟨trivial, ⟨⟨trivial, trivial⟩, trivial⟩⟩⟩⟩⟩⟩, trivial⟩, ⟨trivial, trivial⟩⟩ hP
theorem vbr_3 (q : QK) (h1 : (0 ≤ iN q.a)) (h2 : ((gL q.g)[(iN q.a).toNat]? = some (AV.lst (List.map (AV.int IntKind.i64) q.r)))) (h3 : (decide (iN q.i < iN (List.map (AV.int IntKind.i64) q.r).length) = true)) (h4 : (0 ≤ iN q.i)) (h5 : ((List.map (AV.int IntKind.i64) q.r)[(iN q.i).toNat]? = some (AV.int IntKind.i64 q.e))) (h6 : (decide (q.e < 0) = false)) (h7 : (decide (iN (gL q.g).length ≤ q.e) = false)) (h8 : ((q.e == iN q.a) = false)) (h9 : (decide (0 < iN q.i) = true)) (h10 : (0 ≤ IntKind.i64.wrap (iN q.i - 1))) (h11 : ((List.map (AV.int IntKind.i64) q.r)[(IntKind.i64.wrap (iN q.i - 1)).toNat]? = some (AV.int IntKind.i64 (q.p.getD 0 0)))) (h12 : (decide (q.e ≤ q.p.getD 0 0) = true)) {post : Exit → St → Prop} (hP : Pass post (Fin Try.prog Try.f40 0 [] (AV.bool false))) : ∃ o' st' q', go2 Try.prog ({ dec := [(21, true), (33, false), (39, false), (44, false), (47, true), (59, true)], els := e40 q, calls := cV q, unroll := false } : HT) 0 4000 (loopC (loopC (bodyOf Try.f40) 0) 0) (loopK (loopC (bodyOf Try.f40) 0) 0) (lb40 q) = some (o', st', q') ∧ q' ∧ Go.AX.Rest Try.prog 0 post st' o' :=
  endT_spec (σ := []) (fz := []) (show endT Try.prog Try.f40 0 [] [] (go2 Try.prog ({ dec := [(21, true), (33, false), (39, false), (44, false), (47, true), (59, true)], els := e40 q, calls := cV q, unroll := false } : HT) 0 4000 (loopC (loopC (bodyOf Try.f40) 0) 0) (loopK (loopC (bodyOf Try.f40) 0) 0) (lb40 q)) = some ([], AV.bool false, (((((True ∧ True) ∧ ((True ∧ True) ∧ ((True ∧ True) ∧ ((True ∧ (True ∧ ((type_of% h1) ∧ (type_of% h2)))) ∧ ((True ∧ True) ∧ ((True ∧ True) ∧ ((True ∧ (True ∧ True)) ∧ True))))))) ∧ ((type_of% h3) ∧ (((True ∧ True) ∧ ((True ∧ True) ∧ ((True ∧ (True ∧ ((type_of% h1) ∧ (type_of% h2)))) ∧ ((True ∧ True) ∧ ((True ∧ True) ∧ ((True ∧ (True ∧ ((type_of% h4) ∧ (type_of% h5)))) ∧ ((True ∧ True) ∧ ((True ∧ True) ∧ True)))))))) ∧ (((True ∧ True) ∧ ((True ∧ True) ∧ ((True ∧ True) ∧ (((type_of% h6) ∧ (True ∧ True)) ∧ (((type_of% h6) ∧ (True ∧ True)) ∧ (((type_of% h6) ∧ (True ∧ True)) ∧ (((type_of% h6) ∧ (True ∧ (True ∧ True))) ∧ (((type_of% h6) ∧ (True ∧ True)) ∧ ((True ∧ True) ∧ (((type_of% h7) ∧ (True ∧ True)) ∧ (((type_of% h7) ∧ (True ∧ True)) ∧ (((type_of% h7) ∧ (True ∧ (True ∧ True))) ∧ (((type_of% h7) ∧ (True ∧ True)) ∧ ((True ∧ True) ∧ (((type_of% h8) ∧ (True ∧ True)) ∧ (((type_of% h8) ∧ (True ∧ True)) ∧ (((type_of% h8) ∧ (True ∧ True)) ∧ (((type_of% h9) ∧ (True ∧ True)) ∧ (((type_of% h9) ∧ (True ∧ True)) ∧ (((type_of% h9) ∧ (True ∧ True)) ∧ (((type_of% h9) ∧ (True ∧ (True ∧ ((type_of% h1) ∧ (type_of% h2))))) ∧ (((type_of% h9) ∧ (True ∧ True)) ∧ (((type_of% h9) ∧ (True ∧ True)) ∧ (((type_of% h9) ∧ (True ∧ True)) ∧ (((type_of% h9) ∧ (True ∧ (True ∧ ((type_of% h10) ∧ (type_of% h11))))) ∧ (((type_of% h9) ∧ (True ∧ True)) ∧ (((type_of% h9) ∧ (True ∧ (True ∧ True))) ∧ (((type_of% h8) ∧ ((type_of% h9) ∧ (True ∧ True))) ∧ (((type_of% h8) ∧ (True ∧ True)) ∧ True))))))))))))))))))))))))))))) ∧ ((type_of% h12) ∧ ((True ∧ True) ∧ True)))))) ∧ True) ∧ (True ∧ True))) by kernel_rfl) ⟨⟨⟨⟨⟨trivial, trivial⟩, ⟨⟨trivial, trivial⟩, ⟨⟨trivial, trivial⟩, ⟨⟨trivial, ⟨trivial, ⟨h1, h2⟩⟩⟩, ⟨⟨trivial, trivial⟩, ⟨⟨trivial, trivial⟩, ⟨⟨trivial, ⟨trivial, trivial⟩⟩, trivial⟩⟩⟩⟩⟩⟩⟩, ⟨h3, ⟨⟨⟨trivial, trivial⟩, ⟨⟨trivial, trivial⟩, ⟨⟨trivial, ⟨trivial, ⟨h1, h2⟩⟩⟩, ⟨⟨trivial, trivial⟩, ⟨⟨trivial, trivial⟩, ⟨⟨trivial, ⟨trivial, ⟨h4, h5⟩⟩⟩, ⟨⟨trivial, trivial⟩, ⟨⟨trivial, trivial⟩, trivial⟩⟩⟩⟩⟩⟩⟩⟩, ⟨⟨⟨trivial, trivial⟩, ⟨⟨trivial, trivial⟩, ⟨⟨trivial, trivial⟩, ⟨⟨h6, ⟨trivial, trivial⟩⟩, ⟨⟨h6, ⟨trivial, trivial⟩⟩, ⟨⟨h6, ⟨trivial, trivial⟩⟩, ⟨⟨h6, ⟨trivial, ⟨trivial, trivial⟩⟩⟩, ⟨⟨h6, ⟨trivial, trivial⟩⟩, ⟨⟨trivial, trivial⟩, ⟨⟨h7, ⟨trivial, trivial⟩⟩, ⟨⟨h7, ⟨trivial, trivial⟩⟩, ⟨⟨h7, ⟨trivial, ⟨trivial, trivial⟩⟩⟩, ⟨⟨h7, ⟨trivial, trivial⟩⟩, ⟨⟨trivial, trivial⟩, ⟨⟨h8, ⟨trivial, trivial⟩⟩, ⟨⟨h8, ⟨trivial, trivial⟩⟩, ⟨⟨h8, ⟨trivial, trivial⟩⟩, ⟨⟨h9, ⟨trivial, trivial⟩⟩, ⟨⟨h9, ⟨trivial, trivial⟩⟩, ⟨⟨h9, ⟨trivial, trivial⟩⟩, ⟨⟨h9, ⟨trivial, ⟨trivial, ⟨h1, h2⟩⟩⟩⟩, ⟨⟨h9, ⟨trivial, trivial⟩⟩, ⟨⟨h9, ⟨trivial, trivial⟩⟩, ⟨⟨h9, ⟨trivial, trivial⟩⟩, ⟨⟨h9, ⟨trivial, ⟨trivial, ⟨h10, h11⟩⟩⟩⟩, ⟨⟨h9, ⟨trivial, trivial⟩⟩, ⟨⟨h9, ⟨trivial, ⟨trivial, trivial⟩⟩⟩, ⟨⟨h8, ⟨h9, ⟨trivial, trivial⟩⟩⟩, ⟨⟨h8, ⟨trivial, trivial⟩⟩, trivial⟩⟩⟩⟩⟩⟩⟩⟩⟩⟩⟩⟩⟩⟩⟩⟩⟩⟩⟩⟩⟩⟩⟩⟩⟩⟩⟩⟩⟩, ⟨h12, ⟨⟨trivial, trivial⟩, trivial⟩⟩⟩⟩⟩⟩, trivial⟩, ⟨trivial, trivial⟩⟩ hP
theorem vbr_4 (q : QK) (h1 : (0 ≤ iN q.a)) (h2 : ((gL q.g)[(iN q.a).toNat]? = some (AV.lst (List.map (AV.int IntKind.i64) q.r)))) (h3 : (decide (iN q.i < iN (List.map (AV.int IntKind.i64) q.r).length) = true)) (h4 : (0 ≤ iN q.i)) (h5 : ((List.map (AV.int IntKind.i64) q.r)[(iN q.i).toNat]? = some (AV.int IntKind.i64 q.e))) (h6 : (decide (q.e < 0) = false)) (h7 : (decide (iN (gL q.g).length ≤ q.e) = false)) (h8 : ((q.e == iN q.a) = false)) (h9 : (decide (0 < iN q.i) = true)) (h10 : (0 ≤ IntKind.i64.wrap (iN q.i - 1))) (h11 : ((List.map (AV.int IntKind.i64) q.r)[(IntKind.i64.wrap (iN q.i - 1)).toNat]? = some (AV.int IntKind.i64 (q.p.getD 0 0)))) (h12 : (decide (q.e ≤ q.p.getD 0 0) = false)) {post : Exit → St → Prop} {R : St → Prop} (hR : ∀ st, Ren 0 st (St.mk 60 [(0, AV.lst (gL q.g)), (3, AV.int IntKind.i64 (iN q.a)), (4, AV.int IntKind.i64 (IntKind.i64.wrap (iN q.i + 1)))] []) → R st) : ∃ o' st' q', go Try.prog ({ dec := [(21, true), (33, false), (39, false), (44, false), (47, true), (59, false)], els := e40 q, calls := cV q, unroll := false } : HT) 0 4000 (.inl (loopC (loopC (bodyOf Try.f40) 0) 0)) [] (lb40 q) = some (o', st', q') ∧ q' ∧ Go.AX.Rest Try.prog 0 (andThen R post) st' o' :=
  endN_spec (σ := []) (fz := []) (vars := [0,3,4]) (show endN 0 [] [] [0,3,4] (go Try.prog ({ dec := [(21, true), (33, false), (39, false), (44, false), (47, true), (59, false)], els := e40 q, calls := cV q, unroll := false } : HT) 0 4000 (.inl (loopC (loopC (bodyOf Try.f40) 0) 0)) [] (lb40 q)) = some (St.mk 60 [(0, AV.lst (gL q.g)), (3, AV.int IntKind.i64 (iN q.a)), (4, AV.int IntKind.i64 (IntKind.i64.wrap (iN q.i + 1)))] [], ((((True ∧ True) ∧ ((True ∧ True) ∧ ((True ∧ True) ∧ ((True ∧ (True ∧ ((type_of% h1) ∧ (type_of% h2)))) ∧ ((True ∧ True) ∧ ((True ∧ True) ∧ ((True ∧ (True ∧ True)) ∧ True))))))) ∧ ((type_of% h3) ∧ (((True ∧ True) ∧ ((True ∧ True) ∧ ((True ∧ (True ∧ ((type_of% h1) ∧ (type_of% h2)))) ∧ ((True ∧ True) ∧ ((True ∧ True) ∧ ((True ∧ (True ∧ ((type_of% h4) ∧ (type_of% h5)))) ∧ ((True ∧ True) ∧ ((True ∧ True) ∧ True)))))))) ∧ (((True ∧ True) ∧ ((True ∧ True) ∧ ((True ∧ True) ∧ (((type_of% h6) ∧ (True ∧ True)) ∧ (((type_of% h6) ∧ (True ∧ True)) ∧ (((type_of% h6) ∧ (True ∧ True)) ∧ (((type_of% h6) ∧ (True ∧ (True ∧ True))) ∧ (((type_of% h6) ∧ (True ∧ True)) ∧ ((True ∧ True) ∧ (((type_of% h7) ∧ (True ∧ True)) ∧ (((type_of% h7) ∧ (True ∧ True)) ∧ (((type_of% h7) ∧ (True ∧ (True ∧ True))) ∧ (((type_of% h7) ∧ (True ∧ True)) ∧ ((True ∧ True) ∧ (((type_of% h8) ∧ (True ∧ True)) ∧ (((type_of% h8) ∧ (True ∧ True)) ∧ (((type_of% h8) ∧ (True ∧ True)) ∧ (((type_of% h9) ∧ (True ∧ True)) ∧ (((type_of% h9) ∧ (True ∧ True)) ∧ (((type_of% h9) ∧ (True ∧ True)) ∧ (((type_of% h9) ∧ (True ∧ (True ∧ ((type_of% h1) ∧ (type_of% h2))))) ∧ (((type_of% h9) ∧ (True ∧ True)) ∧ (((type_of% h9) ∧ (True ∧ True)) ∧ (((type_of% h9) ∧ (True ∧ True)) ∧ (((type_of% h9) ∧ (True ∧ (True ∧ ((type_of% h10) ∧ (type_of% h11))))) ∧ (((type_of% h9) ∧ (True ∧ True)) ∧ (((type_of% h9) ∧ (True ∧ (True ∧ True))) ∧ (((type_of% h8) ∧ ((type_of% h9) ∧ (True ∧ True))) ∧ (((type_of% h8) ∧ (True ∧ True)) ∧ True))))))))))))))))))))))))))))) ∧ ((type_of% h12) ∧ (((True ∧ True) ∧ ((True ∧ True) ∧ ((True ∧ True) ∧ True))) ∧ True)))))) ∧ (True ∧ (True ∧ (True ∧ True))))) by kernel_rfl) ⟨⟨⟨⟨trivial, trivial⟩, ⟨⟨trivial, trivial⟩, ⟨⟨trivial, trivial⟩, ⟨⟨trivial, ⟨trivial, ⟨h1, h2⟩⟩⟩, ⟨⟨trivial, trivial⟩, ⟨⟨trivial, trivial⟩, ⟨⟨trivial, ⟨trivial, trivial⟩⟩, trivial⟩⟩⟩⟩⟩⟩⟩, ⟨h3, ⟨⟨⟨trivial, trivial⟩, ⟨⟨trivial, trivial⟩, ⟨⟨trivial, ⟨trivial, ⟨h1, h2⟩⟩⟩, ⟨⟨trivial, trivial⟩, ⟨⟨trivial, trivial⟩, ⟨⟨trivial, ⟨trivial, ⟨h4, h5⟩⟩⟩, ⟨⟨trivial, trivial⟩, ⟨⟨trivial, trivial⟩, trivial⟩⟩⟩⟩⟩⟩⟩⟩, ⟨⟨⟨trivial, trivial⟩, ⟨⟨trivial, trivial⟩, ⟨⟨trivial, trivial⟩, ⟨⟨h6, ⟨trivial, trivial⟩⟩, ⟨⟨h6, ⟨trivial, trivial⟩⟩, ⟨⟨h6, ⟨trivial, trivial⟩⟩, ⟨⟨h6, ⟨trivial, ⟨trivial, trivial⟩⟩⟩, ⟨⟨h6, ⟨trivial, trivial⟩⟩, ⟨⟨trivial, trivial⟩, ⟨⟨h7, ⟨trivial, trivial⟩⟩, ⟨⟨h7, ⟨trivial, trivial⟩⟩, ⟨⟨h7, ⟨trivial, ⟨trivial, trivial⟩⟩⟩, ⟨⟨h7, ⟨trivial, trivial⟩⟩, ⟨⟨trivial, trivial⟩, ⟨⟨h8, ⟨trivial, trivial⟩⟩, ⟨⟨h8, ⟨trivial, trivial⟩⟩, ⟨⟨h8, ⟨trivial, trivial⟩⟩, ⟨⟨h9, ⟨trivial, trivial⟩⟩, ⟨⟨h9, ⟨trivial, trivial⟩⟩, ⟨⟨h9, ⟨trivial, trivial⟩⟩, ⟨⟨h9, ⟨trivial, ⟨trivial, ⟨h1, h2⟩⟩⟩⟩, ⟨⟨h9, ⟨trivial, trivial⟩⟩, ⟨⟨h9, ⟨trivial, trivial⟩⟩, ⟨⟨h9, ⟨trivial, trivial⟩⟩, ⟨⟨h9, ⟨trivial, ⟨trivial, ⟨h10, h11⟩⟩⟩⟩, ⟨⟨h9, ⟨trivial, trivial⟩⟩, ⟨⟨h9, ⟨trivial, ⟨trivial, trivial⟩⟩⟩, ⟨⟨h8, ⟨h9, ⟨trivial, trivial⟩⟩⟩, ⟨⟨h8, ⟨trivial, trivial⟩⟩, trivial⟩⟩⟩⟩⟩⟩⟩⟩⟩⟩⟩⟩⟩⟩⟩⟩⟩⟩⟩⟩⟩⟩⟩⟩⟩⟩⟩⟩⟩, ⟨h12, ⟨⟨⟨trivial, trivial⟩, ⟨⟨trivial, trivial⟩, ⟨⟨trivial, trivial⟩, trivial⟩⟩⟩, trivial⟩⟩⟩⟩⟩⟩, ⟨trivial, ⟨trivial, ⟨trivial, trivial⟩⟩⟩⟩ hR
theorem vbr_5 (q : QK) (h1 : (0 ≤ iN q.a)) (h2 : ((gL q.g)[(iN q.a).toNat]? = some (AV.lst (List.map (AV.int IntKind.i64) q.r)))) (h3 : (decide (iN q.i < iN (List.map (AV.int IntKind.i64) q.r).length) = true)) (h4 : (0 ≤ iN q.i)) (h5 : ((List.map (AV.int IntKind.i64) q.r)[(iN q.i).toNat]? = some (AV.int IntKind.i64 q.e))) (h6 : (decide (q.e < 0) = false)) (h7 : (decide (iN (gL q.g).length ≤ q.e) = false)) (h8 : ((q.e == iN q.a) = false)) (h9 : (decide (0 < iN q.i) = false)) {post : Exit → St → Prop} {R : St → Prop} (hR : ∀ st, Ren 0 st (St.mk 60 [(0, AV.lst (gL q.g)), (3, AV.int IntKind.i64 (iN q.a)), (4, AV.int IntKind.i64 (IntKind.i64.wrap (iN q.i + 1)))] []) → R st) : ∃ o' st' q', go Try.prog ({ dec := [(21, true), (33, false), (39, false), (44, false), (47, false)], els := e40 q, calls := cV q, unroll := false } : HT) 0 4000 (.inl (loopC (loopC (bodyOf Try.f40) 0) 0)) [] (lb40 q) = some (o', st', q') ∧ q' ∧ Go.AX.Rest Try.prog 0 (andThen R post) st' o' :=
  endN_spec (σ := []) (fz := []) (vars := [0,3,4]) (show endN 0 [] [] [0,3,4] (go Try.prog ({ dec := [(21, true), (33, false), (39, false), (44, false), (47, false)], els := e40 q, calls := cV q, unroll := false } : HT) 0 4000 (.inl (loopC (loopC (bodyOf Try.f40) 0) 0)) [] (lb40 q)) = some (St.mk 60 [(0, AV.lst (gL q.g)), (3, AV.int IntKind.i64 (iN q.a)), (4, AV.int IntKind.i64 (IntKind.i64.wrap (iN q.i + 1)))] [], ((((True ∧ True) ∧ ((True ∧ True) ∧ ((True ∧ True) ∧ ((True ∧ (True ∧ ((type_of% h1) ∧ (type_of% h2)))) ∧ ((True ∧ True) ∧ ((True ∧ True) ∧ ((True ∧ (True ∧ True)) ∧ True))))))) ∧ ((type_of% h3) ∧ (((True ∧ True) ∧ ((True ∧ True) ∧ ((True ∧ (True ∧ ((type_of% h1) ∧ (type_of% h2)))) ∧ ((True ∧ True) ∧ ((True ∧ True) ∧ ((True ∧ (True ∧ ((type_of% h4) ∧ (type_of% h5)))) ∧ ((True ∧ True) ∧ ((True ∧ True) ∧ True)))))))) ∧ (((True ∧ True) ∧ ((True ∧ True) ∧ ((True ∧ True) ∧ (((type_of% h6) ∧ (True ∧ True)) ∧ (((type_of% h6) ∧ (True ∧ True)) ∧ (((type_of% h6) ∧ (True ∧ True)) ∧ (((type_of% h6) ∧ (True ∧ (True ∧ True))) ∧ (((type_of% h6) ∧ (True ∧ True)) ∧ ((True ∧ True) ∧ (((type_of% h7) ∧ (True ∧ True)) ∧ (((type_of% h7) ∧ (True ∧ True)) ∧ (((type_of% h7) ∧ (True ∧ (True ∧ True))) ∧ (((type_of% h7) ∧ (True ∧ True)) ∧ ((True ∧ True) ∧ (((type_of% h8) ∧ (True ∧ True)) ∧ (((type_of% h8) ∧ (True ∧ True)) ∧ (((type_of% h8) ∧ (True ∧ True)) ∧ ((type_of% h9) ∧ ((type_of% h9) ∧ ((type_of% h9) ∧ ((type_of% h9) ∧ ((type_of% h9) ∧ ((type_of% h9) ∧ ((type_of% h9) ∧ ((type_of% h9) ∧ ((type_of% h9) ∧ ((type_of% h9) ∧ (((type_of% h8) ∧ ((type_of% h9) ∧ (True ∧ True))) ∧ (((type_of% h8) ∧ (True ∧ True)) ∧ True))))))))))))))))))))))))))))) ∧ (True ∧ (((True ∧ True) ∧ ((True ∧ True) ∧ ((True ∧ True) ∧ True))) ∧ True)))))) ∧ (True ∧ (True ∧ (True ∧ True))))) by kernel_rfl) ⟨⟨⟨⟨trivial, trivial⟩, ⟨⟨trivial, trivial⟩, ⟨⟨trivial, trivial⟩, ⟨⟨trivial, ⟨trivial, ⟨h1, h2⟩⟩⟩, ⟨⟨trivial, trivial⟩, ⟨⟨trivial, trivial⟩, ⟨⟨trivial, ⟨trivial, trivial⟩⟩, trivial⟩⟩⟩⟩⟩⟩⟩, ⟨h3, ⟨⟨⟨trivial, trivial⟩, ⟨⟨trivial, trivial⟩, ⟨⟨trivial, ⟨trivial, ⟨h1, h2⟩⟩⟩, ⟨⟨trivial, trivial⟩, ⟨⟨trivial, trivial⟩, ⟨⟨trivial, ⟨trivial, ⟨h4, h5⟩⟩⟩, ⟨⟨trivial, trivial⟩, ⟨⟨trivial, trivial⟩, trivial⟩⟩⟩⟩⟩⟩⟩⟩, ⟨⟨⟨trivial, trivial⟩, ⟨⟨trivial, trivial⟩, ⟨⟨trivial, trivial⟩, ⟨⟨h6, ⟨trivial, trivial⟩⟩, ⟨⟨h6, ⟨trivial, trivial⟩⟩, ⟨⟨h6, ⟨trivial, trivial⟩⟩, ⟨⟨h6, ⟨trivial, ⟨trivial, trivial⟩⟩⟩, ⟨⟨h6, ⟨trivial, trivial⟩⟩, ⟨⟨trivial, trivial⟩, ⟨⟨h7, ⟨trivial, trivial⟩⟩, ⟨⟨h7, ⟨trivial, trivial⟩⟩, ⟨⟨h7, ⟨trivial, ⟨trivial, trivial⟩⟩⟩, ⟨⟨h7, ⟨trivial, trivial⟩⟩, ⟨⟨trivial, trivial⟩, ⟨⟨h8, ⟨trivial, trivial⟩⟩, ⟨⟨h8, ⟨trivial, trivial⟩⟩, ⟨⟨h8, ⟨trivial, trivial⟩⟩, ⟨h9, ⟨h9, ⟨h9, ⟨h9, ⟨h9, ⟨h9, ⟨h9, ⟨h9, ⟨h9, ⟨h9, ⟨⟨h8, ⟨h9, ⟨trivial, trivial⟩⟩⟩, ⟨⟨h8, ⟨trivial, trivial⟩⟩, trivial⟩⟩⟩⟩⟩⟩⟩⟩⟩⟩⟩⟩⟩⟩⟩⟩⟩⟩⟩⟩⟩⟩⟩⟩⟩⟩⟩⟩⟩, ⟨trivial, ⟨⟨⟨trivial, trivial⟩, ⟨⟨trivial, trivial⟩, ⟨⟨trivial, trivial⟩, trivial⟩⟩⟩, trivial⟩⟩⟩⟩⟩⟩, ⟨trivial, ⟨trivial, ⟨trivial, trivial⟩⟩⟩⟩ hR
theorem vc_0 (q : QK) (h1 : (CT Try.prog 40 [] [AV.lst (gL q.g)] [] (AV.bool q.b))) (h2 : ((!q.b) = true)) : ∃ o' st' q', go Try.prog ({ dec := [(7, true)], els := eK q, calls := cV q, unroll := false } : HT) 0 4000 (.inl (bodyOf Try.f35)) [] (st35 q) = some (o', st', q') ∧ q' ∧ Go.AX.Rest Try.prog 0 (Fin Try.prog Try.f35 0 [] (AV.int IntKind.i64 20)) st' o' :=
  endF_spec (σ := []) (fz := []) (show endF Try.prog Try.f35 0 [] [] (go Try.prog ({ dec := [(7, true)], els := eK q, calls := cV q, unroll := false } : HT) 0 4000 (.inl (bodyOf Try.f35)) [] (st35 q)) = some ([], AV.int IntKind.i64 20, (((True ∧ True) ∧ (((True ∧ True) ∧ ((True ∧ (True ∧ ((type_of% h1) ∧ True))) ∧ ((True ∧ True) ∧ True))) ∧ ((type_of% h2) ∧ ((True ∧ True) ∧ True)))) ∧ (True ∧ True))) by kernel_rfl) ⟨⟨⟨trivial, trivial⟩, ⟨⟨⟨trivial, trivial⟩, ⟨⟨trivial, ⟨trivial, ⟨h1, trivial⟩⟩⟩, ⟨⟨trivial, trivial⟩, trivial⟩⟩⟩, ⟨h2, ⟨⟨trivial, trivial⟩, trivial⟩⟩⟩⟩, ⟨trivial, trivial⟩⟩
theorem vc_1 (q : QK) (h1 : (CT Try.prog 40 [] [AV.lst (gL q.g)] [] (AV.bool q.b))) (h2 : ((!q.b) = false)) (h3 : ((iN (boL q.s).length != iN (gL q.g).length) = true)) : ∃ o' st' q', go Try.prog ({ dec := [(7, false), (12, true)], els := eK q, calls := cV q, unroll := false } : HT) 0 4000 (.inl (bodyOf Try.f35)) [] (st35 q) = some (o', st', q') ∧ q' ∧ Go.AX.Rest Try.prog 0 (Fin Try.prog Try.f35 0 [] (AV.int IntKind.i64 19)) st' o' :=
  endF_spec (σ := []) (fz := []) (show endF Try.prog Try.f35 0 [] [] (go Try.prog ({ dec := [(7, false), (12, true)], els := eK q, calls := cV q, unroll := false } : HT) 0 4000 (.inl (bodyOf Try.f35)) [] (st35 q)) = some ([], AV.int IntKind.i64 19, (((True ∧ True) ∧ (((True ∧ True) ∧ ((True ∧ (True ∧ ((type_of% h1) ∧ True))) ∧ ((True ∧ True) ∧ True))) ∧ ((type_of% h2) ∧ (((True ∧ True) ∧ ((True ∧ True) ∧ ((True ∧ True) ∧ ((True ∧ True) ∧ ((True ∧ (True ∧ True)) ∧ True))))) ∧ ((type_of% h3) ∧ ((True ∧ True) ∧ True)))))) ∧ (True ∧ True))) by kernel_rfl) ⟨⟨⟨trivial, trivial⟩, ⟨⟨⟨trivial, trivial⟩, ⟨⟨trivial, ⟨trivial, ⟨h1, trivial⟩⟩⟩, ⟨⟨trivial, trivial⟩, trivial⟩⟩⟩, ⟨h2, ⟨⟨⟨trivial, trivial⟩, ⟨⟨trivial, trivial⟩, ⟨⟨trivial, trivial⟩, ⟨⟨trivial, trivial⟩, ⟨⟨trivial, ⟨trivial, trivial⟩⟩, trivial⟩⟩⟩⟩⟩, ⟨h3, ⟨⟨trivial, trivial⟩, trivial⟩⟩⟩⟩⟩⟩, ⟨trivial, trivial⟩⟩
theorem vc_2 (q : QK) (h1 : (CT Try.prog 40 [] [AV.lst (gL q.g)] [] (AV.bool q.b))) (h2 : ((!q.b) = false)) (h3 : ((iN (boL q.s).length != iN (gL q.g).length) = false)) : ∃ o' st' q', go Try.prog ({ dec := [(7, false), (12, false)], els := eK q, calls := cV q, unroll := false } : HT) 0 4000 (.inl (bodyOf Try.f35)) [] (st35 q) = some (o', st', q') ∧ q' ∧ Go.AX.Rest Try.prog 0 (Fin Try.prog Try.f35 0 [] (AV.int IntKind.i64 0)) st' o' :=
  endF_spec (σ := []) (fz := []) (show endF Try.prog Try.f35 0 [] [] (go Try.prog ({ dec := [(7, false), (12, false)], els := eK q, calls := cV q, unroll := false } : HT) 0 4000 (.inl (bodyOf Try.f35)) [] (st35 q)) = some ([], AV.int IntKind.i64 0, (((True ∧ True) ∧ (((True ∧ True) ∧ ((True ∧ (True ∧ ((type_of% h1) ∧ True))) ∧ ((True ∧ True) ∧ True))) ∧ ((type_of% h2) ∧ (((True ∧ True) ∧ ((True ∧ True) ∧ ((True ∧ True) ∧ ((True ∧ True) ∧ ((True ∧ (True ∧ True)) ∧ True))))) ∧ ((type_of% h3) ∧ ((True ∧ True) ∧ True)))))) ∧ (True ∧ True))) by kernel_rfl) ⟨⟨⟨trivial, trivial⟩, ⟨⟨⟨trivial, trivial⟩, ⟨⟨trivial, ⟨trivial, ⟨h1, trivial⟩⟩⟩, ⟨⟨trivial, trivial⟩, trivial⟩⟩⟩, ⟨h2, ⟨⟨⟨trivial, trivial⟩, ⟨⟨trivial, trivial⟩, ⟨⟨trivial, trivial⟩, ⟨⟨trivial, trivial⟩, ⟨⟨trivial, ⟨trivial, trivial⟩⟩, trivial⟩⟩⟩⟩⟩, ⟨h3, ⟨⟨trivial, trivial⟩, trivial⟩⟩⟩⟩⟩⟩, ⟨trivial, trivial⟩⟩
theorem vd_0 (q : QK) (h1 : (CT Try.prog 35 [] [AV.lst (gL q.g), AV.lst (boL q.s)] [] (AV.int IntKind.i64 q.e))) (h2 : ((q.e != 0) = true)) : ∃ o' st' q', go Try.prog ({ dec := [(14, true)], els := eK q, calls := cV q, unroll := false } : HT) 0 4000 (.inl (bodyOf Try.f29)) [] (st29 q) = some (o', st', q') ∧ q' ∧ Go.AX.Rest Try.prog 0 (Fin Try.prog Try.f29 0 [] (AV.int IntKind.i64 q.e)) st' o' :=
  endF_spec (σ := []) (fz := []) (show endF Try.prog Try.f29 0 [] [] (go Try.prog ({ dec := [(14, true)], els := eK q, calls := cV q, unroll := false } : HT) 0 4000 (.inl (bodyOf Try.f29)) [] (st29 q)) = some ([], AV.int IntKind.i64 q.e, (((True ∧ True) ∧ (((True ∧ True) ∧ ((True ∧ True) ∧ ((True ∧ (True ∧ (True ∧ (True ∧ ((type_of% h1) ∧ True))))) ∧ ((True ∧ True) ∧ True)))) ∧ (((True ∧ True) ∧ ((True ∧ True) ∧ True)) ∧ ((type_of% h2) ∧ (((True ∧ True) ∧ ((True ∧ True) ∧ True)) ∧ True))))) ∧ (True ∧ True))) by kernel_rfl) ⟨⟨⟨trivial, trivial⟩, ⟨⟨⟨trivial, trivial⟩, ⟨⟨trivial, trivial⟩, ⟨⟨trivial, ⟨trivial, ⟨trivial, ⟨trivial, ⟨h1, trivial⟩⟩⟩⟩⟩, ⟨⟨trivial, trivial⟩, trivial⟩⟩⟩⟩, ⟨⟨⟨trivial, trivial⟩, ⟨⟨trivial, trivial⟩, trivial⟩⟩, ⟨h2, ⟨⟨⟨trivial, trivial⟩, ⟨⟨trivial, trivial⟩, trivial⟩⟩, trivial⟩⟩⟩⟩⟩, ⟨trivial, trivial⟩⟩
theorem vd_1 (q : QK) (h1 : (CT Try.prog 35 [] [AV.lst (gL q.g), AV.lst (boL q.s)] [] (AV.int IntKind.i64 q.e))) (h2 : ((q.e != 0) = false)) (h3 : (decide (q.x < 0) = true)) : ∃ o' st' q', go Try.prog ({ dec := [(14, false), (18, true)], els := eK q, calls := cV q, unroll := false } : HT) 0 4000 (.inl (bodyOf Try.f29)) [] (st29 q) = some (o', st', q') ∧ q' ∧ Go.AX.Rest Try.prog 0 (Fin Try.prog Try.f29 0 [] (AV.int IntKind.i64 19)) st' o' :=
  endF_spec (σ := []) (fz := []) (show endF Try.prog Try.f29 0 [] [] (go Try.prog ({ dec := [(14, false), (18, true)], els := eK q, calls := cV q, unroll := false } : HT) 0 4000 (.inl (bodyOf Try.f29)) [] (st29 q)) = some ([], AV.int IntKind.i64 19, (((True ∧ True) ∧ (((True ∧ True) ∧ ((True ∧ True) ∧ ((True ∧ (True ∧ (True ∧ (True ∧ ((type_of% h1) ∧ True))))) ∧ ((True ∧ True) ∧ True)))) ∧ (((True ∧ True) ∧ ((True ∧ True) ∧ True)) ∧ ((type_of% h2) ∧ (((True ∧ True) ∧ ((True ∧ True) ∧ ((True ∧ True) ∧ ((type_of% h3) ∧ ((type_of% h3) ∧ ((type_of% h3) ∧ ((type_of% h3) ∧ (((type_of% h3) ∧ (True ∧ True)) ∧ ((True ∧ True) ∧ (True ∧ (True ∧ ((True ∧ (True ∧ True)) ∧ ((True ∧ True) ∧ (True ∧ (True ∧ (True ∧ (True ∧ ((True ∧ (True ∧ True)) ∧ True)))))))))))))))))) ∧ (True ∧ ((True ∧ True) ∧ True))))))) ∧ (True ∧ True))) by kernel_rfl) ⟨⟨⟨trivial, trivial⟩, ⟨⟨⟨trivial, trivial⟩, ⟨⟨trivial, trivial⟩, ⟨⟨trivial, ⟨trivial, ⟨trivial, ⟨trivial, ⟨h1, trivial⟩⟩⟩⟩⟩, ⟨⟨trivial, trivial⟩, trivial⟩⟩⟩⟩, ⟨⟨⟨trivial, trivial⟩, ⟨⟨trivial, trivial⟩, trivial⟩⟩, ⟨h2, ⟨⟨⟨trivial, trivial⟩, ⟨⟨trivial, trivial⟩, ⟨⟨trivial, trivial⟩, ⟨h3, ⟨h3, ⟨h3, ⟨h3, ⟨⟨h3, ⟨trivial, trivial⟩⟩, ⟨⟨trivial, trivial⟩, ⟨trivial, ⟨trivial, ⟨⟨trivial, ⟨trivial, trivial⟩⟩, ⟨⟨trivial, trivial⟩, ⟨trivial, ⟨trivial, ⟨trivial, ⟨trivial, ⟨⟨trivial, ⟨trivial, trivial⟩⟩, trivial⟩⟩⟩⟩⟩⟩⟩⟩⟩⟩⟩⟩⟩⟩⟩⟩⟩⟩, ⟨trivial, ⟨⟨trivial, trivial⟩, trivial⟩⟩⟩⟩⟩⟩⟩, ⟨trivial, trivial⟩⟩
theorem vd_2 (q : QK) (h1 : (CT Try.prog 35 [] [AV.lst (gL q.g), AV.lst (boL q.s)] [] (AV.int IntKind.i64 q.e))) (h2 : ((q.e != 0) = false)) (h3 : (decide (q.x < 0) = false)) (h4 : (decide (iN (gL q.g).length ≤ q.x) = true)) : ∃ o' st' q', go Try.prog ({ dec := [(14, false), (18, false), (24, true)], els := eK q, calls := cV q, unroll := false } : HT) 0 4000 (.inl (bodyOf Try.f29)) [] (st29 q) = some (o', st', q') ∧ q' ∧ Go.AX.Rest Try.prog 0 (Fin Try.prog Try.f29 0 [] (AV.int IntKind.i64 19)) st' o' :=
  endF_spec (σ := []) (fz := []) (show endF Try.prog Try.f29 0 [] [] (go Try.prog ({ dec := [(14, false), (18, false), (24, true)], els := eK q, calls := cV q, unroll := false } : HT) 0 4000 (.inl (bodyOf Try.f29)) [] (st29 q)) = some ([], AV.int IntKind.i64 19, (((True ∧ True) ∧ (((True ∧ True) ∧ ((True ∧ True) ∧ ((True ∧ (True ∧ (True ∧ (True ∧ ((type_of% h1) ∧ True))))) ∧ ((True ∧ True) ∧ True)))) ∧ (((True ∧ True) ∧ ((True ∧ True) ∧ True)) ∧ ((type_of% h2) ∧ (((True ∧ True) ∧ ((True ∧ True) ∧ ((True ∧ True) ∧ (((type_of% h3) ∧ (True ∧ True)) ∧ (((type_of% h3) ∧ (True ∧ True)) ∧ (((type_of% h3) ∧ (True ∧ True)) ∧ (((type_of% h3) ∧ (True ∧ (True ∧ True))) ∧ (((type_of% h3) ∧ (True ∧ True)) ∧ ((True ∧ True) ∧ ((type_of% h4) ∧ ((type_of% h4) ∧ (((type_of% h4) ∧ (True ∧ True)) ∧ ((True ∧ True) ∧ (True ∧ (True ∧ (True ∧ (True ∧ ((True ∧ (True ∧ True)) ∧ True)))))))))))))))))) ∧ (True ∧ ((True ∧ True) ∧ True))))))) ∧ (True ∧ True))) by kernel_rfl) ⟨⟨⟨trivial, trivial⟩, ⟨⟨⟨trivial, trivial⟩, ⟨⟨trivial, trivial⟩, ⟨⟨trivial, ⟨trivial, ⟨trivial, ⟨trivial, ⟨h1, trivial⟩⟩⟩⟩⟩, ⟨⟨trivial, trivial⟩, trivial⟩⟩⟩⟩, ⟨⟨⟨trivial, trivial⟩, ⟨⟨trivial, trivial⟩, trivial⟩⟩, ⟨h2, ⟨⟨⟨trivial, trivial⟩, ⟨⟨trivial, trivial⟩, ⟨⟨trivial, trivial⟩, ⟨⟨h3, ⟨trivial, trivial⟩⟩, ⟨⟨h3, ⟨trivial, trivial⟩⟩, ⟨⟨h3, ⟨trivial, trivial⟩⟩, ⟨⟨h3, ⟨trivial, ⟨trivial, trivial⟩⟩⟩, ⟨⟨h3, ⟨trivial, trivial⟩⟩, ⟨⟨trivial, trivial⟩, ⟨h4, ⟨h4, ⟨⟨h4, ⟨trivial, trivial⟩⟩, ⟨⟨trivial, trivial⟩, ⟨trivial, ⟨trivial, ⟨trivial, ⟨trivial, ⟨⟨trivial, ⟨trivial, trivial⟩⟩, trivial⟩⟩⟩⟩⟩⟩⟩⟩⟩⟩⟩⟩⟩⟩⟩⟩⟩⟩, ⟨trivial, ⟨⟨trivial, trivial⟩, trivial⟩⟩⟩⟩⟩⟩⟩, ⟨trivial, trivial⟩⟩
theorem vd_3 (q : QK) (h1 : (CT Try.prog 35 [] [AV.lst (gL q.g), AV.lst (boL q.s)] [] (AV.int IntKind.i64 q.e))) (h2 : ((q.e != 0) = false)) (h3 : (decide (q.x < 0) = false)) (h4 : (decide (iN (gL q.g).length ≤ q.x) = false)) (h5 : (decide (q.y < 0) = true)) : ∃ o' st' q', go Try.prog ({ dec := [(14, false), (18, false), (24, false), (28, true)], els := eK q, calls := cV q, unroll := false } : HT) 0 4000 (.inl (bodyOf Try.f29)) [] (st29 q) = some (o', st', q') ∧ q' ∧ Go.AX.Rest Try.prog 0 (Fin Try.prog Try.f29 0 [] (AV.int IntKind.i64 19)) st' o' :=
  endF_spec (σ := []) (fz := []) (show endF Try.prog Try.f29 0 [] [] (go Try.prog ({ dec := [(14, false), (18, false), (24, false), (28, true)], els := eK q, calls := cV q, unroll := false } : HT) 0 4000 (.inl (bodyOf Try.f29)) [] (st29 q)) = some ([], AV.int IntKind.i64 19, (((True ∧ True) ∧ (((True ∧ True) ∧ ((True ∧ True) ∧ ((True ∧ (True ∧ (True ∧ (True ∧ ((type_of% h1) ∧ True))))) ∧ ((True ∧ True) ∧ True)))) ∧ (((True ∧ True) ∧ ((True ∧ True) ∧ True)) ∧ ((type_of% h2) ∧ (((True ∧ True) ∧ ((True ∧ True) ∧ ((True ∧ True) ∧ (((type_of% h3) ∧ (True ∧ True)) ∧ (((type_of% h3) ∧ (True ∧ True)) ∧ (((type_of% h3) ∧ (True ∧ True)) ∧ (((type_of% h3) ∧ (True ∧ (True ∧ True))) ∧ (((type_of% h3) ∧ (True ∧ True)) ∧ ((True ∧ True) ∧ (((type_of% h4) ∧ (True ∧ True)) ∧ (((type_of% h4) ∧ (True ∧ True)) ∧ (((type_of% h4) ∧ (True ∧ True)) ∧ ((True ∧ True) ∧ ((type_of% h5) ∧ ((type_of% h5) ∧ ((type_of% h5) ∧ ((type_of% h5) ∧ (((type_of% h5) ∧ (True ∧ True)) ∧ True)))))))))))))))))) ∧ (True ∧ ((True ∧ True) ∧ True))))))) ∧ (True ∧ True))) by kernel_rfl) ⟨⟨⟨trivial, trivial⟩, ⟨⟨⟨trivial, trivial⟩, ⟨⟨trivial, trivial⟩, ⟨⟨trivial, ⟨trivial, ⟨trivial, ⟨trivial, ⟨h1, trivial⟩⟩⟩⟩⟩, ⟨⟨trivial, trivial⟩, trivial⟩⟩⟩⟩, ⟨⟨⟨trivial, trivial⟩, ⟨⟨trivial, trivial⟩, trivial⟩⟩, ⟨h2, ⟨⟨⟨trivial, trivial⟩, ⟨⟨trivial, trivial⟩, ⟨⟨trivial, trivial⟩, ⟨⟨h3, ⟨trivial, trivial⟩⟩, ⟨⟨h3, ⟨trivial, trivial⟩⟩, ⟨⟨h3, ⟨trivial, trivial⟩⟩, ⟨⟨h3, ⟨trivial, ⟨trivial, trivial⟩⟩⟩, ⟨⟨h3, ⟨trivial, trivial⟩⟩, ⟨⟨trivial, trivial⟩, ⟨⟨h4, ⟨trivial, trivial⟩⟩, ⟨⟨h4, ⟨trivial, trivial⟩⟩, ⟨⟨h4, ⟨trivial, trivial⟩⟩, ⟨⟨trivial, trivial⟩, ⟨h5, ⟨h5, ⟨h5, ⟨h5, ⟨⟨h5, ⟨trivial, trivial⟩⟩, trivial⟩⟩⟩⟩⟩⟩⟩⟩⟩⟩⟩⟩⟩⟩⟩⟩⟩⟩, ⟨trivial, ⟨⟨trivial, trivial⟩, trivial⟩⟩⟩⟩⟩⟩⟩, ⟨trivial, trivial⟩⟩
theorem vd_4 (q : QK) (h1 : (CT Try.prog 35 [] [AV.lst (gL q.g), AV.lst (boL q.s)] [] (AV.int IntKind.i64 q.e))) (h2 : ((q.e != 0) = false)) (h3 : (decide (q.x < 0) = false)) (h4 : (decide (iN (gL q.g).length ≤ q.x) = false)) (h5 : (decide (q.y < 0) = false)) (h6 : (decide (iN (gL q.g).length ≤ q.y) = true)) : ∃ o' st' q', go Try.prog ({ dec := [(14, false), (18, false), (24, false), (28, false), (33, true)], els := eK q, calls := cV q, unroll := false } : HT) 0 4000 (.inl (bodyOf Try.f29)) [] (st29 q) = some (o', st', q') ∧ q' ∧ Go.AX.Rest Try.prog 0 (Fin Try.prog Try.f29 0 [] (AV.int IntKind.i64 19)) st' o' :=
  endF_spec (σ := []) (fz := []) (show endF Try.prog Try.f29 0 [] [] (go Try.prog ({ dec := [(14, false), (18, false), (24, false), (28, false), (33, true)], els := eK q, calls := cV q, unroll := false } : HT) 0 4000 (.inl (bodyOf Try.f29)) [] (st29 q)) = some ([], AV.int IntKind.i64 19, (((True ∧ True) ∧ (((True ∧ True) ∧ ((True ∧ True) ∧ ((True ∧ (True ∧ (True ∧ (True ∧ ((type_of% h1) ∧ True))))) ∧ ((True ∧ True) ∧ True)))) ∧ (((True ∧ True) ∧ ((True ∧ True) ∧ True)) ∧ ((type_of% h2) ∧ (((True ∧ True) ∧ ((True ∧ True) ∧ ((True ∧ True) ∧ (((type_of% h3) ∧ (True ∧ True)) ∧ (((type_of% h3) ∧ (True ∧ True)) ∧ (((type_of% h3) ∧ (True ∧ True)) ∧ (((type_of% h3) ∧ (True ∧ (True ∧ True))) ∧ (((type_of% h3) ∧ (True ∧ True)) ∧ ((True ∧ True) ∧ (((type_of% h4) ∧ (True ∧ True)) ∧ (((type_of% h4) ∧ (True ∧ True)) ∧ (((type_of% h4) ∧ (True ∧ True)) ∧ ((True ∧ True) ∧ (((type_of% h5) ∧ (True ∧ True)) ∧ (((type_of% h5) ∧ (True ∧ True)) ∧ (((type_of% h5) ∧ (True ∧ True)) ∧ (((type_of% h5) ∧ (True ∧ (True ∧ True))) ∧ (((type_of% h5) ∧ (True ∧ True)) ∧ True)))))))))))))))))) ∧ ((type_of% h6) ∧ ((True ∧ True) ∧ True))))))) ∧ (True ∧ True))) by kernel_rfl) ⟨⟨⟨trivial, trivial⟩, ⟨⟨⟨trivial, trivial⟩, ⟨⟨trivial, trivial⟩, ⟨⟨trivial, ⟨trivial, ⟨trivial, ⟨trivial, ⟨h1, trivial⟩⟩⟩⟩⟩, ⟨⟨trivial, trivial⟩, trivial⟩⟩⟩⟩, ⟨⟨⟨trivial, trivial⟩, ⟨⟨trivial, trivial⟩, trivial⟩⟩, ⟨h2, ⟨⟨⟨trivial, trivial⟩, ⟨⟨trivial, trivial⟩, ⟨⟨trivial, trivial⟩, ⟨⟨h3, ⟨trivial, trivial⟩⟩, ⟨⟨h3, ⟨trivial, trivial⟩⟩, ⟨⟨h3, ⟨trivial, trivial⟩⟩, ⟨⟨h3, ⟨trivial, ⟨trivial, trivial⟩⟩⟩, ⟨⟨h3, ⟨trivial, trivial⟩⟩, ⟨⟨trivial, trivial⟩, ⟨⟨h4, ⟨trivial, trivial⟩⟩, ⟨⟨h4, ⟨trivial, trivial⟩⟩, ⟨⟨h4, ⟨trivial, trivial⟩⟩, ⟨⟨trivial, trivial⟩, ⟨⟨h5, ⟨trivial, trivial⟩⟩, ⟨⟨h5, ⟨trivial, trivial⟩⟩, ⟨⟨h5, ⟨trivial, trivial⟩⟩, ⟨⟨h5, ⟨trivial, ⟨trivial, trivial⟩⟩⟩, ⟨⟨h5, ⟨trivial, trivial⟩⟩, trivial⟩⟩⟩⟩⟩⟩⟩⟩⟩⟩⟩⟩⟩⟩⟩⟩⟩⟩, ⟨h6, ⟨⟨trivial, trivial⟩, trivial⟩⟩⟩⟩⟩⟩⟩, ⟨trivial, trivial⟩⟩
theorem vd_5 (q : QK) (h1 : (CT Try.prog 35 [] [AV.lst (gL q.g), AV.lst (boL q.s)] [] (AV.int IntKind.i64 q.e))) (h2 : ((q.e != 0) = false)) (h3 : (decide (q.x < 0) = false)) (h4 : (decide (iN (gL q.g).length ≤ q.x) = false)) (h5 : (decide (q.y < 0) = false)) (h6 : (decide (iN (gL q.g).length ≤ q.y) = false)) : ∃ o' st' q', go Try.prog ({ dec := [(14, false), (18, false), (24, false), (28, false), (33, false)], els := eK q, calls := cV q, unroll := false } : HT) 0 4000 (.inl (bodyOf Try.f29)) [] (st29 q) = some (o', st', q') ∧ q' ∧ Go.AX.Rest Try.prog 0 (Fin Try.prog Try.f29 0 [] (AV.int IntKind.i64 0)) st' o' :=
  endF_spec (σ := []) (fz := []) (show endF Try.prog Try.f29 0 [] [] (go Try.prog ({ dec := [(14, false), (18, false), (24, false), (28, false), (33, false)], els := eK q, calls := cV q, unroll := false } : HT) 0 4000 (.inl (bodyOf Try.f29)) [] (st29 q)) = some ([], AV.int IntKind.i64 0, (((True ∧ True) ∧ (((True ∧ True) ∧ ((True ∧ True) ∧ ((True ∧ (True ∧ (True ∧ (True ∧ ((type_of% h1) ∧ True))))) ∧ ((True ∧ True) ∧ True)))) ∧ (((True ∧ True) ∧ ((True ∧ True) ∧ True)) ∧ ((type_of% h2) ∧ (((True ∧ True) ∧ ((True ∧ True) ∧ ((True ∧ True) ∧ (((type_of% h3) ∧ (True ∧ True)) ∧ (((type_of% h3) ∧ (True ∧ True)) ∧ (((type_of% h3) ∧ (True ∧ True)) ∧ (((type_of% h3) ∧ (True ∧ (True ∧ True))) ∧ (((type_of% h3) ∧ (True ∧ True)) ∧ ((True ∧ True) ∧ (((type_of% h4) ∧ (True ∧ True)) ∧ (((type_of% h4) ∧ (True ∧ True)) ∧ (((type_of% h4) ∧ (True ∧ True)) ∧ ((True ∧ True) ∧ (((type_of% h5) ∧ (True ∧ True)) ∧ (((type_of% h5) ∧ (True ∧ True)) ∧ (((type_of% h5) ∧ (True ∧ True)) ∧ (((type_of% h5) ∧ (True ∧ (True ∧ True))) ∧ (((type_of% h5) ∧ (True ∧ True)) ∧ True)))))))))))))))))) ∧ ((type_of% h6) ∧ ((True ∧ True) ∧ True))))))) ∧ (True ∧ True))) by kernel_rfl) ⟨⟨⟨trivial, trivial⟩, ⟨⟨⟨trivial, trivial⟩, ⟨⟨trivial, trivial⟩, ⟨⟨trivial, ⟨trivial, ⟨trivial, ⟨trivial, ⟨h1, trivial⟩⟩⟩⟩⟩, ⟨⟨trivial, trivial⟩, trivial⟩⟩⟩⟩, ⟨⟨⟨trivial, trivial⟩, ⟨⟨trivial, trivial⟩, trivial⟩⟩, ⟨h2, ⟨⟨⟨trivial, trivial⟩, ⟨⟨trivial, trivial⟩, ⟨⟨trivial, trivial⟩, ⟨⟨h3, ⟨trivial, trivial⟩⟩, ⟨⟨h3, ⟨trivial, trivial⟩⟩, ⟨⟨h3, ⟨trivial, trivial⟩⟩, ⟨⟨h3, ⟨trivial, ⟨trivial, trivial⟩⟩⟩, ⟨⟨h3, ⟨trivial, trivial⟩⟩, ⟨⟨trivial, trivial⟩, ⟨⟨h4, ⟨trivial, trivial⟩⟩, ⟨⟨h4, ⟨trivial, trivial⟩⟩, ⟨⟨h4, ⟨trivial, trivial⟩⟩, ⟨⟨trivial, trivial⟩, ⟨⟨h5, ⟨trivial, trivial⟩⟩, ⟨⟨h5, ⟨trivial, trivial⟩⟩, ⟨⟨h5, ⟨trivial, trivial⟩⟩, ⟨⟨h5, ⟨trivial, ⟨trivial, trivial⟩⟩⟩, ⟨⟨h5, ⟨trivial, trivial⟩⟩, trivial⟩⟩⟩⟩⟩⟩⟩⟩⟩⟩⟩⟩⟩⟩⟩⟩⟩⟩, ⟨h6, ⟨⟨trivial, trivial⟩, trivial⟩⟩⟩⟩⟩⟩⟩, ⟨trivial, trivial⟩⟩
end Go.Proofs.Ytnpmcikbnnlmkaa

/-! Routes: the check of any graph. -/
open Go Go.AX Go.Proofs
set_option maxRecDepth 100000
set_option maxHeartbeats 1000000
set_option linter.unusedVariables false
set_option linter.unusedSimpArgs false
namespace Go.Proofs.Ytnpmcikbnnlmkaa
def badE (r : List Int) (n v i : Nat) : Bool := decide (r.getD i 0 < 0) || (decide ((n : Int) ≤ r.getD i 0) || (r.getD i 0 == (v : Int) || (decide (0 < i) && decide (r.getD i 0 ≤ r.getD (i - 1) 0))))
def badR (g : List (List Int)) (v : Nat) : Bool := (fnd (badE (g.getD v []) g.length v) 0 (g.getD v []).length).isSome
def badG (g : List (List Int)) : Bool := (fnd (badR g) 0 g.length).isSome
def chkZ (g : List (List Int)) (s : List Bool) (v w : Int) : Int := if 24 < g.length then 20 else if badG g = true then 20 else if s.length ≠ g.length ∨ v < 0 ∨ (g.length : Int) ≤ v ∨ w < 0 ∨ (g.length : Int) ≤ w then 19 else 0
def Rows (g : List (List Int)) : Prop := ∀ v, v < g.length → (g.getD v []).length ≤ 9223372036854775807

def qv (g : List (List Int)) (s : List Bool) (v w : Int) (a i : Nat) (r : List Int) (e p : Int) : QK := ⟨g, s, [], 0, 0, a, i, r, v, w, false, e, [p], []⟩

theorem cg_run {g : List (List Int)} {s : List Bool} (hrw : Rows g) (hn : g.length ≤ 24) (v w : Int) (a : Nat) (ha : a < g.length) {R : St → Prop} {post : Exit → St → Prop}
    (hy : badR g a = true → Pass post (Fin Try.prog Try.f27 0 [] (.int .i64 20)))
    (hR : badR g a = false → ∀ st, Ren 0 st (la27 (qk g s v w (a + 1) 0 [])) → R st) :
    T Try.prog 0 (.loop (loopC (loopC (bodyOf Try.f27) 0) 0)) (lb27 (qk g s v w a 0 (g.getD a []))) (TK Try.prog 0 (andThen R post) (loopK (loopC (bodyOf Try.f27) 0) 0)) := by
  have hr1 := hrw a ha
  have hrow := gL_get ha
  unfold badR at hy hR
  generalize g.getD a [] = r at hr1 hrow hy hR
  generalize hrr : fnd (badE r g.length a) 0 r.length = res at hy hR
  refine T.loop (fun i : Nat => lb27 (qk g s v w a i r)) (fun i => i ≤ r.length ∧ fnd (badE r g.length a) i (r.length - i) = res) (fun i => r.length + 1 - i) 0 ⟨Nat.zero_le _, hrr⟩ ?_
  rintro i ⟨hi, hf⟩
  by_cases h : i < r.length
  · rw [fnd_step h] at hf
    have hg1 := lI_get h
    have dk : decide (iN i < iN r.length) = true := decide_eq_true (by simp only [iN]; omega)
    have found : badE r g.length a i = true → Pass (andThen R post) (Fin Try.prog Try.f27 0 [] (.int .i64 20)) := by
      intro hb
      simp only [hb] at hf
      subst hf
      exact hy rfl
    have next : badE r g.length a i = false → ∀ st, Ren 0 st (lb27 (qk g s v w a (i + 1) r)) → ∃ j, Ren 0 st (lb27 (qk g s v w a j r)) ∧ (j ≤ r.length ∧ fnd (badE r g.length a) j (r.length - j) = res) ∧ r.length + 1 - j < r.length + 1 - i := by
      intro hb st hst
      simp only [hb] at hf
      exact ⟨i + 1, hst, ⟨h, hf⟩, by omega⟩
    have wi : IntKind.i64.wrap (iN i + 1) = ((i + 1 : Nat) : Int) := wrap_nat i (by omega)
    by_cases b1 : r.getD i 0 < 0
    · exact T.out mix (cgr_0 (qv g s v w a i r (r.getD i 0) 0) dk (by simp [iN]) hrow (by simp [iN]) hg1 (decide_eq_true b1) (found (by unfold badE; rw [decide_eq_true b1]; simp)))
    · by_cases b2 : (g.length : Int) ≤ r.getD i 0
      · exact T.out mix (cgr_1 (qv g s v w a i r (r.getD i 0) 0) dk (by simp [iN]) hrow (by simp [iN]) hg1 (decide_eq_false b1) (decide_eq_true b2) (found (by unfold badE; rw [decide_eq_true b2]; simp)))
      · by_cases b3 : (r.getD i 0 == (a : Int)) = true
        · exact T.out mix (cgr_2 (qv g s v w a i r (r.getD i 0) 0) dk (by simp [iN]) hrow (by simp [iN]) hg1 (decide_eq_false b1) (decide_eq_false b2) b3 (found (by unfold badE; rw [b3]; simp)))
        · have b3' := Bool.eq_false_iff.2 b3
          by_cases b4 : 0 < i
          · have hw := wrapM1 i b4 (by omega)
            have hp := lI_get (l := r) (j := i - 1) (by omega)
            by_cases b5 : r.getD i 0 ≤ r.getD (i - 1) 0
            · exact T.out mix (cgr_3 (qv g s v w a i r (r.getD i 0) (r.getD (i - 1) 0)) dk (by simp [iN]) hrow (by simp [iN]) hg1 (decide_eq_false b1) (decide_eq_false b2) b3' (decide_eq_true (by simp only [iN, qv]; omega)) (by simp only [iN, qv, hw]; omega) (by simp only [iN, qv, hw, Int.toNat_natCast]; exact hp) (decide_eq_true b5) (found (by unfold badE; rw [decide_eq_true b4, decide_eq_true b5]; simp)))
            · refine T.path mix (cgr_4 (qv g s v w a i r (r.getD i 0) (r.getD (i - 1) 0)) dk (by simp [iN]) hrow (by simp [iN]) hg1 (decide_eq_false b1) (decide_eq_false b2) b3' (decide_eq_true (by simp only [iN, qv]; omega)) (by simp only [iN, qv, hw]; omega) (by simp only [iN, qv, hw, Int.toNat_natCast]; exact hp) (decide_eq_false b5) ?_)
              intro st hst
              simp only [qv, wi] at hst
              exact next (by unfold badE; rw [decide_eq_false b1, decide_eq_false b2, b3', decide_eq_false b5]; simp) st hst
          · refine T.path mix (cgr_5 (qv g s v w a i r (r.getD i 0) 0) dk (by simp [iN]) hrow (by simp [iN]) hg1 (decide_eq_false b1) (decide_eq_false b2) b3' (decide_eq_false (by simp only [iN, qv]; omega)) ?_)
            intro st hst
            simp only [qv, wi] at hst
            exact next (by unfold badE; rw [decide_eq_false b1, decide_eq_false b2, b3', decide_eq_false b4]; simp) st hst
  · rw [fnd_end h] at hf
    subst hf
    refine T.out mix (ckbx_0 (qk g s v w a i r) (decide_eq_false (by simp only [iN, qk]; omega)) ?_)
    intro st hst
    simp only [iN, qk, wrap_nat a (show a < 9223372036854775807 by omega)] at hst
    exact hR rfl st hst

theorem checkG_ct {g : List (List Int)} {s : List Bool} (hrw : Rows g) (v w : Int) : CT Try.prog 27 [] [.lst (gL g), .lst (boL s), .int .i64 v, .int .i64 w] [] (.int .i64 (chkZ g s v w)) := by
  have hl := gL_len g
  have hbl := boL_len s
  unfold chkZ
  by_cases h24 : 24 < g.length
  · rw [if_pos h24]
    exact CT.path mix Try.func27 (show Try.f27.body = some (bodyOf Try.f27) by kernel_rfl) (Nat.le_of_ble_eq_true rfl) (ckb_0 (qk g s v w 0 0 []) (decide_eq_true (by simp only [iN, qk, hl]; omega)))
  rw [if_neg h24]
  refine CT.path mix Try.func27 (show Try.f27.body = some (bodyOf Try.f27) by kernel_rfl) (Nat.le_of_ble_eq_true rfl) (ck_0 (qk g s v w 0 0 []) (decide_eq_false (by simp only [iN, qk, hl]; omega)) ?_)
  simp only [qk, hl]
  unfold badG
  generalize hrr : fnd (badR g) 0 g.length = res
  refine T.loop (fun a : Nat => la27 (qk g s v w a 0 [])) (fun a => a ≤ g.length ∧ fnd (badR g) a (g.length - a) = res) (fun a => g.length + 1 - a) 0 ⟨Nat.zero_le _, hrr⟩ ?_
  rintro a ⟨ha, hf⟩
  by_cases h : a < g.length
  · rw [fnd_step h] at hf
    refine T.path mix (cka_0 (qk g s v w a 0 (g.getD a [])) (decide_eq_true (by simp only [iN, qk]; omega)) (by simp [iN]) (gL_get h) ?_)
    simp only [qk, lI_len]
    refine cg_run hrw (by omega) v w a h (fun hb => ?_) (fun hb st hst => ?_)
    · simp only [hb] at hf
      subst hf
      exact fun st hst => TK.ret hst _
    · simp only [hb] at hf
      exact ⟨a + 1, hst, ⟨h, hf⟩, by omega⟩
  · rw [fnd_end h] at hf
    subst hf
    have da : decide (iN a < iN g.length) = false := decide_eq_false (by simp only [iN]; omega)
    simp only [Option.isSome_none, Bool.false_eq_true, if_false]
    by_cases c1 : s.length = g.length
    · have e1 : (iN (boL s).length != iN g.length) = false := by simp [iN, hbl, c1]
      by_cases c2 : v < 0
      · rw [if_pos (.inr (.inl c2))]
        exact T.out mix (ckx_1 (qk g s v w a 0 []) da e1 (decide_eq_true c2))
      · by_cases c3 : (g.length : Int) ≤ v
        · rw [if_pos (.inr (.inr (.inl c3)))]
          exact T.out mix (ckx_2 (qk g s v w a 0 []) da e1 (decide_eq_false c2) (decide_eq_true c3))
        · by_cases c4 : w < 0
          · rw [if_pos (.inr (.inr (.inr (.inl c4))))]
            exact T.out mix (ckx_3 (qk g s v w a 0 []) da e1 (decide_eq_false c2) (decide_eq_false c3) (decide_eq_true c4))
          · by_cases c5 : (g.length : Int) ≤ w
            · rw [if_pos (.inr (.inr (.inr (.inr c5))))]
              exact T.out mix (ckx_4 (qk g s v w a 0 []) da e1 (decide_eq_false c2) (decide_eq_false c3) (decide_eq_false c4) (decide_eq_true c5))
            · rw [if_neg (by rintro (h | h | h | h | h) <;> first | exact h c1 | exact c2 h | exact c3 h | exact c4 h | exact c5 h)]
              exact T.out mix (ckx_5 (qk g s v w a 0 []) da e1 (decide_eq_false c2) (decide_eq_false c3) (decide_eq_false c4) (decide_eq_false c5))
    · rw [if_pos (.inl c1)]
      exact T.out mix (ckx_0 (qk g s v w a 0 []) da (by simp only [iN, qk, hbl, bne_iff_ne, ne_eq]; omega))
#print axioms checkG_ct
end Go.Proofs.Ytnpmcikbnnlmkaa

/-! Routes: the reference's check. -/
open Go Go.AX Go.Proofs
set_option maxRecDepth 100000
set_option maxHeartbeats 1000000
set_option linter.unusedVariables false
set_option linter.unusedSimpArgs false
namespace Go.Proofs.Ytnpmcikbnnlmkaa
theorem vb_run {g : List (List Int)} (hrw : Rows g) (hn : g.length ≤ 24) (a : Nat) (ha : a < g.length) {R : St → Prop} {post : Exit → St → Prop}
    (hy : badR g a = true → Pass post (Fin Try.prog Try.f40 0 [] (.bool false)))
    (hR : badR g a = false → ∀ st, Ren 0 st (la40 (qv g [] 0 0 (a + 1) 0 [] 0 0)) → R st) :
    T Try.prog 0 (.loop (loopC (loopC (bodyOf Try.f40) 0) 0)) (lb40 (qv g [] 0 0 a 0 (g.getD a []) 0 0)) (TK Try.prog 0 (andThen R post) (loopK (loopC (bodyOf Try.f40) 0) 0)) := by
  have hr1 := hrw a ha
  have hrow := gL_get ha
  have hl := gL_len g
  unfold badR at hy hR
  generalize g.getD a [] = r at hr1 hrow hy hR
  have hrl := lI_len r
  generalize hrr : fnd (badE r g.length a) 0 r.length = res at hy hR
  refine T.loop (fun i : Nat => lb40 (qv g [] 0 0 a i r 0 0)) (fun i => i ≤ r.length ∧ fnd (badE r g.length a) i (r.length - i) = res) (fun i => r.length + 1 - i) 0 ⟨Nat.zero_le _, hrr⟩ ?_
  rintro i ⟨hi, hf⟩
  by_cases h : i < r.length
  · rw [fnd_step h] at hf
    have hg1 := lI_get h
    have dk : decide (iN i < iN (r.map (AV.int .i64)).length) = true := decide_eq_true (by simp only [iN, hrl]; omega)
    have found : badE r g.length a i = true → Pass (andThen R post) (Fin Try.prog Try.f40 0 [] (.bool false)) := by
      intro hb
      simp only [hb] at hf
      subst hf
      exact hy rfl
    have next : badE r g.length a i = false → ∀ st, Ren 0 st (lb40 (qv g [] 0 0 a (i + 1) r 0 0)) → ∃ j, Ren 0 st (lb40 (qv g [] 0 0 a j r 0 0)) ∧ (j ≤ r.length ∧ fnd (badE r g.length a) j (r.length - j) = res) ∧ r.length + 1 - j < r.length + 1 - i := by
      intro hb st hst
      simp only [hb] at hf
      exact ⟨i + 1, hst, ⟨h, hf⟩, by omega⟩
    have wi : IntKind.i64.wrap (iN i + 1) = ((i + 1 : Nat) : Int) := wrap_nat i (by omega)
    by_cases b1 : r.getD i 0 < 0
    · exact T.out mix (vbr_0 (qv g [] 0 0 a i r (r.getD i 0) 0) (by simp [iN]) hrow dk (by simp [iN]) hg1 (decide_eq_true b1) (found (by unfold badE; rw [decide_eq_true b1]; simp)))
    · by_cases b2 : (g.length : Int) ≤ r.getD i 0
      · exact T.out mix (vbr_1 (qv g [] 0 0 a i r (r.getD i 0) 0) (by simp [iN]) hrow dk (by simp [iN]) hg1 (decide_eq_false b1) (decide_eq_true (by simp only [iN, qv, hl]; exact b2)) (found (by unfold badE; rw [decide_eq_true b2]; simp)))
      · by_cases b3 : (r.getD i 0 == (a : Int)) = true
        · exact T.out mix (vbr_2 (qv g [] 0 0 a i r (r.getD i 0) 0) (by simp [iN]) hrow dk (by simp [iN]) hg1 (decide_eq_false b1) (decide_eq_false (by simp only [iN, qv, hl]; exact b2)) b3 (found (by unfold badE; rw [b3]; simp)))
        · have b3' := Bool.eq_false_iff.2 b3
          by_cases b4 : 0 < i
          · have hw := wrapM1 i b4 (by omega)
            have hp := lI_get (l := r) (j := i - 1) (by omega)
            by_cases b5 : r.getD i 0 ≤ r.getD (i - 1) 0
            · exact T.out mix (vbr_3 (qv g [] 0 0 a i r (r.getD i 0) (r.getD (i - 1) 0)) (by simp [iN]) hrow dk (by simp [iN]) hg1 (decide_eq_false b1) (decide_eq_false (by simp only [iN, qv, hl]; exact b2)) b3' (decide_eq_true (by simp only [iN, qv]; omega)) (by simp only [iN, qv, hw]; omega) (by simp only [iN, qv, hw, Int.toNat_natCast]; exact hp) (decide_eq_true b5) (found (by unfold badE; rw [decide_eq_true b4, decide_eq_true b5]; simp)))
            · refine T.path mix (vbr_4 (qv g [] 0 0 a i r (r.getD i 0) (r.getD (i - 1) 0)) (by simp [iN]) hrow dk (by simp [iN]) hg1 (decide_eq_false b1) (decide_eq_false (by simp only [iN, qv, hl]; exact b2)) b3' (decide_eq_true (by simp only [iN, qv]; omega)) (by simp only [iN, qv, hw]; omega) (by simp only [iN, qv, hw, Int.toNat_natCast]; exact hp) (decide_eq_false b5) ?_)
              intro st hst
              simp only [qv, wi] at hst
              exact next (by unfold badE; rw [decide_eq_false b1, decide_eq_false b2, b3', decide_eq_false b5]; simp) st hst
          · refine T.path mix (vbr_5 (qv g [] 0 0 a i r (r.getD i 0) 0) (by simp [iN]) hrow dk (by simp [iN]) hg1 (decide_eq_false b1) (decide_eq_false (by simp only [iN, qv, hl]; exact b2)) b3' (decide_eq_false (by simp only [iN, qv]; omega)) ?_)
            intro st hst
            simp only [qv, wi] at hst
            exact next (by unfold badE; rw [decide_eq_false b1, decide_eq_false b2, b3', decide_eq_false b4]; simp) st hst
  · rw [fnd_end h] at hf
    subst hf
    refine T.out mix (vbx_0 (qv g [] 0 0 a i r 0 0) (by simp [iN]) hrow (decide_eq_false (by simp only [iN, qv, hrl]; omega)) ?_)
    intro st hst
    simp only [iN, qv, wrap_nat a (show a < 9223372036854775807 by omega)] at hst
    exact hR rfl st hst

noncomputable def valZ (g : List (List Int)) : Bool := !(decide (24 < g.length)) && !(badG g)
theorem valid_ct {g : List (List Int)} (hrw : Rows g) : CT Try.prog 40 [] [.lst (gL g)] [] (.bool (valZ g)) := by
  have hl := gL_len g
  unfold valZ
  by_cases h24 : 24 < g.length
  · exact CT.pathS mix Try.func40 (show Try.f40.body = some (bodyOf Try.f40) by kernel_rfl) (Nat.le_of_ble_eq_true rfl) (va_0 (qv g [] 0 0 0 0 [] 0 0) (decide_eq_true (by simp only [iN, qv, hl]; omega))) (by simp [h24])
  refine CT.path mix Try.func40 (show Try.f40.body = some (bodyOf Try.f40) by kernel_rfl) (Nat.le_of_ble_eq_true rfl) (va_1 (qv g [] 0 0 0 0 [] 0 0) (decide_eq_false (by simp only [iN, qv, hl]; omega)) ?_)
  rw [decide_eq_false h24]
  unfold badG
  generalize hrr : fnd (badR g) 0 g.length = res
  refine T.loop (fun a : Nat => la40 (qv g [] 0 0 a 0 [] 0 0)) (fun a => a ≤ g.length ∧ fnd (badR g) a (g.length - a) = res) (fun a => g.length + 1 - a) 0 ⟨Nat.zero_le _, hrr⟩ ?_
  rintro a ⟨ha, hf⟩
  by_cases h : a < g.length
  · rw [fnd_step h] at hf
    refine T.path mix (vai_0 (qv g [] 0 0 a 0 (g.getD a []) 0 0) (decide_eq_true (by simp only [iN, qv, hl]; omega)) ?_)
    refine vb_run hrw (by omega) a h (fun hb => ?_) (fun hb st hst => ?_)
    · simp only [hb] at hf
      subst hf
      exact fun st hst => TK.ret hst _
    · simp only [hb] at hf
      exact ⟨a + 1, hst, ⟨h, hf⟩, by omega⟩
  · rw [fnd_end h] at hf
    subst hf
    exact T.out mix (vax_0 (qv g [] 0 0 a 0 [] 0 0) (decide_eq_false (by simp only [iN, qv, hl]; omega)))

noncomputable def chk4 (g : List (List Int)) (s : List Bool) : Int := if 24 < g.length then 20 else if badG g = true then 20 else if s.length ≠ g.length then 19 else 0
theorem check4_ct {g : List (List Int)} {s : List Bool} (hrw : Rows g) : CT Try.prog 35 [] [.lst (gL g), .lst (boL s)] [] (.int .i64 (chk4 g s)) := by
  have hl := gL_len g
  have hbl := boL_len s
  have hv := valid_ct hrw
  have hb : Try.f35.body = some (bodyOf Try.f35) := by kernel_rfl
  have hn : [AV.lst (gL g), .lst (boL s)].length ≤ Try.f35.ntmps := Nat.le_of_ble_eq_true rfl
  unfold chk4
  by_cases h1 : valZ g = true
  · have h1' := h1
    unfold valZ at h1'
    simp only [Bool.and_eq_true, Bool.not_eq_true', decide_eq_false_iff_not] at h1'
    rw [if_neg h1'.1, if_neg (by rw [h1'.2]; simp)]
    rw [h1] at hv
    by_cases h2 : s.length = g.length
    · rw [if_neg (by simp [h2])]
      exact CT.path mix Try.func35 hb hn (vc_2 ⟨g, s, [], 0, 0, 0, 0, [], 0, 0, true, 0, [], []⟩ hv rfl (by simp [iN, hl, hbl, h2]))
    · rw [if_pos h2]
      exact CT.path mix Try.func35 hb hn (vc_1 ⟨g, s, [], 0, 0, 0, 0, [], 0, 0, true, 0, [], []⟩ hv rfl (by simp only [iN, hl, hbl, bne_iff_ne, ne_eq]; omega))
  · have h1 := Bool.eq_false_iff.2 h1
    have e : (if 24 < g.length then (20 : Int) else if badG g = true then 20 else if s.length ≠ g.length then 19 else 0) = 20 := by
      by_cases h24 : 24 < g.length
      · rw [if_pos h24]
      · unfold valZ at h1
        rw [decide_eq_false h24] at h1
        rw [if_neg h24, if_pos (by simpa using h1)]
    rw [e]
    rw [h1] at hv
    exact CT.path mix Try.func35 hb hn (vc_0 ⟨g, s, [], 0, 0, 0, 0, [], 0, 0, false, 0, [], []⟩ hv rfl)

theorem chkZ_4 {g : List (List Int)} {s : List Bool} (v w : Int) : chkZ g s v w = if chk4 g s ≠ 0 then chk4 g s else if v < 0 ∨ (g.length : Int) ≤ v ∨ w < 0 ∨ (g.length : Int) ≤ w then 19 else 0 := by
  unfold chkZ chk4
  by_cases h1 : 24 < g.length
  · simp [h1]
  · by_cases h2 : badG g = true
    · simp [h1, h2]
    · by_cases h3 : s.length = g.length
      · simp [h1, h2, h3]
      · simp [h1, h2, h3]

theorem rcheck_ct {g : List (List Int)} {s : List Bool} (hrw : Rows g) (v w : Int) : CT Try.prog 29 [] [.lst (gL g), .lst (boL s), .int .i64 v, .int .i64 w] [] (.int .i64 (chkZ g s v w)) := by
  have hl := gL_len g
  have c4 := check4_ct (s := s) hrw
  have hb : Try.f29.body = some (bodyOf Try.f29) := by kernel_rfl
  have hn : [AV.lst (gL g), .lst (boL s), .int .i64 v, .int .i64 w].length ≤ Try.f29.ntmps := Nat.le_of_ble_eq_true rfl
  rw [chkZ_4]
  by_cases h0 : chk4 g s = 0
  · rw [if_neg (by simp [h0])]
    rw [h0] at c4
    have e0 : ((0 : Int) != 0) = false := rfl
    by_cases c2 : v < 0
    · rw [if_pos (.inl c2)]
      exact CT.path mix Try.func29 hb hn (vd_1 ⟨g, s, [], 0, 0, 0, 0, [], v, w, false, 0, [], []⟩ c4 e0 (decide_eq_true c2))
    · by_cases c3 : (g.length : Int) ≤ v
      · rw [if_pos (.inr (.inl c3))]
        exact CT.path mix Try.func29 hb hn (vd_2 ⟨g, s, [], 0, 0, 0, 0, [], v, w, false, 0, [], []⟩ c4 e0 (decide_eq_false c2) (decide_eq_true (by simp only [iN, hl]; exact c3)))
      · by_cases c5 : w < 0
        · rw [if_pos (.inr (.inr (.inl c5)))]
          exact CT.path mix Try.func29 hb hn (vd_3 ⟨g, s, [], 0, 0, 0, 0, [], v, w, false, 0, [], []⟩ c4 e0 (decide_eq_false c2) (decide_eq_false (by simp only [iN, hl]; exact c3)) (decide_eq_true c5))
        · by_cases c6 : (g.length : Int) ≤ w
          · rw [if_pos (.inr (.inr (.inr c6)))]
            exact CT.path mix Try.func29 hb hn (vd_4 ⟨g, s, [], 0, 0, 0, 0, [], v, w, false, 0, [], []⟩ c4 e0 (decide_eq_false c2) (decide_eq_false (by simp only [iN, hl]; exact c3)) (decide_eq_false c5) (decide_eq_true (by simp only [iN, hl]; exact c6)))
          · rw [if_neg (by rintro (h | h | h | h) <;> first | exact c2 h | exact c3 h | exact c5 h | exact c6 h)]
            exact CT.path mix Try.func29 hb hn (vd_5 ⟨g, s, [], 0, 0, 0, 0, [], v, w, false, 0, [], []⟩ c4 e0 (decide_eq_false c2) (decide_eq_false (by simp only [iN, hl]; exact c3)) (decide_eq_false c5) (decide_eq_false (by simp only [iN, hl]; exact c6)))
  · rw [if_pos h0]
    exact CT.path mix Try.func29 hb hn (vd_0 ⟨g, s, [], 0, 0, 0, 0, [], v, w, false, chk4 g s, [], []⟩ c4 (by simpa using h0))
#print axioms rcheck_ct
end Go.Proofs.Ytnpmcikbnnlmkaa

/-! The paths of a function, by evaluation. -/
open Go Go.AX Go.Proofs
set_option maxRecDepth 100000
set_option maxHeartbeats 4000000
set_option linter.unusedVariables false
namespace Go.Proofs.Ytnpmcikbnnlmkaa
noncomputable def st32 (q : QK) : St := { n := Try.f32.ntmps, fr := [(0, .lst (gL q.g)), (1, .lst (boL q.s)), (2, .int .i64 (iN q.v))], hp := [] }
noncomputable def la32 (q : QK) : St := { n := Try.f32.ntmps, fr := [(0, .lst (gL q.g)), (7, lI q.d), (8, .sl 0 0 q.p.length), (9, .int .i64 (iN q.v))], hp := [some (dB q.p)] }
noncomputable def lb32 (q : QK) : St := { n := Try.f32.ntmps, fr := [(0, .lst (gL q.g)), (7, lI q.d), (8, .sl 0 0 q.p.length), (9, .int .i64 (iN q.v)), (10, .int .i64 (iN q.i - 1))], hp := [some (dB q.p)] }
def cW (q : QK) : Nat → FuncId → List AV → List (Option Blk) → Hint := fun dst f args _ => match f with
  | 30 => .call [] [] [] (lI q.d)
  | 32 => .call [] [] [] (lI q.p)
  | 29 => .call [] [] [] (.int .i64 q.e)
  | 35 => .call [] [] [] (.int .i64 q.e)
  | 34 => .call [] [] [] (lI q.p)
  | 16 => .call [] [] [] (.bool true)
  | _ => .no
def e32 (q : QK) : List (Nat × AV) := [(30, lI q.r), (39, .int .i64 q.x), (47, lI q.r), (50, .int .i64 (iN q.w)), (54, .int .i64 q.y), (58, .int .i64 q.x)]
noncomputable def st34 (q : QK) : St := { n := Try.f34.ntmps, fr := [(0, .lst (gL q.g)), (1, .lst (boL q.s)), (2, .int .i64 (iN q.v)), (3, .int .i64 (iN q.w))], hp := [] }
noncomputable def lo34 (q : QK) : St := { n := Try.f34.ntmps, fr := [(2, .int .i64 (iN q.v)), (3, .int .i64 (iN q.w)), (9, lI q.p), (10, .sl 0 0 (q.i + 1))], hp := [some (dB q.r)] }
def e34 (q : QK) : List (Nat × AV) := [(16, .int .i64 q.x), (30, .int .i64 (iN q.a))]
noncomputable def st18 (q : QK) : St := { n := Try.f18.ntmps, fr := [(0, .lst (gL q.g)), (1, .lst (boL q.s)), (2, .int .i64 q.x), (3, .int .i64 q.y)], hp := [] }
noncomputable def st15 (q : QK) : St := { n := Try.f15.ntmps, fr := [(0, .lst (gL q.g)), (1, .lst (boL q.s)), (2, .int .i64 q.x)], hp := [] }
noncomputable def st13 (q : QK) : St := { n := Try.f13.ntmps, fr := [(0, .lst (gL q.g)), (1, .lst (boL q.s)), (2, .int .i64 q.x)], hp := [] }
noncomputable def st20 (q : QK) : St := { n := Try.f20.ntmps, fr := [(0, .lst (gL q.g)), (1, .lst (boL q.s))], hp := [] }
noncomputable def lo20z (q : QK) : St := { n := Try.f20.ntmps, fr := [(0, .lst (gL q.g)), (1, .lst (boL q.s)), (7, .nils), (8, .int .i64 (iN 0))], hp := [] }
noncomputable def lo20 (q : QK) : St := { n := Try.f20.ntmps, fr := [(0, .lst (gL q.g)), (1, .lst (boL q.s)), (7, .sl 0 0 q.i), (8, .int .i64 (iN q.i))], hp := [some { es := gL q.q, z := 1 }] }
noncomputable def st21 (q : QK) : St := { n := Try.f21.ntmps, fr := [(0, .lst (gL q.g)), (1, .lst (gL q.g))], hp := [] }
noncomputable def lo21 (q : QK) : St := { n := Try.f21.ntmps, fr := [(0, .lst (gL q.g)), (1, .lst (gL q.g)), (5, .int .i64 (iN q.i))], hp := [] }
def e21 (q : QK) : List (Nat × AV) := [(17, lI q.r), (18, lI q.r), (19, lI q.r), (20, lI q.r), (21, lI q.r), (22, lI q.r), (23, lI q.r), (24, lI q.r)]
theorem rh_0 (q : QK) (h1 : (CT Try.prog 30 [] [AV.lst (gL q.g), AV.lst (boL q.s), AV.int IntKind.i64 (iN q.v)] [] (AV.lst (List.map (AV.int IntKind.i64) q.d)))) (h2 : (iN (gL q.g).length ≤ iN (gL q.g).length)) (h3 : (8 * iN (gL q.g).length ≤ 281474976710656)) (h4 : (iN (gL q.g).length ≤ 9223372036854775807)) {post : Exit → St → Prop} (ht : T Try.prog 0 (.loop (loopC (bodyOf Try.f32) 0)) (St.mk 67 [(0, AV.lst (gL q.g)), (7, AV.lst (List.map (AV.int IntKind.i64) q.d)), (8, AV.sl 0 0 (gL q.g).length), (9, AV.int IntKind.i64 0)] [some (Blk.mk (List.replicate (gL q.g).length (AV.int IntKind.i64 0)) 1 true true)]) (TK Try.prog 0 post (loopK (bodyOf Try.f32) 0))) : ∃ o' st' q', go Try.prog ({ dec := [], els := e32 q, calls := cW q, unroll := false } : HT) 0 4000 (.inl (bodyOf Try.f32)) [] (st32 q) = some (o', st', q') ∧ q' ∧ Go.AX.Rest Try.prog 0 post st' o' :=
  endR_spec (σ := [0]) (fz := []) (vars := [0,7,8,9]) (show endR 0 [0] [] [0,7,8,9] (go Try.prog ({ dec := [], els := e32 q, calls := cW q, unroll := false } : HT) 0 4000 (.inl (bodyOf Try.f32)) [] (st32 q)) = some (loopC (bodyOf Try.f32) 0, loopK (bodyOf Try.f32) 0, St.mk 67 [(0, AV.lst (gL q.g)), (7, AV.lst (List.map (AV.int IntKind.i64) q.d)), (8, AV.sl 0 0 (gL q.g).length), (9, AV.int IntKind.i64 0)] [some (Blk.mk (List.replicate (gL q.g).length (AV.int IntKind.i64 0)) 1 true true)], (((True ∧ True) ∧ (((True ∧ True) ∧ ((True ∧ True) ∧ ((True ∧ True) ∧ ((True ∧ (True ∧ (True ∧ (True ∧ (True ∧ (True ∧ ((type_of% h1) ∧ True))))))) ∧ ((True ∧ True) ∧ True))))) ∧ (((True ∧ True) ∧ ((True ∧ True) ∧ ((True ∧ (True ∧ ((0 ≤ iN (gL q.g).length) ∧ ((type_of% h2) ∧ ((type_of% h3) ∧ (type_of% h4)))))) ∧ ((True ∧ True) ∧ True)))) ∧ ((True ∧ True) ∧ True)))) ∧ (True ∧ (True ∧ (True ∧ (True ∧ (True ∧ True))))))) by kernel_rfl) ⟨⟨⟨trivial, trivial⟩, ⟨⟨⟨trivial, trivial⟩, ⟨⟨trivial, trivial⟩, ⟨⟨trivial, trivial⟩, ⟨⟨trivial, ⟨trivial, ⟨trivial, ⟨trivial, ⟨trivial, ⟨trivial, ⟨h1, trivial⟩⟩⟩⟩⟩⟩⟩, ⟨⟨trivial, trivial⟩, trivial⟩⟩⟩⟩⟩, ⟨⟨⟨trivial, trivial⟩, ⟨⟨trivial, trivial⟩, ⟨⟨trivial, ⟨trivial, ⟨(Int.natCast_nonneg _), ⟨h2, ⟨h3, h4⟩⟩⟩⟩⟩, ⟨⟨trivial, trivial⟩, trivial⟩⟩⟩⟩, ⟨⟨trivial, trivial⟩, trivial⟩⟩⟩⟩, ⟨trivial, ⟨trivial, ⟨trivial, ⟨trivial, ⟨trivial, trivial⟩⟩⟩⟩⟩⟩ ht
theorem rhx_0 (q : QK) (h1 : (decide (iN q.v < iN (gL q.g).length) = false)) (h2 : (q.p.length = (List.map (AV.int IntKind.i64) q.p).length)) : ∃ o' st' q', go2 Try.prog ({ dec := [(22, false)], els := e32 q, calls := cW q, unroll := false } : HT) 0 4000 (loopC (bodyOf Try.f32) 0) (loopK (bodyOf Try.f32) 0) (la32 q) = some (o', st', q') ∧ q' ∧ Go.AX.Rest Try.prog 0 (Fin Try.prog Try.f32 0 [] (AV.lst (List.map (AV.int IntKind.i64) q.p))) st' o' :=
  endF_spec (σ := []) (fz := [0]) (show endF Try.prog Try.f32 0 [] [0] (go2 Try.prog ({ dec := [(22, false)], els := e32 q, calls := cW q, unroll := false } : HT) 0 4000 (loopC (bodyOf Try.f32) 0) (loopK (bodyOf Try.f32) 0) (la32 q)) = some ([], AV.lst (List.map (AV.int IntKind.i64) q.p), (((((True ∧ True) ∧ ((True ∧ True) ∧ ((True ∧ True) ∧ ((True ∧ (True ∧ True)) ∧ True)))) ∧ ((type_of% h1) ∧ True)) ∧ (((True ∧ True) ∧ ((True ∧ True) ∧ True)) ∧ True)) ∧ ((type_of% h2) ∧ True))) by kernel_rfl) ⟨⟨⟨⟨⟨trivial, trivial⟩, ⟨⟨trivial, trivial⟩, ⟨⟨trivial, trivial⟩, ⟨⟨trivial, ⟨trivial, trivial⟩⟩, trivial⟩⟩⟩⟩, ⟨h1, trivial⟩⟩, ⟨⟨⟨trivial, trivial⟩, ⟨⟨trivial, trivial⟩, trivial⟩⟩, trivial⟩⟩, ⟨h2, trivial⟩⟩
theorem rhi_0 (q : QK) (h1 : (decide (iN q.v < iN (gL q.g).length) = true)) (h2 : (0 ≤ iN q.v)) (h3 : (iN q.v < iN q.p.length)) (h4 : ((0 + (iN q.v).toNat).succ.le (List.map (AV.int IntKind.i64) q.p).length)) (h5 : ((gL q.g)[(iN q.v).toNat]? = some (AV.lst (List.map (AV.int IntKind.i64) q.r)))) {post : Exit → St → Prop} (ht : T Try.prog 0 (.loop (loopC (loopC (bodyOf Try.f32) 0) 0)) (St.mk 67 [(0, AV.lst (gL q.g)), (7, AV.lst (List.map (AV.int IntKind.i64) q.d)), (8, AV.sl 0 0 q.p.length), (9, AV.int IntKind.i64 (iN q.v)), (10, AV.int IntKind.i64 (IntKind.i64.wrap (iN (List.map (AV.int IntKind.i64) q.r).length - 1)))] [some (Blk.mk ((List.map (AV.int IntKind.i64) q.p).set (0 + (iN q.v).toNat) (AV.int IntKind.i64 (-1))) 1 true true)]) (TK Try.prog 0 post (loopK (loopC (bodyOf Try.f32) 0) 0))) : ∃ o' st' q', go Try.prog ({ dec := [(22, true)], els := e32 q, calls := cW q, unroll := false } : HT) 0 4000 (.inl (loopC (bodyOf Try.f32) 0)) [] (la32 q) = some (o', st', q') ∧ q' ∧ Go.AX.Rest Try.prog 0 post st' o' :=
  endR_spec (σ := [0]) (fz := []) (vars := [0,7,8,9,10]) (show endR 0 [0] [] [0,7,8,9,10] (go Try.prog ({ dec := [(22, true)], els := e32 q, calls := cW q, unroll := false } : HT) 0 4000 (.inl (loopC (bodyOf Try.f32) 0)) [] (la32 q)) = some (loopC (loopC (bodyOf Try.f32) 0) 0, loopK (loopC (bodyOf Try.f32) 0) 0, St.mk 67 [(0, AV.lst (gL q.g)), (7, AV.lst (List.map (AV.int IntKind.i64) q.d)), (8, AV.sl 0 0 q.p.length), (9, AV.int IntKind.i64 (iN q.v)), (10, AV.int IntKind.i64 (IntKind.i64.wrap (iN (List.map (AV.int IntKind.i64) q.r).length - 1)))] [some (Blk.mk ((List.map (AV.int IntKind.i64) q.p).set (0 + (iN q.v).toNat) (AV.int IntKind.i64 (-1))) 1 true true)], ((((True ∧ True) ∧ ((True ∧ True) ∧ ((True ∧ True) ∧ ((True ∧ (True ∧ True)) ∧ True)))) ∧ ((type_of% h1) ∧ (((True ∧ True) ∧ ((True ∧ True) ∧ ((True ∧ (True ∧ ((type_of% h2) ∧ (type_of% h3)))) ∧ ((True ∧ (type_of% h4)) ∧ True)))) ∧ (((True ∧ True) ∧ ((True ∧ True) ∧ ((True ∧ (True ∧ ((type_of% h2) ∧ (type_of% h5)))) ∧ ((True ∧ True) ∧ ((True ∧ True) ∧ ((True ∧ True) ∧ ((True ∧ True) ∧ True))))))) ∧ True)))) ∧ (True ∧ (True ∧ (True ∧ (True ∧ (True ∧ (True ∧ True)))))))) by kernel_rfl) ⟨⟨⟨⟨trivial, trivial⟩, ⟨⟨trivial, trivial⟩, ⟨⟨trivial, trivial⟩, ⟨⟨trivial, ⟨trivial, trivial⟩⟩, trivial⟩⟩⟩⟩, ⟨h1, ⟨⟨⟨trivial, trivial⟩, ⟨⟨trivial, trivial⟩, ⟨⟨trivial, ⟨trivial, ⟨h2, h3⟩⟩⟩, ⟨⟨trivial, h4⟩, trivial⟩⟩⟩⟩, ⟨⟨⟨trivial, trivial⟩, ⟨⟨trivial, trivial⟩, ⟨⟨trivial, ⟨trivial, ⟨h2, h5⟩⟩⟩, ⟨⟨trivial, trivial⟩, ⟨⟨trivial, trivial⟩, ⟨⟨trivial, trivial⟩, ⟨⟨trivial, trivial⟩, trivial⟩⟩⟩⟩⟩⟩⟩, trivial⟩⟩⟩⟩, ⟨trivial, ⟨trivial, ⟨trivial, ⟨trivial, ⟨trivial, ⟨trivial, trivial⟩⟩⟩⟩⟩⟩⟩ ht
theorem rhbx_0 (q : QK) (h1 : (decide (0 ≤ iN q.i - 1) = true)) (h2 : (0 ≤ iN q.v)) (h3 : ((List.map (AV.int IntKind.i64) q.d)[(iN q.v).toNat]? = some (AV.int IntKind.i64 q.x))) (h4 : (decide (0 < q.x) = false)) {post : Exit → St → Prop} {R : St → Prop} (hR : ∀ st, Ren 0 st (St.mk 67 [(0, AV.lst (gL q.g)), (7, AV.lst (List.map (AV.int IntKind.i64) q.d)), (8, AV.sl 0 0 q.p.length), (9, AV.int IntKind.i64 (IntKind.i64.wrap (iN q.v + 1)))] [some (Blk.mk (List.map (AV.int IntKind.i64) q.p) 1 true true)]) → R st) : ∃ o' st' q', go2 Try.prog ({ dec := [(42, false), (36, true)], els := e32 q, calls := cW q, unroll := false } : HT) 0 4000 (loopC (loopC (bodyOf Try.f32) 0) 0) (loopK (loopC (bodyOf Try.f32) 0) 0) (lb32 q) = some (o', st', q') ∧ q' ∧ Go.AX.Rest Try.prog 0 (andThen R post) st' o' :=
  endN_spec (σ := [0]) (fz := []) (vars := [0,7,8,9]) (show endN 0 [0] [] [0,7,8,9] (go2 Try.prog ({ dec := [(42, false), (36, true)], els := e32 q, calls := cW q, unroll := false } : HT) 0 4000 (loopC (loopC (bodyOf Try.f32) 0) 0) (loopK (loopC (bodyOf Try.f32) 0) 0) (lb32 q)) = some (St.mk 67 [(0, AV.lst (gL q.g)), (7, AV.lst (List.map (AV.int IntKind.i64) q.d)), (8, AV.sl 0 0 q.p.length), (9, AV.int IntKind.i64 (IntKind.i64.wrap (iN q.v + 1)))] [some (Blk.mk (List.map (AV.int IntKind.i64) q.p) 1 true true)], (((((True ∧ True) ∧ ((True ∧ True) ∧ ((True ∧ True) ∧ (((type_of% h1) ∧ (True ∧ True)) ∧ (((type_of% h1) ∧ (True ∧ True)) ∧ (((type_of% h1) ∧ (True ∧ (True ∧ ((type_of% h2) ∧ (type_of% h3))))) ∧ (((type_of% h1) ∧ (True ∧ True)) ∧ (((type_of% h1) ∧ (True ∧ True)) ∧ (((type_of% h1) ∧ (True ∧ True)) ∧ True))))))))) ∧ ((type_of% h4) ∧ True)) ∧ (((True ∧ True) ∧ ((True ∧ True) ∧ ((True ∧ True) ∧ True))) ∧ True)) ∧ (True ∧ (True ∧ (True ∧ (True ∧ (True ∧ True))))))) by kernel_rfl) ⟨⟨⟨⟨⟨trivial, trivial⟩, ⟨⟨trivial, trivial⟩, ⟨⟨trivial, trivial⟩, ⟨⟨h1, ⟨trivial, trivial⟩⟩, ⟨⟨h1, ⟨trivial, trivial⟩⟩, ⟨⟨h1, ⟨trivial, ⟨trivial, ⟨h2, h3⟩⟩⟩⟩, ⟨⟨h1, ⟨trivial, trivial⟩⟩, ⟨⟨h1, ⟨trivial, trivial⟩⟩, ⟨⟨h1, ⟨trivial, trivial⟩⟩, trivial⟩⟩⟩⟩⟩⟩⟩⟩⟩, ⟨h4, trivial⟩⟩, ⟨⟨⟨trivial, trivial⟩, ⟨⟨trivial, trivial⟩, ⟨⟨trivial, trivial⟩, trivial⟩⟩⟩, trivial⟩⟩, ⟨trivial, ⟨trivial, ⟨trivial, ⟨trivial, ⟨trivial, trivial⟩⟩⟩⟩⟩⟩ hR
theorem rhbx_1 (q : QK) (h1 : (decide (0 ≤ iN q.i - 1) = false)) {post : Exit → St → Prop} {R : St → Prop} (hR : ∀ st, Ren 0 st (St.mk 67 [(0, AV.lst (gL q.g)), (7, AV.lst (List.map (AV.int IntKind.i64) q.d)), (8, AV.sl 0 0 q.p.length), (9, AV.int IntKind.i64 (IntKind.i64.wrap (iN q.v + 1)))] [some (Blk.mk (List.map (AV.int IntKind.i64) q.p) 1 true true)]) → R st) : ∃ o' st' q', go2 Try.prog ({ dec := [(42, false), (36, false)], els := e32 q, calls := cW q, unroll := false } : HT) 0 4000 (loopC (loopC (bodyOf Try.f32) 0) 0) (loopK (loopC (bodyOf Try.f32) 0) 0) (lb32 q) = some (o', st', q') ∧ q' ∧ Go.AX.Rest Try.prog 0 (andThen R post) st' o' :=
  endN_spec (σ := [0]) (fz := []) (vars := [0,7,8,9]) (show endN 0 [0] [] [0,7,8,9] (go2 Try.prog ({ dec := [(42, false), (36, false)], els := e32 q, calls := cW q, unroll := false } : HT) 0 4000 (loopC (loopC (bodyOf Try.f32) 0) 0) (loopK (loopC (bodyOf Try.f32) 0) 0) (lb32 q)) = some (St.mk 67 [(0, AV.lst (gL q.g)), (7, AV.lst (List.map (AV.int IntKind.i64) q.d)), (8, AV.sl 0 0 q.p.length), (9, AV.int IntKind.i64 (IntKind.i64.wrap (iN q.v + 1)))] [some (Blk.mk (List.map (AV.int IntKind.i64) q.p) 1 true true)], (((((True ∧ True) ∧ ((True ∧ True) ∧ ((True ∧ True) ∧ ((type_of% h1) ∧ ((type_of% h1) ∧ ((type_of% h1) ∧ ((type_of% h1) ∧ ((type_of% h1) ∧ (((type_of% h1) ∧ (True ∧ True)) ∧ True))))))))) ∧ ((false = false) ∧ True)) ∧ (((True ∧ True) ∧ ((True ∧ True) ∧ ((True ∧ True) ∧ True))) ∧ True)) ∧ (True ∧ (True ∧ (True ∧ (True ∧ (True ∧ True))))))) by kernel_rfl) ⟨⟨⟨⟨⟨trivial, trivial⟩, ⟨⟨trivial, trivial⟩, ⟨⟨trivial, trivial⟩, ⟨h1, ⟨h1, ⟨h1, ⟨h1, ⟨h1, ⟨⟨h1, ⟨trivial, trivial⟩⟩, trivial⟩⟩⟩⟩⟩⟩⟩⟩⟩, ⟨(by first | decide | exact Int.NonNeg.mk _), trivial⟩⟩, ⟨⟨⟨trivial, trivial⟩, ⟨⟨trivial, trivial⟩, ⟨⟨trivial, trivial⟩, trivial⟩⟩⟩, trivial⟩⟩, ⟨trivial, ⟨trivial, ⟨trivial, ⟨trivial, ⟨trivial, trivial⟩⟩⟩⟩⟩⟩ hR
theorem rhbr_0 (q : QK) (h1 : (decide (0 ≤ iN q.i - 1) = true)) (h2 : (0 ≤ iN q.v)) (h3 : ((List.map (AV.int IntKind.i64) q.d)[(iN q.v).toNat]? = some (AV.int IntKind.i64 q.x))) (h4 : (decide (0 < q.x) = true)) (h5 : ((gL q.g)[(iN q.v).toNat]? = some (AV.lst (List.map (AV.int IntKind.i64) q.r)))) (h6 : (0 ≤ iN q.i - 1)) (h7 : ((List.map (AV.int IntKind.i64) q.r)[(iN q.i - 1).toNat]? = some (AV.int IntKind.i64 (iN q.w)))) (h8 : (0 ≤ iN q.w)) (h9 : ((List.map (AV.int IntKind.i64) q.d)[(iN q.w).toNat]? = some (AV.int IntKind.i64 q.y))) (h10 : ((q.y == IntKind.i64.wrap (q.x - 1)) = true)) (h11 : (iN q.v < iN q.p.length)) (h12 : ((0 + (iN q.v).toNat).succ.le (List.map (AV.int IntKind.i64) q.p).length)) {post : Exit → St → Prop} {R : St → Prop} (hR : ∀ st, Ren 0 st (St.mk 67 [(0, AV.lst (gL q.g)), (7, AV.lst (List.map (AV.int IntKind.i64) q.d)), (8, AV.sl 0 0 q.p.length), (9, AV.int IntKind.i64 (iN q.v)), (10, AV.int IntKind.i64 (IntKind.i64.wrap (iN q.i - 1 - 1)))] [some (Blk.mk ((List.map (AV.int IntKind.i64) q.p).set (0 + (iN q.v).toNat) (AV.int IntKind.i64 (iN q.w))) 1 true true)]) → R st) : ∃ o' st' q', go Try.prog ({ dec := [(36, true), (42, true), (61, true)], els := e32 q, calls := cW q, unroll := false } : HT) 0 4000 (.inl (loopC (loopC (bodyOf Try.f32) 0) 0)) [] (lb32 q) = some (o', st', q') ∧ q' ∧ Go.AX.Rest Try.prog 0 (andThen R post) st' o' :=
  endN_spec (σ := [0]) (fz := []) (vars := [0,7,8,9,10]) (show endN 0 [0] [] [0,7,8,9,10] (go Try.prog ({ dec := [(36, true), (42, true), (61, true)], els := e32 q, calls := cW q, unroll := false } : HT) 0 4000 (.inl (loopC (loopC (bodyOf Try.f32) 0) 0)) [] (lb32 q)) = some (St.mk 67 [(0, AV.lst (gL q.g)), (7, AV.lst (List.map (AV.int IntKind.i64) q.d)), (8, AV.sl 0 0 q.p.length), (9, AV.int IntKind.i64 (iN q.v)), (10, AV.int IntKind.i64 (IntKind.i64.wrap (iN q.i - 1 - 1)))] [some (Blk.mk ((List.map (AV.int IntKind.i64) q.p).set (0 + (iN q.v).toNat) (AV.int IntKind.i64 (iN q.w))) 1 true true)], ((((True ∧ True) ∧ ((True ∧ True) ∧ ((True ∧ True) ∧ (((type_of% h1) ∧ (True ∧ True)) ∧ (((type_of% h1) ∧ (True ∧ True)) ∧ (((type_of% h1) ∧ (True ∧ (True ∧ ((type_of% h2) ∧ (type_of% h3))))) ∧ (((type_of% h1) ∧ (True ∧ True)) ∧ (((type_of% h1) ∧ (True ∧ True)) ∧ (((type_of% h1) ∧ (True ∧ True)) ∧ True))))))))) ∧ ((type_of% h4) ∧ (((True ∧ True) ∧ ((True ∧ True) ∧ ((True ∧ (True ∧ ((type_of% h2) ∧ (type_of% h5)))) ∧ ((True ∧ True) ∧ ((True ∧ True) ∧ ((True ∧ (True ∧ ((type_of% h6) ∧ (type_of% h7)))) ∧ ((True ∧ True) ∧ ((True ∧ True) ∧ True)))))))) ∧ (((True ∧ True) ∧ ((True ∧ True) ∧ ((True ∧ (True ∧ ((type_of% h8) ∧ (type_of% h9)))) ∧ ((True ∧ True) ∧ ((True ∧ True) ∧ ((True ∧ True) ∧ ((True ∧ (True ∧ ((type_of% h2) ∧ (type_of% h3)))) ∧ ((True ∧ True) ∧ ((True ∧ True) ∧ ((True ∧ (True ∧ True)) ∧ True)))))))))) ∧ ((type_of% h10) ∧ (((True ∧ True) ∧ ((True ∧ True) ∧ ((True ∧ True) ∧ ((True ∧ (True ∧ ((type_of% h2) ∧ (type_of% h11)))) ∧ ((True ∧ (True ∧ (type_of% h12))) ∧ True))))) ∧ (((True ∧ True) ∧ ((True ∧ True) ∧ ((True ∧ True) ∧ True))) ∧ True))))))) ∧ (True ∧ (True ∧ (True ∧ (True ∧ (True ∧ (True ∧ True)))))))) by kernel_rfl) ⟨⟨⟨⟨trivial, trivial⟩, ⟨⟨trivial, trivial⟩, ⟨⟨trivial, trivial⟩, ⟨⟨h1, ⟨trivial, trivial⟩⟩, ⟨⟨h1, ⟨trivial, trivial⟩⟩, ⟨⟨h1, ⟨trivial, ⟨trivial, ⟨h2, h3⟩⟩⟩⟩, ⟨⟨h1, ⟨trivial, trivial⟩⟩, ⟨⟨h1, ⟨trivial, trivial⟩⟩, ⟨⟨h1, ⟨trivial, trivial⟩⟩, trivial⟩⟩⟩⟩⟩⟩⟩⟩⟩, ⟨h4, ⟨⟨⟨trivial, trivial⟩, ⟨⟨trivial, trivial⟩, ⟨⟨trivial, ⟨trivial, ⟨h2, h5⟩⟩⟩, ⟨⟨trivial, trivial⟩, ⟨⟨trivial, trivial⟩, ⟨⟨trivial, ⟨trivial, ⟨h6, h7⟩⟩⟩, ⟨⟨trivial, trivial⟩, ⟨⟨trivial, trivial⟩, trivial⟩⟩⟩⟩⟩⟩⟩⟩, ⟨⟨⟨trivial, trivial⟩, ⟨⟨trivial, trivial⟩, ⟨⟨trivial, ⟨trivial, ⟨h8, h9⟩⟩⟩, ⟨⟨trivial, trivial⟩, ⟨⟨trivial, trivial⟩, ⟨⟨trivial, trivial⟩, ⟨⟨trivial, ⟨trivial, ⟨h2, h3⟩⟩⟩, ⟨⟨trivial, trivial⟩, ⟨⟨trivial, trivial⟩, ⟨⟨trivial, ⟨trivial, trivial⟩⟩, trivial⟩⟩⟩⟩⟩⟩⟩⟩⟩⟩, ⟨h10, ⟨⟨⟨trivial, trivial⟩, ⟨⟨trivial, trivial⟩, ⟨⟨trivial, trivial⟩, ⟨⟨trivial, ⟨trivial, ⟨h2, h11⟩⟩⟩, ⟨⟨trivial, ⟨trivial, h12⟩⟩, trivial⟩⟩⟩⟩⟩, ⟨⟨⟨trivial, trivial⟩, ⟨⟨trivial, trivial⟩, ⟨⟨trivial, trivial⟩, trivial⟩⟩⟩, trivial⟩⟩⟩⟩⟩⟩⟩, ⟨trivial, ⟨trivial, ⟨trivial, ⟨trivial, ⟨trivial, ⟨trivial, trivial⟩⟩⟩⟩⟩⟩⟩ hR
theorem rhbr_1 (q : QK) (h1 : (decide (0 ≤ iN q.i - 1) = true)) (h2 : (0 ≤ iN q.v)) (h3 : ((List.map (AV.int IntKind.i64) q.d)[(iN q.v).toNat]? = some (AV.int IntKind.i64 q.x))) (h4 : (decide (0 < q.x) = true)) (h5 : ((gL q.g)[(iN q.v).toNat]? = some (AV.lst (List.map (AV.int IntKind.i64) q.r)))) (h6 : (0 ≤ iN q.i - 1)) (h7 : ((List.map (AV.int IntKind.i64) q.r)[(iN q.i - 1).toNat]? = some (AV.int IntKind.i64 (iN q.w)))) (h8 : (0 ≤ iN q.w)) (h9 : ((List.map (AV.int IntKind.i64) q.d)[(iN q.w).toNat]? = some (AV.int IntKind.i64 q.y))) (h10 : ((q.y == IntKind.i64.wrap (q.x - 1)) = false)) {post : Exit → St → Prop} {R : St → Prop} (hR : ∀ st, Ren 0 st (St.mk 67 [(0, AV.lst (gL q.g)), (7, AV.lst (List.map (AV.int IntKind.i64) q.d)), (8, AV.sl 0 0 q.p.length), (9, AV.int IntKind.i64 (iN q.v)), (10, AV.int IntKind.i64 (IntKind.i64.wrap (iN q.i - 1 - 1)))] [some (Blk.mk (List.map (AV.int IntKind.i64) q.p) 1 true true)]) → R st) : ∃ o' st' q', go Try.prog ({ dec := [(36, true), (42, true), (61, false)], els := e32 q, calls := cW q, unroll := false } : HT) 0 4000 (.inl (loopC (loopC (bodyOf Try.f32) 0) 0)) [] (lb32 q) = some (o', st', q') ∧ q' ∧ Go.AX.Rest Try.prog 0 (andThen R post) st' o' :=
  endN_spec (σ := [0]) (fz := []) (vars := [0,7,8,9,10]) (show endN 0 [0] [] [0,7,8,9,10] (go Try.prog ({ dec := [(36, true), (42, true), (61, false)], els := e32 q, calls := cW q, unroll := false } : HT) 0 4000 (.inl (loopC (loopC (bodyOf Try.f32) 0) 0)) [] (lb32 q)) = some (St.mk 67 [(0, AV.lst (gL q.g)), (7, AV.lst (List.map (AV.int IntKind.i64) q.d)), (8, AV.sl 0 0 q.p.length), (9, AV.int IntKind.i64 (iN q.v)), (10, AV.int IntKind.i64 (IntKind.i64.wrap (iN q.i - 1 - 1)))] [some (Blk.mk (List.map (AV.int IntKind.i64) q.p) 1 true true)], ((((True ∧ True) ∧ ((True ∧ True) ∧ ((True ∧ True) ∧ (((type_of% h1) ∧ (True ∧ True)) ∧ (((type_of% h1) ∧ (True ∧ True)) ∧ (((type_of% h1) ∧ (True ∧ (True ∧ ((type_of% h2) ∧ (type_of% h3))))) ∧ (((type_of% h1) ∧ (True ∧ True)) ∧ (((type_of% h1) ∧ (True ∧ True)) ∧ (((type_of% h1) ∧ (True ∧ True)) ∧ True))))))))) ∧ ((type_of% h4) ∧ (((True ∧ True) ∧ ((True ∧ True) ∧ ((True ∧ (True ∧ ((type_of% h2) ∧ (type_of% h5)))) ∧ ((True ∧ True) ∧ ((True ∧ True) ∧ ((True ∧ (True ∧ ((type_of% h6) ∧ (type_of% h7)))) ∧ ((True ∧ True) ∧ ((True ∧ True) ∧ True)))))))) ∧ (((True ∧ True) ∧ ((True ∧ True) ∧ ((True ∧ (True ∧ ((type_of% h8) ∧ (type_of% h9)))) ∧ ((True ∧ True) ∧ ((True ∧ True) ∧ ((True ∧ True) ∧ ((True ∧ (True ∧ ((type_of% h2) ∧ (type_of% h3)))) ∧ ((True ∧ True) ∧ ((True ∧ True) ∧ ((True ∧ (True ∧ True)) ∧ True)))))))))) ∧ ((type_of% h10) ∧ (((True ∧ True) ∧ ((True ∧ True) ∧ ((True ∧ True) ∧ True))) ∧ True)))))) ∧ (True ∧ (True ∧ (True ∧ (True ∧ (True ∧ (True ∧ True)))))))) by kernel_rfl) ⟨⟨⟨⟨trivial, trivial⟩, ⟨⟨trivial, trivial⟩, ⟨⟨trivial, trivial⟩, ⟨⟨h1, ⟨trivial, trivial⟩⟩, ⟨⟨h1, ⟨trivial, trivial⟩⟩, ⟨⟨h1, ⟨trivial, ⟨trivial, ⟨h2, h3⟩⟩⟩⟩, ⟨⟨h1, ⟨trivial, trivial⟩⟩, ⟨⟨h1, ⟨trivial, trivial⟩⟩, ⟨⟨h1, ⟨trivial, trivial⟩⟩, trivial⟩⟩⟩⟩⟩⟩⟩⟩⟩, ⟨h4, ⟨⟨⟨trivial, trivial⟩, ⟨⟨trivial, trivial⟩, ⟨⟨trivial, ⟨trivial, ⟨h2, h5⟩⟩⟩, ⟨⟨trivial, trivial⟩, ⟨⟨trivial, trivial⟩, ⟨⟨trivial, ⟨trivial, ⟨h6, h7⟩⟩⟩, ⟨⟨trivial, trivial⟩, ⟨⟨trivial, trivial⟩, trivial⟩⟩⟩⟩⟩⟩⟩⟩, ⟨⟨⟨trivial, trivial⟩, ⟨⟨trivial, trivial⟩, ⟨⟨trivial, ⟨trivial, ⟨h8, h9⟩⟩⟩, ⟨⟨trivial, trivial⟩, ⟨⟨trivial, trivial⟩, ⟨⟨trivial, trivial⟩, ⟨⟨trivial, ⟨trivial, ⟨h2, h3⟩⟩⟩, ⟨⟨trivial, trivial⟩, ⟨⟨trivial, trivial⟩, ⟨⟨trivial, ⟨trivial, trivial⟩⟩, trivial⟩⟩⟩⟩⟩⟩⟩⟩⟩⟩, ⟨h10, ⟨⟨⟨trivial, trivial⟩, ⟨⟨trivial, trivial⟩, ⟨⟨trivial, trivial⟩, trivial⟩⟩⟩, trivial⟩⟩⟩⟩⟩⟩, ⟨trivial, ⟨trivial, ⟨trivial, ⟨trivial, ⟨trivial, ⟨trivial, trivial⟩⟩⟩⟩⟩⟩⟩ hR
theorem rf_0 (q : QK) (h1 : (CT Try.prog 30 [] [AV.lst (gL q.g), AV.lst (boL q.s), AV.int IntKind.i64 (iN q.w)] [] (AV.lst (List.map (AV.int IntKind.i64) q.d)))) (h2 : (0 ≤ iN q.v)) (h3 : ((List.map (AV.int IntKind.i64) q.d)[(iN q.v).toNat]? = some (AV.int IntKind.i64 q.x))) (h4 : (decide (q.x < 0) = false)) (h5 : (CT Try.prog 32 [] [AV.lst (gL q.g), AV.lst (boL q.s), AV.int IntKind.i64 (iN q.w)] [] (AV.lst (List.map (AV.int IntKind.i64) q.p)))) {post : Exit → St → Prop} (ht : T Try.prog 0 (.loop (loopC (bodyOf Try.f34) 0)) (St.mk 37 [(2, AV.int IntKind.i64 (iN q.v)), (3, AV.int IntKind.i64 (iN q.w)), (9, AV.lst (List.map (AV.int IntKind.i64) q.p)), (10, AV.sl 0 0 1)] [some (Blk.mk [AV.int IntKind.i64 (iN q.v)] 1 true true)]) (TK Try.prog 0 post (loopK (bodyOf Try.f34) 0))) : ∃ o' st' q', go Try.prog ({ dec := [(18, false)], els := e34 q, calls := cW q, unroll := false } : HT) 0 4000 (.inl (bodyOf Try.f34)) [] (st34 q) = some (o', st', q') ∧ q' ∧ Go.AX.Rest Try.prog 0 post st' o' :=
  endR_spec (σ := [0]) (fz := []) (vars := [2,3,9,10]) (show endR 0 [0] [] [2,3,9,10] (go Try.prog ({ dec := [(18, false)], els := e34 q, calls := cW q, unroll := false } : HT) 0 4000 (.inl (bodyOf Try.f34)) [] (st34 q)) = some (loopC (bodyOf Try.f34) 0, loopK (bodyOf Try.f34) 0, St.mk 37 [(2, AV.int IntKind.i64 (iN q.v)), (3, AV.int IntKind.i64 (iN q.w)), (9, AV.lst (List.map (AV.int IntKind.i64) q.p)), (10, AV.sl 0 0 1)] [some (Blk.mk [AV.int IntKind.i64 (iN q.v)] 1 true true)], (((True ∧ True) ∧ (((True ∧ True) ∧ ((True ∧ True) ∧ ((True ∧ True) ∧ ((True ∧ (True ∧ (True ∧ (True ∧ (True ∧ (True ∧ ((type_of% h1) ∧ True))))))) ∧ ((True ∧ True) ∧ ((True ∧ (True ∧ ((type_of% h2) ∧ (type_of% h3)))) ∧ ((True ∧ True) ∧ ((True ∧ True) ∧ True)))))))) ∧ ((type_of% h4) ∧ (((True ∧ True) ∧ ((True ∧ True) ∧ ((True ∧ True) ∧ ((True ∧ (True ∧ (True ∧ (True ∧ (True ∧ (True ∧ ((type_of% h5) ∧ True))))))) ∧ ((True ∧ True) ∧ True))))) ∧ (((True ∧ True) ∧ ((True ∧ True) ∧ ((True ∧ True) ∧ True))) ∧ True))))) ∧ (True ∧ (True ∧ (True ∧ (True ∧ (True ∧ True))))))) by kernel_rfl) ⟨⟨⟨trivial, trivial⟩, ⟨⟨⟨trivial, trivial⟩, ⟨⟨trivial, trivial⟩, ⟨⟨trivial, trivial⟩, ⟨⟨trivial, ⟨trivial, ⟨trivial, ⟨trivial, ⟨trivial, ⟨trivial, ⟨h1, trivial⟩⟩⟩⟩⟩⟩⟩, ⟨⟨trivial, trivial⟩, ⟨⟨trivial, ⟨trivial, ⟨h2, h3⟩⟩⟩, ⟨⟨trivial, trivial⟩, ⟨⟨trivial, trivial⟩, trivial⟩⟩⟩⟩⟩⟩⟩⟩, ⟨h4, ⟨⟨⟨trivial, trivial⟩, ⟨⟨trivial, trivial⟩, ⟨⟨trivial, trivial⟩, ⟨⟨trivial, ⟨trivial, ⟨trivial, ⟨trivial, ⟨trivial, ⟨trivial, ⟨h5, trivial⟩⟩⟩⟩⟩⟩⟩, ⟨⟨trivial, trivial⟩, trivial⟩⟩⟩⟩⟩, ⟨⟨⟨trivial, trivial⟩, ⟨⟨trivial, trivial⟩, ⟨⟨trivial, trivial⟩, trivial⟩⟩⟩, trivial⟩⟩⟩⟩⟩, ⟨trivial, ⟨trivial, ⟨trivial, ⟨trivial, ⟨trivial, trivial⟩⟩⟩⟩⟩⟩ ht
theorem rfn_0 (q : QK) (h1 : (CT Try.prog 30 [] [AV.lst (gL q.g), AV.lst (boL q.s), AV.int IntKind.i64 (iN q.w)] [] (AV.lst (List.map (AV.int IntKind.i64) q.d)))) (h2 : (0 ≤ iN q.v)) (h3 : ((List.map (AV.int IntKind.i64) q.d)[(iN q.v).toNat]? = some (AV.int IntKind.i64 q.x))) (h4 : (decide (q.x < 0) = true)) : ∃ o' st' q', go Try.prog ({ dec := [(18, true)], els := e34 q, calls := cW q, unroll := false } : HT) 0 4000 (.inl (bodyOf Try.f34)) [] (st34 q) = some (o', st', q') ∧ q' ∧ Go.AX.Rest Try.prog 0 (Fin Try.prog Try.f34 0 [] (AV.nils)) st' o' :=
  endF_spec (σ := []) (fz := []) (show endF Try.prog Try.f34 0 [] [] (go Try.prog ({ dec := [(18, true)], els := e34 q, calls := cW q, unroll := false } : HT) 0 4000 (.inl (bodyOf Try.f34)) [] (st34 q)) = some ([], AV.nils, (((True ∧ True) ∧ (((True ∧ True) ∧ ((True ∧ True) ∧ ((True ∧ True) ∧ ((True ∧ (True ∧ (True ∧ (True ∧ (True ∧ (True ∧ ((type_of% h1) ∧ True))))))) ∧ ((True ∧ True) ∧ ((True ∧ (True ∧ ((type_of% h2) ∧ (type_of% h3)))) ∧ ((True ∧ True) ∧ ((True ∧ True) ∧ True)))))))) ∧ ((type_of% h4) ∧ ((True ∧ True) ∧ True)))) ∧ (True ∧ True))) by kernel_rfl) ⟨⟨⟨trivial, trivial⟩, ⟨⟨⟨trivial, trivial⟩, ⟨⟨trivial, trivial⟩, ⟨⟨trivial, trivial⟩, ⟨⟨trivial, ⟨trivial, ⟨trivial, ⟨trivial, ⟨trivial, ⟨trivial, ⟨h1, trivial⟩⟩⟩⟩⟩⟩⟩, ⟨⟨trivial, trivial⟩, ⟨⟨trivial, ⟨trivial, ⟨h2, h3⟩⟩⟩, ⟨⟨trivial, trivial⟩, ⟨⟨trivial, trivial⟩, trivial⟩⟩⟩⟩⟩⟩⟩⟩, ⟨h4, ⟨⟨trivial, trivial⟩, trivial⟩⟩⟩⟩, ⟨trivial, trivial⟩⟩
theorem rfex_0 (q : QK) (h1 : ((iN q.v != iN q.w) = false)) (h2 : (q.i + 1 = (List.map (AV.int IntKind.i64) q.r).length)) : ∃ o' st' q', go2 Try.prog ({ dec := [(27, false)], els := e34 q, calls := cW q, unroll := false } : HT) 0 4000 (loopC (bodyOf Try.f34) 0) (loopK (bodyOf Try.f34) 0) (lo34 q) = some (o', st', q') ∧ q' ∧ Go.AX.Rest Try.prog 0 (Fin Try.prog Try.f34 0 [] (AV.lst (List.map (AV.int IntKind.i64) q.r))) st' o' :=
  endF_spec (σ := []) (fz := [0]) (show endF Try.prog Try.f34 0 [] [0] (go2 Try.prog ({ dec := [(27, false)], els := e34 q, calls := cW q, unroll := false } : HT) 0 4000 (loopC (bodyOf Try.f34) 0) (loopK (bodyOf Try.f34) 0) (lo34 q)) = some ([], AV.lst (List.map (AV.int IntKind.i64) q.r), (((((True ∧ True) ∧ ((True ∧ True) ∧ ((True ∧ (True ∧ True)) ∧ True))) ∧ ((type_of% h1) ∧ True)) ∧ (((True ∧ True) ∧ ((True ∧ True) ∧ True)) ∧ True)) ∧ ((type_of% h2) ∧ True))) by kernel_rfl) ⟨⟨⟨⟨⟨trivial, trivial⟩, ⟨⟨trivial, trivial⟩, ⟨⟨trivial, ⟨trivial, trivial⟩⟩, trivial⟩⟩⟩, ⟨h1, trivial⟩⟩, ⟨⟨⟨trivial, trivial⟩, ⟨⟨trivial, trivial⟩, trivial⟩⟩, trivial⟩⟩, ⟨h2, trivial⟩⟩
theorem rfe_0 (q : QK) (h1 : ((iN q.v != iN q.w) = true)) (h2 : (0 ≤ iN q.v)) (h3 : ((List.map (AV.int IntKind.i64) q.p)[(iN q.v).toNat]? = some (AV.int IntKind.i64 (iN q.a)))) (h4 : ((List.map (AV.int IntKind.i64) q.r).length = q.i + 1)) (h5 : (1 ≤ [AV.int IntKind.i64 (iN q.a)].length)) (h6 : ((List.map (AV.int IntKind.i64) q.r).length + [AV.int IntKind.i64 (iN q.a)].length ≤ 9223372036854775807)) (h7 : (((List.map (AV.int IntKind.i64) q.r).length + [AV.int IntKind.i64 (iN q.a)].length) * 8 ≤ 140737488355328)) {post : Exit → St → Prop} {R : St → Prop} (hR : ∀ st, Ren 0 st (St.mk 37 [(2, AV.int IntKind.i64 (iN q.a)), (3, AV.int IntKind.i64 (iN q.w)), (9, AV.lst (List.map (AV.int IntKind.i64) q.p)), (10, AV.sl 0 0 ((List.map (AV.int IntKind.i64) q.r).length + [AV.int IntKind.i64 (iN q.a)].length))] [some (Blk.mk (List.map (AV.int IntKind.i64) q.r ++ [AV.int IntKind.i64 (iN q.a)]) 1 true true)]) → R st) : ∃ o' st' q', go Try.prog ({ dec := [(27, true)], els := e34 q, calls := cW q, unroll := false } : HT) 0 4000 (.inl (loopC (bodyOf Try.f34) 0)) [] (lo34 q) = some (o', st', q') ∧ q' ∧ Go.AX.Rest Try.prog 0 (andThen R post) st' o' :=
  endN_spec (σ := [2]) (fz := []) (vars := [2,3,9,10]) (show endN 0 [2] [] [2,3,9,10] (go Try.prog ({ dec := [(27, true)], els := e34 q, calls := cW q, unroll := false } : HT) 0 4000 (.inl (loopC (bodyOf Try.f34) 0)) [] (lo34 q)) = some (St.mk 37 [(2, AV.int IntKind.i64 (iN q.a)), (3, AV.int IntKind.i64 (iN q.w)), (9, AV.lst (List.map (AV.int IntKind.i64) q.p)), (10, AV.sl 0 0 ((List.map (AV.int IntKind.i64) q.r).length + [AV.int IntKind.i64 (iN q.a)].length))] [some (Blk.mk (List.map (AV.int IntKind.i64) q.r ++ [AV.int IntKind.i64 (iN q.a)]) 1 true true)], ((((True ∧ True) ∧ ((True ∧ True) ∧ ((True ∧ (True ∧ True)) ∧ True))) ∧ ((type_of% h1) ∧ (((True ∧ True) ∧ ((True ∧ True) ∧ ((True ∧ (True ∧ ((type_of% h2) ∧ (type_of% h3)))) ∧ ((True ∧ True) ∧ ((True ∧ True) ∧ True))))) ∧ (((True ∧ True) ∧ ((True ∧ True) ∧ ((True ∧ True) ∧ ((True ∧ (True ∧ ((type_of% h4) ∧ (((nat_lit 1 = nat_lit 1) ∧ (type_of% h5)) ∧ ((type_of% h6) ∧ (type_of% h7)))))) ∧ ((True ∧ True) ∧ True))))) ∧ True)))) ∧ (True ∧ (True ∧ (True ∧ (True ∧ (True ∧ True))))))) by kernel_rfl) ⟨⟨⟨⟨trivial, trivial⟩, ⟨⟨trivial, trivial⟩, ⟨⟨trivial, ⟨trivial, trivial⟩⟩, trivial⟩⟩⟩, ⟨h1, ⟨⟨⟨trivial, trivial⟩, ⟨⟨trivial, trivial⟩, ⟨⟨trivial, ⟨trivial, ⟨h2, h3⟩⟩⟩, ⟨⟨trivial, trivial⟩, ⟨⟨trivial, trivial⟩, trivial⟩⟩⟩⟩⟩, ⟨⟨⟨trivial, trivial⟩, ⟨⟨trivial, trivial⟩, ⟨⟨trivial, trivial⟩, ⟨⟨trivial, ⟨trivial, ⟨h4, ⟨⟨(by first | decide | exact Int.NonNeg.mk _), h5⟩, ⟨h6, h7⟩⟩⟩⟩⟩, ⟨⟨trivial, trivial⟩, trivial⟩⟩⟩⟩⟩, trivial⟩⟩⟩⟩, ⟨trivial, ⟨trivial, ⟨trivial, ⟨trivial, ⟨trivial, trivial⟩⟩⟩⟩⟩⟩ hR
theorem rp_0 (q : QK) (h1 : (CT Try.prog 29 [] [AV.lst (gL q.g), AV.lst (boL q.s), AV.int IntKind.i64 q.x, AV.int IntKind.i64 q.y] [] (AV.int IntKind.i64 q.e))) (h2 : ((q.e != 0) = true)) : ∃ o' st' q', go Try.prog ({ dec := [(17, true)], els := eK q, calls := cW q, unroll := false } : HT) 0 4000 (.inl (bodyOf Try.f18)) [] (st18 q) = some (o', st', q') ∧ q' ∧ Go.AX.Rest Try.prog 0 (Fin Try.prog Try.f18 0 [] (AV.tup [AV.nils, AV.int IntKind.i64 q.e])) st' o' :=
  endF_spec (σ := []) (fz := []) (show endF Try.prog Try.f18 0 [] [] (go Try.prog ({ dec := [(17, true)], els := eK q, calls := cW q, unroll := false } : HT) 0 4000 (.inl (bodyOf Try.f18)) [] (st18 q)) = some ([], AV.tup [AV.nils, AV.int IntKind.i64 q.e], (((True ∧ (True ∧ True)) ∧ (((True ∧ True) ∧ ((True ∧ True) ∧ ((True ∧ True) ∧ ((True ∧ True) ∧ ((True ∧ (True ∧ (True ∧ (True ∧ (True ∧ (True ∧ (True ∧ (True ∧ ((type_of% h1) ∧ True))))))))) ∧ ((True ∧ True) ∧ True)))))) ∧ (((True ∧ True) ∧ ((True ∧ True) ∧ True)) ∧ ((type_of% h2) ∧ (((True ∧ True) ∧ (True ∧ ((True ∧ True) ∧ True))) ∧ True))))) ∧ ((True ∧ (True ∧ True)) ∧ True))) by kernel_rfl) ⟨⟨⟨trivial, ⟨trivial, trivial⟩⟩, ⟨⟨⟨trivial, trivial⟩, ⟨⟨trivial, trivial⟩, ⟨⟨trivial, trivial⟩, ⟨⟨trivial, trivial⟩, ⟨⟨trivial, ⟨trivial, ⟨trivial, ⟨trivial, ⟨trivial, ⟨trivial, ⟨trivial, ⟨trivial, ⟨h1, trivial⟩⟩⟩⟩⟩⟩⟩⟩⟩, ⟨⟨trivial, trivial⟩, trivial⟩⟩⟩⟩⟩⟩, ⟨⟨⟨trivial, trivial⟩, ⟨⟨trivial, trivial⟩, trivial⟩⟩, ⟨h2, ⟨⟨⟨trivial, trivial⟩, ⟨trivial, ⟨⟨trivial, trivial⟩, trivial⟩⟩⟩, trivial⟩⟩⟩⟩⟩, ⟨⟨trivial, ⟨trivial, trivial⟩⟩, trivial⟩⟩
theorem rp_1 (q : QK) (h1 : (CT Try.prog 29 [] [AV.lst (gL q.g), AV.lst (boL q.s), AV.int IntKind.i64 q.x, AV.int IntKind.i64 q.y] [] (AV.int IntKind.i64 q.e))) (h2 : ((q.e != 0) = false)) (h3 : (CT Try.prog 34 [] [AV.lst (gL q.g), AV.lst (boL q.s), AV.int IntKind.i64 q.x, AV.int IntKind.i64 q.y] [] (AV.lst (List.map (AV.int IntKind.i64) q.p)))) : ∃ o' st' q', go Try.prog ({ dec := [(17, false)], els := eK q, calls := cW q, unroll := false } : HT) 0 4000 (.inl (bodyOf Try.f18)) [] (st18 q) = some (o', st', q') ∧ q' ∧ Go.AX.Rest Try.prog 0 (Fin Try.prog Try.f18 0 [] (AV.tup [AV.lst (List.map (AV.int IntKind.i64) q.p), AV.int IntKind.i64 0])) st' o' :=
  endF_spec (σ := []) (fz := []) (show endF Try.prog Try.f18 0 [] [] (go Try.prog ({ dec := [(17, false)], els := eK q, calls := cW q, unroll := false } : HT) 0 4000 (.inl (bodyOf Try.f18)) [] (st18 q)) = some ([], AV.tup [AV.lst (List.map (AV.int IntKind.i64) q.p), AV.int IntKind.i64 0], (((True ∧ (True ∧ True)) ∧ (((True ∧ True) ∧ ((True ∧ True) ∧ ((True ∧ True) ∧ ((True ∧ True) ∧ ((True ∧ (True ∧ (True ∧ (True ∧ (True ∧ (True ∧ (True ∧ (True ∧ ((type_of% h1) ∧ True))))))))) ∧ ((True ∧ True) ∧ True)))))) ∧ (((True ∧ True) ∧ ((True ∧ True) ∧ True)) ∧ ((type_of% h2) ∧ (((True ∧ True) ∧ ((True ∧ True) ∧ ((True ∧ True) ∧ ((True ∧ True) ∧ ((True ∧ (True ∧ (True ∧ (True ∧ (True ∧ (True ∧ (True ∧ (True ∧ ((type_of% h3) ∧ True))))))))) ∧ ((True ∧ True) ∧ (True ∧ True))))))) ∧ True))))) ∧ ((True ∧ (True ∧ True)) ∧ True))) by kernel_rfl) ⟨⟨⟨trivial, ⟨trivial, trivial⟩⟩, ⟨⟨⟨trivial, trivial⟩, ⟨⟨trivial, trivial⟩, ⟨⟨trivial, trivial⟩, ⟨⟨trivial, trivial⟩, ⟨⟨trivial, ⟨trivial, ⟨trivial, ⟨trivial, ⟨trivial, ⟨trivial, ⟨trivial, ⟨trivial, ⟨h1, trivial⟩⟩⟩⟩⟩⟩⟩⟩⟩, ⟨⟨trivial, trivial⟩, trivial⟩⟩⟩⟩⟩⟩, ⟨⟨⟨trivial, trivial⟩, ⟨⟨trivial, trivial⟩, trivial⟩⟩, ⟨h2, ⟨⟨⟨trivial, trivial⟩, ⟨⟨trivial, trivial⟩, ⟨⟨trivial, trivial⟩, ⟨⟨trivial, trivial⟩, ⟨⟨trivial, ⟨trivial, ⟨trivial, ⟨trivial, ⟨trivial, ⟨trivial, ⟨trivial, ⟨trivial, ⟨h3, trivial⟩⟩⟩⟩⟩⟩⟩⟩⟩, ⟨⟨trivial, trivial⟩, ⟨trivial, trivial⟩⟩⟩⟩⟩⟩⟩, trivial⟩⟩⟩⟩⟩, ⟨⟨trivial, ⟨trivial, trivial⟩⟩, trivial⟩⟩
theorem rhs_0 (q : QK) (h1 : (CT Try.prog 29 [] [AV.lst (gL q.g), AV.lst (boL q.s), AV.int IntKind.i64 q.x, AV.int IntKind.i64 q.x] [] (AV.int IntKind.i64 q.e))) (h2 : ((q.e != 0) = true)) : ∃ o' st' q', go Try.prog ({ dec := [(15, true)], els := eK q, calls := cW q, unroll := false } : HT) 0 4000 (.inl (bodyOf Try.f15)) [] (st15 q) = some (o', st', q') ∧ q' ∧ Go.AX.Rest Try.prog 0 (Fin Try.prog Try.f15 0 [] (AV.tup [AV.nils, AV.int IntKind.i64 q.e])) st' o' :=
  endF_spec (σ := []) (fz := []) (show endF Try.prog Try.f15 0 [] [] (go Try.prog ({ dec := [(15, true)], els := eK q, calls := cW q, unroll := false } : HT) 0 4000 (.inl (bodyOf Try.f15)) [] (st15 q)) = some ([], AV.tup [AV.nils, AV.int IntKind.i64 q.e], (((True ∧ (True ∧ True)) ∧ (((True ∧ True) ∧ ((True ∧ True) ∧ ((True ∧ True) ∧ ((True ∧ True) ∧ ((True ∧ (True ∧ (True ∧ (True ∧ (True ∧ (True ∧ (True ∧ (True ∧ ((type_of% h1) ∧ True))))))))) ∧ ((True ∧ True) ∧ True)))))) ∧ (((True ∧ True) ∧ ((True ∧ True) ∧ True)) ∧ ((type_of% h2) ∧ (((True ∧ True) ∧ (True ∧ ((True ∧ True) ∧ True))) ∧ True))))) ∧ ((True ∧ (True ∧ True)) ∧ True))) by kernel_rfl) ⟨⟨⟨trivial, ⟨trivial, trivial⟩⟩, ⟨⟨⟨trivial, trivial⟩, ⟨⟨trivial, trivial⟩, ⟨⟨trivial, trivial⟩, ⟨⟨trivial, trivial⟩, ⟨⟨trivial, ⟨trivial, ⟨trivial, ⟨trivial, ⟨trivial, ⟨trivial, ⟨trivial, ⟨trivial, ⟨h1, trivial⟩⟩⟩⟩⟩⟩⟩⟩⟩, ⟨⟨trivial, trivial⟩, trivial⟩⟩⟩⟩⟩⟩, ⟨⟨⟨trivial, trivial⟩, ⟨⟨trivial, trivial⟩, trivial⟩⟩, ⟨h2, ⟨⟨⟨trivial, trivial⟩, ⟨trivial, ⟨⟨trivial, trivial⟩, trivial⟩⟩⟩, trivial⟩⟩⟩⟩⟩, ⟨⟨trivial, ⟨trivial, trivial⟩⟩, trivial⟩⟩
theorem rhs_1 (q : QK) (h1 : (CT Try.prog 29 [] [AV.lst (gL q.g), AV.lst (boL q.s), AV.int IntKind.i64 q.x, AV.int IntKind.i64 q.x] [] (AV.int IntKind.i64 q.e))) (h2 : ((q.e != 0) = false)) (h3 : (CT Try.prog 32 [] [AV.lst (gL q.g), AV.lst (boL q.s), AV.int IntKind.i64 q.x] [] (AV.lst (List.map (AV.int IntKind.i64) q.p)))) : ∃ o' st' q', go Try.prog ({ dec := [(15, false)], els := eK q, calls := cW q, unroll := false } : HT) 0 4000 (.inl (bodyOf Try.f15)) [] (st15 q) = some (o', st', q') ∧ q' ∧ Go.AX.Rest Try.prog 0 (Fin Try.prog Try.f15 0 [] (AV.tup [AV.lst (List.map (AV.int IntKind.i64) q.p), AV.int IntKind.i64 0])) st' o' :=
  endF_spec (σ := []) (fz := []) (show endF Try.prog Try.f15 0 [] [] (go Try.prog ({ dec := [(15, false)], els := eK q, calls := cW q, unroll := false } : HT) 0 4000 (.inl (bodyOf Try.f15)) [] (st15 q)) = some ([], AV.tup [AV.lst (List.map (AV.int IntKind.i64) q.p), AV.int IntKind.i64 0], (((True ∧ (True ∧ True)) ∧ (((True ∧ True) ∧ ((True ∧ True) ∧ ((True ∧ True) ∧ ((True ∧ True) ∧ ((True ∧ (True ∧ (True ∧ (True ∧ (True ∧ (True ∧ (True ∧ (True ∧ ((type_of% h1) ∧ True))))))))) ∧ ((True ∧ True) ∧ True)))))) ∧ (((True ∧ True) ∧ ((True ∧ True) ∧ True)) ∧ ((type_of% h2) ∧ (((True ∧ True) ∧ ((True ∧ True) ∧ ((True ∧ True) ∧ ((True ∧ (True ∧ (True ∧ (True ∧ (True ∧ (True ∧ ((type_of% h3) ∧ True))))))) ∧ ((True ∧ True) ∧ (True ∧ True)))))) ∧ True))))) ∧ ((True ∧ (True ∧ True)) ∧ True))) by kernel_rfl) ⟨⟨⟨trivial, ⟨trivial, trivial⟩⟩, ⟨⟨⟨trivial, trivial⟩, ⟨⟨trivial, trivial⟩, ⟨⟨trivial, trivial⟩, ⟨⟨trivial, trivial⟩, ⟨⟨trivial, ⟨trivial, ⟨trivial, ⟨trivial, ⟨trivial, ⟨trivial, ⟨trivial, ⟨trivial, ⟨h1, trivial⟩⟩⟩⟩⟩⟩⟩⟩⟩, ⟨⟨trivial, trivial⟩, trivial⟩⟩⟩⟩⟩⟩, ⟨⟨⟨trivial, trivial⟩, ⟨⟨trivial, trivial⟩, trivial⟩⟩, ⟨h2, ⟨⟨⟨trivial, trivial⟩, ⟨⟨trivial, trivial⟩, ⟨⟨trivial, trivial⟩, ⟨⟨trivial, ⟨trivial, ⟨trivial, ⟨trivial, ⟨trivial, ⟨trivial, ⟨h3, trivial⟩⟩⟩⟩⟩⟩⟩, ⟨⟨trivial, trivial⟩, ⟨trivial, trivial⟩⟩⟩⟩⟩⟩, trivial⟩⟩⟩⟩⟩, ⟨⟨trivial, ⟨trivial, trivial⟩⟩, trivial⟩⟩
theorem rds_0 (q : QK) (h1 : (CT Try.prog 29 [] [AV.lst (gL q.g), AV.lst (boL q.s), AV.int IntKind.i64 q.x, AV.int IntKind.i64 q.x] [] (AV.int IntKind.i64 q.e))) (h2 : ((q.e != 0) = true)) : ∃ o' st' q', go Try.prog ({ dec := [(15, true)], els := eK q, calls := cW q, unroll := false } : HT) 0 4000 (.inl (bodyOf Try.f13)) [] (st13 q) = some (o', st', q') ∧ q' ∧ Go.AX.Rest Try.prog 0 (Fin Try.prog Try.f13 0 [] (AV.tup [AV.nils, AV.int IntKind.i64 q.e])) st' o' :=
  endF_spec (σ := []) (fz := []) (show endF Try.prog Try.f13 0 [] [] (go Try.prog ({ dec := [(15, true)], els := eK q, calls := cW q, unroll := false } : HT) 0 4000 (.inl (bodyOf Try.f13)) [] (st13 q)) = some ([], AV.tup [AV.nils, AV.int IntKind.i64 q.e], (((True ∧ (True ∧ True)) ∧ (((True ∧ True) ∧ ((True ∧ True) ∧ ((True ∧ True) ∧ ((True ∧ True) ∧ ((True ∧ (True ∧ (True ∧ (True ∧ (True ∧ (True ∧ (True ∧ (True ∧ ((type_of% h1) ∧ True))))))))) ∧ ((True ∧ True) ∧ True)))))) ∧ (((True ∧ True) ∧ ((True ∧ True) ∧ True)) ∧ ((type_of% h2) ∧ (((True ∧ True) ∧ (True ∧ ((True ∧ True) ∧ True))) ∧ True))))) ∧ ((True ∧ (True ∧ True)) ∧ True))) by kernel_rfl) ⟨⟨⟨trivial, ⟨trivial, trivial⟩⟩, ⟨⟨⟨trivial, trivial⟩, ⟨⟨trivial, trivial⟩, ⟨⟨trivial, trivial⟩, ⟨⟨trivial, trivial⟩, ⟨⟨trivial, ⟨trivial, ⟨trivial, ⟨trivial, ⟨trivial, ⟨trivial, ⟨trivial, ⟨trivial, ⟨h1, trivial⟩⟩⟩⟩⟩⟩⟩⟩⟩, ⟨⟨trivial, trivial⟩, trivial⟩⟩⟩⟩⟩⟩, ⟨⟨⟨trivial, trivial⟩, ⟨⟨trivial, trivial⟩, trivial⟩⟩, ⟨h2, ⟨⟨⟨trivial, trivial⟩, ⟨trivial, ⟨⟨trivial, trivial⟩, trivial⟩⟩⟩, trivial⟩⟩⟩⟩⟩, ⟨⟨trivial, ⟨trivial, trivial⟩⟩, trivial⟩⟩
theorem rds_1 (q : QK) (h1 : (CT Try.prog 29 [] [AV.lst (gL q.g), AV.lst (boL q.s), AV.int IntKind.i64 q.x, AV.int IntKind.i64 q.x] [] (AV.int IntKind.i64 q.e))) (h2 : ((q.e != 0) = false)) (h3 : (CT Try.prog 30 [] [AV.lst (gL q.g), AV.lst (boL q.s), AV.int IntKind.i64 q.x] [] (AV.lst (List.map (AV.int IntKind.i64) q.d)))) : ∃ o' st' q', go Try.prog ({ dec := [(15, false)], els := eK q, calls := cW q, unroll := false } : HT) 0 4000 (.inl (bodyOf Try.f13)) [] (st13 q) = some (o', st', q') ∧ q' ∧ Go.AX.Rest Try.prog 0 (Fin Try.prog Try.f13 0 [] (AV.tup [AV.lst (List.map (AV.int IntKind.i64) q.d), AV.int IntKind.i64 0])) st' o' :=
  endF_spec (σ := []) (fz := []) (show endF Try.prog Try.f13 0 [] [] (go Try.prog ({ dec := [(15, false)], els := eK q, calls := cW q, unroll := false } : HT) 0 4000 (.inl (bodyOf Try.f13)) [] (st13 q)) = some ([], AV.tup [AV.lst (List.map (AV.int IntKind.i64) q.d), AV.int IntKind.i64 0], (((True ∧ (True ∧ True)) ∧ (((True ∧ True) ∧ ((True ∧ True) ∧ ((True ∧ True) ∧ ((True ∧ True) ∧ ((True ∧ (True ∧ (True ∧ (True ∧ (True ∧ (True ∧ (True ∧ (True ∧ ((type_of% h1) ∧ True))))))))) ∧ ((True ∧ True) ∧ True)))))) ∧ (((True ∧ True) ∧ ((True ∧ True) ∧ True)) ∧ ((type_of% h2) ∧ (((True ∧ True) ∧ ((True ∧ True) ∧ ((True ∧ True) ∧ ((True ∧ (True ∧ (True ∧ (True ∧ (True ∧ (True ∧ ((type_of% h3) ∧ True))))))) ∧ ((True ∧ True) ∧ (True ∧ True)))))) ∧ True))))) ∧ ((True ∧ (True ∧ True)) ∧ True))) by kernel_rfl) ⟨⟨⟨trivial, ⟨trivial, trivial⟩⟩, ⟨⟨⟨trivial, trivial⟩, ⟨⟨trivial, trivial⟩, ⟨⟨trivial, trivial⟩, ⟨⟨trivial, trivial⟩, ⟨⟨trivial, ⟨trivial, ⟨trivial, ⟨trivial, ⟨trivial, ⟨trivial, ⟨trivial, ⟨trivial, ⟨h1, trivial⟩⟩⟩⟩⟩⟩⟩⟩⟩, ⟨⟨trivial, trivial⟩, trivial⟩⟩⟩⟩⟩⟩, ⟨⟨⟨trivial, trivial⟩, ⟨⟨trivial, trivial⟩, trivial⟩⟩, ⟨h2, ⟨⟨⟨trivial, trivial⟩, ⟨⟨trivial, trivial⟩, ⟨⟨trivial, trivial⟩, ⟨⟨trivial, ⟨trivial, ⟨trivial, ⟨trivial, ⟨trivial, ⟨trivial, ⟨h3, trivial⟩⟩⟩⟩⟩⟩⟩, ⟨⟨trivial, trivial⟩, ⟨trivial, trivial⟩⟩⟩⟩⟩⟩, trivial⟩⟩⟩⟩⟩, ⟨⟨trivial, ⟨trivial, trivial⟩⟩, trivial⟩⟩
theorem rt_0 (q : QK) (h1 : (CT Try.prog 35 [] [AV.lst (gL q.g), AV.lst (boL q.s)] [] (AV.int IntKind.i64 q.e))) (h2 : ((q.e != 0) = false)) {post : Exit → St → Prop} (ht : T Try.prog 0 (.loop (loopC (bodyOf Try.f20) 0)) (St.mk 29 [(0, AV.lst (gL q.g)), (1, AV.lst (boL q.s)), (7, AV.nils), (8, AV.int IntKind.i64 0)] []) (TK Try.prog 0 post (loopK (bodyOf Try.f20) 0))) : ∃ o' st' q', go Try.prog ({ dec := [(12, false), (13, false), (14, false), (15, false)], els := eK q, calls := cW q, unroll := false } : HT) 0 4000 (.inl (bodyOf Try.f20)) [] (st20 q) = some (o', st', q') ∧ q' ∧ Go.AX.Rest Try.prog 0 post st' o' :=
  endR_spec (σ := []) (fz := []) (vars := [0,1,7,8]) (show endR 0 [] [] [0,1,7,8] (go Try.prog ({ dec := [(12, false), (13, false), (14, false), (15, false)], els := eK q, calls := cW q, unroll := false } : HT) 0 4000 (.inl (bodyOf Try.f20)) [] (st20 q)) = some (loopC (bodyOf Try.f20) 0, loopK (bodyOf Try.f20) 0, St.mk 29 [(0, AV.lst (gL q.g)), (1, AV.lst (boL q.s)), (7, AV.nils), (8, AV.int IntKind.i64 0)] [], (((True ∧ (True ∧ True)) ∧ (((True ∧ True) ∧ ((True ∧ True) ∧ ((True ∧ (True ∧ (True ∧ (True ∧ ((type_of% h1) ∧ True))))) ∧ ((True ∧ True) ∧ True)))) ∧ (((True ∧ True) ∧ ((True ∧ True) ∧ True)) ∧ ((type_of% h2) ∧ ((True ∧ True) ∧ ((True ∧ True) ∧ True)))))) ∧ (True ∧ (True ∧ (True ∧ (True ∧ True)))))) by kernel_rfl) ⟨⟨⟨trivial, ⟨trivial, trivial⟩⟩, ⟨⟨⟨trivial, trivial⟩, ⟨⟨trivial, trivial⟩, ⟨⟨trivial, ⟨trivial, ⟨trivial, ⟨trivial, ⟨h1, trivial⟩⟩⟩⟩⟩, ⟨⟨trivial, trivial⟩, trivial⟩⟩⟩⟩, ⟨⟨⟨trivial, trivial⟩, ⟨⟨trivial, trivial⟩, trivial⟩⟩, ⟨h2, ⟨⟨trivial, trivial⟩, ⟨⟨trivial, trivial⟩, trivial⟩⟩⟩⟩⟩⟩, ⟨trivial, ⟨trivial, ⟨trivial, ⟨trivial, trivial⟩⟩⟩⟩⟩ ht
theorem rte_0 (q : QK) (h1 : (CT Try.prog 35 [] [AV.lst (gL q.g), AV.lst (boL q.s)] [] (AV.int IntKind.i64 q.e))) (h2 : ((q.e != 0) = true)) : ∃ o' st' q', go Try.prog ({ dec := [(11, true), (12, true), (13, true), (14, true)], els := eK q, calls := cW q, unroll := false } : HT) 0 4000 (.inl (bodyOf Try.f20)) [] (st20 q) = some (o', st', q') ∧ q' ∧ Go.AX.Rest Try.prog 0 (Fin Try.prog Try.f20 0 [] (AV.tup [AV.nils, AV.int IntKind.i64 q.e])) st' o' :=
  endF_spec (σ := []) (fz := []) (show endF Try.prog Try.f20 0 [] [] (go Try.prog ({ dec := [(11, true), (12, true), (13, true), (14, true)], els := eK q, calls := cW q, unroll := false } : HT) 0 4000 (.inl (bodyOf Try.f20)) [] (st20 q)) = some ([], AV.tup [AV.nils, AV.int IntKind.i64 q.e], (((True ∧ (True ∧ True)) ∧ (((True ∧ True) ∧ ((True ∧ True) ∧ ((True ∧ (True ∧ (True ∧ (True ∧ ((type_of% h1) ∧ True))))) ∧ ((True ∧ True) ∧ True)))) ∧ (((True ∧ True) ∧ ((True ∧ True) ∧ True)) ∧ ((type_of% h2) ∧ (((True ∧ True) ∧ (True ∧ ((True ∧ True) ∧ True))) ∧ True))))) ∧ ((True ∧ (True ∧ True)) ∧ True))) by kernel_rfl) ⟨⟨⟨trivial, ⟨trivial, trivial⟩⟩, ⟨⟨⟨trivial, trivial⟩, ⟨⟨trivial, trivial⟩, ⟨⟨trivial, ⟨trivial, ⟨trivial, ⟨trivial, ⟨h1, trivial⟩⟩⟩⟩⟩, ⟨⟨trivial, trivial⟩, trivial⟩⟩⟩⟩, ⟨⟨⟨trivial, trivial⟩, ⟨⟨trivial, trivial⟩, trivial⟩⟩, ⟨h2, ⟨⟨⟨trivial, trivial⟩, ⟨trivial, ⟨⟨trivial, trivial⟩, trivial⟩⟩⟩, trivial⟩⟩⟩⟩⟩, ⟨⟨trivial, ⟨trivial, trivial⟩⟩, trivial⟩⟩
theorem sl_0 (q : QK) (h1 : ((iN (gL q.g).length != iN (gL q.g).length) = false)) {post : Exit → St → Prop} (ht : T Try.prog 0 (.loop (loopC (bodyOf Try.f21) 0)) (St.mk 27 [(0, AV.lst (gL q.g)), (1, AV.lst (gL q.g)), (5, AV.int IntKind.i64 0)] []) (TK Try.prog 0 post (loopK (bodyOf Try.f21) 0))) : ∃ o' st' q', go Try.prog ({ dec := [(10, false)], els := e21 q, calls := cW q, unroll := false } : HT) 0 4000 (.inl (bodyOf Try.f21)) [] (st21 q) = some (o', st', q') ∧ q' ∧ Go.AX.Rest Try.prog 0 post st' o' :=
  endR_spec (σ := []) (fz := []) (vars := [0,1,5]) (show endR 0 [] [] [0,1,5] (go Try.prog ({ dec := [(10, false)], els := e21 q, calls := cW q, unroll := false } : HT) 0 4000 (.inl (bodyOf Try.f21)) [] (st21 q)) = some (loopC (bodyOf Try.f21) 0, loopK (bodyOf Try.f21) 0, St.mk 27 [(0, AV.lst (gL q.g)), (1, AV.lst (gL q.g)), (5, AV.int IntKind.i64 0)] [], (((True ∧ True) ∧ (((True ∧ True) ∧ ((True ∧ True) ∧ ((True ∧ True) ∧ ((True ∧ True) ∧ ((True ∧ (True ∧ True)) ∧ True))))) ∧ ((type_of% h1) ∧ ((True ∧ True) ∧ True)))) ∧ (True ∧ (True ∧ (True ∧ True))))) by kernel_rfl) ⟨⟨⟨trivial, trivial⟩, ⟨⟨⟨trivial, trivial⟩, ⟨⟨trivial, trivial⟩, ⟨⟨trivial, trivial⟩, ⟨⟨trivial, trivial⟩, ⟨⟨trivial, ⟨trivial, trivial⟩⟩, trivial⟩⟩⟩⟩⟩, ⟨h1, ⟨⟨trivial, trivial⟩, trivial⟩⟩⟩⟩, ⟨trivial, ⟨trivial, ⟨trivial, trivial⟩⟩⟩⟩ ht
theorem slx_0 (q : QK) (h1 : (decide (iN q.i < iN (gL q.g).length) = false)) : ∃ o' st' q', go2 Try.prog ({ dec := [(14, false)], els := e21 q, calls := cW q, unroll := false } : HT) 0 4000 (loopC (bodyOf Try.f21) 0) (loopK (bodyOf Try.f21) 0) (lo21 q) = some (o', st', q') ∧ q' ∧ Go.AX.Rest Try.prog 0 (Fin Try.prog Try.f21 0 [] (AV.bool true)) st' o' :=
  endF_spec (σ := []) (fz := []) (show endF Try.prog Try.f21 0 [] [] (go2 Try.prog ({ dec := [(14, false)], els := e21 q, calls := cW q, unroll := false } : HT) 0 4000 (loopC (bodyOf Try.f21) 0) (loopK (bodyOf Try.f21) 0) (lo21 q)) = some ([], AV.bool true, (((((True ∧ True) ∧ ((True ∧ True) ∧ ((True ∧ True) ∧ ((True ∧ (True ∧ True)) ∧ True)))) ∧ ((type_of% h1) ∧ True)) ∧ ((True ∧ True) ∧ True)) ∧ (True ∧ True))) by kernel_rfl) ⟨⟨⟨⟨⟨trivial, trivial⟩, ⟨⟨trivial, trivial⟩, ⟨⟨trivial, trivial⟩, ⟨⟨trivial, ⟨trivial, trivial⟩⟩, trivial⟩⟩⟩⟩, ⟨h1, trivial⟩⟩, ⟨⟨trivial, trivial⟩, trivial⟩⟩, ⟨trivial, trivial⟩⟩
theorem slr_0 (q : QK) (h1 : (decide (iN q.i < iN (gL q.g).length) = true)) (h2 : (0 ≤ iN q.i)) (h3 : ((gL q.g)[(iN q.i).toNat]? = some (AV.lst (List.map (AV.int IntKind.i64) q.r)))) (h4 : (CT Try.prog 16 [] [AV.lst (List.map (AV.int IntKind.i64) q.r), AV.lst (List.map (AV.int IntKind.i64) q.r)] [] (AV.bool true))) {post : Exit → St → Prop} {R : St → Prop} (hR : ∀ st, Ren 0 st (St.mk 27 [(0, AV.lst (gL q.g)), (1, AV.lst (gL q.g)), (5, AV.int IntKind.i64 (IntKind.i64.wrap (iN q.i + 1)))] []) → R st) : ∃ o' st' q', go Try.prog ({ dec := [(14, true)], els := e21 q, calls := cW q, unroll := false } : HT) 0 4000 (.inl (loopC (bodyOf Try.f21) 0)) [] (lo21 q) = some (o', st', q') ∧ q' ∧ Go.AX.Rest Try.prog 0 (andThen R post) st' o' :=
  endN_spec (σ := []) (fz := []) (vars := [0,1,5]) (show endN 0 [] [] [0,1,5] (go Try.prog ({ dec := [(14, true)], els := e21 q, calls := cW q, unroll := false } : HT) 0 4000 (.inl (loopC (bodyOf Try.f21) 0)) [] (lo21 q)) = some (St.mk 27 [(0, AV.lst (gL q.g)), (1, AV.lst (gL q.g)), (5, AV.int IntKind.i64 (IntKind.i64.wrap (iN q.i + 1)))] [], ((((True ∧ True) ∧ ((True ∧ True) ∧ ((True ∧ True) ∧ ((True ∧ (True ∧ True)) ∧ True)))) ∧ ((type_of% h1) ∧ (((True ∧ True) ∧ ((True ∧ True) ∧ ((True ∧ (True ∧ ((type_of% h2) ∧ (type_of% h3)))) ∧ ((True ∧ True) ∧ ((True ∧ True) ∧ ((True ∧ True) ∧ ((True ∧ (True ∧ ((type_of% h2) ∧ (type_of% h3)))) ∧ ((True ∧ True) ∧ ((True ∧ (True ∧ (True ∧ (True ∧ ((type_of% h4) ∧ True))))) ∧ ((True ∧ True) ∧ True)))))))))) ∧ (True ∧ (((True ∧ True) ∧ ((True ∧ True) ∧ ((True ∧ True) ∧ True))) ∧ True))))) ∧ (True ∧ (True ∧ (True ∧ True))))) by kernel_rfl) ⟨⟨⟨⟨trivial, trivial⟩, ⟨⟨trivial, trivial⟩, ⟨⟨trivial, trivial⟩, ⟨⟨trivial, ⟨trivial, trivial⟩⟩, trivial⟩⟩⟩⟩, ⟨h1, ⟨⟨⟨trivial, trivial⟩, ⟨⟨trivial, trivial⟩, ⟨⟨trivial, ⟨trivial, ⟨h2, h3⟩⟩⟩, ⟨⟨trivial, trivial⟩, ⟨⟨trivial, trivial⟩, ⟨⟨trivial, trivial⟩, ⟨⟨trivial, ⟨trivial, ⟨h2, h3⟩⟩⟩, ⟨⟨trivial, trivial⟩, ⟨⟨trivial, ⟨trivial, ⟨trivial, ⟨trivial, ⟨h4, trivial⟩⟩⟩⟩⟩, ⟨⟨trivial, trivial⟩, trivial⟩⟩⟩⟩⟩⟩⟩⟩⟩⟩, ⟨trivial, ⟨⟨⟨trivial, trivial⟩, ⟨⟨trivial, trivial⟩, ⟨⟨trivial, trivial⟩, trivial⟩⟩⟩, trivial⟩⟩⟩⟩⟩, ⟨trivial, ⟨trivial, ⟨trivial, trivial⟩⟩⟩⟩ hR
end Go.Proofs.Ytnpmcikbnnlmkaa

/-! Routes: hops and paths. -/
open Go Go.AX Go.Proofs
set_option maxRecDepth 100000
set_option maxHeartbeats 1000000
set_option linter.unusedVariables false
set_option linter.unusedSimpArgs false
namespace Go.Proofs.Ytnpmcikbnnlmkaa
theorem Lev.occ {g : List (List Int)} {s : List Bool} (hg : OkG g s) {goal k : Nat} {d : List Int} (h : Lev g s goal k d) {v m : Nat} (hv : v < g.length) (hm : d.getD v 0 = (m : Int)) : ∀ j, j ≤ m → ((m - j : Nat) : Int) ∈ d := by
  have occ : ∀ j, j ≤ m → ∃ u, u < g.length ∧ d.getD u 0 = ((m - j : Nat) : Int) := by
    intro j
    induction j with
    | zero => intro _; exact ⟨v, hv, by rw [hm]; rfl⟩
    | succ j ih =>
      intro hj
      obtain ⟨u, hu, he⟩ := ih (by omega)
      rcases h.back u hu (by omega) with rfl | ⟨_, w, hw, h1, h2⟩
      · rw [h.zero] at he; omega
      · have := (hg.row u hu).2 w hw
        exact ⟨w.toNat, by omega, by omega⟩
  intro j hj
  obtain ⟨u, hu, he⟩ := occ j hj
  rw [← he, List.getD_eq_getElem?_getD, List.getElem?_eq_getElem (by rw [h.len]; exact hu)]
  exact List.getElem_mem _

/-- The last round changes nothing. -/
theorem last_round {g : List (List Int)} {s : List Bool} (hg : OkG g s) {goal k : Nat} (hk : k + 1 = g.length) {d : List Int} (h : Lev g s goal k d) : roundL g s d k = d := by
  apply List.ext_getElem (by rw [roundL_len])
  intro v h1 h2
  have hv : v < g.length := by rw [← h.len]; exact h2
  have e := round_get hg d h.len k v hv
  rw [List.getD_eq_getElem?_getD, List.getElem?_eq_getElem h1] at e
  have e2 : d.getD v 0 = d[v] := by rw [List.getD_eq_getElem?_getD, List.getElem?_eq_getElem h2]; rfl
  show (roundL g s d k)[v] = d[v]
  rw [← e2]
  refine Eq.trans e ?_
  unfold rdV
  by_cases c1 : s.getD v false = true
  · rw [if_pos c1]
  · rw [if_neg c1]
    by_cases c2 : 0 ≤ d.getD v 0
    · rw [if_pos c2]
    · rw [if_neg c2]
      by_cases c3 : ((g.getD v []).any fun w => d.getD w.toNat 0 == (k : Int)) = true
      · exfalso
        obtain ⟨w, hw, he⟩ := List.any_eq_true.1 c3
        have hwr := (hg.row v hv).2 w hw
        have occ := h.occ hg (v := w.toNat) (m := k) (by omega) (by simpa using he)
        have hb := (h.bnd v hv).1
        have hneg : (-1 : Int) ∈ d := by
          have : d.getD v 0 = -1 := by omega
          rw [← this, e2]; exact List.getElem_mem _
        have nd : ((-1 : Int) :: (List.range (k + 1)).map (fun j : Nat => (j : Int))).Nodup := by
          refine List.nodup_cons.2 ⟨fun hm => ?_, List.pairwise_map.2 ((List.nodup_range (n := k + 1)).imp fun hne e => hne (Int.ofNat_inj.1 e))⟩
          obtain ⟨j, _, hj⟩ := List.mem_map.1 hm
          omega
        have := nodup_len nd fun x hx => by
          rcases List.mem_cons.1 hx with rfl | hx
          · exact hneg
          · obtain ⟨j, hj, rfl⟩ := List.mem_map.1 hx
            have hj := List.mem_range.1 hj
            have := occ (k - j) (by omega)
            rwa [show k - (k - j) = j by omega] at this
        simp only [List.length_cons, List.length_map, List.length_range, h.len] at this
        omega
      · rw [if_neg c3]

theorem dist_eq {g : List (List Int)} {s : List Bool} (hg : OkG g s) {goal : Nat} (hgo : goal < g.length) : distL g s goal (g.length - 1) = distL g s goal g.length := by
  unfold distL
  by_cases hs : s.getD goal false = true
  · rw [if_pos hs, if_pos hs]
  · rw [if_neg hs, if_neg hs]
    obtain ⟨k, hk⟩ : ∃ k, k + 1 = g.length := ⟨g.length - 1, by omega⟩
    rw [← hk, Nat.add_sub_cancel, range_fold]
    exact (last_round hg hk (Lev.run hg hgo k)).symm

theorem fnd_false {p : Nat → Bool} : ∀ {n s : Nat}, (∀ i, s ≤ i → i < s + n → p i = false) → fnd p s n = none := by
  intro n
  induction n with
  | zero => intro s _; rfl
  | succ n ih => intro s h; rw [fnd, h s (Nat.le_refl _) (by omega)]; exact ih fun i h1 h2 => h i (by omega) (by omega)
theorem fnd_some {p : Nat → Bool} : ∀ {n s j : Nat}, fnd p s n = some j → p j = true ∧ s ≤ j ∧ j < s + n := by
  intro n
  induction n with
  | zero => intro s j h; cases h
  | succ n ih =>
    intro s j h
    rw [fnd] at h
    cases hp : p s with
    | true => rw [hp] at h; cases h; exact ⟨hp, Nat.le_refl _, by omega⟩
    | false => rw [hp] at h; obtain ⟨a, b, c⟩ := ih h; exact ⟨a, by omega, by omega⟩

/-- A hop is one step nearer. -/
theorem hop_ok {g : List (List Int)} {s : List Bool} (hg : OkG g s) {goal : Nat} {d : List Int} (hD : Dst g s goal d) {u : Nat} (hu : u < g.length) (h0 : 0 < d.getD u 0) (hgd : s.getD goal false = false) : 0 ≤ hopZ g d u ∧ hopZ g d u < (g.length : Int) ∧ d.getD (hopZ g d u).toNat 0 = d.getD u 0 - 1 := by
  unfold hopZ
  cases hf : fnd (hopP g d u) 0 (g.getD u []).length with
  | some i =>
    obtain ⟨a, _, b⟩ := fnd_some hf
    obtain ⟨w, hw, hw1, _⟩ := row_get hg hu (i := i) (by omega)
    unfold hopP at a
    simp only [Bool.and_eq_true, decide_eq_true_eq, beq_iff_eq] at a
    show 0 ≤ (g.getD u []).getD i 0 ∧ (g.getD u []).getD i 0 < (g.length : Int) ∧ d.getD ((g.getD u []).getD i 0).toNat 0 = _
    exact ⟨by omega, by omega, a.2⟩
  | none =>
    exfalso
    rcases hD.back u hu (by omega) with rfl | ⟨_, w, hw, h1, h2⟩
    · rw [hD.zero hgd] at h0; omega
    · obtain ⟨i, hi, rfl⟩ := List.mem_iff_getElem.1 hw
      have hn := fnd_none hf i (Nat.zero_le _) (by omega)
      have e : (g.getD u []).getD i 0 = (g.getD u [])[i] := by rw [List.getD_eq_getElem?_getD (l := g.getD u []), List.getElem?_eq_getElem hi]; rfl
      unfold hopP at hn
      rw [e, decide_eq_true h0, Bool.true_and] at hn
      have : d.getD ((g.getD u [])[i]).toNat 0 = d.getD u 0 - 1 := by omega
      rw [this] at hn
      simp at hn

theorem wk_ok {g : List (List Int)} {s : List Bool} (hg : OkG g s) {goal : Nat} (hgo : goal < g.length) {d : List Int} (hD : Dst g s goal d) {a m : Nat} (ha : a < g.length) (hm : d.getD a 0 = (m : Int)) (hgd : s.getD goal false = false) :
    ∀ k, k ≤ m → 0 ≤ wkZ g d a k ∧ wkZ g d a k < (g.length : Int) ∧ d.getD (wkZ g d a k).toNat 0 = ((m - k : Nat) : Int) := by
  intro k
  induction k with
  | zero => intro _; exact ⟨by simp [wkZ], by simp only [wkZ]; omega, by simp only [wkZ, Int.toNat_natCast]; rw [hm]; rfl⟩
  | succ k ih =>
    intro hk
    obtain ⟨h1, h2, h3⟩ := ih (by omega)
    obtain ⟨g1, g2, g3⟩ := hop_ok hg hD (u := (wkZ g d a k).toNat) (by omega) (by omega) hgd
    exact ⟨g1, g2, by rw [wkZ, g3, h3]; omega⟩

/-- Only the goal has distance zero. -/
theorem zero_goal {g : List (List Int)} {s : List Bool} {goal : Nat} {d : List Int} (hD : Dst g s goal d) {v : Nat} (hv : v < g.length) (h0 : d.getD v 0 = 0) : v = goal := by
  rcases hD.back v hv (by omega) with e | ⟨_, w, _, h1, h2⟩
  · exact e
  · omega
#print axioms wk_ok
#print axioms dist_eq
end Go.Proofs.Ytnpmcikbnnlmkaa

/-! Routes: the reference's distances. -/
open Go Go.AX Go.Proofs
set_option maxRecDepth 100000
set_option maxHeartbeats 1000000
set_option linter.unusedVariables false
set_option linter.unusedSimpArgs false
namespace Go.Proofs.Ytnpmcikbnnlmkaa
theorem wrapM (far : Nat) (h : far < 1000000) : IntKind.i64.wrap (iN (far + 1) - 1) = (far : Int) := by
  have e1 : (2 : Int) ^ IntKind.i64.bits = 18446744073709551616 := by decide
  have e2 : (2 : Int) ^ (IntKind.i64.bits - 1) = 9223372036854775808 := by decide
  have e3 : IntKind.i64.signed = true := by decide
  simp only [IntKind.wrap, e1, e2, e3, Bool.true_and, decide_eq_true_eq, iN]
  split <;> omega

theorem rc_run {g : List (List Int)} {s : List Bool} (hg : OkG g s) (goal far v : Nat) (d : List Int) (hd : d.length = g.length) (hf : far < 1000) (hv : v < g.length) {R : St → Prop} {post : Exit → St → Prop}
    (hR : ∀ st, Ren 0 st (lb30 (qd g s goal (edgesL (g.getD v []) v far d) far (v + 1) 0 [])) → R st) :
    T Try.prog 0 (.loop (loopC (loopC (loopC (bodyOf Try.f30) 1) 0) 0)) (lc30 (qd g s goal d far v 0 (g.getD v []))) (TK Try.prog 0 (andThen R post) (loopK (loopC (loopC (bodyOf Try.f30) 1) 0) 0)) := by
  obtain ⟨hr1, hr2⟩ := hg.row v hv
  have hgl := hg.len
  have hrow := gL_get hv
  generalize g.getD v [] = r at hR hr1 hr2 hrow
  have hrl := lI_len r
  refine T.loop (fun i : Nat => lc30 (qd g s goal ((r.take i).foldl (edgeF v far) d) far v i r)) (fun i => i ≤ r.length) (fun i => r.length + 1 - i) 0 (Nat.zero_le _) ?_
  intro i hi
  have hdl : ((r.take i).foldl (edgeF v far) d).length = g.length := by rw [foldl_len (edgeF_len v far), hd]
  by_cases h : i < r.length
  · obtain ⟨w0, w1, _⟩ := hr2 r[i] (List.getElem_mem h)
    obtain ⟨w, hw⟩ : ∃ w : Nat, r[i] = (w : Int) := ⟨r[i].toNat, by omega⟩
    have hwn : w < g.length := by omega
    have hget : (r.map (AV.int .i64))[i]? = some (.int .i64 (w : Int)) := by rw [List.getElem?_map, List.getElem?_eq_getElem h, hw]; rfl
    have hstep := take_fold (edgeF v far) r d i h
    generalize hdd : (r.take i).foldl (edgeF v far) d = d' at hdl hstep
    rw [hw] at hstep
    have hml := lI_len d'
    by_cases he : (d'.getD w 0 == (far : Int)) = true
    · refine T.path mix (rcr_0 ⟨g, s, goal, g.length, d', far, v, i, r, w, false, d'.getD w 0⟩ (by simp [iN]) hrow (decide_eq_true (by simp only [iN, hrl]; omega)) (by simp [iN]) hget (by simp [iN]) (by simp [iN]; omega) (lI_get0 (l := d') (j := w) (by omega)) (by simp only [wrapM far (show far < 1000000 by omega)]; exact he) (by simp [iN]; omega) (by simp [iN, hml]; omega) ?_)
      intro st hst
      refine ⟨i + 1, ?_, h, by omega⟩
      have e : edgeF v far d' ((w : Nat) : Int) = d'.set v ((far + 1 : Nat) : Int) := by unfold edgeF; rw [Int.toNat_natCast, if_pos he]
      rw [hstep, e]
      simp only [iN, Int.toNat_natCast, wrap_nat i (show i < 9223372036854775807 by omega)] at hst
      rw [map_set] at hst
      exact hst
    · have hne := he
      have he := Bool.eq_false_iff.2 he
      refine T.path mix (rcr_1 ⟨g, s, goal, g.length, d', far, v, i, r, w, false, d'.getD w 0⟩ (by simp [iN]) hrow (decide_eq_true (by simp only [iN, hrl]; omega)) (by simp [iN]) hget (by simp [iN]) (by simp [iN]; omega) (lI_get0 (l := d') (j := w) (by omega)) (by simp only [wrapM far (show far < 1000000 by omega)]; exact he) ?_)
      intro st hst
      refine ⟨i + 1, ?_, h, by omega⟩
      have e : edgeF v far d' ((w : Nat) : Int) = d' := by unfold edgeF; rw [Int.toNat_natCast, if_neg hne]
      rw [hstep, e]
      simp only [iN, wrap_nat i (show i < 9223372036854775807 by omega)] at hst
      exact hst
  · have hti : r.take i = r := List.take_of_length_le (by omega)
    refine T.out mix (rcx_0 (qd g s goal ((r.take i).foldl (edgeF v far) d) far v i r) (by simp [iN]) hrow (decide_eq_false (by simp only [iN, qd, hrl]; omega)) ?_)
    intro st hst
    refine hR st ?_
    rw [hti] at hst
    simp only [iN, qd, wrap_nat v (show v < 9223372036854775807 by omega)] at hst
    exact hst

theorem rb_run {g : List (List Int)} {s : List Bool} (hg : OkG g s) (goal far : Nat) (d : List Int) (hd : d.length = g.length) (hf : far < 1000) {R : St → Prop} {post : Exit → St → Prop}
    (hR : ∀ st, Ren 0 st (la30 (qd g s goal (roundL g s d far) (far + 1) 0 0 [])) → R st) :
    T Try.prog 0 (.loop (loopC (loopC (bodyOf Try.f30) 1) 0)) (lb30 (qd g s goal d far 0 0 [])) (TK Try.prog 0 (andThen R post) (loopK (loopC (bodyOf Try.f30) 1) 0)) := by
  have hgl := hg.len
  have hl := gL_len g
  refine T.loop (fun v : Nat => lb30 (qd g s goal ((List.range v).foldl (vertF g s far) d) far v 0 [])) (fun v => v ≤ g.length) (fun v => g.length + 1 - v) 0 (Nat.zero_le _) ?_
  intro v hv
  have hdl : ((List.range v).foldl (vertF g s far) d).length = g.length := by rw [foldl_len (vertF_len g s far), hd]
  by_cases h : v < g.length
  · have hstep := range_fold (vertF g s far) d v
    generalize (List.range v).foldl (vertF g s far) d = d' at hdl hstep
    have hb := boL_get (s := s) (v := v) (by rw [hg.sh]; exact h)
    have d1 : ∀ q : QD, q.g = g → q.v = v → decide (iN q.v < iN (gL q.g).length) = true := fun q e1 e2 => decide_eq_true (by rw [e1, e2]; simp only [iN, hl]; omega)
    have next : ∀ (d'' : List Int) (st : St), vertF g s far d' v = d'' → Ren 0 st (lb30 (qd g s goal d'' far (v + 1) 0 [])) → ∃ j, Ren 0 st (lb30 (qd g s goal ((List.range j).foldl (vertF g s far) d) far j 0 [])) ∧ j ≤ g.length ∧ g.length + 1 - j < g.length + 1 - v := by
      intro d'' st e hst
      refine ⟨v + 1, ?_, h, by omega⟩
      rw [hstep, e]; exact hst
    by_cases hs : s.getD v false = true
    · refine T.path mix (rbn_0 ⟨g, s, goal, g.length, d', far, v, 0, [], 0, s.getD v false, 0⟩ (d1 _ rfl rfl) (by simp [iN]) hb hs ?_)
      intro st hst
      simp only [iN, wrap_nat v (show v < 9223372036854775807 by omega)] at hst
      exact next d' st (by unfold vertF; rw [if_pos hs]) hst
    · by_cases hd0 : decide (0 ≤ d'.getD v 0) = true
      · refine T.path mix (rbn_1 ⟨g, s, goal, g.length, d', far, v, 0, [], 0, s.getD v false, d'.getD v 0⟩ (d1 _ rfl rfl) (by simp [iN]) hb (Bool.eq_false_iff.2 hs) (by simp [iN]; omega) (lI_get0 (l := d') (j := v) (by omega)) hd0 ?_)
        intro st hst
        simp only [iN, wrap_nat v (show v < 9223372036854775807 by omega)] at hst
        exact next d' st (by unfold vertF; rw [if_neg hs, if_pos hd0]) hst
      · refine T.path mix (rbi_0 ⟨g, s, goal, g.length, d', far, v, 0, g.getD v [], 0, s.getD v false, d'.getD v 0⟩ (d1 _ rfl rfl) (by simp [iN]) hb (Bool.eq_false_iff.2 hs) (by simp [iN]; omega) (lI_get0 (l := d') (j := v) (by omega)) (Bool.eq_false_iff.2 hd0) ?_)
        exact rc_run hg goal far v d' hdl hf h (R := fun st' => ∃ j, Ren 0 st' (lb30 (qd g s goal ((List.range j).foldl (vertF g s far) d) far j 0 [])) ∧ j ≤ g.length ∧ g.length + 1 - j < g.length + 1 - v) (post := TK Try.prog 0 (andThen R post) (loopK (loopC (bodyOf Try.f30) 1) 0)) fun st hst => next _ st (by unfold vertF; rw [if_neg hs, if_neg hd0]) hst
  · obtain rfl : v = g.length := by omega
    refine T.out mix (rbx_0 (qd g s goal ((List.range g.length).foldl (vertF g s far) d) far g.length 0 []) (decide_eq_false (by simp only [iN, qd, hl]; omega)) ?_)
    intro st hst
    refine hR st ?_
    simp only [iN, qd, wrap_nat (far + 1) (show far + 1 < 9223372036854775807 by omega)] at hst
    exact hst

theorem rdist_ct {g : List (List Int)} {s : List Bool} (hg : OkG g s) (goal : Nat) (hgo : goal < g.length) : CT Try.prog 30 [] [.lst (gL g), .lst (boL s), .int .i64 (goal : Nat)] [] (lI (distL g s goal (g.length - 1))) := by
  have hgl := hg.len
  have hl := gL_len g
  refine CT.path mix Try.func30 (show Try.f30.body = some (bodyOf Try.f30) by kernel_rfl) (Nat.le_of_ble_eq_true rfl) (ri_0 (qd g s goal [] 0 0 0 []) (Int.le_refl _) (by simp only [qd, iN, hl]; omega) (by simp only [qd, iN, hl]; omega) ?_)
  have hb := boL_get (s := s) (v := goal) (by rw [hg.sh]; exact hgo)
  have key : T Try.prog 0 (.loop (loopC (bodyOf Try.f30) 0)) (lf30 (qd g s goal (fillL g.length 0) 0 0 0 [])) (TK Try.prog 0 (Fin Try.prog Try.f30 0 [] (lI (distL g s goal (g.length - 1)))) (loopK (bodyOf Try.f30) 0)) := by
    refine T.loop (fun i : Nat => lf30 (qd g s goal (fillL g.length i) 0 0 i [])) (fun i => i ≤ g.length) (fun i => g.length + 1 - i) 0 (Nat.zero_le _) ?_
    intro i hi
    by_cases h : i < g.length
    · refine T.path mix (rfr_0 (qd g s goal (fillL g.length i) 0 0 i []) (decide_eq_true (by simp only [iN, qd, hl]; omega)) (by simp [iN]) (by simp [iN, qd]; omega) (by simp [iN, qd, fillL_len]; omega) ?_)
      intro st hst
      refine ⟨i + 1, ?_, h, by omega⟩
      simp only [iN, qd, Int.toNat_natCast, wrap_nat i (show i < 9223372036854775807 by omega)] at hst
      rw [map_set, fillL_set _ _ h] at hst
      exact hst
    · obtain rfl : i = g.length := by omega
      by_cases hs : s.getD goal false = true
      · have k := rfs_0 ⟨g, s, goal, g.length, fillL g.length g.length, 0, 0, g.length, [], 0, s.getD goal false, 0⟩ (decide_eq_false (by simp only [iN, hl]; omega)) (by simp [iN]) hb hs (by simp [fillL_len])
        have e : distL g s goal (g.length - 1) = fillL g.length g.length := by unfold distL; rw [if_pos hs, fillL_n]
        rw [e]
        exact T.out mix k
      · have e : distL g s goal (g.length - 1) = (List.range (g.length - 1)).foldl (roundL g s) (dist0 g goal) := by unfold distL; rw [if_neg hs]
        refine T.out mix (rfx_0 ⟨g, s, goal, g.length, fillL g.length g.length, 0, 0, g.length, [], 0, s.getD goal false, 0⟩ (decide_eq_false (by simp only [iN, hl]; omega)) (by simp [iN]) hb (Bool.eq_false_iff.2 hs) (by simp [iN]; omega) (by simp [iN, fillL_len]; omega) ?_)
        simp only [iN, Int.toNat_natCast]
        rw [map_set, fillL_n, e]
        refine T.loop (fun far : Nat => la30 (qd g s goal ((List.range far).foldl (roundL g s) (dist0 g goal)) far 0 0 [])) (fun far => far ≤ g.length - 1) (fun far => g.length + 1 - far) 0 (Nat.zero_le _) ?_
        intro far hfar
        have hdl : ((List.range far).foldl (roundL g s) (dist0 g goal)).length = g.length := by rw [foldl_len (roundL_len g s), dist0_len]
        by_cases hf : far < g.length - 1
        · refine T.path mix (rai_0 (qd g s goal ((List.range far).foldl (roundL g s) (dist0 g goal)) far 0 0 []) (decide_eq_true (by simp only [iN, qd, hl]; omega)) ?_)
          refine rb_run hg goal far _ hdl (by omega) fun st hst => ⟨far + 1, ?_, hf, by omega⟩
          rw [range_fold]; exact hst
        · obtain rfl : far = g.length - 1 := by omega
          exact T.out mix (rax_0 (qd g s goal ((List.range (g.length - 1)).foldl (roundL g s) (dist0 g goal)) (g.length - 1) 0 0 []) (decide_eq_false (by simp only [iN, qd, hl]; omega)) (by simp [qd, hdl]))
  unfold lf30 qd dB at key
  simp only [qd, hl, fillL_0]
  exact key
#print axioms rdist_ct
end Go.Proofs.Ytnpmcikbnnlmkaa

/-! Routes: the reference's hops. -/
open Go Go.AX Go.Proofs
set_option maxRecDepth 100000
set_option maxHeartbeats 1000000
set_option linter.unusedVariables false
set_option linter.unusedSimpArgs false
namespace Go.Proofs.Ytnpmcikbnnlmkaa
def qw (g : List (List Int)) (s : List Bool) (d : List Int) (v w i : Nat) (r p : List Int) (x y : Int) : QK := ⟨g, s, d, v, w, 0, i, r, x, y, false, 0, p, []⟩

theorem set_set' (l : List Int) (v : Nat) (a b : Int) : (l.set v a).set v b = l.set v b := by rw [List.set_set]

theorem rhb_run {g : List (List Int)} {s : List Bool} (hg : OkG g s) (d : List Int) (hd : d.length = g.length) (hsm : Small d) (v : Nat) (hv : v < g.length) {R : St → Prop} {post : Exit → St → Prop}
    (hR : ∀ st, Ren 0 st (la32 (qw g s d (v + 1) 0 0 [] (fillH g d (v + 1)) 0 0)) → R st) :
    T Try.prog 0 (.loop (loopC (loopC (bodyOf Try.f32) 0) 0)) (lb32 (qw g s d v 0 (g.getD v []).length (g.getD v []) ((fillH g d v).set v (-1)) 0 0)) (TK Try.prog 0 (andThen R post) (loopK (loopC (bodyOf Try.f32) 0) 0)) := by
  have hgl := hg.len
  have hr1 := (hg.row v hv).1
  have hrow := gL_get hv
  have hget := fun i => row_get hg hv (i := i)
  have hdv := hsm.get (v := v) (by omega)
  have hv1 := lI_get (l := d) (j := v) (by omega)
  have hz : hopZ g d v = hopR (g.getD v []) (fnd (hopP g d v) 0 (g.getD v []).length) := rfl
  have hP : ∀ i, hopP g d v i = (decide (0 < d.getD v 0) && (d.getD ((g.getD v []).getD i 0).toNat 0 == d.getD v 0 - 1)) := fun i => rfl
  have hfs := fillH_set g d v hv
  have hfl := fillH_len g d v
  generalize hopP g d v = pp at hz hP
  generalize g.getD v [] = r at hr1 hrow hget hP hz
  rw [hz] at hfs
  have fin : ∀ cur, cur = hopR r (fnd pp 0 r.length) → ∀ st, Ren 0 st (la32 (qw g s d (v + 1) 0 0 [] ((fillH g d v).set v cur) 0 0)) → R st := by
    intro cur hc st hst
    rw [hc, hfs] at hst
    exact hR st hst
  have lenS : ∀ cur : Int, ((fillH g d v).set v cur).length = g.length := by intro cur; simp [hfl]
  have wv : IntKind.i64.wrap (iN v + 1) = ((v + 1 : Nat) : Int) := wrap_nat v (by omega)
  refine T.loop (fun i : Nat => lb32 (qw g s d v 0 i r ((fillH g d v).set v (hopR r (fnd pp i (r.length - i)))) 0 0)) (fun i => i ≤ r.length) (fun i => i) r.length ?_ ?_ |> fun h => by
    simpa [fnd, hopR] using h
  · exact Nat.le_refl _
  intro i hi
  by_cases h0 : 0 < i
  · have hik : decide (0 ≤ iN i - 1) = true := decide_eq_true (by simp only [iN]; omega)
    by_cases hp : 0 < d.getD v 0
    · obtain ⟨w, hw, hw1, hw2⟩ := hget (i - 1) (by omega)
      have hg1 := lI_get (l := r) (j := i - 1) (by omega)
      rw [hw] at hg1
      have hidx : (iN i - 1).toNat = i - 1 := by simp only [iN]; omega
      have hw3 := lI_get (l := d) (j := w) (by omega)
      have hpi := hP (i - 1)
      rw [hw, Int.toNat_natCast, decide_eq_true hp, Bool.true_and] at hpi
      obtain ⟨m, hm⟩ : ∃ m : Nat, d.getD v 0 = (m : Int) := ⟨(d.getD v 0).toNat, by omega⟩
      have hwr : IntKind.i64.wrap (d.getD v 0 - 1) = d.getD v 0 - 1 := by rw [hm, wrapM1 m (by omega) (by omega)]; omega
      have hwi : IntKind.i64.wrap (iN i - 1 - 1) = iN (i - 1) - 1 := by
        by_cases h1 : 1 < i
        · have := wrapM1 (i - 1) (by omega) (by omega)
          have e : iN i - 1 - 1 = ((i - 1 : Nat) : Int) - 1 := by simp only [iN]; omega
          rw [e, this]; simp only [iN]; omega
        · obtain rfl : i = 1 := by omega
          exact wrapS _ (by decide) (by decide)
      have hf : fnd pp (i - 1) (r.length - (i - 1)) = (match pp (i - 1) with | true => some (i - 1) | false => fnd pp i (r.length - i)) := by
        have := fnd_step (p := pp) (s := i - 1) (k := r.length) (by omega)
        rwa [show i - 1 + 1 = i by omega] at this
      by_cases he : (d.getD w 0 == d.getD v 0 - 1) = true
      · rw [he] at hpi
        refine T.path mix (rhbr_0 ⟨g, s, d, v, w, 0, i, r, d.getD v 0, d.getD w 0, false, 0, (fillH g d v).set v (hopR r (fnd pp i (r.length - i))), []⟩ hik (by simp [iN]) hv1 (decide_eq_true hp) hrow (by simp only [iN]; omega) (by simp only [hidx]; exact hg1) (by simp [iN]) hw3 (by simp only [hwr]; exact he) (by simp [iN, hfl]; omega) (by simp [iN, hfl]; omega) ?_)
        intro st hst
        refine ⟨i - 1, ?_, by omega, by omega⟩
        simp only [iN, Int.toNat_natCast] at hst hwi
        rw [hwi, map_set, set_set'] at hst
        rw [hf, hpi]
        simp only [List.length_set] at hst
        unfold lb32 qw
        simp only [List.length_set]
        show Ren 0 st { n := _, fr := _, hp := [some (dB ((fillH g d v).set v (r.getD (i - 1) 0)))] }
        rw [hw]
        exact hst
      · have he := Bool.eq_false_iff.2 he
        rw [he] at hpi
        refine T.path mix (rhbr_1 ⟨g, s, d, v, w, 0, i, r, d.getD v 0, d.getD w 0, false, 0, (fillH g d v).set v (hopR r (fnd pp i (r.length - i))), []⟩ hik (by simp [iN]) hv1 (decide_eq_true hp) hrow (by simp only [iN]; omega) (by simp only [hidx]; exact hg1) (by simp [iN]) hw3 (by simp only [hwr]; exact he) ?_)
        intro st hst
        refine ⟨i - 1, ?_, by omega, by omega⟩
        simp only [iN] at hst hwi
        rw [hwi] at hst
        rw [hf, hpi]
        exact hst
    · have hall : ∀ j n', fnd pp j n' = none := fun j n' => fnd_false fun k _ _ => by rw [hP k, decide_eq_false hp, Bool.false_and]
      refine T.out mix (rhbx_0 ⟨g, s, d, v, 0, 0, i, r, d.getD v 0, 0, false, 0, (fillH g d v).set v (hopR r (fnd pp i (r.length - i))), []⟩ hik (by simp [iN]) hv1 (decide_eq_false hp) ?_)
      intro st hst
      simp only [wv] at hst
      refine fin (hopR r (fnd pp i (r.length - i))) (by rw [hall, hall]) st hst
  · obtain rfl : i = 0 := by omega
    refine T.out mix (rhbx_1 ⟨g, s, d, v, 0, 0, 0, r, 0, 0, false, 0, (fillH g d v).set v (hopR r (fnd pp 0 (r.length - 0))), []⟩ (by simp [iN]) ?_)
    intro st hst
    simp only [wv] at hst
    exact fin _ rfl st hst

theorem rhops_ct {g : List (List Int)} {s : List Bool} (hg : OkG g s) (goal : Nat) (hgo : goal < g.length) : CT Try.prog 32 [] [.lst (gL g), .lst (boL s), .int .i64 (goal : Nat)] [] (lI (hopsZ g (distL g s goal g.length))) := by
  have hgl := hg.len
  have hl := gL_len g
  have c0 := rdist_ct hg goal hgo
  rw [dist_eq hg hgo] at c0
  have hdl := distL_len g s goal g.length
  have hsm := distL_small g s goal g.length (by omega)
  generalize distL g s goal g.length = d at c0 hdl hsm
  refine CT.path mix Try.func32 (show Try.f32.body = some (bodyOf Try.f32) by kernel_rfl) (Nat.le_of_ble_eq_true rfl) (rh_0 ⟨g, s, d, goal, 0, 0, 0, [], 0, 0, false, 0, [], []⟩ c0 (Int.le_refl _) (by simp only [iN, hl]; omega) (by simp only [iN, hl]; omega) ?_)
  have key : T Try.prog 0 (.loop (loopC (bodyOf Try.f32) 0)) (la32 (qw g s d 0 0 0 [] (fillH g d 0) 0 0)) (TK Try.prog 0 (Fin Try.prog Try.f32 0 [] (lI (hopsZ g d))) (loopK (bodyOf Try.f32) 0)) := by
    refine T.loop (fun v : Nat => la32 (qw g s d v 0 0 [] (fillH g d v) 0 0)) (fun v => v ≤ g.length) (fun v => g.length + 1 - v) 0 (Nat.zero_le _) ?_
    intro v hv
    have hfl := fillH_len g d v
    by_cases h : v < g.length
    · have hr1 := (hg.row v h).1
      have ew : IntKind.i64.wrap (iN ((g.getD v []).map (AV.int .i64)).length - 1) = iN (g.getD v []).length - 1 := by
        rw [lI_len]
        by_cases h1 : 0 < (g.getD v []).length
        · have := wrapM1 _ h1 (by omega)
          simp only [iN]; rw [this]; omega
        · rw [show (g.getD v []).length = 0 by omega]; exact wrapS _ (by decide) (by decide)
      refine T.path mix (rhi_0 (qw g s d v 0 0 (g.getD v []) (fillH g d v) 0 0) (decide_eq_true (by simp only [iN, qw, hl]; omega)) (by simp [iN]) (by simp [iN, qw, hfl]; omega) (by simp [iN, qw, hfl]; omega) (gL_get h) ?_)
      have k := rhb_run hg d hdl hsm v h (R := fun st' => ∃ j, Ren 0 st' (la32 (qw g s d j 0 0 [] (fillH g d j) 0 0)) ∧ j ≤ g.length ∧ g.length + 1 - j < g.length + 1 - v) (post := TK Try.prog 0 (Fin Try.prog Try.f32 0 [] (lI (hopsZ g d))) (loopK (bodyOf Try.f32) 0)) fun st hst => ⟨v + 1, hst, h, by omega⟩
      simp only [qw, ew]
      rw [show (iN v).toNat = v from rfl, map_set]
      unfold lb32 qw at k
      simp only [List.length_set] at k
      exact k
    · obtain rfl : v = g.length := by omega
      have k := rhx_0 (qw g s d g.length 0 0 [] (fillH g d g.length) 0 0) (decide_eq_false (by simp only [iN, qw, hl]; omega)) (by simp [qw])
      rw [← fillH_n]
      exact T.out mix k
  unfold la32 qw dB at key
  simp only [fillH_len, fillH_0 g d] at key
  simp only [hl, fillH_0 g d]
  exact key
#print axioms rhops_ct
end Go.Proofs.Ytnpmcikbnnlmkaa


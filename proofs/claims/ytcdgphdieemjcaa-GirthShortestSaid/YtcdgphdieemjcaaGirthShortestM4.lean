/- Parts of the proof: Rt13p, RtC, RtD. -/
import Derived.Test.YtcdgphdieemjcaaProg
import Derived.KernelRfl
import Derived.Test.YtcdgphdieemjcaaGirthShortestM3
/-! The paths of a function, by evaluation. -/
open Go Go.AX Go.Proofs
set_option maxRecDepth 100000
set_option maxHeartbeats 4000000
set_option linter.unusedVariables false
namespace Go.Proofs.Ytcdgphdieemjcaa
structure QB where
  g : List (List Int)
  s : List Bool
  goal : Nat
  n : Nat
  d : List Int
  o : List Int
  w : Nat
  v : Nat
  r : List Int
  i : Nat
  u : Nat
  x : Int
  y : Int
  bz : Int
  sb : Bool
  p : List Int
def cB (q : QB) : Nat → FuncId → List AV → List (Option Blk) → Hint := fun dst f args hp => match f with
  | 23 => .call [] [] [] (.int .i64 0)
  | 30 => .call [] [] [] (lI q.d)
  | 24 => .call [] [] [] (lI q.p)
  | _ => .no
noncomputable def st42 (q : QB) : St := { n := Try.f30.ntmps, fr := [(0, .lst (gL q.g)), (1, .lst (boL q.s)), (2, .int .i64 (iN q.goal))], hp := [] }
noncomputable def lf42 (q : QB) : St := { n := Try.f30.ntmps, fr := [(0, .lst (gL q.g)), (1, .lst (boL q.s)), (2, .int .i64 (iN q.goal)), (7, .sl 0 0 q.n), (19, .int .i64 (iN q.n)), (20, .int .i64 (iN q.i))], hp := [some (dB q.d)] }
noncomputable def lo42 (q : QB) : St := { n := Try.f30.ntmps, fr := [(0, .lst (gL q.g)), (1, .lst (boL q.s)), (7, .sl 0 0 q.n), (9, lI q.o)], hp := [some (dB q.d)] }
noncomputable def la42 (q : QB) : St := { n := Try.f30.ntmps, fr := [(0, .lst (gL q.g)), (1, .lst (boL q.s)), (7, .sl 0 0 q.n), (9, .lstc (q.o.map (AV.int .i64))), (10, .int .i64 (iN q.w)), (44, .lst (gL q.g)), (45, .int .i64 (iN q.n)), (46, .int .i64 (iN q.v))], hp := [some (dB q.d)] }
noncomputable def lb42 (q : QB) : St := { n := Try.f30.ntmps, fr := [(0, .lst (gL q.g)), (1, .lst (boL q.s)), (7, .sl 0 0 q.n), (9, .sl 1 0 q.o.length), (10, .int .i64 (iN q.w)), (44, .lst (gL q.g)), (45, .int .i64 (iN q.n)), (46, .int .i64 (iN q.v))], hp := [some (dB q.d), some (dB q.o)] }
noncomputable def lc42 (q : QB) : St := { n := Try.f30.ntmps, fr := [(0, .lst (gL q.g)), (1, .lst (boL q.s)), (7, .sl 0 0 q.n), (9, .lstc (q.o.map (AV.int .i64))), (10, .int .i64 (iN q.w)), (11, .int .i64 (iN q.v)), (44, .lst (gL q.g)), (45, .int .i64 (iN q.n)), (46, .int .i64 (iN q.v)), (62, lI q.r), (63, .int .i64 (iN q.r.length)), (64, .int .i64 (iN q.i))], hp := [some (dB q.d)] }
noncomputable def ld42 (q : QB) : St := { n := Try.f30.ntmps, fr := [(0, .lst (gL q.g)), (1, .lst (boL q.s)), (7, .sl 0 0 q.n), (9, .sl 1 0 q.o.length), (10, .int .i64 (iN q.w)), (11, .int .i64 (iN q.v)), (44, .lst (gL q.g)), (45, .int .i64 (iN q.n)), (46, .int .i64 (iN q.v)), (62, lI q.r), (63, .int .i64 (iN q.r.length)), (64, .int .i64 (iN q.i))], hp := [some (dB q.d), some (dB q.o)] }
def e42 (q : QB) : List (Nat × AV) := [(36, .int .i64 (iN q.w)), (49, lI q.r), (54, .int .i64 q.x), (59, .bool q.sb), (66, .int .i64 (iN q.u)), (76, .int .i64 q.x)]
noncomputable def st39 (q : QB) : St := { n := Try.f24.ntmps, fr := [(0, .lst (gL q.g)), (1, .lst (boL q.s)), (2, .int .i64 (iN q.goal))], hp := [] }
noncomputable def lo39 (q : QB) : St := { n := Try.f24.ntmps, fr := [(0, .lst (gL q.g)), (2, .int .i64 (iN q.goal)), (7, lI q.d), (8, .sl 0 0 q.p.length), (9, .int .i64 (iN q.v))], hp := [some (dB q.p)] }
noncomputable def li39 (q : QB) : St := { n := Try.f24.ntmps, fr := [(0, .lst (gL q.g)), (2, .int .i64 (iN q.goal)), (7, lI q.d), (8, .sl 0 0 q.p.length), (10, .int .i64 q.bz), (27, lI q.r), (28, .int .i64 (iN q.r.length)), (29, .int .i64 (iN q.i))], hp := [some (dB q.p)] }
def e39 (q : QB) : List (Nat × AV) := [(15, .bool q.sb), (26, lI q.r), (31, .int .i64 (iN q.u)), (35, .int .i64 q.x), (44, .int .i64 q.x), (48, .int .i64 q.y)]
noncomputable def st24 (q : QB) : St := { n := Try.f14.ntmps, fr := [(0, .lst (gL q.g)), (1, .lst (boL q.s)), (2, .int .i64 (iN q.goal))], hp := [] }
def e24 (q : QB) : List (Nat × AV) := []
theorem bi_0 (q : QB) (h1 : (iN (gL q.g).length ≤ iN (gL q.g).length)) (h2 : (8 * iN (gL q.g).length ≤ 281474976710656)) (h3 : (iN (gL q.g).length ≤ 9223372036854775807)) {post : Exit → St → Prop} (ht : T Try.prog 0 (.loop (loopC (bodyOf Try.f30) 0)) (St.mk 86 [(0, AV.lst (gL q.g)), (1, AV.lst (boL q.s)), (2, AV.int IntKind.i64 (iN q.goal)), (7, AV.sl 0 0 (gL q.g).length), (19, AV.int IntKind.i64 (iN (gL q.g).length)), (20, AV.int IntKind.i64 0)] [some (Blk.mk (List.replicate (gL q.g).length (AV.int IntKind.i64 0)) 1 true true)]) (TK Try.prog 0 post (loopK (bodyOf Try.f30) 0))) : ∃ o' st' q', go Try.prog ({ dec := [], els := e42 q, calls := cB q, unroll := false } : HT) 0 4000 (.inl (bodyOf Try.f30)) [] (st42 q) = some (o', st', q') ∧ q' ∧ Go.AX.Rest Try.prog 0 post st' o' :=
  endR_spec (σ := [0]) (fz := []) (vars := [0,1,2,7,19,20]) (show endR 0 [0] [] [0,1,2,7,19,20] (go Try.prog ({ dec := [], els := e42 q, calls := cB q, unroll := false } : HT) 0 4000 (.inl (bodyOf Try.f30)) [] (st42 q)) = some (loopC (bodyOf Try.f30) 0, loopK (bodyOf Try.f30) 0, St.mk 86 [(0, AV.lst (gL q.g)), (1, AV.lst (boL q.s)), (2, AV.int IntKind.i64 (iN q.goal)), (7, AV.sl 0 0 (gL q.g).length), (19, AV.int IntKind.i64 (iN (gL q.g).length)), (20, AV.int IntKind.i64 0)] [some (Blk.mk (List.replicate (gL q.g).length (AV.int IntKind.i64 0)) 1 true true)], (((True ∧ True) ∧ (((True ∧ True) ∧ ((True ∧ True) ∧ ((True ∧ (True ∧ ((0 ≤ iN (gL q.g).length) ∧ ((type_of% h1) ∧ ((type_of% h2) ∧ (type_of% h3)))))) ∧ ((True ∧ True) ∧ True)))) ∧ (((True ∧ True) ∧ ((True ∧ True) ∧ (True ∧ True))) ∧ True))) ∧ (True ∧ (True ∧ (True ∧ (True ∧ (True ∧ (True ∧ (True ∧ True))))))))) by kernel_rfl) ⟨⟨⟨trivial, trivial⟩, ⟨⟨⟨trivial, trivial⟩, ⟨⟨trivial, trivial⟩, ⟨⟨trivial, ⟨trivial, ⟨(Int.natCast_nonneg _), ⟨h1, ⟨h2, h3⟩⟩⟩⟩⟩, ⟨⟨trivial, trivial⟩, trivial⟩⟩⟩⟩, ⟨⟨⟨trivial, trivial⟩, ⟨⟨trivial, trivial⟩, ⟨trivial, trivial⟩⟩⟩, trivial⟩⟩⟩, ⟨trivial, ⟨trivial, ⟨trivial, ⟨trivial, ⟨trivial, ⟨trivial, ⟨trivial, trivial⟩⟩⟩⟩⟩⟩⟩⟩ ht
theorem bfr_0 (q : QB) (h1 : (decide (iN q.i < iN q.n) = true)) (h2 : (0 ≤ iN q.i)) (h3 : (iN q.i < iN q.n)) (h4 : ((0 + (iN q.i).toNat).succ.le (List.map (AV.int IntKind.i64) q.d).length)) {post : Exit → St → Prop} {R : St → Prop} (hR : ∀ st, Ren 0 st (St.mk 86 [(0, AV.lst (gL q.g)), (1, AV.lst (boL q.s)), (2, AV.int IntKind.i64 (iN q.goal)), (7, AV.sl 0 0 q.n), (19, AV.int IntKind.i64 (iN q.n)), (20, AV.int IntKind.i64 (IntKind.i64.wrap (iN q.i + 1)))] [some (Blk.mk ((List.map (AV.int IntKind.i64) q.d).set (0 + (iN q.i).toNat) (AV.int IntKind.i64 (-1))) 1 true true)]) → R st) : ∃ o' st' q', go Try.prog ({ dec := [(21, true)], els := e42 q, calls := cB q, unroll := false } : HT) 0 4000 (.inl (loopC (bodyOf Try.f30) 0)) [] (lf42 q) = some (o', st', q') ∧ q' ∧ Go.AX.Rest Try.prog 0 (andThen R post) st' o' :=
  endN_spec (σ := [0]) (fz := []) (vars := [0,1,2,7,19,20]) (show endN 0 [0] [] [0,1,2,7,19,20] (go Try.prog ({ dec := [(21, true)], els := e42 q, calls := cB q, unroll := false } : HT) 0 4000 (.inl (loopC (bodyOf Try.f30) 0)) [] (lf42 q)) = some (St.mk 86 [(0, AV.lst (gL q.g)), (1, AV.lst (boL q.s)), (2, AV.int IntKind.i64 (iN q.goal)), (7, AV.sl 0 0 q.n), (19, AV.int IntKind.i64 (iN q.n)), (20, AV.int IntKind.i64 (IntKind.i64.wrap (iN q.i + 1)))] [some (Blk.mk ((List.map (AV.int IntKind.i64) q.d).set (0 + (iN q.i).toNat) (AV.int IntKind.i64 (-1))) 1 true true)], ((((True ∧ (True ∧ True)) ∧ True) ∧ ((type_of% h1) ∧ (((True ∧ True) ∧ ((True ∧ True) ∧ True)) ∧ (((True ∧ True) ∧ ((True ∧ True) ∧ ((True ∧ (True ∧ ((type_of% h2) ∧ (type_of% h3)))) ∧ ((True ∧ (type_of% h4)) ∧ True)))) ∧ (((True ∧ True) ∧ ((True ∧ True) ∧ True)) ∧ True))))) ∧ (True ∧ (True ∧ (True ∧ (True ∧ (True ∧ (True ∧ (True ∧ True))))))))) by kernel_rfl) ⟨⟨⟨⟨trivial, ⟨trivial, trivial⟩⟩, trivial⟩, ⟨h1, ⟨⟨⟨trivial, trivial⟩, ⟨⟨trivial, trivial⟩, trivial⟩⟩, ⟨⟨⟨trivial, trivial⟩, ⟨⟨trivial, trivial⟩, ⟨⟨trivial, ⟨trivial, ⟨h2, h3⟩⟩⟩, ⟨⟨trivial, h4⟩, trivial⟩⟩⟩⟩, ⟨⟨⟨trivial, trivial⟩, ⟨⟨trivial, trivial⟩, trivial⟩⟩, trivial⟩⟩⟩⟩⟩, ⟨trivial, ⟨trivial, ⟨trivial, ⟨trivial, ⟨trivial, ⟨trivial, ⟨trivial, trivial⟩⟩⟩⟩⟩⟩⟩⟩ hR
theorem bfx_0 (q : QB) (h1 : (decide (iN q.i < iN q.n) = false)) (h2 : (0 ≤ iN q.goal)) (h3 : (iN q.goal < iN q.n)) (h4 : ((0 + (iN q.goal).toNat).succ.le (List.map (AV.int IntKind.i64) q.d).length)) (h5 : (1 = [AV.int IntKind.i64 (iN q.goal)].length)) {post : Exit → St → Prop} (ht : T Try.prog 0 (.loop (loopC (bodyOf Try.f30) 1)) (St.mk 86 [(0, AV.lst (gL q.g)), (1, AV.lst (boL q.s)), (7, AV.sl 0 0 q.n), (9, AV.lst [AV.int IntKind.i64 (iN q.goal)])] [some (Blk.mk ((List.map (AV.int IntKind.i64) q.d).set (0 + (iN q.goal).toNat) (AV.int IntKind.i64 0)) 1 true true)]) (TK Try.prog 0 post (loopK (bodyOf Try.f30) 1))) : ∃ o' st' q', go2 Try.prog ({ dec := [(21, false)], els := e42 q, calls := cB q, unroll := false } : HT) 0 4000 (loopC (bodyOf Try.f30) 0) (loopK (bodyOf Try.f30) 0) (lf42 q) = some (o', st', q') ∧ q' ∧ Go.AX.Rest Try.prog 0 post st' o' :=
  endR_spec (σ := [0]) (fz := [1]) (vars := [0,1,7,9]) (show endR 0 [0] [1] [0,1,7,9] (go2 Try.prog ({ dec := [(21, false)], els := e42 q, calls := cB q, unroll := false } : HT) 0 4000 (loopC (bodyOf Try.f30) 0) (loopK (bodyOf Try.f30) 0) (lf42 q)) = some (loopC (bodyOf Try.f30) 1, loopK (bodyOf Try.f30) 1, St.mk 86 [(0, AV.lst (gL q.g)), (1, AV.lst (boL q.s)), (7, AV.sl 0 0 q.n), (9, AV.lst [AV.int IntKind.i64 (iN q.goal)])] [some (Blk.mk ((List.map (AV.int IntKind.i64) q.d).set (0 + (iN q.goal).toNat) (AV.int IntKind.i64 0)) 1 true true)], (((((True ∧ (True ∧ True)) ∧ True) ∧ ((type_of% h1) ∧ True)) ∧ (((True ∧ True) ∧ ((True ∧ True) ∧ ((True ∧ (True ∧ ((type_of% h2) ∧ (type_of% h3)))) ∧ ((True ∧ (type_of% h4)) ∧ True)))) ∧ (((True ∧ True) ∧ ((True ∧ True) ∧ ((True ∧ True) ∧ True))) ∧ True))) ∧ (True ∧ (True ∧ (True ∧ ((type_of% h5) ∧ (True ∧ True))))))) by kernel_rfl) ⟨⟨⟨⟨⟨trivial, ⟨trivial, trivial⟩⟩, trivial⟩, ⟨h1, trivial⟩⟩, ⟨⟨⟨trivial, trivial⟩, ⟨⟨trivial, trivial⟩, ⟨⟨trivial, ⟨trivial, ⟨h2, h3⟩⟩⟩, ⟨⟨trivial, h4⟩, trivial⟩⟩⟩⟩, ⟨⟨⟨trivial, trivial⟩, ⟨⟨trivial, trivial⟩, ⟨⟨trivial, trivial⟩, trivial⟩⟩⟩, trivial⟩⟩⟩, ⟨trivial, ⟨trivial, ⟨trivial, ⟨h5, ⟨trivial, trivial⟩⟩⟩⟩⟩⟩ ht
theorem bo_0 (q : QB) (h1 : (decide (0 < iN (List.map (AV.int IntKind.i64) q.o).length) = true)) (h2 : ((List.map (AV.int IntKind.i64) q.o)[Int.toNat 0]? = some (AV.int IntKind.i64 (iN q.w)))) (h3 : (∀ (e : AV), e ∈ List.map (AV.int IntKind.i64) q.o → e.cells.length = 1)) (h4 : (1 ≤ iN (List.map (AV.int IntKind.i64) q.o).length)) (h5 : (iN (List.map (AV.int IntKind.i64) q.o).length ≤ iN (List.map (AV.int IntKind.i64) q.o).length)) {post : Exit → St → Prop} (ht : T Try.prog 0 (.loop (loopC (loopC (bodyOf Try.f30) 1) 0)) (St.mk 86 [(0, AV.lst (gL q.g)), (1, AV.lst (boL q.s)), (7, AV.sl 0 0 q.n), (9, AV.lstc (List.take ((List.map (AV.int IntKind.i64) q.o).length - Int.toNat 1) (List.drop (Int.toNat 1) (List.map (AV.int IntKind.i64) q.o)))), (10, AV.int IntKind.i64 (iN q.w)), (44, AV.lst (gL q.g)), (45, AV.int IntKind.i64 (iN (gL q.g).length)), (46, AV.int IntKind.i64 0)] [some (Blk.mk (List.map (AV.int IntKind.i64) q.d) 1 true true)]) (TK Try.prog 0 post (loopK (loopC (bodyOf Try.f30) 1) 0))) : ∃ o' st' q', go Try.prog ({ dec := [(34, true)], els := e42 q, calls := cB q, unroll := false } : HT) 0 4000 (.inl (loopC (bodyOf Try.f30) 1)) [] (lo42 q) = some (o', st', q') ∧ q' ∧ Go.AX.Rest Try.prog 0 post st' o' :=
  endR_spec (σ := [0]) (fz := []) (vars := [0,1,7,9,10,44,45,46]) (show endR 0 [0] [] [0,1,7,9,10,44,45,46] (go Try.prog ({ dec := [(34, true)], els := e42 q, calls := cB q, unroll := false } : HT) 0 4000 (.inl (loopC (bodyOf Try.f30) 1)) [] (lo42 q)) = some (loopC (loopC (bodyOf Try.f30) 1) 0, loopK (loopC (bodyOf Try.f30) 1) 0, St.mk 86 [(0, AV.lst (gL q.g)), (1, AV.lst (boL q.s)), (7, AV.sl 0 0 q.n), (9, AV.lstc (List.take ((List.map (AV.int IntKind.i64) q.o).length - Int.toNat 1) (List.drop (Int.toNat 1) (List.map (AV.int IntKind.i64) q.o)))), (10, AV.int IntKind.i64 (iN q.w)), (44, AV.lst (gL q.g)), (45, AV.int IntKind.i64 (iN (gL q.g).length)), (46, AV.int IntKind.i64 0)] [some (Blk.mk (List.map (AV.int IntKind.i64) q.d) 1 true true)], ((((True ∧ True) ∧ ((True ∧ True) ∧ ((True ∧ True) ∧ True))) ∧ ((type_of% h1) ∧ (((True ∧ True) ∧ ((True ∧ (((0 : Int) ≤ (0 : Int)) ∧ (type_of% h2))) ∧ ((True ∧ True) ∧ ((True ∧ True) ∧ True)))) ∧ (((True ∧ True) ∧ ((True ∧ True) ∧ ((True ∧ True) ∧ ((True ∧ True) ∧ ((True ∧ True) ∧ ((True ∧ (True ∧ (True ∧ ((type_of% h3) ∧ (((0 : Int) ≤ (1 : Int)) ∧ ((type_of% h4) ∧ ((iN (List.map (AV.int IntKind.i64) q.o).length = iN (List.map (AV.int IntKind.i64) q.o).length) ∧ (type_of% h5)))))))) ∧ ((True ∧ True) ∧ True))))))) ∧ (((True ∧ True) ∧ ((True ∧ True) ∧ (True ∧ True))) ∧ True))))) ∧ (True ∧ (True ∧ (True ∧ (True ∧ (True ∧ (True ∧ (True ∧ (True ∧ (True ∧ True))))))))))) by kernel_rfl) ⟨⟨⟨⟨trivial, trivial⟩, ⟨⟨trivial, trivial⟩, ⟨⟨trivial, trivial⟩, trivial⟩⟩⟩, ⟨h1, ⟨⟨⟨trivial, trivial⟩, ⟨⟨trivial, ⟨(by first | exact Nat.le_of_ble_eq_true rfl | decide), h2⟩⟩, ⟨⟨trivial, trivial⟩, ⟨⟨trivial, trivial⟩, trivial⟩⟩⟩⟩, ⟨⟨⟨trivial, trivial⟩, ⟨⟨trivial, trivial⟩, ⟨⟨trivial, trivial⟩, ⟨⟨trivial, trivial⟩, ⟨⟨trivial, trivial⟩, ⟨⟨trivial, ⟨trivial, ⟨trivial, ⟨h3, ⟨(by first | exact Nat.le_of_ble_eq_true rfl | decide), ⟨h4, ⟨rfl, h5⟩⟩⟩⟩⟩⟩⟩, ⟨⟨trivial, trivial⟩, trivial⟩⟩⟩⟩⟩⟩⟩, ⟨⟨⟨trivial, trivial⟩, ⟨⟨trivial, trivial⟩, ⟨trivial, trivial⟩⟩⟩, trivial⟩⟩⟩⟩⟩, ⟨trivial, ⟨trivial, ⟨trivial, ⟨trivial, ⟨trivial, ⟨trivial, ⟨trivial, ⟨trivial, ⟨trivial, trivial⟩⟩⟩⟩⟩⟩⟩⟩⟩⟩ ht
theorem box_0 (q : QB) (h1 : (decide (0 < iN (List.map (AV.int IntKind.i64) q.o).length) = false)) (h2 : (q.n = (List.map (AV.int IntKind.i64) q.d).length)) : ∃ o' st' q', go2 Try.prog ({ dec := [(34, false)], els := e42 q, calls := cB q, unroll := false } : HT) 0 4000 (loopC (bodyOf Try.f30) 1) (loopK (bodyOf Try.f30) 1) (lo42 q) = some (o', st', q') ∧ q' ∧ Go.AX.Rest Try.prog 0 (Fin Try.prog Try.f30 0 [] (AV.lst (List.map (AV.int IntKind.i64) q.d))) st' o' :=
  endF_spec (σ := []) (fz := [0]) (show endF Try.prog Try.f30 0 [] [0] (go2 Try.prog ({ dec := [(34, false)], els := e42 q, calls := cB q, unroll := false } : HT) 0 4000 (loopC (bodyOf Try.f30) 1) (loopK (bodyOf Try.f30) 1) (lo42 q)) = some ([], AV.lst (List.map (AV.int IntKind.i64) q.d), (((((True ∧ True) ∧ ((True ∧ True) ∧ ((True ∧ True) ∧ True))) ∧ ((type_of% h1) ∧ True)) ∧ (((True ∧ True) ∧ ((True ∧ True) ∧ True)) ∧ True)) ∧ ((type_of% h2) ∧ True))) by kernel_rfl) ⟨⟨⟨⟨⟨trivial, trivial⟩, ⟨⟨trivial, trivial⟩, ⟨⟨trivial, trivial⟩, trivial⟩⟩⟩, ⟨h1, trivial⟩⟩, ⟨⟨⟨trivial, trivial⟩, ⟨⟨trivial, trivial⟩, trivial⟩⟩, trivial⟩⟩, ⟨h2, trivial⟩⟩
theorem bax_0 (q : QB) (h1 : (decide (iN q.v < iN q.n) = false)) {post : Exit → St → Prop} {R : St → Prop} (hR : ∀ st, Ren 0 st (St.mk 86 [(0, AV.lst (gL q.g)), (1, AV.lst (boL q.s)), (7, AV.sl 0 0 q.n), (9, AV.lstc (List.map (AV.int IntKind.i64) q.o))] [some (Blk.mk (List.map (AV.int IntKind.i64) q.d) 1 true true)]) → R st) : ∃ o' st' q', go2 Try.prog ({ dec := [(47, false)], els := e42 q, calls := cB q, unroll := false } : HT) 0 4000 (loopC (loopC (bodyOf Try.f30) 1) 0) (loopK (loopC (bodyOf Try.f30) 1) 0) (la42 q) = some (o', st', q') ∧ q' ∧ Go.AX.Rest Try.prog 0 (andThen R post) st' o' :=
  endN_spec (σ := [0]) (fz := []) (vars := [0,1,7,9]) (show endN 0 [0] [] [0,1,7,9] (go2 Try.prog ({ dec := [(47, false)], els := e42 q, calls := cB q, unroll := false } : HT) 0 4000 (loopC (loopC (bodyOf Try.f30) 1) 0) (loopK (loopC (bodyOf Try.f30) 1) 0) (la42 q)) = some (St.mk 86 [(0, AV.lst (gL q.g)), (1, AV.lst (boL q.s)), (7, AV.sl 0 0 q.n), (9, AV.lstc (List.map (AV.int IntKind.i64) q.o))] [some (Blk.mk (List.map (AV.int IntKind.i64) q.d) 1 true true)], (((((True ∧ (True ∧ True)) ∧ True) ∧ ((type_of% h1) ∧ True)) ∧ True) ∧ (True ∧ (True ∧ (True ∧ (True ∧ (True ∧ True))))))) by kernel_rfl) ⟨⟨⟨⟨⟨trivial, ⟨trivial, trivial⟩⟩, trivial⟩, ⟨h1, trivial⟩⟩, trivial⟩, ⟨trivial, ⟨trivial, ⟨trivial, ⟨trivial, ⟨trivial, trivial⟩⟩⟩⟩⟩⟩ hR
theorem bbx_0 (q : QB) (h1 : (decide (iN q.v < iN q.n) = false)) (h2 : (q.o.length = (List.map (AV.int IntKind.i64) q.o).length)) {post : Exit → St → Prop} {R : St → Prop} (hR : ∀ st, Ren 0 st (St.mk 86 [(0, AV.lst (gL q.g)), (1, AV.lst (boL q.s)), (7, AV.sl 0 0 q.n), (9, AV.lst (List.map (AV.int IntKind.i64) q.o))] [some (Blk.mk (List.map (AV.int IntKind.i64) q.d) 1 true true)]) → R st) : ∃ o' st' q', go2 Try.prog ({ dec := [(47, false)], els := e42 q, calls := cB q, unroll := false } : HT) 0 4000 (loopC (loopC (bodyOf Try.f30) 1) 0) (loopK (loopC (bodyOf Try.f30) 1) 0) (lb42 q) = some (o', st', q') ∧ q' ∧ Go.AX.Rest Try.prog 0 (andThen R post) st' o' :=
  endN_spec (σ := [0]) (fz := [1]) (vars := [0,1,7,9]) (show endN 0 [0] [1] [0,1,7,9] (go2 Try.prog ({ dec := [(47, false)], els := e42 q, calls := cB q, unroll := false } : HT) 0 4000 (loopC (loopC (bodyOf Try.f30) 1) 0) (loopK (loopC (bodyOf Try.f30) 1) 0) (lb42 q)) = some (St.mk 86 [(0, AV.lst (gL q.g)), (1, AV.lst (boL q.s)), (7, AV.sl 0 0 q.n), (9, AV.lst (List.map (AV.int IntKind.i64) q.o))] [some (Blk.mk (List.map (AV.int IntKind.i64) q.d) 1 true true)], (((((True ∧ (True ∧ True)) ∧ True) ∧ ((type_of% h1) ∧ True)) ∧ True) ∧ (True ∧ (True ∧ (True ∧ ((type_of% h2) ∧ (True ∧ True))))))) by kernel_rfl) ⟨⟨⟨⟨⟨trivial, ⟨trivial, trivial⟩⟩, trivial⟩, ⟨h1, trivial⟩⟩, trivial⟩, ⟨trivial, ⟨trivial, ⟨trivial, ⟨h2, ⟨trivial, trivial⟩⟩⟩⟩⟩⟩ hR
theorem bas_0 (q : QB) (h1 : (decide (iN q.v < iN q.n) = true)) (h2 : (0 ≤ iN q.v)) (h3 : ((gL q.g)[(iN q.v).toNat]? = some (AV.lst (List.map (AV.int IntKind.i64) q.r)))) (h4 : (iN q.v < iN q.n)) (h5 : ((List.map (AV.int IntKind.i64) q.d)[0 + (iN q.v).toNat]? = some (AV.int IntKind.i64 q.x))) (h6 : (decide (0 ≤ q.x) = true)) {post : Exit → St → Prop} {R : St → Prop} (hR : ∀ st, Ren 0 st (St.mk 86 [(0, AV.lst (gL q.g)), (1, AV.lst (boL q.s)), (7, AV.sl 0 0 q.n), (9, AV.lstc (List.map (AV.int IntKind.i64) q.o)), (10, AV.int IntKind.i64 (iN q.w)), (44, AV.lst (gL q.g)), (45, AV.int IntKind.i64 (iN q.n)), (46, AV.int IntKind.i64 (IntKind.i64.wrap (iN q.v + 1)))] [some (Blk.mk (List.map (AV.int IntKind.i64) q.d) 1 true true)]) → R st) : ∃ o' st' q', go Try.prog ({ dec := [(47, true), (61, true), (56, true)], els := e42 q, calls := cB q, unroll := false } : HT) 0 4000 (.inl (loopC (loopC (bodyOf Try.f30) 1) 0)) [] (la42 q) = some (o', st', q') ∧ q' ∧ Go.AX.Rest Try.prog 0 (andThen R post) st' o' :=
  endN_spec (σ := [0]) (fz := []) (vars := [0,1,7,9,10,44,45,46]) (show endN 0 [0] [] [0,1,7,9,10,44,45,46] (go Try.prog ({ dec := [(47, true), (61, true), (56, true)], els := e42 q, calls := cB q, unroll := false } : HT) 0 4000 (.inl (loopC (loopC (bodyOf Try.f30) 1) 0)) [] (la42 q)) = some (St.mk 86 [(0, AV.lst (gL q.g)), (1, AV.lst (boL q.s)), (7, AV.sl 0 0 q.n), (9, AV.lstc (List.map (AV.int IntKind.i64) q.o)), (10, AV.int IntKind.i64 (iN q.w)), (44, AV.lst (gL q.g)), (45, AV.int IntKind.i64 (iN q.n)), (46, AV.int IntKind.i64 (IntKind.i64.wrap (iN q.v + 1)))] [some (Blk.mk (List.map (AV.int IntKind.i64) q.d) 1 true true)], ((((True ∧ (True ∧ True)) ∧ True) ∧ ((type_of% h1) ∧ (((True ∧ True) ∧ ((True ∧ (True ∧ ((type_of% h2) ∧ (type_of% h3)))) ∧ ((True ∧ True) ∧ ((True ∧ True) ∧ ((True ∧ True) ∧ True))))) ∧ (((True ∧ True) ∧ ((True ∧ True) ∧ ((True ∧ (True ∧ ((type_of% h2) ∧ (type_of% h4)))) ∧ ((True ∧ (type_of% h5)) ∧ ((True ∧ True) ∧ ((True ∧ True) ∧ ((type_of% h6) ∧ ((type_of% h6) ∧ ((type_of% h6) ∧ ((type_of% h6) ∧ (((type_of% h6) ∧ (True ∧ True)) ∧ True))))))))))) ∧ ((true = true) ∧ (((True ∧ True) ∧ ((True ∧ True) ∧ True)) ∧ True)))))) ∧ (True ∧ (True ∧ (True ∧ (True ∧ (True ∧ (True ∧ (True ∧ (True ∧ (True ∧ True))))))))))) by kernel_rfl) ⟨⟨⟨⟨trivial, ⟨trivial, trivial⟩⟩, trivial⟩, ⟨h1, ⟨⟨⟨trivial, trivial⟩, ⟨⟨trivial, ⟨trivial, ⟨h2, h3⟩⟩⟩, ⟨⟨trivial, trivial⟩, ⟨⟨trivial, trivial⟩, ⟨⟨trivial, trivial⟩, trivial⟩⟩⟩⟩⟩, ⟨⟨⟨trivial, trivial⟩, ⟨⟨trivial, trivial⟩, ⟨⟨trivial, ⟨trivial, ⟨h2, h4⟩⟩⟩, ⟨⟨trivial, h5⟩, ⟨⟨trivial, trivial⟩, ⟨⟨trivial, trivial⟩, ⟨h6, ⟨h6, ⟨h6, ⟨h6, ⟨⟨h6, ⟨trivial, trivial⟩⟩, trivial⟩⟩⟩⟩⟩⟩⟩⟩⟩⟩⟩, ⟨(by first | decide | exact Int.NonNeg.mk _), ⟨⟨⟨trivial, trivial⟩, ⟨⟨trivial, trivial⟩, trivial⟩⟩, trivial⟩⟩⟩⟩⟩⟩, ⟨trivial, ⟨trivial, ⟨trivial, ⟨trivial, ⟨trivial, ⟨trivial, ⟨trivial, ⟨trivial, ⟨trivial, trivial⟩⟩⟩⟩⟩⟩⟩⟩⟩⟩ hR
theorem bas_1 (q : QB) (h1 : (decide (iN q.v < iN q.n) = true)) (h2 : (0 ≤ iN q.v)) (h3 : ((gL q.g)[(iN q.v).toNat]? = some (AV.lst (List.map (AV.int IntKind.i64) q.r)))) (h4 : (iN q.v < iN q.n)) (h5 : ((List.map (AV.int IntKind.i64) q.d)[0 + (iN q.v).toNat]? = some (AV.int IntKind.i64 q.x))) (h6 : (decide (0 ≤ q.x) = false)) (h7 : ((boL q.s)[(iN q.v).toNat]? = some (AV.bool q.sb))) (h8 : (q.sb = true)) {post : Exit → St → Prop} {R : St → Prop} (hR : ∀ st, Ren 0 st (St.mk 86 [(0, AV.lst (gL q.g)), (1, AV.lst (boL q.s)), (7, AV.sl 0 0 q.n), (9, AV.lstc (List.map (AV.int IntKind.i64) q.o)), (10, AV.int IntKind.i64 (iN q.w)), (44, AV.lst (gL q.g)), (45, AV.int IntKind.i64 (iN q.n)), (46, AV.int IntKind.i64 (IntKind.i64.wrap (iN q.v + 1)))] [some (Blk.mk (List.map (AV.int IntKind.i64) q.d) 1 true true)]) → R st) : ∃ o' st' q', go Try.prog ({ dec := [(47, true), (61, true), (56, false)], els := e42 q, calls := cB q, unroll := false } : HT) 0 4000 (.inl (loopC (loopC (bodyOf Try.f30) 1) 0)) [] (la42 q) = some (o', st', q') ∧ q' ∧ Go.AX.Rest Try.prog 0 (andThen R post) st' o' :=
  endN_spec (σ := [0]) (fz := []) (vars := [0,1,7,9,10,44,45,46]) (show endN 0 [0] [] [0,1,7,9,10,44,45,46] (go Try.prog ({ dec := [(47, true), (61, true), (56, false)], els := e42 q, calls := cB q, unroll := false } : HT) 0 4000 (.inl (loopC (loopC (bodyOf Try.f30) 1) 0)) [] (la42 q)) = some (St.mk 86 [(0, AV.lst (gL q.g)), (1, AV.lst (boL q.s)), (7, AV.sl 0 0 q.n), (9, AV.lstc (List.map (AV.int IntKind.i64) q.o)), (10, AV.int IntKind.i64 (iN q.w)), (44, AV.lst (gL q.g)), (45, AV.int IntKind.i64 (iN q.n)), (46, AV.int IntKind.i64 (IntKind.i64.wrap (iN q.v + 1)))] [some (Blk.mk (List.map (AV.int IntKind.i64) q.d) 1 true true)], ((((True ∧ (True ∧ True)) ∧ True) ∧ ((type_of% h1) ∧ (((True ∧ True) ∧ ((True ∧ (True ∧ ((type_of% h2) ∧ (type_of% h3)))) ∧ ((True ∧ True) ∧ ((True ∧ True) ∧ ((True ∧ True) ∧ True))))) ∧ (((True ∧ True) ∧ ((True ∧ True) ∧ ((True ∧ (True ∧ ((type_of% h2) ∧ (type_of% h4)))) ∧ ((True ∧ (type_of% h5)) ∧ ((True ∧ True) ∧ ((True ∧ True) ∧ (((type_of% h6) ∧ (True ∧ True)) ∧ (((type_of% h6) ∧ (True ∧ True)) ∧ (((type_of% h6) ∧ (True ∧ (True ∧ ((type_of% h2) ∧ (type_of% h7))))) ∧ (((type_of% h6) ∧ (True ∧ True)) ∧ (((type_of% h6) ∧ (True ∧ True)) ∧ True))))))))))) ∧ ((type_of% h8) ∧ (((True ∧ True) ∧ ((True ∧ True) ∧ True)) ∧ True)))))) ∧ (True ∧ (True ∧ (True ∧ (True ∧ (True ∧ (True ∧ (True ∧ (True ∧ (True ∧ True))))))))))) by kernel_rfl) ⟨⟨⟨⟨trivial, ⟨trivial, trivial⟩⟩, trivial⟩, ⟨h1, ⟨⟨⟨trivial, trivial⟩, ⟨⟨trivial, ⟨trivial, ⟨h2, h3⟩⟩⟩, ⟨⟨trivial, trivial⟩, ⟨⟨trivial, trivial⟩, ⟨⟨trivial, trivial⟩, trivial⟩⟩⟩⟩⟩, ⟨⟨⟨trivial, trivial⟩, ⟨⟨trivial, trivial⟩, ⟨⟨trivial, ⟨trivial, ⟨h2, h4⟩⟩⟩, ⟨⟨trivial, h5⟩, ⟨⟨trivial, trivial⟩, ⟨⟨trivial, trivial⟩, ⟨⟨h6, ⟨trivial, trivial⟩⟩, ⟨⟨h6, ⟨trivial, trivial⟩⟩, ⟨⟨h6, ⟨trivial, ⟨trivial, ⟨h2, h7⟩⟩⟩⟩, ⟨⟨h6, ⟨trivial, trivial⟩⟩, ⟨⟨h6, ⟨trivial, trivial⟩⟩, trivial⟩⟩⟩⟩⟩⟩⟩⟩⟩⟩⟩, ⟨h8, ⟨⟨⟨trivial, trivial⟩, ⟨⟨trivial, trivial⟩, trivial⟩⟩, trivial⟩⟩⟩⟩⟩⟩, ⟨trivial, ⟨trivial, ⟨trivial, ⟨trivial, ⟨trivial, ⟨trivial, ⟨trivial, ⟨trivial, ⟨trivial, trivial⟩⟩⟩⟩⟩⟩⟩⟩⟩⟩ hR
theorem bbs_0 (q : QB) (h1 : (decide (iN q.v < iN q.n) = true)) (h2 : (0 ≤ iN q.v)) (h3 : ((gL q.g)[(iN q.v).toNat]? = some (AV.lst (List.map (AV.int IntKind.i64) q.r)))) (h4 : (iN q.v < iN q.n)) (h5 : ((List.map (AV.int IntKind.i64) q.d)[0 + (iN q.v).toNat]? = some (AV.int IntKind.i64 q.x))) (h6 : (decide (0 ≤ q.x) = true)) {post : Exit → St → Prop} {R : St → Prop} (hR : ∀ st, Ren 0 st (St.mk 86 [(0, AV.lst (gL q.g)), (1, AV.lst (boL q.s)), (7, AV.sl 0 0 q.n), (9, AV.sl 1 0 q.o.length), (10, AV.int IntKind.i64 (iN q.w)), (44, AV.lst (gL q.g)), (45, AV.int IntKind.i64 (iN q.n)), (46, AV.int IntKind.i64 (IntKind.i64.wrap (iN q.v + 1)))] [some (Blk.mk (List.map (AV.int IntKind.i64) q.d) 1 true true), some (Blk.mk (List.map (AV.int IntKind.i64) q.o) 1 true true)]) → R st) : ∃ o' st' q', go Try.prog ({ dec := [(47, true), (61, true), (56, true)], els := e42 q, calls := cB q, unroll := false } : HT) 0 4000 (.inl (loopC (loopC (bodyOf Try.f30) 1) 0)) [] (lb42 q) = some (o', st', q') ∧ q' ∧ Go.AX.Rest Try.prog 0 (andThen R post) st' o' :=
  endN_spec (σ := [0,1]) (fz := []) (vars := [0,1,7,9,10,44,45,46]) (show endN 0 [0,1] [] [0,1,7,9,10,44,45,46] (go Try.prog ({ dec := [(47, true), (61, true), (56, true)], els := e42 q, calls := cB q, unroll := false } : HT) 0 4000 (.inl (loopC (loopC (bodyOf Try.f30) 1) 0)) [] (lb42 q)) = some (St.mk 86 [(0, AV.lst (gL q.g)), (1, AV.lst (boL q.s)), (7, AV.sl 0 0 q.n), (9, AV.sl 1 0 q.o.length), (10, AV.int IntKind.i64 (iN q.w)), (44, AV.lst (gL q.g)), (45, AV.int IntKind.i64 (iN q.n)), (46, AV.int IntKind.i64 (IntKind.i64.wrap (iN q.v + 1)))] [some (Blk.mk (List.map (AV.int IntKind.i64) q.d) 1 true true), some (Blk.mk (List.map (AV.int IntKind.i64) q.o) 1 true true)], ((((True ∧ (True ∧ True)) ∧ True) ∧ ((type_of% h1) ∧ (((True ∧ True) ∧ ((True ∧ (True ∧ ((type_of% h2) ∧ (type_of% h3)))) ∧ ((True ∧ True) ∧ ((True ∧ True) ∧ ((True ∧ True) ∧ True))))) ∧ (((True ∧ True) ∧ ((True ∧ True) ∧ ((True ∧ (True ∧ ((type_of% h2) ∧ (type_of% h4)))) ∧ ((True ∧ (type_of% h5)) ∧ ((True ∧ True) ∧ ((True ∧ True) ∧ ((type_of% h6) ∧ ((type_of% h6) ∧ ((type_of% h6) ∧ ((type_of% h6) ∧ (((type_of% h6) ∧ (True ∧ True)) ∧ True))))))))))) ∧ ((true = true) ∧ (((True ∧ True) ∧ ((True ∧ True) ∧ True)) ∧ True)))))) ∧ (True ∧ (True ∧ (True ∧ (True ∧ (True ∧ (True ∧ (True ∧ (True ∧ (True ∧ (True ∧ True)))))))))))) by kernel_rfl) ⟨⟨⟨⟨trivial, ⟨trivial, trivial⟩⟩, trivial⟩, ⟨h1, ⟨⟨⟨trivial, trivial⟩, ⟨⟨trivial, ⟨trivial, ⟨h2, h3⟩⟩⟩, ⟨⟨trivial, trivial⟩, ⟨⟨trivial, trivial⟩, ⟨⟨trivial, trivial⟩, trivial⟩⟩⟩⟩⟩, ⟨⟨⟨trivial, trivial⟩, ⟨⟨trivial, trivial⟩, ⟨⟨trivial, ⟨trivial, ⟨h2, h4⟩⟩⟩, ⟨⟨trivial, h5⟩, ⟨⟨trivial, trivial⟩, ⟨⟨trivial, trivial⟩, ⟨h6, ⟨h6, ⟨h6, ⟨h6, ⟨⟨h6, ⟨trivial, trivial⟩⟩, trivial⟩⟩⟩⟩⟩⟩⟩⟩⟩⟩⟩, ⟨(by first | decide | exact Int.NonNeg.mk _), ⟨⟨⟨trivial, trivial⟩, ⟨⟨trivial, trivial⟩, trivial⟩⟩, trivial⟩⟩⟩⟩⟩⟩, ⟨trivial, ⟨trivial, ⟨trivial, ⟨trivial, ⟨trivial, ⟨trivial, ⟨trivial, ⟨trivial, ⟨trivial, ⟨trivial, trivial⟩⟩⟩⟩⟩⟩⟩⟩⟩⟩⟩ hR
theorem bbs_1 (q : QB) (h1 : (decide (iN q.v < iN q.n) = true)) (h2 : (0 ≤ iN q.v)) (h3 : ((gL q.g)[(iN q.v).toNat]? = some (AV.lst (List.map (AV.int IntKind.i64) q.r)))) (h4 : (iN q.v < iN q.n)) (h5 : ((List.map (AV.int IntKind.i64) q.d)[0 + (iN q.v).toNat]? = some (AV.int IntKind.i64 q.x))) (h6 : (decide (0 ≤ q.x) = false)) (h7 : ((boL q.s)[(iN q.v).toNat]? = some (AV.bool q.sb))) (h8 : (q.sb = true)) {post : Exit → St → Prop} {R : St → Prop} (hR : ∀ st, Ren 0 st (St.mk 86 [(0, AV.lst (gL q.g)), (1, AV.lst (boL q.s)), (7, AV.sl 0 0 q.n), (9, AV.sl 1 0 q.o.length), (10, AV.int IntKind.i64 (iN q.w)), (44, AV.lst (gL q.g)), (45, AV.int IntKind.i64 (iN q.n)), (46, AV.int IntKind.i64 (IntKind.i64.wrap (iN q.v + 1)))] [some (Blk.mk (List.map (AV.int IntKind.i64) q.d) 1 true true), some (Blk.mk (List.map (AV.int IntKind.i64) q.o) 1 true true)]) → R st) : ∃ o' st' q', go Try.prog ({ dec := [(47, true), (61, true), (56, false)], els := e42 q, calls := cB q, unroll := false } : HT) 0 4000 (.inl (loopC (loopC (bodyOf Try.f30) 1) 0)) [] (lb42 q) = some (o', st', q') ∧ q' ∧ Go.AX.Rest Try.prog 0 (andThen R post) st' o' :=
  endN_spec (σ := [0,1]) (fz := []) (vars := [0,1,7,9,10,44,45,46]) (show endN 0 [0,1] [] [0,1,7,9,10,44,45,46] (go Try.prog ({ dec := [(47, true), (61, true), (56, false)], els := e42 q, calls := cB q, unroll := false } : HT) 0 4000 (.inl (loopC (loopC (bodyOf Try.f30) 1) 0)) [] (lb42 q)) = some (St.mk 86 [(0, AV.lst (gL q.g)), (1, AV.lst (boL q.s)), (7, AV.sl 0 0 q.n), (9, AV.sl 1 0 q.o.length), (10, AV.int IntKind.i64 (iN q.w)), (44, AV.lst (gL q.g)), (45, AV.int IntKind.i64 (iN q.n)), (46, AV.int IntKind.i64 (IntKind.i64.wrap (iN q.v + 1)))] [some (Blk.mk (List.map (AV.int IntKind.i64) q.d) 1 true true), some (Blk.mk (List.map (AV.int IntKind.i64) q.o) 1 true true)], ((((True ∧ (True ∧ True)) ∧ True) ∧ ((type_of% h1) ∧ (((True ∧ True) ∧ ((True ∧ (True ∧ ((type_of% h2) ∧ (type_of% h3)))) ∧ ((True ∧ True) ∧ ((True ∧ True) ∧ ((True ∧ True) ∧ True))))) ∧ (((True ∧ True) ∧ ((True ∧ True) ∧ ((True ∧ (True ∧ ((type_of% h2) ∧ (type_of% h4)))) ∧ ((True ∧ (type_of% h5)) ∧ ((True ∧ True) ∧ ((True ∧ True) ∧ (((type_of% h6) ∧ (True ∧ True)) ∧ (((type_of% h6) ∧ (True ∧ True)) ∧ (((type_of% h6) ∧ (True ∧ (True ∧ ((type_of% h2) ∧ (type_of% h7))))) ∧ (((type_of% h6) ∧ (True ∧ True)) ∧ (((type_of% h6) ∧ (True ∧ True)) ∧ True))))))))))) ∧ ((type_of% h8) ∧ (((True ∧ True) ∧ ((True ∧ True) ∧ True)) ∧ True)))))) ∧ (True ∧ (True ∧ (True ∧ (True ∧ (True ∧ (True ∧ (True ∧ (True ∧ (True ∧ (True ∧ True)))))))))))) by kernel_rfl) ⟨⟨⟨⟨trivial, ⟨trivial, trivial⟩⟩, trivial⟩, ⟨h1, ⟨⟨⟨trivial, trivial⟩, ⟨⟨trivial, ⟨trivial, ⟨h2, h3⟩⟩⟩, ⟨⟨trivial, trivial⟩, ⟨⟨trivial, trivial⟩, ⟨⟨trivial, trivial⟩, trivial⟩⟩⟩⟩⟩, ⟨⟨⟨trivial, trivial⟩, ⟨⟨trivial, trivial⟩, ⟨⟨trivial, ⟨trivial, ⟨h2, h4⟩⟩⟩, ⟨⟨trivial, h5⟩, ⟨⟨trivial, trivial⟩, ⟨⟨trivial, trivial⟩, ⟨⟨h6, ⟨trivial, trivial⟩⟩, ⟨⟨h6, ⟨trivial, trivial⟩⟩, ⟨⟨h6, ⟨trivial, ⟨trivial, ⟨h2, h7⟩⟩⟩⟩, ⟨⟨h6, ⟨trivial, trivial⟩⟩, ⟨⟨h6, ⟨trivial, trivial⟩⟩, trivial⟩⟩⟩⟩⟩⟩⟩⟩⟩⟩⟩, ⟨h8, ⟨⟨⟨trivial, trivial⟩, ⟨⟨trivial, trivial⟩, trivial⟩⟩, trivial⟩⟩⟩⟩⟩⟩, ⟨trivial, ⟨trivial, ⟨trivial, ⟨trivial, ⟨trivial, ⟨trivial, ⟨trivial, ⟨trivial, ⟨trivial, ⟨trivial, trivial⟩⟩⟩⟩⟩⟩⟩⟩⟩⟩⟩ hR
theorem bai_0 (q : QB) (h1 : (decide (iN q.v < iN q.n) = true)) (h2 : (0 ≤ iN q.v)) (h3 : ((gL q.g)[(iN q.v).toNat]? = some (AV.lst (List.map (AV.int IntKind.i64) q.r)))) (h4 : (iN q.v < iN q.n)) (h5 : ((List.map (AV.int IntKind.i64) q.d)[0 + (iN q.v).toNat]? = some (AV.int IntKind.i64 q.x))) (h6 : (decide (0 ≤ q.x) = false)) (h7 : ((boL q.s)[(iN q.v).toNat]? = some (AV.bool q.sb))) (h8 : (q.sb = false)) {post : Exit → St → Prop} (ht : T Try.prog 0 (.loop (loopC (loopC (loopC (bodyOf Try.f30) 1) 0) 0)) (St.mk 86 [(0, AV.lst (gL q.g)), (1, AV.lst (boL q.s)), (7, AV.sl 0 0 q.n), (9, AV.lstc (List.map (AV.int IntKind.i64) q.o)), (10, AV.int IntKind.i64 (iN q.w)), (11, AV.int IntKind.i64 (iN q.v)), (44, AV.lst (gL q.g)), (45, AV.int IntKind.i64 (iN q.n)), (46, AV.int IntKind.i64 (iN q.v)), (62, AV.lst (List.map (AV.int IntKind.i64) q.r)), (63, AV.int IntKind.i64 (iN (List.map (AV.int IntKind.i64) q.r).length)), (64, AV.int IntKind.i64 0)] [some (Blk.mk (List.map (AV.int IntKind.i64) q.d) 1 true true)]) (TK Try.prog 0 post (loopK (loopC (loopC (bodyOf Try.f30) 1) 0) 0))) : ∃ o' st' q', go Try.prog ({ dec := [(47, true), (55, false), (60, false)], els := e42 q, calls := cB q, unroll := false } : HT) 0 4000 (.inl (loopC (loopC (bodyOf Try.f30) 1) 0)) [] (la42 q) = some (o', st', q') ∧ q' ∧ Go.AX.Rest Try.prog 0 post st' o' :=
  endR_spec (σ := [0]) (fz := []) (vars := [0,1,7,9,10,11,44,45,46,62,63,64]) (show endR 0 [0] [] [0,1,7,9,10,11,44,45,46,62,63,64] (go Try.prog ({ dec := [(47, true), (55, false), (60, false)], els := e42 q, calls := cB q, unroll := false } : HT) 0 4000 (.inl (loopC (loopC (bodyOf Try.f30) 1) 0)) [] (la42 q)) = some (loopC (loopC (loopC (bodyOf Try.f30) 1) 0) 0, loopK (loopC (loopC (bodyOf Try.f30) 1) 0) 0, St.mk 86 [(0, AV.lst (gL q.g)), (1, AV.lst (boL q.s)), (7, AV.sl 0 0 q.n), (9, AV.lstc (List.map (AV.int IntKind.i64) q.o)), (10, AV.int IntKind.i64 (iN q.w)), (11, AV.int IntKind.i64 (iN q.v)), (44, AV.lst (gL q.g)), (45, AV.int IntKind.i64 (iN q.n)), (46, AV.int IntKind.i64 (iN q.v)), (62, AV.lst (List.map (AV.int IntKind.i64) q.r)), (63, AV.int IntKind.i64 (iN (List.map (AV.int IntKind.i64) q.r).length)), (64, AV.int IntKind.i64 0)] [some (Blk.mk (List.map (AV.int IntKind.i64) q.d) 1 true true)], ((((True ∧ (True ∧ True)) ∧ True) ∧ ((type_of% h1) ∧ (((True ∧ True) ∧ ((True ∧ (True ∧ ((type_of% h2) ∧ (type_of% h3)))) ∧ ((True ∧ True) ∧ ((True ∧ True) ∧ ((True ∧ True) ∧ True))))) ∧ (((True ∧ True) ∧ ((True ∧ True) ∧ ((True ∧ (True ∧ ((type_of% h2) ∧ (type_of% h4)))) ∧ ((True ∧ (type_of% h5)) ∧ ((True ∧ True) ∧ (((type_of% h6) ∧ True) ∧ ((True ∧ (True ∧ True)) ∧ ((True ∧ (True ∧ True)) ∧ ((True ∧ (True ∧ (True ∧ ((type_of% h2) ∧ (type_of% h7))))) ∧ ((True ∧ (True ∧ True)) ∧ ((True ∧ ((type_of% h8) ∧ True)) ∧ True))))))))))) ∧ (True ∧ (((True ∧ True) ∧ ((True ∧ True) ∧ (True ∧ True))) ∧ True)))))) ∧ (True ∧ (True ∧ (True ∧ (True ∧ (True ∧ (True ∧ (True ∧ (True ∧ (True ∧ (True ∧ (True ∧ (True ∧ (True ∧ True))))))))))))))) by kernel_rfl) ⟨⟨⟨⟨trivial, ⟨trivial, trivial⟩⟩, trivial⟩, ⟨h1, ⟨⟨⟨trivial, trivial⟩, ⟨⟨trivial, ⟨trivial, ⟨h2, h3⟩⟩⟩, ⟨⟨trivial, trivial⟩, ⟨⟨trivial, trivial⟩, ⟨⟨trivial, trivial⟩, trivial⟩⟩⟩⟩⟩, ⟨⟨⟨trivial, trivial⟩, ⟨⟨trivial, trivial⟩, ⟨⟨trivial, ⟨trivial, ⟨h2, h4⟩⟩⟩, ⟨⟨trivial, h5⟩, ⟨⟨trivial, trivial⟩, ⟨⟨h6, trivial⟩, ⟨⟨trivial, ⟨trivial, trivial⟩⟩, ⟨⟨trivial, ⟨trivial, trivial⟩⟩, ⟨⟨trivial, ⟨trivial, ⟨trivial, ⟨h2, h7⟩⟩⟩⟩, ⟨⟨trivial, ⟨trivial, trivial⟩⟩, ⟨⟨trivial, ⟨h8, trivial⟩⟩, trivial⟩⟩⟩⟩⟩⟩⟩⟩⟩⟩⟩, ⟨trivial, ⟨⟨⟨trivial, trivial⟩, ⟨⟨trivial, trivial⟩, ⟨trivial, trivial⟩⟩⟩, trivial⟩⟩⟩⟩⟩⟩, ⟨trivial, ⟨trivial, ⟨trivial, ⟨trivial, ⟨trivial, ⟨trivial, ⟨trivial, ⟨trivial, ⟨trivial, ⟨trivial, ⟨trivial, ⟨trivial, ⟨trivial, trivial⟩⟩⟩⟩⟩⟩⟩⟩⟩⟩⟩⟩⟩⟩ ht
theorem bbi_0 (q : QB) (h1 : (decide (iN q.v < iN q.n) = true)) (h2 : (0 ≤ iN q.v)) (h3 : ((gL q.g)[(iN q.v).toNat]? = some (AV.lst (List.map (AV.int IntKind.i64) q.r)))) (h4 : (iN q.v < iN q.n)) (h5 : ((List.map (AV.int IntKind.i64) q.d)[0 + (iN q.v).toNat]? = some (AV.int IntKind.i64 q.x))) (h6 : (decide (0 ≤ q.x) = false)) (h7 : ((boL q.s)[(iN q.v).toNat]? = some (AV.bool q.sb))) (h8 : (q.sb = false)) {post : Exit → St → Prop} (ht : T Try.prog 0 (.loop (loopC (loopC (loopC (bodyOf Try.f30) 1) 0) 0)) (St.mk 86 [(0, AV.lst (gL q.g)), (1, AV.lst (boL q.s)), (7, AV.sl 0 0 q.n), (9, AV.sl 1 0 q.o.length), (10, AV.int IntKind.i64 (iN q.w)), (11, AV.int IntKind.i64 (iN q.v)), (44, AV.lst (gL q.g)), (45, AV.int IntKind.i64 (iN q.n)), (46, AV.int IntKind.i64 (iN q.v)), (62, AV.lst (List.map (AV.int IntKind.i64) q.r)), (63, AV.int IntKind.i64 (iN (List.map (AV.int IntKind.i64) q.r).length)), (64, AV.int IntKind.i64 0)] [some (Blk.mk (List.map (AV.int IntKind.i64) q.d) 1 true true), some (Blk.mk (List.map (AV.int IntKind.i64) q.o) 1 true true)]) (TK Try.prog 0 post (loopK (loopC (loopC (bodyOf Try.f30) 1) 0) 0))) : ∃ o' st' q', go Try.prog ({ dec := [(47, true), (55, false), (60, false)], els := e42 q, calls := cB q, unroll := false } : HT) 0 4000 (.inl (loopC (loopC (bodyOf Try.f30) 1) 0)) [] (lb42 q) = some (o', st', q') ∧ q' ∧ Go.AX.Rest Try.prog 0 post st' o' :=
  endR_spec (σ := [0,1]) (fz := []) (vars := [0,1,7,9,10,11,44,45,46,62,63,64]) (show endR 0 [0,1] [] [0,1,7,9,10,11,44,45,46,62,63,64] (go Try.prog ({ dec := [(47, true), (55, false), (60, false)], els := e42 q, calls := cB q, unroll := false } : HT) 0 4000 (.inl (loopC (loopC (bodyOf Try.f30) 1) 0)) [] (lb42 q)) = some (loopC (loopC (loopC (bodyOf Try.f30) 1) 0) 0, loopK (loopC (loopC (bodyOf Try.f30) 1) 0) 0, St.mk 86 [(0, AV.lst (gL q.g)), (1, AV.lst (boL q.s)), (7, AV.sl 0 0 q.n), (9, AV.sl 1 0 q.o.length), (10, AV.int IntKind.i64 (iN q.w)), (11, AV.int IntKind.i64 (iN q.v)), (44, AV.lst (gL q.g)), (45, AV.int IntKind.i64 (iN q.n)), (46, AV.int IntKind.i64 (iN q.v)), (62, AV.lst (List.map (AV.int IntKind.i64) q.r)), (63, AV.int IntKind.i64 (iN (List.map (AV.int IntKind.i64) q.r).length)), (64, AV.int IntKind.i64 0)] [some (Blk.mk (List.map (AV.int IntKind.i64) q.d) 1 true true), some (Blk.mk (List.map (AV.int IntKind.i64) q.o) 1 true true)], ((((True ∧ (True ∧ True)) ∧ True) ∧ ((type_of% h1) ∧ (((True ∧ True) ∧ ((True ∧ (True ∧ ((type_of% h2) ∧ (type_of% h3)))) ∧ ((True ∧ True) ∧ ((True ∧ True) ∧ ((True ∧ True) ∧ True))))) ∧ (((True ∧ True) ∧ ((True ∧ True) ∧ ((True ∧ (True ∧ ((type_of% h2) ∧ (type_of% h4)))) ∧ ((True ∧ (type_of% h5)) ∧ ((True ∧ True) ∧ (((type_of% h6) ∧ True) ∧ ((True ∧ (True ∧ True)) ∧ ((True ∧ (True ∧ True)) ∧ ((True ∧ (True ∧ (True ∧ ((type_of% h2) ∧ (type_of% h7))))) ∧ ((True ∧ (True ∧ True)) ∧ ((True ∧ ((type_of% h8) ∧ True)) ∧ True))))))))))) ∧ (True ∧ (((True ∧ True) ∧ ((True ∧ True) ∧ (True ∧ True))) ∧ True)))))) ∧ (True ∧ (True ∧ (True ∧ (True ∧ (True ∧ (True ∧ (True ∧ (True ∧ (True ∧ (True ∧ (True ∧ (True ∧ (True ∧ (True ∧ True)))))))))))))))) by kernel_rfl) ⟨⟨⟨⟨trivial, ⟨trivial, trivial⟩⟩, trivial⟩, ⟨h1, ⟨⟨⟨trivial, trivial⟩, ⟨⟨trivial, ⟨trivial, ⟨h2, h3⟩⟩⟩, ⟨⟨trivial, trivial⟩, ⟨⟨trivial, trivial⟩, ⟨⟨trivial, trivial⟩, trivial⟩⟩⟩⟩⟩, ⟨⟨⟨trivial, trivial⟩, ⟨⟨trivial, trivial⟩, ⟨⟨trivial, ⟨trivial, ⟨h2, h4⟩⟩⟩, ⟨⟨trivial, h5⟩, ⟨⟨trivial, trivial⟩, ⟨⟨h6, trivial⟩, ⟨⟨trivial, ⟨trivial, trivial⟩⟩, ⟨⟨trivial, ⟨trivial, trivial⟩⟩, ⟨⟨trivial, ⟨trivial, ⟨trivial, ⟨h2, h7⟩⟩⟩⟩, ⟨⟨trivial, ⟨trivial, trivial⟩⟩, ⟨⟨trivial, ⟨h8, trivial⟩⟩, trivial⟩⟩⟩⟩⟩⟩⟩⟩⟩⟩⟩, ⟨trivial, ⟨⟨⟨trivial, trivial⟩, ⟨⟨trivial, trivial⟩, ⟨trivial, trivial⟩⟩⟩, trivial⟩⟩⟩⟩⟩⟩, ⟨trivial, ⟨trivial, ⟨trivial, ⟨trivial, ⟨trivial, ⟨trivial, ⟨trivial, ⟨trivial, ⟨trivial, ⟨trivial, ⟨trivial, ⟨trivial, ⟨trivial, ⟨trivial, trivial⟩⟩⟩⟩⟩⟩⟩⟩⟩⟩⟩⟩⟩⟩⟩ ht
theorem bcx_0 (q : QB) (h1 : (decide (iN q.i < iN q.r.length) = false)) {post : Exit → St → Prop} {R : St → Prop} (hR : ∀ st, Ren 0 st (St.mk 86 [(0, AV.lst (gL q.g)), (1, AV.lst (boL q.s)), (7, AV.sl 0 0 q.n), (9, AV.lstc (List.map (AV.int IntKind.i64) q.o)), (10, AV.int IntKind.i64 (iN q.w)), (44, AV.lst (gL q.g)), (45, AV.int IntKind.i64 (iN q.n)), (46, AV.int IntKind.i64 (IntKind.i64.wrap (iN q.v + 1)))] [some (Blk.mk (List.map (AV.int IntKind.i64) q.d) 1 true true)]) → R st) : ∃ o' st' q', go2 Try.prog ({ dec := [(65, false)], els := e42 q, calls := cB q, unroll := false } : HT) 0 4000 (loopC (loopC (loopC (bodyOf Try.f30) 1) 0) 0) (loopK (loopC (loopC (bodyOf Try.f30) 1) 0) 0) (lc42 q) = some (o', st', q') ∧ q' ∧ Go.AX.Rest Try.prog 0 (andThen R post) st' o' :=
  endN_spec (σ := [0]) (fz := []) (vars := [0,1,7,9,10,44,45,46]) (show endN 0 [0] [] [0,1,7,9,10,44,45,46] (go2 Try.prog ({ dec := [(65, false)], els := e42 q, calls := cB q, unroll := false } : HT) 0 4000 (loopC (loopC (loopC (bodyOf Try.f30) 1) 0) 0) (loopK (loopC (loopC (bodyOf Try.f30) 1) 0) 0) (lc42 q)) = some (St.mk 86 [(0, AV.lst (gL q.g)), (1, AV.lst (boL q.s)), (7, AV.sl 0 0 q.n), (9, AV.lstc (List.map (AV.int IntKind.i64) q.o)), (10, AV.int IntKind.i64 (iN q.w)), (44, AV.lst (gL q.g)), (45, AV.int IntKind.i64 (iN q.n)), (46, AV.int IntKind.i64 (IntKind.i64.wrap (iN q.v + 1)))] [some (Blk.mk (List.map (AV.int IntKind.i64) q.d) 1 true true)], (((((True ∧ (True ∧ True)) ∧ True) ∧ ((type_of% h1) ∧ True)) ∧ (((True ∧ True) ∧ ((True ∧ True) ∧ True)) ∧ True)) ∧ (True ∧ (True ∧ (True ∧ (True ∧ (True ∧ (True ∧ (True ∧ (True ∧ (True ∧ True))))))))))) by kernel_rfl) ⟨⟨⟨⟨⟨trivial, ⟨trivial, trivial⟩⟩, trivial⟩, ⟨h1, trivial⟩⟩, ⟨⟨⟨trivial, trivial⟩, ⟨⟨trivial, trivial⟩, trivial⟩⟩, trivial⟩⟩, ⟨trivial, ⟨trivial, ⟨trivial, ⟨trivial, ⟨trivial, ⟨trivial, ⟨trivial, ⟨trivial, ⟨trivial, trivial⟩⟩⟩⟩⟩⟩⟩⟩⟩⟩ hR
theorem bdx_0 (q : QB) (h1 : (decide (iN q.i < iN q.r.length) = false)) {post : Exit → St → Prop} {R : St → Prop} (hR : ∀ st, Ren 0 st (St.mk 86 [(0, AV.lst (gL q.g)), (1, AV.lst (boL q.s)), (7, AV.sl 0 0 q.n), (9, AV.sl 1 0 q.o.length), (10, AV.int IntKind.i64 (iN q.w)), (44, AV.lst (gL q.g)), (45, AV.int IntKind.i64 (iN q.n)), (46, AV.int IntKind.i64 (IntKind.i64.wrap (iN q.v + 1)))] [some (Blk.mk (List.map (AV.int IntKind.i64) q.d) 1 true true), some (Blk.mk (List.map (AV.int IntKind.i64) q.o) 1 true true)]) → R st) : ∃ o' st' q', go2 Try.prog ({ dec := [(65, false)], els := e42 q, calls := cB q, unroll := false } : HT) 0 4000 (loopC (loopC (loopC (bodyOf Try.f30) 1) 0) 0) (loopK (loopC (loopC (bodyOf Try.f30) 1) 0) 0) (ld42 q) = some (o', st', q') ∧ q' ∧ Go.AX.Rest Try.prog 0 (andThen R post) st' o' :=
  endN_spec (σ := [0,1]) (fz := []) (vars := [0,1,7,9,10,44,45,46]) (show endN 0 [0,1] [] [0,1,7,9,10,44,45,46] (go2 Try.prog ({ dec := [(65, false)], els := e42 q, calls := cB q, unroll := false } : HT) 0 4000 (loopC (loopC (loopC (bodyOf Try.f30) 1) 0) 0) (loopK (loopC (loopC (bodyOf Try.f30) 1) 0) 0) (ld42 q)) = some (St.mk 86 [(0, AV.lst (gL q.g)), (1, AV.lst (boL q.s)), (7, AV.sl 0 0 q.n), (9, AV.sl 1 0 q.o.length), (10, AV.int IntKind.i64 (iN q.w)), (44, AV.lst (gL q.g)), (45, AV.int IntKind.i64 (iN q.n)), (46, AV.int IntKind.i64 (IntKind.i64.wrap (iN q.v + 1)))] [some (Blk.mk (List.map (AV.int IntKind.i64) q.d) 1 true true), some (Blk.mk (List.map (AV.int IntKind.i64) q.o) 1 true true)], (((((True ∧ (True ∧ True)) ∧ True) ∧ ((type_of% h1) ∧ True)) ∧ (((True ∧ True) ∧ ((True ∧ True) ∧ True)) ∧ True)) ∧ (True ∧ (True ∧ (True ∧ (True ∧ (True ∧ (True ∧ (True ∧ (True ∧ (True ∧ (True ∧ True)))))))))))) by kernel_rfl) ⟨⟨⟨⟨⟨trivial, ⟨trivial, trivial⟩⟩, trivial⟩, ⟨h1, trivial⟩⟩, ⟨⟨⟨trivial, trivial⟩, ⟨⟨trivial, trivial⟩, trivial⟩⟩, trivial⟩⟩, ⟨trivial, ⟨trivial, ⟨trivial, ⟨trivial, ⟨trivial, ⟨trivial, ⟨trivial, ⟨trivial, ⟨trivial, ⟨trivial, trivial⟩⟩⟩⟩⟩⟩⟩⟩⟩⟩⟩ hR
theorem bcn_0 (q : QB) (h1 : (decide (iN q.i < iN q.r.length) = true)) (h2 : (0 ≤ iN q.i)) (h3 : ((List.map (AV.int IntKind.i64) q.r)[(iN q.i).toNat]? = some (AV.int IntKind.i64 (iN q.u)))) (h4 : ((iN q.u == iN q.w) = false)) {post : Exit → St → Prop} {R : St → Prop} (hR : ∀ st, Ren 0 st (St.mk 86 [(0, AV.lst (gL q.g)), (1, AV.lst (boL q.s)), (7, AV.sl 0 0 q.n), (9, AV.lstc (List.map (AV.int IntKind.i64) q.o)), (10, AV.int IntKind.i64 (iN q.w)), (11, AV.int IntKind.i64 (iN q.v)), (44, AV.lst (gL q.g)), (45, AV.int IntKind.i64 (iN q.n)), (46, AV.int IntKind.i64 (iN q.v)), (62, AV.lst (List.map (AV.int IntKind.i64) q.r)), (63, AV.int IntKind.i64 (iN q.r.length)), (64, AV.int IntKind.i64 (IntKind.i64.wrap (iN q.i + 1)))] [some (Blk.mk (List.map (AV.int IntKind.i64) q.d) 1 true true)]) → R st) : ∃ o' st' q', go Try.prog ({ dec := [(65, true), (70, false)], els := e42 q, calls := cB q, unroll := false } : HT) 0 4000 (.inl (loopC (loopC (loopC (bodyOf Try.f30) 1) 0) 0)) [] (lc42 q) = some (o', st', q') ∧ q' ∧ Go.AX.Rest Try.prog 0 (andThen R post) st' o' :=
  endN_spec (σ := [0]) (fz := []) (vars := [0,1,7,9,10,11,44,45,46,62,63,64]) (show endN 0 [0] [] [0,1,7,9,10,11,44,45,46,62,63,64] (go Try.prog ({ dec := [(65, true), (70, false)], els := e42 q, calls := cB q, unroll := false } : HT) 0 4000 (.inl (loopC (loopC (loopC (bodyOf Try.f30) 1) 0) 0)) [] (lc42 q)) = some (St.mk 86 [(0, AV.lst (gL q.g)), (1, AV.lst (boL q.s)), (7, AV.sl 0 0 q.n), (9, AV.lstc (List.map (AV.int IntKind.i64) q.o)), (10, AV.int IntKind.i64 (iN q.w)), (11, AV.int IntKind.i64 (iN q.v)), (44, AV.lst (gL q.g)), (45, AV.int IntKind.i64 (iN q.n)), (46, AV.int IntKind.i64 (iN q.v)), (62, AV.lst (List.map (AV.int IntKind.i64) q.r)), (63, AV.int IntKind.i64 (iN q.r.length)), (64, AV.int IntKind.i64 (IntKind.i64.wrap (iN q.i + 1)))] [some (Blk.mk (List.map (AV.int IntKind.i64) q.d) 1 true true)], ((((True ∧ (True ∧ True)) ∧ True) ∧ ((type_of% h1) ∧ (((True ∧ (True ∧ ((type_of% h2) ∧ (type_of% h3)))) ∧ ((True ∧ True) ∧ ((True ∧ True) ∧ True))) ∧ (((True ∧ True) ∧ ((True ∧ True) ∧ ((True ∧ (True ∧ True)) ∧ True))) ∧ ((type_of% h4) ∧ (((True ∧ True) ∧ ((True ∧ True) ∧ True)) ∧ True)))))) ∧ (True ∧ (True ∧ (True ∧ (True ∧ (True ∧ (True ∧ (True ∧ (True ∧ (True ∧ (True ∧ (True ∧ (True ∧ (True ∧ True))))))))))))))) by kernel_rfl) ⟨⟨⟨⟨trivial, ⟨trivial, trivial⟩⟩, trivial⟩, ⟨h1, ⟨⟨⟨trivial, ⟨trivial, ⟨h2, h3⟩⟩⟩, ⟨⟨trivial, trivial⟩, ⟨⟨trivial, trivial⟩, trivial⟩⟩⟩, ⟨⟨⟨trivial, trivial⟩, ⟨⟨trivial, trivial⟩, ⟨⟨trivial, ⟨trivial, trivial⟩⟩, trivial⟩⟩⟩, ⟨h4, ⟨⟨⟨trivial, trivial⟩, ⟨⟨trivial, trivial⟩, trivial⟩⟩, trivial⟩⟩⟩⟩⟩⟩, ⟨trivial, ⟨trivial, ⟨trivial, ⟨trivial, ⟨trivial, ⟨trivial, ⟨trivial, ⟨trivial, ⟨trivial, ⟨trivial, ⟨trivial, ⟨trivial, ⟨trivial, trivial⟩⟩⟩⟩⟩⟩⟩⟩⟩⟩⟩⟩⟩⟩ hR
theorem bdn_0 (q : QB) (h1 : (decide (iN q.i < iN q.r.length) = true)) (h2 : (0 ≤ iN q.i)) (h3 : ((List.map (AV.int IntKind.i64) q.r)[(iN q.i).toNat]? = some (AV.int IntKind.i64 (iN q.u)))) (h4 : ((iN q.u == iN q.w) = false)) {post : Exit → St → Prop} {R : St → Prop} (hR : ∀ st, Ren 0 st (St.mk 86 [(0, AV.lst (gL q.g)), (1, AV.lst (boL q.s)), (7, AV.sl 0 0 q.n), (9, AV.sl 1 0 q.o.length), (10, AV.int IntKind.i64 (iN q.w)), (11, AV.int IntKind.i64 (iN q.v)), (44, AV.lst (gL q.g)), (45, AV.int IntKind.i64 (iN q.n)), (46, AV.int IntKind.i64 (iN q.v)), (62, AV.lst (List.map (AV.int IntKind.i64) q.r)), (63, AV.int IntKind.i64 (iN q.r.length)), (64, AV.int IntKind.i64 (IntKind.i64.wrap (iN q.i + 1)))] [some (Blk.mk (List.map (AV.int IntKind.i64) q.d) 1 true true), some (Blk.mk (List.map (AV.int IntKind.i64) q.o) 1 true true)]) → R st) : ∃ o' st' q', go Try.prog ({ dec := [(65, true), (70, false)], els := e42 q, calls := cB q, unroll := false } : HT) 0 4000 (.inl (loopC (loopC (loopC (bodyOf Try.f30) 1) 0) 0)) [] (ld42 q) = some (o', st', q') ∧ q' ∧ Go.AX.Rest Try.prog 0 (andThen R post) st' o' :=
  endN_spec (σ := [0,1]) (fz := []) (vars := [0,1,7,9,10,11,44,45,46,62,63,64]) (show endN 0 [0,1] [] [0,1,7,9,10,11,44,45,46,62,63,64] (go Try.prog ({ dec := [(65, true), (70, false)], els := e42 q, calls := cB q, unroll := false } : HT) 0 4000 (.inl (loopC (loopC (loopC (bodyOf Try.f30) 1) 0) 0)) [] (ld42 q)) = some (St.mk 86 [(0, AV.lst (gL q.g)), (1, AV.lst (boL q.s)), (7, AV.sl 0 0 q.n), (9, AV.sl 1 0 q.o.length), (10, AV.int IntKind.i64 (iN q.w)), (11, AV.int IntKind.i64 (iN q.v)), (44, AV.lst (gL q.g)), (45, AV.int IntKind.i64 (iN q.n)), (46, AV.int IntKind.i64 (iN q.v)), (62, AV.lst (List.map (AV.int IntKind.i64) q.r)), (63, AV.int IntKind.i64 (iN q.r.length)), (64, AV.int IntKind.i64 (IntKind.i64.wrap (iN q.i + 1)))] [some (Blk.mk (List.map (AV.int IntKind.i64) q.d) 1 true true), some (Blk.mk (List.map (AV.int IntKind.i64) q.o) 1 true true)], ((((True ∧ (True ∧ True)) ∧ True) ∧ ((type_of% h1) ∧ (((True ∧ (True ∧ ((type_of% h2) ∧ (type_of% h3)))) ∧ ((True ∧ True) ∧ ((True ∧ True) ∧ True))) ∧ (((True ∧ True) ∧ ((True ∧ True) ∧ ((True ∧ (True ∧ True)) ∧ True))) ∧ ((type_of% h4) ∧ (((True ∧ True) ∧ ((True ∧ True) ∧ True)) ∧ True)))))) ∧ (True ∧ (True ∧ (True ∧ (True ∧ (True ∧ (True ∧ (True ∧ (True ∧ (True ∧ (True ∧ (True ∧ (True ∧ (True ∧ (True ∧ True)))))))))))))))) by kernel_rfl) ⟨⟨⟨⟨trivial, ⟨trivial, trivial⟩⟩, trivial⟩, ⟨h1, ⟨⟨⟨trivial, ⟨trivial, ⟨h2, h3⟩⟩⟩, ⟨⟨trivial, trivial⟩, ⟨⟨trivial, trivial⟩, trivial⟩⟩⟩, ⟨⟨⟨trivial, trivial⟩, ⟨⟨trivial, trivial⟩, ⟨⟨trivial, ⟨trivial, trivial⟩⟩, trivial⟩⟩⟩, ⟨h4, ⟨⟨⟨trivial, trivial⟩, ⟨⟨trivial, trivial⟩, trivial⟩⟩, trivial⟩⟩⟩⟩⟩⟩, ⟨trivial, ⟨trivial, ⟨trivial, ⟨trivial, ⟨trivial, ⟨trivial, ⟨trivial, ⟨trivial, ⟨trivial, ⟨trivial, ⟨trivial, ⟨trivial, ⟨trivial, ⟨trivial, trivial⟩⟩⟩⟩⟩⟩⟩⟩⟩⟩⟩⟩⟩⟩⟩ hR
theorem bcm_0 (q : QB) (h1 : (decide (iN q.i < iN q.r.length) = true)) (h2 : (0 ≤ iN q.i)) (h3 : ((List.map (AV.int IntKind.i64) q.r)[(iN q.i).toNat]? = some (AV.int IntKind.i64 (iN q.u)))) (h4 : ((iN q.u == iN q.w) = true)) (h5 : (0 ≤ iN q.w)) (h6 : (iN q.w < iN q.n)) (h7 : ((List.map (AV.int IntKind.i64) q.d)[0 + (iN q.w).toNat]? = some (AV.int IntKind.i64 q.x))) (h8 : (0 ≤ iN q.v)) (h9 : (iN q.v < iN q.n)) (h10 : ((0 + (iN q.v).toNat).succ.le (List.map (AV.int IntKind.i64) q.d).length)) (h11 : (∀ (e : AV), e ∈ List.map (AV.int IntKind.i64) q.o → e.cells.length = 1)) (h12 : (1 ≤ [AV.int IntKind.i64 (iN q.v)].length)) (h13 : (0 < [AV.int IntKind.i64 (iN q.v)].length)) (h14 : ((List.map (AV.int IntKind.i64) q.o).length + [AV.int IntKind.i64 (iN q.v)].length ≤ 9223372036854775807)) (h15 : (((List.map (AV.int IntKind.i64) q.o).length + [AV.int IntKind.i64 (iN q.v)].length) * 8 ≤ 140737488355328)) {post : Exit → St → Prop} {R : St → Prop} (hR : ∀ st, Ren 0 st (St.mk 86 [(0, AV.lst (gL q.g)), (1, AV.lst (boL q.s)), (7, AV.sl 0 0 q.n), (9, AV.sl 1 0 ((List.map (AV.int IntKind.i64) q.o).length + [AV.int IntKind.i64 (iN q.v)].length)), (10, AV.int IntKind.i64 (iN q.w)), (11, AV.int IntKind.i64 (iN q.v)), (44, AV.lst (gL q.g)), (45, AV.int IntKind.i64 (iN q.n)), (46, AV.int IntKind.i64 (iN q.v)), (62, AV.lst (List.map (AV.int IntKind.i64) q.r)), (63, AV.int IntKind.i64 (iN q.r.length)), (64, AV.int IntKind.i64 (IntKind.i64.wrap (iN q.i + 1)))] [some (Blk.mk ((List.map (AV.int IntKind.i64) q.d).set (0 + (iN q.v).toNat) (AV.int IntKind.i64 (IntKind.i64.wrap (q.x + 1)))) 1 true true), some (Blk.mk (List.map (AV.int IntKind.i64) q.o ++ [AV.int IntKind.i64 (iN q.v)]) 1 true true)]) → R st) : ∃ o' st' q', go Try.prog ({ dec := [(65, true), (70, true)], els := e42 q, calls := cB q, unroll := false } : HT) 0 4000 (.inl (loopC (loopC (loopC (bodyOf Try.f30) 1) 0) 0)) [] (lc42 q) = some (o', st', q') ∧ q' ∧ Go.AX.Rest Try.prog 0 (andThen R post) st' o' :=
  endN_spec (σ := [0,2]) (fz := []) (vars := [0,1,7,9,10,11,44,45,46,62,63,64]) (show endN 0 [0,2] [] [0,1,7,9,10,11,44,45,46,62,63,64] (go Try.prog ({ dec := [(65, true), (70, true)], els := e42 q, calls := cB q, unroll := false } : HT) 0 4000 (.inl (loopC (loopC (loopC (bodyOf Try.f30) 1) 0) 0)) [] (lc42 q)) = some (St.mk 86 [(0, AV.lst (gL q.g)), (1, AV.lst (boL q.s)), (7, AV.sl 0 0 q.n), (9, AV.sl 1 0 ((List.map (AV.int IntKind.i64) q.o).length + [AV.int IntKind.i64 (iN q.v)].length)), (10, AV.int IntKind.i64 (iN q.w)), (11, AV.int IntKind.i64 (iN q.v)), (44, AV.lst (gL q.g)), (45, AV.int IntKind.i64 (iN q.n)), (46, AV.int IntKind.i64 (iN q.v)), (62, AV.lst (List.map (AV.int IntKind.i64) q.r)), (63, AV.int IntKind.i64 (iN q.r.length)), (64, AV.int IntKind.i64 (IntKind.i64.wrap (iN q.i + 1)))] [some (Blk.mk ((List.map (AV.int IntKind.i64) q.d).set (0 + (iN q.v).toNat) (AV.int IntKind.i64 (IntKind.i64.wrap (q.x + 1)))) 1 true true), some (Blk.mk (List.map (AV.int IntKind.i64) q.o ++ [AV.int IntKind.i64 (iN q.v)]) 1 true true)], ((((True ∧ (True ∧ True)) ∧ True) ∧ ((type_of% h1) ∧ (((True ∧ (True ∧ ((type_of% h2) ∧ (type_of% h3)))) ∧ ((True ∧ True) ∧ ((True ∧ True) ∧ True))) ∧ (((True ∧ True) ∧ ((True ∧ True) ∧ ((True ∧ (True ∧ True)) ∧ True))) ∧ ((type_of% h4) ∧ (((True ∧ True) ∧ ((True ∧ True) ∧ ((True ∧ True) ∧ ((True ∧ True) ∧ ((True ∧ (True ∧ ((type_of% h5) ∧ (type_of% h6)))) ∧ ((True ∧ (type_of% h7)) ∧ ((True ∧ True) ∧ ((True ∧ (True ∧ ((type_of% h8) ∧ (type_of% h9)))) ∧ ((True ∧ (True ∧ (type_of% h10))) ∧ True))))))))) ∧ (((True ∧ True) ∧ ((True ∧ True) ∧ ((True ∧ True) ∧ ((True ∧ (True ∧ ((type_of% h11) ∧ (((nat_lit 1 = nat_lit 1) ∧ (type_of% h12)) ∧ ((type_of% h13) ∧ ((type_of% h14) ∧ (type_of% h15))))))) ∧ ((True ∧ True) ∧ True))))) ∧ (((True ∧ True) ∧ ((True ∧ True) ∧ True)) ∧ True)))))))) ∧ (True ∧ (True ∧ (True ∧ (True ∧ (True ∧ (True ∧ (True ∧ (True ∧ (True ∧ (True ∧ (True ∧ (True ∧ (True ∧ (True ∧ True)))))))))))))))) by kernel_rfl) ⟨⟨⟨⟨trivial, ⟨trivial, trivial⟩⟩, trivial⟩, ⟨h1, ⟨⟨⟨trivial, ⟨trivial, ⟨h2, h3⟩⟩⟩, ⟨⟨trivial, trivial⟩, ⟨⟨trivial, trivial⟩, trivial⟩⟩⟩, ⟨⟨⟨trivial, trivial⟩, ⟨⟨trivial, trivial⟩, ⟨⟨trivial, ⟨trivial, trivial⟩⟩, trivial⟩⟩⟩, ⟨h4, ⟨⟨⟨trivial, trivial⟩, ⟨⟨trivial, trivial⟩, ⟨⟨trivial, trivial⟩, ⟨⟨trivial, trivial⟩, ⟨⟨trivial, ⟨trivial, ⟨h5, h6⟩⟩⟩, ⟨⟨trivial, h7⟩, ⟨⟨trivial, trivial⟩, ⟨⟨trivial, ⟨trivial, ⟨h8, h9⟩⟩⟩, ⟨⟨trivial, ⟨trivial, h10⟩⟩, trivial⟩⟩⟩⟩⟩⟩⟩⟩⟩, ⟨⟨⟨trivial, trivial⟩, ⟨⟨trivial, trivial⟩, ⟨⟨trivial, trivial⟩, ⟨⟨trivial, ⟨trivial, ⟨h11, ⟨⟨(by first | decide | exact Int.NonNeg.mk _), h12⟩, ⟨h13, ⟨h14, h15⟩⟩⟩⟩⟩⟩, ⟨⟨trivial, trivial⟩, trivial⟩⟩⟩⟩⟩, ⟨⟨⟨trivial, trivial⟩, ⟨⟨trivial, trivial⟩, trivial⟩⟩, trivial⟩⟩⟩⟩⟩⟩⟩⟩, ⟨trivial, ⟨trivial, ⟨trivial, ⟨trivial, ⟨trivial, ⟨trivial, ⟨trivial, ⟨trivial, ⟨trivial, ⟨trivial, ⟨trivial, ⟨trivial, ⟨trivial, ⟨trivial, trivial⟩⟩⟩⟩⟩⟩⟩⟩⟩⟩⟩⟩⟩⟩⟩ hR
theorem bdm_0 (q : QB) (h1 : (decide (iN q.i < iN q.r.length) = true)) (h2 : (0 ≤ iN q.i)) (h3 : ((List.map (AV.int IntKind.i64) q.r)[(iN q.i).toNat]? = some (AV.int IntKind.i64 (iN q.u)))) (h4 : ((iN q.u == iN q.w) = true)) (h5 : (0 ≤ iN q.w)) (h6 : (iN q.w < iN q.n)) (h7 : ((List.map (AV.int IntKind.i64) q.d)[0 + (iN q.w).toNat]? = some (AV.int IntKind.i64 q.x))) (h8 : (0 ≤ iN q.v)) (h9 : (iN q.v < iN q.n)) (h10 : ((0 + (iN q.v).toNat).succ.le (List.map (AV.int IntKind.i64) q.d).length)) (h11 : ((List.map (AV.int IntKind.i64) q.o).length = q.o.length)) (h12 : (1 ≤ [AV.int IntKind.i64 (iN q.v)].length)) (h13 : ((List.map (AV.int IntKind.i64) q.o).length + [AV.int IntKind.i64 (iN q.v)].length ≤ 9223372036854775807)) (h14 : (((List.map (AV.int IntKind.i64) q.o).length + [AV.int IntKind.i64 (iN q.v)].length) * 8 ≤ 140737488355328)) {post : Exit → St → Prop} {R : St → Prop} (hR : ∀ st, Ren 0 st (St.mk 86 [(0, AV.lst (gL q.g)), (1, AV.lst (boL q.s)), (7, AV.sl 0 0 q.n), (9, AV.sl 1 0 ((List.map (AV.int IntKind.i64) q.o).length + [AV.int IntKind.i64 (iN q.v)].length)), (10, AV.int IntKind.i64 (iN q.w)), (11, AV.int IntKind.i64 (iN q.v)), (44, AV.lst (gL q.g)), (45, AV.int IntKind.i64 (iN q.n)), (46, AV.int IntKind.i64 (iN q.v)), (62, AV.lst (List.map (AV.int IntKind.i64) q.r)), (63, AV.int IntKind.i64 (iN q.r.length)), (64, AV.int IntKind.i64 (IntKind.i64.wrap (iN q.i + 1)))] [some (Blk.mk ((List.map (AV.int IntKind.i64) q.d).set (0 + (iN q.v).toNat) (AV.int IntKind.i64 (IntKind.i64.wrap (q.x + 1)))) 1 true true), some (Blk.mk (List.map (AV.int IntKind.i64) q.o ++ [AV.int IntKind.i64 (iN q.v)]) 1 true true)]) → R st) : ∃ o' st' q', go Try.prog ({ dec := [(65, true), (70, true)], els := e42 q, calls := cB q, unroll := false } : HT) 0 4000 (.inl (loopC (loopC (loopC (bodyOf Try.f30) 1) 0) 0)) [] (ld42 q) = some (o', st', q') ∧ q' ∧ Go.AX.Rest Try.prog 0 (andThen R post) st' o' :=
  endN_spec (σ := [0,3]) (fz := []) (vars := [0,1,7,9,10,11,44,45,46,62,63,64]) (show endN 0 [0,3] [] [0,1,7,9,10,11,44,45,46,62,63,64] (go Try.prog ({ dec := [(65, true), (70, true)], els := e42 q, calls := cB q, unroll := false } : HT) 0 4000 (.inl (loopC (loopC (loopC (bodyOf Try.f30) 1) 0) 0)) [] (ld42 q)) = some (St.mk 86 [(0, AV.lst (gL q.g)), (1, AV.lst (boL q.s)), (7, AV.sl 0 0 q.n), (9, AV.sl 1 0 ((List.map (AV.int IntKind.i64) q.o).length + [AV.int IntKind.i64 (iN q.v)].length)), (10, AV.int IntKind.i64 (iN q.w)), (11, AV.int IntKind.i64 (iN q.v)), (44, AV.lst (gL q.g)), (45, AV.int IntKind.i64 (iN q.n)), (46, AV.int IntKind.i64 (iN q.v)), (62, AV.lst (List.map (AV.int IntKind.i64) q.r)), (63, AV.int IntKind.i64 (iN q.r.length)), (64, AV.int IntKind.i64 (IntKind.i64.wrap (iN q.i + 1)))] [some (Blk.mk ((List.map (AV.int IntKind.i64) q.d).set (0 + (iN q.v).toNat) (AV.int IntKind.i64 (IntKind.i64.wrap (q.x + 1)))) 1 true true), some (Blk.mk (List.map (AV.int IntKind.i64) q.o ++ [AV.int IntKind.i64 (iN q.v)]) 1 true true)], ((((True ∧ (True ∧ True)) ∧ True) ∧ ((type_of% h1) ∧ (((True ∧ (True ∧ ((type_of% h2) ∧ (type_of% h3)))) ∧ ((True ∧ True) ∧ ((True ∧ True) ∧ True))) ∧ (((True ∧ True) ∧ ((True ∧ True) ∧ ((True ∧ (True ∧ True)) ∧ True))) ∧ ((type_of% h4) ∧ (((True ∧ True) ∧ ((True ∧ True) ∧ ((True ∧ True) ∧ ((True ∧ True) ∧ ((True ∧ (True ∧ ((type_of% h5) ∧ (type_of% h6)))) ∧ ((True ∧ (type_of% h7)) ∧ ((True ∧ True) ∧ ((True ∧ (True ∧ ((type_of% h8) ∧ (type_of% h9)))) ∧ ((True ∧ (True ∧ (type_of% h10))) ∧ True))))))))) ∧ (((True ∧ True) ∧ ((True ∧ True) ∧ ((True ∧ True) ∧ ((True ∧ (True ∧ ((type_of% h11) ∧ (((nat_lit 1 = nat_lit 1) ∧ (type_of% h12)) ∧ ((type_of% h13) ∧ (type_of% h14)))))) ∧ ((True ∧ True) ∧ True))))) ∧ (((True ∧ True) ∧ ((True ∧ True) ∧ True)) ∧ True)))))))) ∧ (True ∧ (True ∧ (True ∧ (True ∧ (True ∧ (True ∧ (True ∧ (True ∧ (True ∧ (True ∧ (True ∧ (True ∧ (True ∧ (True ∧ True)))))))))))))))) by kernel_rfl) ⟨⟨⟨⟨trivial, ⟨trivial, trivial⟩⟩, trivial⟩, ⟨h1, ⟨⟨⟨trivial, ⟨trivial, ⟨h2, h3⟩⟩⟩, ⟨⟨trivial, trivial⟩, ⟨⟨trivial, trivial⟩, trivial⟩⟩⟩, ⟨⟨⟨trivial, trivial⟩, ⟨⟨trivial, trivial⟩, ⟨⟨trivial, ⟨trivial, trivial⟩⟩, trivial⟩⟩⟩, ⟨h4, ⟨⟨⟨trivial, trivial⟩, ⟨⟨trivial, trivial⟩, ⟨⟨trivial, trivial⟩, ⟨⟨trivial, trivial⟩, ⟨⟨trivial, ⟨trivial, ⟨h5, h6⟩⟩⟩, ⟨⟨trivial, h7⟩, ⟨⟨trivial, trivial⟩, ⟨⟨trivial, ⟨trivial, ⟨h8, h9⟩⟩⟩, ⟨⟨trivial, ⟨trivial, h10⟩⟩, trivial⟩⟩⟩⟩⟩⟩⟩⟩⟩, ⟨⟨⟨trivial, trivial⟩, ⟨⟨trivial, trivial⟩, ⟨⟨trivial, trivial⟩, ⟨⟨trivial, ⟨trivial, ⟨h11, ⟨⟨(by first | decide | exact Int.NonNeg.mk _), h12⟩, ⟨h13, h14⟩⟩⟩⟩⟩, ⟨⟨trivial, trivial⟩, trivial⟩⟩⟩⟩⟩, ⟨⟨⟨trivial, trivial⟩, ⟨⟨trivial, trivial⟩, trivial⟩⟩, trivial⟩⟩⟩⟩⟩⟩⟩⟩, ⟨trivial, ⟨trivial, ⟨trivial, ⟨trivial, ⟨trivial, ⟨trivial, ⟨trivial, ⟨trivial, ⟨trivial, ⟨trivial, ⟨trivial, ⟨trivial, ⟨trivial, ⟨trivial, trivial⟩⟩⟩⟩⟩⟩⟩⟩⟩⟩⟩⟩⟩⟩⟩ hR
theorem th_0 (q : QB) (h1 : (0 ≤ iN q.goal)) (h2 : ((boL q.s)[(iN q.goal).toNat]? = some (AV.bool q.sb))) (h3 : (q.sb = true)) : ∃ o' st' q', go Try.prog ({ dec := [(16, true)], els := e39 q, calls := cB q, unroll := false } : HT) 0 4000 (.inl (bodyOf Try.f24)) [] (st39 q) = some (o', st', q') ∧ q' ∧ Go.AX.Rest Try.prog 0 (Fin Try.prog Try.f24 0 [] (AV.nils)) st' o' :=
  endF_spec (σ := []) (fz := []) (show endF Try.prog Try.f24 0 [] [] (go Try.prog ({ dec := [(16, true)], els := e39 q, calls := cB q, unroll := false } : HT) 0 4000 (.inl (bodyOf Try.f24)) [] (st39 q)) = some ([], AV.nils, (((True ∧ True) ∧ (((True ∧ True) ∧ ((True ∧ True) ∧ ((True ∧ (True ∧ ((type_of% h1) ∧ (type_of% h2)))) ∧ ((True ∧ True) ∧ True)))) ∧ ((type_of% h3) ∧ ((True ∧ True) ∧ True)))) ∧ (True ∧ True))) by kernel_rfl) ⟨⟨⟨trivial, trivial⟩, ⟨⟨⟨trivial, trivial⟩, ⟨⟨trivial, trivial⟩, ⟨⟨trivial, ⟨trivial, ⟨h1, h2⟩⟩⟩, ⟨⟨trivial, trivial⟩, trivial⟩⟩⟩⟩, ⟨h3, ⟨⟨trivial, trivial⟩, trivial⟩⟩⟩⟩, ⟨trivial, trivial⟩⟩
theorem tn_0 (q : QB) (h1 : (0 ≤ iN q.goal)) (h2 : ((boL q.s)[(iN q.goal).toNat]? = some (AV.bool q.sb))) (h3 : (q.sb = false)) (h4 : (CT Try.prog 30 [] [AV.lst (gL q.g), AV.lst (boL q.s), AV.int IntKind.i64 (iN q.goal)] [] (AV.lst (List.map (AV.int IntKind.i64) q.d)))) {post : Exit → St → Prop} (ht : T Try.prog 0 (.loop (loopC (bodyOf Try.f24) 0)) (St.mk 68 [(0, AV.lst (gL q.g)), (2, AV.int IntKind.i64 (iN q.goal)), (7, AV.lst (List.map (AV.int IntKind.i64) q.d)), (8, AV.sl 0 0 1), (9, AV.int IntKind.i64 (iN q.goal))] [some (Blk.mk [AV.int IntKind.i64 (iN q.goal)] 1 true true)]) (TK Try.prog 0 post (loopK (bodyOf Try.f24) 0))) : ∃ o' st' q', go Try.prog ({ dec := [(16, false)], els := e39 q, calls := cB q, unroll := false } : HT) 0 4000 (.inl (bodyOf Try.f24)) [] (st39 q) = some (o', st', q') ∧ q' ∧ Go.AX.Rest Try.prog 0 post st' o' :=
  endR_spec (σ := [0]) (fz := []) (vars := [0,2,7,8,9]) (show endR 0 [0] [] [0,2,7,8,9] (go Try.prog ({ dec := [(16, false)], els := e39 q, calls := cB q, unroll := false } : HT) 0 4000 (.inl (bodyOf Try.f24)) [] (st39 q)) = some (loopC (bodyOf Try.f24) 0, loopK (bodyOf Try.f24) 0, St.mk 68 [(0, AV.lst (gL q.g)), (2, AV.int IntKind.i64 (iN q.goal)), (7, AV.lst (List.map (AV.int IntKind.i64) q.d)), (8, AV.sl 0 0 1), (9, AV.int IntKind.i64 (iN q.goal))] [some (Blk.mk [AV.int IntKind.i64 (iN q.goal)] 1 true true)], (((True ∧ True) ∧ (((True ∧ True) ∧ ((True ∧ True) ∧ ((True ∧ (True ∧ ((type_of% h1) ∧ (type_of% h2)))) ∧ ((True ∧ True) ∧ True)))) ∧ ((type_of% h3) ∧ (((True ∧ True) ∧ ((True ∧ True) ∧ ((True ∧ True) ∧ ((True ∧ (True ∧ (True ∧ (True ∧ (True ∧ (True ∧ ((type_of% h4) ∧ True))))))) ∧ ((True ∧ True) ∧ True))))) ∧ (((True ∧ True) ∧ ((True ∧ True) ∧ ((True ∧ True) ∧ ((True ∧ True) ∧ ((True ∧ True) ∧ True))))) ∧ True))))) ∧ (True ∧ (True ∧ (True ∧ (True ∧ (True ∧ (True ∧ True)))))))) by kernel_rfl) ⟨⟨⟨trivial, trivial⟩, ⟨⟨⟨trivial, trivial⟩, ⟨⟨trivial, trivial⟩, ⟨⟨trivial, ⟨trivial, ⟨h1, h2⟩⟩⟩, ⟨⟨trivial, trivial⟩, trivial⟩⟩⟩⟩, ⟨h3, ⟨⟨⟨trivial, trivial⟩, ⟨⟨trivial, trivial⟩, ⟨⟨trivial, trivial⟩, ⟨⟨trivial, ⟨trivial, ⟨trivial, ⟨trivial, ⟨trivial, ⟨trivial, ⟨h4, trivial⟩⟩⟩⟩⟩⟩⟩, ⟨⟨trivial, trivial⟩, trivial⟩⟩⟩⟩⟩, ⟨⟨⟨trivial, trivial⟩, ⟨⟨trivial, trivial⟩, ⟨⟨trivial, trivial⟩, ⟨⟨trivial, trivial⟩, ⟨⟨trivial, trivial⟩, trivial⟩⟩⟩⟩⟩, trivial⟩⟩⟩⟩⟩, ⟨trivial, ⟨trivial, ⟨trivial, ⟨trivial, ⟨trivial, ⟨trivial, trivial⟩⟩⟩⟩⟩⟩⟩ ht
theorem to_0 (q : QB) (h1 : (0 ≤ iN q.v)) (h2 : ((gL q.g)[(iN q.v).toNat]? = some (AV.lst (List.map (AV.int IntKind.i64) q.r)))) {post : Exit → St → Prop} (ht : T Try.prog 0 (.loop (loopC (loopC (bodyOf Try.f24) 0) 0)) (St.mk 68 [(0, AV.lst (gL q.g)), (2, AV.int IntKind.i64 (iN q.goal)), (7, AV.lst (List.map (AV.int IntKind.i64) q.d)), (8, AV.sl 0 0 q.p.length), (10, AV.int IntKind.i64 (-1)), (27, AV.lst (List.map (AV.int IntKind.i64) q.r)), (28, AV.int IntKind.i64 (iN (List.map (AV.int IntKind.i64) q.r).length)), (29, AV.int IntKind.i64 0)] [some (Blk.mk (List.map (AV.int IntKind.i64) q.p) 1 true true)]) (TK Try.prog 0 post (loopK (loopC (bodyOf Try.f24) 0) 0))) : ∃ o' st' q', go Try.prog ({ dec := [], els := e39 q, calls := cB q, unroll := false } : HT) 0 4000 (.inl (loopC (bodyOf Try.f24) 0)) [] (lo39 q) = some (o', st', q') ∧ q' ∧ Go.AX.Rest Try.prog 0 post st' o' :=
  endR_spec (σ := [0]) (fz := []) (vars := [0,2,7,8,10,27,28,29]) (show endR 0 [0] [] [0,2,7,8,10,27,28,29] (go Try.prog ({ dec := [], els := e39 q, calls := cB q, unroll := false } : HT) 0 4000 (.inl (loopC (bodyOf Try.f24) 0)) [] (lo39 q)) = some (loopC (loopC (bodyOf Try.f24) 0) 0, loopK (loopC (bodyOf Try.f24) 0) 0, St.mk 68 [(0, AV.lst (gL q.g)), (2, AV.int IntKind.i64 (iN q.goal)), (7, AV.lst (List.map (AV.int IntKind.i64) q.d)), (8, AV.sl 0 0 q.p.length), (10, AV.int IntKind.i64 (-1)), (27, AV.lst (List.map (AV.int IntKind.i64) q.r)), (28, AV.int IntKind.i64 (iN (List.map (AV.int IntKind.i64) q.r).length)), (29, AV.int IntKind.i64 0)] [some (Blk.mk (List.map (AV.int IntKind.i64) q.p) 1 true true)], (((True ∧ True) ∧ (((True ∧ True) ∧ ((True ∧ True) ∧ ((True ∧ (True ∧ ((type_of% h1) ∧ (type_of% h2)))) ∧ ((True ∧ True) ∧ ((True ∧ True) ∧ (True ∧ True)))))) ∧ True)) ∧ (True ∧ (True ∧ (True ∧ (True ∧ (True ∧ (True ∧ (True ∧ (True ∧ (True ∧ True))))))))))) by kernel_rfl) ⟨⟨⟨trivial, trivial⟩, ⟨⟨⟨trivial, trivial⟩, ⟨⟨trivial, trivial⟩, ⟨⟨trivial, ⟨trivial, ⟨h1, h2⟩⟩⟩, ⟨⟨trivial, trivial⟩, ⟨⟨trivial, trivial⟩, ⟨trivial, trivial⟩⟩⟩⟩⟩⟩, trivial⟩⟩, ⟨trivial, ⟨trivial, ⟨trivial, ⟨trivial, ⟨trivial, ⟨trivial, ⟨trivial, ⟨trivial, ⟨trivial, trivial⟩⟩⟩⟩⟩⟩⟩⟩⟩⟩ ht
theorem tea_0 (q : QB) (h1 : (decide (iN q.i < iN q.r.length) = false)) (h2 : (decide (q.bz < 0) = true)) {post : Exit → St → Prop} (hP : Pass post (Fin Try.prog Try.f24 0 [] (AV.nils))) : ∃ o' st' q', go2 Try.prog ({ dec := [(30, false), (57, true)], els := e39 q, calls := cB q, unroll := false } : HT) 0 4000 (loopC (loopC (bodyOf Try.f24) 0) 0) (loopK (loopC (bodyOf Try.f24) 0) 0) (li39 q) = some (o', st', q') ∧ q' ∧ Go.AX.Rest Try.prog 0 post st' o' :=
  endT_spec (σ := []) (fz := []) (show endT Try.prog Try.f24 0 [] [] (go2 Try.prog ({ dec := [(30, false), (57, true)], els := e39 q, calls := cB q, unroll := false } : HT) 0 4000 (loopC (loopC (bodyOf Try.f24) 0) 0) (loopK (loopC (bodyOf Try.f24) 0) 0) (li39 q)) = some ([], AV.nils, (((((True ∧ (True ∧ True)) ∧ True) ∧ ((type_of% h1) ∧ True)) ∧ (((True ∧ True) ∧ ((True ∧ True) ∧ (((type_of% h2) ∧ True) ∧ True))) ∧ (True ∧ ((True ∧ True) ∧ True)))) ∧ (True ∧ True))) by kernel_rfl) ⟨⟨⟨⟨⟨trivial, ⟨trivial, trivial⟩⟩, trivial⟩, ⟨h1, trivial⟩⟩, ⟨⟨⟨trivial, trivial⟩, ⟨⟨trivial, trivial⟩, ⟨⟨h2, trivial⟩, trivial⟩⟩⟩, ⟨trivial, ⟨⟨trivial, trivial⟩, trivial⟩⟩⟩⟩, ⟨trivial, trivial⟩⟩ hP
theorem teb_0 (q : QB) (h1 : (decide (iN q.i < iN q.r.length) = false)) (h2 : (decide (q.bz < 0) = false)) (h3 : ((q.bz == iN q.goal) = true)) (h4 : (q.p.length = (List.map (AV.int IntKind.i64) q.p).length)) {post : Exit → St → Prop} (hP : Pass post (Fin Try.prog Try.f24 0 [] (AV.lst (List.map (AV.int IntKind.i64) q.p)))) : ∃ o' st' q', go2 Try.prog ({ dec := [(30, false), (57, false), (61, true)], els := e39 q, calls := cB q, unroll := false } : HT) 0 4000 (loopC (loopC (bodyOf Try.f24) 0) 0) (loopK (loopC (bodyOf Try.f24) 0) 0) (li39 q) = some (o', st', q') ∧ q' ∧ Go.AX.Rest Try.prog 0 post st' o' :=
  endT_spec (σ := []) (fz := [0]) (show endT Try.prog Try.f24 0 [] [0] (go2 Try.prog ({ dec := [(30, false), (57, false), (61, true)], els := e39 q, calls := cB q, unroll := false } : HT) 0 4000 (loopC (loopC (bodyOf Try.f24) 0) 0) (loopK (loopC (bodyOf Try.f24) 0) 0) (li39 q)) = some ([], AV.lst (List.map (AV.int IntKind.i64) q.p), (((((True ∧ (True ∧ True)) ∧ True) ∧ ((type_of% h1) ∧ True)) ∧ (((True ∧ True) ∧ ((True ∧ True) ∧ (((type_of% h2) ∧ True) ∧ True))) ∧ (True ∧ (((True ∧ True) ∧ ((True ∧ True) ∧ ((True ∧ (True ∧ True)) ∧ (((type_of% h3) ∧ True) ∧ True)))) ∧ (True ∧ (((True ∧ True) ∧ ((True ∧ True) ∧ True)) ∧ True)))))) ∧ ((type_of% h4) ∧ True))) by kernel_rfl) ⟨⟨⟨⟨⟨trivial, ⟨trivial, trivial⟩⟩, trivial⟩, ⟨h1, trivial⟩⟩, ⟨⟨⟨trivial, trivial⟩, ⟨⟨trivial, trivial⟩, ⟨⟨h2, trivial⟩, trivial⟩⟩⟩, ⟨trivial, ⟨⟨⟨trivial, trivial⟩, ⟨⟨trivial, trivial⟩, ⟨⟨trivial, ⟨trivial, trivial⟩⟩, ⟨⟨h3, trivial⟩, trivial⟩⟩⟩⟩, ⟨trivial, ⟨⟨⟨trivial, trivial⟩, ⟨⟨trivial, trivial⟩, trivial⟩⟩, trivial⟩⟩⟩⟩⟩⟩, ⟨h4, trivial⟩⟩ hP
theorem tec_0 (q : QB) (h1 : (decide (iN q.i < iN q.r.length) = false)) (h2 : (decide (q.bz < 0) = false)) (h3 : ((q.bz == iN q.goal) = false)) (h4 : ((List.map (AV.int IntKind.i64) q.p).length = q.p.length)) (h5 : (1 ≤ [AV.int IntKind.i64 q.bz].length)) (h6 : ((List.map (AV.int IntKind.i64) q.p).length + [AV.int IntKind.i64 q.bz].length ≤ 9223372036854775807)) (h7 : (((List.map (AV.int IntKind.i64) q.p).length + [AV.int IntKind.i64 q.bz].length) * 8 ≤ 140737488355328)) {post : Exit → St → Prop} {R : St → Prop} (hR : ∀ st, Ren 0 st (St.mk 68 [(0, AV.lst (gL q.g)), (2, AV.int IntKind.i64 (iN q.goal)), (7, AV.lst (List.map (AV.int IntKind.i64) q.d)), (8, AV.sl 0 0 ((List.map (AV.int IntKind.i64) q.p).length + [AV.int IntKind.i64 q.bz].length)), (9, AV.int IntKind.i64 q.bz)] [some (Blk.mk (List.map (AV.int IntKind.i64) q.p ++ [AV.int IntKind.i64 q.bz]) 1 true true)]) → R st) : ∃ o' st' q', go2 Try.prog ({ dec := [(30, false), (57, false), (61, false)], els := e39 q, calls := cB q, unroll := false } : HT) 0 4000 (loopC (loopC (bodyOf Try.f24) 0) 0) (loopK (loopC (bodyOf Try.f24) 0) 0) (li39 q) = some (o', st', q') ∧ q' ∧ Go.AX.Rest Try.prog 0 (andThen R post) st' o' :=
  endN_spec (σ := [2]) (fz := []) (vars := [0,2,7,8,9]) (show endN 0 [2] [] [0,2,7,8,9] (go2 Try.prog ({ dec := [(30, false), (57, false), (61, false)], els := e39 q, calls := cB q, unroll := false } : HT) 0 4000 (loopC (loopC (bodyOf Try.f24) 0) 0) (loopK (loopC (bodyOf Try.f24) 0) 0) (li39 q)) = some (St.mk 68 [(0, AV.lst (gL q.g)), (2, AV.int IntKind.i64 (iN q.goal)), (7, AV.lst (List.map (AV.int IntKind.i64) q.d)), (8, AV.sl 0 0 ((List.map (AV.int IntKind.i64) q.p).length + [AV.int IntKind.i64 q.bz].length)), (9, AV.int IntKind.i64 q.bz)] [some (Blk.mk (List.map (AV.int IntKind.i64) q.p ++ [AV.int IntKind.i64 q.bz]) 1 true true)], (((((True ∧ (True ∧ True)) ∧ True) ∧ ((type_of% h1) ∧ True)) ∧ (((True ∧ True) ∧ ((True ∧ True) ∧ (((type_of% h2) ∧ True) ∧ True))) ∧ (True ∧ (((True ∧ True) ∧ ((True ∧ True) ∧ ((True ∧ (True ∧ True)) ∧ (((type_of% h3) ∧ True) ∧ True)))) ∧ (True ∧ (((True ∧ True) ∧ ((True ∧ True) ∧ ((True ∧ True) ∧ ((True ∧ (True ∧ ((type_of% h4) ∧ (((nat_lit 1 = nat_lit 1) ∧ (type_of% h5)) ∧ ((type_of% h6) ∧ (type_of% h7)))))) ∧ ((True ∧ True) ∧ ((True ∧ True) ∧ ((True ∧ True) ∧ True))))))) ∧ True)))))) ∧ (True ∧ (True ∧ (True ∧ (True ∧ (True ∧ (True ∧ True)))))))) by kernel_rfl) ⟨⟨⟨⟨⟨trivial, ⟨trivial, trivial⟩⟩, trivial⟩, ⟨h1, trivial⟩⟩, ⟨⟨⟨trivial, trivial⟩, ⟨⟨trivial, trivial⟩, ⟨⟨h2, trivial⟩, trivial⟩⟩⟩, ⟨trivial, ⟨⟨⟨trivial, trivial⟩, ⟨⟨trivial, trivial⟩, ⟨⟨trivial, ⟨trivial, trivial⟩⟩, ⟨⟨h3, trivial⟩, trivial⟩⟩⟩⟩, ⟨trivial, ⟨⟨⟨trivial, trivial⟩, ⟨⟨trivial, trivial⟩, ⟨⟨trivial, trivial⟩, ⟨⟨trivial, ⟨trivial, ⟨h4, ⟨⟨(by first | decide | exact Int.NonNeg.mk _), h5⟩, ⟨h6, h7⟩⟩⟩⟩⟩, ⟨⟨trivial, trivial⟩, ⟨⟨trivial, trivial⟩, ⟨⟨trivial, trivial⟩, trivial⟩⟩⟩⟩⟩⟩⟩, trivial⟩⟩⟩⟩⟩⟩, ⟨trivial, ⟨trivial, ⟨trivial, ⟨trivial, ⟨trivial, ⟨trivial, trivial⟩⟩⟩⟩⟩⟩⟩ hR
theorem tis_0 (q : QB) (h1 : (decide (iN q.i < iN q.r.length) = true)) (h2 : (0 ≤ iN q.i)) (h3 : ((List.map (AV.int IntKind.i64) q.r)[(iN q.i).toNat]? = some (AV.int IntKind.i64 (iN q.u)))) (h4 : (0 ≤ iN q.u)) (h5 : ((List.map (AV.int IntKind.i64) q.d)[(iN q.u).toNat]? = some (AV.int IntKind.i64 q.x))) (h6 : (decide (0 ≤ q.x) = false)) {post : Exit → St → Prop} {R : St → Prop} (hR : ∀ st, Ren 0 st (St.mk 68 [(0, AV.lst (gL q.g)), (2, AV.int IntKind.i64 (iN q.goal)), (7, AV.lst (List.map (AV.int IntKind.i64) q.d)), (8, AV.sl 0 0 q.p.length), (10, AV.int IntKind.i64 q.bz), (27, AV.lst (List.map (AV.int IntKind.i64) q.r)), (28, AV.int IntKind.i64 (iN q.r.length)), (29, AV.int IntKind.i64 (IntKind.i64.wrap (iN q.i + 1)))] [some (Blk.mk (List.map (AV.int IntKind.i64) q.p) 1 true true)]) → R st) : ∃ o' st' q', go Try.prog ({ dec := [(30, true), (37, false)], els := e39 q, calls := cB q, unroll := false } : HT) 0 4000 (.inl (loopC (loopC (bodyOf Try.f24) 0) 0)) [] (li39 q) = some (o', st', q') ∧ q' ∧ Go.AX.Rest Try.prog 0 (andThen R post) st' o' :=
  endN_spec (σ := [0]) (fz := []) (vars := [0,2,7,8,10,27,28,29]) (show endN 0 [0] [] [0,2,7,8,10,27,28,29] (go Try.prog ({ dec := [(30, true), (37, false)], els := e39 q, calls := cB q, unroll := false } : HT) 0 4000 (.inl (loopC (loopC (bodyOf Try.f24) 0) 0)) [] (li39 q)) = some (St.mk 68 [(0, AV.lst (gL q.g)), (2, AV.int IntKind.i64 (iN q.goal)), (7, AV.lst (List.map (AV.int IntKind.i64) q.d)), (8, AV.sl 0 0 q.p.length), (10, AV.int IntKind.i64 q.bz), (27, AV.lst (List.map (AV.int IntKind.i64) q.r)), (28, AV.int IntKind.i64 (iN q.r.length)), (29, AV.int IntKind.i64 (IntKind.i64.wrap (iN q.i + 1)))] [some (Blk.mk (List.map (AV.int IntKind.i64) q.p) 1 true true)], ((((True ∧ (True ∧ True)) ∧ True) ∧ ((type_of% h1) ∧ (((True ∧ (True ∧ ((type_of% h2) ∧ (type_of% h3)))) ∧ ((True ∧ True) ∧ ((True ∧ True) ∧ True))) ∧ (((True ∧ True) ∧ ((True ∧ True) ∧ ((True ∧ (True ∧ ((type_of% h4) ∧ (type_of% h5)))) ∧ ((True ∧ True) ∧ ((True ∧ True) ∧ (((type_of% h6) ∧ True) ∧ (True ∧ (True ∧ (True ∧ (True ∧ (True ∧ (True ∧ (True ∧ (True ∧ (True ∧ (True ∧ (True ∧ (True ∧ (True ∧ ((True ∧ (True ∧ True)) ∧ True)))))))))))))))))))) ∧ (True ∧ (((True ∧ True) ∧ ((True ∧ True) ∧ True)) ∧ True)))))) ∧ (True ∧ (True ∧ (True ∧ (True ∧ (True ∧ (True ∧ (True ∧ (True ∧ (True ∧ True))))))))))) by kernel_rfl) ⟨⟨⟨⟨trivial, ⟨trivial, trivial⟩⟩, trivial⟩, ⟨h1, ⟨⟨⟨trivial, ⟨trivial, ⟨h2, h3⟩⟩⟩, ⟨⟨trivial, trivial⟩, ⟨⟨trivial, trivial⟩, trivial⟩⟩⟩, ⟨⟨⟨trivial, trivial⟩, ⟨⟨trivial, trivial⟩, ⟨⟨trivial, ⟨trivial, ⟨h4, h5⟩⟩⟩, ⟨⟨trivial, trivial⟩, ⟨⟨trivial, trivial⟩, ⟨⟨h6, trivial⟩, ⟨trivial, ⟨trivial, ⟨trivial, ⟨trivial, ⟨trivial, ⟨trivial, ⟨trivial, ⟨trivial, ⟨trivial, ⟨trivial, ⟨trivial, ⟨trivial, ⟨trivial, ⟨⟨trivial, ⟨trivial, trivial⟩⟩, trivial⟩⟩⟩⟩⟩⟩⟩⟩⟩⟩⟩⟩⟩⟩⟩⟩⟩⟩⟩⟩, ⟨trivial, ⟨⟨⟨trivial, trivial⟩, ⟨⟨trivial, trivial⟩, trivial⟩⟩, trivial⟩⟩⟩⟩⟩⟩, ⟨trivial, ⟨trivial, ⟨trivial, ⟨trivial, ⟨trivial, ⟨trivial, ⟨trivial, ⟨trivial, ⟨trivial, trivial⟩⟩⟩⟩⟩⟩⟩⟩⟩⟩ hR
theorem tit_0 (q : QB) (h1 : (decide (iN q.i < iN q.r.length) = true)) (h2 : (0 ≤ iN q.i)) (h3 : ((List.map (AV.int IntKind.i64) q.r)[(iN q.i).toNat]? = some (AV.int IntKind.i64 (iN q.u)))) (h4 : (0 ≤ iN q.u)) (h5 : ((List.map (AV.int IntKind.i64) q.d)[(iN q.u).toNat]? = some (AV.int IntKind.i64 q.x))) (h6 : (decide (0 ≤ q.x) = true)) (h7 : (decide (q.bz < 0) = true)) {post : Exit → St → Prop} {R : St → Prop} (hR : ∀ st, Ren 0 st (St.mk 68 [(0, AV.lst (gL q.g)), (2, AV.int IntKind.i64 (iN q.goal)), (7, AV.lst (List.map (AV.int IntKind.i64) q.d)), (8, AV.sl 0 0 q.p.length), (10, AV.int IntKind.i64 (iN q.u)), (27, AV.lst (List.map (AV.int IntKind.i64) q.r)), (28, AV.int IntKind.i64 (iN q.r.length)), (29, AV.int IntKind.i64 (IntKind.i64.wrap (iN q.i + 1)))] [some (Blk.mk (List.map (AV.int IntKind.i64) q.p) 1 true true)]) → R st) : ∃ o' st' q', go Try.prog ({ dec := [(30, true), (37, true), (40, true)], els := e39 q, calls := cB q, unroll := false } : HT) 0 4000 (.inl (loopC (loopC (bodyOf Try.f24) 0) 0)) [] (li39 q) = some (o', st', q') ∧ q' ∧ Go.AX.Rest Try.prog 0 (andThen R post) st' o' :=
  endN_spec (σ := [0]) (fz := []) (vars := [0,2,7,8,10,27,28,29]) (show endN 0 [0] [] [0,2,7,8,10,27,28,29] (go Try.prog ({ dec := [(30, true), (37, true), (40, true)], els := e39 q, calls := cB q, unroll := false } : HT) 0 4000 (.inl (loopC (loopC (bodyOf Try.f24) 0) 0)) [] (li39 q)) = some (St.mk 68 [(0, AV.lst (gL q.g)), (2, AV.int IntKind.i64 (iN q.goal)), (7, AV.lst (List.map (AV.int IntKind.i64) q.d)), (8, AV.sl 0 0 q.p.length), (10, AV.int IntKind.i64 (iN q.u)), (27, AV.lst (List.map (AV.int IntKind.i64) q.r)), (28, AV.int IntKind.i64 (iN q.r.length)), (29, AV.int IntKind.i64 (IntKind.i64.wrap (iN q.i + 1)))] [some (Blk.mk (List.map (AV.int IntKind.i64) q.p) 1 true true)], ((((True ∧ (True ∧ True)) ∧ True) ∧ ((type_of% h1) ∧ (((True ∧ (True ∧ ((type_of% h2) ∧ (type_of% h3)))) ∧ ((True ∧ True) ∧ ((True ∧ True) ∧ True))) ∧ (((True ∧ True) ∧ ((True ∧ True) ∧ ((True ∧ (True ∧ ((type_of% h4) ∧ (type_of% h5)))) ∧ ((True ∧ True) ∧ ((True ∧ True) ∧ (((type_of% h6) ∧ True) ∧ ((True ∧ (True ∧ True)) ∧ ((True ∧ (True ∧ True)) ∧ ((True ∧ ((type_of% h7) ∧ True)) ∧ (True ∧ (True ∧ (True ∧ (True ∧ (True ∧ (True ∧ (True ∧ (True ∧ (True ∧ ((True ∧ (True ∧ (True ∧ True))) ∧ ((True ∧ (True ∧ True)) ∧ True)))))))))))))))))))) ∧ (True ∧ (((True ∧ True) ∧ ((True ∧ True) ∧ True)) ∧ (((True ∧ True) ∧ ((True ∧ True) ∧ True)) ∧ True))))))) ∧ (True ∧ (True ∧ (True ∧ (True ∧ (True ∧ (True ∧ (True ∧ (True ∧ (True ∧ True))))))))))) by kernel_rfl) ⟨⟨⟨⟨trivial, ⟨trivial, trivial⟩⟩, trivial⟩, ⟨h1, ⟨⟨⟨trivial, ⟨trivial, ⟨h2, h3⟩⟩⟩, ⟨⟨trivial, trivial⟩, ⟨⟨trivial, trivial⟩, trivial⟩⟩⟩, ⟨⟨⟨trivial, trivial⟩, ⟨⟨trivial, trivial⟩, ⟨⟨trivial, ⟨trivial, ⟨h4, h5⟩⟩⟩, ⟨⟨trivial, trivial⟩, ⟨⟨trivial, trivial⟩, ⟨⟨h6, trivial⟩, ⟨⟨trivial, ⟨trivial, trivial⟩⟩, ⟨⟨trivial, ⟨trivial, trivial⟩⟩, ⟨⟨trivial, ⟨h7, trivial⟩⟩, ⟨trivial, ⟨trivial, ⟨trivial, ⟨trivial, ⟨trivial, ⟨trivial, ⟨trivial, ⟨trivial, ⟨trivial, ⟨⟨trivial, ⟨trivial, ⟨trivial, trivial⟩⟩⟩, ⟨⟨trivial, ⟨trivial, trivial⟩⟩, trivial⟩⟩⟩⟩⟩⟩⟩⟩⟩⟩⟩⟩⟩⟩⟩⟩⟩⟩⟩⟩, ⟨trivial, ⟨⟨⟨trivial, trivial⟩, ⟨⟨trivial, trivial⟩, trivial⟩⟩, ⟨⟨⟨trivial, trivial⟩, ⟨⟨trivial, trivial⟩, trivial⟩⟩, trivial⟩⟩⟩⟩⟩⟩⟩, ⟨trivial, ⟨trivial, ⟨trivial, ⟨trivial, ⟨trivial, ⟨trivial, ⟨trivial, ⟨trivial, ⟨trivial, trivial⟩⟩⟩⟩⟩⟩⟩⟩⟩⟩ hR
theorem tiu_0 (q : QB) (h1 : (decide (iN q.i < iN q.r.length) = true)) (h2 : (0 ≤ iN q.i)) (h3 : ((List.map (AV.int IntKind.i64) q.r)[(iN q.i).toNat]? = some (AV.int IntKind.i64 (iN q.u)))) (h4 : (0 ≤ iN q.u)) (h5 : ((List.map (AV.int IntKind.i64) q.d)[(iN q.u).toNat]? = some (AV.int IntKind.i64 q.x))) (h6 : (decide (0 ≤ q.x) = true)) (h7 : (decide (q.bz < 0) = false)) (h8 : (0 ≤ q.bz)) (h9 : ((List.map (AV.int IntKind.i64) q.d)[q.bz.toNat]? = some (AV.int IntKind.i64 q.y))) (h10 : (decide (q.x < q.y) = true)) {post : Exit → St → Prop} {R : St → Prop} (hR : ∀ st, Ren 0 st (St.mk 68 [(0, AV.lst (gL q.g)), (2, AV.int IntKind.i64 (iN q.goal)), (7, AV.lst (List.map (AV.int IntKind.i64) q.d)), (8, AV.sl 0 0 q.p.length), (10, AV.int IntKind.i64 (iN q.u)), (27, AV.lst (List.map (AV.int IntKind.i64) q.r)), (28, AV.int IntKind.i64 (iN q.r.length)), (29, AV.int IntKind.i64 (IntKind.i64.wrap (iN q.i + 1)))] [some (Blk.mk (List.map (AV.int IntKind.i64) q.p) 1 true true)]) → R st) : ∃ o' st' q', go Try.prog ({ dec := [(30, true), (37, true), (40, false), (52, true)], els := e39 q, calls := cB q, unroll := false } : HT) 0 4000 (.inl (loopC (loopC (bodyOf Try.f24) 0) 0)) [] (li39 q) = some (o', st', q') ∧ q' ∧ Go.AX.Rest Try.prog 0 (andThen R post) st' o' :=
  endN_spec (σ := [0]) (fz := []) (vars := [0,2,7,8,10,27,28,29]) (show endN 0 [0] [] [0,2,7,8,10,27,28,29] (go Try.prog ({ dec := [(30, true), (37, true), (40, false), (52, true)], els := e39 q, calls := cB q, unroll := false } : HT) 0 4000 (.inl (loopC (loopC (bodyOf Try.f24) 0) 0)) [] (li39 q)) = some (St.mk 68 [(0, AV.lst (gL q.g)), (2, AV.int IntKind.i64 (iN q.goal)), (7, AV.lst (List.map (AV.int IntKind.i64) q.d)), (8, AV.sl 0 0 q.p.length), (10, AV.int IntKind.i64 (iN q.u)), (27, AV.lst (List.map (AV.int IntKind.i64) q.r)), (28, AV.int IntKind.i64 (iN q.r.length)), (29, AV.int IntKind.i64 (IntKind.i64.wrap (iN q.i + 1)))] [some (Blk.mk (List.map (AV.int IntKind.i64) q.p) 1 true true)], ((((True ∧ (True ∧ True)) ∧ True) ∧ ((type_of% h1) ∧ (((True ∧ (True ∧ ((type_of% h2) ∧ (type_of% h3)))) ∧ ((True ∧ True) ∧ ((True ∧ True) ∧ True))) ∧ (((True ∧ True) ∧ ((True ∧ True) ∧ ((True ∧ (True ∧ ((type_of% h4) ∧ (type_of% h5)))) ∧ ((True ∧ True) ∧ ((True ∧ True) ∧ (((type_of% h6) ∧ True) ∧ ((True ∧ (True ∧ True)) ∧ ((True ∧ (True ∧ True)) ∧ ((True ∧ ((type_of% h7) ∧ True)) ∧ ((True ∧ (True ∧ True)) ∧ ((True ∧ (True ∧ True)) ∧ ((True ∧ (True ∧ (True ∧ ((type_of% h4) ∧ (type_of% h5))))) ∧ ((True ∧ (True ∧ True)) ∧ ((True ∧ (True ∧ True)) ∧ ((True ∧ (True ∧ True)) ∧ ((True ∧ (True ∧ (True ∧ ((type_of% h8) ∧ (type_of% h9))))) ∧ ((True ∧ (True ∧ True)) ∧ ((True ∧ (True ∧ (True ∧ True))) ∧ ((True ∧ (True ∧ (True ∧ True))) ∧ ((True ∧ (True ∧ True)) ∧ True)))))))))))))))))))) ∧ ((type_of% h10) ∧ (((True ∧ True) ∧ ((True ∧ True) ∧ True)) ∧ (((True ∧ True) ∧ ((True ∧ True) ∧ True)) ∧ True))))))) ∧ (True ∧ (True ∧ (True ∧ (True ∧ (True ∧ (True ∧ (True ∧ (True ∧ (True ∧ True))))))))))) by kernel_rfl) ⟨⟨⟨⟨trivial, ⟨trivial, trivial⟩⟩, trivial⟩, ⟨h1, ⟨⟨⟨trivial, ⟨trivial, ⟨h2, h3⟩⟩⟩, ⟨⟨trivial, trivial⟩, ⟨⟨trivial, trivial⟩, trivial⟩⟩⟩, ⟨⟨⟨trivial, trivial⟩, ⟨⟨trivial, trivial⟩, ⟨⟨trivial, ⟨trivial, ⟨h4, h5⟩⟩⟩, ⟨⟨trivial, trivial⟩, ⟨⟨trivial, trivial⟩, ⟨⟨h6, trivial⟩, ⟨⟨trivial, ⟨trivial, trivial⟩⟩, ⟨⟨trivial, ⟨trivial, trivial⟩⟩, ⟨⟨trivial, ⟨h7, trivial⟩⟩, ⟨⟨trivial, ⟨trivial, trivial⟩⟩, ⟨⟨trivial, ⟨trivial, trivial⟩⟩, ⟨⟨trivial, ⟨trivial, ⟨trivial, ⟨h4, h5⟩⟩⟩⟩, ⟨⟨trivial, ⟨trivial, trivial⟩⟩, ⟨⟨trivial, ⟨trivial, trivial⟩⟩, ⟨⟨trivial, ⟨trivial, trivial⟩⟩, ⟨⟨trivial, ⟨trivial, ⟨trivial, ⟨h8, h9⟩⟩⟩⟩, ⟨⟨trivial, ⟨trivial, trivial⟩⟩, ⟨⟨trivial, ⟨trivial, ⟨trivial, trivial⟩⟩⟩, ⟨⟨trivial, ⟨trivial, ⟨trivial, trivial⟩⟩⟩, ⟨⟨trivial, ⟨trivial, trivial⟩⟩, trivial⟩⟩⟩⟩⟩⟩⟩⟩⟩⟩⟩⟩⟩⟩⟩⟩⟩⟩⟩⟩, ⟨h10, ⟨⟨⟨trivial, trivial⟩, ⟨⟨trivial, trivial⟩, trivial⟩⟩, ⟨⟨⟨trivial, trivial⟩, ⟨⟨trivial, trivial⟩, trivial⟩⟩, trivial⟩⟩⟩⟩⟩⟩⟩, ⟨trivial, ⟨trivial, ⟨trivial, ⟨trivial, ⟨trivial, ⟨trivial, ⟨trivial, ⟨trivial, ⟨trivial, trivial⟩⟩⟩⟩⟩⟩⟩⟩⟩⟩ hR
theorem tiu_1 (q : QB) (h1 : (decide (iN q.i < iN q.r.length) = true)) (h2 : (0 ≤ iN q.i)) (h3 : ((List.map (AV.int IntKind.i64) q.r)[(iN q.i).toNat]? = some (AV.int IntKind.i64 (iN q.u)))) (h4 : (0 ≤ iN q.u)) (h5 : ((List.map (AV.int IntKind.i64) q.d)[(iN q.u).toNat]? = some (AV.int IntKind.i64 q.x))) (h6 : (decide (0 ≤ q.x) = true)) (h7 : (decide (q.bz < 0) = false)) (h8 : (0 ≤ q.bz)) (h9 : ((List.map (AV.int IntKind.i64) q.d)[q.bz.toNat]? = some (AV.int IntKind.i64 q.y))) (h10 : (decide (q.x < q.y) = false)) {post : Exit → St → Prop} {R : St → Prop} (hR : ∀ st, Ren 0 st (St.mk 68 [(0, AV.lst (gL q.g)), (2, AV.int IntKind.i64 (iN q.goal)), (7, AV.lst (List.map (AV.int IntKind.i64) q.d)), (8, AV.sl 0 0 q.p.length), (10, AV.int IntKind.i64 q.bz), (27, AV.lst (List.map (AV.int IntKind.i64) q.r)), (28, AV.int IntKind.i64 (iN q.r.length)), (29, AV.int IntKind.i64 (IntKind.i64.wrap (iN q.i + 1)))] [some (Blk.mk (List.map (AV.int IntKind.i64) q.p) 1 true true)]) → R st) : ∃ o' st' q', go Try.prog ({ dec := [(30, true), (37, true), (40, false), (52, false)], els := e39 q, calls := cB q, unroll := false } : HT) 0 4000 (.inl (loopC (loopC (bodyOf Try.f24) 0) 0)) [] (li39 q) = some (o', st', q') ∧ q' ∧ Go.AX.Rest Try.prog 0 (andThen R post) st' o' :=
  endN_spec (σ := [0]) (fz := []) (vars := [0,2,7,8,10,27,28,29]) (show endN 0 [0] [] [0,2,7,8,10,27,28,29] (go Try.prog ({ dec := [(30, true), (37, true), (40, false), (52, false)], els := e39 q, calls := cB q, unroll := false } : HT) 0 4000 (.inl (loopC (loopC (bodyOf Try.f24) 0) 0)) [] (li39 q)) = some (St.mk 68 [(0, AV.lst (gL q.g)), (2, AV.int IntKind.i64 (iN q.goal)), (7, AV.lst (List.map (AV.int IntKind.i64) q.d)), (8, AV.sl 0 0 q.p.length), (10, AV.int IntKind.i64 q.bz), (27, AV.lst (List.map (AV.int IntKind.i64) q.r)), (28, AV.int IntKind.i64 (iN q.r.length)), (29, AV.int IntKind.i64 (IntKind.i64.wrap (iN q.i + 1)))] [some (Blk.mk (List.map (AV.int IntKind.i64) q.p) 1 true true)], ((((True ∧ (True ∧ True)) ∧ True) ∧ ((type_of% h1) ∧ (((True ∧ (True ∧ ((type_of% h2) ∧ (type_of% h3)))) ∧ ((True ∧ True) ∧ ((True ∧ True) ∧ True))) ∧ (((True ∧ True) ∧ ((True ∧ True) ∧ ((True ∧ (True ∧ ((type_of% h4) ∧ (type_of% h5)))) ∧ ((True ∧ True) ∧ ((True ∧ True) ∧ (((type_of% h6) ∧ True) ∧ ((True ∧ (True ∧ True)) ∧ ((True ∧ (True ∧ True)) ∧ ((True ∧ ((type_of% h7) ∧ True)) ∧ ((True ∧ (True ∧ True)) ∧ ((True ∧ (True ∧ True)) ∧ ((True ∧ (True ∧ (True ∧ ((type_of% h4) ∧ (type_of% h5))))) ∧ ((True ∧ (True ∧ True)) ∧ ((True ∧ (True ∧ True)) ∧ ((True ∧ (True ∧ True)) ∧ ((True ∧ (True ∧ (True ∧ ((type_of% h8) ∧ (type_of% h9))))) ∧ ((True ∧ (True ∧ True)) ∧ ((True ∧ (True ∧ (True ∧ True))) ∧ ((True ∧ (True ∧ (True ∧ True))) ∧ ((True ∧ (True ∧ True)) ∧ True)))))))))))))))))))) ∧ ((type_of% h10) ∧ (((True ∧ True) ∧ ((True ∧ True) ∧ True)) ∧ True)))))) ∧ (True ∧ (True ∧ (True ∧ (True ∧ (True ∧ (True ∧ (True ∧ (True ∧ (True ∧ True))))))))))) by kernel_rfl) ⟨⟨⟨⟨trivial, ⟨trivial, trivial⟩⟩, trivial⟩, ⟨h1, ⟨⟨⟨trivial, ⟨trivial, ⟨h2, h3⟩⟩⟩, ⟨⟨trivial, trivial⟩, ⟨⟨trivial, trivial⟩, trivial⟩⟩⟩, ⟨⟨⟨trivial, trivial⟩, ⟨⟨trivial, trivial⟩, ⟨⟨trivial, ⟨trivial, ⟨h4, h5⟩⟩⟩, ⟨⟨trivial, trivial⟩, ⟨⟨trivial, trivial⟩, ⟨⟨h6, trivial⟩, ⟨⟨trivial, ⟨trivial, trivial⟩⟩, ⟨⟨trivial, ⟨trivial, trivial⟩⟩, ⟨⟨trivial, ⟨h7, trivial⟩⟩, ⟨⟨trivial, ⟨trivial, trivial⟩⟩, ⟨⟨trivial, ⟨trivial, trivial⟩⟩, ⟨⟨trivial, ⟨trivial, ⟨trivial, ⟨h4, h5⟩⟩⟩⟩, ⟨⟨trivial, ⟨trivial, trivial⟩⟩, ⟨⟨trivial, ⟨trivial, trivial⟩⟩, ⟨⟨trivial, ⟨trivial, trivial⟩⟩, ⟨⟨trivial, ⟨trivial, ⟨trivial, ⟨h8, h9⟩⟩⟩⟩, ⟨⟨trivial, ⟨trivial, trivial⟩⟩, ⟨⟨trivial, ⟨trivial, ⟨trivial, trivial⟩⟩⟩, ⟨⟨trivial, ⟨trivial, ⟨trivial, trivial⟩⟩⟩, ⟨⟨trivial, ⟨trivial, trivial⟩⟩, trivial⟩⟩⟩⟩⟩⟩⟩⟩⟩⟩⟩⟩⟩⟩⟩⟩⟩⟩⟩⟩, ⟨h10, ⟨⟨⟨trivial, trivial⟩, ⟨⟨trivial, trivial⟩, trivial⟩⟩, trivial⟩⟩⟩⟩⟩⟩, ⟨trivial, ⟨trivial, ⟨trivial, ⟨trivial, ⟨trivial, ⟨trivial, ⟨trivial, ⟨trivial, ⟨trivial, trivial⟩⟩⟩⟩⟩⟩⟩⟩⟩⟩ hR
theorem tw_0 (q : QB) (h1 : (CT Try.prog 23 [] [AV.lst (gL q.g), AV.lst (boL q.s)] [] (AV.int IntKind.i64 0))) (h2 : (decide (iN (gL q.g).length ≤ iN q.goal) = false)) (h3 : (CT Try.prog 24 [] [AV.lst (gL q.g), AV.lst (boL q.s), AV.int IntKind.i64 (iN q.goal)] [] (AV.lst (List.map (AV.int IntKind.i64) q.p)))) : ∃ o' st' q', go Try.prog ({ dec := [(18, false), (23, false)], els := e24 q, calls := cB q, unroll := false } : HT) 0 4000 (.inl (bodyOf Try.f14)) [] (st24 q) = some (o', st', q') ∧ q' ∧ Go.AX.Rest Try.prog 0 (Fin Try.prog Try.f14 0 [] (AV.tup [AV.int IntKind.i64 (iN (List.map (AV.int IntKind.i64) q.p).length), AV.lst (List.map (AV.int IntKind.i64) q.p), AV.int IntKind.i64 0])) st' o' :=
  endF_spec (σ := []) (fz := []) (show endF Try.prog Try.f14 0 [] [] (go Try.prog ({ dec := [(18, false), (23, false)], els := e24 q, calls := cB q, unroll := false } : HT) 0 4000 (.inl (bodyOf Try.f14)) [] (st24 q)) = some ([], AV.tup [AV.int IntKind.i64 (iN (List.map (AV.int IntKind.i64) q.p).length), AV.lst (List.map (AV.int IntKind.i64) q.p), AV.int IntKind.i64 0], (((True ∧ (True ∧ (True ∧ True))) ∧ (((True ∧ True) ∧ ((True ∧ True) ∧ ((True ∧ (True ∧ (True ∧ (True ∧ ((type_of% h1) ∧ True))))) ∧ ((True ∧ True) ∧ True)))) ∧ (((True ∧ True) ∧ ((True ∧ True) ∧ True)) ∧ (True ∧ (((True ∧ True) ∧ ((True ∧ True) ∧ (((false = false) ∧ True) ∧ ((True ∧ (True ∧ True)) ∧ ((True ∧ (True ∧ True)) ∧ ((True ∧ (True ∧ True)) ∧ ((True ∧ (True ∧ (True ∧ True))) ∧ ((True ∧ ((type_of% h2) ∧ True)) ∧ True)))))))) ∧ (True ∧ (((True ∧ True) ∧ ((True ∧ True) ∧ ((True ∧ True) ∧ ((True ∧ (True ∧ (True ∧ (True ∧ (True ∧ (True ∧ ((type_of% h3) ∧ True))))))) ∧ ((True ∧ True) ∧ True))))) ∧ (((True ∧ True) ∧ ((True ∧ True) ∧ ((True ∧ True) ∧ ((True ∧ True) ∧ ((True ∧ True) ∧ (True ∧ True)))))) ∧ True)))))))) ∧ ((True ∧ (True ∧ (True ∧ True))) ∧ True))) by kernel_rfl) ⟨⟨⟨trivial, ⟨trivial, ⟨trivial, trivial⟩⟩⟩, ⟨⟨⟨trivial, trivial⟩, ⟨⟨trivial, trivial⟩, ⟨⟨trivial, ⟨trivial, ⟨trivial, ⟨trivial, ⟨h1, trivial⟩⟩⟩⟩⟩, ⟨⟨trivial, trivial⟩, trivial⟩⟩⟩⟩, ⟨⟨⟨trivial, trivial⟩, ⟨⟨trivial, trivial⟩, trivial⟩⟩, ⟨trivial, ⟨⟨⟨trivial, trivial⟩, ⟨⟨trivial, trivial⟩, ⟨⟨(by first | decide | exact Int.NonNeg.mk _), trivial⟩, ⟨⟨trivial, ⟨trivial, trivial⟩⟩, ⟨⟨trivial, ⟨trivial, trivial⟩⟩, ⟨⟨trivial, ⟨trivial, trivial⟩⟩, ⟨⟨trivial, ⟨trivial, ⟨trivial, trivial⟩⟩⟩, ⟨⟨trivial, ⟨h2, trivial⟩⟩, trivial⟩⟩⟩⟩⟩⟩⟩⟩, ⟨trivial, ⟨⟨⟨trivial, trivial⟩, ⟨⟨trivial, trivial⟩, ⟨⟨trivial, trivial⟩, ⟨⟨trivial, ⟨trivial, ⟨trivial, ⟨trivial, ⟨trivial, ⟨trivial, ⟨h3, trivial⟩⟩⟩⟩⟩⟩⟩, ⟨⟨trivial, trivial⟩, trivial⟩⟩⟩⟩⟩, ⟨⟨⟨trivial, trivial⟩, ⟨⟨trivial, trivial⟩, ⟨⟨trivial, trivial⟩, ⟨⟨trivial, trivial⟩, ⟨⟨trivial, trivial⟩, ⟨trivial, trivial⟩⟩⟩⟩⟩⟩, trivial⟩⟩⟩⟩⟩⟩⟩⟩, ⟨⟨trivial, ⟨trivial, ⟨trivial, trivial⟩⟩⟩, trivial⟩⟩
end Go.Proofs.Ytcdgphdieemjcaa

/-! Contracts. -/
open Go Go.AX Go.Proofs
set_option maxRecDepth 100000
set_option maxHeartbeats 1000000
set_option linter.unusedVariables false
set_option linter.unusedSimpArgs false
namespace Go.Proofs.Ytcdgphdieemjcaa
/-! The search in breadth. -/
def cntD (d : List Int) (n : Nat) : Nat := cnt (fun v => decide (0 ≤ d.getD v 0)) n
theorem cntD_set {d : List Int} {v : Nat} {x : Int} (hv : v < d.length) (hd : d.getD v 0 < 0) (hx : 0 ≤ x) {n : Nat} (hn : v < n) : cntD (d.set v x) n + 1 = cntD d n := by
  have e : (fun u => decide (0 ≤ (d.set v x).getD u 0)) = upd (fun u => decide (0 ≤ d.getD u 0)) v := by
    funext u
    rw [getD_set d v u x hv]
    unfold upd
    by_cases h : u = v
    · subst h; simp [hx]
    · rw [if_neg (fun e => h e.symm), if_neg h]
  unfold cntD
  rw [e]
  exact cnt_upd _ v (decide_eq_false (by omega)) n hn

structure Bf (g : List (List Int)) (s : List Bool) (goal : Nat) (d o : List Int) : Prop where
  len : d.length = g.length
  zero : d.getD goal 0 = 0
  neg : ∀ v, v < g.length → -1 ≤ d.getD v 0
  que : ∀ x ∈ o, ∃ u : Nat, x = (u : Int) ∧ u < g.length ∧ 0 ≤ d.getD u 0
  srt : o.Pairwise fun a b => d.getD a.toNat 0 ≤ d.getD b.toNat 0
  back : ∀ v, v < g.length → 0 ≤ d.getD v 0 → v = goal ∨ (s.getD v false = false ∧ ∃ w ∈ g.getD v [], 0 ≤ d.getD w.toNat 0 ∧ d.getD v 0 = d.getD w.toNat 0 + 1)
  bnd : ∀ v, v < g.length → d.getD v 0 + (cntD d g.length : Nat) < g.length
  mea : o.length + cntD d g.length ≤ g.length

def ClsD (g : List (List Int)) (s : List Bool) (d : List Int) (u : Nat) : Prop := ∀ v, v < g.length → s.getD v false = false → (u : Int) ∈ g.getD v [] → 0 ≤ d.getD v 0 ∧ d.getD v 0 ≤ d.getD u 0 + 1

structure Bm (g : List (List Int)) (s : List Bool) (goal : Nat) (d o : List Int) (w k : Nat) : Prop where
  bf : Bf g s goal d o
  wl : w < g.length
  pos : 0 ≤ d.getD w 0
  le : ∀ v, v < g.length → d.getD v 0 ≤ d.getD w 0 + 1
  ge : ∀ x ∈ o, d.getD w 0 ≤ d.getD x.toNat 0
  cls : ∀ u, u < g.length → 0 ≤ d.getD u 0 → (u : Int) ∈ o ∨ u = w ∨ ClsD g s d u
  don : ∀ v, v < k → v < g.length → s.getD v false = false → (w : Int) ∈ g.getD v [] → 0 ≤ d.getD v 0

structure Bo (g : List (List Int)) (s : List Bool) (goal : Nat) (d o : List Int) : Prop where
  bf : Bf g s goal d o
  le : ∀ x ∈ o, ∀ v, v < g.length → d.getD v 0 ≤ d.getD x.toNat 0 + 1
  cls : ∀ u, u < g.length → 0 ≤ d.getD u 0 → (u : Int) ∈ o ∨ ClsD g s d u

theorem Bm.skip {g : List (List Int)} {s : List Bool} {goal : Nat} {d o : List Int} {w k : Nat} (h : Bm g s goal d o w k) (hk : 0 ≤ d.getD k 0 ∨ s.getD k false = true ∨ (w : Int) ∉ g.getD k []) : Bm g s goal d o w (k + 1) :=
  ⟨h.bf, h.wl, h.pos, h.le, h.ge, h.cls, fun v hv hvl hs hm => by
    by_cases e : v = k
    · subst e
      rcases hk with h1 | h1 | h1
      · exact h1
      · rw [hs] at h1; cases h1
      · exact absurd hm h1
    · exact h.don v (by omega) hvl hs hm⟩

theorem Bm.push {g : List (List Int)} {s : List Bool} {goal : Nat} {d o : List Int} {w k : Nat} (h : Bm g s goal d o w k) (hk : k < g.length) (hd : d.getD k 0 < 0) (hs : s.getD k false = false) (hm : (w : Int) ∈ g.getD k []) :
    Bm g s goal (d.set k (d.getD w 0 + 1)) (o ++ [(k : Int)]) w (k + 1) := by
  have hkl : k < d.length := by rw [h.bf.len]; exact hk
  have gs := fun u => getD_set d k u (d.getD w 0 + 1) hkl
  have hne : ∀ u, 0 ≤ d.getD u 0 → (d.set k (d.getD w 0 + 1)).getD u 0 = d.getD u 0 := by
    intro u hu
    rw [gs, if_neg (by rintro rfl; omega)]
  have hkk : (d.set k (d.getD w 0 + 1)).getD k 0 = d.getD w 0 + 1 := by rw [gs, if_pos rfl]
  have hgk : goal ≠ k := by rintro rfl; rw [h.bf.zero] at hd; omega
  have hc := cntD_set hkl hd (show 0 ≤ d.getD w 0 + 1 by have := h.pos; omega) hk
  have hw0 := hne w h.pos
  have hq : ∀ x ∈ o, (d.set k (d.getD w 0 + 1)).getD x.toNat 0 = d.getD x.toNat 0 := by
    intro x hx
    obtain ⟨u, rfl, _, hu⟩ := h.bf.que x hx
    exact hne _ (by simpa using hu)
  have hcls : ∀ u, u < g.length → 0 ≤ d.getD u 0 → ClsD g s d u → ClsD g s (d.set k (d.getD w 0 + 1)) u := by
    intro u _ hu hc v hv hsv hmv
    obtain ⟨a, b⟩ := hc v hv hsv hmv
    rw [hne v a, hne u hu]
    exact ⟨a, b⟩
  refine ⟨⟨by rw [List.length_set]; exact h.bf.len, by rw [hne goal (by rw [h.bf.zero]; omega)]; exact h.bf.zero, fun v hv => ?_, fun x hx => ?_, ?_, fun v hv h0 => ?_, fun v hv => ?_, by simp only [List.length_append, List.length_cons, List.length_nil]; have := h.bf.mea; omega⟩, h.wl, by rw [hw0]; exact h.pos, fun v hv => ?_, fun x hx => ?_, fun u hu h0 => ?_, fun v hv hvl hsv hmv => ?_⟩
  · rw [gs]; split
    · have := h.pos; omega
    · exact h.bf.neg v hv
  · rcases List.mem_append.1 hx with hx | hx
    · obtain ⟨u, rfl, hu1, hu2⟩ := h.bf.que x hx
      exact ⟨u, rfl, hu1, by rw [hne u hu2]; exact hu2⟩
    · simp only [List.mem_singleton] at hx
      exact ⟨k, hx, hk, by rw [hkk]; have := h.pos; omega⟩
  · rw [List.pairwise_append]
    refine ⟨h.bf.srt.imp_of_mem fun {a b} ha hb hab => by rw [hq a ha, hq b hb]; exact hab, by simp, fun a ha b hb => ?_⟩
    simp only [List.mem_singleton] at hb
    subst hb
    rw [hq a ha, Int.toNat_natCast, hkk]
    obtain ⟨u, rfl, hu, _⟩ := h.bf.que a ha
    rw [Int.toNat_natCast]
    exact h.le u hu
  · by_cases e : v = k
    · subst e
      refine .inr ⟨hs, (w : Int), hm, ?_, ?_⟩
      · rw [Int.toNat_natCast, hw0]; exact h.pos
      · rw [Int.toNat_natCast, hw0, hkk]
    · have e2 : (d.set k (d.getD w 0 + 1)).getD v 0 = d.getD v 0 := by rw [gs, if_neg (fun e' => e e'.symm)]
      rw [e2] at h0 ⊢
      rcases h.bf.back v hv h0 with h1 | ⟨h1, x, hx, h2, h3⟩
      · exact .inl h1
      · exact .inr ⟨h1, x, hx, by rw [hne _ h2]; exact h2, by rw [hne _ h2]; exact h3⟩
  · rw [gs]; split
    · have := h.bf.bnd w h.wl; omega
    · have := h.bf.bnd v hv; omega
  · rw [hw0, gs]; split
    · exact Int.le_refl _
    · exact h.le v hv
  · rw [hw0]
    rcases List.mem_append.1 hx with hx | hx
    · rw [hq x hx]; exact h.ge x hx
    · simp only [List.mem_singleton] at hx
      rw [hx, Int.toNat_natCast, hkk]; omega
  · by_cases e : u = k
    · exact .inl (by rw [e]; simp)
    · have e2 : (d.set k (d.getD w 0 + 1)).getD u 0 = d.getD u 0 := by rw [gs, if_neg (fun e' => e e'.symm)]
      rw [e2] at h0
      rcases h.cls u hu h0 with h1 | h1 | h1
      · exact .inl (List.mem_append_left _ h1)
      · exact .inr (.inl h1)
      · exact .inr (.inr (hcls u hu h0 h1))
  · by_cases e : v = k
    · subst e; rw [hkk]; have := h.pos; omega
    · have := h.don v (by omega) hvl hsv hmv
      rw [hne v this]; exact this

theorem Bo.pop {g : List (List Int)} {s : List Bool} {goal : Nat} {d o : List Int} {w : Nat} (h : Bo g s goal d ((w : Int) :: o)) : Bm g s goal d o w 0 := by
  obtain ⟨u, hu, hul, hu0⟩ := h.bf.que _ (List.mem_cons_self ..)
  obtain rfl : w = u := by omega
  have hs := List.pairwise_cons.1 h.bf.srt
  have hm := h.bf.mea
  simp only [List.length_cons] at hm
  refine ⟨⟨h.bf.len, h.bf.zero, h.bf.neg, fun x hx => h.bf.que x (List.mem_cons_of_mem _ hx), hs.2, h.bf.back, h.bf.bnd, by omega⟩, hul, hu0, fun v hv => ?_, fun x hx => ?_, fun v hv h0 => ?_, fun v hv => by omega⟩
  · have := h.le _ (List.mem_cons_self ..) v hv
    simpa using this
  · have := hs.1 x hx
    simpa using this
  · rcases h.cls v hv h0 with h1 | h1
    · rcases List.mem_cons.1 h1 with h1 | h1
      · exact .inr (.inl (by omega))
      · exact .inl h1
    · exact .inr (.inr h1)

theorem Bm.fin {g : List (List Int)} {s : List Bool} {goal : Nat} {d o : List Int} {w : Nat} (h : Bm g s goal d o w g.length) : Bo g s goal d o := by
  refine ⟨h.bf, fun x hx v hv => ?_, fun u hu h0 => ?_⟩
  · have h1 := h.le v hv
    have h2 := h.ge x hx
    omega
  · rcases h.cls u hu h0 with h1 | h1 | h1
    · exact .inl h1
    · exact .inr (by rw [h1]; exact fun v hv hs hm => ⟨h.don v hv hv hs hm, h.le v hv⟩)
    · exact .inr h1

theorem Bo.dst {g : List (List Int)} {s : List Bool} (hg : OkG g s) {goal : Nat} (hs : s.getD goal false = false) {d : List Int} (h : Bo g s goal d []) : Dst g s goal d := by
  refine ⟨h.bf.len, fun h' => (by rw [hs] at h'; cases h'), fun _ => h.bf.zero, fun v hv => ⟨h.bf.neg v hv, by have := h.bf.bnd v hv; omega⟩, h.bf.back, fun v hv hsv w hw h0 => ?_⟩
  have hr := (hg.row v hv).2 w hw
  rcases h.cls w.toNat (by omega) h0 with h1 | h1
  · cases h1
  · exact h1 v hv hsv (by rw [Int.toNat_of_nonneg hr.1]; exact hw)

theorem shM {g : List (List Int)} {s : List Bool} {goal a : Nat} {d : List Int} (hD : Dst g s goal d) (ha : a < g.length) (h0 : 0 ≤ d.getD a 0) : s.getD goal false = false := by
  cases h : s.getD goal false with
  | false => rfl
  | true => have := hD.shut h a ha; omega
theorem Dst.le {g : List (List Int)} {s : List Bool} (hg : OkG g s) {goal : Nat} {d e : List Int} (hD : Dst g s goal d) (hE : Dst g s goal e) : ∀ (m v : Nat), v < g.length → d.getD v 0 = (m : Int) → 0 ≤ e.getD v 0 ∧ e.getD v 0 ≤ (m : Int) := by
  intro m
  induction m with
  | zero =>
    intro v hv hm
    rcases hD.back v hv (by omega) with rfl | ⟨_, w, _, h1, h2⟩
    · rw [hE.zero (shM hD hv (by omega))]; exact ⟨Int.le_refl _, Int.le_refl _⟩
    · omega
  | succ m ih =>
    intro v hv hm
    rcases hD.back v hv (by omega) with rfl | ⟨ho, w, hw, h1, h2⟩
    · rw [hE.zero (shM hD hv (by omega))]; omega
    · have hr := (hg.row v hv).2 w hw
      obtain ⟨a, b⟩ := ih w.toNat (by omega) (by omega)
      obtain ⟨a', b'⟩ := hE.fwd v hv ho w hw a
      exact ⟨a', by omega⟩
theorem Dst.uniq {g : List (List Int)} {s : List Bool} (hg : OkG g s) {goal : Nat} {d e : List Int} (hD : Dst g s goal d) (hE : Dst g s goal e) : d = e := by
  apply List.ext_getElem (by rw [hD.len, hE.len])
  intro v h1 h2
  have hv : v < g.length := by rw [← hD.len]; exact h1
  have e1 : d.getD v 0 = d[v] := by rw [List.getD_eq_getElem?_getD, List.getElem?_eq_getElem h1]; rfl
  have e2 : e.getD v 0 = e[v] := by rw [List.getD_eq_getElem?_getD, List.getElem?_eq_getElem h2]; rfl
  rw [← e1, ← e2]
  have b1 := (hD.bnd v hv).1
  have b2 := (hE.bnd v hv).1
  by_cases c1 : 0 ≤ d.getD v 0
  · have l1 := hD.le hg hE (d.getD v 0).toNat v hv (by omega)
    have l2 := hE.le hg hD (e.getD v 0).toNat v hv (by omega)
    omega
  · by_cases c2 : 0 ≤ e.getD v 0
    · have l2 := hE.le hg hD (e.getD v 0).toNat v hv (by omega)
      omega
    · omega

theorem asc_lt {r : List Int} (hs : ∀ i, 0 < i → i < r.length → r.getD (i - 1) 0 < r.getD i 0) : ∀ (k i : Nat), i + k + 1 < r.length → r.getD i 0 < r.getD (i + k + 1) 0 := by
  intro k
  induction k with
  | zero => intro i h; have := hs (i + 1) (by omega) h; simpa using this
  | succ k ih =>
    intro i h
    have h1 := ih i (by omega)
    have h2 := hs (i + (k + 1) + 1) (by omega) h
    have e : i + (k + 1) + 1 - 1 = i + k + 1 := by omega
    rw [e] at h2
    omega

noncomputable def qb (g : List (List Int)) (s : List Bool) (goal : Nat) (d o : List Int) (w v : Nat) (r : List Int) (i : Nat) : QB := ⟨g, s, goal, g.length, d, o, w, v, r, i, 0, 0, 0, 0, false, []⟩
noncomputable def midS (sh : Bool) (q : QB) : St := match sh with
  | true => lb42 q
  | false => la42 q
noncomputable def inS2 (sh : Bool) (q : QB) : St := match sh with
  | true => ld42 q
  | false => lc42 q

theorem bc_run {g : List (List Int)} {s : List Bool} (hg : OkG g s) (hs : Asc g) (goal w v : Nat) (hw : w < g.length) (hv : v < g.length) (d o : List Int) (hd : d.length = g.length) (h0 : 0 ≤ d.getD w 0) (h1 : d.getD w 0 ≤ 1000) (hol : o.length ≤ 1000) (hdv : v ≠ w) (sh : Bool) {R : St → Prop} {post : Exit → St → Prop}
    (hR : ∀ sh', ((w : Int) ∈ g.getD v [] → ∀ st, Ren 0 st (midS sh' (qb g s goal (d.set v (d.getD w 0 + 1)) (o ++ [(v : Int)]) w (v + 1) [] 0)) → R st) ∧ ((w : Int) ∉ g.getD v [] → ∀ st, Ren 0 st (midS sh' (qb g s goal d o w (v + 1) [] 0)) → R st)) :
    T Try.prog 0 (.loop (loopC (loopC (loopC (bodyOf Try.f30) 1) 0) 0)) (inS2 sh (qb g s goal d o w v (g.getD v []) 0)) (TK Try.prog 0 (andThen R post) (loopK (loopC (loopC (bodyOf Try.f30) 1) 0) 0)) := by
  have hgl := hg.len
  have hr1 := (hg.row v hv).1
  have hget := fun i => row_get hg hv (i := i)
  have hasc := asc_lt (hs v hv)
  generalize g.getD v [] = r at hr1 hget hasc hR
  have wv : IntKind.i64.wrap (iN v + 1) = ((v + 1 : Nat) : Int) := wrap_nat v (by omega)
  have wx : IntKind.i64.wrap (d.getD w 0 + 1) = d.getD w 0 + 1 := wrapS _ (by omega) (by omega)
  refine T.loop (fun y : Nat × Bool => inS2 (sh || y.2) (qb g s goal (if y.2 then d.set v (d.getD w 0 + 1) else d) (if y.2 then o ++ [(v : Int)] else o) w v r y.1))
    (fun y => y.1 ≤ r.length ∧ (y.2 = true → (w : Int) ∈ r ∧ ∀ j, y.1 ≤ j → j < r.length → r.getD j 0 ≠ (w : Int)) ∧ (y.2 = false → ∀ j, j < y.1 → r.getD j 0 ≠ (w : Int)))
    (fun y => r.length + 1 - y.1) (0, false) ⟨Nat.zero_le _, fun h => (by cases h), fun _ j hj => by simp only at hj; omega⟩ ?_ |> fun h => by
      simpa using h
  rintro ⟨i, mt⟩ ⟨hi, hT, hF⟩
  simp only at hi hT hF
  by_cases h : i < r.length
  · obtain ⟨u, hu, hu1, hu2⟩ := hget i h
    have hg1 := lI_get h
    rw [hu] at hg1
    have dk : decide (iN i < iN r.length) = true := decide_eq_true (by simp only [iN]; omega)
    have wi : IntKind.i64.wrap (iN i + 1) = ((i + 1 : Nat) : Int) := wrap_nat i (by omega)
    by_cases e : u = w
    · subst e
      have hm : (u : Int) ∈ r := by
        rw [← hu, List.getD_eq_getElem?_getD, List.getElem?_eq_getElem h]; exact List.getElem_mem h
      cases mt with
      | true => exact absurd hu ((hT rfl).2 i (Nat.le_refl _) h)
      | false =>
        have nx : ((i + 1, true) : Nat × Bool).1 ≤ r.length ∧ (((i + 1, true) : Nat × Bool).2 = true → (u : Int) ∈ r ∧ ∀ j, i + 1 ≤ j → j < r.length → r.getD j 0 ≠ (u : Int)) ∧ (((i + 1, true) : Nat × Bool).2 = false → ∀ j, j < i + 1 → r.getD j 0 ≠ (u : Int)) :=
          ⟨h, fun _ => ⟨hm, fun j h1 h2 => by
            have := hasc (j - i - 1) i (by omega)
            rw [show i + (j - i - 1) + 1 = j by omega, hu] at this
            omega⟩, fun h => by cases h⟩
        have hdw := lI_get0 (l := d) (j := u) (by omega)
        have e6 : o.map (AV.int .i64) ++ [AV.int .i64 (iN v)] = (o ++ [(v : Int)]).map (AV.int .i64) := by simp
        have e5 : (o.map (AV.int .i64)).length + [AV.int .i64 (iN v)].length = (o ++ [(v : Int)]).length := by simp
        have e7 : (d.map (AV.int .i64)).set (0 + (iN v).toNat) (AV.int .i64 (d.getD u 0 + 1)) = (d.set v (d.getD u 0 + 1)).map (AV.int .i64) := by
          rw [show (iN v).toNat = v from rfl, map_set]
        cases sh with
        | false =>
          refine T.path mix (bcm_0 ⟨g, s, goal, g.length, d, o, u, v, r, i, u, d.getD u 0, 0, 0, false, []⟩ dk (by simp [iN]) hg1 (by simp [iN]) (by simp [iN]) (by simp only [iN]; omega) hdw (by simp [iN]) (by simp only [iN]; omega) (by show (_ : Nat) ≤ _; simp [iN]; omega) (fun x hx => by obtain ⟨y, _, rfl⟩ := List.mem_map.1 hx; rfl) (by simp) (by simp) (by simp; omega) (by simp; omega) ?_)
          intro st hst
          simp only [wi, wx] at hst
          rw [e5, e6, e7] at hst
          exact ⟨(i + 1, true), hst, nx, by simp only; omega⟩
        | true =>
          refine T.path mix (bdm_0 ⟨g, s, goal, g.length, d, o, u, v, r, i, u, d.getD u 0, 0, 0, false, []⟩ dk (by simp [iN]) hg1 (by simp [iN]) (by simp [iN]) (by simp only [iN]; omega) hdw (by simp [iN]) (by simp only [iN]; omega) (by show (_ : Nat) ≤ _; simp [iN]; omega) (by simp) (by simp) (by simp; omega) (by simp; omega) ?_)
          intro st hst
          simp only [wi, wx] at hst
          rw [e5, e6, e7] at hst
          exact ⟨(i + 1, true), hst, nx, by simp only; omega⟩
    · have nx : ((i + 1, mt) : Nat × Bool).1 ≤ r.length ∧ (((i + 1, mt) : Nat × Bool).2 = true → (w : Int) ∈ r ∧ ∀ j, i + 1 ≤ j → j < r.length → r.getD j 0 ≠ (w : Int)) ∧ (((i + 1, mt) : Nat × Bool).2 = false → ∀ j, j < i + 1 → r.getD j 0 ≠ (w : Int)) := by
        refine ⟨h, fun hm => ⟨(hT hm).1, fun j h1 h2 => (hT hm).2 j (by omega) h2⟩, fun hm j hj => ?_⟩
        by_cases ej : j = i
        · rw [ej, hu]; omega
        · exact hF hm j (by omega)
      cases hsh : (sh || mt) with
      | false =>
        refine T.path mix (bcn_0 ⟨g, s, goal, g.length, if mt then d.set v (d.getD w 0 + 1) else d, if mt then o ++ [(v : Int)] else o, w, v, r, i, u, 0, 0, 0, false, []⟩ dk (by simp [iN]) hg1 (by simp [iN]; omega) ?_)
        intro st hst
        simp only [wi] at hst
        refine ⟨(i + 1, mt), ?_, nx, by simp only; omega⟩
        simp only [hsh]
        exact hst
      | true =>
        refine T.path mix (bdn_0 ⟨g, s, goal, g.length, if mt then d.set v (d.getD w 0 + 1) else d, if mt then o ++ [(v : Int)] else o, w, v, r, i, u, 0, 0, 0, false, []⟩ dk (by simp [iN]) hg1 (by simp [iN]; omega) ?_)
        intro st hst
        simp only [wi] at hst
        refine ⟨(i + 1, mt), ?_, nx, by simp only; omega⟩
        simp only [hsh]
        exact hst
  · have fin : ∀ st, Ren 0 st (midS (sh || mt) (qb g s goal (if mt then d.set v (d.getD w 0 + 1) else d) (if mt then o ++ [(v : Int)] else o) w (v + 1) [] 0)) → R st := by
      intro st hst
      cases mt with
      | true => exact (hR _).1 (hT rfl).1 st hst
      | false =>
        refine (hR _).2 (fun hm => ?_) st hst
        obtain ⟨j, hj, hje⟩ := List.mem_iff_getElem.1 hm
        exact hF rfl j (by omega) (by rw [List.getD_eq_getElem?_getD, List.getElem?_eq_getElem hj]; exact hje)
    cases hsh : (sh || mt) with
    | false =>
      rw [hsh] at fin
      refine T.out mix (bcx_0 ⟨g, s, goal, g.length, if mt then d.set v (d.getD w 0 + 1) else d, if mt then o ++ [(v : Int)] else o, w, v, r, i, 0, 0, 0, 0, false, []⟩ (decide_eq_false (by simp only [iN]; omega)) ?_)
      intro st hst
      simp only [wv] at hst
      exact fin st hst
    | true =>
      rw [hsh] at fin
      refine T.out mix (bdx_0 ⟨g, s, goal, g.length, if mt then d.set v (d.getD w 0 + 1) else d, if mt then o ++ [(v : Int)] else o, w, v, r, i, 0, 0, 0, 0, false, []⟩ (decide_eq_false (by simp only [iN]; omega)) ?_)
      intro st hst
      simp only [wv] at hst
      exact fin st hst

theorem bm_run {g : List (List Int)} {s : List Bool} (hg : OkG g s) (hs : Asc g) (goal w : Nat) (d0 o0 : List Int) (h0 : Bm g s goal d0 o0 w 0) {R : St → Prop} {post : Exit → St → Prop}
    (hR : ∀ d o, Bo g s goal d o → 2 * cntD d g.length + o.length ≤ 2 * cntD d0 g.length + o0.length → ∀ st, Ren 0 st (lo42 (qb g s goal d o 0 0 [] 0)) → R st) :
    T Try.prog 0 (.loop (loopC (loopC (bodyOf Try.f30) 1) 0)) (la42 (qb g s goal d0 o0 w 0 [] 0)) (TK Try.prog 0 (andThen R post) (loopK (loopC (bodyOf Try.f30) 1) 0)) := by
  have hgl := hg.len
  refine T.loop (fun y : Nat × Bool × List Int × List Int => midS y.2.1 (qb g s goal y.2.2.1 y.2.2.2 w y.1 [] 0))
    (fun y => y.1 ≤ g.length ∧ Bm g s goal y.2.2.1 y.2.2.2 w y.1 ∧ 2 * cntD y.2.2.1 g.length + y.2.2.2.length ≤ 2 * cntD d0 g.length + o0.length)
    (fun y => g.length + 1 - y.1) (0, false, d0, o0) ⟨Nat.zero_le _, h0, Nat.le_refl _⟩ ?_
  rintro ⟨v, sh, d, o⟩ ⟨hv, hB, hM⟩
  simp only at hv hB hM
  by_cases h : v < g.length
  · have hdl := hB.bf.len
    have hrow := gL_get h
    have hsv := boL_get (s := s) (v := v) (by rw [hg.sh]; exact h)
    have hdv := lI_get0 (l := d) (j := v) (by omega)
    have dk : decide (iN v < iN g.length) = true := decide_eq_true (by simp only [iN]; omega)
    have wv : IntKind.i64.wrap (iN v + 1) = ((v + 1 : Nat) : Int) := wrap_nat v (by omega)
    have next : (0 ≤ d.getD v 0 ∨ s.getD v false = true ∨ (w : Int) ∉ g.getD v []) → ∀ sh' st, Ren 0 st (midS sh' (qb g s goal d o w (v + 1) [] 0)) → ∃ j : Nat × Bool × List Int × List Int, Ren 0 st (midS j.2.1 (qb g s goal j.2.2.1 j.2.2.2 w j.1 [] 0)) ∧ (j.1 ≤ g.length ∧ Bm g s goal j.2.2.1 j.2.2.2 w j.1 ∧ 2 * cntD j.2.2.1 g.length + j.2.2.2.length ≤ 2 * cntD d0 g.length + o0.length) ∧ g.length + 1 - j.1 < g.length + 1 - v :=
      fun hk sh' st hst => ⟨(v + 1, sh', d, o), hst, ⟨h, hB.skip hk, hM⟩, by simp only; omega⟩
    have hm := hB.bf.mea
    have hbw := hB.bf.bnd w hB.wl
    by_cases c1 : 0 ≤ d.getD v 0
    · cases sh with
      | false =>
        refine T.path mix (bas_0 ⟨g, s, goal, g.length, d, o, w, v, g.getD v [], 0, 0, d.getD v 0, 0, 0, false, []⟩ dk (by simp [iN]) hrow (by simp only [iN]; omega) hdv (decide_eq_true c1) ?_)
        intro st hst
        simp only [wv] at hst
        exact next (.inl c1) false st hst
      | true =>
        refine T.path mix (bbs_0 ⟨g, s, goal, g.length, d, o, w, v, g.getD v [], 0, 0, d.getD v 0, 0, 0, false, []⟩ dk (by simp [iN]) hrow (by simp only [iN]; omega) hdv (decide_eq_true c1) ?_)
        intro st hst
        simp only [wv] at hst
        exact next (.inl c1) true st hst
    · by_cases c2 : s.getD v false = true
      · cases sh with
        | false =>
          refine T.path mix (bas_1 ⟨g, s, goal, g.length, d, o, w, v, g.getD v [], 0, 0, d.getD v 0, 0, 0, s.getD v false, []⟩ dk (by simp [iN]) hrow (by simp only [iN]; omega) hdv (decide_eq_false c1) hsv c2 ?_)
          intro st hst
          simp only [wv] at hst
          exact next (.inr (.inl c2)) false st hst
        | true =>
          refine T.path mix (bbs_1 ⟨g, s, goal, g.length, d, o, w, v, g.getD v [], 0, 0, d.getD v 0, 0, 0, s.getD v false, []⟩ dk (by simp [iN]) hrow (by simp only [iN]; omega) hdv (decide_eq_false c1) hsv c2 ?_)
          intro st hst
          simp only [wv] at hst
          exact next (.inr (.inl c2)) true st hst
      · have c2 := Bool.eq_false_iff.2 c2
        have hne : v ≠ w := by rintro rfl; exact c1 hB.pos
        have k := fun sh => bc_run hg hs goal w v hB.wl h d o hdl hB.pos (by omega) (by omega) hne sh (R := fun st' => ∃ j : Nat × Bool × List Int × List Int, Ren 0 st' (midS j.2.1 (qb g s goal j.2.2.1 j.2.2.2 w j.1 [] 0)) ∧ (j.1 ≤ g.length ∧ Bm g s goal j.2.2.1 j.2.2.2 w j.1 ∧ 2 * cntD j.2.2.1 g.length + j.2.2.2.length ≤ 2 * cntD d0 g.length + o0.length) ∧ g.length + 1 - j.1 < g.length + 1 - v)
          (post := TK Try.prog 0 (andThen R post) (loopK (loopC (bodyOf Try.f30) 1) 0)) fun sh' => ⟨fun hmem st hst => by
            have hp := hB.push h (by omega) c2 hmem
            have hc := cntD_set (d := d) (v := v) (x := d.getD w 0 + 1) (by omega) (by omega) (by have := hB.pos; omega) h
            exact ⟨(v + 1, sh', d.set v (d.getD w 0 + 1), o ++ [(v : Int)]), hst, ⟨h, hp, by simp only [List.length_append, List.length_cons, List.length_nil]; omega⟩, by simp only; omega⟩,
            fun hmem st hst => next (.inr (.inr hmem)) sh' st hst⟩
        cases sh with
        | false =>
          refine T.path mix (bai_0 ⟨g, s, goal, g.length, d, o, w, v, g.getD v [], 0, 0, d.getD v 0, 0, 0, s.getD v false, []⟩ dk (by simp [iN]) hrow (by simp only [iN]; omega) hdv (decide_eq_false c1) hsv c2 ?_)
          simp only [lI_len]
          exact k false
        | true =>
          refine T.path mix (bbi_0 ⟨g, s, goal, g.length, d, o, w, v, g.getD v [], 0, 0, d.getD v 0, 0, 0, s.getD v false, []⟩ dk (by simp [iN]) hrow (by simp only [iN]; omega) hdv (decide_eq_false c1) hsv c2 ?_)
          simp only [lI_len]
          exact k true
  · obtain rfl : v = g.length := by omega
    have dn : decide (iN g.length < iN g.length) = false := decide_eq_false (by omega)
    cases sh with
    | false =>
      refine T.out mix (bax_0 (qb g s goal d o w g.length [] 0) dn ?_)
      intro st hst
      exact hR d o hB.fin hM st (Ren.trans hst (Ren.wk 0 _))
    | true =>
      refine T.out mix (bbx_0 (qb g s goal d o w g.length [] 0) dn (by simp [qb]) ?_)
      intro st hst
      exact hR d o hB.fin hM st hst

theorem bfs_ct {g : List (List Int)} {s : List Bool} (hg : OkG g s) (hs : Asc g) (goal : Nat) (hgo : goal < g.length) (hso : s.getD goal false = false) : CT Try.prog 30 [] [.lst (gL g), .lst (boL s), .int .i64 (goal : Nat)] [] (lI (distL g s goal g.length)) := by
  have hgl := hg.len
  have hl := gL_len g
  refine CT.path mix Try.func30 (show Try.f30.body = some (bodyOf Try.f30) by kernel_rfl) (Nat.le_of_ble_eq_true rfl) (bi_0 (qb g s goal [] [] 0 0 [] 0) (Int.le_refl _) (by simp only [iN, qb, hl]; omega) (by simp only [iN, qb, hl]; omega) ?_)
  have key : T Try.prog 0 (.loop (loopC (bodyOf Try.f30) 0)) (lf42 (qb g s goal (fillL g.length 0) [] 0 0 [] 0)) (TK Try.prog 0 (Fin Try.prog Try.f30 0 [] (lI (distL g s goal g.length))) (loopK (bodyOf Try.f30) 0)) := by
    refine T.loop (fun i : Nat => lf42 (qb g s goal (fillL g.length i) [] 0 0 [] i)) (fun i => i ≤ g.length) (fun i => g.length + 1 - i) 0 (Nat.zero_le _) ?_
    intro i hi
    have hfl := fillL_len g.length i
    by_cases h : i < g.length
    · refine T.path mix (bfr_0 (qb g s goal (fillL g.length i) [] 0 0 [] i) (decide_eq_true (by simp only [iN, qb]; omega)) (by simp [iN]) (by simp only [iN, qb]; omega) (by show (_ : Nat) ≤ _; simp [iN, qb, hfl]; omega) ?_)
      intro st hst
      have wi : IntKind.i64.wrap (iN i + 1) = ((i + 1 : Nat) : Int) := wrap_nat i (by omega)
      simp only [qb, wi] at hst
      rw [show (iN i).toNat = i from rfl, map_set, fillL_set _ _ h] at hst
      exact ⟨i + 1, hst, h, by omega⟩
    · obtain rfl : i = g.length := by omega
      refine T.out mix (bfx_0 (qb g s goal (fillL g.length g.length) [] 0 0 [] g.length) (decide_eq_false (by simp only [iN, qb]; omega)) (by simp [iN]) (by simp only [iN, qb]; omega) (by show (_ : Nat) ≤ _; simp [iN, qb, hfl]; omega) (by simp) ?_)
      have e1 : ((fillL g.length g.length).map (AV.int .i64)).set (0 + (iN goal).toNat) (AV.int .i64 0) = (dist0 g goal).map (AV.int .i64) := by
        rw [show (iN goal).toNat = goal from rfl, map_set, fillL_n]; rfl
      simp only [qb]
      rw [e1]
      have hd0 : ∀ u, (dist0 g goal).getD u 0 = if goal = u then 0 else (List.replicate g.length (-1 : Int)).getD u 0 := fun u => getD_set _ goal u 0 (by simpa using hgo)
      have hdn : ∀ u, u < g.length → u ≠ goal → (dist0 g goal).getD u 0 = -1 := by
        intro u hu hne
        rw [hd0, if_neg (fun e => hne e.symm), List.getD_eq_getElem?_getD, List.getElem?_replicate, if_pos hu]; rfl
      have hdz : (dist0 g goal).getD goal 0 = 0 := by rw [hd0, if_pos rfl]
      have hd0l : (dist0 g goal).length = g.length := by simp [dist0]
      have hcn : cntD (dist0 g goal) g.length + 1 ≤ g.length := by
        have e : dist0 g goal = (List.replicate g.length (-1 : Int)).set goal 0 := rfl
        rw [e]
        have := cntD_set (d := List.replicate g.length (-1 : Int)) (v := goal) (x := 0) (by simpa using hgo) (by rw [List.getD_eq_getElem?_getD, List.getElem?_replicate, if_pos hgo]; decide) (by omega) hgo
        rw [this]
        exact cnt_le _ _
      refine T.loop (fun y : List Int × List Int => lo42 (qb g s goal y.1 y.2 0 0 [] 0)) (fun y => Bo g s goal y.1 y.2) (fun y => 2 * cntD y.1 g.length + y.2.length) (dist0 g goal, [(goal : Int)]) ⟨⟨hd0l, hdz, fun v hv => ?_, fun x hx => ?_, by simp, fun v hv h0 => ?_, fun v hv => ?_, by simp only [List.length_cons, List.length_nil]; omega⟩, fun x hx v hv => ?_, fun u hu h0 => ?_⟩ ?_
      · by_cases e : v = goal
        · rw [e, hdz]; omega
        · rw [hdn v hv e]; omega
      · simp only [List.mem_singleton] at hx
        exact ⟨goal, hx, hgo, by rw [hdz]; omega⟩
      · by_cases e : v = goal
        · exact .inl e
        · rw [hdn v hv e] at h0; omega
      · by_cases e : v = goal
        · simp only [e, hdz]; omega
        · simp only [hdn v hv e]; omega
      · simp only [List.mem_singleton] at hx
        rw [hx, Int.toNat_natCast, hdz]
        by_cases e : v = goal
        · rw [e, hdz]; omega
        · rw [hdn v hv e]; omega
      · by_cases e : u = goal
        · exact .inl (by simp [e])
        · rw [hdn u hu e] at h0; omega
      · rintro ⟨d, o⟩ hB
        simp only at hB
        cases o with
        | nil =>
          have hD := hB.dst hg hso
          rw [← Dst.uniq hg hD (dst_ok hg hgo)]
          exact T.out mix (box_0 (qb g s goal d [] 0 0 [] 0) (by simp [iN, qb]) (by simp [qb, hD.len]))
        | cons x o =>
          obtain ⟨w, rfl, hw, hw0⟩ := hB.bf.que x (List.mem_cons_self ..)
          have hm := hB.bf.mea
          refine T.path mix (bo_0 ⟨g, s, goal, g.length, d, (w : Int) :: o, w, 0, [], 0, 0, 0, 0, 0, false, []⟩ (decide_eq_true (by simp only [iN, lI_len, List.length_cons]; omega)) (by simp [iN]) (fun x hx => by obtain ⟨y, _, rfl⟩ := List.mem_map.1 hx; rfl) (by simp only [iN, lI_len, List.length_cons]; omega) (Int.le_refl _) ?_)
          have e2 : List.take ((((w : Int) :: o).map (AV.int .i64)).length - Int.toNat 1) (List.drop (Int.toNat 1) (((w : Int) :: o).map (AV.int .i64))) = o.map (AV.int .i64) := by
            simp [List.take_of_length_le]
          simp only [hl]
          rw [e2]
          exact bm_run hg hs goal w d o hB.pop (R := fun st' => ∃ j : List Int × List Int, Ren 0 st' (lo42 (qb g s goal j.1 j.2 0 0 [] 0)) ∧ Bo g s goal j.1 j.2 ∧ 2 * cntD j.1 g.length + j.2.length < 2 * cntD d g.length + ((w : Int) :: o).length)
            (post := TK Try.prog 0 (Fin Try.prog Try.f30 0 [] (lI (distL g s goal g.length))) (loopK (bodyOf Try.f30) 1)) fun d' o' h1 h2 st hst => ⟨(d', o'), hst, h1, by simp only [List.length_cons]; omega⟩
  unfold lf42 qb dB at key
  simp only [qb, hl, fillL_0]
  exact key
end Go.Proofs.Ytcdgphdieemjcaa

/-! Contracts. -/
open Go Go.AX Go.Proofs
set_option maxRecDepth 100000
set_option maxHeartbeats 1000000
set_option linter.unusedVariables false
set_option linter.unusedSimpArgs false
namespace Go.Proofs.Ytcdgphdieemjcaa
noncomputable def bestF (d : List Int) (b w : Int) : Int := if 0 ≤ d.getD w.toNat 0 then (if b < 0 then w else if d.getD w.toNat 0 < d.getD b.toNat 0 then w else b) else b
noncomputable def bestN (d r : List Int) : Nat → Int
  | 0 => -1
  | i + 1 => bestF d (bestN d r i) (r.getD i 0)
def BestOk (d r : List Int) (i : Nat) (b : Int) : Prop := (b = -1 ∧ ∀ j, j < i → d.getD (r.getD j 0).toNat 0 < 0) ∨
  ∃ k, k < i ∧ b = r.getD k 0 ∧ 0 ≤ d.getD (r.getD k 0).toNat 0 ∧ (∀ j, j < i → 0 ≤ d.getD (r.getD j 0).toNat 0 → d.getD (r.getD k 0).toNat 0 ≤ d.getD (r.getD j 0).toNat 0) ∧ ∀ j, j < k → 0 ≤ d.getD (r.getD j 0).toNat 0 → d.getD (r.getD k 0).toNat 0 < d.getD (r.getD j 0).toNat 0

theorem best_ok {d r : List Int} (h0 : ∀ j, j < r.length → 0 ≤ r.getD j 0) : ∀ i, i ≤ r.length → BestOk d r i (bestN d r i) := by
  intro i
  induction i with
  | zero => intro _; exact .inl ⟨rfl, fun j hj => by omega⟩
  | succ i ih =>
    intro hi
    have ih := ih (by omega)
    rw [bestN]
    generalize bestN d r i = b at ih
    unfold bestF
    by_cases c1 : 0 ≤ d.getD (r.getD i 0).toNat 0
    · rw [if_pos c1]
      rcases ih with ⟨rfl, hn⟩ | ⟨k, hk, rfl, hk0, hmin, hfst⟩
      · rw [if_pos (by decide)]
        refine .inr ⟨i, by omega, rfl, c1, fun j hj hj0 => ?_, fun j hj hj0 => ?_⟩
        · by_cases e : j = i
          · rw [e]; exact Int.le_refl _
          · have := hn j (by omega); omega
        · have := hn j (by omega); omega
      · have := h0 k (by omega)
        rw [if_neg (by omega)]
        by_cases c2 : d.getD (r.getD i 0).toNat 0 < d.getD (r.getD k 0).toNat 0
        · rw [if_pos c2]
          refine .inr ⟨i, by omega, rfl, c1, fun j hj hj0 => ?_, fun j hj hj0 => ?_⟩
          · by_cases e : j = i
            · rw [e]; exact Int.le_refl _
            · have := hmin j (by omega) hj0; omega
          · have := hmin j (by omega) hj0; omega
        · rw [if_neg c2]
          refine .inr ⟨k, by omega, rfl, hk0, fun j hj hj0 => ?_, hfst⟩
          by_cases e : j = i
          · rw [e]; omega
          · exact hmin j (by omega) hj0
    · rw [if_neg c1]
      rcases ih with ⟨rfl, hn⟩ | ⟨k, hk, rfl, hk0, hmin, hfst⟩
      · refine .inl ⟨rfl, fun j hj => ?_⟩
        by_cases e : j = i
        · rw [e]; omega
        · exact hn j (by omega)
      · refine .inr ⟨k, by omega, rfl, hk0, fun j hj hj0 => ?_, hfst⟩
        by_cases e : j = i
        · rw [e] at hj0; omega
        · exact hmin j (by omega) hj0

theorem fnd_first {p : Nat → Bool} : ∀ {n s j : Nat}, fnd p s n = some j → ∀ i, s ≤ i → i < j → p i = false := by
  intro n
  induction n with
  | zero => intro s j h; cases h
  | succ n ih =>
    intro s j h i hi hij
    rw [fnd] at h
    cases hp : p s with
    | true => rw [hp] at h; cases h; omega
    | false =>
      rw [hp] at h
      by_cases e : i = s
      · rw [e]; exact hp
      · exact ih h i (by omega) hij

theorem row_nn {g : List (List Int)} {s : List Bool} (hg : OkG g s) {v : Nat} (hv : v < g.length) : ∀ j, j < (g.getD v []).length → 0 ≤ (g.getD v []).getD j 0 := fun j hj => by
  obtain ⟨w, hw, _⟩ := row_get hg hv hj; omega
theorem row_mem {g : List (List Int)} {v j : Nat} (hj : j < (g.getD v []).length) : (g.getD v []).getD j 0 ∈ g.getD v [] := by
  rw [List.getD_eq_getElem?_getD (l := g.getD v []), List.getElem?_eq_getElem hj]
  exact List.getElem_mem hj
theorem mem_row {g : List (List Int)} {v : Nat} {w : Int} (h : w ∈ g.getD v []) : ∃ j, j < (g.getD v []).length ∧ (g.getD v []).getD j 0 = w := by
  obtain ⟨j, hj, e⟩ := List.mem_iff_getElem.1 h
  exact ⟨j, hj, by rw [List.getD_eq_getElem?_getD (l := g.getD v []), List.getElem?_eq_getElem hj]; exact e⟩

/-- The best successor of a vertex that is not the goal is its hop. -/
theorem best_hop {g : List (List Int)} {s : List Bool} (hg : OkG g s) {goal : Nat} {d : List Int} (hD : Dst g s goal d) {a : Nat} (ha : a < g.length) (h0 : 0 < d.getD a 0) (hgd : s.getD goal false = false) : bestN d (g.getD a []) (g.getD a []).length = hopZ g d a := by
  have hso : s.getD a false = false ∧ ∃ w ∈ g.getD a [], 0 ≤ d.getD w.toNat 0 ∧ d.getD a 0 = d.getD w.toNat 0 + 1 := by
    rcases hD.back a ha (by omega) with rfl | h
    · rw [hD.zero hgd] at h0; omega
    · exact h
  obtain ⟨hso, w, hw, hw0, hw1⟩ := hso
  obtain ⟨j0, hj0, hje⟩ := mem_row hw
  have hf := fun j (hj : j < (g.getD a []).length) => hD.fwd a ha hso _ (row_mem hj)
  have hb := best_ok (d := d) (row_nn hg ha) _ (Nat.le_refl _)
  have hu : hopZ g d a = hopR (g.getD a []) (fnd (hopP g d a) 0 (g.getD a []).length) := rfl
  have hp : ∀ i, hopP g d a i = (decide (0 < d.getD a 0) && (d.getD ((g.getD a []).getD i 0).toNat 0 == d.getD a 0 - 1)) := fun i => rfl
  generalize g.getD a [] = r at hb hu hp hf hje hj0
  generalize hopP g d a = p at hu hp
  generalize bestN d r r.length = b at hb
  rw [hu]
  rcases hb with ⟨_, hn⟩ | ⟨k, hk, rfl, hk0, hmin, hfst⟩
  · have := hn j0 hj0
    rw [hje] at this; omega
  · have e1 : d.getD (r.getD k 0).toNat 0 = d.getD a 0 - 1 := by
      have h1 := hmin j0 hj0 (by rw [hje]; exact hw0)
      rw [hje] at h1
      have h2 := (hf k hk hk0).2
      omega
    have hpk : p k = true := by rw [hp, e1, decide_eq_true h0]; simp
    cases hfd : fnd p 0 r.length with
    | none => have := fnd_none hfd k (Nat.zero_le _) (by omega); rw [hpk] at this; cases this
    | some i =>
      obtain ⟨a1, _, a2⟩ := fnd_some hfd
      have a3 := fnd_first hfd
      rw [hp, decide_eq_true h0, Bool.true_and, beq_iff_eq] at a1
      have hik : i = k := by
        by_cases c1 : k < i
        · have := a3 k (Nat.zero_le _) c1; rw [hpk] at this; cases this
        · by_cases c2 : i < k
          · have := hfst i c2 (by omega); omega
          · omega
      rw [hik]; rfl

noncomputable def qt2 (g : List (List Int)) (s : List Bool) (goal : Nat) (d : List Int) (v : Nat) (r : List Int) (i : Nat) (bz : Int) (p : List Int) : QB := ⟨g, s, goal, g.length, d, [], 0, v, r, i, 0, 0, 0, bz, false, p⟩

theorem ti_run {g : List (List Int)} {s : List Bool} (hg : OkG g s) (goal a : Nat) (ha : a < g.length) (d p : List Int) (hd : d.length = g.length) (hp : p.length ≤ 1000) {R : St → Prop} {post : Exit → St → Prop}
    (hnil : bestN d (g.getD a []) (g.getD a []).length < 0 → Pass post (Fin Try.prog Try.f24 0 [] .nils))
    (hret : bestN d (g.getD a []) (g.getD a []).length = (goal : Int) → Pass post (Fin Try.prog Try.f24 0 [] (lI p)))
    (hR : ∀ b : Nat, bestN d (g.getD a []) (g.getD a []).length = (b : Int) → b ≠ goal → b < g.length → ∀ st, Ren 0 st (lo39 (qt2 g s goal d b [] 0 0 (p ++ [(b : Int)]))) → R st) :
    T Try.prog 0 (.loop (loopC (loopC (bodyOf Try.f24) 0) 0)) (li39 (qt2 g s goal d 0 (g.getD a []) 0 (-1) p)) (TK Try.prog 0 (andThen R post) (loopK (loopC (bodyOf Try.f24) 0) 0)) := by
  have hgl := hg.len
  have hr1 := (hg.row a ha).1
  have hget := fun i => row_get hg ha (i := i)
  generalize g.getD a [] = r at hr1 hget hnil hret hR
  have hbr : ∀ i, i ≤ r.length → bestN d r i = -1 ∨ ∃ b : Nat, bestN d r i = (b : Int) ∧ b < g.length := by
    intro i hi
    rcases best_ok (d := d) (fun j hj => by obtain ⟨w, hw, _⟩ := hget j hj; omega) i hi with h | ⟨k, hk, h, _⟩
    · exact .inl h.1
    · obtain ⟨w, hw, hw1, _⟩ := hget k (by omega)
      exact .inr ⟨w, by rw [h, hw], hw1⟩
  refine T.loop (fun i : Nat => li39 (qt2 g s goal d 0 r i (bestN d r i) p)) (fun i => i ≤ r.length) (fun i => r.length + 1 - i) 0 (Nat.zero_le _) ?_
  intro i hi
  by_cases h : i < r.length
  · obtain ⟨w, hw, hw1, hw2⟩ := hget i h
    have hg1 := lI_get h
    rw [hw] at hg1
    have hdw := lI_get (l := d) (j := w) (by omega)
    have dk : decide (iN i < iN r.length) = true := decide_eq_true (by simp only [iN]; omega)
    have wi : IntKind.i64.wrap (iN i + 1) = ((i + 1 : Nat) : Int) := wrap_nat i (by omega)
    have hstep : bestN d r (i + 1) = bestF d (bestN d r i) (w : Int) := by rw [bestN, hw]
    unfold bestF at hstep
    rw [Int.toNat_natCast] at hstep
    have next : ∀ st, Ren 0 st (li39 (qt2 g s goal d 0 r (i + 1) (bestN d r (i + 1)) p)) → ∃ j, Ren 0 st (li39 (qt2 g s goal d 0 r j (bestN d r j) p)) ∧ j ≤ r.length ∧ r.length + 1 - j < r.length + 1 - i := fun st hst => ⟨i + 1, hst, h, by omega⟩
    by_cases c1 : 0 ≤ d.getD w 0
    · rw [if_pos c1] at hstep
      rcases hbr i hi with hb | ⟨b, hb, hbl⟩
      · rw [hb, if_pos (by decide)] at hstep
        rw [hstep] at next
        rw [hb]
        refine T.path mix (tit_0 ⟨g, s, goal, g.length, d, [], 0, 0, r, i, w, d.getD w 0, 0, -1, false, p⟩ dk (by simp [iN]) hg1 (by simp [iN]) hdw (decide_eq_true c1) rfl ?_)
        intro st hst
        simp only [wi] at hst
        exact next st hst
      · rw [hb, if_neg (by omega), Int.toNat_natCast] at hstep
        have hdb := lI_get (l := d) (j := b) (by omega)
        rw [hb]
        by_cases c2 : d.getD w 0 < d.getD b 0
        · rw [if_pos c2] at hstep
          rw [hstep] at next
          refine T.path mix (tiu_0 ⟨g, s, goal, g.length, d, [], 0, 0, r, i, w, d.getD w 0, d.getD b 0, (b : Int), false, p⟩ dk (by simp [iN]) hg1 (by simp [iN]) hdw (decide_eq_true c1) (decide_eq_false (by simp only; omega)) (by simp) hdb (decide_eq_true c2) ?_)
          intro st hst
          simp only [wi] at hst
          exact next st hst
        · rw [if_neg c2] at hstep
          rw [hstep] at next
          refine T.path mix (tiu_1 ⟨g, s, goal, g.length, d, [], 0, 0, r, i, w, d.getD w 0, d.getD b 0, (b : Int), false, p⟩ dk (by simp [iN]) hg1 (by simp [iN]) hdw (decide_eq_true c1) (decide_eq_false (by simp only; omega)) (by simp) hdb (decide_eq_false c2) ?_)
          intro st hst
          simp only [wi] at hst
          exact next st hst
    · rw [if_neg c1] at hstep
      rw [hstep] at next
      refine T.path mix (tis_0 ⟨g, s, goal, g.length, d, [], 0, 0, r, i, w, d.getD w 0, 0, bestN d r i, false, p⟩ dk (by simp [iN]) hg1 (by simp [iN]) hdw (decide_eq_false c1) ?_)
      intro st hst
      simp only [wi] at hst
      exact next st hst
  · obtain rfl : i = r.length := by omega
    have dn : decide (iN r.length < iN r.length) = false := decide_eq_false (by omega)
    rcases hbr r.length (Nat.le_refl _) with hb | ⟨b, hb, hbl⟩
    · rw [hb]
      exact T.out mix (tea_0 (qt2 g s goal d 0 r r.length (-1) p) dn rfl (hnil (by rw [hb]; decide)))
    · rw [hb]
      by_cases e : b = goal
      · exact T.out mix (teb_0 (qt2 g s goal d 0 r r.length (b : Int) p) dn (decide_eq_false (by simp only [qt2]; omega)) (by simp [iN, qt2, e]) (by simp) (hret (by rw [hb, e])))
      · refine T.out mix (tec_0 (qt2 g s goal d 0 r r.length (b : Int) p) dn (decide_eq_false (by simp only [qt2]; omega)) (by simp [iN, qt2]; omega) (by simp) (by simp) (by simp [qt2]; omega) (by simp [qt2]; omega) ?_)
        intro st hst
        refine hR b hb e hbl st ?_
        have e5 : (p.map (AV.int .i64)).length + [AV.int .i64 (b : Int)].length = (p ++ [(b : Int)]).length := by simp
        have e6 : p.map (AV.int .i64) ++ [AV.int .i64 (b : Int)] = (p ++ [(b : Int)]).map (AV.int .i64) := by simp
        simp only [qt2] at hst
        rw [e5, e6] at hst
        exact hst

noncomputable def thD (g : List (List Int)) (d : List Int) (v : Nat) (b : Int) : List Int := if b < 0 then [] else (v : Int) :: (List.range (d.getD b.toNat 0).toNat).map (wkZ g d b.toNat)
noncomputable def thZ (g : List (List Int)) (s : List Bool) (v : Nat) : List Int := if s.getD v false = true then [] else thD g (distL g s v g.length) v (bestN (distL g s v g.length) (g.getD v []) (g.getD v []).length)

theorem through_ct {g : List (List Int)} {s : List Bool} (hg : OkG g s) (hs : Asc g) (v : Nat) (hv : v < g.length) : CT Try.prog 24 [] [.lst (gL g), .lst (boL s), .int .i64 (v : Nat)] [] (lI (thZ g s v)) := by
  have hgl := hg.len
  have hl := gL_len g
  have hsv := boL_get (s := s) (v := v) (by rw [hg.sh]; exact hv)
  have hb : Try.f24.body = some (bodyOf Try.f24) := by kernel_rfl
  have hn : [AV.lst (gL g), .lst (boL s), .int .i64 (v : Nat)].length ≤ Try.f24.ntmps := Nat.le_of_ble_eq_true rfl
  unfold thZ
  by_cases hso : s.getD v false = true
  · rw [if_pos hso]
    exact CT.pathW mix Try.func24 hb hn (th_0 ⟨g, s, v, g.length, [], [], 0, 0, [], 0, 0, 0, 0, 0, s.getD v false, []⟩ (by simp [iN]) hsv hso) rfl
  · rw [if_neg hso]
    have hso := Bool.eq_false_iff.2 hso
    have c1 := bfs_ct hg hs v hv hso
    have hD := dst_ok hg hv
    generalize distL g s v g.length = d at c1 hD
    have hbo := best_ok (d := d) (row_nn hg hv) _ (Nat.le_refl _)
    generalize hbb : bestN d (g.getD v []) (g.getD v []).length = b at hbo
    unfold thD
    rcases hbo with ⟨rfl, hn1⟩ | ⟨k, hk, hbk, hk0, hmin, hfst⟩
    · rw [if_pos (by decide)]
      refine CT.pathW mix Try.func24 hb hn (res := .nils) (tn_0 ⟨g, s, v, g.length, d, [], 0, 0, [], 0, 0, 0, 0, 0, s.getD v false, []⟩ (by simp [iN]) hsv hso c1 ?_) rfl
      refine T.loop (fun _ : Unit => lo39 (qt2 g s v d v [] 0 0 [(v : Int)])) (fun _ => True) (fun _ => 0) () trivial ?_
      intro _ _
      refine T.path mix (to_0 ⟨g, s, v, g.length, d, [], 0, v, g.getD v [], 0, 0, 0, 0, 0, false, [(v : Int)]⟩ (by simp [iN]) (gL_get hv) ?_)
      simp only [lI_len]
      refine ti_run hg v v hv d [(v : Int)] hD.len (by simp) (fun _ st hst => TK.ret hst _) (fun h => by rw [hbb] at h; omega) (fun b' h => by rw [hbb] at h; omega)
    · obtain ⟨w, hw, hw1, hw2⟩ := row_get hg hv hk
      rw [hw] at hbk
      subst hbk
      rw [if_neg (by omega), Int.toNat_natCast]
      rw [hw, Int.toNat_natCast] at hk0
      obtain ⟨m, hm⟩ : ∃ m : Nat, d.getD w 0 = (m : Int) := ⟨(d.getD w 0).toNat, by omega⟩
      rw [hm, Int.toNat_natCast]
      have hok := wk_ok hg hv hD hw1 hm hso
      have hmb := (hD.bnd w hw1).2
      have hlen : ∀ k, ((v : Int) :: (List.range k).map (wkZ g d w)).length = k + 1 := by intro k; simp
      have hbest : ∀ k, k ≤ m → bestN d (g.getD (if k = 0 then v else (wkZ g d w (k - 1)).toNat) []) (g.getD (if k = 0 then v else (wkZ g d w (k - 1)).toNat) []).length = wkZ g d w k := by
        intro k hk
        by_cases e : k = 0
        · rw [if_pos e, hbb, e]; rfl
        · rw [if_neg e]
          obtain ⟨a1, a2, a3⟩ := hok (k - 1) (by omega)
          rw [best_hop hg hD (a := (wkZ g d w (k - 1)).toNat) (by omega) (by rw [a3]; omega) hso]
          obtain ⟨k', rfl⟩ : ∃ k', k = k' + 1 := ⟨k - 1, by omega⟩
          rfl
      refine CT.path mix Try.func24 hb hn (tn_0 ⟨g, s, v, g.length, d, [], 0, 0, [], 0, 0, 0, 0, 0, s.getD v false, []⟩ (by simp [iN]) hsv hso c1 ?_)
      refine T.loop (fun k : Nat => lo39 (qt2 g s v d (if k = 0 then v else (wkZ g d w (k - 1)).toNat) [] 0 0 ((v : Int) :: (List.range k).map (wkZ g d w)))) (fun k => k ≤ m) (fun k => m + 1 - k) 0 (Nat.zero_le _) ?_
      intro k hk
      have hal : (if k = 0 then v else (wkZ g d w (k - 1)).toNat) < g.length := by
        by_cases e : k = 0
        · rw [if_pos e]; exact hv
        · rw [if_neg e]; have := hok (k - 1) (by omega); omega
      have hbk := hbest k hk
      have hgr := gL_get hal
      generalize (if k = 0 then v else (wkZ g d w (k - 1)).toNat) = a at hal hbk hgr
      refine T.path mix (to_0 ⟨g, s, v, g.length, d, [], 0, a, g.getD a [], 0, 0, 0, 0, 0, false, (v : Int) :: (List.range k).map (wkZ g d w)⟩ (by simp [iN]) hgr ?_)
      simp only [lI_len]
      obtain ⟨a1, a2, a3⟩ := hok k hk
      refine ti_run hg v a hal d _ hD.len (by rw [hlen]; omega) (fun h => by rw [hbk] at h; omega) (fun h => ?_) (fun b hb1 hb2 hb3 st hst => ?_)
      · have hkm : k = m := by
          rw [hbk] at h
          rw [h, Int.toNat_natCast, hD.zero hso] at a3
          omega
        rw [hkm]
        exact fun st hst => TK.ret hst _
      · have hkm : k < m := by
          by_cases e : k = m
          · exfalso
            rw [hbk] at hb1
            rw [hb1, Int.toNat_natCast, e] at a3
            exact hb2 (zero_goal hD hb3 (by rw [a3]; simp))
          · omega
        refine ⟨k + 1, ?_, by omega, by omega⟩
        rw [hbk] at hb1
        rw [if_neg (by omega), Nat.add_sub_cancel, hb1, Int.toNat_natCast, List.range_succ, List.map_append, List.map_cons, List.map_nil, hb1]
        exact hst
theorem Through_ct {g : List (List Int)} {s : List Bool} (hg : OkG g s) (hs : Asc g) (v : Nat) (hv : v < g.length) : CT Try.prog 14 [] [.lst (gL g), .lst (boL s), .int .i64 (v : Nat)] [] (.tup [.int .i64 (iN (thZ g s v).length), lI (thZ g s v), .int .i64 0]) := by
  have hl := gL_len g
  have k := tw_0 ⟨g, s, v, g.length, [], [], 0, 0, [], 0, 0, 0, 0, 0, false, thZ g s v⟩ (gcheck_ct hg hs) (decide_eq_false (by simp only [iN, hl]; omega)) (through_ct hg hs v hv)
  simp only [lI_len] at k
  exact CT.path mix Try.func14 (show Try.f14.body = some (bodyOf Try.f14) by kernel_rfl) (Nat.le_of_ble_eq_true rfl) k
end Go.Proofs.Ytcdgphdieemjcaa


/- Parts of the proof: Rt1p, RtE, Rt2p, RtF, RtG, RtH, Rt3p, RtK, Rt4p, RtL, RtM, RtX, Rt5p, RtT, Rt6p, RtS, Rt7p, RtN, RtO. -/
import Derived.Test.YtcdgphdieemjcaaProg
import Derived.KernelRfl
import Derived.Test.YtcdgphdieemjcaaGirthFindsM2
/-! The paths of a function, by evaluation. -/
open Go Go.AX Go.Proofs
set_option maxRecDepth 100000
set_option maxHeartbeats 4000000
set_option linter.unusedVariables false
namespace Go.Proofs.Ytcdgphdieemjcaa
def lI (l : List Int) : AV := .lst (l.map (AV.int .i64))
def gL (g : List (List Int)) : List AV := g.map lI
def boL (s : List Bool) : List AV := s.map AV.bool
def dB (d : List Int) : Blk := { es := d.map (AV.int .i64), z := 1 }
structure QD where
  g : List (List Int)
  s : List Bool
  goal : Nat
  n : Nat
  d : List Int
  far : Nat
  v : Nat
  i : Nat
  r : List Int
  w : Nat
  b : Bool
  e : Int
def cD (q : QD) : Nat → FuncId → List AV → List (Option Blk) → Hint := fun _ _ _ _ => .no
def eD (q : QD) : List (Nat × AV) := [(27, .bool q.b), (43, .bool q.b), (49, .int .i64 q.e), (54, lI q.r), (63, lI q.r), (66, .int .i64 (iN q.w)), (69, .int .i64 q.e)]
def eR (q : QD) : List (Nat × AV) := [(26, .bool q.b), (46, .bool q.b), (52, .int .i64 q.e), (58, lI q.r), (67, lI q.r), (70, .int .i64 (iN q.w)), (73, .int .i64 q.e)]
noncomputable def st30 (q : QD) : St := { n := Try.f32.ntmps, fr := [(0, .lst (gL q.g)), (1, .lst (boL q.s)), (2, .int .i64 (iN q.goal))], hp := [] }
noncomputable def lf30 (q : QD) : St := { n := Try.f32.ntmps, fr := [(0, .lst (gL q.g)), (1, .lst (boL q.s)), (2, .int .i64 (iN q.goal)), (7, .sl 0 0 q.n), (8, .int .i64 (iN q.i))], hp := [some (dB q.d)] }
noncomputable def la30 (q : QD) : St := { n := Try.f32.ntmps, fr := [(0, .lst (gL q.g)), (1, .lst (boL q.s)), (7, .sl 0 0 q.n), (9, .int .i64 (iN (q.far + 1)))], hp := [some (dB q.d)] }
noncomputable def lb30 (q : QD) : St := { n := Try.f32.ntmps, fr := [(0, .lst (gL q.g)), (1, .lst (boL q.s)), (7, .sl 0 0 q.n), (9, .int .i64 (iN (q.far + 1))), (10, .int .i64 (iN q.v))], hp := [some (dB q.d)] }
noncomputable def lc30 (q : QD) : St := { n := Try.f32.ntmps, fr := [(0, .lst (gL q.g)), (1, .lst (boL q.s)), (7, .sl 0 0 q.n), (9, .int .i64 (iN (q.far + 1))), (10, .int .i64 (iN q.v)), (11, .int .i64 (iN q.i))], hp := [some (dB q.d)] }
theorem ri_0 (q : QD) (h1 : (iN (gL q.g).length ≤ iN (gL q.g).length)) (h2 : (8 * iN (gL q.g).length ≤ 281474976710656)) (h3 : (iN (gL q.g).length ≤ 9223372036854775807)) {post : Exit → St → Prop} (ht : T Try.prog 0 (.loop (loopC (bodyOf Try.f32) 0)) (St.mk 82 [(0, AV.lst (gL q.g)), (1, AV.lst (boL q.s)), (2, AV.int IntKind.i64 (iN q.goal)), (7, AV.sl 0 0 (gL q.g).length), (8, AV.int IntKind.i64 0)] [some (Blk.mk (List.replicate (gL q.g).length (AV.int IntKind.i64 0)) 1 true true)]) (TK Try.prog 0 post (loopK (bodyOf Try.f32) 0))) : ∃ o' st' q', go Try.prog ({ dec := [], els := eR q, calls := cD q, unroll := false } : HT) 0 4000 (.inl (bodyOf Try.f32)) [] (st30 q) = some (o', st', q') ∧ q' ∧ Go.AX.Rest Try.prog 0 post st' o' :=
  endR_spec (σ := [0]) (fz := []) (vars := [0,1,2,7,8]) (show endR 0 [0] [] [0,1,2,7,8] (go Try.prog ({ dec := [], els := eR q, calls := cD q, unroll := false } : HT) 0 4000 (.inl (bodyOf Try.f32)) [] (st30 q)) = some (loopC (bodyOf Try.f32) 0, loopK (bodyOf Try.f32) 0, St.mk 82 [(0, AV.lst (gL q.g)), (1, AV.lst (boL q.s)), (2, AV.int IntKind.i64 (iN q.goal)), (7, AV.sl 0 0 (gL q.g).length), (8, AV.int IntKind.i64 0)] [some (Blk.mk (List.replicate (gL q.g).length (AV.int IntKind.i64 0)) 1 true true)], (((True ∧ True) ∧ (((True ∧ True) ∧ ((True ∧ True) ∧ ((True ∧ (True ∧ ((0 ≤ iN (gL q.g).length) ∧ ((type_of% h1) ∧ ((type_of% h2) ∧ (type_of% h3)))))) ∧ ((True ∧ True) ∧ True)))) ∧ ((True ∧ True) ∧ True))) ∧ (True ∧ (True ∧ (True ∧ (True ∧ (True ∧ (True ∧ True)))))))) by kernel_rfl) ⟨⟨⟨trivial, trivial⟩, ⟨⟨⟨trivial, trivial⟩, ⟨⟨trivial, trivial⟩, ⟨⟨trivial, ⟨trivial, ⟨(Int.natCast_nonneg _), ⟨h1, ⟨h2, h3⟩⟩⟩⟩⟩, ⟨⟨trivial, trivial⟩, trivial⟩⟩⟩⟩, ⟨⟨trivial, trivial⟩, trivial⟩⟩⟩, ⟨trivial, ⟨trivial, ⟨trivial, ⟨trivial, ⟨trivial, ⟨trivial, trivial⟩⟩⟩⟩⟩⟩⟩ ht
theorem rfr_0 (q : QD) (h1 : (decide (iN q.i < iN (gL q.g).length) = true)) (h2 : (0 ≤ iN q.i)) (h3 : (iN q.i < iN q.n)) (h4 : ((0 + (iN q.i).toNat).succ.le (List.map (AV.int IntKind.i64) q.d).length)) {post : Exit → St → Prop} {R : St → Prop} (hR : ∀ st, Ren 0 st (St.mk 82 [(0, AV.lst (gL q.g)), (1, AV.lst (boL q.s)), (2, AV.int IntKind.i64 (iN q.goal)), (7, AV.sl 0 0 q.n), (8, AV.int IntKind.i64 (IntKind.i64.wrap (iN q.i + 1)))] [some (Blk.mk ((List.map (AV.int IntKind.i64) q.d).set (0 + (iN q.i).toNat) (AV.int IntKind.i64 (-1))) 1 true true)]) → R st) : ∃ o' st' q', go Try.prog ({ dec := [(18, true)], els := eR q, calls := cD q, unroll := false } : HT) 0 4000 (.inl (loopC (bodyOf Try.f32) 0)) [] (lf30 q) = some (o', st', q') ∧ q' ∧ Go.AX.Rest Try.prog 0 (andThen R post) st' o' :=
  endN_spec (σ := [0]) (fz := []) (vars := [0,1,2,7,8]) (show endN 0 [0] [] [0,1,2,7,8] (go Try.prog ({ dec := [(18, true)], els := eR q, calls := cD q, unroll := false } : HT) 0 4000 (.inl (loopC (bodyOf Try.f32) 0)) [] (lf30 q)) = some (St.mk 82 [(0, AV.lst (gL q.g)), (1, AV.lst (boL q.s)), (2, AV.int IntKind.i64 (iN q.goal)), (7, AV.sl 0 0 q.n), (8, AV.int IntKind.i64 (IntKind.i64.wrap (iN q.i + 1)))] [some (Blk.mk ((List.map (AV.int IntKind.i64) q.d).set (0 + (iN q.i).toNat) (AV.int IntKind.i64 (-1))) 1 true true)], ((((True ∧ True) ∧ ((True ∧ True) ∧ ((True ∧ True) ∧ ((True ∧ (True ∧ True)) ∧ True)))) ∧ ((type_of% h1) ∧ (((True ∧ True) ∧ ((True ∧ True) ∧ ((True ∧ (True ∧ ((type_of% h2) ∧ (type_of% h3)))) ∧ ((True ∧ (type_of% h4)) ∧ True)))) ∧ (((True ∧ True) ∧ ((True ∧ True) ∧ ((True ∧ True) ∧ True))) ∧ True)))) ∧ (True ∧ (True ∧ (True ∧ (True ∧ (True ∧ (True ∧ True)))))))) by kernel_rfl) ⟨⟨⟨⟨trivial, trivial⟩, ⟨⟨trivial, trivial⟩, ⟨⟨trivial, trivial⟩, ⟨⟨trivial, ⟨trivial, trivial⟩⟩, trivial⟩⟩⟩⟩, ⟨h1, ⟨⟨⟨trivial, trivial⟩, ⟨⟨trivial, trivial⟩, ⟨⟨trivial, ⟨trivial, ⟨h2, h3⟩⟩⟩, ⟨⟨trivial, h4⟩, trivial⟩⟩⟩⟩, ⟨⟨⟨trivial, trivial⟩, ⟨⟨trivial, trivial⟩, ⟨⟨trivial, trivial⟩, trivial⟩⟩⟩, trivial⟩⟩⟩⟩, ⟨trivial, ⟨trivial, ⟨trivial, ⟨trivial, ⟨trivial, ⟨trivial, trivial⟩⟩⟩⟩⟩⟩⟩ hR
theorem rfs_0 (q : QD) (h1 : (decide (iN q.i < iN (gL q.g).length) = false)) (h2 : (0 ≤ iN q.goal)) (h3 : ((boL q.s)[(iN q.goal).toNat]? = some (AV.bool q.b))) (h4 : (q.b = true)) (h5 : (q.n = (List.map (AV.int IntKind.i64) q.d).length)) : ∃ o' st' q', go2 Try.prog ({ dec := [(18, false), (27, true)], els := eR q, calls := cD q, unroll := false } : HT) 0 4000 (loopC (bodyOf Try.f32) 0) (loopK (bodyOf Try.f32) 0) (lf30 q) = some (o', st', q') ∧ q' ∧ Go.AX.Rest Try.prog 0 (Fin Try.prog Try.f32 0 [] (AV.lst (List.map (AV.int IntKind.i64) q.d))) st' o' :=
  endF_spec (σ := []) (fz := [0]) (show endF Try.prog Try.f32 0 [] [0] (go2 Try.prog ({ dec := [(18, false), (27, true)], els := eR q, calls := cD q, unroll := false } : HT) 0 4000 (loopC (bodyOf Try.f32) 0) (loopK (bodyOf Try.f32) 0) (lf30 q)) = some ([], AV.lst (List.map (AV.int IntKind.i64) q.d), (((((True ∧ True) ∧ ((True ∧ True) ∧ ((True ∧ True) ∧ ((True ∧ (True ∧ True)) ∧ True)))) ∧ ((type_of% h1) ∧ True)) ∧ (((True ∧ True) ∧ ((True ∧ True) ∧ ((True ∧ (True ∧ ((type_of% h2) ∧ (type_of% h3)))) ∧ ((True ∧ True) ∧ True)))) ∧ ((type_of% h4) ∧ (((True ∧ True) ∧ ((True ∧ True) ∧ True)) ∧ True)))) ∧ ((type_of% h5) ∧ True))) by kernel_rfl) ⟨⟨⟨⟨⟨trivial, trivial⟩, ⟨⟨trivial, trivial⟩, ⟨⟨trivial, trivial⟩, ⟨⟨trivial, ⟨trivial, trivial⟩⟩, trivial⟩⟩⟩⟩, ⟨h1, trivial⟩⟩, ⟨⟨⟨trivial, trivial⟩, ⟨⟨trivial, trivial⟩, ⟨⟨trivial, ⟨trivial, ⟨h2, h3⟩⟩⟩, ⟨⟨trivial, trivial⟩, trivial⟩⟩⟩⟩, ⟨h4, ⟨⟨⟨trivial, trivial⟩, ⟨⟨trivial, trivial⟩, trivial⟩⟩, trivial⟩⟩⟩⟩, ⟨h5, trivial⟩⟩
theorem rfx_0 (q : QD) (h1 : (decide (iN q.i < iN (gL q.g).length) = false)) (h2 : (0 ≤ iN q.goal)) (h3 : ((boL q.s)[(iN q.goal).toNat]? = some (AV.bool q.b))) (h4 : (q.b = false)) (h5 : (iN q.goal < iN q.n)) (h6 : ((0 + (iN q.goal).toNat).succ.le (List.map (AV.int IntKind.i64) q.d).length)) {post : Exit → St → Prop} (ht : T Try.prog 0 (.loop (loopC (bodyOf Try.f32) 1)) (St.mk 82 [(0, AV.lst (gL q.g)), (1, AV.lst (boL q.s)), (7, AV.sl 0 0 q.n), (9, AV.int IntKind.i64 1)] [some (Blk.mk ((List.map (AV.int IntKind.i64) q.d).set (0 + (iN q.goal).toNat) (AV.int IntKind.i64 0)) 1 true true)]) (TK Try.prog 0 post (loopK (bodyOf Try.f32) 1))) : ∃ o' st' q', go2 Try.prog ({ dec := [(18, false), (27, false)], els := eR q, calls := cD q, unroll := false } : HT) 0 4000 (loopC (bodyOf Try.f32) 0) (loopK (bodyOf Try.f32) 0) (lf30 q) = some (o', st', q') ∧ q' ∧ Go.AX.Rest Try.prog 0 post st' o' :=
  endR_spec (σ := [0]) (fz := []) (vars := [0,1,7,9]) (show endR 0 [0] [] [0,1,7,9] (go2 Try.prog ({ dec := [(18, false), (27, false)], els := eR q, calls := cD q, unroll := false } : HT) 0 4000 (loopC (bodyOf Try.f32) 0) (loopK (bodyOf Try.f32) 0) (lf30 q)) = some (loopC (bodyOf Try.f32) 1, loopK (bodyOf Try.f32) 1, St.mk 82 [(0, AV.lst (gL q.g)), (1, AV.lst (boL q.s)), (7, AV.sl 0 0 q.n), (9, AV.int IntKind.i64 1)] [some (Blk.mk ((List.map (AV.int IntKind.i64) q.d).set (0 + (iN q.goal).toNat) (AV.int IntKind.i64 0)) 1 true true)], (((((True ∧ True) ∧ ((True ∧ True) ∧ ((True ∧ True) ∧ ((True ∧ (True ∧ True)) ∧ True)))) ∧ ((type_of% h1) ∧ True)) ∧ (((True ∧ True) ∧ ((True ∧ True) ∧ ((True ∧ (True ∧ ((type_of% h2) ∧ (type_of% h3)))) ∧ ((True ∧ True) ∧ True)))) ∧ ((type_of% h4) ∧ (((True ∧ True) ∧ ((True ∧ True) ∧ ((True ∧ (True ∧ ((type_of% h2) ∧ (type_of% h5)))) ∧ ((True ∧ (type_of% h6)) ∧ True)))) ∧ ((True ∧ True) ∧ True))))) ∧ (True ∧ (True ∧ (True ∧ (True ∧ (True ∧ True))))))) by kernel_rfl) ⟨⟨⟨⟨⟨trivial, trivial⟩, ⟨⟨trivial, trivial⟩, ⟨⟨trivial, trivial⟩, ⟨⟨trivial, ⟨trivial, trivial⟩⟩, trivial⟩⟩⟩⟩, ⟨h1, trivial⟩⟩, ⟨⟨⟨trivial, trivial⟩, ⟨⟨trivial, trivial⟩, ⟨⟨trivial, ⟨trivial, ⟨h2, h3⟩⟩⟩, ⟨⟨trivial, trivial⟩, trivial⟩⟩⟩⟩, ⟨h4, ⟨⟨⟨trivial, trivial⟩, ⟨⟨trivial, trivial⟩, ⟨⟨trivial, ⟨trivial, ⟨h2, h5⟩⟩⟩, ⟨⟨trivial, h6⟩, trivial⟩⟩⟩⟩, ⟨⟨trivial, trivial⟩, trivial⟩⟩⟩⟩⟩, ⟨trivial, ⟨trivial, ⟨trivial, ⟨trivial, ⟨trivial, trivial⟩⟩⟩⟩⟩⟩ ht
theorem rax_0 (q : QD) (h1 : (decide (iN (q.far + 1) < iN (gL q.g).length) = false)) (h2 : (q.n = (List.map (AV.int IntKind.i64) q.d).length)) : ∃ o' st' q', go2 Try.prog ({ dec := [(35, false)], els := eR q, calls := cD q, unroll := false } : HT) 0 4000 (loopC (bodyOf Try.f32) 1) (loopK (bodyOf Try.f32) 1) (la30 q) = some (o', st', q') ∧ q' ∧ Go.AX.Rest Try.prog 0 (Fin Try.prog Try.f32 0 [] (AV.lst (List.map (AV.int IntKind.i64) q.d))) st' o' :=
  endF_spec (σ := []) (fz := [0]) (show endF Try.prog Try.f32 0 [] [0] (go2 Try.prog ({ dec := [(35, false)], els := eR q, calls := cD q, unroll := false } : HT) 0 4000 (loopC (bodyOf Try.f32) 1) (loopK (bodyOf Try.f32) 1) (la30 q)) = some ([], AV.lst (List.map (AV.int IntKind.i64) q.d), (((((True ∧ True) ∧ ((True ∧ True) ∧ ((True ∧ True) ∧ ((True ∧ (True ∧ True)) ∧ True)))) ∧ ((type_of% h1) ∧ True)) ∧ (((True ∧ True) ∧ ((True ∧ True) ∧ True)) ∧ True)) ∧ ((type_of% h2) ∧ True))) by kernel_rfl) ⟨⟨⟨⟨⟨trivial, trivial⟩, ⟨⟨trivial, trivial⟩, ⟨⟨trivial, trivial⟩, ⟨⟨trivial, ⟨trivial, trivial⟩⟩, trivial⟩⟩⟩⟩, ⟨h1, trivial⟩⟩, ⟨⟨⟨trivial, trivial⟩, ⟨⟨trivial, trivial⟩, trivial⟩⟩, trivial⟩⟩, ⟨h2, trivial⟩⟩
theorem rai_0 (q : QD) (h1 : (decide (iN (q.far + 1) < iN (gL q.g).length) = true)) {post : Exit → St → Prop} (ht : T Try.prog 0 (.loop (loopC (loopC (bodyOf Try.f32) 1) 0)) (St.mk 82 [(0, AV.lst (gL q.g)), (1, AV.lst (boL q.s)), (7, AV.sl 0 0 q.n), (9, AV.int IntKind.i64 (iN (q.far + 1))), (10, AV.int IntKind.i64 0)] [some (Blk.mk (List.map (AV.int IntKind.i64) q.d) 1 true true)]) (TK Try.prog 0 post (loopK (loopC (bodyOf Try.f32) 1) 0))) : ∃ o' st' q', go Try.prog ({ dec := [(35, true)], els := eR q, calls := cD q, unroll := false } : HT) 0 4000 (.inl (loopC (bodyOf Try.f32) 1)) [] (la30 q) = some (o', st', q') ∧ q' ∧ Go.AX.Rest Try.prog 0 post st' o' :=
  endR_spec (σ := [0]) (fz := []) (vars := [0,1,7,9,10]) (show endR 0 [0] [] [0,1,7,9,10] (go Try.prog ({ dec := [(35, true)], els := eR q, calls := cD q, unroll := false } : HT) 0 4000 (.inl (loopC (bodyOf Try.f32) 1)) [] (la30 q)) = some (loopC (loopC (bodyOf Try.f32) 1) 0, loopK (loopC (bodyOf Try.f32) 1) 0, St.mk 82 [(0, AV.lst (gL q.g)), (1, AV.lst (boL q.s)), (7, AV.sl 0 0 q.n), (9, AV.int IntKind.i64 (iN (q.far + 1))), (10, AV.int IntKind.i64 0)] [some (Blk.mk (List.map (AV.int IntKind.i64) q.d) 1 true true)], ((((True ∧ True) ∧ ((True ∧ True) ∧ ((True ∧ True) ∧ ((True ∧ (True ∧ True)) ∧ True)))) ∧ ((type_of% h1) ∧ ((True ∧ True) ∧ True))) ∧ (True ∧ (True ∧ (True ∧ (True ∧ (True ∧ (True ∧ True)))))))) by kernel_rfl) ⟨⟨⟨⟨trivial, trivial⟩, ⟨⟨trivial, trivial⟩, ⟨⟨trivial, trivial⟩, ⟨⟨trivial, ⟨trivial, trivial⟩⟩, trivial⟩⟩⟩⟩, ⟨h1, ⟨⟨trivial, trivial⟩, trivial⟩⟩⟩, ⟨trivial, ⟨trivial, ⟨trivial, ⟨trivial, ⟨trivial, ⟨trivial, trivial⟩⟩⟩⟩⟩⟩⟩ ht
theorem rbx_0 (q : QD) (h1 : (decide (iN q.v < iN (gL q.g).length) = false)) {post : Exit → St → Prop} {R : St → Prop} (hR : ∀ st, Ren 0 st (St.mk 82 [(0, AV.lst (gL q.g)), (1, AV.lst (boL q.s)), (7, AV.sl 0 0 q.n), (9, AV.int IntKind.i64 (IntKind.i64.wrap (iN (q.far + 1) + 1)))] [some (Blk.mk (List.map (AV.int IntKind.i64) q.d) 1 true true)]) → R st) : ∃ o' st' q', go2 Try.prog ({ dec := [(41, false)], els := eR q, calls := cD q, unroll := false } : HT) 0 4000 (loopC (loopC (bodyOf Try.f32) 1) 0) (loopK (loopC (bodyOf Try.f32) 1) 0) (lb30 q) = some (o', st', q') ∧ q' ∧ Go.AX.Rest Try.prog 0 (andThen R post) st' o' :=
  endN_spec (σ := [0]) (fz := []) (vars := [0,1,7,9]) (show endN 0 [0] [] [0,1,7,9] (go2 Try.prog ({ dec := [(41, false)], els := eR q, calls := cD q, unroll := false } : HT) 0 4000 (loopC (loopC (bodyOf Try.f32) 1) 0) (loopK (loopC (bodyOf Try.f32) 1) 0) (lb30 q)) = some (St.mk 82 [(0, AV.lst (gL q.g)), (1, AV.lst (boL q.s)), (7, AV.sl 0 0 q.n), (9, AV.int IntKind.i64 (IntKind.i64.wrap (iN (q.far + 1) + 1)))] [some (Blk.mk (List.map (AV.int IntKind.i64) q.d) 1 true true)], (((((True ∧ True) ∧ ((True ∧ True) ∧ ((True ∧ True) ∧ ((True ∧ (True ∧ True)) ∧ True)))) ∧ ((type_of% h1) ∧ True)) ∧ (((True ∧ True) ∧ ((True ∧ True) ∧ ((True ∧ True) ∧ True))) ∧ True)) ∧ (True ∧ (True ∧ (True ∧ (True ∧ (True ∧ True))))))) by kernel_rfl) ⟨⟨⟨⟨⟨trivial, trivial⟩, ⟨⟨trivial, trivial⟩, ⟨⟨trivial, trivial⟩, ⟨⟨trivial, ⟨trivial, trivial⟩⟩, trivial⟩⟩⟩⟩, ⟨h1, trivial⟩⟩, ⟨⟨⟨trivial, trivial⟩, ⟨⟨trivial, trivial⟩, ⟨⟨trivial, trivial⟩, trivial⟩⟩⟩, trivial⟩⟩, ⟨trivial, ⟨trivial, ⟨trivial, ⟨trivial, ⟨trivial, trivial⟩⟩⟩⟩⟩⟩ hR
theorem rbn_0 (q : QD) (h1 : (decide (iN q.v < iN (gL q.g).length) = true)) (h2 : (0 ≤ iN q.v)) (h3 : ((boL q.s)[(iN q.v).toNat]? = some (AV.bool q.b))) (h4 : (q.b = true)) {post : Exit → St → Prop} {R : St → Prop} (hR : ∀ st, Ren 0 st (St.mk 82 [(0, AV.lst (gL q.g)), (1, AV.lst (boL q.s)), (7, AV.sl 0 0 q.n), (9, AV.int IntKind.i64 (iN (q.far + 1))), (10, AV.int IntKind.i64 (IntKind.i64.wrap (iN q.v + 1)))] [some (Blk.mk (List.map (AV.int IntKind.i64) q.d) 1 true true)]) → R st) : ∃ o' st' q', go Try.prog ({ dec := [(41, true), (54, true), (48, true)], els := eR q, calls := cD q, unroll := false } : HT) 0 4000 (.inl (loopC (loopC (bodyOf Try.f32) 1) 0)) [] (lb30 q) = some (o', st', q') ∧ q' ∧ Go.AX.Rest Try.prog 0 (andThen R post) st' o' :=
  endN_spec (σ := [0]) (fz := []) (vars := [0,1,7,9,10]) (show endN 0 [0] [] [0,1,7,9,10] (go Try.prog ({ dec := [(41, true), (54, true), (48, true)], els := eR q, calls := cD q, unroll := false } : HT) 0 4000 (.inl (loopC (loopC (bodyOf Try.f32) 1) 0)) [] (lb30 q)) = some (St.mk 82 [(0, AV.lst (gL q.g)), (1, AV.lst (boL q.s)), (7, AV.sl 0 0 q.n), (9, AV.int IntKind.i64 (iN (q.far + 1))), (10, AV.int IntKind.i64 (IntKind.i64.wrap (iN q.v + 1)))] [some (Blk.mk (List.map (AV.int IntKind.i64) q.d) 1 true true)], ((((True ∧ True) ∧ ((True ∧ True) ∧ ((True ∧ True) ∧ ((True ∧ (True ∧ True)) ∧ True)))) ∧ ((type_of% h1) ∧ (((True ∧ True) ∧ ((True ∧ True) ∧ ((True ∧ (True ∧ ((type_of% h2) ∧ (type_of% h3)))) ∧ ((True ∧ True) ∧ ((True ∧ True) ∧ ((type_of% h4) ∧ ((type_of% h4) ∧ ((type_of% h4) ∧ ((type_of% h4) ∧ ((type_of% h4) ∧ (((type_of% h4) ∧ (True ∧ True)) ∧ True))))))))))) ∧ ((true = true) ∧ (((True ∧ True) ∧ ((True ∧ True) ∧ ((True ∧ True) ∧ True))) ∧ True))))) ∧ (True ∧ (True ∧ (True ∧ (True ∧ (True ∧ (True ∧ True)))))))) by kernel_rfl) ⟨⟨⟨⟨trivial, trivial⟩, ⟨⟨trivial, trivial⟩, ⟨⟨trivial, trivial⟩, ⟨⟨trivial, ⟨trivial, trivial⟩⟩, trivial⟩⟩⟩⟩, ⟨h1, ⟨⟨⟨trivial, trivial⟩, ⟨⟨trivial, trivial⟩, ⟨⟨trivial, ⟨trivial, ⟨h2, h3⟩⟩⟩, ⟨⟨trivial, trivial⟩, ⟨⟨trivial, trivial⟩, ⟨h4, ⟨h4, ⟨h4, ⟨h4, ⟨h4, ⟨⟨h4, ⟨trivial, trivial⟩⟩, trivial⟩⟩⟩⟩⟩⟩⟩⟩⟩⟩⟩, ⟨(by first | decide | exact Int.NonNeg.mk _), ⟨⟨⟨trivial, trivial⟩, ⟨⟨trivial, trivial⟩, ⟨⟨trivial, trivial⟩, trivial⟩⟩⟩, trivial⟩⟩⟩⟩⟩, ⟨trivial, ⟨trivial, ⟨trivial, ⟨trivial, ⟨trivial, ⟨trivial, trivial⟩⟩⟩⟩⟩⟩⟩ hR
theorem rbn_1 (q : QD) (h1 : (decide (iN q.v < iN (gL q.g).length) = true)) (h2 : (0 ≤ iN q.v)) (h3 : ((boL q.s)[(iN q.v).toNat]? = some (AV.bool q.b))) (h4 : (q.b = false)) (h5 : (iN q.v < iN q.n)) (h6 : ((List.map (AV.int IntKind.i64) q.d)[0 + (iN q.v).toNat]? = some (AV.int IntKind.i64 q.e))) (h7 : (decide (0 ≤ q.e) = true)) {post : Exit → St → Prop} {R : St → Prop} (hR : ∀ st, Ren 0 st (St.mk 82 [(0, AV.lst (gL q.g)), (1, AV.lst (boL q.s)), (7, AV.sl 0 0 q.n), (9, AV.int IntKind.i64 (iN (q.far + 1))), (10, AV.int IntKind.i64 (IntKind.i64.wrap (iN q.v + 1)))] [some (Blk.mk (List.map (AV.int IntKind.i64) q.d) 1 true true)]) → R st) : ∃ o' st' q', go Try.prog ({ dec := [(41, true), (54, true), (48, false)], els := eR q, calls := cD q, unroll := false } : HT) 0 4000 (.inl (loopC (loopC (bodyOf Try.f32) 1) 0)) [] (lb30 q) = some (o', st', q') ∧ q' ∧ Go.AX.Rest Try.prog 0 (andThen R post) st' o' :=
  endN_spec (σ := [0]) (fz := []) (vars := [0,1,7,9,10]) (show endN 0 [0] [] [0,1,7,9,10] (go Try.prog ({ dec := [(41, true), (54, true), (48, false)], els := eR q, calls := cD q, unroll := false } : HT) 0 4000 (.inl (loopC (loopC (bodyOf Try.f32) 1) 0)) [] (lb30 q)) = some (St.mk 82 [(0, AV.lst (gL q.g)), (1, AV.lst (boL q.s)), (7, AV.sl 0 0 q.n), (9, AV.int IntKind.i64 (iN (q.far + 1))), (10, AV.int IntKind.i64 (IntKind.i64.wrap (iN q.v + 1)))] [some (Blk.mk (List.map (AV.int IntKind.i64) q.d) 1 true true)], ((((True ∧ True) ∧ ((True ∧ True) ∧ ((True ∧ True) ∧ ((True ∧ (True ∧ True)) ∧ True)))) ∧ ((type_of% h1) ∧ (((True ∧ True) ∧ ((True ∧ True) ∧ ((True ∧ (True ∧ ((type_of% h2) ∧ (type_of% h3)))) ∧ ((True ∧ True) ∧ ((True ∧ True) ∧ (((type_of% h4) ∧ (True ∧ True)) ∧ (((type_of% h4) ∧ (True ∧ True)) ∧ (((type_of% h4) ∧ (True ∧ (True ∧ ((type_of% h2) ∧ (type_of% h5))))) ∧ (((type_of% h4) ∧ (True ∧ (type_of% h6))) ∧ (((type_of% h4) ∧ (True ∧ True)) ∧ (((type_of% h4) ∧ (True ∧ True)) ∧ True))))))))))) ∧ ((type_of% h7) ∧ (((True ∧ True) ∧ ((True ∧ True) ∧ ((True ∧ True) ∧ True))) ∧ True))))) ∧ (True ∧ (True ∧ (True ∧ (True ∧ (True ∧ (True ∧ True)))))))) by kernel_rfl) ⟨⟨⟨⟨trivial, trivial⟩, ⟨⟨trivial, trivial⟩, ⟨⟨trivial, trivial⟩, ⟨⟨trivial, ⟨trivial, trivial⟩⟩, trivial⟩⟩⟩⟩, ⟨h1, ⟨⟨⟨trivial, trivial⟩, ⟨⟨trivial, trivial⟩, ⟨⟨trivial, ⟨trivial, ⟨h2, h3⟩⟩⟩, ⟨⟨trivial, trivial⟩, ⟨⟨trivial, trivial⟩, ⟨⟨h4, ⟨trivial, trivial⟩⟩, ⟨⟨h4, ⟨trivial, trivial⟩⟩, ⟨⟨h4, ⟨trivial, ⟨trivial, ⟨h2, h5⟩⟩⟩⟩, ⟨⟨h4, ⟨trivial, h6⟩⟩, ⟨⟨h4, ⟨trivial, trivial⟩⟩, ⟨⟨h4, ⟨trivial, trivial⟩⟩, trivial⟩⟩⟩⟩⟩⟩⟩⟩⟩⟩⟩, ⟨h7, ⟨⟨⟨trivial, trivial⟩, ⟨⟨trivial, trivial⟩, ⟨⟨trivial, trivial⟩, trivial⟩⟩⟩, trivial⟩⟩⟩⟩⟩, ⟨trivial, ⟨trivial, ⟨trivial, ⟨trivial, ⟨trivial, ⟨trivial, trivial⟩⟩⟩⟩⟩⟩⟩ hR
theorem rbi_0 (q : QD) (h1 : (decide (iN q.v < iN (gL q.g).length) = true)) (h2 : (0 ≤ iN q.v)) (h3 : ((boL q.s)[(iN q.v).toNat]? = some (AV.bool q.b))) (h4 : (q.b = false)) (h5 : (iN q.v < iN q.n)) (h6 : ((List.map (AV.int IntKind.i64) q.d)[0 + (iN q.v).toNat]? = some (AV.int IntKind.i64 q.e))) (h7 : (decide (0 ≤ q.e) = false)) {post : Exit → St → Prop} (ht : T Try.prog 0 (.loop (loopC (loopC (loopC (bodyOf Try.f32) 1) 0) 0)) (St.mk 82 [(0, AV.lst (gL q.g)), (1, AV.lst (boL q.s)), (7, AV.sl 0 0 q.n), (9, AV.int IntKind.i64 (iN (q.far + 1))), (10, AV.int IntKind.i64 (iN q.v)), (11, AV.int IntKind.i64 0)] [some (Blk.mk (List.map (AV.int IntKind.i64) q.d) 1 true true)]) (TK Try.prog 0 post (loopK (loopC (loopC (bodyOf Try.f32) 1) 0) 0))) : ∃ o' st' q', go Try.prog ({ dec := [(41, true), (48, false), (54, false)], els := eR q, calls := cD q, unroll := false } : HT) 0 4000 (.inl (loopC (loopC (bodyOf Try.f32) 1) 0)) [] (lb30 q) = some (o', st', q') ∧ q' ∧ Go.AX.Rest Try.prog 0 post st' o' :=
  endR_spec (σ := [0]) (fz := []) (vars := [0,1,7,9,10,11]) (show endR 0 [0] [] [0,1,7,9,10,11] (go Try.prog ({ dec := [(41, true), (48, false), (54, false)], els := eR q, calls := cD q, unroll := false } : HT) 0 4000 (.inl (loopC (loopC (bodyOf Try.f32) 1) 0)) [] (lb30 q)) = some (loopC (loopC (loopC (bodyOf Try.f32) 1) 0) 0, loopK (loopC (loopC (bodyOf Try.f32) 1) 0) 0, St.mk 82 [(0, AV.lst (gL q.g)), (1, AV.lst (boL q.s)), (7, AV.sl 0 0 q.n), (9, AV.int IntKind.i64 (iN (q.far + 1))), (10, AV.int IntKind.i64 (iN q.v)), (11, AV.int IntKind.i64 0)] [some (Blk.mk (List.map (AV.int IntKind.i64) q.d) 1 true true)], ((((True ∧ True) ∧ ((True ∧ True) ∧ ((True ∧ True) ∧ ((True ∧ (True ∧ True)) ∧ True)))) ∧ ((type_of% h1) ∧ (((True ∧ True) ∧ ((True ∧ True) ∧ ((True ∧ (True ∧ ((type_of% h2) ∧ (type_of% h3)))) ∧ ((True ∧ True) ∧ ((True ∧ True) ∧ (((type_of% h4) ∧ (True ∧ True)) ∧ (((type_of% h4) ∧ (True ∧ True)) ∧ (((type_of% h4) ∧ (True ∧ (True ∧ ((type_of% h2) ∧ (type_of% h5))))) ∧ (((type_of% h4) ∧ (True ∧ (type_of% h6))) ∧ (((type_of% h4) ∧ (True ∧ True)) ∧ (((type_of% h4) ∧ (True ∧ True)) ∧ True))))))))))) ∧ ((type_of% h7) ∧ ((True ∧ True) ∧ True))))) ∧ (True ∧ (True ∧ (True ∧ (True ∧ (True ∧ (True ∧ (True ∧ True))))))))) by kernel_rfl) ⟨⟨⟨⟨trivial, trivial⟩, ⟨⟨trivial, trivial⟩, ⟨⟨trivial, trivial⟩, ⟨⟨trivial, ⟨trivial, trivial⟩⟩, trivial⟩⟩⟩⟩, ⟨h1, ⟨⟨⟨trivial, trivial⟩, ⟨⟨trivial, trivial⟩, ⟨⟨trivial, ⟨trivial, ⟨h2, h3⟩⟩⟩, ⟨⟨trivial, trivial⟩, ⟨⟨trivial, trivial⟩, ⟨⟨h4, ⟨trivial, trivial⟩⟩, ⟨⟨h4, ⟨trivial, trivial⟩⟩, ⟨⟨h4, ⟨trivial, ⟨trivial, ⟨h2, h5⟩⟩⟩⟩, ⟨⟨h4, ⟨trivial, h6⟩⟩, ⟨⟨h4, ⟨trivial, trivial⟩⟩, ⟨⟨h4, ⟨trivial, trivial⟩⟩, trivial⟩⟩⟩⟩⟩⟩⟩⟩⟩⟩⟩, ⟨h7, ⟨⟨trivial, trivial⟩, trivial⟩⟩⟩⟩⟩, ⟨trivial, ⟨trivial, ⟨trivial, ⟨trivial, ⟨trivial, ⟨trivial, ⟨trivial, trivial⟩⟩⟩⟩⟩⟩⟩⟩ ht
theorem rcx_0 (q : QD) (h1 : (0 ≤ iN q.v)) (h2 : ((gL q.g)[(iN q.v).toNat]? = some (AV.lst (List.map (AV.int IntKind.i64) q.r)))) (h3 : (decide (iN q.i < iN (List.map (AV.int IntKind.i64) q.r).length) = false)) {post : Exit → St → Prop} {R : St → Prop} (hR : ∀ st, Ren 0 st (St.mk 82 [(0, AV.lst (gL q.g)), (1, AV.lst (boL q.s)), (7, AV.sl 0 0 q.n), (9, AV.int IntKind.i64 (iN (q.far + 1))), (10, AV.int IntKind.i64 (IntKind.i64.wrap (iN q.v + 1)))] [some (Blk.mk (List.map (AV.int IntKind.i64) q.d) 1 true true)]) → R st) : ∃ o' st' q', go2 Try.prog ({ dec := [(61, false)], els := eR q, calls := cD q, unroll := false } : HT) 0 4000 (loopC (loopC (loopC (bodyOf Try.f32) 1) 0) 0) (loopK (loopC (loopC (bodyOf Try.f32) 1) 0) 0) (lc30 q) = some (o', st', q') ∧ q' ∧ Go.AX.Rest Try.prog 0 (andThen R post) st' o' :=
  endN_spec (σ := [0]) (fz := []) (vars := [0,1,7,9,10]) (show endN 0 [0] [] [0,1,7,9,10] (go2 Try.prog ({ dec := [(61, false)], els := eR q, calls := cD q, unroll := false } : HT) 0 4000 (loopC (loopC (loopC (bodyOf Try.f32) 1) 0) 0) (loopK (loopC (loopC (bodyOf Try.f32) 1) 0) 0) (lc30 q)) = some (St.mk 82 [(0, AV.lst (gL q.g)), (1, AV.lst (boL q.s)), (7, AV.sl 0 0 q.n), (9, AV.int IntKind.i64 (iN (q.far + 1))), (10, AV.int IntKind.i64 (IntKind.i64.wrap (iN q.v + 1)))] [some (Blk.mk (List.map (AV.int IntKind.i64) q.d) 1 true true)], (((((True ∧ True) ∧ ((True ∧ True) ∧ ((True ∧ True) ∧ ((True ∧ (True ∧ ((type_of% h1) ∧ (type_of% h2)))) ∧ ((True ∧ True) ∧ ((True ∧ True) ∧ ((True ∧ (True ∧ True)) ∧ True))))))) ∧ ((type_of% h3) ∧ True)) ∧ (((True ∧ True) ∧ ((True ∧ True) ∧ ((True ∧ True) ∧ True))) ∧ True)) ∧ (True ∧ (True ∧ (True ∧ (True ∧ (True ∧ (True ∧ True)))))))) by kernel_rfl) ⟨⟨⟨⟨⟨trivial, trivial⟩, ⟨⟨trivial, trivial⟩, ⟨⟨trivial, trivial⟩, ⟨⟨trivial, ⟨trivial, ⟨h1, h2⟩⟩⟩, ⟨⟨trivial, trivial⟩, ⟨⟨trivial, trivial⟩, ⟨⟨trivial, ⟨trivial, trivial⟩⟩, trivial⟩⟩⟩⟩⟩⟩⟩, ⟨h3, trivial⟩⟩, ⟨⟨⟨trivial, trivial⟩, ⟨⟨trivial, trivial⟩, ⟨⟨trivial, trivial⟩, trivial⟩⟩⟩, trivial⟩⟩, ⟨trivial, ⟨trivial, ⟨trivial, ⟨trivial, ⟨trivial, ⟨trivial, trivial⟩⟩⟩⟩⟩⟩⟩ hR
theorem rcr_0 (q : QD) (h1 : (0 ≤ iN q.v)) (h2 : ((gL q.g)[(iN q.v).toNat]? = some (AV.lst (List.map (AV.int IntKind.i64) q.r)))) (h3 : (decide (iN q.i < iN (List.map (AV.int IntKind.i64) q.r).length) = true)) (h4 : (0 ≤ iN q.i)) (h5 : ((List.map (AV.int IntKind.i64) q.r)[(iN q.i).toNat]? = some (AV.int IntKind.i64 (iN q.w)))) (h6 : (0 ≤ iN q.w)) (h7 : (iN q.w < iN q.n)) (h8 : ((List.map (AV.int IntKind.i64) q.d)[0 + (iN q.w).toNat]? = some (AV.int IntKind.i64 q.e))) (h9 : ((q.e == IntKind.i64.wrap (iN (q.far + 1) - 1)) = true)) (h10 : (iN q.v < iN q.n)) (h11 : ((0 + (iN q.v).toNat).succ.le (List.map (AV.int IntKind.i64) q.d).length)) {post : Exit → St → Prop} {R : St → Prop} (hR : ∀ st, Ren 0 st (St.mk 82 [(0, AV.lst (gL q.g)), (1, AV.lst (boL q.s)), (7, AV.sl 0 0 q.n), (9, AV.int IntKind.i64 (iN (q.far + 1))), (10, AV.int IntKind.i64 (iN q.v)), (11, AV.int IntKind.i64 (IntKind.i64.wrap (iN q.i + 1)))] [some (Blk.mk ((List.map (AV.int IntKind.i64) q.d).set (0 + (iN q.v).toNat) (AV.int IntKind.i64 (iN (q.far + 1)))) 1 true true)]) → R st) : ∃ o' st' q', go Try.prog ({ dec := [(61, true), (76, true)], els := eR q, calls := cD q, unroll := false } : HT) 0 4000 (.inl (loopC (loopC (loopC (bodyOf Try.f32) 1) 0) 0)) [] (lc30 q) = some (o', st', q') ∧ q' ∧ Go.AX.Rest Try.prog 0 (andThen R post) st' o' :=
  endN_spec (σ := [0]) (fz := []) (vars := [0,1,7,9,10,11]) (show endN 0 [0] [] [0,1,7,9,10,11] (go Try.prog ({ dec := [(61, true), (76, true)], els := eR q, calls := cD q, unroll := false } : HT) 0 4000 (.inl (loopC (loopC (loopC (bodyOf Try.f32) 1) 0) 0)) [] (lc30 q)) = some (St.mk 82 [(0, AV.lst (gL q.g)), (1, AV.lst (boL q.s)), (7, AV.sl 0 0 q.n), (9, AV.int IntKind.i64 (iN (q.far + 1))), (10, AV.int IntKind.i64 (iN q.v)), (11, AV.int IntKind.i64 (IntKind.i64.wrap (iN q.i + 1)))] [some (Blk.mk ((List.map (AV.int IntKind.i64) q.d).set (0 + (iN q.v).toNat) (AV.int IntKind.i64 (iN (q.far + 1)))) 1 true true)], ((((True ∧ True) ∧ ((True ∧ True) ∧ ((True ∧ True) ∧ ((True ∧ (True ∧ ((type_of% h1) ∧ (type_of% h2)))) ∧ ((True ∧ True) ∧ ((True ∧ True) ∧ ((True ∧ (True ∧ True)) ∧ True))))))) ∧ ((type_of% h3) ∧ (((True ∧ True) ∧ ((True ∧ True) ∧ ((True ∧ True) ∧ ((True ∧ (True ∧ ((type_of% h1) ∧ (type_of% h2)))) ∧ ((True ∧ True) ∧ ((True ∧ True) ∧ ((True ∧ (True ∧ ((type_of% h4) ∧ (type_of% h5)))) ∧ ((True ∧ True) ∧ ((True ∧ (True ∧ ((type_of% h6) ∧ (type_of% h7)))) ∧ ((True ∧ (type_of% h8)) ∧ ((True ∧ True) ∧ ((True ∧ True) ∧ ((True ∧ (True ∧ True)) ∧ True))))))))))))) ∧ ((type_of% h9) ∧ (((True ∧ True) ∧ ((True ∧ True) ∧ ((True ∧ True) ∧ ((True ∧ (True ∧ ((type_of% h1) ∧ (type_of% h10)))) ∧ ((True ∧ (True ∧ (type_of% h11))) ∧ True))))) ∧ (((True ∧ True) ∧ ((True ∧ True) ∧ ((True ∧ True) ∧ True))) ∧ True)))))) ∧ (True ∧ (True ∧ (True ∧ (True ∧ (True ∧ (True ∧ (True ∧ True))))))))) by kernel_rfl) ⟨⟨⟨⟨trivial, trivial⟩, ⟨⟨trivial, trivial⟩, ⟨⟨trivial, trivial⟩, ⟨⟨trivial, ⟨trivial, ⟨h1, h2⟩⟩⟩, ⟨⟨trivial, trivial⟩, ⟨⟨trivial, trivial⟩, ⟨⟨trivial, ⟨trivial, trivial⟩⟩, trivial⟩⟩⟩⟩⟩⟩⟩, ⟨h3, ⟨⟨⟨trivial, trivial⟩, ⟨⟨trivial, trivial⟩, ⟨⟨trivial, trivial⟩, ⟨⟨trivial, ⟨trivial, ⟨h1, h2⟩⟩⟩, ⟨⟨trivial, trivial⟩, ⟨⟨trivial, trivial⟩, ⟨⟨trivial, ⟨trivial, ⟨h4, h5⟩⟩⟩, ⟨⟨trivial, trivial⟩, ⟨⟨trivial, ⟨trivial, ⟨h6, h7⟩⟩⟩, ⟨⟨trivial, h8⟩, ⟨⟨trivial, trivial⟩, ⟨⟨trivial, trivial⟩, ⟨⟨trivial, ⟨trivial, trivial⟩⟩, trivial⟩⟩⟩⟩⟩⟩⟩⟩⟩⟩⟩⟩⟩, ⟨h9, ⟨⟨⟨trivial, trivial⟩, ⟨⟨trivial, trivial⟩, ⟨⟨trivial, trivial⟩, ⟨⟨trivial, ⟨trivial, ⟨h1, h10⟩⟩⟩, ⟨⟨trivial, ⟨trivial, h11⟩⟩, trivial⟩⟩⟩⟩⟩, ⟨⟨⟨trivial, trivial⟩, ⟨⟨trivial, trivial⟩, ⟨⟨trivial, trivial⟩, trivial⟩⟩⟩, trivial⟩⟩⟩⟩⟩⟩, ⟨trivial, ⟨trivial, ⟨trivial, ⟨trivial, ⟨trivial, ⟨trivial, ⟨trivial, trivial⟩⟩⟩⟩⟩⟩⟩⟩ hR
theorem rcr_1 (q : QD) (h1 : (0 ≤ iN q.v)) (h2 : ((gL q.g)[(iN q.v).toNat]? = some (AV.lst (List.map (AV.int IntKind.i64) q.r)))) (h3 : (decide (iN q.i < iN (List.map (AV.int IntKind.i64) q.r).length) = true)) (h4 : (0 ≤ iN q.i)) (h5 : ((List.map (AV.int IntKind.i64) q.r)[(iN q.i).toNat]? = some (AV.int IntKind.i64 (iN q.w)))) (h6 : (0 ≤ iN q.w)) (h7 : (iN q.w < iN q.n)) (h8 : ((List.map (AV.int IntKind.i64) q.d)[0 + (iN q.w).toNat]? = some (AV.int IntKind.i64 q.e))) (h9 : ((q.e == IntKind.i64.wrap (iN (q.far + 1) - 1)) = false)) {post : Exit → St → Prop} {R : St → Prop} (hR : ∀ st, Ren 0 st (St.mk 82 [(0, AV.lst (gL q.g)), (1, AV.lst (boL q.s)), (7, AV.sl 0 0 q.n), (9, AV.int IntKind.i64 (iN (q.far + 1))), (10, AV.int IntKind.i64 (iN q.v)), (11, AV.int IntKind.i64 (IntKind.i64.wrap (iN q.i + 1)))] [some (Blk.mk (List.map (AV.int IntKind.i64) q.d) 1 true true)]) → R st) : ∃ o' st' q', go Try.prog ({ dec := [(61, true), (76, false)], els := eR q, calls := cD q, unroll := false } : HT) 0 4000 (.inl (loopC (loopC (loopC (bodyOf Try.f32) 1) 0) 0)) [] (lc30 q) = some (o', st', q') ∧ q' ∧ Go.AX.Rest Try.prog 0 (andThen R post) st' o' :=
  endN_spec (σ := [0]) (fz := []) (vars := [0,1,7,9,10,11]) (show endN 0 [0] [] [0,1,7,9,10,11] (go Try.prog ({ dec := [(61, true), (76, false)], els := eR q, calls := cD q, unroll := false } : HT) 0 4000 (.inl (loopC (loopC (loopC (bodyOf Try.f32) 1) 0) 0)) [] (lc30 q)) = some (St.mk 82 [(0, AV.lst (gL q.g)), (1, AV.lst (boL q.s)), (7, AV.sl 0 0 q.n), (9, AV.int IntKind.i64 (iN (q.far + 1))), (10, AV.int IntKind.i64 (iN q.v)), (11, AV.int IntKind.i64 (IntKind.i64.wrap (iN q.i + 1)))] [some (Blk.mk (List.map (AV.int IntKind.i64) q.d) 1 true true)], ((((True ∧ True) ∧ ((True ∧ True) ∧ ((True ∧ True) ∧ ((True ∧ (True ∧ ((type_of% h1) ∧ (type_of% h2)))) ∧ ((True ∧ True) ∧ ((True ∧ True) ∧ ((True ∧ (True ∧ True)) ∧ True))))))) ∧ ((type_of% h3) ∧ (((True ∧ True) ∧ ((True ∧ True) ∧ ((True ∧ True) ∧ ((True ∧ (True ∧ ((type_of% h1) ∧ (type_of% h2)))) ∧ ((True ∧ True) ∧ ((True ∧ True) ∧ ((True ∧ (True ∧ ((type_of% h4) ∧ (type_of% h5)))) ∧ ((True ∧ True) ∧ ((True ∧ (True ∧ ((type_of% h6) ∧ (type_of% h7)))) ∧ ((True ∧ (type_of% h8)) ∧ ((True ∧ True) ∧ ((True ∧ True) ∧ ((True ∧ (True ∧ True)) ∧ True))))))))))))) ∧ ((type_of% h9) ∧ (((True ∧ True) ∧ ((True ∧ True) ∧ ((True ∧ True) ∧ True))) ∧ True))))) ∧ (True ∧ (True ∧ (True ∧ (True ∧ (True ∧ (True ∧ (True ∧ True))))))))) by kernel_rfl) ⟨⟨⟨⟨trivial, trivial⟩, ⟨⟨trivial, trivial⟩, ⟨⟨trivial, trivial⟩, ⟨⟨trivial, ⟨trivial, ⟨h1, h2⟩⟩⟩, ⟨⟨trivial, trivial⟩, ⟨⟨trivial, trivial⟩, ⟨⟨trivial, ⟨trivial, trivial⟩⟩, trivial⟩⟩⟩⟩⟩⟩⟩, ⟨h3, ⟨⟨⟨trivial, trivial⟩, ⟨⟨trivial, trivial⟩, ⟨⟨trivial, trivial⟩, ⟨⟨trivial, ⟨trivial, ⟨h1, h2⟩⟩⟩, ⟨⟨trivial, trivial⟩, ⟨⟨trivial, trivial⟩, ⟨⟨trivial, ⟨trivial, ⟨h4, h5⟩⟩⟩, ⟨⟨trivial, trivial⟩, ⟨⟨trivial, ⟨trivial, ⟨h6, h7⟩⟩⟩, ⟨⟨trivial, h8⟩, ⟨⟨trivial, trivial⟩, ⟨⟨trivial, trivial⟩, ⟨⟨trivial, ⟨trivial, trivial⟩⟩, trivial⟩⟩⟩⟩⟩⟩⟩⟩⟩⟩⟩⟩⟩, ⟨h9, ⟨⟨⟨trivial, trivial⟩, ⟨⟨trivial, trivial⟩, ⟨⟨trivial, trivial⟩, trivial⟩⟩⟩, trivial⟩⟩⟩⟩⟩, ⟨trivial, ⟨trivial, ⟨trivial, ⟨trivial, ⟨trivial, ⟨trivial, ⟨trivial, trivial⟩⟩⟩⟩⟩⟩⟩⟩ hR
end Go.Proofs.Ytcdgphdieemjcaa

/-! Contracts. -/
open Go Go.AX Go.Proofs
set_option maxRecDepth 100000
set_option maxHeartbeats 1000000
set_option linter.unusedVariables false
set_option linter.unusedSimpArgs false
namespace Go.Proofs.Ytcdgphdieemjcaa
def edgeF (v far : Nat) (d : List Int) (w : Int) : List Int := if (d.getD w.toNat 0 == (far : Int)) = true then d.set v ((far + 1 : Nat) : Int) else d
def edgesL (r : List Int) (v far : Nat) (d : List Int) : List Int := r.foldl (edgeF v far) d
def vertF (g : List (List Int)) (s : List Bool) (far : Nat) (d : List Int) (v : Nat) : List Int :=
  if s.getD v false = true then d else if decide (0 ≤ d.getD v 0) = true then d else edgesL (g.getD v []) v far d
def roundL (g : List (List Int)) (s : List Bool) (d : List Int) (far : Nat) : List Int := (List.range g.length).foldl (vertF g s far) d
def dist0 (g : List (List Int)) (goal : Nat) : List Int := (List.replicate g.length (-1)).set goal 0
def distL (g : List (List Int)) (s : List Bool) (goal N : Nat) : List Int := if s.getD goal false = true then List.replicate g.length (-1) else (List.range N).foldl (roundL g s) (dist0 g goal)

/-- A graph as the checks want it. -/
structure OkG (g : List (List Int)) (s : List Bool) : Prop where
  len : g.length ≤ 24
  row : ∀ v, v < g.length → (g.getD v []).length ≤ 9223372036854775807 ∧ ∀ w ∈ g.getD v [], 0 ≤ w ∧ w < (g.length : Int) ∧ w ≠ (v : Int)
  sh : s.length = g.length

theorem edgeF_len (v far : Nat) (d : List Int) (w : Int) : (edgeF v far d w).length = d.length := by
  unfold edgeF; split <;> simp
theorem foldl_len {β : Type} {f : List Int → β → List Int} (hf : ∀ d x, (f d x).length = d.length) : ∀ (l : List β) (d : List Int), (l.foldl f d).length = d.length := by
  intro l
  induction l with
  | nil => intro d; rfl
  | cons x l ih => intro d; rw [List.foldl_cons, ih, hf]
theorem edgesL_len (r : List Int) (v far : Nat) (d : List Int) : (edgesL r v far d).length = d.length := foldl_len (edgeF_len v far) r d
theorem vertF_len (g : List (List Int)) (s : List Bool) (far : Nat) (d : List Int) (v : Nat) : (vertF g s far d v).length = d.length := by
  unfold vertF; split
  · rfl
  · split
    · rfl
    · exact edgesL_len _ _ _ _
theorem roundL_len (g : List (List Int)) (s : List Bool) (d : List Int) (far : Nat) : (roundL g s d far).length = d.length := foldl_len (vertF_len g s far) _ d
theorem dist0_len (g : List (List Int)) (goal : Nat) : (dist0 g goal).length = g.length := by simp [dist0]
theorem distL_len (g : List (List Int)) (s : List Bool) (goal N : Nat) : (distL g s goal N).length = g.length := by
  unfold distL; split
  · simp
  · rw [foldl_len (roundL_len g s), dist0_len]

theorem gL_len (g : List (List Int)) : (gL g).length = g.length := by simp [gL]
theorem gL_get {g : List (List Int)} {v : Nat} (h : v < g.length) : (gL g)[v]? = some (lI (g.getD v [])) := by
  unfold gL
  rw [List.getElem?_map, List.getD_eq_getElem?_getD, List.getElem?_eq_getElem h]; rfl
theorem boL_len (s : List Bool) : (boL s).length = s.length := by simp [boL]
theorem boL_get {s : List Bool} {v : Nat} (h : v < s.length) : (boL s)[v]? = some (.bool (s.getD v false)) := by
  unfold boL
  rw [List.getElem?_map, List.getD_eq_getElem?_getD, List.getElem?_eq_getElem h]; rfl
theorem lI_len (l : List Int) : (l.map (AV.int .i64)).length = l.length := by simp
theorem lI_get {l : List Int} {j : Nat} (h : j < l.length) : (l.map (AV.int .i64))[j]? = some (.int .i64 (l.getD j 0)) := by
  rw [List.getElem?_map, List.getD_eq_getElem?_getD, List.getElem?_eq_getElem h]; rfl
theorem lI_get0 {l : List Int} {j : Nat} (h : j < l.length) : (l.map (AV.int .i64))[0 + j]? = some (.int .i64 (l.getD j 0)) := by rw [Nat.zero_add]; exact lI_get h

def fillL (n j : Nat) : List Int := (List.range n).map fun t => if t < j then -1 else 0
theorem fillL_len (n j : Nat) : (fillL n j).length = n := by simp [fillL]
theorem fillL_0 (n : Nat) : List.replicate n (AV.int .i64 0) = (fillL n 0).map (AV.int .i64) := by
  apply List.ext_getElem
  · simp [fillL]
  · intro i h1 h2; simp [fillL]
theorem fillL_n (n : Nat) : fillL n n = List.replicate n (-1) := by
  apply List.ext_getElem
  · simp [fillL]
  · intro i h1 h2; simp [fillL] at h1 ⊢; omega
theorem fillL_set (n j : Nat) (h : j < n) : (fillL n j).set j (-1) = fillL n (j + 1) := by
  apply List.ext_getElem
  · simp [fillL]
  · intro i h1 h2
    simp only [fillL, List.getElem_set, List.getElem_map, List.getElem_range]
    split
    · rw [if_pos (by omega)]
    · by_cases hij : i < j
      · rw [if_pos hij, if_pos (by omega)]
      · rw [if_neg hij, if_neg (by omega)]

theorem map_set (l : List Int) (j : Nat) (v : Int) : (l.map (AV.int .i64)).set (0 + j) (.int .i64 v) = (l.set j v).map (AV.int .i64) := by rw [Nat.zero_add, List.map_set]
theorem take_fold {β : Type} (f : List Int → β → List Int) (r : List β) (d : List Int) (i : Nat) (h : i < r.length) : (r.take (i + 1)).foldl f d = f ((r.take i).foldl f d) (r[i]) := by
  rw [List.take_add_one, List.getElem?_eq_getElem h, List.foldl_append]; rfl
theorem range_fold (f : List Int → Nat → List Int) (d : List Int) (i : Nat) : (List.range (i + 1)).foldl f d = f ((List.range i).foldl f d) i := by
  rw [List.range_succ, List.foldl_append]; rfl
noncomputable def qd (g : List (List Int)) (s : List Bool) (goal : Nat) (d : List Int) (far v i : Nat) (r : List Int) : QD := ⟨g, s, goal, g.length, d, far, v, i, r, 0, false, 0⟩
end Go.Proofs.Ytcdgphdieemjcaa

/-! The paths of a function, by evaluation. -/
open Go Go.AX Go.Proofs
set_option maxRecDepth 100000
set_option maxHeartbeats 4000000
set_option linter.unusedVariables false
namespace Go.Proofs.Ytcdgphdieemjcaa
structure QK where
  g : List (List Int)
  s : List Bool
  d : List Int
  v : Nat
  w : Nat
  a : Nat
  i : Nat
  r : List Int
  x : Int
  y : Int
  b : Bool
  e : Int
  p : List Int
  q : List (List Int)
def cK (q : QK) : Nat → FuncId → List AV → List (Option Blk) → Hint := fun dst f args _ => match f with
  | _ => .no
def e27 (q : QK) : List (Nat × AV) := [(23, lI q.r), (31, lI q.r), (34, .int .i64 (iN q.w)), (55, lI q.r), (59, .int .i64 q.e)]
def e33 (q : QK) : List (Nat × AV) := [(11, lI q.r), (19, lI q.r), (22, .int .i64 (iN q.w)), (26, .int .i64 q.x), (32, .int .i64 q.y), (36, .int .i64 q.x)]
def eK (q : QK) : List (Nat × AV) := []
noncomputable def st16 (q : QK) : St := { n := Try.f16.ntmps, fr := [(0, lI q.p), (1, lI q.p)], hp := [] }
noncomputable def lo16 (q : QK) : St := { n := Try.f16.ntmps, fr := [(0, lI q.p), (1, lI q.p), (5, .int .i64 (iN q.i))], hp := [] }
def e16 (q : QK) : List (Nat × AV) := [(19, .int .i64 q.x), (23, .int .i64 q.x)]
def e17 (q : QK) : List (Nat × AV) := [(27, .int .i64 q.y), (34, .int .i64 q.y), (46, .int .i64 (iN q.a))]
theorem si_0 (q : QK) (h1 : ((iN (List.map (AV.int IntKind.i64) q.p).length != iN (List.map (AV.int IntKind.i64) q.p).length) = false)) {post : Exit → St → Prop} (ht : T Try.prog 0 (.loop (loopC (bodyOf Try.f16) 0)) (St.mk 26 [(0, AV.lst (List.map (AV.int IntKind.i64) q.p)), (1, AV.lst (List.map (AV.int IntKind.i64) q.p)), (5, AV.int IntKind.i64 0)] []) (TK Try.prog 0 post (loopK (bodyOf Try.f16) 0))) : ∃ o' st' q', go Try.prog ({ dec := [(10, false)], els := e16 q, calls := cK q, unroll := false } : HT) 0 4000 (.inl (bodyOf Try.f16)) [] (st16 q) = some (o', st', q') ∧ q' ∧ Go.AX.Rest Try.prog 0 post st' o' :=
  endR_spec (σ := []) (fz := []) (vars := [0,1,5]) (show endR 0 [] [] [0,1,5] (go Try.prog ({ dec := [(10, false)], els := e16 q, calls := cK q, unroll := false } : HT) 0 4000 (.inl (bodyOf Try.f16)) [] (st16 q)) = some (loopC (bodyOf Try.f16) 0, loopK (bodyOf Try.f16) 0, St.mk 26 [(0, AV.lst (List.map (AV.int IntKind.i64) q.p)), (1, AV.lst (List.map (AV.int IntKind.i64) q.p)), (5, AV.int IntKind.i64 0)] [], (((True ∧ True) ∧ (((True ∧ True) ∧ ((True ∧ True) ∧ ((True ∧ True) ∧ ((True ∧ True) ∧ ((True ∧ (True ∧ True)) ∧ True))))) ∧ ((type_of% h1) ∧ ((True ∧ True) ∧ True)))) ∧ (True ∧ (True ∧ (True ∧ True))))) by kernel_rfl) ⟨⟨⟨trivial, trivial⟩, ⟨⟨⟨trivial, trivial⟩, ⟨⟨trivial, trivial⟩, ⟨⟨trivial, trivial⟩, ⟨⟨trivial, trivial⟩, ⟨⟨trivial, ⟨trivial, trivial⟩⟩, trivial⟩⟩⟩⟩⟩, ⟨h1, ⟨⟨trivial, trivial⟩, trivial⟩⟩⟩⟩, ⟨trivial, ⟨trivial, ⟨trivial, trivial⟩⟩⟩⟩ ht
theorem six_0 (q : QK) (h1 : (decide (iN q.i < iN (List.map (AV.int IntKind.i64) q.p).length) = false)) : ∃ o' st' q', go2 Try.prog ({ dec := [(14, false)], els := e16 q, calls := cK q, unroll := false } : HT) 0 4000 (loopC (bodyOf Try.f16) 0) (loopK (bodyOf Try.f16) 0) (lo16 q) = some (o', st', q') ∧ q' ∧ Go.AX.Rest Try.prog 0 (Fin Try.prog Try.f16 0 [] (AV.bool true)) st' o' :=
  endF_spec (σ := []) (fz := []) (show endF Try.prog Try.f16 0 [] [] (go2 Try.prog ({ dec := [(14, false)], els := e16 q, calls := cK q, unroll := false } : HT) 0 4000 (loopC (bodyOf Try.f16) 0) (loopK (bodyOf Try.f16) 0) (lo16 q)) = some ([], AV.bool true, (((((True ∧ True) ∧ ((True ∧ True) ∧ ((True ∧ True) ∧ ((True ∧ (True ∧ True)) ∧ True)))) ∧ ((type_of% h1) ∧ True)) ∧ ((True ∧ True) ∧ True)) ∧ (True ∧ True))) by kernel_rfl) ⟨⟨⟨⟨⟨trivial, trivial⟩, ⟨⟨trivial, trivial⟩, ⟨⟨trivial, trivial⟩, ⟨⟨trivial, ⟨trivial, trivial⟩⟩, trivial⟩⟩⟩⟩, ⟨h1, trivial⟩⟩, ⟨⟨trivial, trivial⟩, trivial⟩⟩, ⟨trivial, trivial⟩⟩
theorem sir_0 (q : QK) (h1 : (decide (iN q.i < iN (List.map (AV.int IntKind.i64) q.p).length) = true)) (h2 : (0 ≤ iN q.i)) (h3 : ((List.map (AV.int IntKind.i64) q.p)[(iN q.i).toNat]? = some (AV.int IntKind.i64 q.x))) (h4 : ((q.x != q.x) = false)) {post : Exit → St → Prop} {R : St → Prop} (hR : ∀ st, Ren 0 st (St.mk 26 [(0, AV.lst (List.map (AV.int IntKind.i64) q.p)), (1, AV.lst (List.map (AV.int IntKind.i64) q.p)), (5, AV.int IntKind.i64 (IntKind.i64.wrap (iN q.i + 1)))] []) → R st) : ∃ o' st' q', go Try.prog ({ dec := [(14, true), (25, false)], els := e16 q, calls := cK q, unroll := false } : HT) 0 4000 (.inl (loopC (bodyOf Try.f16) 0)) [] (lo16 q) = some (o', st', q') ∧ q' ∧ Go.AX.Rest Try.prog 0 (andThen R post) st' o' :=
  endN_spec (σ := []) (fz := []) (vars := [0,1,5]) (show endN 0 [] [] [0,1,5] (go Try.prog ({ dec := [(14, true), (25, false)], els := e16 q, calls := cK q, unroll := false } : HT) 0 4000 (.inl (loopC (bodyOf Try.f16) 0)) [] (lo16 q)) = some (St.mk 26 [(0, AV.lst (List.map (AV.int IntKind.i64) q.p)), (1, AV.lst (List.map (AV.int IntKind.i64) q.p)), (5, AV.int IntKind.i64 (IntKind.i64.wrap (iN q.i + 1)))] [], ((((True ∧ True) ∧ ((True ∧ True) ∧ ((True ∧ True) ∧ ((True ∧ (True ∧ True)) ∧ True)))) ∧ ((type_of% h1) ∧ (((True ∧ True) ∧ ((True ∧ True) ∧ ((True ∧ (True ∧ ((type_of% h2) ∧ (type_of% h3)))) ∧ ((True ∧ True) ∧ ((True ∧ True) ∧ ((True ∧ True) ∧ ((True ∧ (True ∧ ((type_of% h2) ∧ (type_of% h3)))) ∧ ((True ∧ True) ∧ ((True ∧ (True ∧ True)) ∧ True))))))))) ∧ ((type_of% h4) ∧ (((True ∧ True) ∧ ((True ∧ True) ∧ ((True ∧ True) ∧ True))) ∧ True))))) ∧ (True ∧ (True ∧ (True ∧ True))))) by kernel_rfl) ⟨⟨⟨⟨trivial, trivial⟩, ⟨⟨trivial, trivial⟩, ⟨⟨trivial, trivial⟩, ⟨⟨trivial, ⟨trivial, trivial⟩⟩, trivial⟩⟩⟩⟩, ⟨h1, ⟨⟨⟨trivial, trivial⟩, ⟨⟨trivial, trivial⟩, ⟨⟨trivial, ⟨trivial, ⟨h2, h3⟩⟩⟩, ⟨⟨trivial, trivial⟩, ⟨⟨trivial, trivial⟩, ⟨⟨trivial, trivial⟩, ⟨⟨trivial, ⟨trivial, ⟨h2, h3⟩⟩⟩, ⟨⟨trivial, trivial⟩, ⟨⟨trivial, ⟨trivial, trivial⟩⟩, trivial⟩⟩⟩⟩⟩⟩⟩⟩⟩, ⟨h4, ⟨⟨⟨trivial, trivial⟩, ⟨⟨trivial, trivial⟩, ⟨⟨trivial, trivial⟩, trivial⟩⟩⟩, trivial⟩⟩⟩⟩⟩, ⟨trivial, ⟨trivial, ⟨trivial, trivial⟩⟩⟩⟩ hR
end Go.Proofs.Ytcdgphdieemjcaa

/-! Contracts. -/
open Go Go.AX Go.Proofs
set_option maxRecDepth 100000
set_option maxHeartbeats 1000000
set_option linter.unusedVariables false
set_option linter.unusedSimpArgs false
namespace Go.Proofs.Ytcdgphdieemjcaa
/-- Strictly ascending rows. -/
def Asc (g : List (List Int)) : Prop := ∀ v, v < g.length → ∀ i, 0 < i → i < (g.getD v []).length → (g.getD v []).getD (i - 1) 0 < (g.getD v []).getD i 0

theorem row_get {g : List (List Int)} {s : List Bool} (hg : OkG g s) {v : Nat} (hv : v < g.length) {i : Nat} (hi : i < (g.getD v []).length) : ∃ w : Nat, (g.getD v []).getD i 0 = (w : Int) ∧ w < g.length ∧ w ≠ v := by
  have hr := (hg.row v hv).2
  generalize g.getD v [] = r at hi hr ⊢
  have hm : r.getD i 0 ∈ r := by
    rw [List.getD_eq_getElem?_getD, List.getElem?_eq_getElem hi]
    exact List.getElem_mem hi
  obtain ⟨h1, h2, h3⟩ := hr _ hm
  exact ⟨(r.getD i 0).toNat, by omega, by omega, by omega⟩

def qk (g : List (List Int)) (s : List Bool) (v w : Int) (a i : Nat) (r : List Int) : QK := ⟨g, s, [], 0, 0, a, i, r, v, w, false, 0, [], []⟩

theorem wrapM1 (i : Nat) (h0 : 0 < i) (h : i < 9223372036854775808) : IntKind.i64.wrap ((i : Int) - 1) = ((i - 1 : Nat) : Int) := by
  have e1 : (2 : Int) ^ IntKind.i64.bits = 18446744073709551616 := by decide
  have e2 : (2 : Int) ^ (IntKind.i64.bits - 1) = 9223372036854775808 := by decide
  have e3 : IntKind.i64.signed = true := by decide
  simp only [IntKind.wrap, e1, e2, e3, Bool.true_and, decide_eq_true_eq]
  split <;> omega
end Go.Proofs.Ytcdgphdieemjcaa

/-! Contracts. -/
open Go Go.AX Go.Proofs
set_option maxRecDepth 100000
set_option maxHeartbeats 1000000
set_option linter.unusedVariables false
set_option linter.unusedSimpArgs false
namespace Go.Proofs.Ytcdgphdieemjcaa
/-- The first number from 's' on, of 'n', with a property. -/
def fnd (p : Nat → Bool) : Nat → Nat → Option Nat
  | _, 0 => none
  | s, n + 1 => match p s with
    | true => some s
    | false => fnd p (s + 1) n
theorem fnd_step {p : Nat → Bool} {s k : Nat} (h : s < k) : fnd p s (k - s) = (match p s with | true => some s | false => fnd p (s + 1) (k - (s + 1))) := by
  rw [show k - s = (k - (s + 1)) + 1 by omega, fnd]
theorem fnd_end {p : Nat → Bool} {s k : Nat} (h : ¬ s < k) : fnd p s (k - s) = none := by
  rw [show k - s = 0 by omega, fnd]

def hopP (g : List (List Int)) (d : List Int) (v i : Nat) : Bool := decide (0 < d.getD v 0) && (d.getD ((g.getD v []).getD i 0).toNat 0 == d.getD v 0 - 1)
def hopR (r : List Int) (o : Option Nat) : Int := match o with
  | some i => r.getD i 0
  | none => -1
def hopZ (g : List (List Int)) (d : List Int) (v : Nat) : Int := hopR (g.getD v []) (fnd (hopP g d v) 0 (g.getD v []).length)

def Small (d : List Int) : Prop := ∀ x ∈ d, x ≤ 1000
theorem Small.get {d : List Int} (h : Small d) {v : Nat} (hv : v < d.length) : d.getD v 0 ≤ 1000 := by
  rw [List.getD_eq_getElem?_getD, List.getElem?_eq_getElem hv]
  exact h _ (List.getElem_mem hv)
theorem Small.set {d : List Int} (h : Small d) (v : Nat) (x : Int) (hx : x ≤ 1000) : Small (d.set v x) := by
  intro y hy
  rcases List.mem_or_eq_of_mem_set hy with hy | rfl
  · exact h y hy
  · exact hx
theorem foldl_inv {β : Type} {Q : List Int → Prop} {f : List Int → β → List Int} : ∀ (l : List β) (d : List Int), Q d → (∀ d x, x ∈ l → Q d → Q (f d x)) → Q (l.foldl f d) := by
  intro l
  induction l with
  | nil => intro d h _; exact h
  | cons x l ih => intro d h hf; exact ih _ (hf d x (by simp) h) fun d y hy => hf d y (List.mem_cons_of_mem _ hy)
theorem distL_small (g : List (List Int)) (s : List Bool) (goal N : Nat) (hN : N ≤ 900) : Small (distL g s goal N) := by
  have h0 : Small (List.replicate g.length (-1)) := by
    intro x hx; rw [(List.mem_replicate.1 hx).2]; omega
  unfold distL
  split
  · exact h0
  · refine foldl_inv _ _ (h0.set _ _ (by omega)) fun d far hfar hd => ?_
    unfold roundL
    refine foldl_inv _ _ hd fun d v _ hd => ?_
    unfold vertF
    split
    · exact hd
    · split
      · exact hd
      · refine foldl_inv _ _ hd fun d w _ hd => ?_
        unfold edgeF
        split
        · exact hd.set _ _ (by have := List.mem_range.1 hfar; omega)
        · exact hd

def qh (g : List (List Int)) (d : List Int) (v i : Nat) (r : List Int) : QK := ⟨g, [], d, v, 0, 0, i, r, 0, 0, false, 0, [], []⟩

def hopsZ (g : List (List Int)) (d : List Int) : List Int := (List.range g.length).map (hopZ g d)
def fillH (g : List (List Int)) (d : List Int) (j : Nat) : List Int := (List.range g.length).map fun t => if t < j then hopZ g d t else 0
theorem fillH_len (g : List (List Int)) (d : List Int) (j : Nat) : (fillH g d j).length = g.length := by simp [fillH]
theorem fillH_0 (g : List (List Int)) (d : List Int) : List.replicate g.length (AV.int .i64 0) = (fillH g d 0).map (AV.int .i64) := by
  apply List.ext_getElem
  · simp [fillH]
  · intro i h1 h2; simp [fillH]
theorem fillH_n (g : List (List Int)) (d : List Int) : fillH g d g.length = hopsZ g d := by
  apply List.ext_getElem
  · simp [fillH, hopsZ]
  · intro i h1 h2; simp [fillH, hopsZ] at h1 ⊢; omega
theorem fillH_set (g : List (List Int)) (d : List Int) (j : Nat) (h : j < g.length) : (fillH g d j).set j (hopZ g d j) = fillH g d (j + 1) := by
  apply List.ext_getElem
  · simp [fillH]
  · intro i h1 h2
    simp only [fillH, List.getElem_set, List.getElem_map, List.getElem_range]
    split
    · rename_i e; subst e; rw [if_pos (by omega)]
    · by_cases hij : i < j
      · rw [if_pos hij, if_pos (by omega)]
      · rw [if_neg hij, if_neg (by omega)]

theorem sameInts_ct (L : List Int) (hL : L.length ≤ 1000000) : CT Try.prog 16 [] [lI L, lI L] [] (.bool true) := by
  refine CT.path mix Try.func16 (show Try.f16.body = some (bodyOf Try.f16) by kernel_rfl) (Nat.le_of_ble_eq_true rfl) (si_0 ⟨[], [], [], 0, 0, 0, 0, [], 0, 0, false, 0, L, []⟩ (by simp) ?_)
  refine T.loop (fun j : Nat => lo16 ⟨[], [], [], 0, 0, 0, j, [], 0, 0, false, 0, L, []⟩) (fun j => j ≤ L.length) (fun j => L.length + 1 - j) 0 (Nat.zero_le _) ?_
  intro j hj
  by_cases h : j < L.length
  · refine T.path mix (sir_0 ⟨[], [], [], 0, 0, 0, j, [], L.getD j 0, 0, false, 0, L, []⟩ (by simp [iN]; omega) (by simp [iN]) (lI_get h) (by simp) ?_)
    intro st hst
    rw [show IntKind.i64.wrap (iN j + 1) = ((j + 1 : Nat) : Int) from wrap_nat j (by omega)] at hst
    exact ⟨j + 1, hst, h, by omega⟩
  · exact T.out mix (six_0 ⟨[], [], [], 0, 0, 0, j, [], 0, 0, false, 0, L, []⟩ (by simp [iN]; omega))
end Go.Proofs.Ytcdgphdieemjcaa

/-! Contracts. -/
open Go Go.AX Go.Proofs
set_option maxRecDepth 100000
set_option maxHeartbeats 1000000
set_option linter.unusedVariables false
set_option linter.unusedSimpArgs false
namespace Go.Proofs.Ytcdgphdieemjcaa
noncomputable def wkZ (g : List (List Int)) (d : List Int) (a : Nat) : Nat → Int
  | 0 => (a : Int)
  | k + 1 => hopZ g d (wkZ g d a k).toNat
noncomputable def wkL (g : List (List Int)) (d : List Int) (a k : Nat) : List Int := (List.range (k + 1)).map (wkZ g d a)
theorem wkL_len (g : List (List Int)) (d : List Int) (a k : Nat) : (wkL g d a k).length = k + 1 := by simp [wkL]
theorem wkL_succ (g : List (List Int)) (d : List Int) (a k : Nat) : wkL g d a (k + 1) = wkL g d a k ++ [wkZ g d a (k + 1)] := by
  unfold wkL; rw [List.range_succ, List.map_append]; rfl

noncomputable def tabZ (g : List (List Int)) (s : List Bool) (k : Nat) : List (List Int) := (List.range k).map fun t => hopsZ g (distL g s t g.length)
end Go.Proofs.Ytcdgphdieemjcaa

/-! The paths of a function, by evaluation. -/
open Go Go.AX Go.Proofs
set_option maxRecDepth 100000
set_option maxHeartbeats 4000000
set_option linter.unusedVariables false
namespace Go.Proofs.Ytcdgphdieemjcaa
def kg : List (List Int) := [[1], [2], [3], [0]]
def ks : List Bool := [false, false, false, false]
def c8 (u : Unit) : Nat → FuncId → List AV → List (Option Blk) → Hint := fun dst f args _ => match f with
  | 16 => match args with
    | [_, .sl b _ _] => .call [] [b] [] (.bool true)
    | _ => .call [] [] [] (.bool true)
  | _ => .no
def e8 (u : Unit) : List (Nat × AV) := []
end Go.Proofs.Ytcdgphdieemjcaa

/-! Contracts. -/
open Go Go.AX Go.Proofs
set_option maxRecDepth 100000
set_option maxHeartbeats 1000000
set_option linter.unusedVariables false
set_option linter.unusedSimpArgs false
namespace Go.Proofs.Ytcdgphdieemjcaa
end Go.Proofs.Ytcdgphdieemjcaa

/-! The paths of a function, by evaluation. -/
open Go Go.AX Go.Proofs
set_option maxRecDepth 100000
set_option maxHeartbeats 4000000
set_option linter.unusedVariables false
namespace Go.Proofs.Ytcdgphdieemjcaa
structure QG where
  L : List Int
  g : List (List Int)
  l : List Int
  o : List Int
  s : List Bool
  kk : Nat
  n : Nat
  k : Int
  v : Nat
  w : Nat
  x : Int
  i : Nat
  e : Int
  b : Bool
noncomputable def st23 (q : QG) : St := { n := Try.f19.ntmps, fr := [(0, lI q.l), (1, .int .i64 q.x)], hp := [] }
noncomputable def lo23 (q : QG) : St := { n := Try.f19.ntmps, fr := [(0, lI q.l), (1, .int .i64 q.x), (5, .int .i64 (iN q.i))], hp := [] }
def nextG (L : List Int) (args : List AV) (hp : List (Option Blk)) (v : Int) : Hint := match args with
  | [.ptr b _ _, _] => match nth hp b with
    | some blk => match blk.es with
      | [.agg [_, .int _ e]] => .call [b] [] [tapeB L (e.toNat + 1)] (.int .i64 v)
      | _ => .no
    | none => .no
  | _ => .no
def cG (q : QG) : Nat → FuncId → List AV → List (Option Blk) → Hint := fun dst f args hp => match f with
  | 11 => nextG q.L args hp (match dst with | 13 => (iN q.n) | 20 => q.k | 27 => iN q.v | 30 => iN q.w | 10 => q.k | _ => iN q.v)
  | 19 => .call [] [] [] (.bool q.b)
  | 21 => .call [] [] [] (lI q.o)
  | _ => .no
def e23 (q : QG) : List (Nat × AV) := [(14, .int .i64 q.e)]
noncomputable def st25 (q : QG) : St := { n := Try.f21.ntmps, fr := [(0, lI q.l), (1, .int .i64 q.x)], hp := [] }
noncomputable def lz25 (q : QG) : St := { n := Try.f21.ntmps, fr := [(0, lI q.l), (1, .int .i64 q.x), (5, .nils), (6, .bool false), (7, .int .i64 (iN q.i))], hp := [] }
noncomputable def lo25 (q : QG) : St := { n := Try.f21.ntmps, fr := [(0, lI q.l), (1, .int .i64 q.x), (5, .sl 0 0 q.o.length), (6, .bool q.b), (7, .int .i64 (iN q.i))], hp := [some (dB q.o)] }
def e25 (q : QG) : List (Nat × AV) := [(19, .int .i64 q.e), (31, .int .i64 q.e)]
noncomputable def st9 (q : QG) : St := { n := Try.f9.ntmps, fr := [(0, .ptr 0 0 0), (1, .int .i64 q.x)], hp := [some (tapeB q.L q.kk)] }
noncomputable def lo9 (q : QG) : St := { n := Try.f9.ntmps, fr := [(0, .ptr 0 0 0), (5, .int .i64 (iN q.n)), (6, .sl 1 0 q.n), (7, .int .i64 q.k)], hp := [some (tapeB q.L q.kk), some { es := gL q.g, z := 1 }] }
def e9 (q : QG) : List (Nat × AV) := [(38, lI q.l), (48, lI q.l)]
noncomputable def st10 (q : QG) : St := { n := Try.f10.ntmps, fr := [(0, .ptr 0 0 0), (1, .int .i64 (iN q.n))], hp := [some (tapeB q.L q.kk)] }
noncomputable def lo10 (q : QG) : St := { n := Try.f10.ntmps, fr := [(0, .ptr 0 0 0), (1, .int .i64 (iN q.n)), (5, .sl 1 0 q.n), (6, .int .i64 q.k)], hp := [some (tapeB q.L q.kk), some { es := boL q.s, z := 1 }] }
def e10 (q : QG) : List (Nat × AV) := []
theorem ha_0 (q : QG) {post : Exit → St → Prop} (ht : T Try.prog 0 (.loop (loopC (bodyOf Try.f19) 0)) (St.mk 18 [(0, AV.lst (List.map (AV.int IntKind.i64) q.l)), (1, AV.int IntKind.i64 q.x), (5, AV.int IntKind.i64 0)] []) (TK Try.prog 0 post (loopK (bodyOf Try.f19) 0))) : ∃ o' st' q', go Try.prog ({ dec := [], els := e23 q, calls := cG q, unroll := false } : HT) 0 4000 (.inl (bodyOf Try.f19)) [] (st23 q) = some (o', st', q') ∧ q' ∧ Go.AX.Rest Try.prog 0 post st' o' :=
  endR_spec (σ := []) (fz := []) (vars := [0,1,5]) (show endR 0 [] [] [0,1,5] (go Try.prog ({ dec := [], els := e23 q, calls := cG q, unroll := false } : HT) 0 4000 (.inl (bodyOf Try.f19)) [] (st23 q)) = some (loopC (bodyOf Try.f19) 0, loopK (bodyOf Try.f19) 0, St.mk 18 [(0, AV.lst (List.map (AV.int IntKind.i64) q.l)), (1, AV.int IntKind.i64 q.x), (5, AV.int IntKind.i64 0)] [], (((True ∧ True) ∧ ((True ∧ True) ∧ True)) ∧ (True ∧ (True ∧ (True ∧ True))))) by kernel_rfl) ⟨⟨⟨trivial, trivial⟩, ⟨⟨trivial, trivial⟩, trivial⟩⟩, ⟨trivial, ⟨trivial, ⟨trivial, trivial⟩⟩⟩⟩ ht
theorem hax_0 (q : QG) (h1 : (decide (iN q.i < iN (List.map (AV.int IntKind.i64) q.l).length) = false)) : ∃ o' st' q', go2 Try.prog ({ dec := [(9, false)], els := e23 q, calls := cG q, unroll := false } : HT) 0 4000 (loopC (bodyOf Try.f19) 0) (loopK (bodyOf Try.f19) 0) (lo23 q) = some (o', st', q') ∧ q' ∧ Go.AX.Rest Try.prog 0 (Fin Try.prog Try.f19 0 [] (AV.bool false)) st' o' :=
  endF_spec (σ := []) (fz := []) (show endF Try.prog Try.f19 0 [] [] (go2 Try.prog ({ dec := [(9, false)], els := e23 q, calls := cG q, unroll := false } : HT) 0 4000 (loopC (bodyOf Try.f19) 0) (loopK (bodyOf Try.f19) 0) (lo23 q)) = some ([], AV.bool false, (((((True ∧ True) ∧ ((True ∧ True) ∧ ((True ∧ True) ∧ ((True ∧ (True ∧ True)) ∧ True)))) ∧ ((type_of% h1) ∧ True)) ∧ ((True ∧ True) ∧ True)) ∧ (True ∧ True))) by kernel_rfl) ⟨⟨⟨⟨⟨trivial, trivial⟩, ⟨⟨trivial, trivial⟩, ⟨⟨trivial, trivial⟩, ⟨⟨trivial, ⟨trivial, trivial⟩⟩, trivial⟩⟩⟩⟩, ⟨h1, trivial⟩⟩, ⟨⟨trivial, trivial⟩, trivial⟩⟩, ⟨trivial, trivial⟩⟩
theorem hay_0 (q : QG) (h1 : (decide (iN q.i < iN (List.map (AV.int IntKind.i64) q.l).length) = true)) (h2 : (0 ≤ iN q.i)) (h3 : ((List.map (AV.int IntKind.i64) q.l)[(iN q.i).toNat]? = some (AV.int IntKind.i64 q.e))) (h4 : ((q.e == q.x) = true)) : ∃ o' st' q', go2 Try.prog ({ dec := [(9, true), (17, true)], els := e23 q, calls := cG q, unroll := false } : HT) 0 4000 (loopC (bodyOf Try.f19) 0) (loopK (bodyOf Try.f19) 0) (lo23 q) = some (o', st', q') ∧ q' ∧ Go.AX.Rest Try.prog 0 (Fin Try.prog Try.f19 0 [] (AV.bool true)) st' o' :=
  endF_spec (σ := []) (fz := []) (show endF Try.prog Try.f19 0 [] [] (go2 Try.prog ({ dec := [(9, true), (17, true)], els := e23 q, calls := cG q, unroll := false } : HT) 0 4000 (loopC (bodyOf Try.f19) 0) (loopK (bodyOf Try.f19) 0) (lo23 q)) = some ([], AV.bool true, (((((True ∧ True) ∧ ((True ∧ True) ∧ ((True ∧ True) ∧ ((True ∧ (True ∧ True)) ∧ True)))) ∧ ((type_of% h1) ∧ (((True ∧ True) ∧ ((True ∧ True) ∧ ((True ∧ (True ∧ ((type_of% h2) ∧ (type_of% h3)))) ∧ ((True ∧ True) ∧ ((True ∧ True) ∧ ((True ∧ (True ∧ True)) ∧ True)))))) ∧ ((type_of% h4) ∧ ((True ∧ True) ∧ True))))) ∧ True) ∧ (True ∧ True))) by kernel_rfl) ⟨⟨⟨⟨⟨trivial, trivial⟩, ⟨⟨trivial, trivial⟩, ⟨⟨trivial, trivial⟩, ⟨⟨trivial, ⟨trivial, trivial⟩⟩, trivial⟩⟩⟩⟩, ⟨h1, ⟨⟨⟨trivial, trivial⟩, ⟨⟨trivial, trivial⟩, ⟨⟨trivial, ⟨trivial, ⟨h2, h3⟩⟩⟩, ⟨⟨trivial, trivial⟩, ⟨⟨trivial, trivial⟩, ⟨⟨trivial, ⟨trivial, trivial⟩⟩, trivial⟩⟩⟩⟩⟩⟩, ⟨h4, ⟨⟨trivial, trivial⟩, trivial⟩⟩⟩⟩⟩, trivial⟩, ⟨trivial, trivial⟩⟩
theorem har_0 (q : QG) (h1 : (decide (iN q.i < iN (List.map (AV.int IntKind.i64) q.l).length) = true)) (h2 : (0 ≤ iN q.i)) (h3 : ((List.map (AV.int IntKind.i64) q.l)[(iN q.i).toNat]? = some (AV.int IntKind.i64 q.e))) (h4 : ((q.e == q.x) = false)) {post : Exit → St → Prop} {R : St → Prop} (hR : ∀ st, Ren 0 st (St.mk 18 [(0, AV.lst (List.map (AV.int IntKind.i64) q.l)), (1, AV.int IntKind.i64 q.x), (5, AV.int IntKind.i64 (IntKind.i64.wrap (iN q.i + 1)))] []) → R st) : ∃ o' st' q', go Try.prog ({ dec := [(9, true), (17, false)], els := e23 q, calls := cG q, unroll := false } : HT) 0 4000 (.inl (loopC (bodyOf Try.f19) 0)) [] (lo23 q) = some (o', st', q') ∧ q' ∧ Go.AX.Rest Try.prog 0 (andThen R post) st' o' :=
  endN_spec (σ := []) (fz := []) (vars := [0,1,5]) (show endN 0 [] [] [0,1,5] (go Try.prog ({ dec := [(9, true), (17, false)], els := e23 q, calls := cG q, unroll := false } : HT) 0 4000 (.inl (loopC (bodyOf Try.f19) 0)) [] (lo23 q)) = some (St.mk 18 [(0, AV.lst (List.map (AV.int IntKind.i64) q.l)), (1, AV.int IntKind.i64 q.x), (5, AV.int IntKind.i64 (IntKind.i64.wrap (iN q.i + 1)))] [], ((((True ∧ True) ∧ ((True ∧ True) ∧ ((True ∧ True) ∧ ((True ∧ (True ∧ True)) ∧ True)))) ∧ ((type_of% h1) ∧ (((True ∧ True) ∧ ((True ∧ True) ∧ ((True ∧ (True ∧ ((type_of% h2) ∧ (type_of% h3)))) ∧ ((True ∧ True) ∧ ((True ∧ True) ∧ ((True ∧ (True ∧ True)) ∧ True)))))) ∧ ((type_of% h4) ∧ (((True ∧ True) ∧ ((True ∧ True) ∧ ((True ∧ True) ∧ True))) ∧ True))))) ∧ (True ∧ (True ∧ (True ∧ True))))) by kernel_rfl) ⟨⟨⟨⟨trivial, trivial⟩, ⟨⟨trivial, trivial⟩, ⟨⟨trivial, trivial⟩, ⟨⟨trivial, ⟨trivial, trivial⟩⟩, trivial⟩⟩⟩⟩, ⟨h1, ⟨⟨⟨trivial, trivial⟩, ⟨⟨trivial, trivial⟩, ⟨⟨trivial, ⟨trivial, ⟨h2, h3⟩⟩⟩, ⟨⟨trivial, trivial⟩, ⟨⟨trivial, trivial⟩, ⟨⟨trivial, ⟨trivial, trivial⟩⟩, trivial⟩⟩⟩⟩⟩⟩, ⟨h4, ⟨⟨⟨trivial, trivial⟩, ⟨⟨trivial, trivial⟩, ⟨⟨trivial, trivial⟩, trivial⟩⟩⟩, trivial⟩⟩⟩⟩⟩, ⟨trivial, ⟨trivial, ⟨trivial, trivial⟩⟩⟩⟩ hR
theorem in_0 (q : QG) {post : Exit → St → Prop} (ht : T Try.prog 0 (.loop (loopC (bodyOf Try.f21) 0)) (St.mk 42 [(0, AV.lst (List.map (AV.int IntKind.i64) q.l)), (1, AV.int IntKind.i64 q.x), (5, AV.nils), (6, AV.bool false), (7, AV.int IntKind.i64 0)] []) (TK Try.prog 0 post (loopK (bodyOf Try.f21) 0))) : ∃ o' st' q', go Try.prog ({ dec := [], els := e25 q, calls := cG q, unroll := false } : HT) 0 4000 (.inl (bodyOf Try.f21)) [] (st25 q) = some (o', st', q') ∧ q' ∧ Go.AX.Rest Try.prog 0 post st' o' :=
  endR_spec (σ := []) (fz := []) (vars := [0,1,5,6,7]) (show endR 0 [] [] [0,1,5,6,7] (go Try.prog ({ dec := [], els := e25 q, calls := cG q, unroll := false } : HT) 0 4000 (.inl (bodyOf Try.f21)) [] (st25 q)) = some (loopC (bodyOf Try.f21) 0, loopK (bodyOf Try.f21) 0, St.mk 42 [(0, AV.lst (List.map (AV.int IntKind.i64) q.l)), (1, AV.int IntKind.i64 q.x), (5, AV.nils), (6, AV.bool false), (7, AV.int IntKind.i64 0)] [], (((True ∧ True) ∧ ((True ∧ True) ∧ ((True ∧ True) ∧ ((True ∧ True) ∧ True)))) ∧ (True ∧ (True ∧ (True ∧ (True ∧ (True ∧ True))))))) by kernel_rfl) ⟨⟨⟨trivial, trivial⟩, ⟨⟨trivial, trivial⟩, ⟨⟨trivial, trivial⟩, ⟨⟨trivial, trivial⟩, trivial⟩⟩⟩⟩, ⟨trivial, ⟨trivial, ⟨trivial, ⟨trivial, ⟨trivial, trivial⟩⟩⟩⟩⟩⟩ ht
theorem inzx_0 (q : QG) (h1 : (decide (iN q.i < iN (List.map (AV.int IntKind.i64) q.l).length) = false)) (h2 : (1 ≤ [AV.int IntKind.i64 q.x].length)) (h3 : ([AV.int IntKind.i64 q.x].length ≤ 9223372036854775807)) (h4 : ([AV.int IntKind.i64 q.x].length * 8 ≤ 140737488355328)) : ∃ o' st' q', go2 Try.prog ({ dec := [(11, false)], els := e25 q, calls := cG q, unroll := false } : HT) 0 4000 (loopC (bodyOf Try.f21) 0) (loopK (bodyOf Try.f21) 0) (lz25 q) = some (o', st', q') ∧ q' ∧ Go.AX.Rest Try.prog 0 (Fin Try.prog Try.f21 0 [] (AV.lst [AV.int IntKind.i64 q.x])) st' o' :=
  endF_spec (σ := []) (fz := [0,1,2,3]) (show endF Try.prog Try.f21 0 [] [0,1,2,3] (go2 Try.prog ({ dec := [(11, false)], els := e25 q, calls := cG q, unroll := false } : HT) 0 4000 (loopC (bodyOf Try.f21) 0) (loopK (bodyOf Try.f21) 0) (lz25 q)) = some ([], AV.lst [AV.int IntKind.i64 q.x], (((((True ∧ True) ∧ ((True ∧ True) ∧ ((True ∧ True) ∧ ((True ∧ (True ∧ True)) ∧ True)))) ∧ ((type_of% h1) ∧ True)) ∧ (((True ∧ True) ∧ ((True ∧ True) ∧ True)) ∧ (True ∧ (((True ∧ True) ∧ ((True ∧ True) ∧ ((True ∧ True) ∧ ((True ∧ (True ∧ (((nat_lit 1 = nat_lit 1) ∧ (type_of% h2)) ∧ ((type_of% h3) ∧ (type_of% h4))))) ∧ ((True ∧ True) ∧ True))))) ∧ (((True ∧ True) ∧ ((True ∧ True) ∧ True)) ∧ True))))) ∧ (([AV.int IntKind.i64 q.x].length = [AV.int IntKind.i64 q.x].length) ∧ True))) by kernel_rfl) ⟨⟨⟨⟨⟨trivial, trivial⟩, ⟨⟨trivial, trivial⟩, ⟨⟨trivial, trivial⟩, ⟨⟨trivial, ⟨trivial, trivial⟩⟩, trivial⟩⟩⟩⟩, ⟨h1, trivial⟩⟩, ⟨⟨⟨trivial, trivial⟩, ⟨⟨trivial, trivial⟩, trivial⟩⟩, ⟨trivial, ⟨⟨⟨trivial, trivial⟩, ⟨⟨trivial, trivial⟩, ⟨⟨trivial, trivial⟩, ⟨⟨trivial, ⟨trivial, ⟨⟨(by first | decide | exact Int.NonNeg.mk _), h2⟩, ⟨h3, h4⟩⟩⟩⟩, ⟨⟨trivial, trivial⟩, trivial⟩⟩⟩⟩⟩, ⟨⟨⟨trivial, trivial⟩, ⟨⟨trivial, trivial⟩, trivial⟩⟩, trivial⟩⟩⟩⟩⟩, ⟨rfl, trivial⟩⟩
theorem inza_0 (q : QG) (h1 : (decide (iN q.i < iN (List.map (AV.int IntKind.i64) q.l).length) = true)) (h2 : (0 ≤ iN q.i)) (h3 : ((List.map (AV.int IntKind.i64) q.l)[(iN q.i).toNat]? = some (AV.int IntKind.i64 q.e))) (h4 : (decide (q.x < q.e) = true)) (h5 : (1 ≤ [AV.int IntKind.i64 q.x].length)) (h6 : ([AV.int IntKind.i64 q.x].length ≤ 9223372036854775807)) (h7 : ([AV.int IntKind.i64 q.x].length * 8 ≤ 140737488355328)) (h8 : (1 ≤ [AV.int IntKind.i64 q.e].length)) (h9 : ([AV.int IntKind.i64 q.x].length + [AV.int IntKind.i64 q.e].length ≤ 9223372036854775807)) (h10 : (([AV.int IntKind.i64 q.x].length + [AV.int IntKind.i64 q.e].length) * 8 ≤ 140737488355328)) {post : Exit → St → Prop} {R : St → Prop} (hR : ∀ st, Ren 0 st (St.mk 42 [(0, AV.lst (List.map (AV.int IntKind.i64) q.l)), (1, AV.int IntKind.i64 q.x), (5, AV.sl 0 0 ([AV.int IntKind.i64 q.x].length + [AV.int IntKind.i64 q.e].length)), (6, AV.bool true), (7, AV.int IntKind.i64 (IntKind.i64.wrap (iN q.i + 1)))] [some (Blk.mk [AV.int IntKind.i64 q.x, AV.int IntKind.i64 q.e] 1 true true)]) → R st) : ∃ o' st' q', go Try.prog ({ dec := [(11, true), (22, true)], els := e25 q, calls := cG q, unroll := false } : HT) 0 4000 (.inl (loopC (bodyOf Try.f21) 0)) [] (lz25 q) = some (o', st', q') ∧ q' ∧ Go.AX.Rest Try.prog 0 (andThen R post) st' o' :=
  endN_spec (σ := [3]) (fz := []) (vars := [0,1,5,6,7]) (show endN 0 [3] [] [0,1,5,6,7] (go Try.prog ({ dec := [(11, true), (22, true)], els := e25 q, calls := cG q, unroll := false } : HT) 0 4000 (.inl (loopC (bodyOf Try.f21) 0)) [] (lz25 q)) = some (St.mk 42 [(0, AV.lst (List.map (AV.int IntKind.i64) q.l)), (1, AV.int IntKind.i64 q.x), (5, AV.sl 0 0 ([AV.int IntKind.i64 q.x].length + [AV.int IntKind.i64 q.e].length)), (6, AV.bool true), (7, AV.int IntKind.i64 (IntKind.i64.wrap (iN q.i + 1)))] [some (Blk.mk [AV.int IntKind.i64 q.x, AV.int IntKind.i64 q.e] 1 true true)], ((((True ∧ True) ∧ ((True ∧ True) ∧ ((True ∧ True) ∧ ((True ∧ (True ∧ True)) ∧ True)))) ∧ ((type_of% h1) ∧ (((True ∧ True) ∧ ((True ∧ True) ∧ ((True ∧ True) ∧ ((True ∧ (True ∧ True)) ∧ ((True ∧ (True ∧ True)) ∧ ((True ∧ (True ∧ (True ∧ ((type_of% h2) ∧ (type_of% h3))))) ∧ ((True ∧ (True ∧ True)) ∧ ((True ∧ (True ∧ True)) ∧ ((True ∧ (True ∧ (True ∧ True))) ∧ ((True ∧ ((type_of% h4) ∧ True)) ∧ True)))))))))) ∧ (True ∧ (((True ∧ True) ∧ ((True ∧ True) ∧ ((True ∧ True) ∧ ((True ∧ (True ∧ (((nat_lit 1 = nat_lit 1) ∧ (type_of% h5)) ∧ ((type_of% h6) ∧ (type_of% h7))))) ∧ ((True ∧ True) ∧ (True ∧ True)))))) ∧ (((True ∧ True) ∧ ((True ∧ True) ∧ ((True ∧ True) ∧ ((True ∧ (True ∧ ((type_of% h2) ∧ (type_of% h3)))) ∧ ((True ∧ True) ∧ ((True ∧ True) ∧ ((True ∧ (True ∧ (([AV.int IntKind.i64 q.x].length = [AV.int IntKind.i64 q.x].length) ∧ (((nat_lit 1 = nat_lit 1) ∧ (type_of% h8)) ∧ ((type_of% h9) ∧ (type_of% h10)))))) ∧ ((True ∧ True) ∧ True)))))))) ∧ (((True ∧ True) ∧ ((True ∧ True) ∧ ((True ∧ True) ∧ True))) ∧ True))))))) ∧ (True ∧ (True ∧ (True ∧ (True ∧ (True ∧ (True ∧ True)))))))) by kernel_rfl) ⟨⟨⟨⟨trivial, trivial⟩, ⟨⟨trivial, trivial⟩, ⟨⟨trivial, trivial⟩, ⟨⟨trivial, ⟨trivial, trivial⟩⟩, trivial⟩⟩⟩⟩, ⟨h1, ⟨⟨⟨trivial, trivial⟩, ⟨⟨trivial, trivial⟩, ⟨⟨trivial, trivial⟩, ⟨⟨trivial, ⟨trivial, trivial⟩⟩, ⟨⟨trivial, ⟨trivial, trivial⟩⟩, ⟨⟨trivial, ⟨trivial, ⟨trivial, ⟨h2, h3⟩⟩⟩⟩, ⟨⟨trivial, ⟨trivial, trivial⟩⟩, ⟨⟨trivial, ⟨trivial, trivial⟩⟩, ⟨⟨trivial, ⟨trivial, ⟨trivial, trivial⟩⟩⟩, ⟨⟨trivial, ⟨h4, trivial⟩⟩, trivial⟩⟩⟩⟩⟩⟩⟩⟩⟩⟩, ⟨trivial, ⟨⟨⟨trivial, trivial⟩, ⟨⟨trivial, trivial⟩, ⟨⟨trivial, trivial⟩, ⟨⟨trivial, ⟨trivial, ⟨⟨(by first | decide | exact Int.NonNeg.mk _), h5⟩, ⟨h6, h7⟩⟩⟩⟩, ⟨⟨trivial, trivial⟩, ⟨trivial, trivial⟩⟩⟩⟩⟩⟩, ⟨⟨⟨trivial, trivial⟩, ⟨⟨trivial, trivial⟩, ⟨⟨trivial, trivial⟩, ⟨⟨trivial, ⟨trivial, ⟨h2, h3⟩⟩⟩, ⟨⟨trivial, trivial⟩, ⟨⟨trivial, trivial⟩, ⟨⟨trivial, ⟨trivial, ⟨rfl, ⟨⟨(by first | decide | exact Int.NonNeg.mk _), h8⟩, ⟨h9, h10⟩⟩⟩⟩⟩, ⟨⟨trivial, trivial⟩, trivial⟩⟩⟩⟩⟩⟩⟩⟩, ⟨⟨⟨trivial, trivial⟩, ⟨⟨trivial, trivial⟩, ⟨⟨trivial, trivial⟩, trivial⟩⟩⟩, trivial⟩⟩⟩⟩⟩⟩⟩, ⟨trivial, ⟨trivial, ⟨trivial, ⟨trivial, ⟨trivial, ⟨trivial, trivial⟩⟩⟩⟩⟩⟩⟩ hR
theorem inzb_0 (q : QG) (h1 : (decide (iN q.i < iN (List.map (AV.int IntKind.i64) q.l).length) = true)) (h2 : (0 ≤ iN q.i)) (h3 : ((List.map (AV.int IntKind.i64) q.l)[(iN q.i).toNat]? = some (AV.int IntKind.i64 q.e))) (h4 : (decide (q.x < q.e) = false)) (h5 : (1 ≤ [AV.int IntKind.i64 q.e].length)) (h6 : ([AV.int IntKind.i64 q.e].length ≤ 9223372036854775807)) (h7 : ([AV.int IntKind.i64 q.e].length * 8 ≤ 140737488355328)) {post : Exit → St → Prop} {R : St → Prop} (hR : ∀ st, Ren 0 st (St.mk 42 [(0, AV.lst (List.map (AV.int IntKind.i64) q.l)), (1, AV.int IntKind.i64 q.x), (5, AV.sl 0 0 [AV.int IntKind.i64 q.e].length), (6, AV.bool false), (7, AV.int IntKind.i64 (IntKind.i64.wrap (iN q.i + 1)))] [some (Blk.mk [AV.int IntKind.i64 q.e] 1 true true)]) → R st) : ∃ o' st' q', go Try.prog ({ dec := [(11, true), (22, false)], els := e25 q, calls := cG q, unroll := false } : HT) 0 4000 (.inl (loopC (bodyOf Try.f21) 0)) [] (lz25 q) = some (o', st', q') ∧ q' ∧ Go.AX.Rest Try.prog 0 (andThen R post) st' o' :=
  endN_spec (σ := [1]) (fz := []) (vars := [0,1,5,6,7]) (show endN 0 [1] [] [0,1,5,6,7] (go Try.prog ({ dec := [(11, true), (22, false)], els := e25 q, calls := cG q, unroll := false } : HT) 0 4000 (.inl (loopC (bodyOf Try.f21) 0)) [] (lz25 q)) = some (St.mk 42 [(0, AV.lst (List.map (AV.int IntKind.i64) q.l)), (1, AV.int IntKind.i64 q.x), (5, AV.sl 0 0 [AV.int IntKind.i64 q.e].length), (6, AV.bool false), (7, AV.int IntKind.i64 (IntKind.i64.wrap (iN q.i + 1)))] [some (Blk.mk [AV.int IntKind.i64 q.e] 1 true true)], ((((True ∧ True) ∧ ((True ∧ True) ∧ ((True ∧ True) ∧ ((True ∧ (True ∧ True)) ∧ True)))) ∧ ((type_of% h1) ∧ (((True ∧ True) ∧ ((True ∧ True) ∧ ((True ∧ True) ∧ ((True ∧ (True ∧ True)) ∧ ((True ∧ (True ∧ True)) ∧ ((True ∧ (True ∧ (True ∧ ((type_of% h2) ∧ (type_of% h3))))) ∧ ((True ∧ (True ∧ True)) ∧ ((True ∧ (True ∧ True)) ∧ ((True ∧ (True ∧ (True ∧ True))) ∧ ((True ∧ ((type_of% h4) ∧ True)) ∧ True)))))))))) ∧ (True ∧ (((True ∧ True) ∧ ((True ∧ True) ∧ ((True ∧ True) ∧ ((True ∧ (True ∧ ((type_of% h2) ∧ (type_of% h3)))) ∧ ((True ∧ True) ∧ ((True ∧ True) ∧ ((True ∧ (True ∧ (((nat_lit 1 = nat_lit 1) ∧ (type_of% h5)) ∧ ((type_of% h6) ∧ (type_of% h7))))) ∧ ((True ∧ True) ∧ True)))))))) ∧ (((True ∧ True) ∧ ((True ∧ True) ∧ ((True ∧ True) ∧ True))) ∧ True)))))) ∧ (True ∧ (True ∧ (True ∧ (True ∧ (True ∧ (True ∧ True)))))))) by kernel_rfl) ⟨⟨⟨⟨trivial, trivial⟩, ⟨⟨trivial, trivial⟩, ⟨⟨trivial, trivial⟩, ⟨⟨trivial, ⟨trivial, trivial⟩⟩, trivial⟩⟩⟩⟩, ⟨h1, ⟨⟨⟨trivial, trivial⟩, ⟨⟨trivial, trivial⟩, ⟨⟨trivial, trivial⟩, ⟨⟨trivial, ⟨trivial, trivial⟩⟩, ⟨⟨trivial, ⟨trivial, trivial⟩⟩, ⟨⟨trivial, ⟨trivial, ⟨trivial, ⟨h2, h3⟩⟩⟩⟩, ⟨⟨trivial, ⟨trivial, trivial⟩⟩, ⟨⟨trivial, ⟨trivial, trivial⟩⟩, ⟨⟨trivial, ⟨trivial, ⟨trivial, trivial⟩⟩⟩, ⟨⟨trivial, ⟨h4, trivial⟩⟩, trivial⟩⟩⟩⟩⟩⟩⟩⟩⟩⟩, ⟨trivial, ⟨⟨⟨trivial, trivial⟩, ⟨⟨trivial, trivial⟩, ⟨⟨trivial, trivial⟩, ⟨⟨trivial, ⟨trivial, ⟨h2, h3⟩⟩⟩, ⟨⟨trivial, trivial⟩, ⟨⟨trivial, trivial⟩, ⟨⟨trivial, ⟨trivial, ⟨⟨(by first | decide | exact Int.NonNeg.mk _), h5⟩, ⟨h6, h7⟩⟩⟩⟩, ⟨⟨trivial, trivial⟩, trivial⟩⟩⟩⟩⟩⟩⟩⟩, ⟨⟨⟨trivial, trivial⟩, ⟨⟨trivial, trivial⟩, ⟨⟨trivial, trivial⟩, trivial⟩⟩⟩, trivial⟩⟩⟩⟩⟩⟩, ⟨trivial, ⟨trivial, ⟨trivial, ⟨trivial, ⟨trivial, ⟨trivial, trivial⟩⟩⟩⟩⟩⟩⟩ hR
theorem inox_0 (q : QG) (h1 : (decide (iN q.i < iN (List.map (AV.int IntKind.i64) q.l).length) = false)) (h2 : ((!q.b) = true)) (h3 : ((List.map (AV.int IntKind.i64) q.o).length = q.o.length)) (h4 : (1 ≤ [AV.int IntKind.i64 q.x].length)) (h5 : ((List.map (AV.int IntKind.i64) q.o).length + [AV.int IntKind.i64 q.x].length ≤ 9223372036854775807)) (h6 : (((List.map (AV.int IntKind.i64) q.o).length + [AV.int IntKind.i64 q.x].length) * 8 ≤ 140737488355328)) (h7 : ((List.map (AV.int IntKind.i64) q.o).length + [AV.int IntKind.i64 q.x].length = (List.map (AV.int IntKind.i64) q.o ++ [AV.int IntKind.i64 q.x]).length)) : ∃ o' st' q', go2 Try.prog ({ dec := [(11, false), (36, true)], els := e25 q, calls := cG q, unroll := false } : HT) 0 4000 (loopC (bodyOf Try.f21) 0) (loopK (bodyOf Try.f21) 0) (lo25 q) = some (o', st', q') ∧ q' ∧ Go.AX.Rest Try.prog 0 (Fin Try.prog Try.f21 0 [] (AV.lst (List.map (AV.int IntKind.i64) q.o ++ [AV.int IntKind.i64 q.x]))) st' o' :=
  endF_spec (σ := []) (fz := [0,1,2,3]) (show endF Try.prog Try.f21 0 [] [0,1,2,3] (go2 Try.prog ({ dec := [(11, false), (36, true)], els := e25 q, calls := cG q, unroll := false } : HT) 0 4000 (loopC (bodyOf Try.f21) 0) (loopK (bodyOf Try.f21) 0) (lo25 q)) = some ([], AV.lst (List.map (AV.int IntKind.i64) q.o ++ [AV.int IntKind.i64 q.x]), (((((True ∧ True) ∧ ((True ∧ True) ∧ ((True ∧ True) ∧ ((True ∧ (True ∧ True)) ∧ True)))) ∧ ((type_of% h1) ∧ True)) ∧ (((True ∧ True) ∧ ((True ∧ True) ∧ True)) ∧ ((type_of% h2) ∧ (((True ∧ True) ∧ ((True ∧ True) ∧ ((True ∧ True) ∧ ((True ∧ (True ∧ ((type_of% h3) ∧ (((nat_lit 1 = nat_lit 1) ∧ (type_of% h4)) ∧ ((type_of% h5) ∧ (type_of% h6)))))) ∧ ((True ∧ True) ∧ True))))) ∧ (((True ∧ True) ∧ ((True ∧ True) ∧ True)) ∧ True))))) ∧ ((type_of% h7) ∧ True))) by kernel_rfl) ⟨⟨⟨⟨⟨trivial, trivial⟩, ⟨⟨trivial, trivial⟩, ⟨⟨trivial, trivial⟩, ⟨⟨trivial, ⟨trivial, trivial⟩⟩, trivial⟩⟩⟩⟩, ⟨h1, trivial⟩⟩, ⟨⟨⟨trivial, trivial⟩, ⟨⟨trivial, trivial⟩, trivial⟩⟩, ⟨h2, ⟨⟨⟨trivial, trivial⟩, ⟨⟨trivial, trivial⟩, ⟨⟨trivial, trivial⟩, ⟨⟨trivial, ⟨trivial, ⟨h3, ⟨⟨(by first | decide | exact Int.NonNeg.mk _), h4⟩, ⟨h5, h6⟩⟩⟩⟩⟩, ⟨⟨trivial, trivial⟩, trivial⟩⟩⟩⟩⟩, ⟨⟨⟨trivial, trivial⟩, ⟨⟨trivial, trivial⟩, trivial⟩⟩, trivial⟩⟩⟩⟩⟩, ⟨h7, trivial⟩⟩
theorem inox_1 (q : QG) (h1 : (decide (iN q.i < iN (List.map (AV.int IntKind.i64) q.l).length) = false)) (h2 : ((!q.b) = false)) (h3 : (q.o.length = (List.map (AV.int IntKind.i64) q.o).length)) : ∃ o' st' q', go2 Try.prog ({ dec := [(11, false), (36, false)], els := e25 q, calls := cG q, unroll := false } : HT) 0 4000 (loopC (bodyOf Try.f21) 0) (loopK (bodyOf Try.f21) 0) (lo25 q) = some (o', st', q') ∧ q' ∧ Go.AX.Rest Try.prog 0 (Fin Try.prog Try.f21 0 [] (AV.lst (List.map (AV.int IntKind.i64) q.o))) st' o' :=
  endF_spec (σ := []) (fz := [0,1,2,3]) (show endF Try.prog Try.f21 0 [] [0,1,2,3] (go2 Try.prog ({ dec := [(11, false), (36, false)], els := e25 q, calls := cG q, unroll := false } : HT) 0 4000 (loopC (bodyOf Try.f21) 0) (loopK (bodyOf Try.f21) 0) (lo25 q)) = some ([], AV.lst (List.map (AV.int IntKind.i64) q.o), (((((True ∧ True) ∧ ((True ∧ True) ∧ ((True ∧ True) ∧ ((True ∧ (True ∧ True)) ∧ True)))) ∧ ((type_of% h1) ∧ True)) ∧ (((True ∧ True) ∧ ((True ∧ True) ∧ True)) ∧ ((type_of% h2) ∧ (((True ∧ True) ∧ ((True ∧ True) ∧ True)) ∧ True)))) ∧ ((type_of% h3) ∧ True))) by kernel_rfl) ⟨⟨⟨⟨⟨trivial, trivial⟩, ⟨⟨trivial, trivial⟩, ⟨⟨trivial, trivial⟩, ⟨⟨trivial, ⟨trivial, trivial⟩⟩, trivial⟩⟩⟩⟩, ⟨h1, trivial⟩⟩, ⟨⟨⟨trivial, trivial⟩, ⟨⟨trivial, trivial⟩, trivial⟩⟩, ⟨h2, ⟨⟨⟨trivial, trivial⟩, ⟨⟨trivial, trivial⟩, trivial⟩⟩, trivial⟩⟩⟩⟩, ⟨h3, trivial⟩⟩
theorem inod_0 (q : QG) (h1 : (decide (iN q.i < iN (List.map (AV.int IntKind.i64) q.l).length) = true)) (h2 : ((!q.b) = false)) (h3 : (0 ≤ iN q.i)) (h4 : ((List.map (AV.int IntKind.i64) q.l)[(iN q.i).toNat]? = some (AV.int IntKind.i64 q.e))) (h5 : ((List.map (AV.int IntKind.i64) q.o).length = q.o.length)) (h6 : (1 ≤ [AV.int IntKind.i64 q.e].length)) (h7 : ((List.map (AV.int IntKind.i64) q.o).length + [AV.int IntKind.i64 q.e].length ≤ 9223372036854775807)) (h8 : (((List.map (AV.int IntKind.i64) q.o).length + [AV.int IntKind.i64 q.e].length) * 8 ≤ 140737488355328)) {post : Exit → St → Prop} {R : St → Prop} (hR : ∀ st, Ren 0 st (St.mk 42 [(0, AV.lst (List.map (AV.int IntKind.i64) q.l)), (1, AV.int IntKind.i64 q.x), (5, AV.sl 0 0 ((List.map (AV.int IntKind.i64) q.o).length + [AV.int IntKind.i64 q.e].length)), (6, AV.bool q.b), (7, AV.int IntKind.i64 (IntKind.i64.wrap (iN q.i + 1)))] [some (Blk.mk (List.map (AV.int IntKind.i64) q.o ++ [AV.int IntKind.i64 q.e]) 1 true true)]) → R st) : ∃ o' st' q', go Try.prog ({ dec := [(11, true), (15, false), (16, false), (23, false)], els := e25 q, calls := cG q, unroll := false } : HT) 0 4000 (.inl (loopC (bodyOf Try.f21) 0)) [] (lo25 q) = some (o', st', q') ∧ q' ∧ Go.AX.Rest Try.prog 0 (andThen R post) st' o' :=
  endN_spec (σ := [2]) (fz := []) (vars := [0,1,5,6,7]) (show endN 0 [2] [] [0,1,5,6,7] (go Try.prog ({ dec := [(11, true), (15, false), (16, false), (23, false)], els := e25 q, calls := cG q, unroll := false } : HT) 0 4000 (.inl (loopC (bodyOf Try.f21) 0)) [] (lo25 q)) = some (St.mk 42 [(0, AV.lst (List.map (AV.int IntKind.i64) q.l)), (1, AV.int IntKind.i64 q.x), (5, AV.sl 0 0 ((List.map (AV.int IntKind.i64) q.o).length + [AV.int IntKind.i64 q.e].length)), (6, AV.bool q.b), (7, AV.int IntKind.i64 (IntKind.i64.wrap (iN q.i + 1)))] [some (Blk.mk (List.map (AV.int IntKind.i64) q.o ++ [AV.int IntKind.i64 q.e]) 1 true true)], ((((True ∧ True) ∧ ((True ∧ True) ∧ ((True ∧ True) ∧ ((True ∧ (True ∧ True)) ∧ True)))) ∧ ((type_of% h1) ∧ (((True ∧ True) ∧ ((True ∧ True) ∧ (((type_of% h2) ∧ True) ∧ ((false = false) ∧ ((false = false) ∧ ((false = false) ∧ ((false = false) ∧ ((false = false) ∧ ((false = false) ∧ (((false = false) ∧ (True ∧ True)) ∧ True)))))))))) ∧ ((false = false) ∧ (((True ∧ True) ∧ ((True ∧ True) ∧ ((True ∧ True) ∧ ((True ∧ (True ∧ ((type_of% h3) ∧ (type_of% h4)))) ∧ ((True ∧ True) ∧ ((True ∧ True) ∧ ((True ∧ (True ∧ ((type_of% h5) ∧ (((nat_lit 1 = nat_lit 1) ∧ (type_of% h6)) ∧ ((type_of% h7) ∧ (type_of% h8)))))) ∧ ((True ∧ True) ∧ True)))))))) ∧ (((True ∧ True) ∧ ((True ∧ True) ∧ ((True ∧ True) ∧ True))) ∧ True)))))) ∧ (True ∧ (True ∧ (True ∧ (True ∧ (True ∧ (True ∧ True)))))))) by kernel_rfl) ⟨⟨⟨⟨trivial, trivial⟩, ⟨⟨trivial, trivial⟩, ⟨⟨trivial, trivial⟩, ⟨⟨trivial, ⟨trivial, trivial⟩⟩, trivial⟩⟩⟩⟩, ⟨h1, ⟨⟨⟨trivial, trivial⟩, ⟨⟨trivial, trivial⟩, ⟨⟨h2, trivial⟩, ⟨(by first | decide | exact Int.NonNeg.mk _), ⟨(by first | decide | exact Int.NonNeg.mk _), ⟨(by first | decide | exact Int.NonNeg.mk _), ⟨(by first | decide | exact Int.NonNeg.mk _), ⟨(by first | decide | exact Int.NonNeg.mk _), ⟨(by first | decide | exact Int.NonNeg.mk _), ⟨⟨(by first | decide | exact Int.NonNeg.mk _), ⟨trivial, trivial⟩⟩, trivial⟩⟩⟩⟩⟩⟩⟩⟩⟩⟩, ⟨(by first | decide | exact Int.NonNeg.mk _), ⟨⟨⟨trivial, trivial⟩, ⟨⟨trivial, trivial⟩, ⟨⟨trivial, trivial⟩, ⟨⟨trivial, ⟨trivial, ⟨h3, h4⟩⟩⟩, ⟨⟨trivial, trivial⟩, ⟨⟨trivial, trivial⟩, ⟨⟨trivial, ⟨trivial, ⟨h5, ⟨⟨(by first | decide | exact Int.NonNeg.mk _), h6⟩, ⟨h7, h8⟩⟩⟩⟩⟩, ⟨⟨trivial, trivial⟩, trivial⟩⟩⟩⟩⟩⟩⟩⟩, ⟨⟨⟨trivial, trivial⟩, ⟨⟨trivial, trivial⟩, ⟨⟨trivial, trivial⟩, trivial⟩⟩⟩, trivial⟩⟩⟩⟩⟩⟩, ⟨trivial, ⟨trivial, ⟨trivial, ⟨trivial, ⟨trivial, ⟨trivial, trivial⟩⟩⟩⟩⟩⟩⟩ hR
theorem inoa_0 (q : QG) (h1 : (decide (iN q.i < iN (List.map (AV.int IntKind.i64) q.l).length) = true)) (h2 : ((!q.b) = true)) (h3 : (0 ≤ iN q.i)) (h4 : ((List.map (AV.int IntKind.i64) q.l)[(iN q.i).toNat]? = some (AV.int IntKind.i64 q.e))) (h5 : (decide (q.x < q.e) = true)) (h6 : ((List.map (AV.int IntKind.i64) q.o).length = q.o.length)) (h7 : (1 ≤ [AV.int IntKind.i64 q.x].length)) (h8 : ((List.map (AV.int IntKind.i64) q.o).length + [AV.int IntKind.i64 q.x].length ≤ 9223372036854775807)) (h9 : (((List.map (AV.int IntKind.i64) q.o).length + [AV.int IntKind.i64 q.x].length) * 8 ≤ 140737488355328)) (h10 : ((List.map (AV.int IntKind.i64) q.o ++ [AV.int IntKind.i64 q.x]).length = (List.map (AV.int IntKind.i64) q.o).length + [AV.int IntKind.i64 q.x].length)) (h11 : (1 ≤ [AV.int IntKind.i64 q.e].length)) (h12 : ((List.map (AV.int IntKind.i64) q.o ++ [AV.int IntKind.i64 q.x]).length + [AV.int IntKind.i64 q.e].length ≤ 9223372036854775807)) (h13 : (((List.map (AV.int IntKind.i64) q.o ++ [AV.int IntKind.i64 q.x]).length + [AV.int IntKind.i64 q.e].length) * 8 ≤ 140737488355328)) {post : Exit → St → Prop} {R : St → Prop} (hR : ∀ st, Ren 0 st (St.mk 42 [(0, AV.lst (List.map (AV.int IntKind.i64) q.l)), (1, AV.int IntKind.i64 q.x), (5, AV.sl 0 0 ((List.map (AV.int IntKind.i64) q.o ++ [AV.int IntKind.i64 q.x]).length + [AV.int IntKind.i64 q.e].length)), (6, AV.bool true), (7, AV.int IntKind.i64 (IntKind.i64.wrap (iN q.i + 1)))] [some (Blk.mk (List.map (AV.int IntKind.i64) q.o ++ [AV.int IntKind.i64 q.x] ++ [AV.int IntKind.i64 q.e]) 1 true true)]) → R st) : ∃ o' st' q', go Try.prog ({ dec := [(11, true), (15, true), (16, true), (22, true), (23, true)], els := e25 q, calls := cG q, unroll := false } : HT) 0 4000 (.inl (loopC (bodyOf Try.f21) 0)) [] (lo25 q) = some (o', st', q') ∧ q' ∧ Go.AX.Rest Try.prog 0 (andThen R post) st' o' :=
  endN_spec (σ := [4]) (fz := []) (vars := [0,1,5,6,7]) (show endN 0 [4] [] [0,1,5,6,7] (go Try.prog ({ dec := [(11, true), (15, true), (16, true), (22, true), (23, true)], els := e25 q, calls := cG q, unroll := false } : HT) 0 4000 (.inl (loopC (bodyOf Try.f21) 0)) [] (lo25 q)) = some (St.mk 42 [(0, AV.lst (List.map (AV.int IntKind.i64) q.l)), (1, AV.int IntKind.i64 q.x), (5, AV.sl 0 0 ((List.map (AV.int IntKind.i64) q.o ++ [AV.int IntKind.i64 q.x]).length + [AV.int IntKind.i64 q.e].length)), (6, AV.bool true), (7, AV.int IntKind.i64 (IntKind.i64.wrap (iN q.i + 1)))] [some (Blk.mk (List.map (AV.int IntKind.i64) q.o ++ [AV.int IntKind.i64 q.x] ++ [AV.int IntKind.i64 q.e]) 1 true true)], ((((True ∧ True) ∧ ((True ∧ True) ∧ ((True ∧ True) ∧ ((True ∧ (True ∧ True)) ∧ True)))) ∧ ((type_of% h1) ∧ (((True ∧ True) ∧ ((True ∧ True) ∧ (((type_of% h2) ∧ True) ∧ (((true = true) ∧ (True ∧ True)) ∧ (((true = true) ∧ (True ∧ True)) ∧ (((true = true) ∧ (True ∧ (True ∧ ((type_of% h3) ∧ (type_of% h4))))) ∧ (((true = true) ∧ (True ∧ True)) ∧ (((true = true) ∧ (True ∧ True)) ∧ (((true = true) ∧ (True ∧ (True ∧ True))) ∧ (((true = true) ∧ ((type_of% h5) ∧ True)) ∧ True)))))))))) ∧ ((true = true) ∧ (((True ∧ True) ∧ ((True ∧ True) ∧ ((True ∧ True) ∧ ((True ∧ (True ∧ ((type_of% h6) ∧ (((nat_lit 1 = nat_lit 1) ∧ (type_of% h7)) ∧ ((type_of% h8) ∧ (type_of% h9)))))) ∧ ((True ∧ True) ∧ (True ∧ True)))))) ∧ (((True ∧ True) ∧ ((True ∧ True) ∧ ((True ∧ True) ∧ ((True ∧ (True ∧ ((type_of% h3) ∧ (type_of% h4)))) ∧ ((True ∧ True) ∧ ((True ∧ True) ∧ ((True ∧ (True ∧ ((type_of% h10) ∧ (((nat_lit 1 = nat_lit 1) ∧ (type_of% h11)) ∧ ((type_of% h12) ∧ (type_of% h13)))))) ∧ ((True ∧ True) ∧ True)))))))) ∧ (((True ∧ True) ∧ ((True ∧ True) ∧ ((True ∧ True) ∧ True))) ∧ True))))))) ∧ (True ∧ (True ∧ (True ∧ (True ∧ (True ∧ (True ∧ True)))))))) by kernel_rfl) ⟨⟨⟨⟨trivial, trivial⟩, ⟨⟨trivial, trivial⟩, ⟨⟨trivial, trivial⟩, ⟨⟨trivial, ⟨trivial, trivial⟩⟩, trivial⟩⟩⟩⟩, ⟨h1, ⟨⟨⟨trivial, trivial⟩, ⟨⟨trivial, trivial⟩, ⟨⟨h2, trivial⟩, ⟨⟨(by first | decide | exact Int.NonNeg.mk _), ⟨trivial, trivial⟩⟩, ⟨⟨(by first | decide | exact Int.NonNeg.mk _), ⟨trivial, trivial⟩⟩, ⟨⟨(by first | decide | exact Int.NonNeg.mk _), ⟨trivial, ⟨trivial, ⟨h3, h4⟩⟩⟩⟩, ⟨⟨(by first | decide | exact Int.NonNeg.mk _), ⟨trivial, trivial⟩⟩, ⟨⟨(by first | decide | exact Int.NonNeg.mk _), ⟨trivial, trivial⟩⟩, ⟨⟨(by first | decide | exact Int.NonNeg.mk _), ⟨trivial, ⟨trivial, trivial⟩⟩⟩, ⟨⟨(by first | decide | exact Int.NonNeg.mk _), ⟨h5, trivial⟩⟩, trivial⟩⟩⟩⟩⟩⟩⟩⟩⟩⟩, ⟨(by first | decide | exact Int.NonNeg.mk _), ⟨⟨⟨trivial, trivial⟩, ⟨⟨trivial, trivial⟩, ⟨⟨trivial, trivial⟩, ⟨⟨trivial, ⟨trivial, ⟨h6, ⟨⟨(by first | decide | exact Int.NonNeg.mk _), h7⟩, ⟨h8, h9⟩⟩⟩⟩⟩, ⟨⟨trivial, trivial⟩, ⟨trivial, trivial⟩⟩⟩⟩⟩⟩, ⟨⟨⟨trivial, trivial⟩, ⟨⟨trivial, trivial⟩, ⟨⟨trivial, trivial⟩, ⟨⟨trivial, ⟨trivial, ⟨h3, h4⟩⟩⟩, ⟨⟨trivial, trivial⟩, ⟨⟨trivial, trivial⟩, ⟨⟨trivial, ⟨trivial, ⟨h10, ⟨⟨(by first | decide | exact Int.NonNeg.mk _), h11⟩, ⟨h12, h13⟩⟩⟩⟩⟩, ⟨⟨trivial, trivial⟩, trivial⟩⟩⟩⟩⟩⟩⟩⟩, ⟨⟨⟨trivial, trivial⟩, ⟨⟨trivial, trivial⟩, ⟨⟨trivial, trivial⟩, trivial⟩⟩⟩, trivial⟩⟩⟩⟩⟩⟩⟩, ⟨trivial, ⟨trivial, ⟨trivial, ⟨trivial, ⟨trivial, ⟨trivial, trivial⟩⟩⟩⟩⟩⟩⟩ hR
theorem inob_0 (q : QG) (h1 : (decide (iN q.i < iN (List.map (AV.int IntKind.i64) q.l).length) = true)) (h2 : ((!q.b) = true)) (h3 : (0 ≤ iN q.i)) (h4 : ((List.map (AV.int IntKind.i64) q.l)[(iN q.i).toNat]? = some (AV.int IntKind.i64 q.e))) (h5 : (decide (q.x < q.e) = false)) (h6 : ((List.map (AV.int IntKind.i64) q.o).length = q.o.length)) (h7 : (1 ≤ [AV.int IntKind.i64 q.e].length)) (h8 : ((List.map (AV.int IntKind.i64) q.o).length + [AV.int IntKind.i64 q.e].length ≤ 9223372036854775807)) (h9 : (((List.map (AV.int IntKind.i64) q.o).length + [AV.int IntKind.i64 q.e].length) * 8 ≤ 140737488355328)) {post : Exit → St → Prop} {R : St → Prop} (hR : ∀ st, Ren 0 st (St.mk 42 [(0, AV.lst (List.map (AV.int IntKind.i64) q.l)), (1, AV.int IntKind.i64 q.x), (5, AV.sl 0 0 ((List.map (AV.int IntKind.i64) q.o).length + [AV.int IntKind.i64 q.e].length)), (6, AV.bool q.b), (7, AV.int IntKind.i64 (IntKind.i64.wrap (iN q.i + 1)))] [some (Blk.mk (List.map (AV.int IntKind.i64) q.o ++ [AV.int IntKind.i64 q.e]) 1 true true)]) → R st) : ∃ o' st' q', go Try.prog ({ dec := [(11, true), (15, true), (16, true), (22, false), (23, false)], els := e25 q, calls := cG q, unroll := false } : HT) 0 4000 (.inl (loopC (bodyOf Try.f21) 0)) [] (lo25 q) = some (o', st', q') ∧ q' ∧ Go.AX.Rest Try.prog 0 (andThen R post) st' o' :=
  endN_spec (σ := [2]) (fz := []) (vars := [0,1,5,6,7]) (show endN 0 [2] [] [0,1,5,6,7] (go Try.prog ({ dec := [(11, true), (15, true), (16, true), (22, false), (23, false)], els := e25 q, calls := cG q, unroll := false } : HT) 0 4000 (.inl (loopC (bodyOf Try.f21) 0)) [] (lo25 q)) = some (St.mk 42 [(0, AV.lst (List.map (AV.int IntKind.i64) q.l)), (1, AV.int IntKind.i64 q.x), (5, AV.sl 0 0 ((List.map (AV.int IntKind.i64) q.o).length + [AV.int IntKind.i64 q.e].length)), (6, AV.bool q.b), (7, AV.int IntKind.i64 (IntKind.i64.wrap (iN q.i + 1)))] [some (Blk.mk (List.map (AV.int IntKind.i64) q.o ++ [AV.int IntKind.i64 q.e]) 1 true true)], ((((True ∧ True) ∧ ((True ∧ True) ∧ ((True ∧ True) ∧ ((True ∧ (True ∧ True)) ∧ True)))) ∧ ((type_of% h1) ∧ (((True ∧ True) ∧ ((True ∧ True) ∧ (((type_of% h2) ∧ True) ∧ (((true = true) ∧ (True ∧ True)) ∧ (((true = true) ∧ (True ∧ True)) ∧ (((true = true) ∧ (True ∧ (True ∧ ((type_of% h3) ∧ (type_of% h4))))) ∧ (((true = true) ∧ (True ∧ True)) ∧ (((true = true) ∧ (True ∧ True)) ∧ (((true = true) ∧ (True ∧ (True ∧ True))) ∧ (((true = true) ∧ ((type_of% h5) ∧ True)) ∧ True)))))))))) ∧ ((false = false) ∧ (((True ∧ True) ∧ ((True ∧ True) ∧ ((True ∧ True) ∧ ((True ∧ (True ∧ ((type_of% h3) ∧ (type_of% h4)))) ∧ ((True ∧ True) ∧ ((True ∧ True) ∧ ((True ∧ (True ∧ ((type_of% h6) ∧ (((nat_lit 1 = nat_lit 1) ∧ (type_of% h7)) ∧ ((type_of% h8) ∧ (type_of% h9)))))) ∧ ((True ∧ True) ∧ True)))))))) ∧ (((True ∧ True) ∧ ((True ∧ True) ∧ ((True ∧ True) ∧ True))) ∧ True)))))) ∧ (True ∧ (True ∧ (True ∧ (True ∧ (True ∧ (True ∧ True)))))))) by kernel_rfl) ⟨⟨⟨⟨trivial, trivial⟩, ⟨⟨trivial, trivial⟩, ⟨⟨trivial, trivial⟩, ⟨⟨trivial, ⟨trivial, trivial⟩⟩, trivial⟩⟩⟩⟩, ⟨h1, ⟨⟨⟨trivial, trivial⟩, ⟨⟨trivial, trivial⟩, ⟨⟨h2, trivial⟩, ⟨⟨(by first | decide | exact Int.NonNeg.mk _), ⟨trivial, trivial⟩⟩, ⟨⟨(by first | decide | exact Int.NonNeg.mk _), ⟨trivial, trivial⟩⟩, ⟨⟨(by first | decide | exact Int.NonNeg.mk _), ⟨trivial, ⟨trivial, ⟨h3, h4⟩⟩⟩⟩, ⟨⟨(by first | decide | exact Int.NonNeg.mk _), ⟨trivial, trivial⟩⟩, ⟨⟨(by first | decide | exact Int.NonNeg.mk _), ⟨trivial, trivial⟩⟩, ⟨⟨(by first | decide | exact Int.NonNeg.mk _), ⟨trivial, ⟨trivial, trivial⟩⟩⟩, ⟨⟨(by first | decide | exact Int.NonNeg.mk _), ⟨h5, trivial⟩⟩, trivial⟩⟩⟩⟩⟩⟩⟩⟩⟩⟩, ⟨(by first | decide | exact Int.NonNeg.mk _), ⟨⟨⟨trivial, trivial⟩, ⟨⟨trivial, trivial⟩, ⟨⟨trivial, trivial⟩, ⟨⟨trivial, ⟨trivial, ⟨h3, h4⟩⟩⟩, ⟨⟨trivial, trivial⟩, ⟨⟨trivial, trivial⟩, ⟨⟨trivial, ⟨trivial, ⟨h6, ⟨⟨(by first | decide | exact Int.NonNeg.mk _), h7⟩, ⟨h8, h9⟩⟩⟩⟩⟩, ⟨⟨trivial, trivial⟩, trivial⟩⟩⟩⟩⟩⟩⟩⟩, ⟨⟨⟨trivial, trivial⟩, ⟨⟨trivial, trivial⟩, ⟨⟨trivial, trivial⟩, trivial⟩⟩⟩, trivial⟩⟩⟩⟩⟩⟩, ⟨trivial, ⟨trivial, ⟨trivial, ⟨trivial, ⟨trivial, ⟨trivial, trivial⟩⟩⟩⟩⟩⟩⟩ hR
theorem gr_0 (q : QG) (h1 : (CT Try.prog 11 [some (Blk.mk [AV.agg [AV.lst (List.map (AV.int IntKind.i64) q.L), AV.int IntKind.i64 (iN q.kk)]] 2 true true)] [AV.ptr 0 0 0, AV.int IntKind.i64 (IntKind.i64.wrap (q.x + 1))] [some (Blk.mk [AV.agg [AV.lst (List.map (AV.int IntKind.i64) q.L), AV.int IntKind.i64 (iN (q.kk + 1))]] 2 true true)] (AV.int IntKind.i64 (iN q.n)))) (h2 : (0 ≤ iN q.n)) (h3 : (iN q.n ≤ iN q.n)) (h4 : (24 * iN q.n ≤ 281474976710656)) (h5 : (iN q.n ≤ 9223372036854775807)) (h6 : (CT Try.prog 11 [some (Blk.mk [AV.agg [AV.lst (List.map (AV.int IntKind.i64) q.L), AV.int IntKind.i64 (iN (q.kk + 1))]] 2 true true)] [AV.ptr 0 0 0, AV.int IntKind.i64 (IntKind.i64.wrap (IntKind.i64.wrap (3 * iN q.n) + 1))] [some (Blk.mk [AV.agg [AV.lst (List.map (AV.int IntKind.i64) q.L), AV.int IntKind.i64 (iN (q.kk + 1 + 1))]] 2 true true)] (AV.int IntKind.i64 q.k))) {post : Exit → St → Prop} (ht : T Try.prog 1 (.loop (loopC (bodyOf Try.f9) 0)) (St.mk 53 [(0, AV.ptr 0 0 0), (5, AV.int IntKind.i64 (iN q.n)), (6, AV.sl 1 0 (iN q.n).toNat), (7, AV.int IntKind.i64 q.k)] [some (Blk.mk [AV.agg [AV.lst (List.map (AV.int IntKind.i64) q.L), AV.int IntKind.i64 (iN (q.kk + 1 + 1))]] 2 true true), some (Blk.mk (List.replicate (iN q.n).toNat AV.nils) 1 true true)]) (TK Try.prog 1 post (loopK (bodyOf Try.f9) 0))) : ∃ o' st' q', go Try.prog ({ dec := [], els := e9 q, calls := cG q, unroll := false } : HT) 1 4000 (.inl (bodyOf Try.f9)) [] (st9 q) = some (o', st', q') ∧ q' ∧ Go.AX.Rest Try.prog 1 post st' o' :=
  endR_spec (σ := [0,1]) (fz := []) (vars := [0,5,6,7]) (show endR 1 [0,1] [] [0,5,6,7] (go Try.prog ({ dec := [], els := e9 q, calls := cG q, unroll := false } : HT) 1 4000 (.inl (bodyOf Try.f9)) [] (st9 q)) = some (loopC (bodyOf Try.f9) 0, loopK (bodyOf Try.f9) 0, St.mk 53 [(0, AV.ptr 0 0 0), (5, AV.int IntKind.i64 (iN q.n)), (6, AV.sl 1 0 (iN q.n).toNat), (7, AV.int IntKind.i64 q.k)] [some (Blk.mk [AV.agg [AV.lst (List.map (AV.int IntKind.i64) q.L), AV.int IntKind.i64 (iN (q.kk + 1 + 1))]] 2 true true), some (Blk.mk (List.replicate (iN q.n).toNat AV.nils) 1 true true)], (((True ∧ True) ∧ (((True ∧ True) ∧ ((True ∧ True) ∧ ((True ∧ True) ∧ ((True ∧ (True ∧ (True ∧ (True ∧ (True ∧ ((type_of% h1) ∧ True)))))) ∧ ((True ∧ True) ∧ True))))) ∧ (((True ∧ True) ∧ ((True ∧ (True ∧ ((type_of% h2) ∧ ((type_of% h3) ∧ ((type_of% h4) ∧ (type_of% h5)))))) ∧ ((True ∧ True) ∧ True))) ∧ (((True ∧ True) ∧ ((True ∧ True) ∧ ((True ∧ True) ∧ ((True ∧ True) ∧ ((True ∧ (True ∧ (True ∧ (True ∧ (True ∧ ((type_of% h6) ∧ True)))))) ∧ ((True ∧ True) ∧ True)))))) ∧ True)))) ∧ (True ∧ (True ∧ (True ∧ (True ∧ (True ∧ (True ∧ True)))))))) by kernel_rfl) ⟨⟨⟨trivial, trivial⟩, ⟨⟨⟨trivial, trivial⟩, ⟨⟨trivial, trivial⟩, ⟨⟨trivial, trivial⟩, ⟨⟨trivial, ⟨trivial, ⟨trivial, ⟨trivial, ⟨trivial, ⟨h1, trivial⟩⟩⟩⟩⟩⟩, ⟨⟨trivial, trivial⟩, trivial⟩⟩⟩⟩⟩, ⟨⟨⟨trivial, trivial⟩, ⟨⟨trivial, ⟨trivial, ⟨h2, ⟨h3, ⟨h4, h5⟩⟩⟩⟩⟩, ⟨⟨trivial, trivial⟩, trivial⟩⟩⟩, ⟨⟨⟨trivial, trivial⟩, ⟨⟨trivial, trivial⟩, ⟨⟨trivial, trivial⟩, ⟨⟨trivial, trivial⟩, ⟨⟨trivial, ⟨trivial, ⟨trivial, ⟨trivial, ⟨trivial, ⟨h6, trivial⟩⟩⟩⟩⟩⟩, ⟨⟨trivial, trivial⟩, trivial⟩⟩⟩⟩⟩⟩, trivial⟩⟩⟩⟩, ⟨trivial, ⟨trivial, ⟨trivial, ⟨trivial, ⟨trivial, ⟨trivial, trivial⟩⟩⟩⟩⟩⟩⟩ ht
theorem grx_0 (q : QG) (h1 : (decide (0 < q.k) = false)) (h2 : (q.n = (gL q.g).length)) : ∃ o' st' q', go2 Try.prog ({ dec := [(22, false)], els := e9 q, calls := cG q, unroll := false } : HT) 1 4000 (loopC (bodyOf Try.f9) 0) (loopK (bodyOf Try.f9) 0) (lo9 q) = some (o', st', q') ∧ q' ∧ Go.AX.Rest Try.prog 1 (Fin Try.prog Try.f9 1 [some (Blk.mk [AV.agg [AV.lst (List.map (AV.int IntKind.i64) q.L), AV.int IntKind.i64 (iN q.kk)]] 2 true true)] (AV.lst (gL q.g))) st' o' :=
  endF_spec (σ := [0]) (fz := [1]) (show endF Try.prog Try.f9 1 [0] [1] (go2 Try.prog ({ dec := [(22, false)], els := e9 q, calls := cG q, unroll := false } : HT) 1 4000 (loopC (bodyOf Try.f9) 0) (loopK (bodyOf Try.f9) 0) (lo9 q)) = some ([some (Blk.mk [AV.agg [AV.lst (List.map (AV.int IntKind.i64) q.L), AV.int IntKind.i64 (iN q.kk)]] 2 true true)], AV.lst (gL q.g), (((((True ∧ True) ∧ ((True ∧ True) ∧ True)) ∧ ((type_of% h1) ∧ True)) ∧ (((True ∧ True) ∧ ((True ∧ True) ∧ True)) ∧ True)) ∧ ((type_of% h2) ∧ (True ∧ True)))) by kernel_rfl) ⟨⟨⟨⟨⟨trivial, trivial⟩, ⟨⟨trivial, trivial⟩, trivial⟩⟩, ⟨h1, trivial⟩⟩, ⟨⟨⟨trivial, trivial⟩, ⟨⟨trivial, trivial⟩, trivial⟩⟩, trivial⟩⟩, ⟨h2, ⟨trivial, trivial⟩⟩⟩
theorem grr_0 (q : QG) (h1 : (decide (0 < q.k) = true)) (h2 : (CT Try.prog 11 [some (Blk.mk [AV.agg [AV.lst (List.map (AV.int IntKind.i64) q.L), AV.int IntKind.i64 (iN q.kk)]] 2 true true)] [AV.ptr 0 0 0, AV.int IntKind.i64 (iN q.n)] [some (Blk.mk [AV.agg [AV.lst (List.map (AV.int IntKind.i64) q.L), AV.int IntKind.i64 (iN (q.kk + 1))]] 2 true true)] (AV.int IntKind.i64 (iN q.v)))) (h3 : (CT Try.prog 11 [some (Blk.mk [AV.agg [AV.lst (List.map (AV.int IntKind.i64) q.L), AV.int IntKind.i64 (iN (q.kk + 1))]] 2 true true)] [AV.ptr 0 0 0, AV.int IntKind.i64 (iN q.n)] [some (Blk.mk [AV.agg [AV.lst (List.map (AV.int IntKind.i64) q.L), AV.int IntKind.i64 (iN (q.kk + 1 + 1))]] 2 true true)] (AV.int IntKind.i64 (iN q.w)))) (h4 : ((iN q.v != iN q.w) = true)) (h5 : (0 ≤ iN q.v)) (h6 : (iN q.v < iN q.n)) (h7 : ((gL q.g)[0 + (iN q.v).toNat]? = some (AV.lst (List.map (AV.int IntKind.i64) q.l)))) (h8 : (CT Try.prog 19 [] [AV.lst (List.map (AV.int IntKind.i64) q.l), AV.int IntKind.i64 (iN q.w)] [] (AV.bool q.b))) (h9 : ((!q.b) = true)) (h10 : (CT Try.prog 21 [] [AV.lst (List.map (AV.int IntKind.i64) q.l), AV.int IntKind.i64 (iN q.w)] [] (AV.lst (List.map (AV.int IntKind.i64) q.o)))) (h11 : ((0 + (iN q.v).toNat).succ.le (gL q.g).length)) {post : Exit → St → Prop} {R : St → Prop} (hR : ∀ st, Ren 1 st (St.mk 53 [(0, AV.ptr 0 0 0), (5, AV.int IntKind.i64 (iN q.n)), (6, AV.sl 1 0 q.n), (7, AV.int IntKind.i64 (IntKind.i64.wrap (q.k - 1)))] [some (Blk.mk [AV.agg [AV.lst (List.map (AV.int IntKind.i64) q.L), AV.int IntKind.i64 (iN (q.kk + 1 + 1))]] 2 true true), some (Blk.mk ((gL q.g).set (0 + (iN q.v).toNat) (AV.lst (List.map (AV.int IntKind.i64) q.o))) 1 true true)]) → R st) : ∃ o' st' q', go Try.prog ({ dec := [(22, true), (34, true), (42, true)], els := e9 q, calls := cG q, unroll := false } : HT) 1 4000 (.inl (loopC (bodyOf Try.f9) 0)) [] (lo9 q) = some (o', st', q') ∧ q' ∧ Go.AX.Rest Try.prog 1 (andThen R post) st' o' :=
  endN_spec (σ := [0,1]) (fz := []) (vars := [0,5,6,7]) (show endN 1 [0,1] [] [0,5,6,7] (go Try.prog ({ dec := [(22, true), (34, true), (42, true)], els := e9 q, calls := cG q, unroll := false } : HT) 1 4000 (.inl (loopC (bodyOf Try.f9) 0)) [] (lo9 q)) = some (St.mk 53 [(0, AV.ptr 0 0 0), (5, AV.int IntKind.i64 (iN q.n)), (6, AV.sl 1 0 q.n), (7, AV.int IntKind.i64 (IntKind.i64.wrap (q.k - 1)))] [some (Blk.mk [AV.agg [AV.lst (List.map (AV.int IntKind.i64) q.L), AV.int IntKind.i64 (iN (q.kk + 1 + 1))]] 2 true true), some (Blk.mk ((gL q.g).set (0 + (iN q.v).toNat) (AV.lst (List.map (AV.int IntKind.i64) q.o))) 1 true true)], ((((True ∧ True) ∧ ((True ∧ True) ∧ True)) ∧ ((type_of% h1) ∧ (((True ∧ True) ∧ ((True ∧ True) ∧ ((True ∧ (True ∧ (True ∧ (True ∧ (True ∧ ((type_of% h2) ∧ True)))))) ∧ ((True ∧ True) ∧ ((True ∧ True) ∧ ((True ∧ (True ∧ (True ∧ (True ∧ (True ∧ ((type_of% h3) ∧ True)))))) ∧ ((True ∧ True) ∧ ((True ∧ True) ∧ True)))))))) ∧ (((True ∧ True) ∧ ((True ∧ True) ∧ ((True ∧ (True ∧ True)) ∧ ((True ∧ True) ∧ (((type_of% h4) ∧ (True ∧ True)) ∧ (((type_of% h4) ∧ (True ∧ True)) ∧ (((type_of% h4) ∧ (True ∧ (True ∧ ((type_of% h5) ∧ (type_of% h6))))) ∧ (((type_of% h4) ∧ (True ∧ (type_of% h7))) ∧ (((type_of% h4) ∧ (True ∧ True)) ∧ (((type_of% h4) ∧ (True ∧ (True ∧ (True ∧ (True ∧ ((type_of% h8) ∧ True)))))) ∧ (((type_of% h4) ∧ (True ∧ True)) ∧ (((type_of% h4) ∧ (True ∧ True)) ∧ True)))))))))))) ∧ ((type_of% h9) ∧ (((True ∧ True) ∧ ((True ∧ True) ∧ ((True ∧ True) ∧ ((True ∧ True) ∧ ((True ∧ (True ∧ ((type_of% h5) ∧ (type_of% h6)))) ∧ ((True ∧ (type_of% h7)) ∧ ((True ∧ True) ∧ ((True ∧ (True ∧ (True ∧ (True ∧ ((type_of% h10) ∧ True))))) ∧ ((True ∧ (True ∧ ((type_of% h5) ∧ (type_of% h6)))) ∧ ((True ∧ (True ∧ (type_of% h11))) ∧ True)))))))))) ∧ (((True ∧ True) ∧ ((True ∧ True) ∧ ((True ∧ True) ∧ True))) ∧ True))))))) ∧ (True ∧ (True ∧ (True ∧ (True ∧ (True ∧ (True ∧ True)))))))) by kernel_rfl) ⟨⟨⟨⟨trivial, trivial⟩, ⟨⟨trivial, trivial⟩, trivial⟩⟩, ⟨h1, ⟨⟨⟨trivial, trivial⟩, ⟨⟨trivial, trivial⟩, ⟨⟨trivial, ⟨trivial, ⟨trivial, ⟨trivial, ⟨trivial, ⟨h2, trivial⟩⟩⟩⟩⟩⟩, ⟨⟨trivial, trivial⟩, ⟨⟨trivial, trivial⟩, ⟨⟨trivial, ⟨trivial, ⟨trivial, ⟨trivial, ⟨trivial, ⟨h3, trivial⟩⟩⟩⟩⟩⟩, ⟨⟨trivial, trivial⟩, ⟨⟨trivial, trivial⟩, trivial⟩⟩⟩⟩⟩⟩⟩⟩, ⟨⟨⟨trivial, trivial⟩, ⟨⟨trivial, trivial⟩, ⟨⟨trivial, ⟨trivial, trivial⟩⟩, ⟨⟨trivial, trivial⟩, ⟨⟨h4, ⟨trivial, trivial⟩⟩, ⟨⟨h4, ⟨trivial, trivial⟩⟩, ⟨⟨h4, ⟨trivial, ⟨trivial, ⟨h5, h6⟩⟩⟩⟩, ⟨⟨h4, ⟨trivial, h7⟩⟩, ⟨⟨h4, ⟨trivial, trivial⟩⟩, ⟨⟨h4, ⟨trivial, ⟨trivial, ⟨trivial, ⟨trivial, ⟨h8, trivial⟩⟩⟩⟩⟩⟩, ⟨⟨h4, ⟨trivial, trivial⟩⟩, ⟨⟨h4, ⟨trivial, trivial⟩⟩, trivial⟩⟩⟩⟩⟩⟩⟩⟩⟩⟩⟩⟩, ⟨h9, ⟨⟨⟨trivial, trivial⟩, ⟨⟨trivial, trivial⟩, ⟨⟨trivial, trivial⟩, ⟨⟨trivial, trivial⟩, ⟨⟨trivial, ⟨trivial, ⟨h5, h6⟩⟩⟩, ⟨⟨trivial, h7⟩, ⟨⟨trivial, trivial⟩, ⟨⟨trivial, ⟨trivial, ⟨trivial, ⟨trivial, ⟨h10, trivial⟩⟩⟩⟩⟩, ⟨⟨trivial, ⟨trivial, ⟨h5, h6⟩⟩⟩, ⟨⟨trivial, ⟨trivial, h11⟩⟩, trivial⟩⟩⟩⟩⟩⟩⟩⟩⟩⟩, ⟨⟨⟨trivial, trivial⟩, ⟨⟨trivial, trivial⟩, ⟨⟨trivial, trivial⟩, trivial⟩⟩⟩, trivial⟩⟩⟩⟩⟩⟩⟩, ⟨trivial, ⟨trivial, ⟨trivial, ⟨trivial, ⟨trivial, ⟨trivial, trivial⟩⟩⟩⟩⟩⟩⟩ hR
theorem grr_1 (q : QG) (h1 : (decide (0 < q.k) = true)) (h2 : (CT Try.prog 11 [some (Blk.mk [AV.agg [AV.lst (List.map (AV.int IntKind.i64) q.L), AV.int IntKind.i64 (iN q.kk)]] 2 true true)] [AV.ptr 0 0 0, AV.int IntKind.i64 (iN q.n)] [some (Blk.mk [AV.agg [AV.lst (List.map (AV.int IntKind.i64) q.L), AV.int IntKind.i64 (iN (q.kk + 1))]] 2 true true)] (AV.int IntKind.i64 (iN q.v)))) (h3 : (CT Try.prog 11 [some (Blk.mk [AV.agg [AV.lst (List.map (AV.int IntKind.i64) q.L), AV.int IntKind.i64 (iN (q.kk + 1))]] 2 true true)] [AV.ptr 0 0 0, AV.int IntKind.i64 (iN q.n)] [some (Blk.mk [AV.agg [AV.lst (List.map (AV.int IntKind.i64) q.L), AV.int IntKind.i64 (iN (q.kk + 1 + 1))]] 2 true true)] (AV.int IntKind.i64 (iN q.w)))) (h4 : ((iN q.v != iN q.w) = true)) (h5 : (0 ≤ iN q.v)) (h6 : (iN q.v < iN q.n)) (h7 : ((gL q.g)[0 + (iN q.v).toNat]? = some (AV.lst (List.map (AV.int IntKind.i64) q.l)))) (h8 : (CT Try.prog 19 [] [AV.lst (List.map (AV.int IntKind.i64) q.l), AV.int IntKind.i64 (iN q.w)] [] (AV.bool q.b))) (h9 : ((!q.b) = false)) {post : Exit → St → Prop} {R : St → Prop} (hR : ∀ st, Ren 1 st (St.mk 53 [(0, AV.ptr 0 0 0), (5, AV.int IntKind.i64 (iN q.n)), (6, AV.sl 1 0 q.n), (7, AV.int IntKind.i64 (IntKind.i64.wrap (q.k - 1)))] [some (Blk.mk [AV.agg [AV.lst (List.map (AV.int IntKind.i64) q.L), AV.int IntKind.i64 (iN (q.kk + 1 + 1))]] 2 true true), some (Blk.mk (gL q.g) 1 true true)]) → R st) : ∃ o' st' q', go Try.prog ({ dec := [(22, true), (34, true), (42, false)], els := e9 q, calls := cG q, unroll := false } : HT) 1 4000 (.inl (loopC (bodyOf Try.f9) 0)) [] (lo9 q) = some (o', st', q') ∧ q' ∧ Go.AX.Rest Try.prog 1 (andThen R post) st' o' :=
  endN_spec (σ := [0,1]) (fz := []) (vars := [0,5,6,7]) (show endN 1 [0,1] [] [0,5,6,7] (go Try.prog ({ dec := [(22, true), (34, true), (42, false)], els := e9 q, calls := cG q, unroll := false } : HT) 1 4000 (.inl (loopC (bodyOf Try.f9) 0)) [] (lo9 q)) = some (St.mk 53 [(0, AV.ptr 0 0 0), (5, AV.int IntKind.i64 (iN q.n)), (6, AV.sl 1 0 q.n), (7, AV.int IntKind.i64 (IntKind.i64.wrap (q.k - 1)))] [some (Blk.mk [AV.agg [AV.lst (List.map (AV.int IntKind.i64) q.L), AV.int IntKind.i64 (iN (q.kk + 1 + 1))]] 2 true true), some (Blk.mk (gL q.g) 1 true true)], ((((True ∧ True) ∧ ((True ∧ True) ∧ True)) ∧ ((type_of% h1) ∧ (((True ∧ True) ∧ ((True ∧ True) ∧ ((True ∧ (True ∧ (True ∧ (True ∧ (True ∧ ((type_of% h2) ∧ True)))))) ∧ ((True ∧ True) ∧ ((True ∧ True) ∧ ((True ∧ (True ∧ (True ∧ (True ∧ (True ∧ ((type_of% h3) ∧ True)))))) ∧ ((True ∧ True) ∧ ((True ∧ True) ∧ True)))))))) ∧ (((True ∧ True) ∧ ((True ∧ True) ∧ ((True ∧ (True ∧ True)) ∧ ((True ∧ True) ∧ (((type_of% h4) ∧ (True ∧ True)) ∧ (((type_of% h4) ∧ (True ∧ True)) ∧ (((type_of% h4) ∧ (True ∧ (True ∧ ((type_of% h5) ∧ (type_of% h6))))) ∧ (((type_of% h4) ∧ (True ∧ (type_of% h7))) ∧ (((type_of% h4) ∧ (True ∧ True)) ∧ (((type_of% h4) ∧ (True ∧ (True ∧ (True ∧ (True ∧ ((type_of% h8) ∧ True)))))) ∧ (((type_of% h4) ∧ (True ∧ True)) ∧ (((type_of% h4) ∧ (True ∧ True)) ∧ True)))))))))))) ∧ ((type_of% h9) ∧ (((True ∧ True) ∧ ((True ∧ True) ∧ ((True ∧ True) ∧ True))) ∧ True)))))) ∧ (True ∧ (True ∧ (True ∧ (True ∧ (True ∧ (True ∧ True)))))))) by kernel_rfl) ⟨⟨⟨⟨trivial, trivial⟩, ⟨⟨trivial, trivial⟩, trivial⟩⟩, ⟨h1, ⟨⟨⟨trivial, trivial⟩, ⟨⟨trivial, trivial⟩, ⟨⟨trivial, ⟨trivial, ⟨trivial, ⟨trivial, ⟨trivial, ⟨h2, trivial⟩⟩⟩⟩⟩⟩, ⟨⟨trivial, trivial⟩, ⟨⟨trivial, trivial⟩, ⟨⟨trivial, ⟨trivial, ⟨trivial, ⟨trivial, ⟨trivial, ⟨h3, trivial⟩⟩⟩⟩⟩⟩, ⟨⟨trivial, trivial⟩, ⟨⟨trivial, trivial⟩, trivial⟩⟩⟩⟩⟩⟩⟩⟩, ⟨⟨⟨trivial, trivial⟩, ⟨⟨trivial, trivial⟩, ⟨⟨trivial, ⟨trivial, trivial⟩⟩, ⟨⟨trivial, trivial⟩, ⟨⟨h4, ⟨trivial, trivial⟩⟩, ⟨⟨h4, ⟨trivial, trivial⟩⟩, ⟨⟨h4, ⟨trivial, ⟨trivial, ⟨h5, h6⟩⟩⟩⟩, ⟨⟨h4, ⟨trivial, h7⟩⟩, ⟨⟨h4, ⟨trivial, trivial⟩⟩, ⟨⟨h4, ⟨trivial, ⟨trivial, ⟨trivial, ⟨trivial, ⟨h8, trivial⟩⟩⟩⟩⟩⟩, ⟨⟨h4, ⟨trivial, trivial⟩⟩, ⟨⟨h4, ⟨trivial, trivial⟩⟩, trivial⟩⟩⟩⟩⟩⟩⟩⟩⟩⟩⟩⟩, ⟨h9, ⟨⟨⟨trivial, trivial⟩, ⟨⟨trivial, trivial⟩, ⟨⟨trivial, trivial⟩, trivial⟩⟩⟩, trivial⟩⟩⟩⟩⟩⟩, ⟨trivial, ⟨trivial, ⟨trivial, ⟨trivial, ⟨trivial, ⟨trivial, trivial⟩⟩⟩⟩⟩⟩⟩ hR
theorem grr_2 (q : QG) (h1 : (decide (0 < q.k) = true)) (h2 : (CT Try.prog 11 [some (Blk.mk [AV.agg [AV.lst (List.map (AV.int IntKind.i64) q.L), AV.int IntKind.i64 (iN q.kk)]] 2 true true)] [AV.ptr 0 0 0, AV.int IntKind.i64 (iN q.n)] [some (Blk.mk [AV.agg [AV.lst (List.map (AV.int IntKind.i64) q.L), AV.int IntKind.i64 (iN (q.kk + 1))]] 2 true true)] (AV.int IntKind.i64 (iN q.v)))) (h3 : (CT Try.prog 11 [some (Blk.mk [AV.agg [AV.lst (List.map (AV.int IntKind.i64) q.L), AV.int IntKind.i64 (iN (q.kk + 1))]] 2 true true)] [AV.ptr 0 0 0, AV.int IntKind.i64 (iN q.n)] [some (Blk.mk [AV.agg [AV.lst (List.map (AV.int IntKind.i64) q.L), AV.int IntKind.i64 (iN (q.kk + 1 + 1))]] 2 true true)] (AV.int IntKind.i64 (iN q.w)))) (h4 : ((iN q.v != iN q.w) = false)) {post : Exit → St → Prop} {R : St → Prop} (hR : ∀ st, Ren 1 st (St.mk 53 [(0, AV.ptr 0 0 0), (5, AV.int IntKind.i64 (iN q.n)), (6, AV.sl 1 0 q.n), (7, AV.int IntKind.i64 (IntKind.i64.wrap (q.k - 1)))] [some (Blk.mk [AV.agg [AV.lst (List.map (AV.int IntKind.i64) q.L), AV.int IntKind.i64 (iN (q.kk + 1 + 1))]] 2 true true), some (Blk.mk (gL q.g) 1 true true)]) → R st) : ∃ o' st' q', go Try.prog ({ dec := [(22, true), (34, false)], els := e9 q, calls := cG q, unroll := false } : HT) 1 4000 (.inl (loopC (bodyOf Try.f9) 0)) [] (lo9 q) = some (o', st', q') ∧ q' ∧ Go.AX.Rest Try.prog 1 (andThen R post) st' o' :=
  endN_spec (σ := [0,1]) (fz := []) (vars := [0,5,6,7]) (show endN 1 [0,1] [] [0,5,6,7] (go Try.prog ({ dec := [(22, true), (34, false)], els := e9 q, calls := cG q, unroll := false } : HT) 1 4000 (.inl (loopC (bodyOf Try.f9) 0)) [] (lo9 q)) = some (St.mk 53 [(0, AV.ptr 0 0 0), (5, AV.int IntKind.i64 (iN q.n)), (6, AV.sl 1 0 q.n), (7, AV.int IntKind.i64 (IntKind.i64.wrap (q.k - 1)))] [some (Blk.mk [AV.agg [AV.lst (List.map (AV.int IntKind.i64) q.L), AV.int IntKind.i64 (iN (q.kk + 1 + 1))]] 2 true true), some (Blk.mk (gL q.g) 1 true true)], ((((True ∧ True) ∧ ((True ∧ True) ∧ True)) ∧ ((type_of% h1) ∧ (((True ∧ True) ∧ ((True ∧ True) ∧ ((True ∧ (True ∧ (True ∧ (True ∧ (True ∧ ((type_of% h2) ∧ True)))))) ∧ ((True ∧ True) ∧ ((True ∧ True) ∧ ((True ∧ (True ∧ (True ∧ (True ∧ (True ∧ ((type_of% h3) ∧ True)))))) ∧ ((True ∧ True) ∧ ((True ∧ True) ∧ True)))))))) ∧ (((True ∧ True) ∧ ((True ∧ True) ∧ ((True ∧ (True ∧ True)) ∧ ((True ∧ True) ∧ ((type_of% h4) ∧ ((type_of% h4) ∧ ((type_of% h4) ∧ ((type_of% h4) ∧ ((type_of% h4) ∧ ((type_of% h4) ∧ ((type_of% h4) ∧ (((type_of% h4) ∧ (True ∧ True)) ∧ True)))))))))))) ∧ (True ∧ (((True ∧ True) ∧ ((True ∧ True) ∧ ((True ∧ True) ∧ True))) ∧ True)))))) ∧ (True ∧ (True ∧ (True ∧ (True ∧ (True ∧ (True ∧ True)))))))) by kernel_rfl) ⟨⟨⟨⟨trivial, trivial⟩, ⟨⟨trivial, trivial⟩, trivial⟩⟩, ⟨h1, ⟨⟨⟨trivial, trivial⟩, ⟨⟨trivial, trivial⟩, ⟨⟨trivial, ⟨trivial, ⟨trivial, ⟨trivial, ⟨trivial, ⟨h2, trivial⟩⟩⟩⟩⟩⟩, ⟨⟨trivial, trivial⟩, ⟨⟨trivial, trivial⟩, ⟨⟨trivial, ⟨trivial, ⟨trivial, ⟨trivial, ⟨trivial, ⟨h3, trivial⟩⟩⟩⟩⟩⟩, ⟨⟨trivial, trivial⟩, ⟨⟨trivial, trivial⟩, trivial⟩⟩⟩⟩⟩⟩⟩⟩, ⟨⟨⟨trivial, trivial⟩, ⟨⟨trivial, trivial⟩, ⟨⟨trivial, ⟨trivial, trivial⟩⟩, ⟨⟨trivial, trivial⟩, ⟨h4, ⟨h4, ⟨h4, ⟨h4, ⟨h4, ⟨h4, ⟨h4, ⟨⟨h4, ⟨trivial, trivial⟩⟩, trivial⟩⟩⟩⟩⟩⟩⟩⟩⟩⟩⟩⟩, ⟨trivial, ⟨⟨⟨trivial, trivial⟩, ⟨⟨trivial, trivial⟩, ⟨⟨trivial, trivial⟩, trivial⟩⟩⟩, trivial⟩⟩⟩⟩⟩⟩, ⟨trivial, ⟨trivial, ⟨trivial, ⟨trivial, ⟨trivial, ⟨trivial, trivial⟩⟩⟩⟩⟩⟩⟩ hR
theorem sh_0 (q : QG) (h1 : (0 ≤ iN q.n)) (h2 : (iN q.n ≤ iN q.n)) (h3 : (1 * iN q.n ≤ 281474976710656)) (h4 : (iN q.n ≤ 9223372036854775807)) (h5 : (CT Try.prog 11 [some (Blk.mk [AV.agg [AV.lst (List.map (AV.int IntKind.i64) q.L), AV.int IntKind.i64 (iN q.kk)]] 2 true true)] [AV.ptr 0 0 0, AV.int IntKind.i64 3] [some (Blk.mk [AV.agg [AV.lst (List.map (AV.int IntKind.i64) q.L), AV.int IntKind.i64 (iN (q.kk + 1))]] 2 true true)] (AV.int IntKind.i64 q.k))) {post : Exit → St → Prop} (ht : T Try.prog 1 (.loop (loopC (bodyOf Try.f10) 0)) (St.mk 25 [(0, AV.ptr 0 0 0), (1, AV.int IntKind.i64 (iN q.n)), (5, AV.sl 1 0 (iN q.n).toNat), (6, AV.int IntKind.i64 q.k)] [some (Blk.mk [AV.agg [AV.lst (List.map (AV.int IntKind.i64) q.L), AV.int IntKind.i64 (iN (q.kk + 1))]] 2 true true), some (Blk.mk (List.replicate (iN q.n).toNat (AV.bool false)) 1 true true)]) (TK Try.prog 1 post (loopK (bodyOf Try.f10) 0))) : ∃ o' st' q', go Try.prog ({ dec := [], els := e10 q, calls := cG q, unroll := false } : HT) 1 4000 (.inl (bodyOf Try.f10)) [] (st10 q) = some (o', st', q') ∧ q' ∧ Go.AX.Rest Try.prog 1 post st' o' :=
  endR_spec (σ := [0,1]) (fz := []) (vars := [0,1,5,6]) (show endR 1 [0,1] [] [0,1,5,6] (go Try.prog ({ dec := [], els := e10 q, calls := cG q, unroll := false } : HT) 1 4000 (.inl (bodyOf Try.f10)) [] (st10 q)) = some (loopC (bodyOf Try.f10) 0, loopK (bodyOf Try.f10) 0, St.mk 25 [(0, AV.ptr 0 0 0), (1, AV.int IntKind.i64 (iN q.n)), (5, AV.sl 1 0 (iN q.n).toNat), (6, AV.int IntKind.i64 q.k)] [some (Blk.mk [AV.agg [AV.lst (List.map (AV.int IntKind.i64) q.L), AV.int IntKind.i64 (iN (q.kk + 1))]] 2 true true), some (Blk.mk (List.replicate (iN q.n).toNat (AV.bool false)) 1 true true)], (((True ∧ True) ∧ (((True ∧ True) ∧ ((True ∧ (True ∧ ((type_of% h1) ∧ ((type_of% h2) ∧ ((type_of% h3) ∧ (type_of% h4)))))) ∧ ((True ∧ True) ∧ True))) ∧ (((True ∧ True) ∧ ((True ∧ (True ∧ (True ∧ (True ∧ ((type_of% h5) ∧ True))))) ∧ ((True ∧ True) ∧ True))) ∧ True))) ∧ (True ∧ (True ∧ (True ∧ (True ∧ (True ∧ (True ∧ True)))))))) by kernel_rfl) ⟨⟨⟨trivial, trivial⟩, ⟨⟨⟨trivial, trivial⟩, ⟨⟨trivial, ⟨trivial, ⟨h1, ⟨h2, ⟨h3, h4⟩⟩⟩⟩⟩, ⟨⟨trivial, trivial⟩, trivial⟩⟩⟩, ⟨⟨⟨trivial, trivial⟩, ⟨⟨trivial, ⟨trivial, ⟨trivial, ⟨trivial, ⟨h5, trivial⟩⟩⟩⟩⟩, ⟨⟨trivial, trivial⟩, trivial⟩⟩⟩, trivial⟩⟩⟩, ⟨trivial, ⟨trivial, ⟨trivial, ⟨trivial, ⟨trivial, ⟨trivial, trivial⟩⟩⟩⟩⟩⟩⟩ ht
theorem shx_0 (q : QG) (h1 : (decide (0 < q.k) = true)) (h2 : (decide (0 < iN q.n) = false)) (h3 : (q.n = (boL q.s).length)) : ∃ o' st' q', go2 Try.prog ({ dec := [(16, false), (13, true)], els := e10 q, calls := cG q, unroll := false } : HT) 1 4000 (loopC (bodyOf Try.f10) 0) (loopK (bodyOf Try.f10) 0) (lo10 q) = some (o', st', q') ∧ q' ∧ Go.AX.Rest Try.prog 1 (Fin Try.prog Try.f10 1 [some (Blk.mk [AV.agg [AV.lst (List.map (AV.int IntKind.i64) q.L), AV.int IntKind.i64 (iN q.kk)]] 2 true true)] (AV.lst (boL q.s))) st' o' :=
  endF_spec (σ := [0]) (fz := [1]) (show endF Try.prog Try.f10 1 [0] [1] (go2 Try.prog ({ dec := [(16, false), (13, true)], els := e10 q, calls := cG q, unroll := false } : HT) 1 4000 (loopC (bodyOf Try.f10) 0) (loopK (bodyOf Try.f10) 0) (lo10 q)) = some ([some (Blk.mk [AV.agg [AV.lst (List.map (AV.int IntKind.i64) q.L), AV.int IntKind.i64 (iN q.kk)]] 2 true true)], AV.lst (boL q.s), (((((True ∧ True) ∧ ((True ∧ True) ∧ ((True ∧ True) ∧ (((type_of% h1) ∧ (True ∧ True)) ∧ (((type_of% h1) ∧ (True ∧ True)) ∧ (((type_of% h1) ∧ (True ∧ True)) ∧ True)))))) ∧ ((type_of% h2) ∧ True)) ∧ (((True ∧ True) ∧ ((True ∧ True) ∧ True)) ∧ True)) ∧ ((type_of% h3) ∧ (True ∧ True)))) by kernel_rfl) ⟨⟨⟨⟨⟨trivial, trivial⟩, ⟨⟨trivial, trivial⟩, ⟨⟨trivial, trivial⟩, ⟨⟨h1, ⟨trivial, trivial⟩⟩, ⟨⟨h1, ⟨trivial, trivial⟩⟩, ⟨⟨h1, ⟨trivial, trivial⟩⟩, trivial⟩⟩⟩⟩⟩⟩, ⟨h2, trivial⟩⟩, ⟨⟨⟨trivial, trivial⟩, ⟨⟨trivial, trivial⟩, trivial⟩⟩, trivial⟩⟩, ⟨h3, ⟨trivial, trivial⟩⟩⟩
theorem shx_1 (q : QG) (h1 : (decide (0 < q.k) = false)) (h2 : (q.n = (boL q.s).length)) : ∃ o' st' q', go2 Try.prog ({ dec := [(16, false), (13, false)], els := e10 q, calls := cG q, unroll := false } : HT) 1 4000 (loopC (bodyOf Try.f10) 0) (loopK (bodyOf Try.f10) 0) (lo10 q) = some (o', st', q') ∧ q' ∧ Go.AX.Rest Try.prog 1 (Fin Try.prog Try.f10 1 [some (Blk.mk [AV.agg [AV.lst (List.map (AV.int IntKind.i64) q.L), AV.int IntKind.i64 (iN q.kk)]] 2 true true)] (AV.lst (boL q.s))) st' o' :=
  endF_spec (σ := [0]) (fz := [1]) (show endF Try.prog Try.f10 1 [0] [1] (go2 Try.prog ({ dec := [(16, false), (13, false)], els := e10 q, calls := cG q, unroll := false } : HT) 1 4000 (loopC (bodyOf Try.f10) 0) (loopK (bodyOf Try.f10) 0) (lo10 q)) = some ([some (Blk.mk [AV.agg [AV.lst (List.map (AV.int IntKind.i64) q.L), AV.int IntKind.i64 (iN q.kk)]] 2 true true)], AV.lst (boL q.s), (((((True ∧ True) ∧ ((True ∧ True) ∧ ((True ∧ True) ∧ ((type_of% h1) ∧ ((type_of% h1) ∧ (((type_of% h1) ∧ (True ∧ True)) ∧ True)))))) ∧ ((false = false) ∧ True)) ∧ (((True ∧ True) ∧ ((True ∧ True) ∧ True)) ∧ True)) ∧ ((type_of% h2) ∧ (True ∧ True)))) by kernel_rfl) ⟨⟨⟨⟨⟨trivial, trivial⟩, ⟨⟨trivial, trivial⟩, ⟨⟨trivial, trivial⟩, ⟨h1, ⟨h1, ⟨⟨h1, ⟨trivial, trivial⟩⟩, trivial⟩⟩⟩⟩⟩⟩, ⟨(by first | decide | exact Int.NonNeg.mk _), trivial⟩⟩, ⟨⟨⟨trivial, trivial⟩, ⟨⟨trivial, trivial⟩, trivial⟩⟩, trivial⟩⟩, ⟨h2, ⟨trivial, trivial⟩⟩⟩
theorem shr_0 (q : QG) (h1 : (decide (0 < q.k) = true)) (h2 : (decide (0 < iN q.n) = true)) (h3 : (CT Try.prog 11 [some (Blk.mk [AV.agg [AV.lst (List.map (AV.int IntKind.i64) q.L), AV.int IntKind.i64 (iN q.kk)]] 2 true true)] [AV.ptr 0 0 0, AV.int IntKind.i64 (iN q.n)] [some (Blk.mk [AV.agg [AV.lst (List.map (AV.int IntKind.i64) q.L), AV.int IntKind.i64 (iN (q.kk + 1))]] 2 true true)] (AV.int IntKind.i64 (iN q.v)))) (h4 : (0 ≤ iN q.v)) (h5 : (iN q.v < iN q.n)) (h6 : ((0 + (iN q.v).toNat).succ.le (boL q.s).length)) {post : Exit → St → Prop} {R : St → Prop} (hR : ∀ st, Ren 1 st (St.mk 25 [(0, AV.ptr 0 0 0), (1, AV.int IntKind.i64 (iN q.n)), (5, AV.sl 1 0 q.n), (6, AV.int IntKind.i64 (IntKind.i64.wrap (q.k - 1)))] [some (Blk.mk [AV.agg [AV.lst (List.map (AV.int IntKind.i64) q.L), AV.int IntKind.i64 (iN (q.kk + 1))]] 2 true true), some (Blk.mk ((boL q.s).set (0 + (iN q.v).toNat) (AV.bool true)) 1 true true)]) → R st) : ∃ o' st' q', go Try.prog ({ dec := [(13, true), (16, true)], els := e10 q, calls := cG q, unroll := false } : HT) 1 4000 (.inl (loopC (bodyOf Try.f10) 0)) [] (lo10 q) = some (o', st', q') ∧ q' ∧ Go.AX.Rest Try.prog 1 (andThen R post) st' o' :=
  endN_spec (σ := [0,1]) (fz := []) (vars := [0,1,5,6]) (show endN 1 [0,1] [] [0,1,5,6] (go Try.prog ({ dec := [(13, true), (16, true)], els := e10 q, calls := cG q, unroll := false } : HT) 1 4000 (.inl (loopC (bodyOf Try.f10) 0)) [] (lo10 q)) = some (St.mk 25 [(0, AV.ptr 0 0 0), (1, AV.int IntKind.i64 (iN q.n)), (5, AV.sl 1 0 q.n), (6, AV.int IntKind.i64 (IntKind.i64.wrap (q.k - 1)))] [some (Blk.mk [AV.agg [AV.lst (List.map (AV.int IntKind.i64) q.L), AV.int IntKind.i64 (iN (q.kk + 1))]] 2 true true), some (Blk.mk ((boL q.s).set (0 + (iN q.v).toNat) (AV.bool true)) 1 true true)], ((((True ∧ True) ∧ ((True ∧ True) ∧ ((True ∧ True) ∧ (((type_of% h1) ∧ (True ∧ True)) ∧ (((type_of% h1) ∧ (True ∧ True)) ∧ (((type_of% h1) ∧ (True ∧ True)) ∧ True)))))) ∧ ((type_of% h2) ∧ (((True ∧ True) ∧ ((True ∧ True) ∧ ((True ∧ True) ∧ ((True ∧ (True ∧ (True ∧ (True ∧ (True ∧ ((type_of% h3) ∧ True)))))) ∧ ((True ∧ (True ∧ ((type_of% h4) ∧ (type_of% h5)))) ∧ ((True ∧ (type_of% h6)) ∧ True)))))) ∧ (((True ∧ True) ∧ ((True ∧ True) ∧ ((True ∧ True) ∧ True))) ∧ True)))) ∧ (True ∧ (True ∧ (True ∧ (True ∧ (True ∧ (True ∧ True)))))))) by kernel_rfl) ⟨⟨⟨⟨trivial, trivial⟩, ⟨⟨trivial, trivial⟩, ⟨⟨trivial, trivial⟩, ⟨⟨h1, ⟨trivial, trivial⟩⟩, ⟨⟨h1, ⟨trivial, trivial⟩⟩, ⟨⟨h1, ⟨trivial, trivial⟩⟩, trivial⟩⟩⟩⟩⟩⟩, ⟨h2, ⟨⟨⟨trivial, trivial⟩, ⟨⟨trivial, trivial⟩, ⟨⟨trivial, trivial⟩, ⟨⟨trivial, ⟨trivial, ⟨trivial, ⟨trivial, ⟨trivial, ⟨h3, trivial⟩⟩⟩⟩⟩⟩, ⟨⟨trivial, ⟨trivial, ⟨h4, h5⟩⟩⟩, ⟨⟨trivial, h6⟩, trivial⟩⟩⟩⟩⟩⟩, ⟨⟨⟨trivial, trivial⟩, ⟨⟨trivial, trivial⟩, ⟨⟨trivial, trivial⟩, trivial⟩⟩⟩, trivial⟩⟩⟩⟩, ⟨trivial, ⟨trivial, ⟨trivial, ⟨trivial, ⟨trivial, ⟨trivial, trivial⟩⟩⟩⟩⟩⟩⟩ hR
end Go.Proofs.Ytcdgphdieemjcaa

/-! Contracts. -/
open Go Go.AX Go.Proofs
set_option maxRecDepth 100000
set_option maxHeartbeats 1000000
set_option linter.unusedVariables false
set_option linter.unusedSimpArgs false
namespace Go.Proofs.Ytcdgphdieemjcaa
theorem fnd_none {p : Nat → Bool} : ∀ {n s : Nat}, fnd p s n = none → ∀ i, s ≤ i → i < s + n → p i = false := by
  intro n
  induction n with
  | zero => intro s _ i h1 h2; omega
  | succ n ih =>
    intro s h i h1 h2
    rw [fnd] at h
    cases hp : p s with
    | true => rw [hp] at h; cases h
    | false =>
      rw [hp] at h
      by_cases e : i = s
      · rw [e]; exact hp
      · exact ih h i (by omega) (by omega)

noncomputable def hasZ (l : List Int) (x : Int) : Bool := (fnd (fun i => l.getD i 0 == x) 0 l.length).isSome
theorem hasZ_false {l : List Int} {x : Int} (h : hasZ l x = false) : x ∉ l := by
  intro hm
  unfold hasZ at h
  have hn : fnd (fun i => l.getD i 0 == x) 0 l.length = none := by simpa using h
  obtain ⟨i, hi, rfl⟩ := List.mem_iff_getElem.1 hm
  have := fnd_none hn i (Nat.zero_le _) (by omega)
  rw [List.getD_eq_getElem?_getD, List.getElem?_eq_getElem hi] at this
  simp at this

theorem has_ct (l : List Int) (x : Int) (hl : l.length ≤ 1000000) : CT Try.prog 19 [] [lI l, .int .i64 x] [] (.bool (hasZ l x)) := by
  have hll := lI_len l
  refine CT.path mix Try.func19 (show Try.f19.body = some (bodyOf Try.f19) by kernel_rfl) (Nat.le_of_ble_eq_true rfl) (ha_0 ⟨[], [], l, [], [], 0, 0, 0, 0, 0, x, 0, 0, false⟩ ?_)
  unfold hasZ
  generalize hr : fnd (fun i => l.getD i 0 == x) 0 l.length = r
  refine T.loop (fun i : Nat => lo23 ⟨[], [], l, [], [], 0, 0, 0, 0, 0, x, i, 0, false⟩) (fun i => i ≤ l.length ∧ fnd (fun i => l.getD i 0 == x) i (l.length - i) = r) (fun i => l.length + 1 - i) 0 ⟨Nat.zero_le _, hr⟩ ?_
  rintro i ⟨hi, hf⟩
  by_cases h : i < l.length
  · rw [fnd_step h] at hf
    by_cases he : (l.getD i 0 == x) = true
    · simp only [he] at hf
      subst hf
      exact T.out mix (hay_0 ⟨[], [], l, [], [], 0, 0, 0, 0, 0, x, i, l.getD i 0, false⟩ (decide_eq_true (by simp only [iN, hll]; omega)) (by simp [iN]) (lI_get h) he)
    · have he := Bool.eq_false_iff.2 he
      simp only [he] at hf
      refine T.path mix (har_0 ⟨[], [], l, [], [], 0, 0, 0, 0, 0, x, i, l.getD i 0, false⟩ (decide_eq_true (by simp only [iN, hll]; omega)) (by simp [iN]) (lI_get h) he ?_)
      intro st hst
      simp only [iN, wrap_nat i (show i < 9223372036854775807 by omega)] at hst
      exact ⟨i + 1, hst, ⟨h, hf⟩, by omega⟩
  · rw [fnd_end h] at hf
    subst hf
    exact T.out mix (hax_0 ⟨[], [], l, [], [], 0, 0, 0, 0, 0, x, i, 0, false⟩ (decide_eq_false (by simp only [iN, hll]; omega)))

def insB (x : Int) : List Int → List Int
  | [] => [x]
  | a :: r => if x < a then x :: a :: r else a :: insB x r

noncomputable def inS (l : List Int) (x : Int) (y : Nat × List Int × Bool) : St := match y.2.1 with
  | [] => lz25 ⟨[], [], l, [], [], 0, 0, 0, 0, 0, x, y.1, 0, false⟩
  | _ => lo25 ⟨[], [], l, y.2.1, [], 0, 0, 0, 0, 0, x, y.1, 0, y.2.2⟩

theorem ins_ct (l : List Int) (x : Int) (hl : l.length ≤ 1000000) : CT Try.prog 21 [] [lI l, .int .i64 x] [] (lI (insB x l)) := by
  have hll := lI_len l
  refine CT.path mix Try.func21 (show Try.f21.body = some (bodyOf Try.f21) by kernel_rfl) (Nat.le_of_ble_eq_true rfl) (in_0 ⟨[], [], l, [], [], 0, 0, 0, 0, 0, x, 0, 0, false⟩ ?_)
  generalize hres : insB x l = res
  refine T.loop (fun y : Nat × List Int × Bool => inS l x y) (fun y => y.1 ≤ l.length ∧ y.2.1.length ≤ y.1 + 1 ∧ (y.2.2 = false → y.2.1 = l.take y.1 ∧ res = y.2.1 ++ insB x (l.drop y.1)) ∧ (y.2.2 = true → res = y.2.1 ++ l.drop y.1 ∧ y.2.1 ≠ [])) (fun y => l.length + 1 - y.1) (0, [], false)
    ⟨Nat.zero_le _, by simp, fun _ => ⟨by simp, by simp [hres]⟩, fun h => by cases h⟩ ?_
  rintro ⟨i, o, b⟩ ⟨hi, ho, hF, hT⟩
  simp only at hi ho hF hT
  have step : ∀ (h : i < l.length), l.drop i = l.getD i 0 :: l.drop (i + 1) ∧ l.take (i + 1) = l.take i ++ [l.getD i 0] := by
    intro h
    have e : l.getD i 0 = l[i] := by rw [List.getD_eq_getElem?_getD, List.getElem?_eq_getElem h]; rfl
    rw [e]
    exact ⟨List.drop_eq_getElem_cons h, by rw [List.take_add_one, List.getElem?_eq_getElem h]; rfl⟩
  have hw : IntKind.i64.wrap (iN i + 1) = ((i + 1 : Nat) : Int) := wrap_nat i (by omega)
  have lenE : ∀ (u : List Int) (y : AV), (u.map (AV.int .i64)).length + [y].length = u.length + 1 := by intro u y; simp
  cases ho' : o with
  | nil =>
    subst ho'
    cases hb : b with
    | true => exact absurd rfl (hT hb).2
    | false =>
      subst hb
      obtain ⟨h1, h2⟩ := hF rfl
      simp only [List.nil_append] at h2
      by_cases h : i < l.length
      · obtain ⟨e1, e2⟩ := step h
        by_cases hx : x < l.getD i 0
        · refine T.path mix (inza_0 ⟨[], [], l, [], [], 0, 0, 0, 0, 0, x, i, l.getD i 0, false⟩ (decide_eq_true (by simp only [iN, hll]; omega)) (by simp [iN]) (lI_get h) (decide_eq_true hx) (by simp) (by simp) (by simp) (by simp) (by simp) (by simp) ?_)
          intro st hst
          rw [hw] at hst
          refine ⟨(i + 1, [x, l.getD i 0], true), hst, ⟨h, by simp only [List.length_cons, List.length_nil]; omega, fun h => (by cases h), fun _ => ⟨?_, by simp⟩⟩, by simp only; omega⟩
          rw [h2, e1, insB, if_pos hx]; rfl
        · refine T.path mix (inzb_0 ⟨[], [], l, [], [], 0, 0, 0, 0, 0, x, i, l.getD i 0, false⟩ (decide_eq_true (by simp only [iN, hll]; omega)) (by simp [iN]) (lI_get h) (decide_eq_false hx) (by simp) (by simp) (by simp) ?_)
          intro st hst
          rw [hw] at hst
          refine ⟨(i + 1, [l.getD i 0], false), hst, ⟨h, by simp only [List.length_cons, List.length_nil]; omega, fun _ => ⟨by rw [e2, ← h1]; rfl, ?_⟩, fun h => by cases h⟩, by simp only; omega⟩
          rw [h2, e1, insB, if_neg hx]; rfl
      · have e : l.drop i = [] := List.drop_of_length_le (by omega)
        rw [e] at h2
        rw [h2]
        exact T.out mix (inzx_0 ⟨[], [], l, [], [], 0, 0, 0, 0, 0, x, i, 0, false⟩ (decide_eq_false (by simp only [iN, hll]; omega)) (by simp) (by simp) (by simp))
  | cons o0 o1 =>
    rw [← ho']
    have hS : inS l x (i, o, b) = lo25 ⟨[], [], l, o, [], 0, 0, 0, 0, 0, x, i, 0, b⟩ := by rw [ho']; rfl
    have next : ∀ (o' : List Int) (b' : Bool) (st : St), o' ≠ [] → Ren 0 st (lo25 ⟨[], [], l, o', [], 0, 0, 0, 0, 0, x, i + 1, 0, b'⟩) → Ren 0 st (inS l x (i + 1, o', b')) := by
      intro o' b' st hne hst
      cases o' with
      | nil => exact absurd rfl hne
      | cons _ _ => exact hst
    show T Try.prog 0 _ (inS l x (i, o, b)) _
    rw [hS]
    by_cases h : i < l.length
    · obtain ⟨e1, e2⟩ := step h
      cases hb : b with
      | true =>
        subst hb
        obtain ⟨h1, h2⟩ := hT rfl
        refine T.path mix (inod_0 ⟨[], [], l, o, [], 0, 0, 0, 0, 0, x, i, l.getD i 0, true⟩ (decide_eq_true (by simp only [iN, hll]; omega)) rfl (by simp [iN]) (lI_get h) (by simp) (by simp) (by simp; omega) (by simp; omega) ?_)
        intro st hst
        rw [hw, lenE] at hst
        refine ⟨(i + 1, o ++ [l.getD i 0], true), next _ _ _ (by simp) ?_, ⟨h, by simp only [List.length_append, List.length_cons, List.length_nil]; omega, fun h => (by cases h), fun _ => ⟨by rw [h1, e1]; simp, by simp⟩⟩, by simp only; omega⟩
        unfold lo25 dB
        simp only [List.map_append, List.length_append, List.length_cons, List.length_nil, Nat.zero_add, List.map_cons, List.map_nil]
        exact hst
      | false =>
        subst hb
        obtain ⟨h1, h2⟩ := hF rfl
        by_cases hx : x < l.getD i 0
        · refine T.path mix (inoa_0 ⟨[], [], l, o, [], 0, 0, 0, 0, 0, x, i, l.getD i 0, false⟩ (decide_eq_true (by simp only [iN, hll]; omega)) rfl (by simp [iN]) (lI_get h) (decide_eq_true hx) (by simp) (by simp) (by simp; omega) (by simp; omega) (by simp) (by simp) (by simp; omega) (by simp; omega) ?_)
          intro st hst
          rw [hw] at hst
          have hlen2 : o.length ≤ i := by rw [h1]; simp; omega
          refine ⟨(i + 1, o ++ [x, l.getD i 0], true), next _ _ _ (by simp) ?_, ⟨h, by simp only [List.length_append, List.length_cons, List.length_nil]; omega, fun h => (by cases h), fun _ => ⟨by rw [h2, e1, insB, if_pos hx]; simp, by simp⟩⟩, by simp only; omega⟩
          have e5 : (o.map (AV.int .i64) ++ [AV.int .i64 x]).length + [AV.int .i64 (l.getD i 0)].length = (o ++ [x, l.getD i 0]).length := by simp
          simp only at hst
          rw [e5] at hst
          unfold lo25 dB
          simp only [List.map_append, List.map_cons, List.map_nil]
          rw [List.append_assoc] at hst
          exact hst
        · refine T.path mix (inob_0 ⟨[], [], l, o, [], 0, 0, 0, 0, 0, x, i, l.getD i 0, false⟩ (decide_eq_true (by simp only [iN, hll]; omega)) rfl (by simp [iN]) (lI_get h) (decide_eq_false hx) (by simp) (by simp) (by simp; omega) (by simp; omega) ?_)
          intro st hst
          rw [hw, lenE] at hst
          refine ⟨(i + 1, o ++ [l.getD i 0], false), next _ _ _ (by simp) ?_, ⟨h, by simp only [List.length_append, List.length_cons, List.length_nil]; omega, fun _ => ⟨by rw [e2, ← h1], by rw [h2, e1, insB, if_neg hx]; simp⟩, fun h => by cases h⟩, by simp only; omega⟩
          unfold lo25 dB
          simp only [List.map_append, List.length_append, List.length_cons, List.length_nil, Nat.zero_add, List.map_cons, List.map_nil]
          exact hst
    · have e : l.drop i = [] := List.drop_of_length_le (by omega)
      cases hb : b with
      | true =>
        subst hb
        obtain ⟨h1, _⟩ := hT rfl
        rw [e, List.append_nil] at h1
        rw [h1]
        exact T.out mix (inox_1 ⟨[], [], l, o, [], 0, 0, 0, 0, 0, x, i, 0, true⟩ (decide_eq_false (by simp only [iN, hll]; omega)) rfl (by simp))
      | false =>
        subst hb
        obtain ⟨_, h2⟩ := hF rfl
        rw [e] at h2
        rw [show lI res = .lst (o.map (AV.int .i64) ++ [AV.int .i64 x]) by rw [h2]; simp [lI, insB]]
        exact T.out mix (inox_0 ⟨[], [], l, o, [], 0, 0, 0, 0, 0, x, i, 0, false⟩ (decide_eq_false (by simp only [iN, hll]; omega)) rfl (by simp) (by simp) (by simp; omega) (by simp; omega) (by simp))
end Go.Proofs.Ytcdgphdieemjcaa

/-! Contracts. -/
open Go Go.AX Go.Proofs
set_option maxRecDepth 100000
set_option maxHeartbeats 1000000
set_option linter.unusedVariables false
set_option linter.unusedSimpArgs false
namespace Go.Proofs.Ytcdgphdieemjcaa
theorem wrapS (z : Int) (h0 : -1000000 ≤ z) (h1 : z ≤ 1000000) : IntKind.i64.wrap z = z := by
  have e1 : (2 : Int) ^ IntKind.i64.bits = 18446744073709551616 := by decide
  have e2 : (2 : Int) ^ (IntKind.i64.bits - 1) = 9223372036854775808 := by decide
  have e3 : IntKind.i64.signed = true := by decide
  simp only [IntKind.wrap, e1, e2, e3, Bool.true_and, decide_eq_true_eq]
  split <;> omega
theorem nextZ_rng (L : List Int) (k : Nat) (n : Int) (h1 : 1 ≤ n) (h2 : n ≤ 100000) : 0 ≤ nextZ L k n ∧ nextZ L k n < n := by
  unfold nextZ cutZ
  split
  · omega
  · have ha := Int.tmod_lt_of_pos (rawZ L k) (show 0 < n by omega)
    have hb := Int.lt_tmod_of_pos (rawZ L k) (show 0 < n by omega)
    split
    · rw [wrapS _ (by omega) (by omega)]; omega
    · omega

theorem mem_insB {x y : Int} : ∀ {l : List Int}, y ∈ insB x l ↔ y = x ∨ y ∈ l := by
  intro l
  induction l with
  | nil => simp [insB]
  | cons a r ih =>
    rw [insB]
    split
    · simp
    · simp only [List.mem_cons, ih]
      constructor
      · rintro (h | h | h)
        · exact .inr (.inl h)
        · exact .inl h
        · exact .inr (.inr h)
      · rintro (h | h | h)
        · exact .inr (.inl h)
        · exact .inl h
        · exact .inr (.inr h)
theorem insB_asc {x : Int} : ∀ {l : List Int}, l.Pairwise (· < ·) → x ∉ l → (insB x l).Pairwise (· < ·) := by
  intro l
  induction l with
  | nil => intro _ _; simp [insB]
  | cons a r ih =>
    intro h hx
    rw [List.pairwise_cons] at h
    rw [insB]
    have hxa : x ≠ a := fun e => hx (by simp [e])
    split
    · rename_i hlt
      refine List.pairwise_cons.2 ⟨fun y hy => ?_, List.pairwise_cons.2 h⟩
      rcases List.mem_cons.1 hy with rfl | hy
      · exact hlt
      · exact Int.lt_trans hlt (h.1 y hy)
    · rename_i hge
      refine List.pairwise_cons.2 ⟨fun y hy => ?_, ih h.2 fun hm => hx (List.mem_cons_of_mem _ hm)⟩
      rcases mem_insB.1 hy with rfl | hy
      · omega
      · exact h.1 y hy
theorem insB_len (x : Int) : ∀ (l : List Int), (insB x l).length = l.length + 1 := by
  intro l
  induction l with
  | nil => rfl
  | cons a r ih => rw [insB]; split <;> simp [ih]

/-- What the graphs are that are made. -/
structure GI (n m : Nat) (g : List (List Int)) : Prop where
  len : g.length = n
  row : ∀ v, v < n → (g.getD v []).length ≤ m ∧ (g.getD v []).Pairwise (· < ·) ∧ ∀ w ∈ g.getD v [], 0 ≤ w ∧ w < (n : Int) ∧ w ≠ (v : Int)

noncomputable def stp (L : List Int) (n : Nat) (y : List (List Int) × Nat) : List (List Int) × Nat :=
  if (nextZ L y.2 n).toNat = (nextZ L (y.2 + 1) n).toNat then (y.1, y.2 + 2)
  else if hasZ (y.1.getD (nextZ L y.2 n).toNat []) (nextZ L (y.2 + 1) n) = true then (y.1, y.2 + 2)
  else (y.1.set (nextZ L y.2 n).toNat (insB (nextZ L (y.2 + 1) n) (y.1.getD (nextZ L y.2 n).toNat [])), y.2 + 2)
noncomputable def grS (L : List Int) (n : Nat) (y : List (List Int) × Nat) : Nat → List (List Int) × Nat
  | 0 => y
  | j + 1 => stp L n (grS L n y j)

theorem stp_kk (L : List Int) (n : Nat) (y : List (List Int) × Nat) : (stp L n y).2 = y.2 + 2 := by
  unfold stp; split
  · rfl
  · split <;> rfl
theorem grS_kk (L : List Int) (n : Nat) (y : List (List Int) × Nat) (j : Nat) : (grS L n y j).2 = y.2 + 2 * j := by
  induction j with
  | zero => rfl
  | succ j ih => rw [grS, stp_kk, ih]; omega

theorem stp_inv {L : List Int} {n m : Nat} (hn : 1 ≤ n) (hn2 : n ≤ 1000) {y : List (List Int) × Nat} (h : GI n m y.1) : GI n (m + 1) (stp L n y).1 := by
  have keep : GI n (m + 1) y.1 := ⟨h.len, fun v hv => ⟨Nat.le_succ_of_le (h.row v hv).1, (h.row v hv).2⟩⟩
  have r1 := nextZ_rng L y.2 n (by omega) (by omega)
  have r2 := nextZ_rng L (y.2 + 1) n (by omega) (by omega)
  unfold stp
  generalize nextZ L y.2 n = a at r1
  generalize nextZ L (y.2 + 1) n = w at r2
  split
  · exact keep
  · rename_i hne
    split
    · exact keep
    · rename_i hh
      have hh := Bool.eq_false_iff.2 hh
      have hav : a.toNat < n := by omega
      refine ⟨by simp [h.len], fun v hv => ?_⟩
      have e : (y.1.set a.toNat (insB w (y.1.getD a.toNat []))).getD v [] = if a.toNat = v then insB w (y.1.getD a.toNat []) else y.1.getD v [] := by
        rw [List.getD_eq_getElem?_getD, List.getElem?_set]
        split
        · rename_i e; subst e; rw [if_pos (by rw [h.len]; exact hav)]; rfl
        · rw [List.getD_eq_getElem?_getD]
      rw [e]
      split
      · rename_i e2
        obtain ⟨g1, g2, g3⟩ := h.row a.toNat hav
        refine ⟨by rw [insB_len]; omega, insB_asc g2 (hasZ_false hh), fun x hx => ?_⟩
        rcases mem_insB.1 hx with rfl | hx
        · exact ⟨r2.1, r2.2, by omega⟩
        · have := g3 x hx; exact ⟨this.1, this.2.1, by omega⟩
      · exact (keep.row v hv)

theorem grS_inv {L : List Int} {n : Nat} (hn : 1 ≤ n) (hn2 : n ≤ 1000) (kk : Nat) (j : Nat) : GI n j (grS L n (List.replicate n [], kk) j).1 := by
  induction j with
  | zero =>
    refine ⟨by simp [grS], fun v hv => ?_⟩
    have : (List.replicate n ([] : List Int)).getD v [] = [] := by simp [List.getD_eq_getElem?_getD, hv]
    show ((List.replicate n ([] : List Int)).getD v []).length ≤ 0 ∧ _
    rw [show (grS L n (List.replicate n [], kk) 0).1 = List.replicate n [] from rfl, this]
    simp
  | succ j ih => exact stp_inv hn hn2 ih

theorem GI.ok {n m : Nat} {g : List (List Int)} (h : GI n m g) (hn : n ≤ 24) (hm : m ≤ 1000) {s : List Bool} (hs : s.length = n) : OkG g s ∧ Asc g := by
  refine ⟨⟨by rw [h.len]; exact hn, fun v hv => ?_, by rw [hs, h.len]⟩, fun v hv i h0 hi => ?_⟩
  · rw [h.len] at hv ⊢
    obtain ⟨g1, _, g3⟩ := h.row v hv
    exact ⟨by omega, g3⟩
  · rw [h.len] at hv
    obtain ⟨_, g2, _⟩ := h.row v hv
    generalize g.getD v [] = r at g2 hi
    have := List.pairwise_iff_getElem.1 g2 (i - 1) i (by omega) hi (by omega)
    rw [List.getD_eq_getElem?_getD, List.getElem?_eq_getElem (by omega), List.getD_eq_getElem?_getD, List.getElem?_eq_getElem hi]
    exact this

theorem gL_set (g : List (List Int)) (v : Nat) (r : List Int) : (gL g).set (0 + v) (lI r) = gL (g.set v r) := by rw [Nat.zero_add]; unfold gL; rw [List.map_set]
theorem gL_get0 {g : List (List Int)} {v : Nat} (h : v < g.length) : (gL g)[0 + v]? = some (lI (g.getD v [])) := by rw [Nat.zero_add]; exact gL_get h

theorem graph_ex (L : List Int) (kk most : Nat) (hm : most ≤ 20) (hk : kk ≤ 1000000) : ∃ (g : List (List Int)) (kk' n : Nat), n ≤ most ∧ GI n 100 g ∧ kk' ≤ kk + 200 ∧ CT Try.prog 9 [some (tapeB L kk)] [.ptr 0 0 0, .int .i64 (most : Nat)] [some (tapeB L kk')] (.lst (gL g)) := by
  have r1 := nextZ_rng L kk ((most : Int) + 1) (by omega) (by omega)
  have n1 := next_ct L kk ((most : Int) + 1) (by omega)
  obtain ⟨n, hn⟩ : ∃ n : Nat, nextZ L kk ((most : Int) + 1) = (n : Int) := ⟨(nextZ L kk ((most : Int) + 1)).toNat, by omega⟩
  rw [hn] at n1 r1
  have r2 := nextZ_rng L (kk + 1) (3 * (n : Int) + 1) (by omega) (by omega)
  have n2 := next_ct L (kk + 1) (3 * (n : Int) + 1) (by omega)
  obtain ⟨m, hmm⟩ : ∃ m : Nat, nextZ L (kk + 1) (3 * (n : Int) + 1) = (m : Int) := ⟨(nextZ L (kk + 1) (3 * (n : Int) + 1)).toNat, by omega⟩
  rw [hmm] at n2 r2
  have hkk := grS_kk L n (List.replicate n [], kk + 2)
  have hinv : ∀ j, j ≤ m → GI n j (grS L n (List.replicate n [], kk + 2) j).1 := by
    intro j hj
    by_cases h1 : 1 ≤ n
    · exact grS_inv h1 (by omega) _ j
    · obtain rfl : j = 0 := by omega
      obtain rfl : n = 0 := by omega
      exact ⟨rfl, fun v hv => by omega⟩
  refine ⟨(grS L n (List.replicate n [], kk + 2) m).1, (grS L n (List.replicate n [], kk + 2) m).2, n, by omega, ?_, by rw [hkk]; simp only; omega, ?_⟩
  · have := hinv m (Nat.le_refl _)
    exact ⟨this.len, fun v hv => ⟨by have := (this.row v hv).1; omega, (this.row v hv).2⟩⟩
  refine CT.path mix Try.func9 (show Try.f9.body = some (bodyOf Try.f9) by kernel_rfl) (Nat.le_of_ble_eq_true rfl) (gr_0 ⟨L, [], [], [], [], kk, n, (m : Nat), 0, 0, (most : Nat), 0, 0, false⟩ (by simp only [wrapS ((most : Int) + 1) (by omega) (by omega)]; exact n1) (by simp [iN]) (by simp) (by simp only [iN]; omega) (by simp only [iN]; omega)
    (by simp only [iN, wrapS (3 * (n : Int)) (by omega) (by omega), wrapS (3 * (n : Int) + 1) (by omega) (by omega)]; exact n2) (T.nilH ?_))
  have key : T Try.prog 1 (.loop (loopC (bodyOf Try.f9) 0)) (lo9 ⟨L, (grS L n (List.replicate n [], kk + 2) 0).1, [], [], [], (grS L n (List.replicate n [], kk + 2) 0).2, n, ((m - 0 : Nat) : Int), 0, 0, 0, 0, 0, false⟩) (TK Try.prog 1 (Fin Try.prog Try.f9 1 [some (tapeB L (grS L n (List.replicate n [], kk + 2) m).2)] (.lst (gL (grS L n (List.replicate n [], kk + 2) m).1))) (loopK (bodyOf Try.f9) 0)) := by
    refine T.loop (fun j : Nat => lo9 ⟨L, (grS L n (List.replicate n [], kk + 2) j).1, [], [], [], (grS L n (List.replicate n [], kk + 2) j).2, n, ((m - j : Nat) : Int), 0, 0, 0, 0, 0, false⟩) (fun j => j ≤ m) (fun j => m + 1 - j) 0 (Nat.zero_le _) ?_
    intro j hj
    have hj2 := hinv j hj
    have hkj := hkk j
    simp only at hkj
    by_cases h : j < m
    · have hn1 : 1 ≤ n := by omega
      have e : grS L n (List.replicate n [], kk + 2) (j + 1) = stp L n (grS L n (List.replicate n [], kk + 2) j) := rfl
      have ek : IntKind.i64.wrap (((m - j : Nat) : Int) - 1) = ((m - (j + 1) : Nat) : Int) := by rw [wrapS _ (by omega) (by omega)]; omega
      generalize hy : grS L n (List.replicate n [], kk + 2) j = y at hj2 hkj e
      have q1 := nextZ_rng L y.2 n (by omega) (by omega)
      have q2 := nextZ_rng L (y.2 + 1) n (by omega) (by omega)
      have m1 := next_ct L y.2 n (by omega)
      have m2 := next_ct L (y.2 + 1) n (by omega)
      unfold stp at e
      obtain ⟨v, hv⟩ : ∃ v : Nat, nextZ L y.2 n = (v : Int) := ⟨(nextZ L y.2 n).toNat, by omega⟩
      obtain ⟨w, hw⟩ : ∃ w : Nat, nextZ L (y.2 + 1) n = (w : Int) := ⟨(nextZ L (y.2 + 1) n).toNat, by omega⟩
      rw [hv] at q1 m1 e
      rw [hw] at q2 m2 e
      simp only [Int.toNat_natCast] at e
      have hvg : v < y.1.length := by rw [hj2.len]; omega
      have hlen := (hj2.row v (by omega)).1
      have hrow := gL_get0 hvg
      have hc := has_ct (y.1.getD v []) (w : Int) (by omega)
      have ic := ins_ct (y.1.getD v []) (w : Int) (by omega)
      have next : ∀ (g' : List (List Int)) (st : St), grS L n (List.replicate n [], kk + 2) (j + 1) = (g', y.2 + 2) → Ren 1 st (lo9 ⟨L, g', [], [], [], y.2 + 2, n, ((m - (j + 1) : Nat) : Int), 0, 0, 0, 0, 0, false⟩) → ∃ j', Ren 1 st (lo9 ⟨L, (grS L n (List.replicate n [], kk + 2) j').1, [], [], [], (grS L n (List.replicate n [], kk + 2) j').2, n, ((m - j' : Nat) : Int), 0, 0, 0, 0, 0, false⟩) ∧ j' ≤ m ∧ m + 1 - j' < m + 1 - j := by
        intro g' st eg hst
        refine ⟨j + 1, ?_, h, by omega⟩
        rw [eg]; exact hst
      by_cases hvw : v = w
      · rw [if_pos hvw] at e
        refine T.path mix (grr_2 ⟨L, y.1, [], [], [], y.2, n, ((m - j : Nat) : Int), v, w, 0, 0, 0, false⟩ (decide_eq_true (by simp only; omega)) m1 m2 (by simp [iN, hvw]) ?_)
        intro st hst
        simp only [ek] at hst
        exact next _ st e hst
      · rw [if_neg hvw] at e
        by_cases hh : hasZ (y.1.getD v []) (w : Int) = true
        · rw [if_pos hh] at e
          rw [hh] at hc
          refine T.path mix (grr_1 ⟨L, y.1, y.1.getD v [], [], [], y.2, n, ((m - j : Nat) : Int), v, w, 0, 0, 0, true⟩ (decide_eq_true (by simp only; omega)) m1 m2 (by simp [iN]; omega) (by simp [iN]) (by simp [iN]; omega) hrow hc rfl ?_)
          intro st hst
          simp only [ek] at hst
          exact next _ st e hst
        · rw [if_neg hh] at e
          rw [Bool.eq_false_iff.2 hh] at hc
          refine T.path mix (grr_0 ⟨L, y.1, y.1.getD v [], insB (w : Int) (y.1.getD v []), [], y.2, n, ((m - j : Nat) : Int), v, w, 0, 0, 0, false⟩ (decide_eq_true (by simp only; omega)) m1 m2 (by simp [iN]; omega) (by simp [iN]) (by simp [iN]; omega) hrow hc rfl ic (by simp [iN, gL_len]; omega) ?_)
          intro st hst
          simp only [ek, iN, Int.toNat_natCast] at hst
          have hs2 := gL_set y.1 v (insB (w : Int) (y.1.getD v []))
          unfold lI at hs2
          rw [hs2] at hst
          exact next _ st e hst
    · obtain rfl : j = m := by omega
      exact T.out mix (grx_0 ⟨L, (grS L n (List.replicate n [], kk + 2) j).1, [], [], [], (grS L n (List.replicate n [], kk + 2) j).2, n, ((j - j : Nat) : Int), 0, 0, 0, 0, 0, false⟩ (decide_eq_false (by simp only; omega)) (by simp only [gL_len, hj2.len]))
  have e0 : (List.replicate n AV.nils).map wkE = gL (List.replicate n []) := by simp [gL, wkE, wk1, lI]
  unfold lo9 at key
  simp only [grS, Nat.sub_zero, ← e0] at key
  exact key
theorem boL_set (s : List Bool) (v : Nat) (b : Bool) : (boL s).set (0 + v) (.bool b) = boL (s.set v b) := by rw [Nat.zero_add]; unfold boL; rw [List.map_set]
noncomputable def shS (L : List Int) (n : Nat) (y : List Bool × Nat) : Nat → List Bool × Nat
  | 0 => y
  | j + 1 => ((shS L n y j).1.set (nextZ L (shS L n y j).2 n).toNat true, (shS L n y j).2 + 1)
theorem shS_kk (L : List Int) (n : Nat) (y : List Bool × Nat) (j : Nat) : (shS L n y j).2 = y.2 + j := by
  induction j with
  | zero => rfl
  | succ j ih => rw [shS, ih]; simp only; omega
theorem shS_len (L : List Int) (n : Nat) (y : List Bool × Nat) (j : Nat) : (shS L n y j).1.length = y.1.length := by
  induction j with
  | zero => rfl
  | succ j ih => rw [shS]; simp [ih]

theorem shut_ex (L : List Int) (kk n : Nat) (hn : n ≤ 1000) (hk : kk ≤ 1000000) : ∃ (s : List Bool) (kk' : Nat), s.length = n ∧ kk' ≤ kk + 10 ∧ CT Try.prog 10 [some (tapeB L kk)] [.ptr 0 0 0, .int .i64 (n : Nat)] [some (tapeB L kk')] (.lst (boL s)) := by
  have r1 := nextZ_rng L kk 3 (by omega) (by omega)
  have n1 := next_ct L kk 3 (by omega)
  obtain ⟨m, hmm⟩ : ∃ m : Nat, nextZ L kk 3 = (m : Int) := ⟨(nextZ L kk 3).toNat, by omega⟩
  rw [hmm] at n1 r1
  have hkk := shS_kk L n (List.replicate n false, kk + 1)
  have hln := shS_len L n (List.replicate n false, kk + 1)
  have e0 : List.replicate n (AV.bool false) = boL (List.replicate n false) := by simp [boL]
  by_cases h0 : n = 0
  · subst h0
    refine ⟨[], kk + 1, rfl, by omega, ?_⟩
    refine CT.path mix Try.func10 (show Try.f10.body = some (bodyOf Try.f10) by kernel_rfl) (Nat.le_of_ble_eq_true rfl) (sh_0 ⟨L, [], [], [], [], kk, 0, (m : Nat), 0, 0, 0, 0, 0, false⟩ (by simp [iN]) (by simp) (by simp only [iN]; omega) (by simp only [iN]; omega) n1 ?_)
    refine T.loop (fun j : Nat => lo10 ⟨L, [], [], [], [], kk + 1, 0, (m : Nat), 0, 0, 0, 0, 0, false⟩) (fun j => True) (fun j => 0) 0 trivial ?_
    intro j _
    by_cases hm : 0 < m
    · exact T.out mix (shx_0 ⟨L, [], [], [], [], kk + 1, 0, (m : Nat), 0, 0, 0, 0, 0, false⟩ (decide_eq_true (by simp only; omega)) (by simp [iN]) rfl)
    · exact T.out mix (shx_1 ⟨L, [], [], [], [], kk + 1, 0, (m : Nat), 0, 0, 0, 0, 0, false⟩ (decide_eq_false (by simp only; omega)) rfl)
  refine ⟨(shS L n (List.replicate n false, kk + 1) m).1, (shS L n (List.replicate n false, kk + 1) m).2, by rw [hln]; simp, by rw [hkk]; simp only; omega, ?_⟩
  refine CT.path mix Try.func10 (show Try.f10.body = some (bodyOf Try.f10) by kernel_rfl) (Nat.le_of_ble_eq_true rfl) (sh_0 ⟨L, [], [], [], [], kk, n, (m : Nat), 0, 0, 0, 0, 0, false⟩ (by simp [iN]) (by simp) (by simp only [iN]; omega) (by simp only [iN]; omega) n1 ?_)
  have key : T Try.prog 1 (.loop (loopC (bodyOf Try.f10) 0)) (lo10 ⟨L, [], [], [], (shS L n (List.replicate n false, kk + 1) 0).1, (shS L n (List.replicate n false, kk + 1) 0).2, n, ((m - 0 : Nat) : Int), 0, 0, 0, 0, 0, false⟩) (TK Try.prog 1 (Fin Try.prog Try.f10 1 [some (tapeB L (shS L n (List.replicate n false, kk + 1) m).2)] (.lst (boL (shS L n (List.replicate n false, kk + 1) m).1))) (loopK (bodyOf Try.f10) 0)) := by
    refine T.loop (fun j : Nat => lo10 ⟨L, [], [], [], (shS L n (List.replicate n false, kk + 1) j).1, (shS L n (List.replicate n false, kk + 1) j).2, n, ((m - j : Nat) : Int), 0, 0, 0, 0, 0, false⟩) (fun j => j ≤ m) (fun j => m + 1 - j) 0 (Nat.zero_le _) ?_
    intro j hj
    have hkj := hkk j
    have hlj := hln j
    simp only [List.length_replicate] at hkj hlj
    by_cases h : j < m
    · have ek : IntKind.i64.wrap (((m - j : Nat) : Int) - 1) = ((m - (j + 1) : Nat) : Int) := by rw [wrapS _ (by omega) (by omega)]; omega
      have e : shS L n (List.replicate n false, kk + 1) (j + 1) = ((shS L n (List.replicate n false, kk + 1) j).1.set (nextZ L (shS L n (List.replicate n false, kk + 1) j).2 n).toNat true, (shS L n (List.replicate n false, kk + 1) j).2 + 1) := rfl
      generalize shS L n (List.replicate n false, kk + 1) j = y at hkj hlj e
      have q1 := nextZ_rng L y.2 n (by omega) (by omega)
      have m1 := next_ct L y.2 n (by omega)
      obtain ⟨v, hv⟩ : ∃ v : Nat, nextZ L y.2 n = (v : Int) := ⟨(nextZ L y.2 n).toNat, by omega⟩
      rw [hv] at q1 m1 e
      simp only [Int.toNat_natCast] at e
      have hbl := boL_len y.1
      refine T.path mix (shr_0 ⟨L, [], [], [], y.1, y.2, n, ((m - j : Nat) : Int), v, 0, 0, 0, 0, false⟩ (decide_eq_true (by simp only; omega)) (by simp [iN]; omega) m1 (by simp [iN]) (by simp [iN]; omega) (by simp [iN, boL_len]; omega) ?_)
      intro st hst
      refine ⟨j + 1, ?_, h, by omega⟩
      simp only [ek, iN, Int.toNat_natCast] at hst
      rw [boL_set] at hst
      rw [e]; exact hst
    · obtain rfl : j = m := by omega
      exact T.out mix (shx_1 ⟨L, [], [], [], (shS L n (List.replicate n false, kk + 1) j).1, (shS L n (List.replicate n false, kk + 1) j).2, n, ((j - j : Nat) : Int), 0, 0, 0, 0, 0, false⟩ (decide_eq_false (by simp only; omega)) (by simp only [boL_len, hlj]))
  unfold lo10 at key
  simp only [shS, Nat.sub_zero, ← e0] at key
  exact key
end Go.Proofs.Ytcdgphdieemjcaa

/-! Contracts. -/
open Go Go.AX Go.Proofs
set_option maxRecDepth 100000
set_option maxHeartbeats 1000000
set_option linter.unusedVariables false
set_option linter.unusedSimpArgs false
namespace Go.Proofs.Ytcdgphdieemjcaa
theorem getD_set (d : List Int) (v u : Nat) (x : Int) (hv : v < d.length) : (d.set v x).getD u 0 = if v = u then x else d.getD u 0 := by
  rw [List.getD_eq_getElem?_getD, List.getElem?_set, List.getD_eq_getElem?_getD]
  split
  · first | rfl | (rw [if_pos hv]; rfl)
  · rfl

theorem edges_eq (v far : Nat) : ∀ (r : List Int) (d : List Int), v < d.length → (∀ w ∈ r, w.toNat ≠ v) →
    edgesL r v far d = if (r.any fun w => d.getD w.toNat 0 == (far : Int)) = true then d.set v ((far + 1 : Nat) : Int) else d := by
  intro r
  induction r with
  | nil => intro d _ _; simp [edgesL]
  | cons w r ih =>
    intro d hv hr
    have hw := hr w (by simp)
    have hr' := fun x hx => hr x (List.mem_cons_of_mem _ hx)
    show edgesL r v far (edgeF v far d w) = _
    have key : ∀ d' : List Int, (∀ u, u ≠ v → d'.getD u 0 = d.getD u 0) → (r.any fun w => d'.getD w.toNat 0 == (far : Int)) = (r.any fun w => d.getD w.toNat 0 == (far : Int)) := by
      intro d' h
      rw [Bool.eq_iff_iff, List.any_eq_true, List.any_eq_true]
      constructor
      · rintro ⟨x, hx, he⟩; exact ⟨x, hx, by rw [← h _ (hr' x hx)]; exact he⟩
      · rintro ⟨x, hx, he⟩; exact ⟨x, hx, by rw [h _ (hr' x hx)]; exact he⟩
    rw [ih _ (by rw [edgeF_len]; exact hv) hr', List.any_cons]
    unfold edgeF
    by_cases he : (d.getD w.toNat 0 == (far : Int)) = true
    · rw [if_pos he, he, Bool.true_or, if_pos rfl, List.set_set]
      split <;> rfl
    · rw [if_neg he, Bool.eq_false_iff.2 he, Bool.false_or]

/-- What a round makes of a vertex. -/
def rdV (g : List (List Int)) (s : List Bool) (d : List Int) (far v : Nat) : Int :=
  if s.getD v false = true then d.getD v 0 else if 0 ≤ d.getD v 0 then d.getD v 0 else if ((g.getD v []).any fun w => d.getD w.toNat 0 == (far : Int)) = true then ((far + 1 : Nat) : Int) else d.getD v 0

theorem round_get {g : List (List Int)} {s : List Bool} (hg : OkG g s) (d : List Int) (hd : d.length = g.length) (far : Nat) : ∀ v, v < g.length → (roundL g s d far).getD v 0 = rdV g s d far v := by
  have key : ∀ j, j ≤ g.length → ∀ v, v < g.length → ((List.range j).foldl (vertF g s far) d).getD v 0 = if v < j then rdV g s d far v else d.getD v 0 := by
    intro j
    induction j with
    | zero => intro _ v _; rw [if_neg (by omega)]; rfl
    | succ j ih =>
      intro hj v hv
      have ih := ih (by omega)
      rw [range_fold]
      have hlen : ((List.range j).foldl (vertF g s far) d).length = g.length := by rw [foldl_len (vertF_len g s far), hd]
      generalize (List.range j).foldl (vertF g s far) d = e at ih hlen
      have hej : e.getD j 0 = d.getD j 0 := by rw [ih j (by omega), if_neg (by omega)]
      have hw : ∀ w ∈ g.getD j [], w.toNat ≠ j := fun w hw => by have := (hg.row j (by omega)).2 w hw; omega
      have hany : ((g.getD j []).any fun w => e.getD w.toNat 0 == (far : Int)) = ((g.getD j []).any fun w => d.getD w.toNat 0 == (far : Int)) := by
        have pt : ∀ w ∈ g.getD j [], (e.getD w.toNat 0 == (far : Int)) = (d.getD w.toNat 0 == (far : Int)) := by
          intro w hwm
          have := (hg.row j (by omega)).2 w hwm
          rw [ih w.toNat (by omega)]
          split
          · unfold rdV
            split
            · rfl
            · split
              · rfl
              · split
                · rw [Bool.eq_iff_iff, beq_iff_eq, beq_iff_eq]; constructor <;> intro h <;> omega
                · rfl
          · rfl
        rw [Bool.eq_iff_iff, List.any_eq_true, List.any_eq_true]
        constructor
        · rintro ⟨x, hx, he⟩; exact ⟨x, hx, by rw [← pt x hx]; exact he⟩
        · rintro ⟨x, hx, he⟩; exact ⟨x, hx, by rw [pt x hx]; exact he⟩
      have hv1 : (vertF g s far e j).getD v 0 = if v = j then rdV g s d far j else e.getD v 0 := by
        unfold vertF rdV
        rw [hej]
        by_cases h1 : s.getD j false = true
        · rw [if_pos h1, if_pos h1]; split
          · rename_i h; subst h; exact hej
          · rfl
        · rw [if_neg h1, if_neg h1]
          by_cases h2 : 0 ≤ d.getD j 0
          · rw [decide_eq_true h2, if_pos rfl, if_pos h2]; split
            · rename_i h; subst h; exact hej
            · rfl
          · rw [if_neg (by simpa using h2), if_neg h2, edges_eq j far _ e (by omega) hw, hany]
            by_cases h3 : ((g.getD j []).any fun w => d.getD w.toNat 0 == (far : Int)) = true
            · rw [if_pos h3, if_pos h3, getD_set e j v _ (by omega)]
              by_cases h4 : v = j
              · rw [if_pos h4.symm, if_pos h4]
              · rw [if_neg fun h => h4 h.symm, if_neg h4]
            · rw [if_neg h3, if_neg h3]; split
              · rename_i h; subst h; exact hej
              · rfl
      rw [hv1]
      by_cases h : v = j
      · subst h; rw [if_pos rfl, if_pos (by omega)]
      · rw [if_neg h, ih v hv]
        by_cases h2 : v < j
        · rw [if_pos h2, if_pos (by omega)]
        · rw [if_neg h2, if_neg (by omega)]
  intro v hv
  rw [roundL, key g.length (Nat.le_refl _) v hv, if_pos hv]

/-- What holds after 'k' rounds. -/
structure Lev (g : List (List Int)) (s : List Bool) (goal k : Nat) (d : List Int) : Prop where
  len : d.length = g.length
  zero : d.getD goal 0 = 0
  bnd : ∀ v, v < g.length → -1 ≤ d.getD v 0 ∧ d.getD v 0 ≤ k
  back : ∀ v, v < g.length → 0 ≤ d.getD v 0 → v = goal ∨ (s.getD v false = false ∧ ∃ w ∈ g.getD v [], 0 ≤ d.getD w.toNat 0 ∧ d.getD v 0 = d.getD w.toNat 0 + 1)
  fwd : ∀ v, v < g.length → s.getD v false = false → ∀ w ∈ g.getD v [], 0 ≤ d.getD w.toNat 0 → d.getD w.toNat 0 < k → 0 ≤ d.getD v 0 ∧ d.getD v 0 ≤ d.getD w.toNat 0 + 1

theorem Lev.step {g : List (List Int)} {s : List Bool} (hg : OkG g s) {goal k : Nat} {d : List Int} (hgo : goal < g.length) (h : Lev g s goal k d) : Lev g s goal (k + 1) (roundL g s d k) := by
  have rg := round_get hg d h.len k
  have same : ∀ v, v < g.length → 0 ≤ d.getD v 0 → rdV g s d k v = d.getD v 0 := by
    intro v hv h0; unfold rdV
    by_cases h1 : s.getD v false = true
    · rw [if_pos h1]
    · rw [if_neg h1, if_pos h0]
  have inr : ∀ v, v < g.length → ∀ w ∈ g.getD v [], w.toNat < g.length := fun v hv w hw => by have := (hg.row v hv).2 w hw; omega
  have cases' : ∀ v, v < g.length → rdV g s d k v = d.getD v 0 ∨ (s.getD v false = false ∧ d.getD v 0 < 0 ∧ rdV g s d k v = ((k + 1 : Nat) : Int) ∧ ∃ w ∈ g.getD v [], d.getD w.toNat 0 = (k : Int)) := by
    intro v hv
    unfold rdV
    by_cases h1 : s.getD v false = true
    · rw [if_pos h1]; exact .inl rfl
    · rw [if_neg h1]
      by_cases h2 : 0 ≤ d.getD v 0
      · rw [if_pos h2]; exact .inl rfl
      · rw [if_neg h2]
        by_cases h3 : ((g.getD v []).any fun w => d.getD w.toNat 0 == (k : Int)) = true
        · rw [if_pos h3]
          obtain ⟨w, hw, he⟩ := List.any_eq_true.1 h3
          exact .inr ⟨Bool.eq_false_iff.2 h1, by omega, rfl, w, hw, by simpa using he⟩
        · rw [if_neg h3]; exact .inl rfl
  refine ⟨by rw [roundL_len, h.len], ?_, fun v hv => ?_, fun v hv h0 => ?_, fun v hv hs w hw h0 hk => ?_⟩
  · rw [rg goal hgo, same goal hgo (by rw [h.zero]; omega), h.zero]
  · rw [rg v hv]
    have := h.bnd v hv
    rcases cases' v hv with e | ⟨_, _, e, _⟩ <;> rw [e] <;> omega
  · rw [rg v hv] at h0 ⊢
    rcases cases' v hv with e | ⟨e1, e2, e3, w, hw, e4⟩
    · rw [e] at h0 ⊢
      rcases h.back v hv h0 with hgl | ⟨h1, w, hw, h2, h3⟩
      · exact .inl hgl
      · refine .inr ⟨h1, w, hw, ?_⟩
        rw [rg _ (inr v hv w hw), same _ (inr v hv w hw) h2]
        exact ⟨h2, h3⟩
    · refine .inr ⟨e1, w, hw, ?_⟩
      rw [rg _ (inr v hv w hw), same _ (inr v hv w hw) (by omega), e3, e4]
      exact ⟨by omega, by omega⟩
  · have hwr := inr v hv w hw
    rw [rg _ hwr] at h0 hk ⊢
    rw [rg v hv]
    have hbv := h.bnd v hv
    have hbw := h.bnd _ hwr
    rcases cases' _ hwr with e | ⟨_, _, e, _⟩
    · rw [e] at h0 hk ⊢
      by_cases hlt : d.getD w.toNat 0 < k
      · obtain ⟨g1, g2⟩ := h.fwd v hv hs w hw h0 hlt
        rw [same v hv g1]; exact ⟨g1, g2⟩
      · have hwk : d.getD w.toNat 0 = (k : Int) := by omega
        by_cases hv0 : 0 ≤ d.getD v 0
        · rw [same v hv hv0]; exact ⟨hv0, by omega⟩
        · unfold rdV
          rw [if_neg (by rw [hs]; simp), if_neg hv0, if_pos (List.any_eq_true.2 ⟨w, hw, by simpa using hwk⟩)]
          exact ⟨by omega, by omega⟩
    · rw [e] at hk; omega

theorem Lev.start {g : List (List Int)} {s : List Bool} (hg : OkG g s) {goal : Nat} (hgo : goal < g.length) : Lev g s goal 0 (dist0 g goal) := by
  have rep : ∀ v, v < g.length → (List.replicate g.length (-1 : Int)).getD v 0 = -1 := by
    intro v hv; simp [List.getD_eq_getElem?_getD, hv]
  have e : ∀ v, v < g.length → (dist0 g goal).getD v 0 = if goal = v then 0 else -1 := by
    intro v hv
    unfold dist0
    rw [getD_set _ _ _ _ (by simpa using hgo), rep v hv]
  refine ⟨dist0_len g goal, by rw [e goal hgo, if_pos rfl], fun v hv => ?_, fun v hv h0 => ?_, fun v hv hs w hw h0 hk => ?_⟩
  · rw [e v hv]; split <;> omega
  · rw [e v hv] at h0
    split at h0
    · rename_i h; exact .inl h.symm
    · omega
  · omega

theorem Lev.run {g : List (List Int)} {s : List Bool} (hg : OkG g s) {goal : Nat} (hgo : goal < g.length) : ∀ k, Lev g s goal k ((List.range k).foldl (roundL g s) (dist0 g goal)) := by
  intro k
  induction k with
  | zero => exact Lev.start hg hgo
  | succ k ih => rw [range_fold]; exact ih.step hg hgo

theorem nodup_len : ∀ {l d : List Int}, l.Nodup → (∀ x ∈ l, x ∈ d) → l.length ≤ d.length := by
  intro l
  induction l with
  | nil => intro d _ _; simp
  | cons a l ih =>
    intro d hn hs
    rw [List.nodup_cons] at hn
    have ha := hs a (by simp)
    have := ih (d := d.erase a) hn.2 fun x hx => (List.mem_erase_of_ne (fun e => hn.1 (by rw [← e]; exact hx))).2 (hs x (List.mem_cons_of_mem _ hx))
    rw [List.length_erase_of_mem ha] at this
    have : 0 < d.length := List.length_pos_of_mem ha
    simp only [List.length_cons]; omega

/-- No level is as high as there are vertices. -/
theorem Lev.top {g : List (List Int)} {s : List Bool} (hg : OkG g s) {goal k : Nat} {d : List Int} (h : Lev g s goal k d) {v : Nat} (hv : v < g.length) : d.getD v 0 < g.length := by
  rcases Int.lt_or_le (d.getD v 0) 0 with hneg | hpos
  · omega
  obtain ⟨m, hm⟩ : ∃ m : Nat, d.getD v 0 = (m : Int) := ⟨(d.getD v 0).toNat, by omega⟩
  have occ : ∀ j, j ≤ m → ∃ u, u < g.length ∧ d.getD u 0 = ((m - j : Nat) : Int) := by
    intro j
    induction j with
    | zero => intro _; exact ⟨v, hv, by rw [hm]; rfl⟩
    | succ j ih =>
      intro hj
      obtain ⟨u, hu, he⟩ := ih (by omega)
      rcases h.back u hu (by omega) with rfl | ⟨_, w, hw, h1, h2⟩
      · rw [h.zero] at he; omega
      · have := (hg.row u hu).2 w hw
        exact ⟨w.toNat, by omega, by omega⟩
  have sub : ∀ x ∈ (List.range (m + 1)).map (fun j : Nat => (j : Int)), x ∈ d := by
    intro x hx
    obtain ⟨j, hj, rfl⟩ := List.mem_map.1 hx
    have hj := List.mem_range.1 hj
    obtain ⟨u, hu, he⟩ := occ (m - j) (by omega)
    rw [show m - (m - j) = j by omega] at he
    rw [← he, List.getD_eq_getElem?_getD, List.getElem?_eq_getElem (by rw [h.len]; exact hu)]
    exact List.getElem_mem _
  have nd : ((List.range (m + 1)).map (fun j : Nat => (j : Int))).Nodup := by
    refine List.pairwise_map.2 ((List.nodup_range (n := m + 1)).imp fun hne e => hne (Int.ofNat_inj.1 e))
  have := nodup_len nd sub
  simp only [List.length_map, List.length_range, h.len] at this
  omega

/-- What the distances are. -/
structure Dst (g : List (List Int)) (s : List Bool) (goal : Nat) (d : List Int) : Prop where
  len : d.length = g.length
  shut : s.getD goal false = true → ∀ v, v < g.length → d.getD v 0 = -1
  zero : s.getD goal false = false → d.getD goal 0 = 0
  bnd : ∀ v, v < g.length → -1 ≤ d.getD v 0 ∧ d.getD v 0 < g.length
  back : ∀ v, v < g.length → 0 ≤ d.getD v 0 → v = goal ∨ (s.getD v false = false ∧ ∃ w ∈ g.getD v [], 0 ≤ d.getD w.toNat 0 ∧ d.getD v 0 = d.getD w.toNat 0 + 1)
  fwd : ∀ v, v < g.length → s.getD v false = false → ∀ w ∈ g.getD v [], 0 ≤ d.getD w.toNat 0 → 0 ≤ d.getD v 0 ∧ d.getD v 0 ≤ d.getD w.toNat 0 + 1

theorem dst_ok {g : List (List Int)} {s : List Bool} (hg : OkG g s) {goal : Nat} (hgo : goal < g.length) : Dst g s goal (distL g s goal g.length) := by
  have hl := distL_len g s goal g.length
  by_cases hs : s.getD goal false = true
  · have e : distL g s goal g.length = List.replicate g.length (-1) := by unfold distL; rw [if_pos hs]
    rw [e] at hl ⊢
    have rep : ∀ v, v < g.length → (List.replicate g.length (-1 : Int)).getD v 0 = -1 := by
      intro v hv; simp [List.getD_eq_getElem?_getD, hv]
    refine ⟨hl, fun _ => rep, fun h => by (rw [hs] at h; cases h), fun v hv => by rw [rep v hv]; omega, fun v hv h0 => by (rw [rep v hv] at h0; omega), fun v hv _ w hw h0 => ?_⟩
    have := (hg.row v hv).2 w hw
    rw [rep _ (by omega)] at h0; omega
  · have e : distL g s goal g.length = (List.range g.length).foldl (roundL g s) (dist0 g goal) := by unfold distL; rw [if_neg hs]
    rw [e] at hl ⊢
    have h := Lev.run hg hgo g.length
    exact ⟨h.len, fun h' => absurd h' hs, fun _ => h.zero, fun v hv => ⟨(h.bnd v hv).1, h.top hg hv⟩, h.back, fun v hv h1 w hw h0 => h.fwd v hv h1 w hw h0 (h.top hg (by have := (hg.row v hv).2 w hw; omega))⟩
end Go.Proofs.Ytcdgphdieemjcaa

/-! The paths of a function, by evaluation. -/
open Go Go.AX Go.Proofs
set_option maxRecDepth 100000
set_option maxHeartbeats 4000000
set_option linter.unusedVariables false
namespace Go.Proofs.Ytcdgphdieemjcaa
structure QT where
  L : List Int
  g : List (List Int)
  s : List Bool
  goal : Nat
  d : List Int
  v : Nat
  k : Nat
  r : List Int
  w : Nat
  b : Bool
  sb : Bool
  x : Int
  y : Int
  m1 : Nat
  m2 : Nat
def cT (q : QT) : Nat → FuncId → List AV → List (Option Blk) → Hint := fun dst f args hp => match f with
  | 9 => match args with
    | [.ptr b _ _, _] => .call [b] [] [tapeB q.L q.m1] (.lst (gL q.g))
    | _ => .no
  | 10 => match args with
    | [.ptr b _ _, _] => .call [b] [] [tapeB q.L q.m2] (.lst (boL q.s))
    | _ => .no
  | _ => .no
def e4 (q : QT) : List (Nat × AV) := [(49, .bool q.sb), (53, .int .i64 q.x), (70, .int .i64 q.x), (77, lI q.r), (85, lI q.r), (88, .int .i64 (iN q.w)), (92, .bool q.sb), (97, .int .i64 q.y), (103, .int .i64 q.x), (109, .int .i64 q.x), (113, .int .i64 q.y), (122, .int .i64 q.x), (126, .int .i64 q.y)]
end Go.Proofs.Ytcdgphdieemjcaa

/-! Contracts. -/
open Go Go.AX Go.Proofs
set_option maxRecDepth 100000
set_option maxHeartbeats 1000000
set_option linter.unusedVariables false
set_option linter.unusedSimpArgs false
namespace Go.Proofs.Ytcdgphdieemjcaa
/-- Through one of the edges of 'v' the distance is one less. -/
def Good (s : List Bool) (d : List Int) (v : Nat) (w : Int) : Prop := s.getD v false = false ∧ 0 ≤ d.getD w.toNat 0 ∧ d.getD v 0 = d.getD w.toNat 0 + 1

noncomputable def qt (g : List (List Int)) (s : List Bool) (goal : Nat) (d : List Int) (v k : Nat) (b : Bool) : QT := ⟨[], g, s, goal, d, v, k, [], 0, b, false, 0, 0, 0, 0⟩

end Go.Proofs.Ytcdgphdieemjcaa

/-! The paths of a function, by evaluation. -/
open Go Go.AX Go.Proofs
set_option maxRecDepth 100000
set_option maxHeartbeats 4000000
set_option linter.unusedVariables false
namespace Go.Proofs.Ytcdgphdieemjcaa
def bo2 (q : QT) : AV := .lst (boL (q.s.set q.v true))
def c5 (q : QT) : Nat → FuncId → List AV → List (Option Blk) → Hint := fun dst f args hp => match f with
  | 11 => nextG q.L args hp (match dst with | 33 => iN q.v | _ => iN q.goal)
  | _ => cT q dst f args hp
def e5 (q : QT) : List (Nat × AV) := [(81, .int .i64 q.y), (87, .int .i64 q.x), (93, .int .i64 q.y), (97, .int .i64 q.x)]
end Go.Proofs.Ytcdgphdieemjcaa

/-! Contracts. -/
open Go Go.AX Go.Proofs
set_option maxRecDepth 100000
set_option maxHeartbeats 1000000
set_option linter.unusedVariables false
set_option linter.unusedSimpArgs false
namespace Go.Proofs.Ytcdgphdieemjcaa
end Go.Proofs.Ytcdgphdieemjcaa

/-! The paths of a function, by evaluation. -/
open Go Go.AX Go.Proofs
set_option maxRecDepth 100000
set_option maxHeartbeats 4000000
set_option linter.unusedVariables false
namespace Go.Proofs.Ytcdgphdieemjcaa
def e27g (q : QK) : List (Nat × AV) := [(23, lI q.r), (31, lI q.r), (34, .int .i64 q.e), (55, lI q.r), (59, .int .i64 (iN q.w))]
def e27h (q : QK) : List (Nat × AV) := [(23, lI q.r), (31, lI q.r), (34, .int .i64 q.e), (55, lI q.r), (59, .int .i64 (q.p.getD 0 0))]
noncomputable def st40 (q : QK) : St := { n := Try.f31.ntmps, fr := [(0, .lst (gL q.g))], hp := [] }
noncomputable def la40 (q : QK) : St := { n := Try.f31.ntmps, fr := [(0, .lst (gL q.g)), (3, .int .i64 (iN q.a))], hp := [] }
noncomputable def lb40 (q : QK) : St := { n := Try.f31.ntmps, fr := [(0, .lst (gL q.g)), (3, .int .i64 (iN q.a)), (4, .int .i64 (iN q.i))], hp := [] }
def e40 (q : QK) : List (Nat × AV) := [(18, lI q.r), (26, lI q.r), (29, .int .i64 q.e), (51, lI q.r), (55, .int .i64 (q.p.getD 0 0))]
noncomputable def st35 (q : QK) : St := { n := Try.f25.ntmps, fr := [(0, .lst (gL q.g)), (1, .lst (boL q.s))], hp := [] }
def cV (q : QK) : Nat → FuncId → List AV → List (Option Blk) → Hint := fun dst f args _ => match f with
  | 31 => .call [] [] [] (.bool q.b)
  | 25 => .call [] [] [] (.int .i64 q.e)
  | _ => .no
theorem va_0 (q : QK) (h1 : (decide (24 < iN (gL q.g).length) = true)) : ∃ o' st' q', go Try.prog ({ dec := [(8, true)], els := e40 q, calls := cV q, unroll := false } : HT) 0 4000 (.inl (bodyOf Try.f31)) [] (st40 q) = some (o', st', q') ∧ q' ∧ Go.AX.Rest Try.prog 0 (Fin Try.prog Try.f31 0 [] (AV.bool false)) st' o' :=
  endF_spec (σ := []) (fz := []) (show endF Try.prog Try.f31 0 [] [] (go Try.prog ({ dec := [(8, true)], els := e40 q, calls := cV q, unroll := false } : HT) 0 4000 (.inl (bodyOf Try.f31)) [] (st40 q)) = some ([], AV.bool false, (((True ∧ True) ∧ (((True ∧ True) ∧ ((True ∧ True) ∧ ((True ∧ True) ∧ True))) ∧ ((type_of% h1) ∧ ((True ∧ True) ∧ True)))) ∧ (True ∧ True))) by kernel_rfl) ⟨⟨⟨trivial, trivial⟩, ⟨⟨⟨trivial, trivial⟩, ⟨⟨trivial, trivial⟩, ⟨⟨trivial, trivial⟩, trivial⟩⟩⟩, ⟨h1, ⟨⟨trivial, trivial⟩, trivial⟩⟩⟩⟩, ⟨trivial, trivial⟩⟩
theorem va_1 (q : QK) (h1 : (decide (24 < iN (gL q.g).length) = false)) {post : Exit → St → Prop} (ht : T Try.prog 0 (.loop (loopC (bodyOf Try.f31) 0)) (St.mk 60 [(0, AV.lst (gL q.g)), (3, AV.int IntKind.i64 0)] []) (TK Try.prog 0 post (loopK (bodyOf Try.f31) 0))) : ∃ o' st' q', go Try.prog ({ dec := [(8, false)], els := e40 q, calls := cV q, unroll := false } : HT) 0 4000 (.inl (bodyOf Try.f31)) [] (st40 q) = some (o', st', q') ∧ q' ∧ Go.AX.Rest Try.prog 0 post st' o' :=
  endR_spec (σ := []) (fz := []) (vars := [0,3]) (show endR 0 [] [] [0,3] (go Try.prog ({ dec := [(8, false)], els := e40 q, calls := cV q, unroll := false } : HT) 0 4000 (.inl (bodyOf Try.f31)) [] (st40 q)) = some (loopC (bodyOf Try.f31) 0, loopK (bodyOf Try.f31) 0, St.mk 60 [(0, AV.lst (gL q.g)), (3, AV.int IntKind.i64 0)] [], (((True ∧ True) ∧ (((True ∧ True) ∧ ((True ∧ True) ∧ ((True ∧ True) ∧ True))) ∧ ((type_of% h1) ∧ ((True ∧ True) ∧ True)))) ∧ (True ∧ (True ∧ True)))) by kernel_rfl) ⟨⟨⟨trivial, trivial⟩, ⟨⟨⟨trivial, trivial⟩, ⟨⟨trivial, trivial⟩, ⟨⟨trivial, trivial⟩, trivial⟩⟩⟩, ⟨h1, ⟨⟨trivial, trivial⟩, trivial⟩⟩⟩⟩, ⟨trivial, ⟨trivial, trivial⟩⟩⟩ ht
theorem vax_0 (q : QK) (h1 : (decide (iN q.a < iN (gL q.g).length) = false)) : ∃ o' st' q', go2 Try.prog ({ dec := [(12, false)], els := e40 q, calls := cV q, unroll := false } : HT) 0 4000 (loopC (bodyOf Try.f31) 0) (loopK (bodyOf Try.f31) 0) (la40 q) = some (o', st', q') ∧ q' ∧ Go.AX.Rest Try.prog 0 (Fin Try.prog Try.f31 0 [] (AV.bool true)) st' o' :=
  endF_spec (σ := []) (fz := []) (show endF Try.prog Try.f31 0 [] [] (go2 Try.prog ({ dec := [(12, false)], els := e40 q, calls := cV q, unroll := false } : HT) 0 4000 (loopC (bodyOf Try.f31) 0) (loopK (bodyOf Try.f31) 0) (la40 q)) = some ([], AV.bool true, (((((True ∧ True) ∧ ((True ∧ True) ∧ ((True ∧ True) ∧ ((True ∧ (True ∧ True)) ∧ True)))) ∧ ((type_of% h1) ∧ True)) ∧ ((True ∧ True) ∧ True)) ∧ (True ∧ True))) by kernel_rfl) ⟨⟨⟨⟨⟨trivial, trivial⟩, ⟨⟨trivial, trivial⟩, ⟨⟨trivial, trivial⟩, ⟨⟨trivial, ⟨trivial, trivial⟩⟩, trivial⟩⟩⟩⟩, ⟨h1, trivial⟩⟩, ⟨⟨trivial, trivial⟩, trivial⟩⟩, ⟨trivial, trivial⟩⟩
theorem vai_0 (q : QK) (h1 : (decide (iN q.a < iN (gL q.g).length) = true)) {post : Exit → St → Prop} (ht : T Try.prog 0 (.loop (loopC (loopC (bodyOf Try.f31) 0) 0)) (St.mk 60 [(0, AV.lst (gL q.g)), (3, AV.int IntKind.i64 (iN q.a)), (4, AV.int IntKind.i64 0)] []) (TK Try.prog 0 post (loopK (loopC (bodyOf Try.f31) 0) 0))) : ∃ o' st' q', go Try.prog ({ dec := [(12, true)], els := e40 q, calls := cV q, unroll := false } : HT) 0 4000 (.inl (loopC (bodyOf Try.f31) 0)) [] (la40 q) = some (o', st', q') ∧ q' ∧ Go.AX.Rest Try.prog 0 post st' o' :=
  endR_spec (σ := []) (fz := []) (vars := [0,3,4]) (show endR 0 [] [] [0,3,4] (go Try.prog ({ dec := [(12, true)], els := e40 q, calls := cV q, unroll := false } : HT) 0 4000 (.inl (loopC (bodyOf Try.f31) 0)) [] (la40 q)) = some (loopC (loopC (bodyOf Try.f31) 0) 0, loopK (loopC (bodyOf Try.f31) 0) 0, St.mk 60 [(0, AV.lst (gL q.g)), (3, AV.int IntKind.i64 (iN q.a)), (4, AV.int IntKind.i64 0)] [], ((((True ∧ True) ∧ ((True ∧ True) ∧ ((True ∧ True) ∧ ((True ∧ (True ∧ True)) ∧ True)))) ∧ ((type_of% h1) ∧ ((True ∧ True) ∧ True))) ∧ (True ∧ (True ∧ (True ∧ True))))) by kernel_rfl) ⟨⟨⟨⟨trivial, trivial⟩, ⟨⟨trivial, trivial⟩, ⟨⟨trivial, trivial⟩, ⟨⟨trivial, ⟨trivial, trivial⟩⟩, trivial⟩⟩⟩⟩, ⟨h1, ⟨⟨trivial, trivial⟩, trivial⟩⟩⟩, ⟨trivial, ⟨trivial, ⟨trivial, trivial⟩⟩⟩⟩ ht
theorem vbx_0 (q : QK) (h1 : (0 ≤ iN q.a)) (h2 : ((gL q.g)[(iN q.a).toNat]? = some (AV.lst (List.map (AV.int IntKind.i64) q.r)))) (h3 : (decide (iN q.i < iN (List.map (AV.int IntKind.i64) q.r).length) = false)) {post : Exit → St → Prop} {R : St → Prop} (hR : ∀ st, Ren 0 st (St.mk 60 [(0, AV.lst (gL q.g)), (3, AV.int IntKind.i64 (IntKind.i64.wrap (iN q.a + 1)))] []) → R st) : ∃ o' st' q', go2 Try.prog ({ dec := [(21, false)], els := e40 q, calls := cV q, unroll := false } : HT) 0 4000 (loopC (loopC (bodyOf Try.f31) 0) 0) (loopK (loopC (bodyOf Try.f31) 0) 0) (lb40 q) = some (o', st', q') ∧ q' ∧ Go.AX.Rest Try.prog 0 (andThen R post) st' o' :=
  endN_spec (σ := []) (fz := []) (vars := [0,3]) (show endN 0 [] [] [0,3] (go2 Try.prog ({ dec := [(21, false)], els := e40 q, calls := cV q, unroll := false } : HT) 0 4000 (loopC (loopC (bodyOf Try.f31) 0) 0) (loopK (loopC (bodyOf Try.f31) 0) 0) (lb40 q)) = some (St.mk 60 [(0, AV.lst (gL q.g)), (3, AV.int IntKind.i64 (IntKind.i64.wrap (iN q.a + 1)))] [], (((((True ∧ True) ∧ ((True ∧ True) ∧ ((True ∧ True) ∧ ((True ∧ (True ∧ ((type_of% h1) ∧ (type_of% h2)))) ∧ ((True ∧ True) ∧ ((True ∧ True) ∧ ((True ∧ (True ∧ True)) ∧ True))))))) ∧ ((type_of% h3) ∧ True)) ∧ (((True ∧ True) ∧ ((True ∧ True) ∧ ((True ∧ True) ∧ True))) ∧ True)) ∧ (True ∧ (True ∧ True)))) by kernel_rfl) ⟨⟨⟨⟨⟨trivial, trivial⟩, ⟨⟨trivial, trivial⟩, ⟨⟨trivial, trivial⟩, ⟨⟨trivial, ⟨trivial, ⟨h1, h2⟩⟩⟩, ⟨⟨trivial, trivial⟩, ⟨⟨trivial, trivial⟩, ⟨⟨trivial, ⟨trivial, trivial⟩⟩, trivial⟩⟩⟩⟩⟩⟩⟩, ⟨h3, trivial⟩⟩, ⟨⟨⟨trivial, trivial⟩, ⟨⟨trivial, trivial⟩, ⟨⟨trivial, trivial⟩, trivial⟩⟩⟩, trivial⟩⟩, ⟨trivial, ⟨trivial, trivial⟩⟩⟩ hR
theorem vbr_0 (q : QK) (h1 : (0 ≤ iN q.a)) (h2 : ((gL q.g)[(iN q.a).toNat]? = some (AV.lst (List.map (AV.int IntKind.i64) q.r)))) (h3 : (decide (iN q.i < iN (List.map (AV.int IntKind.i64) q.r).length) = true)) (h4 : (0 ≤ iN q.i)) (h5 : ((List.map (AV.int IntKind.i64) q.r)[(iN q.i).toNat]? = some (AV.int IntKind.i64 q.e))) (h6 : (decide (q.e < 0) = true)) {post : Exit → St → Prop} (hP : Pass post (Fin Try.prog Try.f31 0 [] (AV.bool false))) : ∃ o' st' q', go2 Try.prog ({ dec := [(21, true), (33, true)], els := e40 q, calls := cV q, unroll := false } : HT) 0 4000 (loopC (loopC (bodyOf Try.f31) 0) 0) (loopK (loopC (bodyOf Try.f31) 0) 0) (lb40 q) = some (o', st', q') ∧ q' ∧ Go.AX.Rest Try.prog 0 post st' o' :=
  endT_spec (σ := []) (fz := []) (show endT Try.prog Try.f31 0 [] [] (go2 Try.prog ({ dec := [(21, true), (33, true)], els := e40 q, calls := cV q, unroll := false } : HT) 0 4000 (loopC (loopC (bodyOf Try.f31) 0) 0) (loopK (loopC (bodyOf Try.f31) 0) 0) (lb40 q)) = some ([], AV.bool false, (((((True ∧ True) ∧ ((True ∧ True) ∧ ((True ∧ True) ∧ ((True ∧ (True ∧ ((type_of% h1) ∧ (type_of% h2)))) ∧ ((True ∧ True) ∧ ((True ∧ True) ∧ ((True ∧ (True ∧ True)) ∧ True))))))) ∧ ((type_of% h3) ∧ (((True ∧ True) ∧ ((True ∧ True) ∧ ((True ∧ (True ∧ ((type_of% h1) ∧ (type_of% h2)))) ∧ ((True ∧ True) ∧ ((True ∧ True) ∧ ((True ∧ (True ∧ ((type_of% h4) ∧ (type_of% h5)))) ∧ ((True ∧ True) ∧ ((True ∧ True) ∧ True)))))))) ∧ (((True ∧ True) ∧ ((True ∧ True) ∧ ((True ∧ True) ∧ ((type_of% h6) ∧ ((type_of% h6) ∧ ((type_of% h6) ∧ ((type_of% h6) ∧ (((type_of% h6) ∧ (True ∧ True)) ∧ ((True ∧ True) ∧ (True ∧ (True ∧ (True ∧ ((True ∧ (True ∧ True)) ∧ ((True ∧ True) ∧ (True ∧ (True ∧ (True ∧ (True ∧ (True ∧ (True ∧ (True ∧ (True ∧ (True ∧ (True ∧ (True ∧ (True ∧ (True ∧ (True ∧ ((True ∧ (True ∧ True)) ∧ True))))))))))))))))))))))))))))) ∧ (True ∧ ((True ∧ True) ∧ True)))))) ∧ True) ∧ (True ∧ True))) by kernel_rfl) ⟨⟨⟨⟨⟨trivial, trivial⟩, ⟨⟨trivial, trivial⟩, ⟨⟨trivial, trivial⟩, ⟨⟨trivial, ⟨trivial, ⟨h1, h2⟩⟩⟩, ⟨⟨trivial, trivial⟩, ⟨⟨trivial, trivial⟩, ⟨⟨trivial, ⟨trivial, trivial⟩⟩, trivial⟩⟩⟩⟩⟩⟩⟩, ⟨h3, ⟨⟨⟨trivial, trivial⟩, ⟨⟨trivial, trivial⟩, ⟨⟨trivial, ⟨trivial, ⟨h1, h2⟩⟩⟩, ⟨⟨trivial, trivial⟩, ⟨⟨trivial, trivial⟩, ⟨⟨trivial, ⟨trivial, ⟨h4, h5⟩⟩⟩, ⟨⟨trivial, trivial⟩, ⟨⟨trivial, trivial⟩, trivial⟩⟩⟩⟩⟩⟩⟩⟩, ⟨⟨⟨trivial, trivial⟩, ⟨⟨trivial, trivial⟩, ⟨⟨trivial, trivial⟩, ⟨h6, ⟨h6, ⟨h6, ⟨h6, ⟨⟨h6, ⟨trivial, trivial⟩⟩, ⟨⟨trivial, trivial⟩, ⟨trivial, ⟨trivial, ⟨trivial, ⟨⟨trivial, ⟨trivial, trivial⟩⟩, ⟨⟨trivial, trivial⟩, ⟨trivial, ⟨trivial, ⟨trivial, ⟨trivial, ⟨trivial, ⟨trivial, ⟨trivial, ⟨trivial, ⟨trivial, ⟨trivial, ⟨trivial, ⟨trivial, ⟨trivial, ⟨trivial, ⟨⟨trivial, ⟨trivial, trivial⟩⟩, trivial⟩⟩⟩⟩⟩⟩⟩⟩⟩⟩⟩⟩⟩⟩⟩⟩⟩⟩⟩⟩⟩⟩⟩⟩⟩⟩⟩⟩⟩, ⟨trivial, ⟨⟨trivial, trivial⟩, trivial⟩⟩⟩⟩⟩⟩, trivial⟩, ⟨trivial, trivial⟩⟩ hP
theorem vbr_1 (q : QK) (h1 : (0 ≤ iN q.a)) (h2 : ((gL q.g)[(iN q.a).toNat]? = some (AV.lst (List.map (AV.int IntKind.i64) q.r)))) (h3 : (decide (iN q.i < iN (List.map (AV.int IntKind.i64) q.r).length) = true)) (h4 : (0 ≤ iN q.i)) (h5 : ((List.map (AV.int IntKind.i64) q.r)[(iN q.i).toNat]? = some (AV.int IntKind.i64 q.e))) (h6 : (decide (q.e < 0) = false)) (h7 : (decide (iN (gL q.g).length ≤ q.e) = true)) {post : Exit → St → Prop} (hP : Pass post (Fin Try.prog Try.f31 0 [] (AV.bool false))) : ∃ o' st' q', go2 Try.prog ({ dec := [(21, true), (33, false), (39, true)], els := e40 q, calls := cV q, unroll := false } : HT) 0 4000 (loopC (loopC (bodyOf Try.f31) 0) 0) (loopK (loopC (bodyOf Try.f31) 0) 0) (lb40 q) = some (o', st', q') ∧ q' ∧ Go.AX.Rest Try.prog 0 post st' o' :=
  endT_spec (σ := []) (fz := []) (show endT Try.prog Try.f31 0 [] [] (go2 Try.prog ({ dec := [(21, true), (33, false), (39, true)], els := e40 q, calls := cV q, unroll := false } : HT) 0 4000 (loopC (loopC (bodyOf Try.f31) 0) 0) (loopK (loopC (bodyOf Try.f31) 0) 0) (lb40 q)) = some ([], AV.bool false, (((((True ∧ True) ∧ ((True ∧ True) ∧ ((True ∧ True) ∧ ((True ∧ (True ∧ ((type_of% h1) ∧ (type_of% h2)))) ∧ ((True ∧ True) ∧ ((True ∧ True) ∧ ((True ∧ (True ∧ True)) ∧ True))))))) ∧ ((type_of% h3) ∧ (((True ∧ True) ∧ ((True ∧ True) ∧ ((True ∧ (True ∧ ((type_of% h1) ∧ (type_of% h2)))) ∧ ((True ∧ True) ∧ ((True ∧ True) ∧ ((True ∧ (True ∧ ((type_of% h4) ∧ (type_of% h5)))) ∧ ((True ∧ True) ∧ ((True ∧ True) ∧ True)))))))) ∧ (((True ∧ True) ∧ ((True ∧ True) ∧ ((True ∧ True) ∧ (((type_of% h6) ∧ (True ∧ True)) ∧ (((type_of% h6) ∧ (True ∧ True)) ∧ (((type_of% h6) ∧ (True ∧ True)) ∧ (((type_of% h6) ∧ (True ∧ (True ∧ True))) ∧ (((type_of% h6) ∧ (True ∧ True)) ∧ ((True ∧ True) ∧ ((type_of% h7) ∧ ((type_of% h7) ∧ ((type_of% h7) ∧ (((type_of% h7) ∧ (True ∧ True)) ∧ ((True ∧ True) ∧ (True ∧ (True ∧ (True ∧ (True ∧ (True ∧ (True ∧ (True ∧ (True ∧ (True ∧ (True ∧ (True ∧ (True ∧ (True ∧ (True ∧ ((True ∧ (True ∧ True)) ∧ True))))))))))))))))))))))))))))) ∧ (True ∧ ((True ∧ True) ∧ True)))))) ∧ True) ∧ (True ∧ True))) by kernel_rfl) ⟨⟨⟨⟨⟨trivial, trivial⟩, ⟨⟨trivial, trivial⟩, ⟨⟨trivial, trivial⟩, ⟨⟨trivial, ⟨trivial, ⟨h1, h2⟩⟩⟩, ⟨⟨trivial, trivial⟩, ⟨⟨trivial, trivial⟩, ⟨⟨trivial, ⟨trivial, trivial⟩⟩, trivial⟩⟩⟩⟩⟩⟩⟩, ⟨h3, ⟨⟨⟨trivial, trivial⟩, ⟨⟨trivial, trivial⟩, ⟨⟨trivial, ⟨trivial, ⟨h1, h2⟩⟩⟩, ⟨⟨trivial, trivial⟩, ⟨⟨trivial, trivial⟩, ⟨⟨trivial, ⟨trivial, ⟨h4, h5⟩⟩⟩, ⟨⟨trivial, trivial⟩, ⟨⟨trivial, trivial⟩, trivial⟩⟩⟩⟩⟩⟩⟩⟩, ⟨⟨⟨trivial, trivial⟩, ⟨⟨trivial, trivial⟩, ⟨⟨trivial, trivial⟩, ⟨⟨h6, ⟨trivial, trivial⟩⟩, ⟨⟨h6, ⟨trivial, trivial⟩⟩, ⟨⟨h6, ⟨trivial, trivial⟩⟩, ⟨⟨h6, ⟨trivial, ⟨trivial, trivial⟩⟩⟩, ⟨⟨h6, ⟨trivial, trivial⟩⟩, ⟨⟨trivial, trivial⟩, ⟨h7, ⟨h7, ⟨h7, ⟨⟨h7, ⟨trivial, trivial⟩⟩, ⟨⟨trivial, trivial⟩, ⟨trivial, ⟨trivial, ⟨trivial, ⟨trivial, ⟨trivial, ⟨trivial, ⟨trivial, ⟨trivial, ⟨trivial, ⟨trivial, ⟨trivial, ⟨trivial, ⟨trivial, ⟨trivial, ⟨⟨trivial, ⟨trivial, trivial⟩⟩, trivial⟩⟩⟩⟩⟩⟩⟩⟩⟩⟩⟩⟩⟩⟩⟩⟩⟩⟩⟩⟩⟩⟩⟩⟩⟩⟩⟩⟩⟩, ⟨trivial, ⟨⟨trivial, trivial⟩, trivial⟩⟩⟩⟩⟩⟩, trivial⟩, ⟨trivial, trivial⟩⟩ hP
theorem vbr_2 (q : QK) (h1 : (0 ≤ iN q.a)) (h2 : ((gL q.g)[(iN q.a).toNat]? = some (AV.lst (List.map (AV.int IntKind.i64) q.r)))) (h3 : (decide (iN q.i < iN (List.map (AV.int IntKind.i64) q.r).length) = true)) (h4 : (0 ≤ iN q.i)) (h5 : ((List.map (AV.int IntKind.i64) q.r)[(iN q.i).toNat]? = some (AV.int IntKind.i64 q.e))) (h6 : (decide (q.e < 0) = false)) (h7 : (decide (iN (gL q.g).length ≤ q.e) = false)) (h8 : ((q.e == iN q.a) = true)) {post : Exit → St → Prop} (hP : Pass post (Fin Try.prog Try.f31 0 [] (AV.bool false))) : ∃ o' st' q', go2 Try.prog ({ dec := [(21, true), (33, false), (39, false), (44, true)], els := e40 q, calls := cV q, unroll := false } : HT) 0 4000 (loopC (loopC (bodyOf Try.f31) 0) 0) (loopK (loopC (bodyOf Try.f31) 0) 0) (lb40 q) = some (o', st', q') ∧ q' ∧ Go.AX.Rest Try.prog 0 post st' o' :=
  endT_spec (σ := []) (fz := []) (show endT Try.prog Try.f31 0 [] [] (go2 Try.prog ({ dec := [(21, true), (33, false), (39, false), (44, true)], els := e40 q, calls := cV q, unroll := false } : HT) 0 4000 (loopC (loopC (bodyOf Try.f31) 0) 0) (loopK (loopC (bodyOf Try.f31) 0) 0) (lb40 q)) = some ([], AV.bool false, (((((True ∧ True) ∧ ((True ∧ True) ∧ ((True ∧ True) ∧ ((True ∧ (True ∧ ((type_of% h1) ∧ (type_of% h2)))) ∧ ((True ∧ True) ∧ ((True ∧ True) ∧ ((True ∧ (True ∧ True)) ∧ True))))))) ∧ ((type_of% h3) ∧ (((True ∧ True) ∧ ((True ∧ True) ∧ ((True ∧ (True ∧ ((type_of% h1) ∧ (type_of% h2)))) ∧ ((True ∧ True) ∧ ((True ∧ True) ∧ ((True ∧ (True ∧ ((type_of% h4) ∧ (type_of% h5)))) ∧ ((True ∧ True) ∧ ((True ∧ True) ∧ True)))))))) ∧ (((True ∧ True) ∧ ((True ∧ True) ∧ ((True ∧ True) ∧ (((type_of% h6) ∧ (True ∧ True)) ∧ (((type_of% h6) ∧ (True ∧ True)) ∧ (((type_of% h6) ∧ (True ∧ True)) ∧ (((type_of% h6) ∧ (True ∧ (True ∧ True))) ∧ (((type_of% h6) ∧ (True ∧ True)) ∧ ((True ∧ True) ∧ (((type_of% h7) ∧ (True ∧ True)) ∧ (((type_of% h7) ∧ (True ∧ True)) ∧ (((type_of% h7) ∧ (True ∧ (True ∧ True))) ∧ (((type_of% h7) ∧ (True ∧ True)) ∧ ((True ∧ True) ∧ ((type_of% h8) ∧ ((type_of% h8) ∧ ((type_of% h8) ∧ (True ∧ (True ∧ (True ∧ (True ∧ (True ∧ (True ∧ (True ∧ (True ∧ (True ∧ (True ∧ ((type_of% h8) ∧ (((type_of% h8) ∧ (True ∧ True)) ∧ True))))))))))))))))))))))))))))) ∧ (True ∧ ((True ∧ True) ∧ True)))))) ∧ True) ∧ (True ∧ True))) by kernel_rfl) ⟨⟨⟨⟨⟨trivial, trivial⟩, ⟨⟨trivial, trivial⟩, ⟨⟨trivial, trivial⟩, ⟨⟨trivial, ⟨trivial, ⟨h1, h2⟩⟩⟩, ⟨⟨trivial, trivial⟩, ⟨⟨trivial, trivial⟩, ⟨⟨trivial, ⟨trivial, trivial⟩⟩, trivial⟩⟩⟩⟩⟩⟩⟩, ⟨h3, ⟨⟨⟨trivial, trivial⟩, ⟨⟨trivial, trivial⟩, ⟨⟨trivial, ⟨trivial, ⟨h1, h2⟩⟩⟩, ⟨⟨trivial, trivial⟩, ⟨⟨trivial, trivial⟩, ⟨⟨trivial, ⟨trivial, ⟨h4, h5⟩⟩⟩, ⟨⟨trivial, trivial⟩, ⟨⟨trivial, trivial⟩, trivial⟩⟩⟩⟩⟩⟩⟩⟩, ⟨⟨⟨trivial, trivial⟩, ⟨⟨trivial, trivial⟩, ⟨⟨trivial, trivial⟩, ⟨⟨h6, ⟨trivial, trivial⟩⟩, ⟨⟨h6, ⟨trivial, trivial⟩⟩, ⟨⟨h6, ⟨trivial, trivial⟩⟩, ⟨⟨h6, ⟨trivial, ⟨trivial, trivial⟩⟩⟩, ⟨⟨h6, ⟨trivial, trivial⟩⟩, ⟨⟨trivial, trivial⟩, ⟨⟨h7, ⟨trivial, trivial⟩⟩, ⟨⟨h7, ⟨trivial, trivial⟩⟩, ⟨⟨h7, ⟨trivial, ⟨trivial, trivial⟩⟩⟩, ⟨⟨h7, ⟨trivial, trivial⟩⟩, ⟨⟨trivial, trivial⟩, ⟨h8, ⟨h8, ⟨h8, ⟨trivial, ⟨trivial, ⟨trivial, ⟨trivial, ⟨trivial, ⟨trivial, ⟨trivial, ⟨trivial, ⟨trivial, ⟨trivial, ⟨h8, ⟨⟨h8, ⟨trivial, trivial⟩⟩, trivial⟩⟩⟩⟩⟩⟩⟩⟩⟩⟩⟩⟩⟩⟩⟩⟩⟩⟩⟩⟩⟩⟩⟩⟩⟩⟩⟩⟩⟩, ⟨trivial, ⟨⟨trivial, trivial⟩, trivial⟩⟩⟩⟩⟩⟩, trivial⟩, ⟨trivial, trivial⟩⟩ hP
theorem vbr_3 (q : QK) (h1 : (0 ≤ iN q.a)) (h2 : ((gL q.g)[(iN q.a).toNat]? = some (AV.lst (List.map (AV.int IntKind.i64) q.r)))) (h3 : (decide (iN q.i < iN (List.map (AV.int IntKind.i64) q.r).length) = true)) (h4 : (0 ≤ iN q.i)) (h5 : ((List.map (AV.int IntKind.i64) q.r)[(iN q.i).toNat]? = some (AV.int IntKind.i64 q.e))) (h6 : (decide (q.e < 0) = false)) (h7 : (decide (iN (gL q.g).length ≤ q.e) = false)) (h8 : ((q.e == iN q.a) = false)) (h9 : (decide (0 < iN q.i) = true)) (h10 : (0 ≤ IntKind.i64.wrap (iN q.i - 1))) (h11 : ((List.map (AV.int IntKind.i64) q.r)[(IntKind.i64.wrap (iN q.i - 1)).toNat]? = some (AV.int IntKind.i64 (q.p.getD 0 0)))) (h12 : (decide (q.e ≤ q.p.getD 0 0) = true)) {post : Exit → St → Prop} (hP : Pass post (Fin Try.prog Try.f31 0 [] (AV.bool false))) : ∃ o' st' q', go2 Try.prog ({ dec := [(21, true), (33, false), (39, false), (44, false), (47, true), (59, true)], els := e40 q, calls := cV q, unroll := false } : HT) 0 4000 (loopC (loopC (bodyOf Try.f31) 0) 0) (loopK (loopC (bodyOf Try.f31) 0) 0) (lb40 q) = some (o', st', q') ∧ q' ∧ Go.AX.Rest Try.prog 0 post st' o' :=
  endT_spec (σ := []) (fz := []) (show endT Try.prog Try.f31 0 [] [] (go2 Try.prog ({ dec := [(21, true), (33, false), (39, false), (44, false), (47, true), (59, true)], els := e40 q, calls := cV q, unroll := false } : HT) 0 4000 (loopC (loopC (bodyOf Try.f31) 0) 0) (loopK (loopC (bodyOf Try.f31) 0) 0) (lb40 q)) = some ([], AV.bool false, (((((True ∧ True) ∧ ((True ∧ True) ∧ ((True ∧ True) ∧ ((True ∧ (True ∧ ((type_of% h1) ∧ (type_of% h2)))) ∧ ((True ∧ True) ∧ ((True ∧ True) ∧ ((True ∧ (True ∧ True)) ∧ True))))))) ∧ ((type_of% h3) ∧ (((True ∧ True) ∧ ((True ∧ True) ∧ ((True ∧ (True ∧ ((type_of% h1) ∧ (type_of% h2)))) ∧ ((True ∧ True) ∧ ((True ∧ True) ∧ ((True ∧ (True ∧ ((type_of% h4) ∧ (type_of% h5)))) ∧ ((True ∧ True) ∧ ((True ∧ True) ∧ True)))))))) ∧ (((True ∧ True) ∧ ((True ∧ True) ∧ ((True ∧ True) ∧ (((type_of% h6) ∧ (True ∧ True)) ∧ (((type_of% h6) ∧ (True ∧ True)) ∧ (((type_of% h6) ∧ (True ∧ True)) ∧ (((type_of% h6) ∧ (True ∧ (True ∧ True))) ∧ (((type_of% h6) ∧ (True ∧ True)) ∧ ((True ∧ True) ∧ (((type_of% h7) ∧ (True ∧ True)) ∧ (((type_of% h7) ∧ (True ∧ True)) ∧ (((type_of% h7) ∧ (True ∧ (True ∧ True))) ∧ (((type_of% h7) ∧ (True ∧ True)) ∧ ((True ∧ True) ∧ (((type_of% h8) ∧ (True ∧ True)) ∧ (((type_of% h8) ∧ (True ∧ True)) ∧ (((type_of% h8) ∧ (True ∧ True)) ∧ (((type_of% h9) ∧ (True ∧ True)) ∧ (((type_of% h9) ∧ (True ∧ True)) ∧ (((type_of% h9) ∧ (True ∧ True)) ∧ (((type_of% h9) ∧ (True ∧ (True ∧ ((type_of% h1) ∧ (type_of% h2))))) ∧ (((type_of% h9) ∧ (True ∧ True)) ∧ (((type_of% h9) ∧ (True ∧ True)) ∧ (((type_of% h9) ∧ (True ∧ True)) ∧ (((type_of% h9) ∧ (True ∧ (True ∧ ((type_of% h10) ∧ (type_of% h11))))) ∧ (((type_of% h9) ∧ (True ∧ True)) ∧ (((type_of% h9) ∧ (True ∧ (True ∧ True))) ∧ (((type_of% h8) ∧ ((type_of% h9) ∧ (True ∧ True))) ∧ (((type_of% h8) ∧ (True ∧ True)) ∧ True))))))))))))))))))))))))))))) ∧ ((type_of% h12) ∧ ((True ∧ True) ∧ True)))))) ∧ True) ∧ (True ∧ True))) by kernel_rfl) ⟨⟨⟨⟨⟨trivial, trivial⟩, ⟨⟨trivial, trivial⟩, ⟨⟨trivial, trivial⟩, ⟨⟨trivial, ⟨trivial, ⟨h1, h2⟩⟩⟩, ⟨⟨trivial, trivial⟩, ⟨⟨trivial, trivial⟩, ⟨⟨trivial, ⟨trivial, trivial⟩⟩, trivial⟩⟩⟩⟩⟩⟩⟩, ⟨h3, ⟨⟨⟨trivial, trivial⟩, ⟨⟨trivial, trivial⟩, ⟨⟨trivial, ⟨trivial, ⟨h1, h2⟩⟩⟩, ⟨⟨trivial, trivial⟩, ⟨⟨trivial, trivial⟩, ⟨⟨trivial, ⟨trivial, ⟨h4, h5⟩⟩⟩, ⟨⟨trivial, trivial⟩, ⟨⟨trivial, trivial⟩, trivial⟩⟩⟩⟩⟩⟩⟩⟩, ⟨⟨⟨trivial, trivial⟩, ⟨⟨trivial, trivial⟩, ⟨⟨trivial, trivial⟩, ⟨⟨h6, ⟨trivial, trivial⟩⟩, ⟨⟨h6, ⟨trivial, trivial⟩⟩, ⟨⟨h6, ⟨trivial, trivial⟩⟩, ⟨⟨h6, ⟨trivial, ⟨trivial, trivial⟩⟩⟩, ⟨⟨h6, ⟨trivial, trivial⟩⟩, ⟨⟨trivial, trivial⟩, ⟨⟨h7, ⟨trivial, trivial⟩⟩, ⟨⟨h7, ⟨trivial, trivial⟩⟩, ⟨⟨h7, ⟨trivial, ⟨trivial, trivial⟩⟩⟩, ⟨⟨h7, ⟨trivial, trivial⟩⟩, ⟨⟨trivial, trivial⟩, ⟨⟨h8, ⟨trivial, trivial⟩⟩, ⟨⟨h8, ⟨trivial, trivial⟩⟩, ⟨⟨h8, ⟨trivial, trivial⟩⟩, ⟨⟨h9, ⟨trivial, trivial⟩⟩, ⟨⟨h9, ⟨trivial, trivial⟩⟩, ⟨⟨h9, ⟨trivial, trivial⟩⟩, ⟨⟨h9, ⟨trivial, ⟨trivial, ⟨h1, h2⟩⟩⟩⟩, ⟨⟨h9, ⟨trivial, trivial⟩⟩, ⟨⟨h9, ⟨trivial, trivial⟩⟩, ⟨⟨h9, ⟨trivial, trivial⟩⟩, ⟨⟨h9, ⟨trivial, ⟨trivial, ⟨h10, h11⟩⟩⟩⟩, ⟨⟨h9, ⟨trivial, trivial⟩⟩, ⟨⟨h9, ⟨trivial, ⟨trivial, trivial⟩⟩⟩, ⟨⟨h8, ⟨h9, ⟨trivial, trivial⟩⟩⟩, ⟨⟨h8, ⟨trivial, trivial⟩⟩, trivial⟩⟩⟩⟩⟩⟩⟩⟩⟩⟩⟩⟩⟩⟩⟩⟩⟩⟩⟩⟩⟩⟩⟩⟩⟩⟩⟩⟩⟩, ⟨h12, ⟨⟨trivial, trivial⟩, trivial⟩⟩⟩⟩⟩⟩, trivial⟩, ⟨trivial, trivial⟩⟩ hP
theorem vbr_4 (q : QK) (h1 : (0 ≤ iN q.a)) (h2 : ((gL q.g)[(iN q.a).toNat]? = some (AV.lst (List.map (AV.int IntKind.i64) q.r)))) (h3 : (decide (iN q.i < iN (List.map (AV.int IntKind.i64) q.r).length) = true)) (h4 : (0 ≤ iN q.i)) (h5 : ((List.map (AV.int IntKind.i64) q.r)[(iN q.i).toNat]? = some (AV.int IntKind.i64 q.e))) (h6 : (decide (q.e < 0) = false)) (h7 : (decide (iN (gL q.g).length ≤ q.e) = false)) (h8 : ((q.e == iN q.a) = false)) (h9 : (decide (0 < iN q.i) = true)) (h10 : (0 ≤ IntKind.i64.wrap (iN q.i - 1))) (h11 : ((List.map (AV.int IntKind.i64) q.r)[(IntKind.i64.wrap (iN q.i - 1)).toNat]? = some (AV.int IntKind.i64 (q.p.getD 0 0)))) (h12 : (decide (q.e ≤ q.p.getD 0 0) = false)) {post : Exit → St → Prop} {R : St → Prop} (hR : ∀ st, Ren 0 st (St.mk 60 [(0, AV.lst (gL q.g)), (3, AV.int IntKind.i64 (iN q.a)), (4, AV.int IntKind.i64 (IntKind.i64.wrap (iN q.i + 1)))] []) → R st) : ∃ o' st' q', go Try.prog ({ dec := [(21, true), (33, false), (39, false), (44, false), (47, true), (59, false)], els := e40 q, calls := cV q, unroll := false } : HT) 0 4000 (.inl (loopC (loopC (bodyOf Try.f31) 0) 0)) [] (lb40 q) = some (o', st', q') ∧ q' ∧ Go.AX.Rest Try.prog 0 (andThen R post) st' o' :=
  endN_spec (σ := []) (fz := []) (vars := [0,3,4]) (show endN 0 [] [] [0,3,4] (go Try.prog ({ dec := [(21, true), (33, false), (39, false), (44, false), (47, true), (59, false)], els := e40 q, calls := cV q, unroll := false } : HT) 0 4000 (.inl (loopC (loopC (bodyOf Try.f31) 0) 0)) [] (lb40 q)) = some (St.mk 60 [(0, AV.lst (gL q.g)), (3, AV.int IntKind.i64 (iN q.a)), (4, AV.int IntKind.i64 (IntKind.i64.wrap (iN q.i + 1)))] [], ((((True ∧ True) ∧ ((True ∧ True) ∧ ((True ∧ True) ∧ ((True ∧ (True ∧ ((type_of% h1) ∧ (type_of% h2)))) ∧ ((True ∧ True) ∧ ((True ∧ True) ∧ ((True ∧ (True ∧ True)) ∧ True))))))) ∧ ((type_of% h3) ∧ (((True ∧ True) ∧ ((True ∧ True) ∧ ((True ∧ (True ∧ ((type_of% h1) ∧ (type_of% h2)))) ∧ ((True ∧ True) ∧ ((True ∧ True) ∧ ((True ∧ (True ∧ ((type_of% h4) ∧ (type_of% h5)))) ∧ ((True ∧ True) ∧ ((True ∧ True) ∧ True)))))))) ∧ (((True ∧ True) ∧ ((True ∧ True) ∧ ((True ∧ True) ∧ (((type_of% h6) ∧ (True ∧ True)) ∧ (((type_of% h6) ∧ (True ∧ True)) ∧ (((type_of% h6) ∧ (True ∧ True)) ∧ (((type_of% h6) ∧ (True ∧ (True ∧ True))) ∧ (((type_of% h6) ∧ (True ∧ True)) ∧ ((True ∧ True) ∧ (((type_of% h7) ∧ (True ∧ True)) ∧ (((type_of% h7) ∧ (True ∧ True)) ∧ (((type_of% h7) ∧ (True ∧ (True ∧ True))) ∧ (((type_of% h7) ∧ (True ∧ True)) ∧ ((True ∧ True) ∧ (((type_of% h8) ∧ (True ∧ True)) ∧ (((type_of% h8) ∧ (True ∧ True)) ∧ (((type_of% h8) ∧ (True ∧ True)) ∧ (((type_of% h9) ∧ (True ∧ True)) ∧ (((type_of% h9) ∧ (True ∧ True)) ∧ (((type_of% h9) ∧ (True ∧ True)) ∧ (((type_of% h9) ∧ (True ∧ (True ∧ ((type_of% h1) ∧ (type_of% h2))))) ∧ (((type_of% h9) ∧ (True ∧ True)) ∧ (((type_of% h9) ∧ (True ∧ True)) ∧ (((type_of% h9) ∧ (True ∧ True)) ∧ (((type_of% h9) ∧ (True ∧ (True ∧ ((type_of% h10) ∧ (type_of% h11))))) ∧ (((type_of% h9) ∧ (True ∧ True)) ∧ (((type_of% h9) ∧ (True ∧ (True ∧ True))) ∧ (((type_of% h8) ∧ ((type_of% h9) ∧ (True ∧ True))) ∧ (((type_of% h8) ∧ (True ∧ True)) ∧ True))))))))))))))))))))))))))))) ∧ ((type_of% h12) ∧ (((True ∧ True) ∧ ((True ∧ True) ∧ ((True ∧ True) ∧ True))) ∧ True)))))) ∧ (True ∧ (True ∧ (True ∧ True))))) by kernel_rfl) ⟨⟨⟨⟨trivial, trivial⟩, ⟨⟨trivial, trivial⟩, ⟨⟨trivial, trivial⟩, ⟨⟨trivial, ⟨trivial, ⟨h1, h2⟩⟩⟩, ⟨⟨trivial, trivial⟩, ⟨⟨trivial, trivial⟩, ⟨⟨trivial, ⟨trivial, trivial⟩⟩, trivial⟩⟩⟩⟩⟩⟩⟩, ⟨h3, ⟨⟨⟨trivial, trivial⟩, ⟨⟨trivial, trivial⟩, ⟨⟨trivial, ⟨trivial, ⟨h1, h2⟩⟩⟩, ⟨⟨trivial, trivial⟩, ⟨⟨trivial, trivial⟩, ⟨⟨trivial, ⟨trivial, ⟨h4, h5⟩⟩⟩, ⟨⟨trivial, trivial⟩, ⟨⟨trivial, trivial⟩, trivial⟩⟩⟩⟩⟩⟩⟩⟩, ⟨⟨⟨trivial, trivial⟩, ⟨⟨trivial, trivial⟩, ⟨⟨trivial, trivial⟩, ⟨⟨h6, ⟨trivial, trivial⟩⟩, ⟨⟨h6, ⟨trivial, trivial⟩⟩, ⟨⟨h6, ⟨trivial, trivial⟩⟩, ⟨⟨h6, ⟨trivial, ⟨trivial, trivial⟩⟩⟩, ⟨⟨h6, ⟨trivial, trivial⟩⟩, ⟨⟨trivial, trivial⟩, ⟨⟨h7, ⟨trivial, trivial⟩⟩, ⟨⟨h7, ⟨trivial, trivial⟩⟩, ⟨⟨h7, ⟨trivial, ⟨trivial, trivial⟩⟩⟩, ⟨⟨h7, ⟨trivial, trivial⟩⟩, ⟨⟨trivial, trivial⟩, ⟨⟨h8, ⟨trivial, trivial⟩⟩, ⟨⟨h8, ⟨trivial, trivial⟩⟩, ⟨⟨h8, ⟨trivial, trivial⟩⟩, ⟨⟨h9, ⟨trivial, trivial⟩⟩, ⟨⟨h9, ⟨trivial, trivial⟩⟩, ⟨⟨h9, ⟨trivial, trivial⟩⟩, ⟨⟨h9, ⟨trivial, ⟨trivial, ⟨h1, h2⟩⟩⟩⟩, ⟨⟨h9, ⟨trivial, trivial⟩⟩, ⟨⟨h9, ⟨trivial, trivial⟩⟩, ⟨⟨h9, ⟨trivial, trivial⟩⟩, ⟨⟨h9, ⟨trivial, ⟨trivial, ⟨h10, h11⟩⟩⟩⟩, ⟨⟨h9, ⟨trivial, trivial⟩⟩, ⟨⟨h9, ⟨trivial, ⟨trivial, trivial⟩⟩⟩, ⟨⟨h8, ⟨h9, ⟨trivial, trivial⟩⟩⟩, ⟨⟨h8, ⟨trivial, trivial⟩⟩, trivial⟩⟩⟩⟩⟩⟩⟩⟩⟩⟩⟩⟩⟩⟩⟩⟩⟩⟩⟩⟩⟩⟩⟩⟩⟩⟩⟩⟩⟩, ⟨h12, ⟨⟨⟨trivial, trivial⟩, ⟨⟨trivial, trivial⟩, ⟨⟨trivial, trivial⟩, trivial⟩⟩⟩, trivial⟩⟩⟩⟩⟩⟩, ⟨trivial, ⟨trivial, ⟨trivial, trivial⟩⟩⟩⟩ hR
theorem vbr_5 (q : QK) (h1 : (0 ≤ iN q.a)) (h2 : ((gL q.g)[(iN q.a).toNat]? = some (AV.lst (List.map (AV.int IntKind.i64) q.r)))) (h3 : (decide (iN q.i < iN (List.map (AV.int IntKind.i64) q.r).length) = true)) (h4 : (0 ≤ iN q.i)) (h5 : ((List.map (AV.int IntKind.i64) q.r)[(iN q.i).toNat]? = some (AV.int IntKind.i64 q.e))) (h6 : (decide (q.e < 0) = false)) (h7 : (decide (iN (gL q.g).length ≤ q.e) = false)) (h8 : ((q.e == iN q.a) = false)) (h9 : (decide (0 < iN q.i) = false)) {post : Exit → St → Prop} {R : St → Prop} (hR : ∀ st, Ren 0 st (St.mk 60 [(0, AV.lst (gL q.g)), (3, AV.int IntKind.i64 (iN q.a)), (4, AV.int IntKind.i64 (IntKind.i64.wrap (iN q.i + 1)))] []) → R st) : ∃ o' st' q', go Try.prog ({ dec := [(21, true), (33, false), (39, false), (44, false), (47, false)], els := e40 q, calls := cV q, unroll := false } : HT) 0 4000 (.inl (loopC (loopC (bodyOf Try.f31) 0) 0)) [] (lb40 q) = some (o', st', q') ∧ q' ∧ Go.AX.Rest Try.prog 0 (andThen R post) st' o' :=
  endN_spec (σ := []) (fz := []) (vars := [0,3,4]) (show endN 0 [] [] [0,3,4] (go Try.prog ({ dec := [(21, true), (33, false), (39, false), (44, false), (47, false)], els := e40 q, calls := cV q, unroll := false } : HT) 0 4000 (.inl (loopC (loopC (bodyOf Try.f31) 0) 0)) [] (lb40 q)) = some (St.mk 60 [(0, AV.lst (gL q.g)), (3, AV.int IntKind.i64 (iN q.a)), (4, AV.int IntKind.i64 (IntKind.i64.wrap (iN q.i + 1)))] [], ((((True ∧ True) ∧ ((True ∧ True) ∧ ((True ∧ True) ∧ ((True ∧ (True ∧ ((type_of% h1) ∧ (type_of% h2)))) ∧ ((True ∧ True) ∧ ((True ∧ True) ∧ ((True ∧ (True ∧ True)) ∧ True))))))) ∧ ((type_of% h3) ∧ (((True ∧ True) ∧ ((True ∧ True) ∧ ((True ∧ (True ∧ ((type_of% h1) ∧ (type_of% h2)))) ∧ ((True ∧ True) ∧ ((True ∧ True) ∧ ((True ∧ (True ∧ ((type_of% h4) ∧ (type_of% h5)))) ∧ ((True ∧ True) ∧ ((True ∧ True) ∧ True)))))))) ∧ (((True ∧ True) ∧ ((True ∧ True) ∧ ((True ∧ True) ∧ (((type_of% h6) ∧ (True ∧ True)) ∧ (((type_of% h6) ∧ (True ∧ True)) ∧ (((type_of% h6) ∧ (True ∧ True)) ∧ (((type_of% h6) ∧ (True ∧ (True ∧ True))) ∧ (((type_of% h6) ∧ (True ∧ True)) ∧ ((True ∧ True) ∧ (((type_of% h7) ∧ (True ∧ True)) ∧ (((type_of% h7) ∧ (True ∧ True)) ∧ (((type_of% h7) ∧ (True ∧ (True ∧ True))) ∧ (((type_of% h7) ∧ (True ∧ True)) ∧ ((True ∧ True) ∧ (((type_of% h8) ∧ (True ∧ True)) ∧ (((type_of% h8) ∧ (True ∧ True)) ∧ (((type_of% h8) ∧ (True ∧ True)) ∧ ((type_of% h9) ∧ ((type_of% h9) ∧ ((type_of% h9) ∧ ((type_of% h9) ∧ ((type_of% h9) ∧ ((type_of% h9) ∧ ((type_of% h9) ∧ ((type_of% h9) ∧ ((type_of% h9) ∧ ((type_of% h9) ∧ (((type_of% h8) ∧ ((type_of% h9) ∧ (True ∧ True))) ∧ (((type_of% h8) ∧ (True ∧ True)) ∧ True))))))))))))))))))))))))))))) ∧ (True ∧ (((True ∧ True) ∧ ((True ∧ True) ∧ ((True ∧ True) ∧ True))) ∧ True)))))) ∧ (True ∧ (True ∧ (True ∧ True))))) by kernel_rfl) ⟨⟨⟨⟨trivial, trivial⟩, ⟨⟨trivial, trivial⟩, ⟨⟨trivial, trivial⟩, ⟨⟨trivial, ⟨trivial, ⟨h1, h2⟩⟩⟩, ⟨⟨trivial, trivial⟩, ⟨⟨trivial, trivial⟩, ⟨⟨trivial, ⟨trivial, trivial⟩⟩, trivial⟩⟩⟩⟩⟩⟩⟩, ⟨h3, ⟨⟨⟨trivial, trivial⟩, ⟨⟨trivial, trivial⟩, ⟨⟨trivial, ⟨trivial, ⟨h1, h2⟩⟩⟩, ⟨⟨trivial, trivial⟩, ⟨⟨trivial, trivial⟩, ⟨⟨trivial, ⟨trivial, ⟨h4, h5⟩⟩⟩, ⟨⟨trivial, trivial⟩, ⟨⟨trivial, trivial⟩, trivial⟩⟩⟩⟩⟩⟩⟩⟩, ⟨⟨⟨trivial, trivial⟩, ⟨⟨trivial, trivial⟩, ⟨⟨trivial, trivial⟩, ⟨⟨h6, ⟨trivial, trivial⟩⟩, ⟨⟨h6, ⟨trivial, trivial⟩⟩, ⟨⟨h6, ⟨trivial, trivial⟩⟩, ⟨⟨h6, ⟨trivial, ⟨trivial, trivial⟩⟩⟩, ⟨⟨h6, ⟨trivial, trivial⟩⟩, ⟨⟨trivial, trivial⟩, ⟨⟨h7, ⟨trivial, trivial⟩⟩, ⟨⟨h7, ⟨trivial, trivial⟩⟩, ⟨⟨h7, ⟨trivial, ⟨trivial, trivial⟩⟩⟩, ⟨⟨h7, ⟨trivial, trivial⟩⟩, ⟨⟨trivial, trivial⟩, ⟨⟨h8, ⟨trivial, trivial⟩⟩, ⟨⟨h8, ⟨trivial, trivial⟩⟩, ⟨⟨h8, ⟨trivial, trivial⟩⟩, ⟨h9, ⟨h9, ⟨h9, ⟨h9, ⟨h9, ⟨h9, ⟨h9, ⟨h9, ⟨h9, ⟨h9, ⟨⟨h8, ⟨h9, ⟨trivial, trivial⟩⟩⟩, ⟨⟨h8, ⟨trivial, trivial⟩⟩, trivial⟩⟩⟩⟩⟩⟩⟩⟩⟩⟩⟩⟩⟩⟩⟩⟩⟩⟩⟩⟩⟩⟩⟩⟩⟩⟩⟩⟩⟩, ⟨trivial, ⟨⟨⟨trivial, trivial⟩, ⟨⟨trivial, trivial⟩, ⟨⟨trivial, trivial⟩, trivial⟩⟩⟩, trivial⟩⟩⟩⟩⟩⟩, ⟨trivial, ⟨trivial, ⟨trivial, trivial⟩⟩⟩⟩ hR
theorem vc_0 (q : QK) (h1 : (CT Try.prog 31 [] [AV.lst (gL q.g)] [] (AV.bool q.b))) (h2 : ((!q.b) = true)) : ∃ o' st' q', go Try.prog ({ dec := [(7, true)], els := eK q, calls := cV q, unroll := false } : HT) 0 4000 (.inl (bodyOf Try.f25)) [] (st35 q) = some (o', st', q') ∧ q' ∧ Go.AX.Rest Try.prog 0 (Fin Try.prog Try.f25 0 [] (AV.int IntKind.i64 20)) st' o' :=
  endF_spec (σ := []) (fz := []) (show endF Try.prog Try.f25 0 [] [] (go Try.prog ({ dec := [(7, true)], els := eK q, calls := cV q, unroll := false } : HT) 0 4000 (.inl (bodyOf Try.f25)) [] (st35 q)) = some ([], AV.int IntKind.i64 20, (((True ∧ True) ∧ (((True ∧ True) ∧ ((True ∧ (True ∧ ((type_of% h1) ∧ True))) ∧ ((True ∧ True) ∧ True))) ∧ ((type_of% h2) ∧ ((True ∧ True) ∧ True)))) ∧ (True ∧ True))) by kernel_rfl) ⟨⟨⟨trivial, trivial⟩, ⟨⟨⟨trivial, trivial⟩, ⟨⟨trivial, ⟨trivial, ⟨h1, trivial⟩⟩⟩, ⟨⟨trivial, trivial⟩, trivial⟩⟩⟩, ⟨h2, ⟨⟨trivial, trivial⟩, trivial⟩⟩⟩⟩, ⟨trivial, trivial⟩⟩
theorem vc_1 (q : QK) (h1 : (CT Try.prog 31 [] [AV.lst (gL q.g)] [] (AV.bool q.b))) (h2 : ((!q.b) = false)) (h3 : ((iN (boL q.s).length != iN (gL q.g).length) = true)) : ∃ o' st' q', go Try.prog ({ dec := [(7, false), (12, true)], els := eK q, calls := cV q, unroll := false } : HT) 0 4000 (.inl (bodyOf Try.f25)) [] (st35 q) = some (o', st', q') ∧ q' ∧ Go.AX.Rest Try.prog 0 (Fin Try.prog Try.f25 0 [] (AV.int IntKind.i64 19)) st' o' :=
  endF_spec (σ := []) (fz := []) (show endF Try.prog Try.f25 0 [] [] (go Try.prog ({ dec := [(7, false), (12, true)], els := eK q, calls := cV q, unroll := false } : HT) 0 4000 (.inl (bodyOf Try.f25)) [] (st35 q)) = some ([], AV.int IntKind.i64 19, (((True ∧ True) ∧ (((True ∧ True) ∧ ((True ∧ (True ∧ ((type_of% h1) ∧ True))) ∧ ((True ∧ True) ∧ True))) ∧ ((type_of% h2) ∧ (((True ∧ True) ∧ ((True ∧ True) ∧ ((True ∧ True) ∧ ((True ∧ True) ∧ ((True ∧ (True ∧ True)) ∧ True))))) ∧ ((type_of% h3) ∧ ((True ∧ True) ∧ True)))))) ∧ (True ∧ True))) by kernel_rfl) ⟨⟨⟨trivial, trivial⟩, ⟨⟨⟨trivial, trivial⟩, ⟨⟨trivial, ⟨trivial, ⟨h1, trivial⟩⟩⟩, ⟨⟨trivial, trivial⟩, trivial⟩⟩⟩, ⟨h2, ⟨⟨⟨trivial, trivial⟩, ⟨⟨trivial, trivial⟩, ⟨⟨trivial, trivial⟩, ⟨⟨trivial, trivial⟩, ⟨⟨trivial, ⟨trivial, trivial⟩⟩, trivial⟩⟩⟩⟩⟩, ⟨h3, ⟨⟨trivial, trivial⟩, trivial⟩⟩⟩⟩⟩⟩, ⟨trivial, trivial⟩⟩
theorem vc_2 (q : QK) (h1 : (CT Try.prog 31 [] [AV.lst (gL q.g)] [] (AV.bool q.b))) (h2 : ((!q.b) = false)) (h3 : ((iN (boL q.s).length != iN (gL q.g).length) = false)) : ∃ o' st' q', go Try.prog ({ dec := [(7, false), (12, false)], els := eK q, calls := cV q, unroll := false } : HT) 0 4000 (.inl (bodyOf Try.f25)) [] (st35 q) = some (o', st', q') ∧ q' ∧ Go.AX.Rest Try.prog 0 (Fin Try.prog Try.f25 0 [] (AV.int IntKind.i64 0)) st' o' :=
  endF_spec (σ := []) (fz := []) (show endF Try.prog Try.f25 0 [] [] (go Try.prog ({ dec := [(7, false), (12, false)], els := eK q, calls := cV q, unroll := false } : HT) 0 4000 (.inl (bodyOf Try.f25)) [] (st35 q)) = some ([], AV.int IntKind.i64 0, (((True ∧ True) ∧ (((True ∧ True) ∧ ((True ∧ (True ∧ ((type_of% h1) ∧ True))) ∧ ((True ∧ True) ∧ True))) ∧ ((type_of% h2) ∧ (((True ∧ True) ∧ ((True ∧ True) ∧ ((True ∧ True) ∧ ((True ∧ True) ∧ ((True ∧ (True ∧ True)) ∧ True))))) ∧ ((type_of% h3) ∧ ((True ∧ True) ∧ True)))))) ∧ (True ∧ True))) by kernel_rfl) ⟨⟨⟨trivial, trivial⟩, ⟨⟨⟨trivial, trivial⟩, ⟨⟨trivial, ⟨trivial, ⟨h1, trivial⟩⟩⟩, ⟨⟨trivial, trivial⟩, trivial⟩⟩⟩, ⟨h2, ⟨⟨⟨trivial, trivial⟩, ⟨⟨trivial, trivial⟩, ⟨⟨trivial, trivial⟩, ⟨⟨trivial, trivial⟩, ⟨⟨trivial, ⟨trivial, trivial⟩⟩, trivial⟩⟩⟩⟩⟩, ⟨h3, ⟨⟨trivial, trivial⟩, trivial⟩⟩⟩⟩⟩⟩, ⟨trivial, trivial⟩⟩
end Go.Proofs.Ytcdgphdieemjcaa

/-! Contracts. -/
open Go Go.AX Go.Proofs
set_option maxRecDepth 100000
set_option maxHeartbeats 1000000
set_option linter.unusedVariables false
set_option linter.unusedSimpArgs false
namespace Go.Proofs.Ytcdgphdieemjcaa
def badE (r : List Int) (n v i : Nat) : Bool := decide (r.getD i 0 < 0) || (decide ((n : Int) ≤ r.getD i 0) || (r.getD i 0 == (v : Int) || (decide (0 < i) && decide (r.getD i 0 ≤ r.getD (i - 1) 0))))
def badR (g : List (List Int)) (v : Nat) : Bool := (fnd (badE (g.getD v []) g.length v) 0 (g.getD v []).length).isSome
def badG (g : List (List Int)) : Bool := (fnd (badR g) 0 g.length).isSome
def chkZ (g : List (List Int)) (s : List Bool) (v w : Int) : Int := if 24 < g.length then 20 else if badG g = true then 20 else if s.length ≠ g.length ∨ v < 0 ∨ (g.length : Int) ≤ v ∨ w < 0 ∨ (g.length : Int) ≤ w then 19 else 0
def Rows (g : List (List Int)) : Prop := ∀ v, v < g.length → (g.getD v []).length ≤ 9223372036854775807

def qv (g : List (List Int)) (s : List Bool) (v w : Int) (a i : Nat) (r : List Int) (e p : Int) : QK := ⟨g, s, [], 0, 0, a, i, r, v, w, false, e, [p], []⟩
end Go.Proofs.Ytcdgphdieemjcaa

/-! Contracts. -/
open Go Go.AX Go.Proofs
set_option maxRecDepth 100000
set_option maxHeartbeats 1000000
set_option linter.unusedVariables false
set_option linter.unusedSimpArgs false
namespace Go.Proofs.Ytcdgphdieemjcaa
theorem vb_run {g : List (List Int)} (hrw : Rows g) (hn : g.length ≤ 24) (a : Nat) (ha : a < g.length) {R : St → Prop} {post : Exit → St → Prop}
    (hy : badR g a = true → Pass post (Fin Try.prog Try.f31 0 [] (.bool false)))
    (hR : badR g a = false → ∀ st, Ren 0 st (la40 (qv g [] 0 0 (a + 1) 0 [] 0 0)) → R st) :
    T Try.prog 0 (.loop (loopC (loopC (bodyOf Try.f31) 0) 0)) (lb40 (qv g [] 0 0 a 0 (g.getD a []) 0 0)) (TK Try.prog 0 (andThen R post) (loopK (loopC (bodyOf Try.f31) 0) 0)) := by
  have hr1 := hrw a ha
  have hrow := gL_get ha
  have hl := gL_len g
  unfold badR at hy hR
  generalize g.getD a [] = r at hr1 hrow hy hR
  have hrl := lI_len r
  generalize hrr : fnd (badE r g.length a) 0 r.length = res at hy hR
  refine T.loop (fun i : Nat => lb40 (qv g [] 0 0 a i r 0 0)) (fun i => i ≤ r.length ∧ fnd (badE r g.length a) i (r.length - i) = res) (fun i => r.length + 1 - i) 0 ⟨Nat.zero_le _, hrr⟩ ?_
  rintro i ⟨hi, hf⟩
  by_cases h : i < r.length
  · rw [fnd_step h] at hf
    have hg1 := lI_get h
    have dk : decide (iN i < iN (r.map (AV.int .i64)).length) = true := decide_eq_true (by simp only [iN, hrl]; omega)
    have found : badE r g.length a i = true → Pass (andThen R post) (Fin Try.prog Try.f31 0 [] (.bool false)) := by
      intro hb
      simp only [hb] at hf
      subst hf
      exact hy rfl
    have next : badE r g.length a i = false → ∀ st, Ren 0 st (lb40 (qv g [] 0 0 a (i + 1) r 0 0)) → ∃ j, Ren 0 st (lb40 (qv g [] 0 0 a j r 0 0)) ∧ (j ≤ r.length ∧ fnd (badE r g.length a) j (r.length - j) = res) ∧ r.length + 1 - j < r.length + 1 - i := by
      intro hb st hst
      simp only [hb] at hf
      exact ⟨i + 1, hst, ⟨h, hf⟩, by omega⟩
    have wi : IntKind.i64.wrap (iN i + 1) = ((i + 1 : Nat) : Int) := wrap_nat i (by omega)
    by_cases b1 : r.getD i 0 < 0
    · exact T.out mix (vbr_0 (qv g [] 0 0 a i r (r.getD i 0) 0) (by simp [iN]) hrow dk (by simp [iN]) hg1 (decide_eq_true b1) (found (by unfold badE; rw [decide_eq_true b1]; simp)))
    · by_cases b2 : (g.length : Int) ≤ r.getD i 0
      · exact T.out mix (vbr_1 (qv g [] 0 0 a i r (r.getD i 0) 0) (by simp [iN]) hrow dk (by simp [iN]) hg1 (decide_eq_false b1) (decide_eq_true (by simp only [iN, qv, hl]; exact b2)) (found (by unfold badE; rw [decide_eq_true b2]; simp)))
      · by_cases b3 : (r.getD i 0 == (a : Int)) = true
        · exact T.out mix (vbr_2 (qv g [] 0 0 a i r (r.getD i 0) 0) (by simp [iN]) hrow dk (by simp [iN]) hg1 (decide_eq_false b1) (decide_eq_false (by simp only [iN, qv, hl]; exact b2)) b3 (found (by unfold badE; rw [b3]; simp)))
        · have b3' := Bool.eq_false_iff.2 b3
          by_cases b4 : 0 < i
          · have hw := wrapM1 i b4 (by omega)
            have hp := lI_get (l := r) (j := i - 1) (by omega)
            by_cases b5 : r.getD i 0 ≤ r.getD (i - 1) 0
            · exact T.out mix (vbr_3 (qv g [] 0 0 a i r (r.getD i 0) (r.getD (i - 1) 0)) (by simp [iN]) hrow dk (by simp [iN]) hg1 (decide_eq_false b1) (decide_eq_false (by simp only [iN, qv, hl]; exact b2)) b3' (decide_eq_true (by simp only [iN, qv]; omega)) (by simp only [iN, qv, hw]; omega) (by simp only [iN, qv, hw, Int.toNat_natCast]; exact hp) (decide_eq_true b5) (found (by unfold badE; rw [decide_eq_true b4, decide_eq_true b5]; simp)))
            · refine T.path mix (vbr_4 (qv g [] 0 0 a i r (r.getD i 0) (r.getD (i - 1) 0)) (by simp [iN]) hrow dk (by simp [iN]) hg1 (decide_eq_false b1) (decide_eq_false (by simp only [iN, qv, hl]; exact b2)) b3' (decide_eq_true (by simp only [iN, qv]; omega)) (by simp only [iN, qv, hw]; omega) (by simp only [iN, qv, hw, Int.toNat_natCast]; exact hp) (decide_eq_false b5) ?_)
              intro st hst
              simp only [qv, wi] at hst
              exact next (by unfold badE; rw [decide_eq_false b1, decide_eq_false b2, b3', decide_eq_false b5]; simp) st hst
          · refine T.path mix (vbr_5 (qv g [] 0 0 a i r (r.getD i 0) 0) (by simp [iN]) hrow dk (by simp [iN]) hg1 (decide_eq_false b1) (decide_eq_false (by simp only [iN, qv, hl]; exact b2)) b3' (decide_eq_false (by simp only [iN, qv]; omega)) ?_)
            intro st hst
            simp only [qv, wi] at hst
            exact next (by unfold badE; rw [decide_eq_false b1, decide_eq_false b2, b3', decide_eq_false b4]; simp) st hst
  · rw [fnd_end h] at hf
    subst hf
    refine T.out mix (vbx_0 (qv g [] 0 0 a i r 0 0) (by simp [iN]) hrow (decide_eq_false (by simp only [iN, qv, hrl]; omega)) ?_)
    intro st hst
    simp only [iN, qv, wrap_nat a (show a < 9223372036854775807 by omega)] at hst
    exact hR rfl st hst

noncomputable def valZ (g : List (List Int)) : Bool := !(decide (24 < g.length)) && !(badG g)
theorem valid_ct {g : List (List Int)} (hrw : Rows g) : CT Try.prog 31 [] [.lst (gL g)] [] (.bool (valZ g)) := by
  have hl := gL_len g
  unfold valZ
  by_cases h24 : 24 < g.length
  · exact CT.pathS mix Try.func31 (show Try.f31.body = some (bodyOf Try.f31) by kernel_rfl) (Nat.le_of_ble_eq_true rfl) (va_0 (qv g [] 0 0 0 0 [] 0 0) (decide_eq_true (by simp only [iN, qv, hl]; omega))) (by simp [h24])
  refine CT.path mix Try.func31 (show Try.f31.body = some (bodyOf Try.f31) by kernel_rfl) (Nat.le_of_ble_eq_true rfl) (va_1 (qv g [] 0 0 0 0 [] 0 0) (decide_eq_false (by simp only [iN, qv, hl]; omega)) ?_)
  rw [decide_eq_false h24]
  unfold badG
  generalize hrr : fnd (badR g) 0 g.length = res
  refine T.loop (fun a : Nat => la40 (qv g [] 0 0 a 0 [] 0 0)) (fun a => a ≤ g.length ∧ fnd (badR g) a (g.length - a) = res) (fun a => g.length + 1 - a) 0 ⟨Nat.zero_le _, hrr⟩ ?_
  rintro a ⟨ha, hf⟩
  by_cases h : a < g.length
  · rw [fnd_step h] at hf
    refine T.path mix (vai_0 (qv g [] 0 0 a 0 (g.getD a []) 0 0) (decide_eq_true (by simp only [iN, qv, hl]; omega)) ?_)
    refine vb_run hrw (by omega) a h (fun hb => ?_) (fun hb st hst => ?_)
    · simp only [hb] at hf
      subst hf
      exact fun st hst => TK.ret hst _
    · simp only [hb] at hf
      exact ⟨a + 1, hst, ⟨h, hf⟩, by omega⟩
  · rw [fnd_end h] at hf
    subst hf
    exact T.out mix (vax_0 (qv g [] 0 0 a 0 [] 0 0) (decide_eq_false (by simp only [iN, qv, hl]; omega)))

noncomputable def chk4 (g : List (List Int)) (s : List Bool) : Int := if 24 < g.length then 20 else if badG g = true then 20 else if s.length ≠ g.length then 19 else 0
theorem check4_ct {g : List (List Int)} {s : List Bool} (hrw : Rows g) : CT Try.prog 25 [] [.lst (gL g), .lst (boL s)] [] (.int .i64 (chk4 g s)) := by
  have hl := gL_len g
  have hbl := boL_len s
  have hv := valid_ct hrw
  have hb : Try.f25.body = some (bodyOf Try.f25) := by kernel_rfl
  have hn : [AV.lst (gL g), .lst (boL s)].length ≤ Try.f25.ntmps := Nat.le_of_ble_eq_true rfl
  unfold chk4
  by_cases h1 : valZ g = true
  · have h1' := h1
    unfold valZ at h1'
    simp only [Bool.and_eq_true, Bool.not_eq_true', decide_eq_false_iff_not] at h1'
    rw [if_neg h1'.1, if_neg (by rw [h1'.2]; simp)]
    rw [h1] at hv
    by_cases h2 : s.length = g.length
    · rw [if_neg (by simp [h2])]
      exact CT.path mix Try.func25 hb hn (vc_2 ⟨g, s, [], 0, 0, 0, 0, [], 0, 0, true, 0, [], []⟩ hv rfl (by simp [iN, hl, hbl, h2]))
    · rw [if_pos h2]
      exact CT.path mix Try.func25 hb hn (vc_1 ⟨g, s, [], 0, 0, 0, 0, [], 0, 0, true, 0, [], []⟩ hv rfl (by simp only [iN, hl, hbl, bne_iff_ne, ne_eq]; omega))
  · have h1 := Bool.eq_false_iff.2 h1
    have e : (if 24 < g.length then (20 : Int) else if badG g = true then 20 else if s.length ≠ g.length then 19 else 0) = 20 := by
      by_cases h24 : 24 < g.length
      · rw [if_pos h24]
      · unfold valZ at h1
        rw [decide_eq_false h24] at h1
        rw [if_neg h24, if_pos (by simpa using h1)]
    rw [e]
    rw [h1] at hv
    exact CT.path mix Try.func25 hb hn (vc_0 ⟨g, s, [], 0, 0, 0, 0, [], 0, 0, false, 0, [], []⟩ hv rfl)

end Go.Proofs.Ytcdgphdieemjcaa


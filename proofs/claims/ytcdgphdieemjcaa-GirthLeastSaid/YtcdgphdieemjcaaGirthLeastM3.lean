/- Parts of the proof: Rt4p, RtL, RtM, RtX, Rt5p, RtT, Rt6p, RtS, Rt7p, RtN, RtO, Rt8p, RtP, RtR, RtQ, Rt9p, RtU, Rt11p, AxTr, RtA, Rt12p, RtB. -/
import Derived.Test.YtcdgphdieemjcaaProg
import Derived.KernelRfl
import Derived.Test.YtcdgphdieemjcaaGirthLeastM2
/-! The paths of a function, by evaluation. -/
open Go Go.AX Go.Proofs
set_option maxRecDepth 100000
set_option maxHeartbeats 4000000
set_option linter.unusedVariables false
namespace Go.Proofs.Ytcdgphdieemjcaa
structure QG where
  L : List Int
  g : List (List Int)
  l : List Int
  o : List Int
  s : List Bool
  kk : Nat
  n : Nat
  k : Int
  v : Nat
  w : Nat
  x : Int
  i : Nat
  e : Int
  b : Bool
noncomputable def st23 (q : QG) : St := { n := Try.f19.ntmps, fr := [(0, lI q.l), (1, .int .i64 q.x)], hp := [] }
noncomputable def lo23 (q : QG) : St := { n := Try.f19.ntmps, fr := [(0, lI q.l), (1, .int .i64 q.x), (5, .int .i64 (iN q.i))], hp := [] }
def nextG (L : List Int) (args : List AV) (hp : List (Option Blk)) (v : Int) : Hint := match args with
  | [.ptr b _ _, _] => match nth hp b with
    | some blk => match blk.es with
      | [.agg [_, .int _ e]] => .call [b] [] [tapeB L (e.toNat + 1)] (.int .i64 v)
      | _ => .no
    | none => .no
  | _ => .no
def cG (q : QG) : Nat → FuncId → List AV → List (Option Blk) → Hint := fun dst f args hp => match f with
  | 11 => nextG q.L args hp (match dst with | 13 => (iN q.n) | 20 => q.k | 27 => iN q.v | 30 => iN q.w | 10 => q.k | _ => iN q.v)
  | 19 => .call [] [] [] (.bool q.b)
  | 21 => .call [] [] [] (lI q.o)
  | _ => .no
def e23 (q : QG) : List (Nat × AV) := [(14, .int .i64 q.e)]
noncomputable def st25 (q : QG) : St := { n := Try.f21.ntmps, fr := [(0, lI q.l), (1, .int .i64 q.x)], hp := [] }
noncomputable def lz25 (q : QG) : St := { n := Try.f21.ntmps, fr := [(0, lI q.l), (1, .int .i64 q.x), (5, .nils), (6, .bool false), (7, .int .i64 (iN q.i))], hp := [] }
noncomputable def lo25 (q : QG) : St := { n := Try.f21.ntmps, fr := [(0, lI q.l), (1, .int .i64 q.x), (5, .sl 0 0 q.o.length), (6, .bool q.b), (7, .int .i64 (iN q.i))], hp := [some (dB q.o)] }
def e25 (q : QG) : List (Nat × AV) := [(19, .int .i64 q.e), (31, .int .i64 q.e)]
noncomputable def st9 (q : QG) : St := { n := Try.f9.ntmps, fr := [(0, .ptr 0 0 0), (1, .int .i64 q.x)], hp := [some (tapeB q.L q.kk)] }
noncomputable def lo9 (q : QG) : St := { n := Try.f9.ntmps, fr := [(0, .ptr 0 0 0), (5, .int .i64 (iN q.n)), (6, .sl 1 0 q.n), (7, .int .i64 q.k)], hp := [some (tapeB q.L q.kk), some { es := gL q.g, z := 1 }] }
def e9 (q : QG) : List (Nat × AV) := [(38, lI q.l), (48, lI q.l)]
noncomputable def st10 (q : QG) : St := { n := Try.f10.ntmps, fr := [(0, .ptr 0 0 0), (1, .int .i64 (iN q.n))], hp := [some (tapeB q.L q.kk)] }
noncomputable def lo10 (q : QG) : St := { n := Try.f10.ntmps, fr := [(0, .ptr 0 0 0), (1, .int .i64 (iN q.n)), (5, .sl 1 0 q.n), (6, .int .i64 q.k)], hp := [some (tapeB q.L q.kk), some { es := boL q.s, z := 1 }] }
def e10 (q : QG) : List (Nat × AV) := []
theorem ha_0 (q : QG) {post : Exit → St → Prop} (ht : T Try.prog 0 (.loop (loopC (bodyOf Try.f19) 0)) (St.mk 18 [(0, AV.lst (List.map (AV.int IntKind.i64) q.l)), (1, AV.int IntKind.i64 q.x), (5, AV.int IntKind.i64 0)] []) (TK Try.prog 0 post (loopK (bodyOf Try.f19) 0))) : ∃ o' st' q', go Try.prog ({ dec := [], els := e23 q, calls := cG q, unroll := false } : HT) 0 4000 (.inl (bodyOf Try.f19)) [] (st23 q) = some (o', st', q') ∧ q' ∧ Go.AX.Rest Try.prog 0 post st' o' :=
  endR_spec (σ := []) (fz := []) (vars := [0,1,5]) (show endR 0 [] [] [0,1,5] (go Try.prog ({ dec := [], els := e23 q, calls := cG q, unroll := false } : HT) 0 4000 (.inl (bodyOf Try.f19)) [] (st23 q)) = some (loopC (bodyOf Try.f19) 0, loopK (bodyOf Try.f19) 0, St.mk 18 [(0, AV.lst (List.map (AV.int IntKind.i64) q.l)), (1, AV.int IntKind.i64 q.x), (5, AV.int IntKind.i64 0)] [], (((True ∧ True) ∧ ((True ∧ True) ∧ True)) ∧ (True ∧ (True ∧ (True ∧ True))))) by kernel_rfl) ⟨⟨⟨trivial, trivial⟩, ⟨⟨trivial, trivial⟩, trivial⟩⟩, ⟨trivial, ⟨trivial, ⟨trivial, trivial⟩⟩⟩⟩ ht
theorem hax_0 (q : QG) (h1 : (decide (iN q.i < iN (List.map (AV.int IntKind.i64) q.l).length) = false)) : ∃ o' st' q', go2 Try.prog ({ dec := [(9, false)], els := e23 q, calls := cG q, unroll := false } : HT) 0 4000 (loopC (bodyOf Try.f19) 0) (loopK (bodyOf Try.f19) 0) (lo23 q) = some (o', st', q') ∧ q' ∧ Go.AX.Rest Try.prog 0 (Fin Try.prog Try.f19 0 [] (AV.bool false)) st' o' :=
  endF_spec (σ := []) (fz := []) (show endF Try.prog Try.f19 0 [] [] (go2 Try.prog ({ dec := [(9, false)], els := e23 q, calls := cG q, unroll := false } : HT) 0 4000 (loopC (bodyOf Try.f19) 0) (loopK (bodyOf Try.f19) 0) (lo23 q)) = some ([], AV.bool false, (((((True ∧ True) ∧ ((True ∧ True) ∧ ((True ∧ True) ∧ ((True ∧ (True ∧ True)) ∧ True)))) ∧ ((type_of% h1) ∧ True)) ∧ ((True ∧ True) ∧ True)) ∧ (True ∧ True))) by kernel_rfl) ⟨⟨⟨⟨⟨trivial, trivial⟩, ⟨⟨trivial, trivial⟩, ⟨⟨trivial, trivial⟩, ⟨⟨trivial, ⟨trivial, trivial⟩⟩, trivial⟩⟩⟩⟩, ⟨h1, trivial⟩⟩, ⟨⟨trivial, trivial⟩, trivial⟩⟩, ⟨trivial, trivial⟩⟩
theorem hay_0 (q : QG) (h1 : (decide (iN q.i < iN (List.map (AV.int IntKind.i64) q.l).length) = true)) (h2 : (0 ≤ iN q.i)) (h3 : ((List.map (AV.int IntKind.i64) q.l)[(iN q.i).toNat]? = some (AV.int IntKind.i64 q.e))) (h4 : ((q.e == q.x) = true)) : ∃ o' st' q', go2 Try.prog ({ dec := [(9, true), (17, true)], els := e23 q, calls := cG q, unroll := false } : HT) 0 4000 (loopC (bodyOf Try.f19) 0) (loopK (bodyOf Try.f19) 0) (lo23 q) = some (o', st', q') ∧ q' ∧ Go.AX.Rest Try.prog 0 (Fin Try.prog Try.f19 0 [] (AV.bool true)) st' o' :=
  endF_spec (σ := []) (fz := []) (show endF Try.prog Try.f19 0 [] [] (go2 Try.prog ({ dec := [(9, true), (17, true)], els := e23 q, calls := cG q, unroll := false } : HT) 0 4000 (loopC (bodyOf Try.f19) 0) (loopK (bodyOf Try.f19) 0) (lo23 q)) = some ([], AV.bool true, (((((True ∧ True) ∧ ((True ∧ True) ∧ ((True ∧ True) ∧ ((True ∧ (True ∧ True)) ∧ True)))) ∧ ((type_of% h1) ∧ (((True ∧ True) ∧ ((True ∧ True) ∧ ((True ∧ (True ∧ ((type_of% h2) ∧ (type_of% h3)))) ∧ ((True ∧ True) ∧ ((True ∧ True) ∧ ((True ∧ (True ∧ True)) ∧ True)))))) ∧ ((type_of% h4) ∧ ((True ∧ True) ∧ True))))) ∧ True) ∧ (True ∧ True))) by kernel_rfl) ⟨⟨⟨⟨⟨trivial, trivial⟩, ⟨⟨trivial, trivial⟩, ⟨⟨trivial, trivial⟩, ⟨⟨trivial, ⟨trivial, trivial⟩⟩, trivial⟩⟩⟩⟩, ⟨h1, ⟨⟨⟨trivial, trivial⟩, ⟨⟨trivial, trivial⟩, ⟨⟨trivial, ⟨trivial, ⟨h2, h3⟩⟩⟩, ⟨⟨trivial, trivial⟩, ⟨⟨trivial, trivial⟩, ⟨⟨trivial, ⟨trivial, trivial⟩⟩, trivial⟩⟩⟩⟩⟩⟩, ⟨h4, ⟨⟨trivial, trivial⟩, trivial⟩⟩⟩⟩⟩, trivial⟩, ⟨trivial, trivial⟩⟩
theorem har_0 (q : QG) (h1 : (decide (iN q.i < iN (List.map (AV.int IntKind.i64) q.l).length) = true)) (h2 : (0 ≤ iN q.i)) (h3 : ((List.map (AV.int IntKind.i64) q.l)[(iN q.i).toNat]? = some (AV.int IntKind.i64 q.e))) (h4 : ((q.e == q.x) = false)) {post : Exit → St → Prop} {R : St → Prop} (hR : ∀ st, Ren 0 st (St.mk 18 [(0, AV.lst (List.map (AV.int IntKind.i64) q.l)), (1, AV.int IntKind.i64 q.x), (5, AV.int IntKind.i64 (IntKind.i64.wrap (iN q.i + 1)))] []) → R st) : ∃ o' st' q', go Try.prog ({ dec := [(9, true), (17, false)], els := e23 q, calls := cG q, unroll := false } : HT) 0 4000 (.inl (loopC (bodyOf Try.f19) 0)) [] (lo23 q) = some (o', st', q') ∧ q' ∧ Go.AX.Rest Try.prog 0 (andThen R post) st' o' :=
  endN_spec (σ := []) (fz := []) (vars := [0,1,5]) (show endN 0 [] [] [0,1,5] (go Try.prog ({ dec := [(9, true), (17, false)], els := e23 q, calls := cG q, unroll := false } : HT) 0 4000 (.inl (loopC (bodyOf Try.f19) 0)) [] (lo23 q)) = some (St.mk 18 [(0, AV.lst (List.map (AV.int IntKind.i64) q.l)), (1, AV.int IntKind.i64 q.x), (5, AV.int IntKind.i64 (IntKind.i64.wrap (iN q.i + 1)))] [], ((((True ∧ True) ∧ ((True ∧ True) ∧ ((True ∧ True) ∧ ((True ∧ (True ∧ True)) ∧ True)))) ∧ ((type_of% h1) ∧ (((True ∧ True) ∧ ((True ∧ True) ∧ ((True ∧ (True ∧ ((type_of% h2) ∧ (type_of% h3)))) ∧ ((True ∧ True) ∧ ((True ∧ True) ∧ ((True ∧ (True ∧ True)) ∧ True)))))) ∧ ((type_of% h4) ∧ (((True ∧ True) ∧ ((True ∧ True) ∧ ((True ∧ True) ∧ True))) ∧ True))))) ∧ (True ∧ (True ∧ (True ∧ True))))) by kernel_rfl) ⟨⟨⟨⟨trivial, trivial⟩, ⟨⟨trivial, trivial⟩, ⟨⟨trivial, trivial⟩, ⟨⟨trivial, ⟨trivial, trivial⟩⟩, trivial⟩⟩⟩⟩, ⟨h1, ⟨⟨⟨trivial, trivial⟩, ⟨⟨trivial, trivial⟩, ⟨⟨trivial, ⟨trivial, ⟨h2, h3⟩⟩⟩, ⟨⟨trivial, trivial⟩, ⟨⟨trivial, trivial⟩, ⟨⟨trivial, ⟨trivial, trivial⟩⟩, trivial⟩⟩⟩⟩⟩⟩, ⟨h4, ⟨⟨⟨trivial, trivial⟩, ⟨⟨trivial, trivial⟩, ⟨⟨trivial, trivial⟩, trivial⟩⟩⟩, trivial⟩⟩⟩⟩⟩, ⟨trivial, ⟨trivial, ⟨trivial, trivial⟩⟩⟩⟩ hR
theorem in_0 (q : QG) {post : Exit → St → Prop} (ht : T Try.prog 0 (.loop (loopC (bodyOf Try.f21) 0)) (St.mk 42 [(0, AV.lst (List.map (AV.int IntKind.i64) q.l)), (1, AV.int IntKind.i64 q.x), (5, AV.nils), (6, AV.bool false), (7, AV.int IntKind.i64 0)] []) (TK Try.prog 0 post (loopK (bodyOf Try.f21) 0))) : ∃ o' st' q', go Try.prog ({ dec := [], els := e25 q, calls := cG q, unroll := false } : HT) 0 4000 (.inl (bodyOf Try.f21)) [] (st25 q) = some (o', st', q') ∧ q' ∧ Go.AX.Rest Try.prog 0 post st' o' :=
  endR_spec (σ := []) (fz := []) (vars := [0,1,5,6,7]) (show endR 0 [] [] [0,1,5,6,7] (go Try.prog ({ dec := [], els := e25 q, calls := cG q, unroll := false } : HT) 0 4000 (.inl (bodyOf Try.f21)) [] (st25 q)) = some (loopC (bodyOf Try.f21) 0, loopK (bodyOf Try.f21) 0, St.mk 42 [(0, AV.lst (List.map (AV.int IntKind.i64) q.l)), (1, AV.int IntKind.i64 q.x), (5, AV.nils), (6, AV.bool false), (7, AV.int IntKind.i64 0)] [], (((True ∧ True) ∧ ((True ∧ True) ∧ ((True ∧ True) ∧ ((True ∧ True) ∧ True)))) ∧ (True ∧ (True ∧ (True ∧ (True ∧ (True ∧ True))))))) by kernel_rfl) ⟨⟨⟨trivial, trivial⟩, ⟨⟨trivial, trivial⟩, ⟨⟨trivial, trivial⟩, ⟨⟨trivial, trivial⟩, trivial⟩⟩⟩⟩, ⟨trivial, ⟨trivial, ⟨trivial, ⟨trivial, ⟨trivial, trivial⟩⟩⟩⟩⟩⟩ ht
theorem inzx_0 (q : QG) (h1 : (decide (iN q.i < iN (List.map (AV.int IntKind.i64) q.l).length) = false)) (h2 : (1 ≤ [AV.int IntKind.i64 q.x].length)) (h3 : ([AV.int IntKind.i64 q.x].length ≤ 9223372036854775807)) (h4 : ([AV.int IntKind.i64 q.x].length * 8 ≤ 140737488355328)) : ∃ o' st' q', go2 Try.prog ({ dec := [(11, false)], els := e25 q, calls := cG q, unroll := false } : HT) 0 4000 (loopC (bodyOf Try.f21) 0) (loopK (bodyOf Try.f21) 0) (lz25 q) = some (o', st', q') ∧ q' ∧ Go.AX.Rest Try.prog 0 (Fin Try.prog Try.f21 0 [] (AV.lst [AV.int IntKind.i64 q.x])) st' o' :=
  endF_spec (σ := []) (fz := [0,1,2,3]) (show endF Try.prog Try.f21 0 [] [0,1,2,3] (go2 Try.prog ({ dec := [(11, false)], els := e25 q, calls := cG q, unroll := false } : HT) 0 4000 (loopC (bodyOf Try.f21) 0) (loopK (bodyOf Try.f21) 0) (lz25 q)) = some ([], AV.lst [AV.int IntKind.i64 q.x], (((((True ∧ True) ∧ ((True ∧ True) ∧ ((True ∧ True) ∧ ((True ∧ (True ∧ True)) ∧ True)))) ∧ ((type_of% h1) ∧ True)) ∧ (((True ∧ True) ∧ ((True ∧ True) ∧ True)) ∧ (True ∧ (((True ∧ True) ∧ ((True ∧ True) ∧ ((True ∧ True) ∧ ((True ∧ (True ∧ (((nat_lit 1 = nat_lit 1) ∧ (type_of% h2)) ∧ ((type_of% h3) ∧ (type_of% h4))))) ∧ ((True ∧ True) ∧ True))))) ∧ (((True ∧ True) ∧ ((True ∧ True) ∧ True)) ∧ True))))) ∧ (([AV.int IntKind.i64 q.x].length = [AV.int IntKind.i64 q.x].length) ∧ True))) by kernel_rfl) ⟨⟨⟨⟨⟨trivial, trivial⟩, ⟨⟨trivial, trivial⟩, ⟨⟨trivial, trivial⟩, ⟨⟨trivial, ⟨trivial, trivial⟩⟩, trivial⟩⟩⟩⟩, ⟨h1, trivial⟩⟩, ⟨⟨⟨trivial, trivial⟩, ⟨⟨trivial, trivial⟩, trivial⟩⟩, ⟨trivial, ⟨⟨⟨trivial, trivial⟩, ⟨⟨trivial, trivial⟩, ⟨⟨trivial, trivial⟩, ⟨⟨trivial, ⟨trivial, ⟨⟨(by first | decide | exact Int.NonNeg.mk _), h2⟩, ⟨h3, h4⟩⟩⟩⟩, ⟨⟨trivial, trivial⟩, trivial⟩⟩⟩⟩⟩, ⟨⟨⟨trivial, trivial⟩, ⟨⟨trivial, trivial⟩, trivial⟩⟩, trivial⟩⟩⟩⟩⟩, ⟨rfl, trivial⟩⟩
theorem inza_0 (q : QG) (h1 : (decide (iN q.i < iN (List.map (AV.int IntKind.i64) q.l).length) = true)) (h2 : (0 ≤ iN q.i)) (h3 : ((List.map (AV.int IntKind.i64) q.l)[(iN q.i).toNat]? = some (AV.int IntKind.i64 q.e))) (h4 : (decide (q.x < q.e) = true)) (h5 : (1 ≤ [AV.int IntKind.i64 q.x].length)) (h6 : ([AV.int IntKind.i64 q.x].length ≤ 9223372036854775807)) (h7 : ([AV.int IntKind.i64 q.x].length * 8 ≤ 140737488355328)) (h8 : (1 ≤ [AV.int IntKind.i64 q.e].length)) (h9 : ([AV.int IntKind.i64 q.x].length + [AV.int IntKind.i64 q.e].length ≤ 9223372036854775807)) (h10 : (([AV.int IntKind.i64 q.x].length + [AV.int IntKind.i64 q.e].length) * 8 ≤ 140737488355328)) {post : Exit → St → Prop} {R : St → Prop} (hR : ∀ st, Ren 0 st (St.mk 42 [(0, AV.lst (List.map (AV.int IntKind.i64) q.l)), (1, AV.int IntKind.i64 q.x), (5, AV.sl 0 0 ([AV.int IntKind.i64 q.x].length + [AV.int IntKind.i64 q.e].length)), (6, AV.bool true), (7, AV.int IntKind.i64 (IntKind.i64.wrap (iN q.i + 1)))] [some (Blk.mk [AV.int IntKind.i64 q.x, AV.int IntKind.i64 q.e] 1 true true)]) → R st) : ∃ o' st' q', go Try.prog ({ dec := [(11, true), (22, true)], els := e25 q, calls := cG q, unroll := false } : HT) 0 4000 (.inl (loopC (bodyOf Try.f21) 0)) [] (lz25 q) = some (o', st', q') ∧ q' ∧ Go.AX.Rest Try.prog 0 (andThen R post) st' o' :=
  endN_spec (σ := [3]) (fz := []) (vars := [0,1,5,6,7]) (show endN 0 [3] [] [0,1,5,6,7] (go Try.prog ({ dec := [(11, true), (22, true)], els := e25 q, calls := cG q, unroll := false } : HT) 0 4000 (.inl (loopC (bodyOf Try.f21) 0)) [] (lz25 q)) = some (St.mk 42 [(0, AV.lst (List.map (AV.int IntKind.i64) q.l)), (1, AV.int IntKind.i64 q.x), (5, AV.sl 0 0 ([AV.int IntKind.i64 q.x].length + [AV.int IntKind.i64 q.e].length)), (6, AV.bool true), (7, AV.int IntKind.i64 (IntKind.i64.wrap (iN q.i + 1)))] [some (Blk.mk [AV.int IntKind.i64 q.x, AV.int IntKind.i64 q.e] 1 true true)], ((((True ∧ True) ∧ ((True ∧ True) ∧ ((True ∧ True) ∧ ((True ∧ (True ∧ True)) ∧ True)))) ∧ ((type_of% h1) ∧ (((True ∧ True) ∧ ((True ∧ True) ∧ ((True ∧ True) ∧ ((True ∧ (True ∧ True)) ∧ ((True ∧ (True ∧ True)) ∧ ((True ∧ (True ∧ (True ∧ ((type_of% h2) ∧ (type_of% h3))))) ∧ ((True ∧ (True ∧ True)) ∧ ((True ∧ (True ∧ True)) ∧ ((True ∧ (True ∧ (True ∧ True))) ∧ ((True ∧ ((type_of% h4) ∧ True)) ∧ True)))))))))) ∧ (True ∧ (((True ∧ True) ∧ ((True ∧ True) ∧ ((True ∧ True) ∧ ((True ∧ (True ∧ (((nat_lit 1 = nat_lit 1) ∧ (type_of% h5)) ∧ ((type_of% h6) ∧ (type_of% h7))))) ∧ ((True ∧ True) ∧ (True ∧ True)))))) ∧ (((True ∧ True) ∧ ((True ∧ True) ∧ ((True ∧ True) ∧ ((True ∧ (True ∧ ((type_of% h2) ∧ (type_of% h3)))) ∧ ((True ∧ True) ∧ ((True ∧ True) ∧ ((True ∧ (True ∧ (([AV.int IntKind.i64 q.x].length = [AV.int IntKind.i64 q.x].length) ∧ (((nat_lit 1 = nat_lit 1) ∧ (type_of% h8)) ∧ ((type_of% h9) ∧ (type_of% h10)))))) ∧ ((True ∧ True) ∧ True)))))))) ∧ (((True ∧ True) ∧ ((True ∧ True) ∧ ((True ∧ True) ∧ True))) ∧ True))))))) ∧ (True ∧ (True ∧ (True ∧ (True ∧ (True ∧ (True ∧ True)))))))) by kernel_rfl) ⟨⟨⟨⟨trivial, trivial⟩, ⟨⟨trivial, trivial⟩, ⟨⟨trivial, trivial⟩, ⟨⟨trivial, ⟨trivial, trivial⟩⟩, trivial⟩⟩⟩⟩, ⟨h1, ⟨⟨⟨trivial, trivial⟩, ⟨⟨trivial, trivial⟩, ⟨⟨trivial, trivial⟩, ⟨⟨trivial, ⟨trivial, trivial⟩⟩, ⟨⟨trivial, ⟨trivial, trivial⟩⟩, ⟨⟨trivial, ⟨trivial, ⟨trivial, ⟨h2, h3⟩⟩⟩⟩, ⟨⟨trivial, ⟨trivial, trivial⟩⟩, ⟨⟨trivial, ⟨trivial, trivial⟩⟩, ⟨⟨trivial, ⟨trivial, ⟨trivial, trivial⟩⟩⟩, ⟨⟨trivial, ⟨h4, trivial⟩⟩, trivial⟩⟩⟩⟩⟩⟩⟩⟩⟩⟩, ⟨trivial, ⟨⟨⟨trivial, trivial⟩, ⟨⟨trivial, trivial⟩, ⟨⟨trivial, trivial⟩, ⟨⟨trivial, ⟨trivial, ⟨⟨(by first | decide | exact Int.NonNeg.mk _), h5⟩, ⟨h6, h7⟩⟩⟩⟩, ⟨⟨trivial, trivial⟩, ⟨trivial, trivial⟩⟩⟩⟩⟩⟩, ⟨⟨⟨trivial, trivial⟩, ⟨⟨trivial, trivial⟩, ⟨⟨trivial, trivial⟩, ⟨⟨trivial, ⟨trivial, ⟨h2, h3⟩⟩⟩, ⟨⟨trivial, trivial⟩, ⟨⟨trivial, trivial⟩, ⟨⟨trivial, ⟨trivial, ⟨rfl, ⟨⟨(by first | decide | exact Int.NonNeg.mk _), h8⟩, ⟨h9, h10⟩⟩⟩⟩⟩, ⟨⟨trivial, trivial⟩, trivial⟩⟩⟩⟩⟩⟩⟩⟩, ⟨⟨⟨trivial, trivial⟩, ⟨⟨trivial, trivial⟩, ⟨⟨trivial, trivial⟩, trivial⟩⟩⟩, trivial⟩⟩⟩⟩⟩⟩⟩, ⟨trivial, ⟨trivial, ⟨trivial, ⟨trivial, ⟨trivial, ⟨trivial, trivial⟩⟩⟩⟩⟩⟩⟩ hR
theorem inzb_0 (q : QG) (h1 : (decide (iN q.i < iN (List.map (AV.int IntKind.i64) q.l).length) = true)) (h2 : (0 ≤ iN q.i)) (h3 : ((List.map (AV.int IntKind.i64) q.l)[(iN q.i).toNat]? = some (AV.int IntKind.i64 q.e))) (h4 : (decide (q.x < q.e) = false)) (h5 : (1 ≤ [AV.int IntKind.i64 q.e].length)) (h6 : ([AV.int IntKind.i64 q.e].length ≤ 9223372036854775807)) (h7 : ([AV.int IntKind.i64 q.e].length * 8 ≤ 140737488355328)) {post : Exit → St → Prop} {R : St → Prop} (hR : ∀ st, Ren 0 st (St.mk 42 [(0, AV.lst (List.map (AV.int IntKind.i64) q.l)), (1, AV.int IntKind.i64 q.x), (5, AV.sl 0 0 [AV.int IntKind.i64 q.e].length), (6, AV.bool false), (7, AV.int IntKind.i64 (IntKind.i64.wrap (iN q.i + 1)))] [some (Blk.mk [AV.int IntKind.i64 q.e] 1 true true)]) → R st) : ∃ o' st' q', go Try.prog ({ dec := [(11, true), (22, false)], els := e25 q, calls := cG q, unroll := false } : HT) 0 4000 (.inl (loopC (bodyOf Try.f21) 0)) [] (lz25 q) = some (o', st', q') ∧ q' ∧ Go.AX.Rest Try.prog 0 (andThen R post) st' o' :=
  endN_spec (σ := [1]) (fz := []) (vars := [0,1,5,6,7]) (show endN 0 [1] [] [0,1,5,6,7] (go Try.prog ({ dec := [(11, true), (22, false)], els := e25 q, calls := cG q, unroll := false } : HT) 0 4000 (.inl (loopC (bodyOf Try.f21) 0)) [] (lz25 q)) = some (St.mk 42 [(0, AV.lst (List.map (AV.int IntKind.i64) q.l)), (1, AV.int IntKind.i64 q.x), (5, AV.sl 0 0 [AV.int IntKind.i64 q.e].length), (6, AV.bool false), (7, AV.int IntKind.i64 (IntKind.i64.wrap (iN q.i + 1)))] [some (Blk.mk [AV.int IntKind.i64 q.e] 1 true true)], ((((True ∧ True) ∧ ((True ∧ True) ∧ ((True ∧ True) ∧ ((True ∧ (True ∧ True)) ∧ True)))) ∧ ((type_of% h1) ∧ (((True ∧ True) ∧ ((True ∧ True) ∧ ((True ∧ True) ∧ ((True ∧ (True ∧ True)) ∧ ((True ∧ (True ∧ True)) ∧ ((True ∧ (True ∧ (True ∧ ((type_of% h2) ∧ (type_of% h3))))) ∧ ((True ∧ (True ∧ True)) ∧ ((True ∧ (True ∧ True)) ∧ ((True ∧ (True ∧ (True ∧ True))) ∧ ((True ∧ ((type_of% h4) ∧ True)) ∧ True)))))))))) ∧ (True ∧ (((True ∧ True) ∧ ((True ∧ True) ∧ ((True ∧ True) ∧ ((True ∧ (True ∧ ((type_of% h2) ∧ (type_of% h3)))) ∧ ((True ∧ True) ∧ ((True ∧ True) ∧ ((True ∧ (True ∧ (((nat_lit 1 = nat_lit 1) ∧ (type_of% h5)) ∧ ((type_of% h6) ∧ (type_of% h7))))) ∧ ((True ∧ True) ∧ True)))))))) ∧ (((True ∧ True) ∧ ((True ∧ True) ∧ ((True ∧ True) ∧ True))) ∧ True)))))) ∧ (True ∧ (True ∧ (True ∧ (True ∧ (True ∧ (True ∧ True)))))))) by kernel_rfl) ⟨⟨⟨⟨trivial, trivial⟩, ⟨⟨trivial, trivial⟩, ⟨⟨trivial, trivial⟩, ⟨⟨trivial, ⟨trivial, trivial⟩⟩, trivial⟩⟩⟩⟩, ⟨h1, ⟨⟨⟨trivial, trivial⟩, ⟨⟨trivial, trivial⟩, ⟨⟨trivial, trivial⟩, ⟨⟨trivial, ⟨trivial, trivial⟩⟩, ⟨⟨trivial, ⟨trivial, trivial⟩⟩, ⟨⟨trivial, ⟨trivial, ⟨trivial, ⟨h2, h3⟩⟩⟩⟩, ⟨⟨trivial, ⟨trivial, trivial⟩⟩, ⟨⟨trivial, ⟨trivial, trivial⟩⟩, ⟨⟨trivial, ⟨trivial, ⟨trivial, trivial⟩⟩⟩, ⟨⟨trivial, ⟨h4, trivial⟩⟩, trivial⟩⟩⟩⟩⟩⟩⟩⟩⟩⟩, ⟨trivial, ⟨⟨⟨trivial, trivial⟩, ⟨⟨trivial, trivial⟩, ⟨⟨trivial, trivial⟩, ⟨⟨trivial, ⟨trivial, ⟨h2, h3⟩⟩⟩, ⟨⟨trivial, trivial⟩, ⟨⟨trivial, trivial⟩, ⟨⟨trivial, ⟨trivial, ⟨⟨(by first | decide | exact Int.NonNeg.mk _), h5⟩, ⟨h6, h7⟩⟩⟩⟩, ⟨⟨trivial, trivial⟩, trivial⟩⟩⟩⟩⟩⟩⟩⟩, ⟨⟨⟨trivial, trivial⟩, ⟨⟨trivial, trivial⟩, ⟨⟨trivial, trivial⟩, trivial⟩⟩⟩, trivial⟩⟩⟩⟩⟩⟩, ⟨trivial, ⟨trivial, ⟨trivial, ⟨trivial, ⟨trivial, ⟨trivial, trivial⟩⟩⟩⟩⟩⟩⟩ hR
theorem inox_0 (q : QG) (h1 : (decide (iN q.i < iN (List.map (AV.int IntKind.i64) q.l).length) = false)) (h2 : ((!q.b) = true)) (h3 : ((List.map (AV.int IntKind.i64) q.o).length = q.o.length)) (h4 : (1 ≤ [AV.int IntKind.i64 q.x].length)) (h5 : ((List.map (AV.int IntKind.i64) q.o).length + [AV.int IntKind.i64 q.x].length ≤ 9223372036854775807)) (h6 : (((List.map (AV.int IntKind.i64) q.o).length + [AV.int IntKind.i64 q.x].length) * 8 ≤ 140737488355328)) (h7 : ((List.map (AV.int IntKind.i64) q.o).length + [AV.int IntKind.i64 q.x].length = (List.map (AV.int IntKind.i64) q.o ++ [AV.int IntKind.i64 q.x]).length)) : ∃ o' st' q', go2 Try.prog ({ dec := [(11, false), (36, true)], els := e25 q, calls := cG q, unroll := false } : HT) 0 4000 (loopC (bodyOf Try.f21) 0) (loopK (bodyOf Try.f21) 0) (lo25 q) = some (o', st', q') ∧ q' ∧ Go.AX.Rest Try.prog 0 (Fin Try.prog Try.f21 0 [] (AV.lst (List.map (AV.int IntKind.i64) q.o ++ [AV.int IntKind.i64 q.x]))) st' o' :=
  endF_spec (σ := []) (fz := [0,1,2,3]) (show endF Try.prog Try.f21 0 [] [0,1,2,3] (go2 Try.prog ({ dec := [(11, false), (36, true)], els := e25 q, calls := cG q, unroll := false } : HT) 0 4000 (loopC (bodyOf Try.f21) 0) (loopK (bodyOf Try.f21) 0) (lo25 q)) = some ([], AV.lst (List.map (AV.int IntKind.i64) q.o ++ [AV.int IntKind.i64 q.x]), (((((True ∧ True) ∧ ((True ∧ True) ∧ ((True ∧ True) ∧ ((True ∧ (True ∧ True)) ∧ True)))) ∧ ((type_of% h1) ∧ True)) ∧ (((True ∧ True) ∧ ((True ∧ True) ∧ True)) ∧ ((type_of% h2) ∧ (((True ∧ True) ∧ ((True ∧ True) ∧ ((True ∧ True) ∧ ((True ∧ (True ∧ ((type_of% h3) ∧ (((nat_lit 1 = nat_lit 1) ∧ (type_of% h4)) ∧ ((type_of% h5) ∧ (type_of% h6)))))) ∧ ((True ∧ True) ∧ True))))) ∧ (((True ∧ True) ∧ ((True ∧ True) ∧ True)) ∧ True))))) ∧ ((type_of% h7) ∧ True))) by kernel_rfl) ⟨⟨⟨⟨⟨trivial, trivial⟩, ⟨⟨trivial, trivial⟩, ⟨⟨trivial, trivial⟩, ⟨⟨trivial, ⟨trivial, trivial⟩⟩, trivial⟩⟩⟩⟩, ⟨h1, trivial⟩⟩, ⟨⟨⟨trivial, trivial⟩, ⟨⟨trivial, trivial⟩, trivial⟩⟩, ⟨h2, ⟨⟨⟨trivial, trivial⟩, ⟨⟨trivial, trivial⟩, ⟨⟨trivial, trivial⟩, ⟨⟨trivial, ⟨trivial, ⟨h3, ⟨⟨(by first | decide | exact Int.NonNeg.mk _), h4⟩, ⟨h5, h6⟩⟩⟩⟩⟩, ⟨⟨trivial, trivial⟩, trivial⟩⟩⟩⟩⟩, ⟨⟨⟨trivial, trivial⟩, ⟨⟨trivial, trivial⟩, trivial⟩⟩, trivial⟩⟩⟩⟩⟩, ⟨h7, trivial⟩⟩
theorem inox_1 (q : QG) (h1 : (decide (iN q.i < iN (List.map (AV.int IntKind.i64) q.l).length) = false)) (h2 : ((!q.b) = false)) (h3 : (q.o.length = (List.map (AV.int IntKind.i64) q.o).length)) : ∃ o' st' q', go2 Try.prog ({ dec := [(11, false), (36, false)], els := e25 q, calls := cG q, unroll := false } : HT) 0 4000 (loopC (bodyOf Try.f21) 0) (loopK (bodyOf Try.f21) 0) (lo25 q) = some (o', st', q') ∧ q' ∧ Go.AX.Rest Try.prog 0 (Fin Try.prog Try.f21 0 [] (AV.lst (List.map (AV.int IntKind.i64) q.o))) st' o' :=
  endF_spec (σ := []) (fz := [0,1,2,3]) (show endF Try.prog Try.f21 0 [] [0,1,2,3] (go2 Try.prog ({ dec := [(11, false), (36, false)], els := e25 q, calls := cG q, unroll := false } : HT) 0 4000 (loopC (bodyOf Try.f21) 0) (loopK (bodyOf Try.f21) 0) (lo25 q)) = some ([], AV.lst (List.map (AV.int IntKind.i64) q.o), (((((True ∧ True) ∧ ((True ∧ True) ∧ ((True ∧ True) ∧ ((True ∧ (True ∧ True)) ∧ True)))) ∧ ((type_of% h1) ∧ True)) ∧ (((True ∧ True) ∧ ((True ∧ True) ∧ True)) ∧ ((type_of% h2) ∧ (((True ∧ True) ∧ ((True ∧ True) ∧ True)) ∧ True)))) ∧ ((type_of% h3) ∧ True))) by kernel_rfl) ⟨⟨⟨⟨⟨trivial, trivial⟩, ⟨⟨trivial, trivial⟩, ⟨⟨trivial, trivial⟩, ⟨⟨trivial, ⟨trivial, trivial⟩⟩, trivial⟩⟩⟩⟩, ⟨h1, trivial⟩⟩, ⟨⟨⟨trivial, trivial⟩, ⟨⟨trivial, trivial⟩, trivial⟩⟩, ⟨h2, ⟨⟨⟨trivial, trivial⟩, ⟨⟨trivial, trivial⟩, trivial⟩⟩, trivial⟩⟩⟩⟩, ⟨h3, trivial⟩⟩
theorem inod_0 (q : QG) (h1 : (decide (iN q.i < iN (List.map (AV.int IntKind.i64) q.l).length) = true)) (h2 : ((!q.b) = false)) (h3 : (0 ≤ iN q.i)) (h4 : ((List.map (AV.int IntKind.i64) q.l)[(iN q.i).toNat]? = some (AV.int IntKind.i64 q.e))) (h5 : ((List.map (AV.int IntKind.i64) q.o).length = q.o.length)) (h6 : (1 ≤ [AV.int IntKind.i64 q.e].length)) (h7 : ((List.map (AV.int IntKind.i64) q.o).length + [AV.int IntKind.i64 q.e].length ≤ 9223372036854775807)) (h8 : (((List.map (AV.int IntKind.i64) q.o).length + [AV.int IntKind.i64 q.e].length) * 8 ≤ 140737488355328)) {post : Exit → St → Prop} {R : St → Prop} (hR : ∀ st, Ren 0 st (St.mk 42 [(0, AV.lst (List.map (AV.int IntKind.i64) q.l)), (1, AV.int IntKind.i64 q.x), (5, AV.sl 0 0 ((List.map (AV.int IntKind.i64) q.o).length + [AV.int IntKind.i64 q.e].length)), (6, AV.bool q.b), (7, AV.int IntKind.i64 (IntKind.i64.wrap (iN q.i + 1)))] [some (Blk.mk (List.map (AV.int IntKind.i64) q.o ++ [AV.int IntKind.i64 q.e]) 1 true true)]) → R st) : ∃ o' st' q', go Try.prog ({ dec := [(11, true), (15, false), (16, false), (23, false)], els := e25 q, calls := cG q, unroll := false } : HT) 0 4000 (.inl (loopC (bodyOf Try.f21) 0)) [] (lo25 q) = some (o', st', q') ∧ q' ∧ Go.AX.Rest Try.prog 0 (andThen R post) st' o' :=
  endN_spec (σ := [2]) (fz := []) (vars := [0,1,5,6,7]) (show endN 0 [2] [] [0,1,5,6,7] (go Try.prog ({ dec := [(11, true), (15, false), (16, false), (23, false)], els := e25 q, calls := cG q, unroll := false } : HT) 0 4000 (.inl (loopC (bodyOf Try.f21) 0)) [] (lo25 q)) = some (St.mk 42 [(0, AV.lst (List.map (AV.int IntKind.i64) q.l)), (1, AV.int IntKind.i64 q.x), (5, AV.sl 0 0 ((List.map (AV.int IntKind.i64) q.o).length + [AV.int IntKind.i64 q.e].length)), (6, AV.bool q.b), (7, AV.int IntKind.i64 (IntKind.i64.wrap (iN q.i + 1)))] [some (Blk.mk (List.map (AV.int IntKind.i64) q.o ++ [AV.int IntKind.i64 q.e]) 1 true true)], ((((True ∧ True) ∧ ((True ∧ True) ∧ ((True ∧ True) ∧ ((True ∧ (True ∧ True)) ∧ True)))) ∧ ((type_of% h1) ∧ (((True ∧ True) ∧ ((True ∧ True) ∧ (((type_of% h2) ∧ True) ∧ ((false = false) ∧ ((false = false) ∧ ((false = false) ∧ ((false = false) ∧ ((false = false) ∧ ((false = false) ∧ (((false = false) ∧ (True ∧ True)) ∧ True)))))))))) ∧ ((false = false) ∧ (((True ∧ True) ∧ ((True ∧ True) ∧ ((True ∧ True) ∧ ((True ∧ (True ∧ ((type_of% h3) ∧ (type_of% h4)))) ∧ ((True ∧ True) ∧ ((True ∧ True) ∧ ((True ∧ (True ∧ ((type_of% h5) ∧ (((nat_lit 1 = nat_lit 1) ∧ (type_of% h6)) ∧ ((type_of% h7) ∧ (type_of% h8)))))) ∧ ((True ∧ True) ∧ True)))))))) ∧ (((True ∧ True) ∧ ((True ∧ True) ∧ ((True ∧ True) ∧ True))) ∧ True)))))) ∧ (True ∧ (True ∧ (True ∧ (True ∧ (True ∧ (True ∧ True)))))))) by kernel_rfl) ⟨⟨⟨⟨trivial, trivial⟩, ⟨⟨trivial, trivial⟩, ⟨⟨trivial, trivial⟩, ⟨⟨trivial, ⟨trivial, trivial⟩⟩, trivial⟩⟩⟩⟩, ⟨h1, ⟨⟨⟨trivial, trivial⟩, ⟨⟨trivial, trivial⟩, ⟨⟨h2, trivial⟩, ⟨(by first | decide | exact Int.NonNeg.mk _), ⟨(by first | decide | exact Int.NonNeg.mk _), ⟨(by first | decide | exact Int.NonNeg.mk _), ⟨(by first | decide | exact Int.NonNeg.mk _), ⟨(by first | decide | exact Int.NonNeg.mk _), ⟨(by first | decide | exact Int.NonNeg.mk _), ⟨⟨(by first | decide | exact Int.NonNeg.mk _), ⟨trivial, trivial⟩⟩, trivial⟩⟩⟩⟩⟩⟩⟩⟩⟩⟩, ⟨(by first | decide | exact Int.NonNeg.mk _), ⟨⟨⟨trivial, trivial⟩, ⟨⟨trivial, trivial⟩, ⟨⟨trivial, trivial⟩, ⟨⟨trivial, ⟨trivial, ⟨h3, h4⟩⟩⟩, ⟨⟨trivial, trivial⟩, ⟨⟨trivial, trivial⟩, ⟨⟨trivial, ⟨trivial, ⟨h5, ⟨⟨(by first | decide | exact Int.NonNeg.mk _), h6⟩, ⟨h7, h8⟩⟩⟩⟩⟩, ⟨⟨trivial, trivial⟩, trivial⟩⟩⟩⟩⟩⟩⟩⟩, ⟨⟨⟨trivial, trivial⟩, ⟨⟨trivial, trivial⟩, ⟨⟨trivial, trivial⟩, trivial⟩⟩⟩, trivial⟩⟩⟩⟩⟩⟩, ⟨trivial, ⟨trivial, ⟨trivial, ⟨trivial, ⟨trivial, ⟨trivial, trivial⟩⟩⟩⟩⟩⟩⟩ hR
theorem inoa_0 (q : QG) (h1 : (decide (iN q.i < iN (List.map (AV.int IntKind.i64) q.l).length) = true)) (h2 : ((!q.b) = true)) (h3 : (0 ≤ iN q.i)) (h4 : ((List.map (AV.int IntKind.i64) q.l)[(iN q.i).toNat]? = some (AV.int IntKind.i64 q.e))) (h5 : (decide (q.x < q.e) = true)) (h6 : ((List.map (AV.int IntKind.i64) q.o).length = q.o.length)) (h7 : (1 ≤ [AV.int IntKind.i64 q.x].length)) (h8 : ((List.map (AV.int IntKind.i64) q.o).length + [AV.int IntKind.i64 q.x].length ≤ 9223372036854775807)) (h9 : (((List.map (AV.int IntKind.i64) q.o).length + [AV.int IntKind.i64 q.x].length) * 8 ≤ 140737488355328)) (h10 : ((List.map (AV.int IntKind.i64) q.o ++ [AV.int IntKind.i64 q.x]).length = (List.map (AV.int IntKind.i64) q.o).length + [AV.int IntKind.i64 q.x].length)) (h11 : (1 ≤ [AV.int IntKind.i64 q.e].length)) (h12 : ((List.map (AV.int IntKind.i64) q.o ++ [AV.int IntKind.i64 q.x]).length + [AV.int IntKind.i64 q.e].length ≤ 9223372036854775807)) (h13 : (((List.map (AV.int IntKind.i64) q.o ++ [AV.int IntKind.i64 q.x]).length + [AV.int IntKind.i64 q.e].length) * 8 ≤ 140737488355328)) {post : Exit → St → Prop} {R : St → Prop} (hR : ∀ st, Ren 0 st (St.mk 42 [(0, AV.lst (List.map (AV.int IntKind.i64) q.l)), (1, AV.int IntKind.i64 q.x), (5, AV.sl 0 0 ((List.map (AV.int IntKind.i64) q.o ++ [AV.int IntKind.i64 q.x]).length + [AV.int IntKind.i64 q.e].length)), (6, AV.bool true), (7, AV.int IntKind.i64 (IntKind.i64.wrap (iN q.i + 1)))] [some (Blk.mk (List.map (AV.int IntKind.i64) q.o ++ [AV.int IntKind.i64 q.x] ++ [AV.int IntKind.i64 q.e]) 1 true true)]) → R st) : ∃ o' st' q', go Try.prog ({ dec := [(11, true), (15, true), (16, true), (22, true), (23, true)], els := e25 q, calls := cG q, unroll := false } : HT) 0 4000 (.inl (loopC (bodyOf Try.f21) 0)) [] (lo25 q) = some (o', st', q') ∧ q' ∧ Go.AX.Rest Try.prog 0 (andThen R post) st' o' :=
  endN_spec (σ := [4]) (fz := []) (vars := [0,1,5,6,7]) (show endN 0 [4] [] [0,1,5,6,7] (go Try.prog ({ dec := [(11, true), (15, true), (16, true), (22, true), (23, true)], els := e25 q, calls := cG q, unroll := false } : HT) 0 4000 (.inl (loopC (bodyOf Try.f21) 0)) [] (lo25 q)) = some (St.mk 42 [(0, AV.lst (List.map (AV.int IntKind.i64) q.l)), (1, AV.int IntKind.i64 q.x), (5, AV.sl 0 0 ((List.map (AV.int IntKind.i64) q.o ++ [AV.int IntKind.i64 q.x]).length + [AV.int IntKind.i64 q.e].length)), (6, AV.bool true), (7, AV.int IntKind.i64 (IntKind.i64.wrap (iN q.i + 1)))] [some (Blk.mk (List.map (AV.int IntKind.i64) q.o ++ [AV.int IntKind.i64 q.x] ++ [AV.int IntKind.i64 q.e]) 1 true true)], ((((True ∧ True) ∧ ((True ∧ True) ∧ ((True ∧ True) ∧ ((True ∧ (True ∧ True)) ∧ True)))) ∧ ((type_of% h1) ∧ (((True ∧ True) ∧ ((True ∧ True) ∧ (((type_of% h2) ∧ True) ∧ (((true = true) ∧ (True ∧ True)) ∧ (((true = true) ∧ (True ∧ True)) ∧ (((true = true) ∧ (True ∧ (True ∧ ((type_of% h3) ∧ (type_of% h4))))) ∧ (((true = true) ∧ (True ∧ True)) ∧ (((true = true) ∧ (True ∧ True)) ∧ (((true = true) ∧ (True ∧ (True ∧ True))) ∧ (((true = true) ∧ ((type_of% h5) ∧ True)) ∧ True)))))))))) ∧ ((true = true) ∧ (((True ∧ True) ∧ ((True ∧ True) ∧ ((True ∧ True) ∧ ((True ∧ (True ∧ ((type_of% h6) ∧ (((nat_lit 1 = nat_lit 1) ∧ (type_of% h7)) ∧ ((type_of% h8) ∧ (type_of% h9)))))) ∧ ((True ∧ True) ∧ (True ∧ True)))))) ∧ (((True ∧ True) ∧ ((True ∧ True) ∧ ((True ∧ True) ∧ ((True ∧ (True ∧ ((type_of% h3) ∧ (type_of% h4)))) ∧ ((True ∧ True) ∧ ((True ∧ True) ∧ ((True ∧ (True ∧ ((type_of% h10) ∧ (((nat_lit 1 = nat_lit 1) ∧ (type_of% h11)) ∧ ((type_of% h12) ∧ (type_of% h13)))))) ∧ ((True ∧ True) ∧ True)))))))) ∧ (((True ∧ True) ∧ ((True ∧ True) ∧ ((True ∧ True) ∧ True))) ∧ True))))))) ∧ (True ∧ (True ∧ (True ∧ (True ∧ (True ∧ (True ∧ True)))))))) by kernel_rfl) ⟨⟨⟨⟨trivial, trivial⟩, ⟨⟨trivial, trivial⟩, ⟨⟨trivial, trivial⟩, ⟨⟨trivial, ⟨trivial, trivial⟩⟩, trivial⟩⟩⟩⟩, ⟨h1, ⟨⟨⟨trivial, trivial⟩, ⟨⟨trivial, trivial⟩, ⟨⟨h2, trivial⟩, ⟨⟨(by first | decide | exact Int.NonNeg.mk _), ⟨trivial, trivial⟩⟩, ⟨⟨(by first | decide | exact Int.NonNeg.mk _), ⟨trivial, trivial⟩⟩, ⟨⟨(by first | decide | exact Int.NonNeg.mk _), ⟨trivial, ⟨trivial, ⟨h3, h4⟩⟩⟩⟩, ⟨⟨(by first | decide | exact Int.NonNeg.mk _), ⟨trivial, trivial⟩⟩, ⟨⟨(by first | decide | exact Int.NonNeg.mk _), ⟨trivial, trivial⟩⟩, ⟨⟨(by first | decide | exact Int.NonNeg.mk _), ⟨trivial, ⟨trivial, trivial⟩⟩⟩, ⟨⟨(by first | decide | exact Int.NonNeg.mk _), ⟨h5, trivial⟩⟩, trivial⟩⟩⟩⟩⟩⟩⟩⟩⟩⟩, ⟨(by first | decide | exact Int.NonNeg.mk _), ⟨⟨⟨trivial, trivial⟩, ⟨⟨trivial, trivial⟩, ⟨⟨trivial, trivial⟩, ⟨⟨trivial, ⟨trivial, ⟨h6, ⟨⟨(by first | decide | exact Int.NonNeg.mk _), h7⟩, ⟨h8, h9⟩⟩⟩⟩⟩, ⟨⟨trivial, trivial⟩, ⟨trivial, trivial⟩⟩⟩⟩⟩⟩, ⟨⟨⟨trivial, trivial⟩, ⟨⟨trivial, trivial⟩, ⟨⟨trivial, trivial⟩, ⟨⟨trivial, ⟨trivial, ⟨h3, h4⟩⟩⟩, ⟨⟨trivial, trivial⟩, ⟨⟨trivial, trivial⟩, ⟨⟨trivial, ⟨trivial, ⟨h10, ⟨⟨(by first | decide | exact Int.NonNeg.mk _), h11⟩, ⟨h12, h13⟩⟩⟩⟩⟩, ⟨⟨trivial, trivial⟩, trivial⟩⟩⟩⟩⟩⟩⟩⟩, ⟨⟨⟨trivial, trivial⟩, ⟨⟨trivial, trivial⟩, ⟨⟨trivial, trivial⟩, trivial⟩⟩⟩, trivial⟩⟩⟩⟩⟩⟩⟩, ⟨trivial, ⟨trivial, ⟨trivial, ⟨trivial, ⟨trivial, ⟨trivial, trivial⟩⟩⟩⟩⟩⟩⟩ hR
theorem inob_0 (q : QG) (h1 : (decide (iN q.i < iN (List.map (AV.int IntKind.i64) q.l).length) = true)) (h2 : ((!q.b) = true)) (h3 : (0 ≤ iN q.i)) (h4 : ((List.map (AV.int IntKind.i64) q.l)[(iN q.i).toNat]? = some (AV.int IntKind.i64 q.e))) (h5 : (decide (q.x < q.e) = false)) (h6 : ((List.map (AV.int IntKind.i64) q.o).length = q.o.length)) (h7 : (1 ≤ [AV.int IntKind.i64 q.e].length)) (h8 : ((List.map (AV.int IntKind.i64) q.o).length + [AV.int IntKind.i64 q.e].length ≤ 9223372036854775807)) (h9 : (((List.map (AV.int IntKind.i64) q.o).length + [AV.int IntKind.i64 q.e].length) * 8 ≤ 140737488355328)) {post : Exit → St → Prop} {R : St → Prop} (hR : ∀ st, Ren 0 st (St.mk 42 [(0, AV.lst (List.map (AV.int IntKind.i64) q.l)), (1, AV.int IntKind.i64 q.x), (5, AV.sl 0 0 ((List.map (AV.int IntKind.i64) q.o).length + [AV.int IntKind.i64 q.e].length)), (6, AV.bool q.b), (7, AV.int IntKind.i64 (IntKind.i64.wrap (iN q.i + 1)))] [some (Blk.mk (List.map (AV.int IntKind.i64) q.o ++ [AV.int IntKind.i64 q.e]) 1 true true)]) → R st) : ∃ o' st' q', go Try.prog ({ dec := [(11, true), (15, true), (16, true), (22, false), (23, false)], els := e25 q, calls := cG q, unroll := false } : HT) 0 4000 (.inl (loopC (bodyOf Try.f21) 0)) [] (lo25 q) = some (o', st', q') ∧ q' ∧ Go.AX.Rest Try.prog 0 (andThen R post) st' o' :=
  endN_spec (σ := [2]) (fz := []) (vars := [0,1,5,6,7]) (show endN 0 [2] [] [0,1,5,6,7] (go Try.prog ({ dec := [(11, true), (15, true), (16, true), (22, false), (23, false)], els := e25 q, calls := cG q, unroll := false } : HT) 0 4000 (.inl (loopC (bodyOf Try.f21) 0)) [] (lo25 q)) = some (St.mk 42 [(0, AV.lst (List.map (AV.int IntKind.i64) q.l)), (1, AV.int IntKind.i64 q.x), (5, AV.sl 0 0 ((List.map (AV.int IntKind.i64) q.o).length + [AV.int IntKind.i64 q.e].length)), (6, AV.bool q.b), (7, AV.int IntKind.i64 (IntKind.i64.wrap (iN q.i + 1)))] [some (Blk.mk (List.map (AV.int IntKind.i64) q.o ++ [AV.int IntKind.i64 q.e]) 1 true true)], ((((True ∧ True) ∧ ((True ∧ True) ∧ ((True ∧ True) ∧ ((True ∧ (True ∧ True)) ∧ True)))) ∧ ((type_of% h1) ∧ (((True ∧ True) ∧ ((True ∧ True) ∧ (((type_of% h2) ∧ True) ∧ (((true = true) ∧ (True ∧ True)) ∧ (((true = true) ∧ (True ∧ True)) ∧ (((true = true) ∧ (True ∧ (True ∧ ((type_of% h3) ∧ (type_of% h4))))) ∧ (((true = true) ∧ (True ∧ True)) ∧ (((true = true) ∧ (True ∧ True)) ∧ (((true = true) ∧ (True ∧ (True ∧ True))) ∧ (((true = true) ∧ ((type_of% h5) ∧ True)) ∧ True)))))))))) ∧ ((false = false) ∧ (((True ∧ True) ∧ ((True ∧ True) ∧ ((True ∧ True) ∧ ((True ∧ (True ∧ ((type_of% h3) ∧ (type_of% h4)))) ∧ ((True ∧ True) ∧ ((True ∧ True) ∧ ((True ∧ (True ∧ ((type_of% h6) ∧ (((nat_lit 1 = nat_lit 1) ∧ (type_of% h7)) ∧ ((type_of% h8) ∧ (type_of% h9)))))) ∧ ((True ∧ True) ∧ True)))))))) ∧ (((True ∧ True) ∧ ((True ∧ True) ∧ ((True ∧ True) ∧ True))) ∧ True)))))) ∧ (True ∧ (True ∧ (True ∧ (True ∧ (True ∧ (True ∧ True)))))))) by kernel_rfl) ⟨⟨⟨⟨trivial, trivial⟩, ⟨⟨trivial, trivial⟩, ⟨⟨trivial, trivial⟩, ⟨⟨trivial, ⟨trivial, trivial⟩⟩, trivial⟩⟩⟩⟩, ⟨h1, ⟨⟨⟨trivial, trivial⟩, ⟨⟨trivial, trivial⟩, ⟨⟨h2, trivial⟩, ⟨⟨(by first | decide | exact Int.NonNeg.mk _), ⟨trivial, trivial⟩⟩, ⟨⟨(by first | decide | exact Int.NonNeg.mk _), ⟨trivial, trivial⟩⟩, ⟨⟨(by first | decide | exact Int.NonNeg.mk _), ⟨trivial, ⟨trivial, ⟨h3, h4⟩⟩⟩⟩, ⟨⟨(by first | decide | exact Int.NonNeg.mk _), ⟨trivial, trivial⟩⟩, ⟨⟨(by first | decide | exact Int.NonNeg.mk _), ⟨trivial, trivial⟩⟩, ⟨⟨(by first | decide | exact Int.NonNeg.mk _), ⟨trivial, ⟨trivial, trivial⟩⟩⟩, ⟨⟨(by first | decide | exact Int.NonNeg.mk _), ⟨h5, trivial⟩⟩, trivial⟩⟩⟩⟩⟩⟩⟩⟩⟩⟩, ⟨(by first | decide | exact Int.NonNeg.mk _), ⟨⟨⟨trivial, trivial⟩, ⟨⟨trivial, trivial⟩, ⟨⟨trivial, trivial⟩, ⟨⟨trivial, ⟨trivial, ⟨h3, h4⟩⟩⟩, ⟨⟨trivial, trivial⟩, ⟨⟨trivial, trivial⟩, ⟨⟨trivial, ⟨trivial, ⟨h6, ⟨⟨(by first | decide | exact Int.NonNeg.mk _), h7⟩, ⟨h8, h9⟩⟩⟩⟩⟩, ⟨⟨trivial, trivial⟩, trivial⟩⟩⟩⟩⟩⟩⟩⟩, ⟨⟨⟨trivial, trivial⟩, ⟨⟨trivial, trivial⟩, ⟨⟨trivial, trivial⟩, trivial⟩⟩⟩, trivial⟩⟩⟩⟩⟩⟩, ⟨trivial, ⟨trivial, ⟨trivial, ⟨trivial, ⟨trivial, ⟨trivial, trivial⟩⟩⟩⟩⟩⟩⟩ hR
theorem gr_0 (q : QG) (h1 : (CT Try.prog 11 [some (Blk.mk [AV.agg [AV.lst (List.map (AV.int IntKind.i64) q.L), AV.int IntKind.i64 (iN q.kk)]] 2 true true)] [AV.ptr 0 0 0, AV.int IntKind.i64 (IntKind.i64.wrap (q.x + 1))] [some (Blk.mk [AV.agg [AV.lst (List.map (AV.int IntKind.i64) q.L), AV.int IntKind.i64 (iN (q.kk + 1))]] 2 true true)] (AV.int IntKind.i64 (iN q.n)))) (h2 : (0 ≤ iN q.n)) (h3 : (iN q.n ≤ iN q.n)) (h4 : (24 * iN q.n ≤ 281474976710656)) (h5 : (iN q.n ≤ 9223372036854775807)) (h6 : (CT Try.prog 11 [some (Blk.mk [AV.agg [AV.lst (List.map (AV.int IntKind.i64) q.L), AV.int IntKind.i64 (iN (q.kk + 1))]] 2 true true)] [AV.ptr 0 0 0, AV.int IntKind.i64 (IntKind.i64.wrap (IntKind.i64.wrap (3 * iN q.n) + 1))] [some (Blk.mk [AV.agg [AV.lst (List.map (AV.int IntKind.i64) q.L), AV.int IntKind.i64 (iN (q.kk + 1 + 1))]] 2 true true)] (AV.int IntKind.i64 q.k))) {post : Exit → St → Prop} (ht : T Try.prog 1 (.loop (loopC (bodyOf Try.f9) 0)) (St.mk 53 [(0, AV.ptr 0 0 0), (5, AV.int IntKind.i64 (iN q.n)), (6, AV.sl 1 0 (iN q.n).toNat), (7, AV.int IntKind.i64 q.k)] [some (Blk.mk [AV.agg [AV.lst (List.map (AV.int IntKind.i64) q.L), AV.int IntKind.i64 (iN (q.kk + 1 + 1))]] 2 true true), some (Blk.mk (List.replicate (iN q.n).toNat AV.nils) 1 true true)]) (TK Try.prog 1 post (loopK (bodyOf Try.f9) 0))) : ∃ o' st' q', go Try.prog ({ dec := [], els := e9 q, calls := cG q, unroll := false } : HT) 1 4000 (.inl (bodyOf Try.f9)) [] (st9 q) = some (o', st', q') ∧ q' ∧ Go.AX.Rest Try.prog 1 post st' o' :=
  endR_spec (σ := [0,1]) (fz := []) (vars := [0,5,6,7]) (show endR 1 [0,1] [] [0,5,6,7] (go Try.prog ({ dec := [], els := e9 q, calls := cG q, unroll := false } : HT) 1 4000 (.inl (bodyOf Try.f9)) [] (st9 q)) = some (loopC (bodyOf Try.f9) 0, loopK (bodyOf Try.f9) 0, St.mk 53 [(0, AV.ptr 0 0 0), (5, AV.int IntKind.i64 (iN q.n)), (6, AV.sl 1 0 (iN q.n).toNat), (7, AV.int IntKind.i64 q.k)] [some (Blk.mk [AV.agg [AV.lst (List.map (AV.int IntKind.i64) q.L), AV.int IntKind.i64 (iN (q.kk + 1 + 1))]] 2 true true), some (Blk.mk (List.replicate (iN q.n).toNat AV.nils) 1 true true)], (((True ∧ True) ∧ (((True ∧ True) ∧ ((True ∧ True) ∧ ((True ∧ True) ∧ ((True ∧ (True ∧ (True ∧ (True ∧ (True ∧ ((type_of% h1) ∧ True)))))) ∧ ((True ∧ True) ∧ True))))) ∧ (((True ∧ True) ∧ ((True ∧ (True ∧ ((type_of% h2) ∧ ((type_of% h3) ∧ ((type_of% h4) ∧ (type_of% h5)))))) ∧ ((True ∧ True) ∧ True))) ∧ (((True ∧ True) ∧ ((True ∧ True) ∧ ((True ∧ True) ∧ ((True ∧ True) ∧ ((True ∧ (True ∧ (True ∧ (True ∧ (True ∧ ((type_of% h6) ∧ True)))))) ∧ ((True ∧ True) ∧ True)))))) ∧ True)))) ∧ (True ∧ (True ∧ (True ∧ (True ∧ (True ∧ (True ∧ True)))))))) by kernel_rfl) ⟨⟨⟨trivial, trivial⟩, ⟨⟨⟨trivial, trivial⟩, ⟨⟨trivial, trivial⟩, ⟨⟨trivial, trivial⟩, ⟨⟨trivial, ⟨trivial, ⟨trivial, ⟨trivial, ⟨trivial, ⟨h1, trivial⟩⟩⟩⟩⟩⟩, ⟨⟨trivial, trivial⟩, trivial⟩⟩⟩⟩⟩, ⟨⟨⟨trivial, trivial⟩, ⟨⟨trivial, ⟨trivial, ⟨h2, ⟨h3, ⟨h4, h5⟩⟩⟩⟩⟩, ⟨⟨trivial, trivial⟩, trivial⟩⟩⟩, ⟨⟨⟨trivial, trivial⟩, ⟨⟨trivial, trivial⟩, ⟨⟨trivial, trivial⟩, ⟨⟨trivial, trivial⟩, ⟨⟨trivial, ⟨trivial, ⟨trivial, ⟨trivial, ⟨trivial, ⟨h6, trivial⟩⟩⟩⟩⟩⟩, ⟨⟨trivial, trivial⟩, trivial⟩⟩⟩⟩⟩⟩, trivial⟩⟩⟩⟩, ⟨trivial, ⟨trivial, ⟨trivial, ⟨trivial, ⟨trivial, ⟨trivial, trivial⟩⟩⟩⟩⟩⟩⟩ ht
theorem grx_0 (q : QG) (h1 : (decide (0 < q.k) = false)) (h2 : (q.n = (gL q.g).length)) : ∃ o' st' q', go2 Try.prog ({ dec := [(22, false)], els := e9 q, calls := cG q, unroll := false } : HT) 1 4000 (loopC (bodyOf Try.f9) 0) (loopK (bodyOf Try.f9) 0) (lo9 q) = some (o', st', q') ∧ q' ∧ Go.AX.Rest Try.prog 1 (Fin Try.prog Try.f9 1 [some (Blk.mk [AV.agg [AV.lst (List.map (AV.int IntKind.i64) q.L), AV.int IntKind.i64 (iN q.kk)]] 2 true true)] (AV.lst (gL q.g))) st' o' :=
  endF_spec (σ := [0]) (fz := [1]) (show endF Try.prog Try.f9 1 [0] [1] (go2 Try.prog ({ dec := [(22, false)], els := e9 q, calls := cG q, unroll := false } : HT) 1 4000 (loopC (bodyOf Try.f9) 0) (loopK (bodyOf Try.f9) 0) (lo9 q)) = some ([some (Blk.mk [AV.agg [AV.lst (List.map (AV.int IntKind.i64) q.L), AV.int IntKind.i64 (iN q.kk)]] 2 true true)], AV.lst (gL q.g), (((((True ∧ True) ∧ ((True ∧ True) ∧ True)) ∧ ((type_of% h1) ∧ True)) ∧ (((True ∧ True) ∧ ((True ∧ True) ∧ True)) ∧ True)) ∧ ((type_of% h2) ∧ (True ∧ True)))) by kernel_rfl) ⟨⟨⟨⟨⟨trivial, trivial⟩, ⟨⟨trivial, trivial⟩, trivial⟩⟩, ⟨h1, trivial⟩⟩, ⟨⟨⟨trivial, trivial⟩, ⟨⟨trivial, trivial⟩, trivial⟩⟩, trivial⟩⟩, ⟨h2, ⟨trivial, trivial⟩⟩⟩
theorem grr_0 (q : QG) (h1 : (decide (0 < q.k) = true)) (h2 : (CT Try.prog 11 [some (Blk.mk [AV.agg [AV.lst (List.map (AV.int IntKind.i64) q.L), AV.int IntKind.i64 (iN q.kk)]] 2 true true)] [AV.ptr 0 0 0, AV.int IntKind.i64 (iN q.n)] [some (Blk.mk [AV.agg [AV.lst (List.map (AV.int IntKind.i64) q.L), AV.int IntKind.i64 (iN (q.kk + 1))]] 2 true true)] (AV.int IntKind.i64 (iN q.v)))) (h3 : (CT Try.prog 11 [some (Blk.mk [AV.agg [AV.lst (List.map (AV.int IntKind.i64) q.L), AV.int IntKind.i64 (iN (q.kk + 1))]] 2 true true)] [AV.ptr 0 0 0, AV.int IntKind.i64 (iN q.n)] [some (Blk.mk [AV.agg [AV.lst (List.map (AV.int IntKind.i64) q.L), AV.int IntKind.i64 (iN (q.kk + 1 + 1))]] 2 true true)] (AV.int IntKind.i64 (iN q.w)))) (h4 : ((iN q.v != iN q.w) = true)) (h5 : (0 ≤ iN q.v)) (h6 : (iN q.v < iN q.n)) (h7 : ((gL q.g)[0 + (iN q.v).toNat]? = some (AV.lst (List.map (AV.int IntKind.i64) q.l)))) (h8 : (CT Try.prog 19 [] [AV.lst (List.map (AV.int IntKind.i64) q.l), AV.int IntKind.i64 (iN q.w)] [] (AV.bool q.b))) (h9 : ((!q.b) = true)) (h10 : (CT Try.prog 21 [] [AV.lst (List.map (AV.int IntKind.i64) q.l), AV.int IntKind.i64 (iN q.w)] [] (AV.lst (List.map (AV.int IntKind.i64) q.o)))) (h11 : ((0 + (iN q.v).toNat).succ.le (gL q.g).length)) {post : Exit → St → Prop} {R : St → Prop} (hR : ∀ st, Ren 1 st (St.mk 53 [(0, AV.ptr 0 0 0), (5, AV.int IntKind.i64 (iN q.n)), (6, AV.sl 1 0 q.n), (7, AV.int IntKind.i64 (IntKind.i64.wrap (q.k - 1)))] [some (Blk.mk [AV.agg [AV.lst (List.map (AV.int IntKind.i64) q.L), AV.int IntKind.i64 (iN (q.kk + 1 + 1))]] 2 true true), some (Blk.mk ((gL q.g).set (0 + (iN q.v).toNat) (AV.lst (List.map (AV.int IntKind.i64) q.o))) 1 true true)]) → R st) : ∃ o' st' q', go Try.prog ({ dec := [(22, true), (34, true), (42, true)], els := e9 q, calls := cG q, unroll := false } : HT) 1 4000 (.inl (loopC (bodyOf Try.f9) 0)) [] (lo9 q) = some (o', st', q') ∧ q' ∧ Go.AX.Rest Try.prog 1 (andThen R post) st' o' :=
  endN_spec (σ := [0,1]) (fz := []) (vars := [0,5,6,7]) (show endN 1 [0,1] [] [0,5,6,7] (go Try.prog ({ dec := [(22, true), (34, true), (42, true)], els := e9 q, calls := cG q, unroll := false } : HT) 1 4000 (.inl (loopC (bodyOf Try.f9) 0)) [] (lo9 q)) = some (St.mk 53 [(0, AV.ptr 0 0 0), (5, AV.int IntKind.i64 (iN q.n)), (6, AV.sl 1 0 q.n), (7, AV.int IntKind.i64 (IntKind.i64.wrap (q.k - 1)))] [some (Blk.mk [AV.agg [AV.lst (List.map (AV.int IntKind.i64) q.L), AV.int IntKind.i64 (iN (q.kk + 1 + 1))]] 2 true true), some (Blk.mk ((gL q.g).set (0 + (iN q.v).toNat) (AV.lst (List.map (AV.int IntKind.i64) q.o))) 1 true true)], ((((True ∧ True) ∧ ((True ∧ True) ∧ True)) ∧ ((type_of% h1) ∧ (((True ∧ True) ∧ ((True ∧ True) ∧ ((True ∧ (True ∧ (True ∧ (True ∧ (True ∧ ((type_of% h2) ∧ True)))))) ∧ ((True ∧ True) ∧ ((True ∧ True) ∧ ((True ∧ (True ∧ (True ∧ (True ∧ (True ∧ ((type_of% h3) ∧ True)))))) ∧ ((True ∧ True) ∧ ((True ∧ True) ∧ True)))))))) ∧ (((True ∧ True) ∧ ((True ∧ True) ∧ ((True ∧ (True ∧ True)) ∧ ((True ∧ True) ∧ (((type_of% h4) ∧ (True ∧ True)) ∧ (((type_of% h4) ∧ (True ∧ True)) ∧ (((type_of% h4) ∧ (True ∧ (True ∧ ((type_of% h5) ∧ (type_of% h6))))) ∧ (((type_of% h4) ∧ (True ∧ (type_of% h7))) ∧ (((type_of% h4) ∧ (True ∧ True)) ∧ (((type_of% h4) ∧ (True ∧ (True ∧ (True ∧ (True ∧ ((type_of% h8) ∧ True)))))) ∧ (((type_of% h4) ∧ (True ∧ True)) ∧ (((type_of% h4) ∧ (True ∧ True)) ∧ True)))))))))))) ∧ ((type_of% h9) ∧ (((True ∧ True) ∧ ((True ∧ True) ∧ ((True ∧ True) ∧ ((True ∧ True) ∧ ((True ∧ (True ∧ ((type_of% h5) ∧ (type_of% h6)))) ∧ ((True ∧ (type_of% h7)) ∧ ((True ∧ True) ∧ ((True ∧ (True ∧ (True ∧ (True ∧ ((type_of% h10) ∧ True))))) ∧ ((True ∧ (True ∧ ((type_of% h5) ∧ (type_of% h6)))) ∧ ((True ∧ (True ∧ (type_of% h11))) ∧ True)))))))))) ∧ (((True ∧ True) ∧ ((True ∧ True) ∧ ((True ∧ True) ∧ True))) ∧ True))))))) ∧ (True ∧ (True ∧ (True ∧ (True ∧ (True ∧ (True ∧ True)))))))) by kernel_rfl) ⟨⟨⟨⟨trivial, trivial⟩, ⟨⟨trivial, trivial⟩, trivial⟩⟩, ⟨h1, ⟨⟨⟨trivial, trivial⟩, ⟨⟨trivial, trivial⟩, ⟨⟨trivial, ⟨trivial, ⟨trivial, ⟨trivial, ⟨trivial, ⟨h2, trivial⟩⟩⟩⟩⟩⟩, ⟨⟨trivial, trivial⟩, ⟨⟨trivial, trivial⟩, ⟨⟨trivial, ⟨trivial, ⟨trivial, ⟨trivial, ⟨trivial, ⟨h3, trivial⟩⟩⟩⟩⟩⟩, ⟨⟨trivial, trivial⟩, ⟨⟨trivial, trivial⟩, trivial⟩⟩⟩⟩⟩⟩⟩⟩, ⟨⟨⟨trivial, trivial⟩, ⟨⟨trivial, trivial⟩, ⟨⟨trivial, ⟨trivial, trivial⟩⟩, ⟨⟨trivial, trivial⟩, ⟨⟨h4, ⟨trivial, trivial⟩⟩, ⟨⟨h4, ⟨trivial, trivial⟩⟩, ⟨⟨h4, ⟨trivial, ⟨trivial, ⟨h5, h6⟩⟩⟩⟩, ⟨⟨h4, ⟨trivial, h7⟩⟩, ⟨⟨h4, ⟨trivial, trivial⟩⟩, ⟨⟨h4, ⟨trivial, ⟨trivial, ⟨trivial, ⟨trivial, ⟨h8, trivial⟩⟩⟩⟩⟩⟩, ⟨⟨h4, ⟨trivial, trivial⟩⟩, ⟨⟨h4, ⟨trivial, trivial⟩⟩, trivial⟩⟩⟩⟩⟩⟩⟩⟩⟩⟩⟩⟩, ⟨h9, ⟨⟨⟨trivial, trivial⟩, ⟨⟨trivial, trivial⟩, ⟨⟨trivial, trivial⟩, ⟨⟨trivial, trivial⟩, ⟨⟨trivial, ⟨trivial, ⟨h5, h6⟩⟩⟩, ⟨⟨trivial, h7⟩, ⟨⟨trivial, trivial⟩, ⟨⟨trivial, ⟨trivial, ⟨trivial, ⟨trivial, ⟨h10, trivial⟩⟩⟩⟩⟩, ⟨⟨trivial, ⟨trivial, ⟨h5, h6⟩⟩⟩, ⟨⟨trivial, ⟨trivial, h11⟩⟩, trivial⟩⟩⟩⟩⟩⟩⟩⟩⟩⟩, ⟨⟨⟨trivial, trivial⟩, ⟨⟨trivial, trivial⟩, ⟨⟨trivial, trivial⟩, trivial⟩⟩⟩, trivial⟩⟩⟩⟩⟩⟩⟩, ⟨trivial, ⟨trivial, ⟨trivial, ⟨trivial, ⟨trivial, ⟨trivial, trivial⟩⟩⟩⟩⟩⟩⟩ hR
theorem grr_1 (q : QG) (h1 : (decide (0 < q.k) = true)) (h2 : (CT Try.prog 11 [some (Blk.mk [AV.agg [AV.lst (List.map (AV.int IntKind.i64) q.L), AV.int IntKind.i64 (iN q.kk)]] 2 true true)] [AV.ptr 0 0 0, AV.int IntKind.i64 (iN q.n)] [some (Blk.mk [AV.agg [AV.lst (List.map (AV.int IntKind.i64) q.L), AV.int IntKind.i64 (iN (q.kk + 1))]] 2 true true)] (AV.int IntKind.i64 (iN q.v)))) (h3 : (CT Try.prog 11 [some (Blk.mk [AV.agg [AV.lst (List.map (AV.int IntKind.i64) q.L), AV.int IntKind.i64 (iN (q.kk + 1))]] 2 true true)] [AV.ptr 0 0 0, AV.int IntKind.i64 (iN q.n)] [some (Blk.mk [AV.agg [AV.lst (List.map (AV.int IntKind.i64) q.L), AV.int IntKind.i64 (iN (q.kk + 1 + 1))]] 2 true true)] (AV.int IntKind.i64 (iN q.w)))) (h4 : ((iN q.v != iN q.w) = true)) (h5 : (0 ≤ iN q.v)) (h6 : (iN q.v < iN q.n)) (h7 : ((gL q.g)[0 + (iN q.v).toNat]? = some (AV.lst (List.map (AV.int IntKind.i64) q.l)))) (h8 : (CT Try.prog 19 [] [AV.lst (List.map (AV.int IntKind.i64) q.l), AV.int IntKind.i64 (iN q.w)] [] (AV.bool q.b))) (h9 : ((!q.b) = false)) {post : Exit → St → Prop} {R : St → Prop} (hR : ∀ st, Ren 1 st (St.mk 53 [(0, AV.ptr 0 0 0), (5, AV.int IntKind.i64 (iN q.n)), (6, AV.sl 1 0 q.n), (7, AV.int IntKind.i64 (IntKind.i64.wrap (q.k - 1)))] [some (Blk.mk [AV.agg [AV.lst (List.map (AV.int IntKind.i64) q.L), AV.int IntKind.i64 (iN (q.kk + 1 + 1))]] 2 true true), some (Blk.mk (gL q.g) 1 true true)]) → R st) : ∃ o' st' q', go Try.prog ({ dec := [(22, true), (34, true), (42, false)], els := e9 q, calls := cG q, unroll := false } : HT) 1 4000 (.inl (loopC (bodyOf Try.f9) 0)) [] (lo9 q) = some (o', st', q') ∧ q' ∧ Go.AX.Rest Try.prog 1 (andThen R post) st' o' :=
  endN_spec (σ := [0,1]) (fz := []) (vars := [0,5,6,7]) (show endN 1 [0,1] [] [0,5,6,7] (go Try.prog ({ dec := [(22, true), (34, true), (42, false)], els := e9 q, calls := cG q, unroll := false } : HT) 1 4000 (.inl (loopC (bodyOf Try.f9) 0)) [] (lo9 q)) = some (St.mk 53 [(0, AV.ptr 0 0 0), (5, AV.int IntKind.i64 (iN q.n)), (6, AV.sl 1 0 q.n), (7, AV.int IntKind.i64 (IntKind.i64.wrap (q.k - 1)))] [some (Blk.mk [AV.agg [AV.lst (List.map (AV.int IntKind.i64) q.L), AV.int IntKind.i64 (iN (q.kk + 1 + 1))]] 2 true true), some (Blk.mk (gL q.g) 1 true true)], ((((True ∧ True) ∧ ((True ∧ True) ∧ True)) ∧ ((type_of% h1) ∧ (((True ∧ True) ∧ ((True ∧ True) ∧ ((True ∧ (True ∧ (True ∧ (True ∧ (True ∧ ((type_of% h2) ∧ True)))))) ∧ ((True ∧ True) ∧ ((True ∧ True) ∧ ((True ∧ (True ∧ (True ∧ (True ∧ (True ∧ ((type_of% h3) ∧ True)))))) ∧ ((True ∧ True) ∧ ((True ∧ True) ∧ True)))))))) ∧ (((True ∧ True) ∧ ((True ∧ True) ∧ ((True ∧ (True ∧ True)) ∧ ((True ∧ True) ∧ (((type_of% h4) ∧ (True ∧ True)) ∧ (((type_of% h4) ∧ (True ∧ True)) ∧ (((type_of% h4) ∧ (True ∧ (True ∧ ((type_of% h5) ∧ (type_of% h6))))) ∧ (((type_of% h4) ∧ (True ∧ (type_of% h7))) ∧ (((type_of% h4) ∧ (True ∧ True)) ∧ (((type_of% h4) ∧ (True ∧ (True ∧ (True ∧ (True ∧ ((type_of% h8) ∧ True)))))) ∧ (((type_of% h4) ∧ (True ∧ True)) ∧ (((type_of% h4) ∧ (True ∧ True)) ∧ True)))))))))))) ∧ ((type_of% h9) ∧ (((True ∧ True) ∧ ((True ∧ True) ∧ ((True ∧ True) ∧ True))) ∧ True)))))) ∧ (True ∧ (True ∧ (True ∧ (True ∧ (True ∧ (True ∧ True)))))))) by kernel_rfl) ⟨⟨⟨⟨trivial, trivial⟩, ⟨⟨trivial, trivial⟩, trivial⟩⟩, ⟨h1, ⟨⟨⟨trivial, trivial⟩, ⟨⟨trivial, trivial⟩, ⟨⟨trivial, ⟨trivial, ⟨trivial, ⟨trivial, ⟨trivial, ⟨h2, trivial⟩⟩⟩⟩⟩⟩, ⟨⟨trivial, trivial⟩, ⟨⟨trivial, trivial⟩, ⟨⟨trivial, ⟨trivial, ⟨trivial, ⟨trivial, ⟨trivial, ⟨h3, trivial⟩⟩⟩⟩⟩⟩, ⟨⟨trivial, trivial⟩, ⟨⟨trivial, trivial⟩, trivial⟩⟩⟩⟩⟩⟩⟩⟩, ⟨⟨⟨trivial, trivial⟩, ⟨⟨trivial, trivial⟩, ⟨⟨trivial, ⟨trivial, trivial⟩⟩, ⟨⟨trivial, trivial⟩, ⟨⟨h4, ⟨trivial, trivial⟩⟩, ⟨⟨h4, ⟨trivial, trivial⟩⟩, ⟨⟨h4, ⟨trivial, ⟨trivial, ⟨h5, h6⟩⟩⟩⟩, ⟨⟨h4, ⟨trivial, h7⟩⟩, ⟨⟨h4, ⟨trivial, trivial⟩⟩, ⟨⟨h4, ⟨trivial, ⟨trivial, ⟨trivial, ⟨trivial, ⟨h8, trivial⟩⟩⟩⟩⟩⟩, ⟨⟨h4, ⟨trivial, trivial⟩⟩, ⟨⟨h4, ⟨trivial, trivial⟩⟩, trivial⟩⟩⟩⟩⟩⟩⟩⟩⟩⟩⟩⟩, ⟨h9, ⟨⟨⟨trivial, trivial⟩, ⟨⟨trivial, trivial⟩, ⟨⟨trivial, trivial⟩, trivial⟩⟩⟩, trivial⟩⟩⟩⟩⟩⟩, ⟨trivial, ⟨trivial, ⟨trivial, ⟨trivial, ⟨trivial, ⟨trivial, trivial⟩⟩⟩⟩⟩⟩⟩ hR
theorem grr_2 (q : QG) (h1 : (decide (0 < q.k) = true)) (h2 : (CT Try.prog 11 [some (Blk.mk [AV.agg [AV.lst (List.map (AV.int IntKind.i64) q.L), AV.int IntKind.i64 (iN q.kk)]] 2 true true)] [AV.ptr 0 0 0, AV.int IntKind.i64 (iN q.n)] [some (Blk.mk [AV.agg [AV.lst (List.map (AV.int IntKind.i64) q.L), AV.int IntKind.i64 (iN (q.kk + 1))]] 2 true true)] (AV.int IntKind.i64 (iN q.v)))) (h3 : (CT Try.prog 11 [some (Blk.mk [AV.agg [AV.lst (List.map (AV.int IntKind.i64) q.L), AV.int IntKind.i64 (iN (q.kk + 1))]] 2 true true)] [AV.ptr 0 0 0, AV.int IntKind.i64 (iN q.n)] [some (Blk.mk [AV.agg [AV.lst (List.map (AV.int IntKind.i64) q.L), AV.int IntKind.i64 (iN (q.kk + 1 + 1))]] 2 true true)] (AV.int IntKind.i64 (iN q.w)))) (h4 : ((iN q.v != iN q.w) = false)) {post : Exit → St → Prop} {R : St → Prop} (hR : ∀ st, Ren 1 st (St.mk 53 [(0, AV.ptr 0 0 0), (5, AV.int IntKind.i64 (iN q.n)), (6, AV.sl 1 0 q.n), (7, AV.int IntKind.i64 (IntKind.i64.wrap (q.k - 1)))] [some (Blk.mk [AV.agg [AV.lst (List.map (AV.int IntKind.i64) q.L), AV.int IntKind.i64 (iN (q.kk + 1 + 1))]] 2 true true), some (Blk.mk (gL q.g) 1 true true)]) → R st) : ∃ o' st' q', go Try.prog ({ dec := [(22, true), (34, false)], els := e9 q, calls := cG q, unroll := false } : HT) 1 4000 (.inl (loopC (bodyOf Try.f9) 0)) [] (lo9 q) = some (o', st', q') ∧ q' ∧ Go.AX.Rest Try.prog 1 (andThen R post) st' o' :=
  endN_spec (σ := [0,1]) (fz := []) (vars := [0,5,6,7]) (show endN 1 [0,1] [] [0,5,6,7] (go Try.prog ({ dec := [(22, true), (34, false)], els := e9 q, calls := cG q, unroll := false } : HT) 1 4000 (.inl (loopC (bodyOf Try.f9) 0)) [] (lo9 q)) = some (St.mk 53 [(0, AV.ptr 0 0 0), (5, AV.int IntKind.i64 (iN q.n)), (6, AV.sl 1 0 q.n), (7, AV.int IntKind.i64 (IntKind.i64.wrap (q.k - 1)))] [some (Blk.mk [AV.agg [AV.lst (List.map (AV.int IntKind.i64) q.L), AV.int IntKind.i64 (iN (q.kk + 1 + 1))]] 2 true true), some (Blk.mk (gL q.g) 1 true true)], ((((True ∧ True) ∧ ((True ∧ True) ∧ True)) ∧ ((type_of% h1) ∧ (((True ∧ True) ∧ ((True ∧ True) ∧ ((True ∧ (True ∧ (True ∧ (True ∧ (True ∧ ((type_of% h2) ∧ True)))))) ∧ ((True ∧ True) ∧ ((True ∧ True) ∧ ((True ∧ (True ∧ (True ∧ (True ∧ (True ∧ ((type_of% h3) ∧ True)))))) ∧ ((True ∧ True) ∧ ((True ∧ True) ∧ True)))))))) ∧ (((True ∧ True) ∧ ((True ∧ True) ∧ ((True ∧ (True ∧ True)) ∧ ((True ∧ True) ∧ ((type_of% h4) ∧ ((type_of% h4) ∧ ((type_of% h4) ∧ ((type_of% h4) ∧ ((type_of% h4) ∧ ((type_of% h4) ∧ ((type_of% h4) ∧ (((type_of% h4) ∧ (True ∧ True)) ∧ True)))))))))))) ∧ (True ∧ (((True ∧ True) ∧ ((True ∧ True) ∧ ((True ∧ True) ∧ True))) ∧ True)))))) ∧ (True ∧ (True ∧ (True ∧ (True ∧ (True ∧ (True ∧ True)))))))) by kernel_rfl) ⟨⟨⟨⟨trivial, trivial⟩, ⟨⟨trivial, trivial⟩, trivial⟩⟩, ⟨h1, ⟨⟨⟨trivial, trivial⟩, ⟨⟨trivial, trivial⟩, ⟨⟨trivial, ⟨trivial, ⟨trivial, ⟨trivial, ⟨trivial, ⟨h2, trivial⟩⟩⟩⟩⟩⟩, ⟨⟨trivial, trivial⟩, ⟨⟨trivial, trivial⟩, ⟨⟨trivial, ⟨trivial, ⟨trivial, ⟨trivial, ⟨trivial, ⟨h3, trivial⟩⟩⟩⟩⟩⟩, ⟨⟨trivial, trivial⟩, ⟨⟨trivial, trivial⟩, trivial⟩⟩⟩⟩⟩⟩⟩⟩, ⟨⟨⟨trivial, trivial⟩, ⟨⟨trivial, trivial⟩, ⟨⟨trivial, ⟨trivial, trivial⟩⟩, ⟨⟨trivial, trivial⟩, ⟨h4, ⟨h4, ⟨h4, ⟨h4, ⟨h4, ⟨h4, ⟨h4, ⟨⟨h4, ⟨trivial, trivial⟩⟩, trivial⟩⟩⟩⟩⟩⟩⟩⟩⟩⟩⟩⟩, ⟨trivial, ⟨⟨⟨trivial, trivial⟩, ⟨⟨trivial, trivial⟩, ⟨⟨trivial, trivial⟩, trivial⟩⟩⟩, trivial⟩⟩⟩⟩⟩⟩, ⟨trivial, ⟨trivial, ⟨trivial, ⟨trivial, ⟨trivial, ⟨trivial, trivial⟩⟩⟩⟩⟩⟩⟩ hR
theorem sh_0 (q : QG) (h1 : (0 ≤ iN q.n)) (h2 : (iN q.n ≤ iN q.n)) (h3 : (1 * iN q.n ≤ 281474976710656)) (h4 : (iN q.n ≤ 9223372036854775807)) (h5 : (CT Try.prog 11 [some (Blk.mk [AV.agg [AV.lst (List.map (AV.int IntKind.i64) q.L), AV.int IntKind.i64 (iN q.kk)]] 2 true true)] [AV.ptr 0 0 0, AV.int IntKind.i64 3] [some (Blk.mk [AV.agg [AV.lst (List.map (AV.int IntKind.i64) q.L), AV.int IntKind.i64 (iN (q.kk + 1))]] 2 true true)] (AV.int IntKind.i64 q.k))) {post : Exit → St → Prop} (ht : T Try.prog 1 (.loop (loopC (bodyOf Try.f10) 0)) (St.mk 25 [(0, AV.ptr 0 0 0), (1, AV.int IntKind.i64 (iN q.n)), (5, AV.sl 1 0 (iN q.n).toNat), (6, AV.int IntKind.i64 q.k)] [some (Blk.mk [AV.agg [AV.lst (List.map (AV.int IntKind.i64) q.L), AV.int IntKind.i64 (iN (q.kk + 1))]] 2 true true), some (Blk.mk (List.replicate (iN q.n).toNat (AV.bool false)) 1 true true)]) (TK Try.prog 1 post (loopK (bodyOf Try.f10) 0))) : ∃ o' st' q', go Try.prog ({ dec := [], els := e10 q, calls := cG q, unroll := false } : HT) 1 4000 (.inl (bodyOf Try.f10)) [] (st10 q) = some (o', st', q') ∧ q' ∧ Go.AX.Rest Try.prog 1 post st' o' :=
  endR_spec (σ := [0,1]) (fz := []) (vars := [0,1,5,6]) (show endR 1 [0,1] [] [0,1,5,6] (go Try.prog ({ dec := [], els := e10 q, calls := cG q, unroll := false } : HT) 1 4000 (.inl (bodyOf Try.f10)) [] (st10 q)) = some (loopC (bodyOf Try.f10) 0, loopK (bodyOf Try.f10) 0, St.mk 25 [(0, AV.ptr 0 0 0), (1, AV.int IntKind.i64 (iN q.n)), (5, AV.sl 1 0 (iN q.n).toNat), (6, AV.int IntKind.i64 q.k)] [some (Blk.mk [AV.agg [AV.lst (List.map (AV.int IntKind.i64) q.L), AV.int IntKind.i64 (iN (q.kk + 1))]] 2 true true), some (Blk.mk (List.replicate (iN q.n).toNat (AV.bool false)) 1 true true)], (((True ∧ True) ∧ (((True ∧ True) ∧ ((True ∧ (True ∧ ((type_of% h1) ∧ ((type_of% h2) ∧ ((type_of% h3) ∧ (type_of% h4)))))) ∧ ((True ∧ True) ∧ True))) ∧ (((True ∧ True) ∧ ((True ∧ (True ∧ (True ∧ (True ∧ ((type_of% h5) ∧ True))))) ∧ ((True ∧ True) ∧ True))) ∧ True))) ∧ (True ∧ (True ∧ (True ∧ (True ∧ (True ∧ (True ∧ True)))))))) by kernel_rfl) ⟨⟨⟨trivial, trivial⟩, ⟨⟨⟨trivial, trivial⟩, ⟨⟨trivial, ⟨trivial, ⟨h1, ⟨h2, ⟨h3, h4⟩⟩⟩⟩⟩, ⟨⟨trivial, trivial⟩, trivial⟩⟩⟩, ⟨⟨⟨trivial, trivial⟩, ⟨⟨trivial, ⟨trivial, ⟨trivial, ⟨trivial, ⟨h5, trivial⟩⟩⟩⟩⟩, ⟨⟨trivial, trivial⟩, trivial⟩⟩⟩, trivial⟩⟩⟩, ⟨trivial, ⟨trivial, ⟨trivial, ⟨trivial, ⟨trivial, ⟨trivial, trivial⟩⟩⟩⟩⟩⟩⟩ ht
theorem shx_0 (q : QG) (h1 : (decide (0 < q.k) = true)) (h2 : (decide (0 < iN q.n) = false)) (h3 : (q.n = (boL q.s).length)) : ∃ o' st' q', go2 Try.prog ({ dec := [(16, false), (13, true)], els := e10 q, calls := cG q, unroll := false } : HT) 1 4000 (loopC (bodyOf Try.f10) 0) (loopK (bodyOf Try.f10) 0) (lo10 q) = some (o', st', q') ∧ q' ∧ Go.AX.Rest Try.prog 1 (Fin Try.prog Try.f10 1 [some (Blk.mk [AV.agg [AV.lst (List.map (AV.int IntKind.i64) q.L), AV.int IntKind.i64 (iN q.kk)]] 2 true true)] (AV.lst (boL q.s))) st' o' :=
  endF_spec (σ := [0]) (fz := [1]) (show endF Try.prog Try.f10 1 [0] [1] (go2 Try.prog ({ dec := [(16, false), (13, true)], els := e10 q, calls := cG q, unroll := false } : HT) 1 4000 (loopC (bodyOf Try.f10) 0) (loopK (bodyOf Try.f10) 0) (lo10 q)) = some ([some (Blk.mk [AV.agg [AV.lst (List.map (AV.int IntKind.i64) q.L), AV.int IntKind.i64 (iN q.kk)]] 2 true true)], AV.lst (boL q.s), (((((True ∧ True) ∧ ((True ∧ True) ∧ ((True ∧ True) ∧ (((type_of% h1) ∧ (True ∧ True)) ∧ (((type_of% h1) ∧ (True ∧ True)) ∧ (((type_of% h1) ∧ (True ∧ True)) ∧ True)))))) ∧ ((type_of% h2) ∧ True)) ∧ (((True ∧ True) ∧ ((True ∧ True) ∧ True)) ∧ True)) ∧ ((type_of% h3) ∧ (True ∧ True)))) by kernel_rfl) ⟨⟨⟨⟨⟨trivial, trivial⟩, ⟨⟨trivial, trivial⟩, ⟨⟨trivial, trivial⟩, ⟨⟨h1, ⟨trivial, trivial⟩⟩, ⟨⟨h1, ⟨trivial, trivial⟩⟩, ⟨⟨h1, ⟨trivial, trivial⟩⟩, trivial⟩⟩⟩⟩⟩⟩, ⟨h2, trivial⟩⟩, ⟨⟨⟨trivial, trivial⟩, ⟨⟨trivial, trivial⟩, trivial⟩⟩, trivial⟩⟩, ⟨h3, ⟨trivial, trivial⟩⟩⟩
theorem shx_1 (q : QG) (h1 : (decide (0 < q.k) = false)) (h2 : (q.n = (boL q.s).length)) : ∃ o' st' q', go2 Try.prog ({ dec := [(16, false), (13, false)], els := e10 q, calls := cG q, unroll := false } : HT) 1 4000 (loopC (bodyOf Try.f10) 0) (loopK (bodyOf Try.f10) 0) (lo10 q) = some (o', st', q') ∧ q' ∧ Go.AX.Rest Try.prog 1 (Fin Try.prog Try.f10 1 [some (Blk.mk [AV.agg [AV.lst (List.map (AV.int IntKind.i64) q.L), AV.int IntKind.i64 (iN q.kk)]] 2 true true)] (AV.lst (boL q.s))) st' o' :=
  endF_spec (σ := [0]) (fz := [1]) (show endF Try.prog Try.f10 1 [0] [1] (go2 Try.prog ({ dec := [(16, false), (13, false)], els := e10 q, calls := cG q, unroll := false } : HT) 1 4000 (loopC (bodyOf Try.f10) 0) (loopK (bodyOf Try.f10) 0) (lo10 q)) = some ([some (Blk.mk [AV.agg [AV.lst (List.map (AV.int IntKind.i64) q.L), AV.int IntKind.i64 (iN q.kk)]] 2 true true)], AV.lst (boL q.s), (((((True ∧ True) ∧ ((True ∧ True) ∧ ((True ∧ True) ∧ ((type_of% h1) ∧ ((type_of% h1) ∧ (((type_of% h1) ∧ (True ∧ True)) ∧ True)))))) ∧ ((false = false) ∧ True)) ∧ (((True ∧ True) ∧ ((True ∧ True) ∧ True)) ∧ True)) ∧ ((type_of% h2) ∧ (True ∧ True)))) by kernel_rfl) ⟨⟨⟨⟨⟨trivial, trivial⟩, ⟨⟨trivial, trivial⟩, ⟨⟨trivial, trivial⟩, ⟨h1, ⟨h1, ⟨⟨h1, ⟨trivial, trivial⟩⟩, trivial⟩⟩⟩⟩⟩⟩, ⟨(by first | decide | exact Int.NonNeg.mk _), trivial⟩⟩, ⟨⟨⟨trivial, trivial⟩, ⟨⟨trivial, trivial⟩, trivial⟩⟩, trivial⟩⟩, ⟨h2, ⟨trivial, trivial⟩⟩⟩
theorem shr_0 (q : QG) (h1 : (decide (0 < q.k) = true)) (h2 : (decide (0 < iN q.n) = true)) (h3 : (CT Try.prog 11 [some (Blk.mk [AV.agg [AV.lst (List.map (AV.int IntKind.i64) q.L), AV.int IntKind.i64 (iN q.kk)]] 2 true true)] [AV.ptr 0 0 0, AV.int IntKind.i64 (iN q.n)] [some (Blk.mk [AV.agg [AV.lst (List.map (AV.int IntKind.i64) q.L), AV.int IntKind.i64 (iN (q.kk + 1))]] 2 true true)] (AV.int IntKind.i64 (iN q.v)))) (h4 : (0 ≤ iN q.v)) (h5 : (iN q.v < iN q.n)) (h6 : ((0 + (iN q.v).toNat).succ.le (boL q.s).length)) {post : Exit → St → Prop} {R : St → Prop} (hR : ∀ st, Ren 1 st (St.mk 25 [(0, AV.ptr 0 0 0), (1, AV.int IntKind.i64 (iN q.n)), (5, AV.sl 1 0 q.n), (6, AV.int IntKind.i64 (IntKind.i64.wrap (q.k - 1)))] [some (Blk.mk [AV.agg [AV.lst (List.map (AV.int IntKind.i64) q.L), AV.int IntKind.i64 (iN (q.kk + 1))]] 2 true true), some (Blk.mk ((boL q.s).set (0 + (iN q.v).toNat) (AV.bool true)) 1 true true)]) → R st) : ∃ o' st' q', go Try.prog ({ dec := [(13, true), (16, true)], els := e10 q, calls := cG q, unroll := false } : HT) 1 4000 (.inl (loopC (bodyOf Try.f10) 0)) [] (lo10 q) = some (o', st', q') ∧ q' ∧ Go.AX.Rest Try.prog 1 (andThen R post) st' o' :=
  endN_spec (σ := [0,1]) (fz := []) (vars := [0,1,5,6]) (show endN 1 [0,1] [] [0,1,5,6] (go Try.prog ({ dec := [(13, true), (16, true)], els := e10 q, calls := cG q, unroll := false } : HT) 1 4000 (.inl (loopC (bodyOf Try.f10) 0)) [] (lo10 q)) = some (St.mk 25 [(0, AV.ptr 0 0 0), (1, AV.int IntKind.i64 (iN q.n)), (5, AV.sl 1 0 q.n), (6, AV.int IntKind.i64 (IntKind.i64.wrap (q.k - 1)))] [some (Blk.mk [AV.agg [AV.lst (List.map (AV.int IntKind.i64) q.L), AV.int IntKind.i64 (iN (q.kk + 1))]] 2 true true), some (Blk.mk ((boL q.s).set (0 + (iN q.v).toNat) (AV.bool true)) 1 true true)], ((((True ∧ True) ∧ ((True ∧ True) ∧ ((True ∧ True) ∧ (((type_of% h1) ∧ (True ∧ True)) ∧ (((type_of% h1) ∧ (True ∧ True)) ∧ (((type_of% h1) ∧ (True ∧ True)) ∧ True)))))) ∧ ((type_of% h2) ∧ (((True ∧ True) ∧ ((True ∧ True) ∧ ((True ∧ True) ∧ ((True ∧ (True ∧ (True ∧ (True ∧ (True ∧ ((type_of% h3) ∧ True)))))) ∧ ((True ∧ (True ∧ ((type_of% h4) ∧ (type_of% h5)))) ∧ ((True ∧ (type_of% h6)) ∧ True)))))) ∧ (((True ∧ True) ∧ ((True ∧ True) ∧ ((True ∧ True) ∧ True))) ∧ True)))) ∧ (True ∧ (True ∧ (True ∧ (True ∧ (True ∧ (True ∧ True)))))))) by kernel_rfl) ⟨⟨⟨⟨trivial, trivial⟩, ⟨⟨trivial, trivial⟩, ⟨⟨trivial, trivial⟩, ⟨⟨h1, ⟨trivial, trivial⟩⟩, ⟨⟨h1, ⟨trivial, trivial⟩⟩, ⟨⟨h1, ⟨trivial, trivial⟩⟩, trivial⟩⟩⟩⟩⟩⟩, ⟨h2, ⟨⟨⟨trivial, trivial⟩, ⟨⟨trivial, trivial⟩, ⟨⟨trivial, trivial⟩, ⟨⟨trivial, ⟨trivial, ⟨trivial, ⟨trivial, ⟨trivial, ⟨h3, trivial⟩⟩⟩⟩⟩⟩, ⟨⟨trivial, ⟨trivial, ⟨h4, h5⟩⟩⟩, ⟨⟨trivial, h6⟩, trivial⟩⟩⟩⟩⟩⟩, ⟨⟨⟨trivial, trivial⟩, ⟨⟨trivial, trivial⟩, ⟨⟨trivial, trivial⟩, trivial⟩⟩⟩, trivial⟩⟩⟩⟩, ⟨trivial, ⟨trivial, ⟨trivial, ⟨trivial, ⟨trivial, ⟨trivial, trivial⟩⟩⟩⟩⟩⟩⟩ hR
end Go.Proofs.Ytcdgphdieemjcaa

/-! Contracts. -/
open Go Go.AX Go.Proofs
set_option maxRecDepth 100000
set_option maxHeartbeats 1000000
set_option linter.unusedVariables false
set_option linter.unusedSimpArgs false
namespace Go.Proofs.Ytcdgphdieemjcaa
theorem fnd_none {p : Nat → Bool} : ∀ {n s : Nat}, fnd p s n = none → ∀ i, s ≤ i → i < s + n → p i = false := by
  intro n
  induction n with
  | zero => intro s _ i h1 h2; omega
  | succ n ih =>
    intro s h i h1 h2
    rw [fnd] at h
    cases hp : p s with
    | true => rw [hp] at h; cases h
    | false =>
      rw [hp] at h
      by_cases e : i = s
      · rw [e]; exact hp
      · exact ih h i (by omega) (by omega)

noncomputable def hasZ (l : List Int) (x : Int) : Bool := (fnd (fun i => l.getD i 0 == x) 0 l.length).isSome
theorem hasZ_false {l : List Int} {x : Int} (h : hasZ l x = false) : x ∉ l := by
  intro hm
  unfold hasZ at h
  have hn : fnd (fun i => l.getD i 0 == x) 0 l.length = none := by simpa using h
  obtain ⟨i, hi, rfl⟩ := List.mem_iff_getElem.1 hm
  have := fnd_none hn i (Nat.zero_le _) (by omega)
  rw [List.getD_eq_getElem?_getD, List.getElem?_eq_getElem hi] at this
  simp at this

theorem has_ct (l : List Int) (x : Int) (hl : l.length ≤ 1000000) : CT Try.prog 19 [] [lI l, .int .i64 x] [] (.bool (hasZ l x)) := by
  have hll := lI_len l
  refine CT.path mix Try.func19 (show Try.f19.body = some (bodyOf Try.f19) by kernel_rfl) (Nat.le_of_ble_eq_true rfl) (ha_0 ⟨[], [], l, [], [], 0, 0, 0, 0, 0, x, 0, 0, false⟩ ?_)
  unfold hasZ
  generalize hr : fnd (fun i => l.getD i 0 == x) 0 l.length = r
  refine T.loop (fun i : Nat => lo23 ⟨[], [], l, [], [], 0, 0, 0, 0, 0, x, i, 0, false⟩) (fun i => i ≤ l.length ∧ fnd (fun i => l.getD i 0 == x) i (l.length - i) = r) (fun i => l.length + 1 - i) 0 ⟨Nat.zero_le _, hr⟩ ?_
  rintro i ⟨hi, hf⟩
  by_cases h : i < l.length
  · rw [fnd_step h] at hf
    by_cases he : (l.getD i 0 == x) = true
    · simp only [he] at hf
      subst hf
      exact T.out mix (hay_0 ⟨[], [], l, [], [], 0, 0, 0, 0, 0, x, i, l.getD i 0, false⟩ (decide_eq_true (by simp only [iN, hll]; omega)) (by simp [iN]) (lI_get h) he)
    · have he := Bool.eq_false_iff.2 he
      simp only [he] at hf
      refine T.path mix (har_0 ⟨[], [], l, [], [], 0, 0, 0, 0, 0, x, i, l.getD i 0, false⟩ (decide_eq_true (by simp only [iN, hll]; omega)) (by simp [iN]) (lI_get h) he ?_)
      intro st hst
      simp only [iN, wrap_nat i (show i < 9223372036854775807 by omega)] at hst
      exact ⟨i + 1, hst, ⟨h, hf⟩, by omega⟩
  · rw [fnd_end h] at hf
    subst hf
    exact T.out mix (hax_0 ⟨[], [], l, [], [], 0, 0, 0, 0, 0, x, i, 0, false⟩ (decide_eq_false (by simp only [iN, hll]; omega)))

def insB (x : Int) : List Int → List Int
  | [] => [x]
  | a :: r => if x < a then x :: a :: r else a :: insB x r

noncomputable def inS (l : List Int) (x : Int) (y : Nat × List Int × Bool) : St := match y.2.1 with
  | [] => lz25 ⟨[], [], l, [], [], 0, 0, 0, 0, 0, x, y.1, 0, false⟩
  | _ => lo25 ⟨[], [], l, y.2.1, [], 0, 0, 0, 0, 0, x, y.1, 0, y.2.2⟩

theorem ins_ct (l : List Int) (x : Int) (hl : l.length ≤ 1000000) : CT Try.prog 21 [] [lI l, .int .i64 x] [] (lI (insB x l)) := by
  have hll := lI_len l
  refine CT.path mix Try.func21 (show Try.f21.body = some (bodyOf Try.f21) by kernel_rfl) (Nat.le_of_ble_eq_true rfl) (in_0 ⟨[], [], l, [], [], 0, 0, 0, 0, 0, x, 0, 0, false⟩ ?_)
  generalize hres : insB x l = res
  refine T.loop (fun y : Nat × List Int × Bool => inS l x y) (fun y => y.1 ≤ l.length ∧ y.2.1.length ≤ y.1 + 1 ∧ (y.2.2 = false → y.2.1 = l.take y.1 ∧ res = y.2.1 ++ insB x (l.drop y.1)) ∧ (y.2.2 = true → res = y.2.1 ++ l.drop y.1 ∧ y.2.1 ≠ [])) (fun y => l.length + 1 - y.1) (0, [], false)
    ⟨Nat.zero_le _, by simp, fun _ => ⟨by simp, by simp [hres]⟩, fun h => by cases h⟩ ?_
  rintro ⟨i, o, b⟩ ⟨hi, ho, hF, hT⟩
  simp only at hi ho hF hT
  have step : ∀ (h : i < l.length), l.drop i = l.getD i 0 :: l.drop (i + 1) ∧ l.take (i + 1) = l.take i ++ [l.getD i 0] := by
    intro h
    have e : l.getD i 0 = l[i] := by rw [List.getD_eq_getElem?_getD, List.getElem?_eq_getElem h]; rfl
    rw [e]
    exact ⟨List.drop_eq_getElem_cons h, by rw [List.take_add_one, List.getElem?_eq_getElem h]; rfl⟩
  have hw : IntKind.i64.wrap (iN i + 1) = ((i + 1 : Nat) : Int) := wrap_nat i (by omega)
  have lenE : ∀ (u : List Int) (y : AV), (u.map (AV.int .i64)).length + [y].length = u.length + 1 := by intro u y; simp
  cases ho' : o with
  | nil =>
    subst ho'
    cases hb : b with
    | true => exact absurd rfl (hT hb).2
    | false =>
      subst hb
      obtain ⟨h1, h2⟩ := hF rfl
      simp only [List.nil_append] at h2
      by_cases h : i < l.length
      · obtain ⟨e1, e2⟩ := step h
        by_cases hx : x < l.getD i 0
        · refine T.path mix (inza_0 ⟨[], [], l, [], [], 0, 0, 0, 0, 0, x, i, l.getD i 0, false⟩ (decide_eq_true (by simp only [iN, hll]; omega)) (by simp [iN]) (lI_get h) (decide_eq_true hx) (by simp) (by simp) (by simp) (by simp) (by simp) (by simp) ?_)
          intro st hst
          rw [hw] at hst
          refine ⟨(i + 1, [x, l.getD i 0], true), hst, ⟨h, by simp only [List.length_cons, List.length_nil]; omega, fun h => (by cases h), fun _ => ⟨?_, by simp⟩⟩, by simp only; omega⟩
          rw [h2, e1, insB, if_pos hx]; rfl
        · refine T.path mix (inzb_0 ⟨[], [], l, [], [], 0, 0, 0, 0, 0, x, i, l.getD i 0, false⟩ (decide_eq_true (by simp only [iN, hll]; omega)) (by simp [iN]) (lI_get h) (decide_eq_false hx) (by simp) (by simp) (by simp) ?_)
          intro st hst
          rw [hw] at hst
          refine ⟨(i + 1, [l.getD i 0], false), hst, ⟨h, by simp only [List.length_cons, List.length_nil]; omega, fun _ => ⟨by rw [e2, ← h1]; rfl, ?_⟩, fun h => by cases h⟩, by simp only; omega⟩
          rw [h2, e1, insB, if_neg hx]; rfl
      · have e : l.drop i = [] := List.drop_of_length_le (by omega)
        rw [e] at h2
        rw [h2]
        exact T.out mix (inzx_0 ⟨[], [], l, [], [], 0, 0, 0, 0, 0, x, i, 0, false⟩ (decide_eq_false (by simp only [iN, hll]; omega)) (by simp) (by simp) (by simp))
  | cons o0 o1 =>
    rw [← ho']
    have hS : inS l x (i, o, b) = lo25 ⟨[], [], l, o, [], 0, 0, 0, 0, 0, x, i, 0, b⟩ := by rw [ho']; rfl
    have next : ∀ (o' : List Int) (b' : Bool) (st : St), o' ≠ [] → Ren 0 st (lo25 ⟨[], [], l, o', [], 0, 0, 0, 0, 0, x, i + 1, 0, b'⟩) → Ren 0 st (inS l x (i + 1, o', b')) := by
      intro o' b' st hne hst
      cases o' with
      | nil => exact absurd rfl hne
      | cons _ _ => exact hst
    show T Try.prog 0 _ (inS l x (i, o, b)) _
    rw [hS]
    by_cases h : i < l.length
    · obtain ⟨e1, e2⟩ := step h
      cases hb : b with
      | true =>
        subst hb
        obtain ⟨h1, h2⟩ := hT rfl
        refine T.path mix (inod_0 ⟨[], [], l, o, [], 0, 0, 0, 0, 0, x, i, l.getD i 0, true⟩ (decide_eq_true (by simp only [iN, hll]; omega)) rfl (by simp [iN]) (lI_get h) (by simp) (by simp) (by simp; omega) (by simp; omega) ?_)
        intro st hst
        rw [hw, lenE] at hst
        refine ⟨(i + 1, o ++ [l.getD i 0], true), next _ _ _ (by simp) ?_, ⟨h, by simp only [List.length_append, List.length_cons, List.length_nil]; omega, fun h => (by cases h), fun _ => ⟨by rw [h1, e1]; simp, by simp⟩⟩, by simp only; omega⟩
        unfold lo25 dB
        simp only [List.map_append, List.length_append, List.length_cons, List.length_nil, Nat.zero_add, List.map_cons, List.map_nil]
        exact hst
      | false =>
        subst hb
        obtain ⟨h1, h2⟩ := hF rfl
        by_cases hx : x < l.getD i 0
        · refine T.path mix (inoa_0 ⟨[], [], l, o, [], 0, 0, 0, 0, 0, x, i, l.getD i 0, false⟩ (decide_eq_true (by simp only [iN, hll]; omega)) rfl (by simp [iN]) (lI_get h) (decide_eq_true hx) (by simp) (by simp) (by simp; omega) (by simp; omega) (by simp) (by simp) (by simp; omega) (by simp; omega) ?_)
          intro st hst
          rw [hw] at hst
          have hlen2 : o.length ≤ i := by rw [h1]; simp; omega
          refine ⟨(i + 1, o ++ [x, l.getD i 0], true), next _ _ _ (by simp) ?_, ⟨h, by simp only [List.length_append, List.length_cons, List.length_nil]; omega, fun h => (by cases h), fun _ => ⟨by rw [h2, e1, insB, if_pos hx]; simp, by simp⟩⟩, by simp only; omega⟩
          have e5 : (o.map (AV.int .i64) ++ [AV.int .i64 x]).length + [AV.int .i64 (l.getD i 0)].length = (o ++ [x, l.getD i 0]).length := by simp
          simp only at hst
          rw [e5] at hst
          unfold lo25 dB
          simp only [List.map_append, List.map_cons, List.map_nil]
          rw [List.append_assoc] at hst
          exact hst
        · refine T.path mix (inob_0 ⟨[], [], l, o, [], 0, 0, 0, 0, 0, x, i, l.getD i 0, false⟩ (decide_eq_true (by simp only [iN, hll]; omega)) rfl (by simp [iN]) (lI_get h) (decide_eq_false hx) (by simp) (by simp) (by simp; omega) (by simp; omega) ?_)
          intro st hst
          rw [hw, lenE] at hst
          refine ⟨(i + 1, o ++ [l.getD i 0], false), next _ _ _ (by simp) ?_, ⟨h, by simp only [List.length_append, List.length_cons, List.length_nil]; omega, fun _ => ⟨by rw [e2, ← h1], by rw [h2, e1, insB, if_neg hx]; simp⟩, fun h => by cases h⟩, by simp only; omega⟩
          unfold lo25 dB
          simp only [List.map_append, List.length_append, List.length_cons, List.length_nil, Nat.zero_add, List.map_cons, List.map_nil]
          exact hst
    · have e : l.drop i = [] := List.drop_of_length_le (by omega)
      cases hb : b with
      | true =>
        subst hb
        obtain ⟨h1, _⟩ := hT rfl
        rw [e, List.append_nil] at h1
        rw [h1]
        exact T.out mix (inox_1 ⟨[], [], l, o, [], 0, 0, 0, 0, 0, x, i, 0, true⟩ (decide_eq_false (by simp only [iN, hll]; omega)) rfl (by simp))
      | false =>
        subst hb
        obtain ⟨_, h2⟩ := hF rfl
        rw [e] at h2
        rw [show lI res = .lst (o.map (AV.int .i64) ++ [AV.int .i64 x]) by rw [h2]; simp [lI, insB]]
        exact T.out mix (inox_0 ⟨[], [], l, o, [], 0, 0, 0, 0, 0, x, i, 0, false⟩ (decide_eq_false (by simp only [iN, hll]; omega)) rfl (by simp) (by simp) (by simp; omega) (by simp; omega) (by simp))
end Go.Proofs.Ytcdgphdieemjcaa

/-! Contracts. -/
open Go Go.AX Go.Proofs
set_option maxRecDepth 100000
set_option maxHeartbeats 1000000
set_option linter.unusedVariables false
set_option linter.unusedSimpArgs false
namespace Go.Proofs.Ytcdgphdieemjcaa
theorem wrapS (z : Int) (h0 : -1000000 ≤ z) (h1 : z ≤ 1000000) : IntKind.i64.wrap z = z := by
  have e1 : (2 : Int) ^ IntKind.i64.bits = 18446744073709551616 := by decide
  have e2 : (2 : Int) ^ (IntKind.i64.bits - 1) = 9223372036854775808 := by decide
  have e3 : IntKind.i64.signed = true := by decide
  simp only [IntKind.wrap, e1, e2, e3, Bool.true_and, decide_eq_true_eq]
  split <;> omega
theorem nextZ_rng (L : List Int) (k : Nat) (n : Int) (h1 : 1 ≤ n) (h2 : n ≤ 100000) : 0 ≤ nextZ L k n ∧ nextZ L k n < n := by
  unfold nextZ cutZ
  split
  · omega
  · have ha := Int.tmod_lt_of_pos (rawZ L k) (show 0 < n by omega)
    have hb := Int.lt_tmod_of_pos (rawZ L k) (show 0 < n by omega)
    split
    · rw [wrapS _ (by omega) (by omega)]; omega
    · omega

theorem mem_insB {x y : Int} : ∀ {l : List Int}, y ∈ insB x l ↔ y = x ∨ y ∈ l := by
  intro l
  induction l with
  | nil => simp [insB]
  | cons a r ih =>
    rw [insB]
    split
    · simp
    · simp only [List.mem_cons, ih]
      constructor
      · rintro (h | h | h)
        · exact .inr (.inl h)
        · exact .inl h
        · exact .inr (.inr h)
      · rintro (h | h | h)
        · exact .inr (.inl h)
        · exact .inl h
        · exact .inr (.inr h)
theorem insB_asc {x : Int} : ∀ {l : List Int}, l.Pairwise (· < ·) → x ∉ l → (insB x l).Pairwise (· < ·) := by
  intro l
  induction l with
  | nil => intro _ _; simp [insB]
  | cons a r ih =>
    intro h hx
    rw [List.pairwise_cons] at h
    rw [insB]
    have hxa : x ≠ a := fun e => hx (by simp [e])
    split
    · rename_i hlt
      refine List.pairwise_cons.2 ⟨fun y hy => ?_, List.pairwise_cons.2 h⟩
      rcases List.mem_cons.1 hy with rfl | hy
      · exact hlt
      · exact Int.lt_trans hlt (h.1 y hy)
    · rename_i hge
      refine List.pairwise_cons.2 ⟨fun y hy => ?_, ih h.2 fun hm => hx (List.mem_cons_of_mem _ hm)⟩
      rcases mem_insB.1 hy with rfl | hy
      · omega
      · exact h.1 y hy
theorem insB_len (x : Int) : ∀ (l : List Int), (insB x l).length = l.length + 1 := by
  intro l
  induction l with
  | nil => rfl
  | cons a r ih => rw [insB]; split <;> simp [ih]

/-- What the graphs are that are made. -/
structure GI (n m : Nat) (g : List (List Int)) : Prop where
  len : g.length = n
  row : ∀ v, v < n → (g.getD v []).length ≤ m ∧ (g.getD v []).Pairwise (· < ·) ∧ ∀ w ∈ g.getD v [], 0 ≤ w ∧ w < (n : Int) ∧ w ≠ (v : Int)

noncomputable def stp (L : List Int) (n : Nat) (y : List (List Int) × Nat) : List (List Int) × Nat :=
  if (nextZ L y.2 n).toNat = (nextZ L (y.2 + 1) n).toNat then (y.1, y.2 + 2)
  else if hasZ (y.1.getD (nextZ L y.2 n).toNat []) (nextZ L (y.2 + 1) n) = true then (y.1, y.2 + 2)
  else (y.1.set (nextZ L y.2 n).toNat (insB (nextZ L (y.2 + 1) n) (y.1.getD (nextZ L y.2 n).toNat [])), y.2 + 2)
noncomputable def grS (L : List Int) (n : Nat) (y : List (List Int) × Nat) : Nat → List (List Int) × Nat
  | 0 => y
  | j + 1 => stp L n (grS L n y j)

theorem stp_kk (L : List Int) (n : Nat) (y : List (List Int) × Nat) : (stp L n y).2 = y.2 + 2 := by
  unfold stp; split
  · rfl
  · split <;> rfl
theorem grS_kk (L : List Int) (n : Nat) (y : List (List Int) × Nat) (j : Nat) : (grS L n y j).2 = y.2 + 2 * j := by
  induction j with
  | zero => rfl
  | succ j ih => rw [grS, stp_kk, ih]; omega

theorem stp_inv {L : List Int} {n m : Nat} (hn : 1 ≤ n) (hn2 : n ≤ 1000) {y : List (List Int) × Nat} (h : GI n m y.1) : GI n (m + 1) (stp L n y).1 := by
  have keep : GI n (m + 1) y.1 := ⟨h.len, fun v hv => ⟨Nat.le_succ_of_le (h.row v hv).1, (h.row v hv).2⟩⟩
  have r1 := nextZ_rng L y.2 n (by omega) (by omega)
  have r2 := nextZ_rng L (y.2 + 1) n (by omega) (by omega)
  unfold stp
  generalize nextZ L y.2 n = a at r1
  generalize nextZ L (y.2 + 1) n = w at r2
  split
  · exact keep
  · rename_i hne
    split
    · exact keep
    · rename_i hh
      have hh := Bool.eq_false_iff.2 hh
      have hav : a.toNat < n := by omega
      refine ⟨by simp [h.len], fun v hv => ?_⟩
      have e : (y.1.set a.toNat (insB w (y.1.getD a.toNat []))).getD v [] = if a.toNat = v then insB w (y.1.getD a.toNat []) else y.1.getD v [] := by
        rw [List.getD_eq_getElem?_getD, List.getElem?_set]
        split
        · rename_i e; subst e; rw [if_pos (by rw [h.len]; exact hav)]; rfl
        · rw [List.getD_eq_getElem?_getD]
      rw [e]
      split
      · rename_i e2
        obtain ⟨g1, g2, g3⟩ := h.row a.toNat hav
        refine ⟨by rw [insB_len]; omega, insB_asc g2 (hasZ_false hh), fun x hx => ?_⟩
        rcases mem_insB.1 hx with rfl | hx
        · exact ⟨r2.1, r2.2, by omega⟩
        · have := g3 x hx; exact ⟨this.1, this.2.1, by omega⟩
      · exact (keep.row v hv)

theorem grS_inv {L : List Int} {n : Nat} (hn : 1 ≤ n) (hn2 : n ≤ 1000) (kk : Nat) (j : Nat) : GI n j (grS L n (List.replicate n [], kk) j).1 := by
  induction j with
  | zero =>
    refine ⟨by simp [grS], fun v hv => ?_⟩
    have : (List.replicate n ([] : List Int)).getD v [] = [] := by simp [List.getD_eq_getElem?_getD, hv]
    show ((List.replicate n ([] : List Int)).getD v []).length ≤ 0 ∧ _
    rw [show (grS L n (List.replicate n [], kk) 0).1 = List.replicate n [] from rfl, this]
    simp
  | succ j ih => exact stp_inv hn hn2 ih

theorem GI.ok {n m : Nat} {g : List (List Int)} (h : GI n m g) (hn : n ≤ 24) (hm : m ≤ 1000) {s : List Bool} (hs : s.length = n) : OkG g s ∧ Asc g := by
  refine ⟨⟨by rw [h.len]; exact hn, fun v hv => ?_, by rw [hs, h.len]⟩, fun v hv i h0 hi => ?_⟩
  · rw [h.len] at hv ⊢
    obtain ⟨g1, _, g3⟩ := h.row v hv
    exact ⟨by omega, g3⟩
  · rw [h.len] at hv
    obtain ⟨_, g2, _⟩ := h.row v hv
    generalize g.getD v [] = r at g2 hi
    have := List.pairwise_iff_getElem.1 g2 (i - 1) i (by omega) hi (by omega)
    rw [List.getD_eq_getElem?_getD, List.getElem?_eq_getElem (by omega), List.getD_eq_getElem?_getD, List.getElem?_eq_getElem hi]
    exact this

theorem gL_set (g : List (List Int)) (v : Nat) (r : List Int) : (gL g).set (0 + v) (lI r) = gL (g.set v r) := by rw [Nat.zero_add]; unfold gL; rw [List.map_set]
theorem gL_get0 {g : List (List Int)} {v : Nat} (h : v < g.length) : (gL g)[0 + v]? = some (lI (g.getD v [])) := by rw [Nat.zero_add]; exact gL_get h

theorem graph_ex (L : List Int) (kk most : Nat) (hm : most ≤ 20) (hk : kk ≤ 1000000) : ∃ (g : List (List Int)) (kk' n : Nat), n ≤ most ∧ GI n 100 g ∧ kk' ≤ kk + 200 ∧ CT Try.prog 9 [some (tapeB L kk)] [.ptr 0 0 0, .int .i64 (most : Nat)] [some (tapeB L kk')] (.lst (gL g)) := by
  have r1 := nextZ_rng L kk ((most : Int) + 1) (by omega) (by omega)
  have n1 := next_ct L kk ((most : Int) + 1) (by omega)
  obtain ⟨n, hn⟩ : ∃ n : Nat, nextZ L kk ((most : Int) + 1) = (n : Int) := ⟨(nextZ L kk ((most : Int) + 1)).toNat, by omega⟩
  rw [hn] at n1 r1
  have r2 := nextZ_rng L (kk + 1) (3 * (n : Int) + 1) (by omega) (by omega)
  have n2 := next_ct L (kk + 1) (3 * (n : Int) + 1) (by omega)
  obtain ⟨m, hmm⟩ : ∃ m : Nat, nextZ L (kk + 1) (3 * (n : Int) + 1) = (m : Int) := ⟨(nextZ L (kk + 1) (3 * (n : Int) + 1)).toNat, by omega⟩
  rw [hmm] at n2 r2
  have hkk := grS_kk L n (List.replicate n [], kk + 2)
  have hinv : ∀ j, j ≤ m → GI n j (grS L n (List.replicate n [], kk + 2) j).1 := by
    intro j hj
    by_cases h1 : 1 ≤ n
    · exact grS_inv h1 (by omega) _ j
    · obtain rfl : j = 0 := by omega
      obtain rfl : n = 0 := by omega
      exact ⟨rfl, fun v hv => by omega⟩
  refine ⟨(grS L n (List.replicate n [], kk + 2) m).1, (grS L n (List.replicate n [], kk + 2) m).2, n, by omega, ?_, by rw [hkk]; simp only; omega, ?_⟩
  · have := hinv m (Nat.le_refl _)
    exact ⟨this.len, fun v hv => ⟨by have := (this.row v hv).1; omega, (this.row v hv).2⟩⟩
  refine CT.path mix Try.func9 (show Try.f9.body = some (bodyOf Try.f9) by kernel_rfl) (Nat.le_of_ble_eq_true rfl) (gr_0 ⟨L, [], [], [], [], kk, n, (m : Nat), 0, 0, (most : Nat), 0, 0, false⟩ (by simp only [wrapS ((most : Int) + 1) (by omega) (by omega)]; exact n1) (by simp [iN]) (by simp) (by simp only [iN]; omega) (by simp only [iN]; omega)
    (by simp only [iN, wrapS (3 * (n : Int)) (by omega) (by omega), wrapS (3 * (n : Int) + 1) (by omega) (by omega)]; exact n2) (T.nilH ?_))
  have key : T Try.prog 1 (.loop (loopC (bodyOf Try.f9) 0)) (lo9 ⟨L, (grS L n (List.replicate n [], kk + 2) 0).1, [], [], [], (grS L n (List.replicate n [], kk + 2) 0).2, n, ((m - 0 : Nat) : Int), 0, 0, 0, 0, 0, false⟩) (TK Try.prog 1 (Fin Try.prog Try.f9 1 [some (tapeB L (grS L n (List.replicate n [], kk + 2) m).2)] (.lst (gL (grS L n (List.replicate n [], kk + 2) m).1))) (loopK (bodyOf Try.f9) 0)) := by
    refine T.loop (fun j : Nat => lo9 ⟨L, (grS L n (List.replicate n [], kk + 2) j).1, [], [], [], (grS L n (List.replicate n [], kk + 2) j).2, n, ((m - j : Nat) : Int), 0, 0, 0, 0, 0, false⟩) (fun j => j ≤ m) (fun j => m + 1 - j) 0 (Nat.zero_le _) ?_
    intro j hj
    have hj2 := hinv j hj
    have hkj := hkk j
    simp only at hkj
    by_cases h : j < m
    · have hn1 : 1 ≤ n := by omega
      have e : grS L n (List.replicate n [], kk + 2) (j + 1) = stp L n (grS L n (List.replicate n [], kk + 2) j) := rfl
      have ek : IntKind.i64.wrap (((m - j : Nat) : Int) - 1) = ((m - (j + 1) : Nat) : Int) := by rw [wrapS _ (by omega) (by omega)]; omega
      generalize hy : grS L n (List.replicate n [], kk + 2) j = y at hj2 hkj e
      have q1 := nextZ_rng L y.2 n (by omega) (by omega)
      have q2 := nextZ_rng L (y.2 + 1) n (by omega) (by omega)
      have m1 := next_ct L y.2 n (by omega)
      have m2 := next_ct L (y.2 + 1) n (by omega)
      unfold stp at e
      obtain ⟨v, hv⟩ : ∃ v : Nat, nextZ L y.2 n = (v : Int) := ⟨(nextZ L y.2 n).toNat, by omega⟩
      obtain ⟨w, hw⟩ : ∃ w : Nat, nextZ L (y.2 + 1) n = (w : Int) := ⟨(nextZ L (y.2 + 1) n).toNat, by omega⟩
      rw [hv] at q1 m1 e
      rw [hw] at q2 m2 e
      simp only [Int.toNat_natCast] at e
      have hvg : v < y.1.length := by rw [hj2.len]; omega
      have hlen := (hj2.row v (by omega)).1
      have hrow := gL_get0 hvg
      have hc := has_ct (y.1.getD v []) (w : Int) (by omega)
      have ic := ins_ct (y.1.getD v []) (w : Int) (by omega)
      have next : ∀ (g' : List (List Int)) (st : St), grS L n (List.replicate n [], kk + 2) (j + 1) = (g', y.2 + 2) → Ren 1 st (lo9 ⟨L, g', [], [], [], y.2 + 2, n, ((m - (j + 1) : Nat) : Int), 0, 0, 0, 0, 0, false⟩) → ∃ j', Ren 1 st (lo9 ⟨L, (grS L n (List.replicate n [], kk + 2) j').1, [], [], [], (grS L n (List.replicate n [], kk + 2) j').2, n, ((m - j' : Nat) : Int), 0, 0, 0, 0, 0, false⟩) ∧ j' ≤ m ∧ m + 1 - j' < m + 1 - j := by
        intro g' st eg hst
        refine ⟨j + 1, ?_, h, by omega⟩
        rw [eg]; exact hst
      by_cases hvw : v = w
      · rw [if_pos hvw] at e
        refine T.path mix (grr_2 ⟨L, y.1, [], [], [], y.2, n, ((m - j : Nat) : Int), v, w, 0, 0, 0, false⟩ (decide_eq_true (by simp only; omega)) m1 m2 (by simp [iN, hvw]) ?_)
        intro st hst
        simp only [ek] at hst
        exact next _ st e hst
      · rw [if_neg hvw] at e
        by_cases hh : hasZ (y.1.getD v []) (w : Int) = true
        · rw [if_pos hh] at e
          rw [hh] at hc
          refine T.path mix (grr_1 ⟨L, y.1, y.1.getD v [], [], [], y.2, n, ((m - j : Nat) : Int), v, w, 0, 0, 0, true⟩ (decide_eq_true (by simp only; omega)) m1 m2 (by simp [iN]; omega) (by simp [iN]) (by simp [iN]; omega) hrow hc rfl ?_)
          intro st hst
          simp only [ek] at hst
          exact next _ st e hst
        · rw [if_neg hh] at e
          rw [Bool.eq_false_iff.2 hh] at hc
          refine T.path mix (grr_0 ⟨L, y.1, y.1.getD v [], insB (w : Int) (y.1.getD v []), [], y.2, n, ((m - j : Nat) : Int), v, w, 0, 0, 0, false⟩ (decide_eq_true (by simp only; omega)) m1 m2 (by simp [iN]; omega) (by simp [iN]) (by simp [iN]; omega) hrow hc rfl ic (by simp [iN, gL_len]; omega) ?_)
          intro st hst
          simp only [ek, iN, Int.toNat_natCast] at hst
          have hs2 := gL_set y.1 v (insB (w : Int) (y.1.getD v []))
          unfold lI at hs2
          rw [hs2] at hst
          exact next _ st e hst
    · obtain rfl : j = m := by omega
      exact T.out mix (grx_0 ⟨L, (grS L n (List.replicate n [], kk + 2) j).1, [], [], [], (grS L n (List.replicate n [], kk + 2) j).2, n, ((j - j : Nat) : Int), 0, 0, 0, 0, 0, false⟩ (decide_eq_false (by simp only; omega)) (by simp only [gL_len, hj2.len]))
  have e0 : (List.replicate n AV.nils).map wkE = gL (List.replicate n []) := by simp [gL, wkE, wk1, lI]
  unfold lo9 at key
  simp only [grS, Nat.sub_zero, ← e0] at key
  exact key
theorem boL_set (s : List Bool) (v : Nat) (b : Bool) : (boL s).set (0 + v) (.bool b) = boL (s.set v b) := by rw [Nat.zero_add]; unfold boL; rw [List.map_set]
noncomputable def shS (L : List Int) (n : Nat) (y : List Bool × Nat) : Nat → List Bool × Nat
  | 0 => y
  | j + 1 => ((shS L n y j).1.set (nextZ L (shS L n y j).2 n).toNat true, (shS L n y j).2 + 1)
theorem shS_kk (L : List Int) (n : Nat) (y : List Bool × Nat) (j : Nat) : (shS L n y j).2 = y.2 + j := by
  induction j with
  | zero => rfl
  | succ j ih => rw [shS, ih]; simp only; omega
theorem shS_len (L : List Int) (n : Nat) (y : List Bool × Nat) (j : Nat) : (shS L n y j).1.length = y.1.length := by
  induction j with
  | zero => rfl
  | succ j ih => rw [shS]; simp [ih]

theorem shut_ex (L : List Int) (kk n : Nat) (hn : n ≤ 1000) (hk : kk ≤ 1000000) : ∃ (s : List Bool) (kk' : Nat), s.length = n ∧ kk' ≤ kk + 10 ∧ CT Try.prog 10 [some (tapeB L kk)] [.ptr 0 0 0, .int .i64 (n : Nat)] [some (tapeB L kk')] (.lst (boL s)) := by
  have r1 := nextZ_rng L kk 3 (by omega) (by omega)
  have n1 := next_ct L kk 3 (by omega)
  obtain ⟨m, hmm⟩ : ∃ m : Nat, nextZ L kk 3 = (m : Int) := ⟨(nextZ L kk 3).toNat, by omega⟩
  rw [hmm] at n1 r1
  have hkk := shS_kk L n (List.replicate n false, kk + 1)
  have hln := shS_len L n (List.replicate n false, kk + 1)
  have e0 : List.replicate n (AV.bool false) = boL (List.replicate n false) := by simp [boL]
  by_cases h0 : n = 0
  · subst h0
    refine ⟨[], kk + 1, rfl, by omega, ?_⟩
    refine CT.path mix Try.func10 (show Try.f10.body = some (bodyOf Try.f10) by kernel_rfl) (Nat.le_of_ble_eq_true rfl) (sh_0 ⟨L, [], [], [], [], kk, 0, (m : Nat), 0, 0, 0, 0, 0, false⟩ (by simp [iN]) (by simp) (by simp only [iN]; omega) (by simp only [iN]; omega) n1 ?_)
    refine T.loop (fun j : Nat => lo10 ⟨L, [], [], [], [], kk + 1, 0, (m : Nat), 0, 0, 0, 0, 0, false⟩) (fun j => True) (fun j => 0) 0 trivial ?_
    intro j _
    by_cases hm : 0 < m
    · exact T.out mix (shx_0 ⟨L, [], [], [], [], kk + 1, 0, (m : Nat), 0, 0, 0, 0, 0, false⟩ (decide_eq_true (by simp only; omega)) (by simp [iN]) rfl)
    · exact T.out mix (shx_1 ⟨L, [], [], [], [], kk + 1, 0, (m : Nat), 0, 0, 0, 0, 0, false⟩ (decide_eq_false (by simp only; omega)) rfl)
  refine ⟨(shS L n (List.replicate n false, kk + 1) m).1, (shS L n (List.replicate n false, kk + 1) m).2, by rw [hln]; simp, by rw [hkk]; simp only; omega, ?_⟩
  refine CT.path mix Try.func10 (show Try.f10.body = some (bodyOf Try.f10) by kernel_rfl) (Nat.le_of_ble_eq_true rfl) (sh_0 ⟨L, [], [], [], [], kk, n, (m : Nat), 0, 0, 0, 0, 0, false⟩ (by simp [iN]) (by simp) (by simp only [iN]; omega) (by simp only [iN]; omega) n1 ?_)
  have key : T Try.prog 1 (.loop (loopC (bodyOf Try.f10) 0)) (lo10 ⟨L, [], [], [], (shS L n (List.replicate n false, kk + 1) 0).1, (shS L n (List.replicate n false, kk + 1) 0).2, n, ((m - 0 : Nat) : Int), 0, 0, 0, 0, 0, false⟩) (TK Try.prog 1 (Fin Try.prog Try.f10 1 [some (tapeB L (shS L n (List.replicate n false, kk + 1) m).2)] (.lst (boL (shS L n (List.replicate n false, kk + 1) m).1))) (loopK (bodyOf Try.f10) 0)) := by
    refine T.loop (fun j : Nat => lo10 ⟨L, [], [], [], (shS L n (List.replicate n false, kk + 1) j).1, (shS L n (List.replicate n false, kk + 1) j).2, n, ((m - j : Nat) : Int), 0, 0, 0, 0, 0, false⟩) (fun j => j ≤ m) (fun j => m + 1 - j) 0 (Nat.zero_le _) ?_
    intro j hj
    have hkj := hkk j
    have hlj := hln j
    simp only [List.length_replicate] at hkj hlj
    by_cases h : j < m
    · have ek : IntKind.i64.wrap (((m - j : Nat) : Int) - 1) = ((m - (j + 1) : Nat) : Int) := by rw [wrapS _ (by omega) (by omega)]; omega
      have e : shS L n (List.replicate n false, kk + 1) (j + 1) = ((shS L n (List.replicate n false, kk + 1) j).1.set (nextZ L (shS L n (List.replicate n false, kk + 1) j).2 n).toNat true, (shS L n (List.replicate n false, kk + 1) j).2 + 1) := rfl
      generalize shS L n (List.replicate n false, kk + 1) j = y at hkj hlj e
      have q1 := nextZ_rng L y.2 n (by omega) (by omega)
      have m1 := next_ct L y.2 n (by omega)
      obtain ⟨v, hv⟩ : ∃ v : Nat, nextZ L y.2 n = (v : Int) := ⟨(nextZ L y.2 n).toNat, by omega⟩
      rw [hv] at q1 m1 e
      simp only [Int.toNat_natCast] at e
      have hbl := boL_len y.1
      refine T.path mix (shr_0 ⟨L, [], [], [], y.1, y.2, n, ((m - j : Nat) : Int), v, 0, 0, 0, 0, false⟩ (decide_eq_true (by simp only; omega)) (by simp [iN]; omega) m1 (by simp [iN]) (by simp [iN]; omega) (by simp [iN, boL_len]; omega) ?_)
      intro st hst
      refine ⟨j + 1, ?_, h, by omega⟩
      simp only [ek, iN, Int.toNat_natCast] at hst
      rw [boL_set] at hst
      rw [e]; exact hst
    · obtain rfl : j = m := by omega
      exact T.out mix (shx_1 ⟨L, [], [], [], (shS L n (List.replicate n false, kk + 1) j).1, (shS L n (List.replicate n false, kk + 1) j).2, n, ((j - j : Nat) : Int), 0, 0, 0, 0, 0, false⟩ (decide_eq_false (by simp only; omega)) (by simp only [boL_len, hlj]))
  unfold lo10 at key
  simp only [shS, Nat.sub_zero, ← e0] at key
  exact key
end Go.Proofs.Ytcdgphdieemjcaa

/-! Contracts. -/
open Go Go.AX Go.Proofs
set_option maxRecDepth 100000
set_option maxHeartbeats 1000000
set_option linter.unusedVariables false
set_option linter.unusedSimpArgs false
namespace Go.Proofs.Ytcdgphdieemjcaa
theorem getD_set (d : List Int) (v u : Nat) (x : Int) (hv : v < d.length) : (d.set v x).getD u 0 = if v = u then x else d.getD u 0 := by
  rw [List.getD_eq_getElem?_getD, List.getElem?_set, List.getD_eq_getElem?_getD]
  split
  · first | rfl | (rw [if_pos hv]; rfl)
  · rfl

theorem edges_eq (v far : Nat) : ∀ (r : List Int) (d : List Int), v < d.length → (∀ w ∈ r, w.toNat ≠ v) →
    edgesL r v far d = if (r.any fun w => d.getD w.toNat 0 == (far : Int)) = true then d.set v ((far + 1 : Nat) : Int) else d := by
  intro r
  induction r with
  | nil => intro d _ _; simp [edgesL]
  | cons w r ih =>
    intro d hv hr
    have hw := hr w (by simp)
    have hr' := fun x hx => hr x (List.mem_cons_of_mem _ hx)
    show edgesL r v far (edgeF v far d w) = _
    have key : ∀ d' : List Int, (∀ u, u ≠ v → d'.getD u 0 = d.getD u 0) → (r.any fun w => d'.getD w.toNat 0 == (far : Int)) = (r.any fun w => d.getD w.toNat 0 == (far : Int)) := by
      intro d' h
      rw [Bool.eq_iff_iff, List.any_eq_true, List.any_eq_true]
      constructor
      · rintro ⟨x, hx, he⟩; exact ⟨x, hx, by rw [← h _ (hr' x hx)]; exact he⟩
      · rintro ⟨x, hx, he⟩; exact ⟨x, hx, by rw [h _ (hr' x hx)]; exact he⟩
    rw [ih _ (by rw [edgeF_len]; exact hv) hr', List.any_cons]
    unfold edgeF
    by_cases he : (d.getD w.toNat 0 == (far : Int)) = true
    · rw [if_pos he, he, Bool.true_or, if_pos rfl, List.set_set]
      split <;> rfl
    · rw [if_neg he, Bool.eq_false_iff.2 he, Bool.false_or]

/-- What a round makes of a vertex. -/
def rdV (g : List (List Int)) (s : List Bool) (d : List Int) (far v : Nat) : Int :=
  if s.getD v false = true then d.getD v 0 else if 0 ≤ d.getD v 0 then d.getD v 0 else if ((g.getD v []).any fun w => d.getD w.toNat 0 == (far : Int)) = true then ((far + 1 : Nat) : Int) else d.getD v 0

theorem round_get {g : List (List Int)} {s : List Bool} (hg : OkG g s) (d : List Int) (hd : d.length = g.length) (far : Nat) : ∀ v, v < g.length → (roundL g s d far).getD v 0 = rdV g s d far v := by
  have key : ∀ j, j ≤ g.length → ∀ v, v < g.length → ((List.range j).foldl (vertF g s far) d).getD v 0 = if v < j then rdV g s d far v else d.getD v 0 := by
    intro j
    induction j with
    | zero => intro _ v _; rw [if_neg (by omega)]; rfl
    | succ j ih =>
      intro hj v hv
      have ih := ih (by omega)
      rw [range_fold]
      have hlen : ((List.range j).foldl (vertF g s far) d).length = g.length := by rw [foldl_len (vertF_len g s far), hd]
      generalize (List.range j).foldl (vertF g s far) d = e at ih hlen
      have hej : e.getD j 0 = d.getD j 0 := by rw [ih j (by omega), if_neg (by omega)]
      have hw : ∀ w ∈ g.getD j [], w.toNat ≠ j := fun w hw => by have := (hg.row j (by omega)).2 w hw; omega
      have hany : ((g.getD j []).any fun w => e.getD w.toNat 0 == (far : Int)) = ((g.getD j []).any fun w => d.getD w.toNat 0 == (far : Int)) := by
        have pt : ∀ w ∈ g.getD j [], (e.getD w.toNat 0 == (far : Int)) = (d.getD w.toNat 0 == (far : Int)) := by
          intro w hwm
          have := (hg.row j (by omega)).2 w hwm
          rw [ih w.toNat (by omega)]
          split
          · unfold rdV
            split
            · rfl
            · split
              · rfl
              · split
                · rw [Bool.eq_iff_iff, beq_iff_eq, beq_iff_eq]; constructor <;> intro h <;> omega
                · rfl
          · rfl
        rw [Bool.eq_iff_iff, List.any_eq_true, List.any_eq_true]
        constructor
        · rintro ⟨x, hx, he⟩; exact ⟨x, hx, by rw [← pt x hx]; exact he⟩
        · rintro ⟨x, hx, he⟩; exact ⟨x, hx, by rw [pt x hx]; exact he⟩
      have hv1 : (vertF g s far e j).getD v 0 = if v = j then rdV g s d far j else e.getD v 0 := by
        unfold vertF rdV
        rw [hej]
        by_cases h1 : s.getD j false = true
        · rw [if_pos h1, if_pos h1]; split
          · rename_i h; subst h; exact hej
          · rfl
        · rw [if_neg h1, if_neg h1]
          by_cases h2 : 0 ≤ d.getD j 0
          · rw [decide_eq_true h2, if_pos rfl, if_pos h2]; split
            · rename_i h; subst h; exact hej
            · rfl
          · rw [if_neg (by simpa using h2), if_neg h2, edges_eq j far _ e (by omega) hw, hany]
            by_cases h3 : ((g.getD j []).any fun w => d.getD w.toNat 0 == (far : Int)) = true
            · rw [if_pos h3, if_pos h3, getD_set e j v _ (by omega)]
              by_cases h4 : v = j
              · rw [if_pos h4.symm, if_pos h4]
              · rw [if_neg fun h => h4 h.symm, if_neg h4]
            · rw [if_neg h3, if_neg h3]; split
              · rename_i h; subst h; exact hej
              · rfl
      rw [hv1]
      by_cases h : v = j
      · subst h; rw [if_pos rfl, if_pos (by omega)]
      · rw [if_neg h, ih v hv]
        by_cases h2 : v < j
        · rw [if_pos h2, if_pos (by omega)]
        · rw [if_neg h2, if_neg (by omega)]
  intro v hv
  rw [roundL, key g.length (Nat.le_refl _) v hv, if_pos hv]

/-- What holds after 'k' rounds. -/
structure Lev (g : List (List Int)) (s : List Bool) (goal k : Nat) (d : List Int) : Prop where
  len : d.length = g.length
  zero : d.getD goal 0 = 0
  bnd : ∀ v, v < g.length → -1 ≤ d.getD v 0 ∧ d.getD v 0 ≤ k
  back : ∀ v, v < g.length → 0 ≤ d.getD v 0 → v = goal ∨ (s.getD v false = false ∧ ∃ w ∈ g.getD v [], 0 ≤ d.getD w.toNat 0 ∧ d.getD v 0 = d.getD w.toNat 0 + 1)
  fwd : ∀ v, v < g.length → s.getD v false = false → ∀ w ∈ g.getD v [], 0 ≤ d.getD w.toNat 0 → d.getD w.toNat 0 < k → 0 ≤ d.getD v 0 ∧ d.getD v 0 ≤ d.getD w.toNat 0 + 1

theorem Lev.step {g : List (List Int)} {s : List Bool} (hg : OkG g s) {goal k : Nat} {d : List Int} (hgo : goal < g.length) (h : Lev g s goal k d) : Lev g s goal (k + 1) (roundL g s d k) := by
  have rg := round_get hg d h.len k
  have same : ∀ v, v < g.length → 0 ≤ d.getD v 0 → rdV g s d k v = d.getD v 0 := by
    intro v hv h0; unfold rdV
    by_cases h1 : s.getD v false = true
    · rw [if_pos h1]
    · rw [if_neg h1, if_pos h0]
  have inr : ∀ v, v < g.length → ∀ w ∈ g.getD v [], w.toNat < g.length := fun v hv w hw => by have := (hg.row v hv).2 w hw; omega
  have cases' : ∀ v, v < g.length → rdV g s d k v = d.getD v 0 ∨ (s.getD v false = false ∧ d.getD v 0 < 0 ∧ rdV g s d k v = ((k + 1 : Nat) : Int) ∧ ∃ w ∈ g.getD v [], d.getD w.toNat 0 = (k : Int)) := by
    intro v hv
    unfold rdV
    by_cases h1 : s.getD v false = true
    · rw [if_pos h1]; exact .inl rfl
    · rw [if_neg h1]
      by_cases h2 : 0 ≤ d.getD v 0
      · rw [if_pos h2]; exact .inl rfl
      · rw [if_neg h2]
        by_cases h3 : ((g.getD v []).any fun w => d.getD w.toNat 0 == (k : Int)) = true
        · rw [if_pos h3]
          obtain ⟨w, hw, he⟩ := List.any_eq_true.1 h3
          exact .inr ⟨Bool.eq_false_iff.2 h1, by omega, rfl, w, hw, by simpa using he⟩
        · rw [if_neg h3]; exact .inl rfl
  refine ⟨by rw [roundL_len, h.len], ?_, fun v hv => ?_, fun v hv h0 => ?_, fun v hv hs w hw h0 hk => ?_⟩
  · rw [rg goal hgo, same goal hgo (by rw [h.zero]; omega), h.zero]
  · rw [rg v hv]
    have := h.bnd v hv
    rcases cases' v hv with e | ⟨_, _, e, _⟩ <;> rw [e] <;> omega
  · rw [rg v hv] at h0 ⊢
    rcases cases' v hv with e | ⟨e1, e2, e3, w, hw, e4⟩
    · rw [e] at h0 ⊢
      rcases h.back v hv h0 with hgl | ⟨h1, w, hw, h2, h3⟩
      · exact .inl hgl
      · refine .inr ⟨h1, w, hw, ?_⟩
        rw [rg _ (inr v hv w hw), same _ (inr v hv w hw) h2]
        exact ⟨h2, h3⟩
    · refine .inr ⟨e1, w, hw, ?_⟩
      rw [rg _ (inr v hv w hw), same _ (inr v hv w hw) (by omega), e3, e4]
      exact ⟨by omega, by omega⟩
  · have hwr := inr v hv w hw
    rw [rg _ hwr] at h0 hk ⊢
    rw [rg v hv]
    have hbv := h.bnd v hv
    have hbw := h.bnd _ hwr
    rcases cases' _ hwr with e | ⟨_, _, e, _⟩
    · rw [e] at h0 hk ⊢
      by_cases hlt : d.getD w.toNat 0 < k
      · obtain ⟨g1, g2⟩ := h.fwd v hv hs w hw h0 hlt
        rw [same v hv g1]; exact ⟨g1, g2⟩
      · have hwk : d.getD w.toNat 0 = (k : Int) := by omega
        by_cases hv0 : 0 ≤ d.getD v 0
        · rw [same v hv hv0]; exact ⟨hv0, by omega⟩
        · unfold rdV
          rw [if_neg (by rw [hs]; simp), if_neg hv0, if_pos (List.any_eq_true.2 ⟨w, hw, by simpa using hwk⟩)]
          exact ⟨by omega, by omega⟩
    · rw [e] at hk; omega

theorem Lev.start {g : List (List Int)} {s : List Bool} (hg : OkG g s) {goal : Nat} (hgo : goal < g.length) : Lev g s goal 0 (dist0 g goal) := by
  have rep : ∀ v, v < g.length → (List.replicate g.length (-1 : Int)).getD v 0 = -1 := by
    intro v hv; simp [List.getD_eq_getElem?_getD, hv]
  have e : ∀ v, v < g.length → (dist0 g goal).getD v 0 = if goal = v then 0 else -1 := by
    intro v hv
    unfold dist0
    rw [getD_set _ _ _ _ (by simpa using hgo), rep v hv]
  refine ⟨dist0_len g goal, by rw [e goal hgo, if_pos rfl], fun v hv => ?_, fun v hv h0 => ?_, fun v hv hs w hw h0 hk => ?_⟩
  · rw [e v hv]; split <;> omega
  · rw [e v hv] at h0
    split at h0
    · rename_i h; exact .inl h.symm
    · omega
  · omega

theorem Lev.run {g : List (List Int)} {s : List Bool} (hg : OkG g s) {goal : Nat} (hgo : goal < g.length) : ∀ k, Lev g s goal k ((List.range k).foldl (roundL g s) (dist0 g goal)) := by
  intro k
  induction k with
  | zero => exact Lev.start hg hgo
  | succ k ih => rw [range_fold]; exact ih.step hg hgo

theorem nodup_len : ∀ {l d : List Int}, l.Nodup → (∀ x ∈ l, x ∈ d) → l.length ≤ d.length := by
  intro l
  induction l with
  | nil => intro d _ _; simp
  | cons a l ih =>
    intro d hn hs
    rw [List.nodup_cons] at hn
    have ha := hs a (by simp)
    have := ih (d := d.erase a) hn.2 fun x hx => (List.mem_erase_of_ne (fun e => hn.1 (by rw [← e]; exact hx))).2 (hs x (List.mem_cons_of_mem _ hx))
    rw [List.length_erase_of_mem ha] at this
    have : 0 < d.length := List.length_pos_of_mem ha
    simp only [List.length_cons]; omega

/-- No level is as high as there are vertices. -/
theorem Lev.top {g : List (List Int)} {s : List Bool} (hg : OkG g s) {goal k : Nat} {d : List Int} (h : Lev g s goal k d) {v : Nat} (hv : v < g.length) : d.getD v 0 < g.length := by
  rcases Int.lt_or_le (d.getD v 0) 0 with hneg | hpos
  · omega
  obtain ⟨m, hm⟩ : ∃ m : Nat, d.getD v 0 = (m : Int) := ⟨(d.getD v 0).toNat, by omega⟩
  have occ : ∀ j, j ≤ m → ∃ u, u < g.length ∧ d.getD u 0 = ((m - j : Nat) : Int) := by
    intro j
    induction j with
    | zero => intro _; exact ⟨v, hv, by rw [hm]; rfl⟩
    | succ j ih =>
      intro hj
      obtain ⟨u, hu, he⟩ := ih (by omega)
      rcases h.back u hu (by omega) with rfl | ⟨_, w, hw, h1, h2⟩
      · rw [h.zero] at he; omega
      · have := (hg.row u hu).2 w hw
        exact ⟨w.toNat, by omega, by omega⟩
  have sub : ∀ x ∈ (List.range (m + 1)).map (fun j : Nat => (j : Int)), x ∈ d := by
    intro x hx
    obtain ⟨j, hj, rfl⟩ := List.mem_map.1 hx
    have hj := List.mem_range.1 hj
    obtain ⟨u, hu, he⟩ := occ (m - j) (by omega)
    rw [show m - (m - j) = j by omega] at he
    rw [← he, List.getD_eq_getElem?_getD, List.getElem?_eq_getElem (by rw [h.len]; exact hu)]
    exact List.getElem_mem _
  have nd : ((List.range (m + 1)).map (fun j : Nat => (j : Int))).Nodup := by
    refine List.pairwise_map.2 ((List.nodup_range (n := m + 1)).imp fun hne e => hne (Int.ofNat_inj.1 e))
  have := nodup_len nd sub
  simp only [List.length_map, List.length_range, h.len] at this
  omega

/-- What the distances are. -/
structure Dst (g : List (List Int)) (s : List Bool) (goal : Nat) (d : List Int) : Prop where
  len : d.length = g.length
  shut : s.getD goal false = true → ∀ v, v < g.length → d.getD v 0 = -1
  zero : s.getD goal false = false → d.getD goal 0 = 0
  bnd : ∀ v, v < g.length → -1 ≤ d.getD v 0 ∧ d.getD v 0 < g.length
  back : ∀ v, v < g.length → 0 ≤ d.getD v 0 → v = goal ∨ (s.getD v false = false ∧ ∃ w ∈ g.getD v [], 0 ≤ d.getD w.toNat 0 ∧ d.getD v 0 = d.getD w.toNat 0 + 1)
  fwd : ∀ v, v < g.length → s.getD v false = false → ∀ w ∈ g.getD v [], 0 ≤ d.getD w.toNat 0 → 0 ≤ d.getD v 0 ∧ d.getD v 0 ≤ d.getD w.toNat 0 + 1

theorem dst_ok {g : List (List Int)} {s : List Bool} (hg : OkG g s) {goal : Nat} (hgo : goal < g.length) : Dst g s goal (distL g s goal g.length) := by
  have hl := distL_len g s goal g.length
  by_cases hs : s.getD goal false = true
  · have e : distL g s goal g.length = List.replicate g.length (-1) := by unfold distL; rw [if_pos hs]
    rw [e] at hl ⊢
    have rep : ∀ v, v < g.length → (List.replicate g.length (-1 : Int)).getD v 0 = -1 := by
      intro v hv; simp [List.getD_eq_getElem?_getD, hv]
    refine ⟨hl, fun _ => rep, fun h => by (rw [hs] at h; cases h), fun v hv => by rw [rep v hv]; omega, fun v hv h0 => by (rw [rep v hv] at h0; omega), fun v hv _ w hw h0 => ?_⟩
    have := (hg.row v hv).2 w hw
    rw [rep _ (by omega)] at h0; omega
  · have e : distL g s goal g.length = (List.range g.length).foldl (roundL g s) (dist0 g goal) := by unfold distL; rw [if_neg hs]
    rw [e] at hl ⊢
    have h := Lev.run hg hgo g.length
    exact ⟨h.len, fun h' => absurd h' hs, fun _ => h.zero, fun v hv => ⟨(h.bnd v hv).1, h.top hg hv⟩, h.back, fun v hv h1 w hw h0 => h.fwd v hv h1 w hw h0 (h.top hg (by have := (hg.row v hv).2 w hw; omega))⟩
end Go.Proofs.Ytcdgphdieemjcaa

/-! The paths of a function, by evaluation. -/
open Go Go.AX Go.Proofs
set_option maxRecDepth 100000
set_option maxHeartbeats 4000000
set_option linter.unusedVariables false
namespace Go.Proofs.Ytcdgphdieemjcaa
structure QT where
  L : List Int
  g : List (List Int)
  s : List Bool
  goal : Nat
  d : List Int
  v : Nat
  k : Nat
  r : List Int
  w : Nat
  b : Bool
  sb : Bool
  x : Int
  y : Int
  m1 : Nat
  m2 : Nat
def cT (q : QT) : Nat → FuncId → List AV → List (Option Blk) → Hint := fun dst f args hp => match f with
  | 9 => match args with
    | [.ptr b _ _, _] => .call [b] [] [tapeB q.L q.m1] (.lst (gL q.g))
    | _ => .no
  | 10 => match args with
    | [.ptr b _ _, _] => .call [b] [] [tapeB q.L q.m2] (.lst (boL q.s))
    | _ => .no
  | _ => .no
def e4 (q : QT) : List (Nat × AV) := [(49, .bool q.sb), (53, .int .i64 q.x), (70, .int .i64 q.x), (77, lI q.r), (85, lI q.r), (88, .int .i64 (iN q.w)), (92, .bool q.sb), (97, .int .i64 q.y), (103, .int .i64 q.x), (109, .int .i64 q.x), (113, .int .i64 q.y), (122, .int .i64 q.x), (126, .int .i64 q.y)]
end Go.Proofs.Ytcdgphdieemjcaa

/-! Contracts. -/
open Go Go.AX Go.Proofs
set_option maxRecDepth 100000
set_option maxHeartbeats 1000000
set_option linter.unusedVariables false
set_option linter.unusedSimpArgs false
namespace Go.Proofs.Ytcdgphdieemjcaa
/-- Through one of the edges of 'v' the distance is one less. -/
def Good (s : List Bool) (d : List Int) (v : Nat) (w : Int) : Prop := s.getD v false = false ∧ 0 ≤ d.getD w.toNat 0 ∧ d.getD v 0 = d.getD w.toNat 0 + 1

noncomputable def qt (g : List (List Int)) (s : List Bool) (goal : Nat) (d : List Int) (v k : Nat) (b : Bool) : QT := ⟨[], g, s, goal, d, v, k, [], 0, b, false, 0, 0, 0, 0⟩

end Go.Proofs.Ytcdgphdieemjcaa

/-! The paths of a function, by evaluation. -/
open Go Go.AX Go.Proofs
set_option maxRecDepth 100000
set_option maxHeartbeats 4000000
set_option linter.unusedVariables false
namespace Go.Proofs.Ytcdgphdieemjcaa
def bo2 (q : QT) : AV := .lst (boL (q.s.set q.v true))
def c5 (q : QT) : Nat → FuncId → List AV → List (Option Blk) → Hint := fun dst f args hp => match f with
  | 11 => nextG q.L args hp (match dst with | 33 => iN q.v | _ => iN q.goal)
  | _ => cT q dst f args hp
def e5 (q : QT) : List (Nat × AV) := [(81, .int .i64 q.y), (87, .int .i64 q.x), (93, .int .i64 q.y), (97, .int .i64 q.x)]
end Go.Proofs.Ytcdgphdieemjcaa

/-! Contracts. -/
open Go Go.AX Go.Proofs
set_option maxRecDepth 100000
set_option maxHeartbeats 1000000
set_option linter.unusedVariables false
set_option linter.unusedSimpArgs false
namespace Go.Proofs.Ytcdgphdieemjcaa
end Go.Proofs.Ytcdgphdieemjcaa

/-! The paths of a function, by evaluation. -/
open Go Go.AX Go.Proofs
set_option maxRecDepth 100000
set_option maxHeartbeats 4000000
set_option linter.unusedVariables false
namespace Go.Proofs.Ytcdgphdieemjcaa
def e27g (q : QK) : List (Nat × AV) := [(23, lI q.r), (31, lI q.r), (34, .int .i64 q.e), (55, lI q.r), (59, .int .i64 (iN q.w))]
def e27h (q : QK) : List (Nat × AV) := [(23, lI q.r), (31, lI q.r), (34, .int .i64 q.e), (55, lI q.r), (59, .int .i64 (q.p.getD 0 0))]
noncomputable def st40 (q : QK) : St := { n := Try.f31.ntmps, fr := [(0, .lst (gL q.g))], hp := [] }
noncomputable def la40 (q : QK) : St := { n := Try.f31.ntmps, fr := [(0, .lst (gL q.g)), (3, .int .i64 (iN q.a))], hp := [] }
noncomputable def lb40 (q : QK) : St := { n := Try.f31.ntmps, fr := [(0, .lst (gL q.g)), (3, .int .i64 (iN q.a)), (4, .int .i64 (iN q.i))], hp := [] }
def e40 (q : QK) : List (Nat × AV) := [(18, lI q.r), (26, lI q.r), (29, .int .i64 q.e), (51, lI q.r), (55, .int .i64 (q.p.getD 0 0))]
noncomputable def st35 (q : QK) : St := { n := Try.f25.ntmps, fr := [(0, .lst (gL q.g)), (1, .lst (boL q.s))], hp := [] }
def cV (q : QK) : Nat → FuncId → List AV → List (Option Blk) → Hint := fun dst f args _ => match f with
  | 31 => .call [] [] [] (.bool q.b)
  | 25 => .call [] [] [] (.int .i64 q.e)
  | _ => .no
end Go.Proofs.Ytcdgphdieemjcaa

/-! Contracts. -/
open Go Go.AX Go.Proofs
set_option maxRecDepth 100000
set_option maxHeartbeats 1000000
set_option linter.unusedVariables false
set_option linter.unusedSimpArgs false
namespace Go.Proofs.Ytcdgphdieemjcaa
def badE (r : List Int) (n v i : Nat) : Bool := decide (r.getD i 0 < 0) || (decide ((n : Int) ≤ r.getD i 0) || (r.getD i 0 == (v : Int) || (decide (0 < i) && decide (r.getD i 0 ≤ r.getD (i - 1) 0))))
def badR (g : List (List Int)) (v : Nat) : Bool := (fnd (badE (g.getD v []) g.length v) 0 (g.getD v []).length).isSome
def badG (g : List (List Int)) : Bool := (fnd (badR g) 0 g.length).isSome
def chkZ (g : List (List Int)) (s : List Bool) (v w : Int) : Int := if 24 < g.length then 20 else if badG g = true then 20 else if s.length ≠ g.length ∨ v < 0 ∨ (g.length : Int) ≤ v ∨ w < 0 ∨ (g.length : Int) ≤ w then 19 else 0
def Rows (g : List (List Int)) : Prop := ∀ v, v < g.length → (g.getD v []).length ≤ 9223372036854775807

def qv (g : List (List Int)) (s : List Bool) (v w : Int) (a i : Nat) (r : List Int) (e p : Int) : QK := ⟨g, s, [], 0, 0, a, i, r, v, w, false, e, [p], []⟩
end Go.Proofs.Ytcdgphdieemjcaa

/-! Contracts. -/
open Go Go.AX Go.Proofs
set_option maxRecDepth 100000
set_option maxHeartbeats 1000000
set_option linter.unusedVariables false
set_option linter.unusedSimpArgs false
namespace Go.Proofs.Ytcdgphdieemjcaa
noncomputable def valZ (g : List (List Int)) : Bool := !(decide (24 < g.length)) && !(badG g)
noncomputable def chk4 (g : List (List Int)) (s : List Bool) : Int := if 24 < g.length then 20 else if badG g = true then 20 else if s.length ≠ g.length then 19 else 0
end Go.Proofs.Ytcdgphdieemjcaa

/-! The paths of a function, by evaluation. -/
open Go Go.AX Go.Proofs
set_option maxRecDepth 100000
set_option maxHeartbeats 4000000
set_option linter.unusedVariables false
namespace Go.Proofs.Ytcdgphdieemjcaa
noncomputable def st32 (q : QK) : St := { n := Try.f36.ntmps, fr := [(0, .lst (gL q.g)), (1, .lst (boL q.s)), (2, .int .i64 (iN q.v))], hp := [] }
noncomputable def la32 (q : QK) : St := { n := Try.f36.ntmps, fr := [(0, .lst (gL q.g)), (7, lI q.d), (8, .sl 0 0 q.p.length), (9, .int .i64 (iN q.v))], hp := [some (dB q.p)] }
noncomputable def lb32 (q : QK) : St := { n := Try.f36.ntmps, fr := [(0, .lst (gL q.g)), (7, lI q.d), (8, .sl 0 0 q.p.length), (9, .int .i64 (iN q.v)), (10, .int .i64 (iN q.i - 1))], hp := [some (dB q.p)] }
def cW (q : QK) : Nat → FuncId → List AV → List (Option Blk) → Hint := fun dst f args _ => match f with
  | 32 => .call [] [] [] (lI q.d)
  | 36 => .call [] [] [] (lI q.p)
  | 25 => .call [] [] [] (.int .i64 q.e)
  | 33 => .call [] [] [] (lI q.p)
  | 16 => .call [] [] [] (.bool true)
  | _ => .no
def e32 (q : QK) : List (Nat × AV) := [(30, lI q.r), (39, .int .i64 q.x), (47, lI q.r), (50, .int .i64 (iN q.w)), (54, .int .i64 q.y), (58, .int .i64 q.x)]
noncomputable def st34 (q : QK) : St := { n := Try.f33.ntmps, fr := [(0, .lst (gL q.g)), (1, .lst (boL q.s)), (2, .int .i64 (iN q.v)), (3, .int .i64 (iN q.w))], hp := [] }
noncomputable def lo34 (q : QK) : St := { n := Try.f33.ntmps, fr := [(2, .int .i64 (iN q.v)), (3, .int .i64 (iN q.w)), (9, lI q.p), (10, .sl 0 0 (q.i + 1))], hp := [some (dB q.r)] }
def e34 (q : QK) : List (Nat × AV) := [(16, .int .i64 q.x), (30, .int .i64 (iN q.a))]
def e21 (q : QK) : List (Nat × AV) := [(17, lI q.r), (18, lI q.r), (19, lI q.r), (20, lI q.r), (21, lI q.r), (22, lI q.r), (23, lI q.r), (24, lI q.r)]
end Go.Proofs.Ytcdgphdieemjcaa

/-! Contracts. -/
open Go Go.AX Go.Proofs
set_option maxRecDepth 100000
set_option maxHeartbeats 1000000
set_option linter.unusedVariables false
set_option linter.unusedSimpArgs false
namespace Go.Proofs.Ytcdgphdieemjcaa
theorem Lev.occ {g : List (List Int)} {s : List Bool} (hg : OkG g s) {goal k : Nat} {d : List Int} (h : Lev g s goal k d) {v m : Nat} (hv : v < g.length) (hm : d.getD v 0 = (m : Int)) : ∀ j, j ≤ m → ((m - j : Nat) : Int) ∈ d := by
  have occ : ∀ j, j ≤ m → ∃ u, u < g.length ∧ d.getD u 0 = ((m - j : Nat) : Int) := by
    intro j
    induction j with
    | zero => intro _; exact ⟨v, hv, by rw [hm]; rfl⟩
    | succ j ih =>
      intro hj
      obtain ⟨u, hu, he⟩ := ih (by omega)
      rcases h.back u hu (by omega) with rfl | ⟨_, w, hw, h1, h2⟩
      · rw [h.zero] at he; omega
      · have := (hg.row u hu).2 w hw
        exact ⟨w.toNat, by omega, by omega⟩
  intro j hj
  obtain ⟨u, hu, he⟩ := occ j hj
  rw [← he, List.getD_eq_getElem?_getD, List.getElem?_eq_getElem (by rw [h.len]; exact hu)]
  exact List.getElem_mem _

theorem fnd_false {p : Nat → Bool} : ∀ {n s : Nat}, (∀ i, s ≤ i → i < s + n → p i = false) → fnd p s n = none := by
  intro n
  induction n with
  | zero => intro s _; rfl
  | succ n ih => intro s h; rw [fnd, h s (Nat.le_refl _) (by omega)]; exact ih fun i h1 h2 => h i (by omega) (by omega)
theorem fnd_some {p : Nat → Bool} : ∀ {n s j : Nat}, fnd p s n = some j → p j = true ∧ s ≤ j ∧ j < s + n := by
  intro n
  induction n with
  | zero => intro s j h; cases h
  | succ n ih =>
    intro s j h
    rw [fnd] at h
    cases hp : p s with
    | true => rw [hp] at h; cases h; exact ⟨hp, Nat.le_refl _, by omega⟩
    | false => rw [hp] at h; obtain ⟨a, b, c⟩ := ih h; exact ⟨a, by omega, by omega⟩

/-- A hop is one step nearer. -/
theorem hop_ok {g : List (List Int)} {s : List Bool} (hg : OkG g s) {goal : Nat} {d : List Int} (hD : Dst g s goal d) {u : Nat} (hu : u < g.length) (h0 : 0 < d.getD u 0) (hgd : s.getD goal false = false) : 0 ≤ hopZ g d u ∧ hopZ g d u < (g.length : Int) ∧ d.getD (hopZ g d u).toNat 0 = d.getD u 0 - 1 := by
  unfold hopZ
  cases hf : fnd (hopP g d u) 0 (g.getD u []).length with
  | some i =>
    obtain ⟨a, _, b⟩ := fnd_some hf
    obtain ⟨w, hw, hw1, _⟩ := row_get hg hu (i := i) (by omega)
    unfold hopP at a
    simp only [Bool.and_eq_true, decide_eq_true_eq, beq_iff_eq] at a
    show 0 ≤ (g.getD u []).getD i 0 ∧ (g.getD u []).getD i 0 < (g.length : Int) ∧ d.getD ((g.getD u []).getD i 0).toNat 0 = _
    exact ⟨by omega, by omega, a.2⟩
  | none =>
    exfalso
    rcases hD.back u hu (by omega) with rfl | ⟨_, w, hw, h1, h2⟩
    · rw [hD.zero hgd] at h0; omega
    · obtain ⟨i, hi, rfl⟩ := List.mem_iff_getElem.1 hw
      have hn := fnd_none hf i (Nat.zero_le _) (by omega)
      have e : (g.getD u []).getD i 0 = (g.getD u [])[i] := by rw [List.getD_eq_getElem?_getD (l := g.getD u []), List.getElem?_eq_getElem hi]; rfl
      unfold hopP at hn
      rw [e, decide_eq_true h0, Bool.true_and] at hn
      have : d.getD ((g.getD u [])[i]).toNat 0 = d.getD u 0 - 1 := by omega
      rw [this] at hn
      simp at hn

theorem wk_ok {g : List (List Int)} {s : List Bool} (hg : OkG g s) {goal : Nat} (hgo : goal < g.length) {d : List Int} (hD : Dst g s goal d) {a m : Nat} (ha : a < g.length) (hm : d.getD a 0 = (m : Int)) (hgd : s.getD goal false = false) :
    ∀ k, k ≤ m → 0 ≤ wkZ g d a k ∧ wkZ g d a k < (g.length : Int) ∧ d.getD (wkZ g d a k).toNat 0 = ((m - k : Nat) : Int) := by
  intro k
  induction k with
  | zero => intro _; exact ⟨by simp [wkZ], by simp only [wkZ]; omega, by simp only [wkZ, Int.toNat_natCast]; rw [hm]; rfl⟩
  | succ k ih =>
    intro hk
    obtain ⟨h1, h2, h3⟩ := ih (by omega)
    obtain ⟨g1, g2, g3⟩ := hop_ok hg hD (u := (wkZ g d a k).toNat) (by omega) (by omega) hgd
    exact ⟨g1, g2, by rw [wkZ, g3, h3]; omega⟩

/-- Only the goal has distance zero. -/
theorem zero_goal {g : List (List Int)} {s : List Bool} {goal : Nat} {d : List Int} (hD : Dst g s goal d) {v : Nat} (hv : v < g.length) (h0 : d.getD v 0 = 0) : v = goal := by
  rcases hD.back v hv (by omega) with e | ⟨_, w, _, h1, h2⟩
  · exact e
  · omega
end Go.Proofs.Ytcdgphdieemjcaa

/-! Contracts. -/
open Go Go.AX Go.Proofs
set_option maxRecDepth 100000
set_option maxHeartbeats 1000000
set_option linter.unusedVariables false
set_option linter.unusedSimpArgs false
namespace Go.Proofs.Ytcdgphdieemjcaa
end Go.Proofs.Ytcdgphdieemjcaa

/-! Contracts. -/
open Go Go.AX Go.Proofs
set_option maxRecDepth 100000
set_option maxHeartbeats 1000000
set_option linter.unusedVariables false
set_option linter.unusedSimpArgs false
namespace Go.Proofs.Ytcdgphdieemjcaa
def qw (g : List (List Int)) (s : List Bool) (d : List Int) (v w i : Nat) (r p : List Int) (x y : Int) : QK := ⟨g, s, d, v, w, 0, i, r, x, y, false, 0, p, []⟩

end Go.Proofs.Ytcdgphdieemjcaa

/-! The paths of a function, by evaluation. -/
open Go Go.AX Go.Proofs
set_option maxRecDepth 100000
set_option maxHeartbeats 4000000
set_option linter.unusedVariables false
namespace Go.Proofs.Ytcdgphdieemjcaa
end Go.Proofs.Ytcdgphdieemjcaa

/-! Contracts. -/
open Go Go.AX Go.Proofs
set_option maxRecDepth 100000
set_option maxHeartbeats 1000000
set_option linter.unusedVariables false
set_option linter.unusedSimpArgs false
namespace Go.Proofs.Ytcdgphdieemjcaa
def prA (y : List Int × Int) : AV := .tup [lI y.1, .int .i64 y.2]
noncomputable def distO (g : List (List Int)) (s : List Bool) (v : Int) : List Int × Int := if chkZ g s v v = 0 then (distL g s v.toNat g.length, 0) else ([], chkZ g s v v)
noncomputable def hopsO (g : List (List Int)) (s : List Bool) (v : Int) : List Int × Int := if chkZ g s v v = 0 then (hopsZ g (distL g s v.toNat g.length), 0) else ([], chkZ g s v v)
noncomputable def pathO (g : List (List Int)) (s : List Bool) (v w : Int) : List Int × Int :=
  if chkZ g s v w = 0 then (if (distL g s w.toNat g.length).getD v.toNat 0 < 0 then ([], 0) else (wkL g (distL g s w.toNat g.length) v.toNat ((distL g s w.toNat g.length).getD v.toNat 0).toNat, 0)) else ([], chkZ g s v w)
noncomputable def tabO (g : List (List Int)) (s : List Bool) : List (List Int) × Int := if chk4 g s = 0 then (tabZ g s g.length, 0) else ([], chk4 g s)
def tabA (y : List (List Int) × Int) : AV := .tup [.lst (gL y.1), .int .i64 y.2]

end Go.Proofs.Ytcdgphdieemjcaa

/-! The paths of a function, by evaluation. -/
open Go Go.AX Go.Proofs
set_option maxRecDepth 100000
set_option maxHeartbeats 4000000
set_option linter.unusedVariables false
namespace Go.Proofs.Ytcdgphdieemjcaa
def mkC (m : Nat → Bool) : List AV := [.bool (m 0), .bool (m 1), .bool (m 2), .bool (m 3), .bool (m 4), .bool (m 5), .bool (m 6), .bool (m 7), .bool (m 8), .bool (m 9), .bool (m 10), .bool (m 11), .bool (m 12), .bool (m 13), .bool (m 14), .bool (m 15), .bool (m 16), .bool (m 17), .bool (m 18), .bool (m 19), .bool (m 20), .bool (m 21), .bool (m 22), .bool (m 23)]
structure QZ where
  g : List (List Int)
  s : List Bool
  v : Nat
  m : Nat → Bool
  o : List Int
  u : Nat
  r : List Int
  i : Nat
  w : Nat
  sb : Bool
  mb : Bool
  k : Nat
  a : Nat
  x : Int
  y : Int
  d : List Int
  p : List Int
def cZ (q : QZ) : Nat → FuncId → List AV → List (Option Blk) → Hint := fun dst f args hp => match f with
  | 23 => .call [] [] [] (.int .i64 0)
  | 30 => .call [] [] [] (lI q.d)
  | 24 => .call [] [] [] (lI q.p)
  | _ => .no
def e41 (q : QZ) : List (Nat × AV) := [(16, lI q.r), (22, .int .i64 (iN q.w))]
noncomputable def st38 (q : QZ) : St := { n := Try.f23.ntmps, fr := [(0, .lst (gL q.g)), (1, .lst (boL q.s))], hp := [] }
noncomputable def la38 (q : QZ) : St := { n := Try.f23.ntmps, fr := [(0, .lst (gL q.g)), (1, .lst (boL q.s)), (13, .lst (gL q.g)), (14, .int .i64 (iN q.g.length)), (15, .int .i64 (iN q.a))], hp := [] }
noncomputable def lb38 (q : QZ) : St := { n := Try.f23.ntmps, fr := [(0, .lst (gL q.g)), (1, .lst (boL q.s)), (5, .int .i64 (iN q.a)), (7, .int .i64 q.x), (13, .lst (gL q.g)), (14, .int .i64 (iN q.g.length)), (15, .int .i64 (iN q.a)), (20, lI q.r), (21, .int .i64 (iN q.r.length)), (22, .int .i64 (iN q.i))], hp := [] }
def e38 (q : QZ) : List (Nat × AV) := [(18, lI q.r), (24, .int .i64 (iN q.w))]
def e36 (q : QZ) : List (Nat × AV) := []
def zB : Blk := { es := [.agg [.bool false, .bool false, .bool false, .bool false, .bool false, .bool false, .bool false, .bool false, .bool false, .bool false, .bool false, .bool false, .bool false, .bool false, .bool false, .bool false, .bool false, .bool false, .bool false, .bool false, .bool false, .bool false, .bool false, .bool false]], z := 24 }
def mB (m : Nat → Bool) : Blk := { es := [.agg (mkC m)], z := 24 }
def e37 (q : QZ) : List (Nat × AV) := [(14, .bool q.sb), (18, .tup []), (29, .int .i64 (iN q.u)), (37, lI q.r), (42, .int .i64 (iN q.w)), (46, .bool q.sb), (52, .tup [.bool q.mb]), (56, .tup [])]
theorem gc_0 (q : QZ) (h1 : (decide (24 < iN (gL q.g).length) = false)) {post : Exit → St → Prop} (ht : T Try.prog 0 (.loop (loopC (bodyOf Try.f23) 0)) (St.mk 48 [(0, AV.lst (gL q.g)), (1, AV.lst (boL q.s)), (13, AV.lst (gL q.g)), (14, AV.int IntKind.i64 (iN (gL q.g).length)), (15, AV.int IntKind.i64 0)] []) (TK Try.prog 0 post (loopK (bodyOf Try.f23) 0))) : ∃ o' st' q', go Try.prog ({ dec := [(12, false)], els := e38 q, calls := cZ q, unroll := false } : HT) 0 4000 (.inl (bodyOf Try.f23)) [] (st38 q) = some (o', st', q') ∧ q' ∧ Go.AX.Rest Try.prog 0 post st' o' :=
  endR_spec (σ := []) (fz := []) (vars := [0,1,13,14,15]) (show endR 0 [] [] [0,1,13,14,15] (go Try.prog ({ dec := [(12, false)], els := e38 q, calls := cZ q, unroll := false } : HT) 0 4000 (.inl (bodyOf Try.f23)) [] (st38 q)) = some (loopC (bodyOf Try.f23) 0, loopK (bodyOf Try.f23) 0, St.mk 48 [(0, AV.lst (gL q.g)), (1, AV.lst (boL q.s)), (13, AV.lst (gL q.g)), (14, AV.int IntKind.i64 (iN (gL q.g).length)), (15, AV.int IntKind.i64 0)] [], (((True ∧ True) ∧ (((True ∧ True) ∧ ((True ∧ True) ∧ ((True ∧ True) ∧ True))) ∧ ((type_of% h1) ∧ (((True ∧ True) ∧ ((True ∧ True) ∧ (True ∧ True))) ∧ True)))) ∧ (True ∧ (True ∧ (True ∧ (True ∧ (True ∧ True))))))) by kernel_rfl) ⟨⟨⟨trivial, trivial⟩, ⟨⟨⟨trivial, trivial⟩, ⟨⟨trivial, trivial⟩, ⟨⟨trivial, trivial⟩, trivial⟩⟩⟩, ⟨h1, ⟨⟨⟨trivial, trivial⟩, ⟨⟨trivial, trivial⟩, ⟨trivial, trivial⟩⟩⟩, trivial⟩⟩⟩⟩, ⟨trivial, ⟨trivial, ⟨trivial, ⟨trivial, ⟨trivial, trivial⟩⟩⟩⟩⟩⟩ ht
theorem gcx_0 (q : QZ) (h1 : (decide (iN q.a < iN q.g.length) = false)) (h2 : ((iN (boL q.s).length != iN (gL q.g).length) = false)) : ∃ o' st' q', go2 Try.prog ({ dec := [(16, false), (47, false)], els := e38 q, calls := cZ q, unroll := false } : HT) 0 4000 (loopC (bodyOf Try.f23) 0) (loopK (bodyOf Try.f23) 0) (la38 q) = some (o', st', q') ∧ q' ∧ Go.AX.Rest Try.prog 0 (Fin Try.prog Try.f23 0 [] (AV.int IntKind.i64 0)) st' o' :=
  endF_spec (σ := []) (fz := []) (show endF Try.prog Try.f23 0 [] [] (go2 Try.prog ({ dec := [(16, false), (47, false)], els := e38 q, calls := cZ q, unroll := false } : HT) 0 4000 (loopC (bodyOf Try.f23) 0) (loopK (bodyOf Try.f23) 0) (la38 q)) = some ([], AV.int IntKind.i64 0, (((((True ∧ (True ∧ True)) ∧ True) ∧ ((type_of% h1) ∧ True)) ∧ (((True ∧ True) ∧ ((True ∧ True) ∧ ((True ∧ True) ∧ ((True ∧ True) ∧ ((True ∧ (True ∧ True)) ∧ True))))) ∧ ((type_of% h2) ∧ ((True ∧ True) ∧ True)))) ∧ (True ∧ True))) by kernel_rfl) ⟨⟨⟨⟨⟨trivial, ⟨trivial, trivial⟩⟩, trivial⟩, ⟨h1, trivial⟩⟩, ⟨⟨⟨trivial, trivial⟩, ⟨⟨trivial, trivial⟩, ⟨⟨trivial, trivial⟩, ⟨⟨trivial, trivial⟩, ⟨⟨trivial, ⟨trivial, trivial⟩⟩, trivial⟩⟩⟩⟩⟩, ⟨h2, ⟨⟨trivial, trivial⟩, trivial⟩⟩⟩⟩, ⟨trivial, trivial⟩⟩
theorem gca_0 (q : QZ) (h1 : (decide (iN q.a < iN q.g.length) = true)) (h2 : (0 ≤ iN q.a)) (h3 : ((gL q.g)[(iN q.a).toNat]? = some (AV.lst (List.map (AV.int IntKind.i64) q.r)))) {post : Exit → St → Prop} (ht : T Try.prog 0 (.loop (loopC (loopC (bodyOf Try.f23) 0) 0)) (St.mk 48 [(0, AV.lst (gL q.g)), (1, AV.lst (boL q.s)), (5, AV.int IntKind.i64 (iN q.a)), (7, AV.int IntKind.i64 (-1)), (13, AV.lst (gL q.g)), (14, AV.int IntKind.i64 (iN q.g.length)), (15, AV.int IntKind.i64 (iN q.a)), (20, AV.lst (List.map (AV.int IntKind.i64) q.r)), (21, AV.int IntKind.i64 (iN (List.map (AV.int IntKind.i64) q.r).length)), (22, AV.int IntKind.i64 0)] []) (TK Try.prog 0 post (loopK (loopC (bodyOf Try.f23) 0) 0))) : ∃ o' st' q', go Try.prog ({ dec := [(16, true)], els := e38 q, calls := cZ q, unroll := false } : HT) 0 4000 (.inl (loopC (bodyOf Try.f23) 0)) [] (la38 q) = some (o', st', q') ∧ q' ∧ Go.AX.Rest Try.prog 0 post st' o' :=
  endR_spec (σ := []) (fz := []) (vars := [0,1,5,7,13,14,15,20,21,22]) (show endR 0 [] [] [0,1,5,7,13,14,15,20,21,22] (go Try.prog ({ dec := [(16, true)], els := e38 q, calls := cZ q, unroll := false } : HT) 0 4000 (.inl (loopC (bodyOf Try.f23) 0)) [] (la38 q)) = some (loopC (loopC (bodyOf Try.f23) 0) 0, loopK (loopC (bodyOf Try.f23) 0) 0, St.mk 48 [(0, AV.lst (gL q.g)), (1, AV.lst (boL q.s)), (5, AV.int IntKind.i64 (iN q.a)), (7, AV.int IntKind.i64 (-1)), (13, AV.lst (gL q.g)), (14, AV.int IntKind.i64 (iN q.g.length)), (15, AV.int IntKind.i64 (iN q.a)), (20, AV.lst (List.map (AV.int IntKind.i64) q.r)), (21, AV.int IntKind.i64 (iN (List.map (AV.int IntKind.i64) q.r).length)), (22, AV.int IntKind.i64 0)] [], ((((True ∧ (True ∧ True)) ∧ True) ∧ ((type_of% h1) ∧ (((True ∧ True) ∧ ((True ∧ (True ∧ ((type_of% h2) ∧ (type_of% h3)))) ∧ ((True ∧ True) ∧ ((True ∧ True) ∧ ((True ∧ True) ∧ True))))) ∧ ((True ∧ True) ∧ (((True ∧ True) ∧ ((True ∧ True) ∧ (True ∧ True))) ∧ True))))) ∧ (True ∧ (True ∧ (True ∧ (True ∧ (True ∧ (True ∧ (True ∧ (True ∧ (True ∧ (True ∧ True)))))))))))) by kernel_rfl) ⟨⟨⟨⟨trivial, ⟨trivial, trivial⟩⟩, trivial⟩, ⟨h1, ⟨⟨⟨trivial, trivial⟩, ⟨⟨trivial, ⟨trivial, ⟨h2, h3⟩⟩⟩, ⟨⟨trivial, trivial⟩, ⟨⟨trivial, trivial⟩, ⟨⟨trivial, trivial⟩, trivial⟩⟩⟩⟩⟩, ⟨⟨trivial, trivial⟩, ⟨⟨⟨trivial, trivial⟩, ⟨⟨trivial, trivial⟩, ⟨trivial, trivial⟩⟩⟩, trivial⟩⟩⟩⟩⟩, ⟨trivial, ⟨trivial, ⟨trivial, ⟨trivial, ⟨trivial, ⟨trivial, ⟨trivial, ⟨trivial, ⟨trivial, ⟨trivial, trivial⟩⟩⟩⟩⟩⟩⟩⟩⟩⟩⟩ ht
theorem gcbx_0 (q : QZ) (h1 : (decide (iN q.i < iN q.r.length) = false)) {post : Exit → St → Prop} {R : St → Prop} (hR : ∀ st, Ren 0 st (St.mk 48 [(0, AV.lst (gL q.g)), (1, AV.lst (boL q.s)), (13, AV.lst (gL q.g)), (14, AV.int IntKind.i64 (iN q.g.length)), (15, AV.int IntKind.i64 (IntKind.i64.wrap (iN q.a + 1)))] []) → R st) : ∃ o' st' q', go2 Try.prog ({ dec := [(23, false)], els := e38 q, calls := cZ q, unroll := false } : HT) 0 4000 (loopC (loopC (bodyOf Try.f23) 0) 0) (loopK (loopC (bodyOf Try.f23) 0) 0) (lb38 q) = some (o', st', q') ∧ q' ∧ Go.AX.Rest Try.prog 0 (andThen R post) st' o' :=
  endN_spec (σ := []) (fz := []) (vars := [0,1,13,14,15]) (show endN 0 [] [] [0,1,13,14,15] (go2 Try.prog ({ dec := [(23, false)], els := e38 q, calls := cZ q, unroll := false } : HT) 0 4000 (loopC (loopC (bodyOf Try.f23) 0) 0) (loopK (loopC (bodyOf Try.f23) 0) 0) (lb38 q)) = some (St.mk 48 [(0, AV.lst (gL q.g)), (1, AV.lst (boL q.s)), (13, AV.lst (gL q.g)), (14, AV.int IntKind.i64 (iN q.g.length)), (15, AV.int IntKind.i64 (IntKind.i64.wrap (iN q.a + 1)))] [], (((((True ∧ (True ∧ True)) ∧ True) ∧ ((type_of% h1) ∧ True)) ∧ (((True ∧ True) ∧ ((True ∧ True) ∧ True)) ∧ True)) ∧ (True ∧ (True ∧ (True ∧ (True ∧ (True ∧ True))))))) by kernel_rfl) ⟨⟨⟨⟨⟨trivial, ⟨trivial, trivial⟩⟩, trivial⟩, ⟨h1, trivial⟩⟩, ⟨⟨⟨trivial, trivial⟩, ⟨⟨trivial, trivial⟩, trivial⟩⟩, trivial⟩⟩, ⟨trivial, ⟨trivial, ⟨trivial, ⟨trivial, ⟨trivial, trivial⟩⟩⟩⟩⟩⟩ hR
theorem gcbr_0 (q : QZ) (h1 : (decide (iN q.i < iN q.r.length) = true)) (h2 : (0 ≤ iN q.i)) (h3 : ((List.map (AV.int IntKind.i64) q.r)[(iN q.i).toNat]? = some (AV.int IntKind.i64 (iN q.w)))) (h4 : (decide (iN q.w ≤ q.x) = false)) (h5 : (decide (iN (gL q.g).length ≤ iN q.w) = false)) (h6 : ((iN q.w == iN q.a) = false)) {post : Exit → St → Prop} {R : St → Prop} (hR : ∀ st, Ren 0 st (St.mk 48 [(0, AV.lst (gL q.g)), (1, AV.lst (boL q.s)), (5, AV.int IntKind.i64 (iN q.a)), (7, AV.int IntKind.i64 (iN q.w)), (13, AV.lst (gL q.g)), (14, AV.int IntKind.i64 (iN q.g.length)), (15, AV.int IntKind.i64 (iN q.a)), (20, AV.lst (List.map (AV.int IntKind.i64) q.r)), (21, AV.int IntKind.i64 (iN q.r.length)), (22, AV.int IntKind.i64 (IntKind.i64.wrap (iN q.i + 1)))] []) → R st) : ∃ o' st' q', go Try.prog ({ dec := [(23, true), (28, false), (33, false), (38, false)], els := e38 q, calls := cZ q, unroll := false } : HT) 0 4000 (.inl (loopC (loopC (bodyOf Try.f23) 0) 0)) [] (lb38 q) = some (o', st', q') ∧ q' ∧ Go.AX.Rest Try.prog 0 (andThen R post) st' o' :=
  endN_spec (σ := []) (fz := []) (vars := [0,1,5,7,13,14,15,20,21,22]) (show endN 0 [] [] [0,1,5,7,13,14,15,20,21,22] (go Try.prog ({ dec := [(23, true), (28, false), (33, false), (38, false)], els := e38 q, calls := cZ q, unroll := false } : HT) 0 4000 (.inl (loopC (loopC (bodyOf Try.f23) 0) 0)) [] (lb38 q)) = some (St.mk 48 [(0, AV.lst (gL q.g)), (1, AV.lst (boL q.s)), (5, AV.int IntKind.i64 (iN q.a)), (7, AV.int IntKind.i64 (iN q.w)), (13, AV.lst (gL q.g)), (14, AV.int IntKind.i64 (iN q.g.length)), (15, AV.int IntKind.i64 (iN q.a)), (20, AV.lst (List.map (AV.int IntKind.i64) q.r)), (21, AV.int IntKind.i64 (iN q.r.length)), (22, AV.int IntKind.i64 (IntKind.i64.wrap (iN q.i + 1)))] [], ((((True ∧ (True ∧ True)) ∧ True) ∧ ((type_of% h1) ∧ (((True ∧ (True ∧ ((type_of% h2) ∧ (type_of% h3)))) ∧ ((True ∧ True) ∧ ((True ∧ True) ∧ True))) ∧ (((True ∧ True) ∧ ((True ∧ True) ∧ ((True ∧ (True ∧ True)) ∧ (((type_of% h4) ∧ True) ∧ ((True ∧ (True ∧ True)) ∧ ((True ∧ (True ∧ True)) ∧ ((True ∧ (True ∧ True)) ∧ ((True ∧ (True ∧ (True ∧ True))) ∧ ((True ∧ ((type_of% h5) ∧ True)) ∧ ((True ∧ True) ∧ ((True ∧ (True ∧ True)) ∧ ((True ∧ (True ∧ True)) ∧ ((True ∧ (True ∧ (True ∧ True))) ∧ ((True ∧ ((type_of% h6) ∧ True)) ∧ True)))))))))))))) ∧ (True ∧ (((True ∧ True) ∧ ((True ∧ True) ∧ True)) ∧ (((True ∧ True) ∧ ((True ∧ True) ∧ True)) ∧ True))))))) ∧ (True ∧ (True ∧ (True ∧ (True ∧ (True ∧ (True ∧ (True ∧ (True ∧ (True ∧ (True ∧ True)))))))))))) by kernel_rfl) ⟨⟨⟨⟨trivial, ⟨trivial, trivial⟩⟩, trivial⟩, ⟨h1, ⟨⟨⟨trivial, ⟨trivial, ⟨h2, h3⟩⟩⟩, ⟨⟨trivial, trivial⟩, ⟨⟨trivial, trivial⟩, trivial⟩⟩⟩, ⟨⟨⟨trivial, trivial⟩, ⟨⟨trivial, trivial⟩, ⟨⟨trivial, ⟨trivial, trivial⟩⟩, ⟨⟨h4, trivial⟩, ⟨⟨trivial, ⟨trivial, trivial⟩⟩, ⟨⟨trivial, ⟨trivial, trivial⟩⟩, ⟨⟨trivial, ⟨trivial, trivial⟩⟩, ⟨⟨trivial, ⟨trivial, ⟨trivial, trivial⟩⟩⟩, ⟨⟨trivial, ⟨h5, trivial⟩⟩, ⟨⟨trivial, trivial⟩, ⟨⟨trivial, ⟨trivial, trivial⟩⟩, ⟨⟨trivial, ⟨trivial, trivial⟩⟩, ⟨⟨trivial, ⟨trivial, ⟨trivial, trivial⟩⟩⟩, ⟨⟨trivial, ⟨h6, trivial⟩⟩, trivial⟩⟩⟩⟩⟩⟩⟩⟩⟩⟩⟩⟩⟩⟩, ⟨trivial, ⟨⟨⟨trivial, trivial⟩, ⟨⟨trivial, trivial⟩, trivial⟩⟩, ⟨⟨⟨trivial, trivial⟩, ⟨⟨trivial, trivial⟩, trivial⟩⟩, trivial⟩⟩⟩⟩⟩⟩⟩, ⟨trivial, ⟨trivial, ⟨trivial, ⟨trivial, ⟨trivial, ⟨trivial, ⟨trivial, ⟨trivial, ⟨trivial, ⟨trivial, trivial⟩⟩⟩⟩⟩⟩⟩⟩⟩⟩⟩ hR
end Go.Proofs.Ytcdgphdieemjcaa

/-! A block told shorter, and an array's variable told as a row of elements. -/
namespace Go.AX
variable {P : Program}

/-- The block b turned by f. -/
def onH (f : Blk → Blk) : Nat → List (Option Blk) → List (Option Blk)
  | _, [] => []
  | 0, some blk :: r => some (f blk) :: r
  | 0, none :: r => none :: r
  | b + 1, x :: r => x :: onH f b r

theorem nth_onH (f : Blk → Blk) : ∀ (hp : List (Option Blk)) (b b' : Nat), nth (onH f b hp) b' = if b' = b then (nth hp b').map f else nth hp b' := by
  intro hp
  induction hp with
  | nil => intro b b'; simp [onH, nth]
  | cons x r ih =>
    intro b b'
    cases b with
    | zero => cases b' <;> cases x <;> simp [onH, nth]
    | succ b =>
      cases b' with
      | zero => simp [onH, nth]
      | succ b' => simp [onH, nth, ih b b']

theorem onH_len (f : Blk → Blk) : ∀ (hp : List (Option Blk)) (b : Nat), (onH f b hp).length = hp.length := by
  intro hp
  induction hp with
  | nil => intro b; cases b <;> rfl
  | cons x r ih => intro b; cases b <;> cases x <;> simp [onH, ih]

theorem Mut_onH {f : Blk → Blk} (hf : ∀ blk, (f blk).wr = blk.wr) {φ : Phi} {hp : List (Option Blk)} {b r : Nat} : Mut φ (nth (onH f b hp)) r ↔ Mut φ (nth hp) r := by
  constructor
  · rintro ⟨b', blk, z, h1, h2, h3⟩
    rw [nth_onH] at h1
    split at h1
    · obtain ⟨blk', h4, rfl⟩ := Option.map_eq_some_iff.1 h1
      exact ⟨b', blk', z, h4, by rw [← hf]; exact h2, h3⟩
    · exact ⟨b', blk, z, h1, h2, h3⟩
  · rintro ⟨b', blk, z, h1, h2, h3⟩
    by_cases hb : b' = b
    · exact ⟨b', f blk, z, by rw [nth_onH, if_pos hb, h1]; rfl, by rw [hf]; exact h2, h3⟩
    · exact ⟨b', blk, z, by rw [nth_onH, if_neg hb]; exact h1, h2, h3⟩

def truncB (k : Nat) (blk : Blk) : Blk := { blk with es := blk.es.take k }
def truncS (b k : Nat) (st : St) : St := { st with hp := onH (truncB k) b st.hp }

theorem Ren.wk (m : Nat) (st : St) : Ren m st (wkSt st) := by
  intro A0 n0 φ a w hm hr
  refine ⟨φ, ⟨hr.defs, hr.size, fun s => ?_, hr.heap, hr.out, hr.base, hr.own⟩, hm, .refl m φ _ w⟩
  show VR φ _ w (look (wkFr st.fr) s) _
  rw [look_wkFr]
  exact (hr.slot s).wk1

/-! An array's variable: one element of many cells, told as many elements of one cell. -/

def flatB (blk : Blk) : Blk := match blk.es with
  | [.agg cs] => { blk with es := cs, z := 1 }
  | _ => blk

def flatV (b : Nat) (v : AV) : AV := match v with
  | .ptr b' i j => match Nat.beq b' b, i with
    | false, _ => v
    | true, 0 => .ptr b j 0
    | true, _ => .unk
  | .sl b' _ _ => match Nat.beq b' b with
    | false => v
    | true => .unk
  | .agg cs => match norefL cs with
    | true => v
    | false => .unk
  | .tup cs => match norefL cs with
    | true => v
    | false => .unk
  | .fn _ _ => .unk
  | v => v

def flatFr (b : Nat) : List (Nat × AV) → List (Nat × AV)
  | [] => []
  | (s, v) :: r => (s, flatV b v) :: flatFr b r

theorem look_flatFr (b : Nat) : ∀ (fr : List (Nat × AV)) (s : Nat), look (flatFr b fr) s = flatV b (look fr s) := by
  intro fr
  induction fr with
  | nil => intro s; rfl
  | cons x r ih =>
    intro s
    obtain ⟨t, v⟩ := x
    simp only [flatFr, look]
    split
    · rfl
    · exact ih s

def flatS (b : Nat) (st : St) : St := { st with fr := flatFr b st.fr, hp := onH flatB b st.hp }

def allFlat (hp : List (Option Blk)) : Bool := hp.all fun x => match x with | some blk => blk.flat | none => true

def isArr (hp : List (Option Blk)) (b : Nat) : Bool := match nth hp b with
  | some blk => match blk.es with
    | [.agg _] => true
    | _ => false
  | none => false

theorem allFlat_spec : ∀ {hp : List (Option Blk)}, allFlat hp = true → ∀ b blk, nth hp b = some blk → blk.flat = true := by
  intro hp
  induction hp with
  | nil => intro _ b blk h; cases b <;> cases h
  | cons x r ih =>
    intro h b blk hb
    simp only [allFlat, List.all_cons, Bool.and_eq_true] at h
    cases b with
    | zero => simp [nth] at hb; subst hb; exact h.1
    | succ b => exact ih h.2 b blk (by simpa [nth] using hb)

theorem VR.noref_any {φ φ' : Phi} {A A' : Nat → Prop} {w : World} {c : AV} {v : Value} (h : VR φ A w c v) (hn : c.noref = true) (hA : ∀ r, A r → A' r) : VR φ' A' w c v :=
  .imm _ _ ((h.noref_rt hn).mono hA (fun _ _ => rfl))

theorem Ren.flat (m : Nat) (b : Nat) (st : St) (hmb : m ≤ b) (hf : allFlat st.hp = true) (ha : isArr st.hp b = true) : Ren m st (flatS b st) := by
  intro A0 n0 φ a w hm hr
  let φ' : Phi := fun x => if x = b then (φ x).map (fun p => (p.1, 1)) else φ x
  have hwr : ∀ blk, (flatB blk).wr = blk.wr := by
    intro blk; unfold flatB; split <;> rfl
  have hmut : ∀ r, Mut φ' (nth (onH flatB b st.hp)) r ↔ Mut φ (nth st.hp) r := by
    intro r
    rw [Mut_onH hwr]
    constructor
    · rintro ⟨b', blk, z, h1, h2, h3⟩
      simp only [φ'] at h3
      split at h3
      · obtain ⟨p, h4, h5⟩ := Option.map_eq_some_iff.1 h3
        simp only [Prod.mk.injEq] at h5
        exact ⟨b', blk, p.2, h1, h2, by rw [h4, ← h5.1]⟩
      · exact ⟨b', blk, z, h1, h2, h3⟩
    · rintro ⟨b', blk, z, h1, h2, h3⟩
      by_cases hb : b' = b
      · exact ⟨b', blk, 1, h1, h2, by simp only [φ']; rw [if_pos hb, h3]; rfl⟩
      · exact ⟨b', blk, z, h1, h2, by simp only [φ']; rw [if_neg hb]; exact h3⟩
  have hok : ∀ r, Ok A0 n0 φ st.h w r → Ok A0 n0 φ' (flatS b st).h w r := fun r ⟨h1, h2, h3⟩ => ⟨h1, h2, fun h => h3 ((hmut r).1 h)⟩
  have hne : ∀ x, x ≠ b → φ' x = φ x := fun x hx => by simp only [φ']; rw [if_neg hx]
  have vr : ∀ {v : AV} {u : Value}, VR φ (Ok A0 n0 φ st.h w) w v u → VR φ' (Ok A0 n0 φ' (flatS b st).h w) w (flatV b v) u := by
    intro v u h
    cases v with
    | ptr b' i j =>
      simp only [flatV]
      cases hbb : Nat.beq b' b with
      | false =>
        obtain ⟨r, z, h1, rfl⟩ := h.ptr_inv
        have : b' ≠ b := fun e => by subst e; rw [Nat.beq_refl] at hbb; cases hbb
        exact .ptr b' i j r z (by rw [hne b' this]; exact h1)
      | true =>
        have := Nat.eq_of_beq_eq_true hbb
        subst this
        obtain ⟨r, z, h1, rfl⟩ := h.ptr_inv
        cases i with
        | zero =>
          have := VR.ptr (φ := φ') (A := Ok A0 n0 φ' (flatS b' st).h w) (w := w) b' j 0 r 1 (by simp only [φ']; rw [h1]; rfl)
          simpa using this
        | succ i => exact .imm _ _ (.unk _)
    | sl b' i n =>
      simp only [flatV]
      cases hbb : Nat.beq b' b with
      | false =>
        have : b' ≠ b := fun e => by subst e; rw [Nat.beq_refl] at hbb; cases hbb
        rcases h.sl_inv with ⟨rfl, a, rfl⟩ | ⟨r, z, cap, h1, h2, h3, rfl⟩
        · exact .slnil b' i a
        · exact .sl b' i n r z cap (by rw [hne b' this]; exact h1) h2 h3
      | true => exact .imm _ _ (.unk _)
    | agg cs =>
      simp only [flatV]
      cases hn : norefL cs with
      | false => exact .imm _ _ (.unk _)
      | true =>
        obtain ⟨us, rfl, hl, hh⟩ := h.agg_inv
        exact .agg cs us hl fun i c v hc hv => (hh i c v hc hv).noref_any (List.all_eq_true.1 hn c (List.mem_of_getElem? hc)) hok
    | tup cs =>
      simp only [flatV]
      cases hn : norefL cs with
      | false => exact .imm _ _ (.unk _)
      | true =>
        obtain ⟨us, rfl, hl, hh⟩ := h.tup_inv
        exact .tup cs us hl fun i c v hc hv => (hh i c v hc hv).noref_any (List.all_eq_true.1 hn c (List.mem_of_getElem? hc)) hok
    | fn f cs => exact .imm _ _ (.unk _)
    | _ => exact h.noref_any rfl hok
  have cellV : ∀ {b' : Nat} {blk : Blk}, nth st.hp b' = some blk → ∀ {e c : AV} {u : Value}, e ∈ blk.es → c ∈ e.cells → VR φ (Ok A0 n0 φ st.h w) w c u → VR φ' (Ok A0 n0 φ' (flatS b st).h w) w c u := by
    intro b' blk hb e c u he hc h
    exact h.noref_any (hr.heap.flat b' blk hb (allFlat_spec hf b' blk hb) e he c hc) hok
  refine ⟨φ', ⟨hr.defs, hr.size, fun s => ?_, ?_, fun b' hb => ?_, hr.base, fun b' r z hb h1 => ?_⟩, by simpa [flatS, onH_len] using hm, fun b' hb => ?_, Keep.refl _ w, fun r h => .inl ((hmut r).1 h)⟩
  · show VR φ' _ w (look (flatFr b st.fr) s) _
    rw [look_flatFr]
    exact vr (hr.slot s)
  · refine ⟨fun b' blk hb => ?_, fun b' blk hb hfl => ?_, fun b1 b2 r z z' h1 h2 g1 g2 => ?_⟩
    · change nth (onH flatB b st.hp) b' = some blk at hb
      rw [nth_onH] at hb
      split at hb
      · rename_i hbb
        subst hbb
        obtain ⟨blk', h4, rfl⟩ := Option.map_eq_some_iff.1 hb
        have hes : ∃ cs, blk'.es = [.agg cs] := by
          unfold isArr at ha; rw [h4] at ha; simp only at ha
          split at ha
          · rename_i cs he; exact ⟨cs, he⟩
          · cases ha
        obtain ⟨cs, hes⟩ := hes
        have hfb : flatB blk' = { blk' with es := cs, z := 1 } := by unfold flatB; rw [hes]
        rw [hfb]
        rcases hr.heap.blk b' blk' h4 with ⟨h1, _⟩ | ⟨r, cells, T, h1, h2, h3, h5⟩
        · rw [hes] at h1; cases h1
        · obtain ⟨g1, g2⟩ := h5 0 (.agg cs) (by rw [hes]; rfl)
          simp only [AV.cells] at g1 g2
          refine .inr ⟨r, cells, T, by simp only [φ']; rw [h1]; rfl, h2, ?_, fun i c hc => ?_⟩
          · simp only [Nat.mul_one]; rw [hes] at h3; simp only [List.length_singleton, Nat.one_mul] at h3; omega
          · obtain ⟨g3, u, g4, g5⟩ := g2 i c hc
            have hcc := one_cells g3
            refine ⟨by rw [hcc]; rfl, fun j c' hj => ?_⟩
            rw [hcc] at hj
            match j, hj with
            | 0, hj =>
              simp at hj; subst hj
              refine ⟨g3, u, by simpa using g4, ?_⟩
              exact cellV h4 (e := .agg cs) (by rw [hes]; simp) (List.mem_of_getElem? hc) g5
      · rename_i hbb
        rcases hr.heap.blk b' blk hb with ⟨h1, h2, h3⟩ | ⟨r, cells, T, h1, h2, h3, h5⟩
        · exact .inl ⟨h1, by rw [hne b' hbb]; exact h2, h3⟩
        · refine .inr ⟨r, cells, T, by rw [hne b' hbb]; exact h1, h2, h3, fun i e he => ⟨(h5 i e he).1, fun j c hc => ?_⟩⟩
          obtain ⟨g3, u, g4, g5⟩ := (h5 i e he).2 j c hc
          exact ⟨g3, u, g4, cellV hb (List.mem_of_getElem? he) (List.mem_of_getElem? hc) g5⟩
    · change nth (onH flatB b st.hp) b' = some blk at hb
      rw [nth_onH] at hb
      split at hb
      · obtain ⟨blk', h4, rfl⟩ := Option.map_eq_some_iff.1 hb
        have hno := hr.heap.flat b' blk' h4 (allFlat_spec hf b' blk' h4)
        have h5 := hr.heap.blk b' blk' h4
        intro e he c hc
        unfold flatB at he
        split at he
        · rename_i cs hes
          simp only at he
          rcases h5 with ⟨h1, _⟩ | ⟨r, cells, T, h1, h2, h3, h5⟩
          · rw [hes] at h1; cases h1
          · obtain ⟨i, hi⟩ := List.getElem?_of_mem he
            obtain ⟨g3, _⟩ := (h5 0 (.agg cs) (by rw [hes]; rfl)).2 i e hi
            rw [one_cells g3] at hc
            simp at hc; subst hc
            exact hno (.agg cs) (by rw [hes]; simp) c he
        · exact hno e he c hc
      · exact hr.heap.flat b' blk hb hfl
    · have up : ∀ x r z, φ' x = some (r, z) → ∃ z', φ x = some (r, z') := by
        intro x r z h
        simp only [φ'] at h
        split at h
        · obtain ⟨p, h4, h5⟩ := Option.map_eq_some_iff.1 h
          simp only [Prod.mk.injEq] at h5
          exact ⟨p.2, by rw [h4, ← h5.1]⟩
        · exact ⟨z, h⟩
      have iss : ∀ x, (nth (onH flatB b st.hp) x).isSome = true → (nth st.hp x).isSome = true := by
        intro x h
        rw [nth_onH] at h
        split at h <;> simpa using h
      obtain ⟨z1, k1⟩ := up b1 r z g1
      obtain ⟨z2, k2⟩ := up b2 r z' g2
      exact hr.heap.inj b1 b2 r z1 z2 (iss b1 h1) (iss b2 h2) k1 k2
  · have h0 := hr.out b' (by simpa [flatS, onH_len] using hb)
    simp only [φ']; split
    · rw [h0]; rfl
    · exact h0
  · simp only [φ'] at h1
    split at h1
    · obtain ⟨p, h4, h5⟩ := Option.map_eq_some_iff.1 h1
      simp only [Prod.mk.injEq] at h5
      exact hr.own b' r p.2 hb (by rw [h4, ← h5.1])
    · exact hr.own b' r z hb h1
  · exact hne b' (by omega)

end Go.AX

/-! Contracts. -/
open Go Go.AX Go.Proofs
set_option maxRecDepth 100000
set_option maxHeartbeats 1000000
set_option linter.unusedVariables false
set_option linter.unusedSimpArgs false
namespace Go.Proofs.Ytcdgphdieemjcaa
/-! Which vertices a vertex reaches. -/
def upd (m : Nat → Bool) (w : Nat) : Nat → Bool := fun i => if i = w then true else m i
/-- How many are not marked. -/
def cnt (m : Nat → Bool) : Nat → Nat
  | 0 => 0
  | n + 1 => cnt m n + if m n = true then 0 else 1
theorem cnt_upd_ge (m : Nat → Bool) (w : Nat) : ∀ n, n ≤ w → cnt (upd m w) n = cnt m n := by
  intro n
  induction n with
  | zero => intro _; rfl
  | succ n ih => intro h; rw [cnt, cnt, ih (by omega)]; simp [upd, show n ≠ w by omega]
theorem cnt_upd (m : Nat → Bool) (w : Nat) (hm : m w = false) : ∀ n, w < n → cnt (upd m w) n + 1 = cnt m n := by
  intro n
  induction n with
  | zero => intro h; omega
  | succ n ih =>
    intro h
    rw [cnt, cnt]
    by_cases e : n = w
    · subst e; rw [cnt_upd_ge m n n (Nat.le_refl _), hm]; simp [upd]
    · have := ih (by omega)
      simp only [upd, e, if_false] at this ⊢
      omega
theorem cnt_le (m : Nat → Bool) : ∀ n, cnt m n ≤ n := by
  intro n
  induction n with
  | zero => exact Nat.le_refl _
  | succ n ih => rw [cnt]; split <;> omega

/-- Closed under the edges to open vertices. -/
def Clo (g : List (List Int)) (s : List Bool) (C : Nat → Prop) : Prop := ∀ u, u < g.length → C u → ∀ w ∈ g.getD u [], s.getD w.toNat false = false → C w.toNat
def Rch (g : List (List Int)) (s : List Bool) (v u : Nat) : Prop := s.getD v false = false ∧ ∀ C : Nat → Prop, C v → Clo g s C → C u
open Classical in
noncomputable def mR (g : List (List Int)) (s : List Bool) (v : Nat) : Nat → Bool := fun u => decide (Rch g s v u)
theorem Rch.step {g : List (List Int)} {s : List Bool} {v u : Nat} (h : Rch g s v u) (hu : u < g.length) {w : Int} (hw : w ∈ g.getD u []) (ho : s.getD w.toNat false = false) : Rch g s v w.toNat :=
  ⟨h.1, fun C hv hc => hc u hu (h.2 C hv hc) w hw ho⟩
theorem Rch.refl {g : List (List Int)} {s : List Bool} {v : Nat} (h : s.getD v false = false) : Rch g s v v := ⟨h, fun _ hv _ => hv⟩
theorem Rch.lt {g : List (List Int)} {s : List Bool} (hg : OkG g s) {v u : Nat} (hv : v < g.length) (h : Rch g s v u) : u < g.length :=
  h.2 (· < g.length) hv fun x hx _ w hw _ => by have := (hg.row x hx).2 w hw; omega
def qz (g : List (List Int)) (s : List Bool) (v : Nat) (m : Nat → Bool) (o : List Int) (r : List Int) (i a : Nat) (x : Int) : QZ := ⟨g, s, v, m, o, 0, r, i, 0, false, false, o.length, a, x, 0, [], []⟩
def lastZ (r : List Int) (i : Nat) : Int := if i = 0 then -1 else r.getD (i - 1) 0
theorem lastZ_lt {r : List Int} {i : Nat} (h : i < r.length) (h0 : ∀ j, j < r.length → 0 ≤ r.getD j 0) (hs : ∀ i, 0 < i → i < r.length → r.getD (i - 1) 0 < r.getD i 0) : lastZ r i < r.getD i 0 := by
  unfold lastZ
  split
  · have := h0 i h; omega
  · exact hs i (by omega) h
theorem lastZ_succ {r : List Int} {i : Nat} : lastZ r (i + 1) = r.getD i 0 := by unfold lastZ; simp

theorem gcb_run {g : List (List Int)} {s : List Bool} (hg : OkG g s) (hs : Asc g) (a : Nat) (ha : a < g.length) {R : St → Prop} {post : Exit → St → Prop}
    (hR : ∀ st, Ren 0 st (la38 (qz g s 0 (fun _ => false) [] [] 0 (a + 1) 0)) → R st) :
    T Try.prog 0 (.loop (loopC (loopC (bodyOf Try.f23) 0) 0)) (lb38 (qz g s 0 (fun _ => false) [] (g.getD a []) 0 a (-1))) (TK Try.prog 0 (andThen R post) (loopK (loopC (bodyOf Try.f23) 0) 0)) := by
  have hgl := hg.len
  have hl := gL_len g
  have hr1 := (hg.row a ha).1
  have hget := fun i => row_get hg ha (i := i)
  have hsr := hs a ha
  generalize g.getD a [] = r at hr1 hget hsr
  refine T.loop (fun i : Nat => lb38 (qz g s 0 (fun _ => false) [] r i a (lastZ r i))) (fun i => i ≤ r.length) (fun i => r.length + 1 - i) 0 (Nat.zero_le _) ?_
  intro i hi
  by_cases h : i < r.length
  · obtain ⟨x, hx, hx1, hx2⟩ := hget i h
    have hg1 := lI_get h
    have hlt := lastZ_lt h (fun j hj => by obtain ⟨y, hy, _⟩ := hget j hj; omega) hsr
    rw [hx] at hg1 hlt
    refine T.path mix (gcbr_0 ⟨g, s, 0, fun _ => false, [], 0, r, i, x, false, false, 0, a, lastZ r i, 0, [], []⟩ (decide_eq_true (by simp only [iN]; omega)) (by simp [iN]) hg1 (decide_eq_false (by simp only [iN]; omega)) (decide_eq_false (by simp only [iN, hl]; omega)) (by simp [iN]; omega) ?_)
    intro st hst
    simp only [iN, wrap_nat i (show i < 9223372036854775807 by omega)] at hst
    refine ⟨i + 1, ?_, h, by omega⟩
    rw [lastZ_succ, hx]
    exact hst
  · refine T.out mix (gcbx_0 (qz g s 0 (fun _ => false) [] r i a (lastZ r i)) (decide_eq_false (by simp only [iN, qz]; omega)) ?_)
    intro st hst
    simp only [iN, qz, wrap_nat a (show a < 9223372036854775807 by omega)] at hst
    exact hR st hst

theorem gcheck_ct {g : List (List Int)} {s : List Bool} (hg : OkG g s) (hs : Asc g) : CT Try.prog 23 [] [.lst (gL g), .lst (boL s)] [] (.int .i64 0) := by
  have hgl := hg.len
  have hl := gL_len g
  have hbl := boL_len s
  have hsl := hg.sh
  refine CT.path mix Try.func23 (show Try.f23.body = some (bodyOf Try.f23) by kernel_rfl) (Nat.le_of_ble_eq_true rfl) (gc_0 (qz g s 0 (fun _ => false) [] [] 0 0 0) (decide_eq_false (by simp only [iN, qz, hl]; omega)) ?_)
  simp only [qz, hl]
  refine T.loop (fun a : Nat => la38 (qz g s 0 (fun _ => false) [] [] 0 a 0)) (fun a => a ≤ g.length) (fun a => g.length + 1 - a) 0 (Nat.zero_le _) ?_
  intro a ha
  by_cases h : a < g.length
  · refine T.path mix (gca_0 (qz g s 0 (fun _ => false) [] (g.getD a []) 0 a 0) (decide_eq_true (by simp only [iN, qz]; omega)) (by simp [iN]) (gL_get h) ?_)
    simp only [qz, lI_len]
    exact gcb_run hg hs a h fun st hst => ⟨a + 1, hst, h, by omega⟩
  · exact T.out mix (gcx_0 (qz g s 0 (fun _ => false) [] [] 0 a 0) (decide_eq_false (by simp only [iN, qz]; omega)) (by simp [iN, qz, hl, hbl, hsl]))

/-- The search's state: marks and stack. -/
structure Srch (g : List (List Int)) (s : List Bool) (v : Nat) (m : Nat → Bool) (o : List Int) : Prop where
  stk : ∀ x ∈ o, ∃ u : Nat, x = (u : Int) ∧ u < g.length ∧ m u = true
  snd : ∀ u, m u = true → Rch g s v u
  beg : m v = true
  cnt : o.length + cnt m 24 ≤ 24
def ClosedAt (g : List (List Int)) (s : List Bool) (m : Nat → Bool) (u : Nat) : Prop := ∀ w ∈ g.getD u [], s.getD w.toNat false = false → m w.toNat = true
theorem ClosedAt.upd {g : List (List Int)} {s : List Bool} {m : Nat → Bool} {u : Nat} (h : ClosedAt g s m u) (w : Nat) : ClosedAt g s (upd m w) u := fun x hx ho => by unfold Go.Proofs.Ytcdgphdieemjcaa.upd; rw [h x hx ho]; simp
end Go.Proofs.Ytcdgphdieemjcaa

/-! The paths of a function, by evaluation. -/
open Go Go.AX Go.Proofs
set_option maxRecDepth 100000
set_option maxHeartbeats 4000000
set_option linter.unusedVariables false
namespace Go.Proofs.Ytcdgphdieemjcaa
structure QL where
  L : List Int
  g : List (List Int)
  s : List Bool
  v : Nat
  goal : Nat
  p : List Int
  d : List Int
  h : List Int
  rl : List Bool
  k : Nat
  w : Nat
  x : Int
  y : Int
  z : Int
  b : Bool
  sb : Bool
  r : List Int
  m1 : Nat
  m2 : Nat
def c6 (q : QL) : Nat → FuncId → List AV → List (Option Blk) → Hint := fun dst f args hp => match f with
  | 9 => match args with
    | [.ptr b _ _, _] => .call [b] [] [tapeB q.L q.m1] (.lst (gL q.g))
    | _ => .no
  | 10 => match args with
    | [.ptr b _ _, _] => .call [b] [] [tapeB q.L q.m2] (.lst (boL q.s))
    | _ => .no
  | 11 => nextG q.L args hp (match dst with | 34 => iN q.v | _ => iN q.goal)
  | 19 => .call [] [] [] (.bool true)
  | _ => .no
def e6 (q : QL) : List (Nat × AV) := [(106, .bool q.b), (116, .bool q.b), (120, .int .i64 q.x), (129, .int .i64 q.y), (138, .int .i64 q.z), (149, .int .i64 q.x), (161, .int .i64 (iN q.w)), (167, .int .i64 (iN q.w)), (177, .int .i64 (iN q.w)), (179, .bool q.sb), (192, .int .i64 (iN q.w)), (194, .int .i64 q.y), (199, .int .i64 q.y), (206, .int .i64 (iN q.w)), (208, lI q.r), (213, .int .i64 q.y)]
end Go.Proofs.Ytcdgphdieemjcaa

/-! Contracts. -/
open Go Go.AX Go.Proofs
set_option maxRecDepth 100000
set_option maxHeartbeats 1000000
set_option linter.unusedVariables false
set_option linter.unusedSimpArgs false
namespace Go.Proofs.Ytcdgphdieemjcaa
theorem hop_mem {g : List (List Int)} {s : List Bool} (hg : OkG g s) {goal : Nat} {d : List Int} (hD : Dst g s goal d) {u : Nat} (hu : u < g.length) (h0 : 0 < d.getD u 0) (hgd : s.getD goal false = false) : hopZ g d u ∈ g.getD u [] := by
  have h := (hop_ok hg hD hu h0 hgd).1
  unfold hopZ at h ⊢
  cases hf : fnd (hopP g d u) 0 (g.getD u []).length with
  | none => rw [hf] at h; exact absurd h (show ¬ (0 : Int) ≤ -1 by decide)
  | some i =>
    obtain ⟨_, _, b⟩ := fnd_some hf
    show (g.getD u []).getD i 0 ∈ g.getD u []
    rw [List.getD_eq_getElem?_getD (l := g.getD u []), List.getElem?_eq_getElem (by omega)]
    exact List.getElem_mem (by omega)

noncomputable def pthZ (g : List (List Int)) (d : List Int) (v : Nat) : List Int := if d.getD v 0 < 0 then [] else wkL g d v (d.getD v 0).toNat
end Go.Proofs.Ytcdgphdieemjcaa


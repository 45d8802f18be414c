/- Parts of the proof: Rt9p, RtU, RtV, Rt10p, RtW. -/
import Derived.Test.YtnpmcikbnnlmkaaProg
import Derived.KernelRfl
import Derived.Test.YtnpmcikbnnlmkaaRoutesFindsM5
/-! The paths of a function, by evaluation. -/
open Go Go.AX Go.Proofs
set_option maxRecDepth 100000
set_option maxHeartbeats 4000000
set_option linter.unusedVariables false
namespace Go.Proofs.Ytnpmcikbnnlmkaa
noncomputable def st17g (q : QK) : St := { n := Try.f17.ntmps, fr := [(0, .lst (gL q.g)), (1, .lst (boL q.s)), (2, .int .i64 q.x), (3, .int .i64 q.y)], hp := [] }
theorem pgen_0 (q : QK) (h1 : (CT Try.prog 27 [] [AV.lst (gL q.g), AV.lst (boL q.s), AV.int IntKind.i64 q.x, AV.int IntKind.i64 q.y] [] (AV.int IntKind.i64 q.e))) (h2 : ((q.e != 0) = true)) : ∃ o' st' q', go Try.prog ({ dec := [(19, true)], els := e17 q, calls := cK q, unroll := false } : HT) 0 4000 (.inl (bodyOf Try.f17)) [] (st17g q) = some (o', st', q') ∧ q' ∧ Go.AX.Rest Try.prog 0 (Fin Try.prog Try.f17 0 [] (AV.tup [AV.nils, AV.int IntKind.i64 q.e])) st' o' :=
  endF_spec (σ := []) (fz := []) (show endF Try.prog Try.f17 0 [] [] (go Try.prog ({ dec := [(19, true)], els := e17 q, calls := cK q, unroll := false } : HT) 0 4000 (.inl (bodyOf Try.f17)) [] (st17g q)) = some ([], AV.tup [AV.nils, AV.int IntKind.i64 q.e], (((True ∧ (True ∧ True)) ∧ (((True ∧ True) ∧ ((True ∧ True) ∧ ((True ∧ True) ∧ ((True ∧ True) ∧ ((True ∧ (True ∧ (True ∧ (True ∧ (True ∧ (True ∧ (True ∧ (True ∧ ((type_of% h1) ∧ True))))))))) ∧ ((True ∧ True) ∧ True)))))) ∧ (((True ∧ True) ∧ ((True ∧ True) ∧ True)) ∧ ((type_of% h2) ∧ (((True ∧ True) ∧ (True ∧ ((True ∧ True) ∧ True))) ∧ True))))) ∧ ((True ∧ (True ∧ True)) ∧ True))) by kernel_rfl) ⟨⟨⟨trivial, ⟨trivial, trivial⟩⟩, ⟨⟨⟨trivial, trivial⟩, ⟨⟨trivial, trivial⟩, ⟨⟨trivial, trivial⟩, ⟨⟨trivial, trivial⟩, ⟨⟨trivial, ⟨trivial, ⟨trivial, ⟨trivial, ⟨trivial, ⟨trivial, ⟨trivial, ⟨trivial, ⟨h1, trivial⟩⟩⟩⟩⟩⟩⟩⟩⟩, ⟨⟨trivial, trivial⟩, trivial⟩⟩⟩⟩⟩⟩, ⟨⟨⟨trivial, trivial⟩, ⟨⟨trivial, trivial⟩, trivial⟩⟩, ⟨h2, ⟨⟨⟨trivial, trivial⟩, ⟨trivial, ⟨⟨trivial, trivial⟩, trivial⟩⟩⟩, trivial⟩⟩⟩⟩⟩, ⟨⟨trivial, ⟨trivial, trivial⟩⟩, trivial⟩⟩
theorem rtr_0 (q : QK) (h1 : (decide (iN q.i < iN (gL q.g).length) = true)) (h2 : (CT Try.prog 32 [] [AV.lst (gL q.g), AV.lst (boL q.s), AV.int IntKind.i64 (iN q.i)] [] (AV.lst (List.map (AV.int IntKind.i64) q.p)))) (h3 : ((gL q.q).length = q.i)) (h4 : (1 ≤ [AV.lst (List.map (AV.int IntKind.i64) q.p)].length)) (h5 : ((gL q.q).length + [AV.lst (List.map (AV.int IntKind.i64) q.p)].length ≤ 9223372036854775807)) (h6 : (((gL q.q).length + [AV.lst (List.map (AV.int IntKind.i64) q.p)].length) * 24 ≤ 140737488355328)) {post : Exit → St → Prop} {R : St → Prop} (hR : ∀ st, Ren 0 st (St.mk 29 [(0, AV.lst (gL q.g)), (1, AV.lst (boL q.s)), (7, AV.sl 0 0 ((gL q.q).length + [AV.lst (List.map (AV.int IntKind.i64) q.p)].length)), (8, AV.int IntKind.i64 (IntKind.i64.wrap (iN q.i + 1)))] [some (Blk.mk (gL q.q ++ [AV.lst (List.map (AV.int IntKind.i64) q.p)]) 1 true true)]) → R st) : ∃ o' st' q', go Try.prog ({ dec := [(18, true)], els := eK q, calls := cW q, unroll := false } : HT) 0 4000 (.inl (loopC (bodyOf Try.f20) 0)) [] (lo20 q) = some (o', st', q') ∧ q' ∧ Go.AX.Rest Try.prog 0 (andThen R post) st' o' :=
  endN_spec (σ := [2]) (fz := []) (vars := [0,1,7,8]) (show endN 0 [2] [] [0,1,7,8] (go Try.prog ({ dec := [(18, true)], els := eK q, calls := cW q, unroll := false } : HT) 0 4000 (.inl (loopC (bodyOf Try.f20) 0)) [] (lo20 q)) = some (St.mk 29 [(0, AV.lst (gL q.g)), (1, AV.lst (boL q.s)), (7, AV.sl 0 0 ((gL q.q).length + [AV.lst (List.map (AV.int IntKind.i64) q.p)].length)), (8, AV.int IntKind.i64 (IntKind.i64.wrap (iN q.i + 1)))] [some (Blk.mk (gL q.q ++ [AV.lst (List.map (AV.int IntKind.i64) q.p)]) 1 true true)], ((((True ∧ True) ∧ ((True ∧ True) ∧ ((True ∧ True) ∧ ((True ∧ (True ∧ True)) ∧ True)))) ∧ ((type_of% h1) ∧ (((True ∧ True) ∧ ((True ∧ True) ∧ ((True ∧ True) ∧ ((True ∧ True) ∧ ((True ∧ (True ∧ (True ∧ (True ∧ (True ∧ (True ∧ ((type_of% h2) ∧ True))))))) ∧ ((True ∧ True) ∧ ((True ∧ (True ∧ ((type_of% h3) ∧ (((nat_lit 1 = nat_lit 1) ∧ (type_of% h4)) ∧ ((type_of% h5) ∧ (type_of% h6)))))) ∧ ((True ∧ True) ∧ True)))))))) ∧ (((True ∧ True) ∧ ((True ∧ True) ∧ ((True ∧ True) ∧ True))) ∧ True)))) ∧ (True ∧ (True ∧ (True ∧ (True ∧ (True ∧ True))))))) by kernel_rfl) ⟨⟨⟨⟨trivial, trivial⟩, ⟨⟨trivial, trivial⟩, ⟨⟨trivial, trivial⟩, ⟨⟨trivial, ⟨trivial, trivial⟩⟩, trivial⟩⟩⟩⟩, ⟨h1, ⟨⟨⟨trivial, trivial⟩, ⟨⟨trivial, trivial⟩, ⟨⟨trivial, trivial⟩, ⟨⟨trivial, trivial⟩, ⟨⟨trivial, ⟨trivial, ⟨trivial, ⟨trivial, ⟨trivial, ⟨trivial, ⟨h2, trivial⟩⟩⟩⟩⟩⟩⟩, ⟨⟨trivial, trivial⟩, ⟨⟨trivial, ⟨trivial, ⟨h3, ⟨⟨(by first | decide | exact Int.NonNeg.mk _), h4⟩, ⟨h5, h6⟩⟩⟩⟩⟩, ⟨⟨trivial, trivial⟩, trivial⟩⟩⟩⟩⟩⟩⟩⟩, ⟨⟨⟨trivial, trivial⟩, ⟨⟨trivial, trivial⟩, ⟨⟨trivial, trivial⟩, trivial⟩⟩⟩, trivial⟩⟩⟩⟩, ⟨trivial, ⟨trivial, ⟨trivial, ⟨trivial, ⟨trivial, trivial⟩⟩⟩⟩⟩⟩ hR
theorem rt0_0 (q : QK) (h1 : (decide (0 < iN (gL q.g).length) = true)) (h2 : (CT Try.prog 32 [] [AV.lst (gL q.g), AV.lst (boL q.s), AV.int IntKind.i64 0] [] (AV.lst (List.map (AV.int IntKind.i64) q.p)))) (h3 : (1 ≤ [AV.lst (List.map (AV.int IntKind.i64) q.p)].length)) (h4 : ([AV.lst (List.map (AV.int IntKind.i64) q.p)].length ≤ 9223372036854775807)) (h5 : ([AV.lst (List.map (AV.int IntKind.i64) q.p)].length * 24 ≤ 140737488355328)) {post : Exit → St → Prop} {R : St → Prop} (hR : ∀ st, Ren 0 st (St.mk 29 [(0, AV.lst (gL q.g)), (1, AV.lst (boL q.s)), (7, AV.sl 0 0 [AV.lst (List.map (AV.int IntKind.i64) q.p)].length), (8, AV.int IntKind.i64 1)] [some (Blk.mk [AV.lst (List.map (AV.int IntKind.i64) q.p)] 1 true true)]) → R st) : ∃ o' st' q', go Try.prog ({ dec := [(18, true)], els := eK q, calls := cW q, unroll := false } : HT) 0 4000 (.inl (loopC (bodyOf Try.f20) 0)) [] (lo20z q) = some (o', st', q') ∧ q' ∧ Go.AX.Rest Try.prog 0 (andThen R post) st' o' :=
  endN_spec (σ := [1]) (fz := []) (vars := [0,1,7,8]) (show endN 0 [1] [] [0,1,7,8] (go Try.prog ({ dec := [(18, true)], els := eK q, calls := cW q, unroll := false } : HT) 0 4000 (.inl (loopC (bodyOf Try.f20) 0)) [] (lo20z q)) = some (St.mk 29 [(0, AV.lst (gL q.g)), (1, AV.lst (boL q.s)), (7, AV.sl 0 0 [AV.lst (List.map (AV.int IntKind.i64) q.p)].length), (8, AV.int IntKind.i64 1)] [some (Blk.mk [AV.lst (List.map (AV.int IntKind.i64) q.p)] 1 true true)], ((((True ∧ True) ∧ ((True ∧ True) ∧ ((True ∧ True) ∧ ((True ∧ (True ∧ True)) ∧ True)))) ∧ ((type_of% h1) ∧ (((True ∧ True) ∧ ((True ∧ True) ∧ ((True ∧ True) ∧ ((True ∧ True) ∧ ((True ∧ (True ∧ (True ∧ (True ∧ (True ∧ (True ∧ ((type_of% h2) ∧ True))))))) ∧ ((True ∧ True) ∧ ((True ∧ (True ∧ (((nat_lit 1 = nat_lit 1) ∧ (type_of% h3)) ∧ ((type_of% h4) ∧ (type_of% h5))))) ∧ ((True ∧ True) ∧ True)))))))) ∧ (((True ∧ True) ∧ ((True ∧ True) ∧ ((True ∧ True) ∧ True))) ∧ True)))) ∧ (True ∧ (True ∧ (True ∧ (True ∧ (True ∧ True))))))) by kernel_rfl) ⟨⟨⟨⟨trivial, trivial⟩, ⟨⟨trivial, trivial⟩, ⟨⟨trivial, trivial⟩, ⟨⟨trivial, ⟨trivial, trivial⟩⟩, trivial⟩⟩⟩⟩, ⟨h1, ⟨⟨⟨trivial, trivial⟩, ⟨⟨trivial, trivial⟩, ⟨⟨trivial, trivial⟩, ⟨⟨trivial, trivial⟩, ⟨⟨trivial, ⟨trivial, ⟨trivial, ⟨trivial, ⟨trivial, ⟨trivial, ⟨h2, trivial⟩⟩⟩⟩⟩⟩⟩, ⟨⟨trivial, trivial⟩, ⟨⟨trivial, ⟨trivial, ⟨⟨(by first | decide | exact Int.NonNeg.mk _), h3⟩, ⟨h4, h5⟩⟩⟩⟩, ⟨⟨trivial, trivial⟩, trivial⟩⟩⟩⟩⟩⟩⟩⟩, ⟨⟨⟨trivial, trivial⟩, ⟨⟨trivial, trivial⟩, ⟨⟨trivial, trivial⟩, trivial⟩⟩⟩, trivial⟩⟩⟩⟩, ⟨trivial, ⟨trivial, ⟨trivial, ⟨trivial, ⟨trivial, trivial⟩⟩⟩⟩⟩⟩ hR
theorem rtx_0 (q : QK) (h1 : (decide (iN q.i < iN (gL q.g).length) = false)) (h2 : (q.i = (gL q.q).length)) : ∃ o' st' q', go2 Try.prog ({ dec := [(18, false)], els := eK q, calls := cW q, unroll := false } : HT) 0 4000 (loopC (bodyOf Try.f20) 0) (loopK (bodyOf Try.f20) 0) (lo20 q) = some (o', st', q') ∧ q' ∧ Go.AX.Rest Try.prog 0 (Fin Try.prog Try.f20 0 [] (AV.tup [AV.lst (gL q.q), AV.int IntKind.i64 0])) st' o' :=
  endF_spec (σ := []) (fz := [0]) (show endF Try.prog Try.f20 0 [] [0] (go2 Try.prog ({ dec := [(18, false)], els := eK q, calls := cW q, unroll := false } : HT) 0 4000 (loopC (bodyOf Try.f20) 0) (loopK (bodyOf Try.f20) 0) (lo20 q)) = some ([], AV.tup [AV.lst (gL q.q), AV.int IntKind.i64 0], (((((True ∧ True) ∧ ((True ∧ True) ∧ ((True ∧ True) ∧ ((True ∧ (True ∧ True)) ∧ True)))) ∧ ((type_of% h1) ∧ True)) ∧ (((True ∧ True) ∧ ((True ∧ True) ∧ (True ∧ True))) ∧ True)) ∧ (((type_of% h2) ∧ (True ∧ True)) ∧ True))) by kernel_rfl) ⟨⟨⟨⟨⟨trivial, trivial⟩, ⟨⟨trivial, trivial⟩, ⟨⟨trivial, trivial⟩, ⟨⟨trivial, ⟨trivial, trivial⟩⟩, trivial⟩⟩⟩⟩, ⟨h1, trivial⟩⟩, ⟨⟨⟨trivial, trivial⟩, ⟨⟨trivial, trivial⟩, ⟨trivial, trivial⟩⟩⟩, trivial⟩⟩, ⟨⟨h2, ⟨trivial, trivial⟩⟩, trivial⟩⟩
theorem rtz_0 (q : QK) (h1 : (decide (0 < iN (gL q.g).length) = false)) : ∃ o' st' q', go2 Try.prog ({ dec := [(18, false)], els := eK q, calls := cW q, unroll := false } : HT) 0 4000 (loopC (bodyOf Try.f20) 0) (loopK (bodyOf Try.f20) 0) (lo20z q) = some (o', st', q') ∧ q' ∧ Go.AX.Rest Try.prog 0 (Fin Try.prog Try.f20 0 [] (AV.tup [AV.nils, AV.int IntKind.i64 0])) st' o' :=
  endF_spec (σ := []) (fz := [0]) (show endF Try.prog Try.f20 0 [] [0] (go2 Try.prog ({ dec := [(18, false)], els := eK q, calls := cW q, unroll := false } : HT) 0 4000 (loopC (bodyOf Try.f20) 0) (loopK (bodyOf Try.f20) 0) (lo20z q)) = some ([], AV.tup [AV.nils, AV.int IntKind.i64 0], (((((True ∧ True) ∧ ((True ∧ True) ∧ ((True ∧ True) ∧ ((True ∧ (True ∧ True)) ∧ True)))) ∧ ((type_of% h1) ∧ True)) ∧ (((True ∧ True) ∧ ((True ∧ True) ∧ (True ∧ True))) ∧ True)) ∧ ((True ∧ (True ∧ True)) ∧ True))) by kernel_rfl) ⟨⟨⟨⟨⟨trivial, trivial⟩, ⟨⟨trivial, trivial⟩, ⟨⟨trivial, trivial⟩, ⟨⟨trivial, ⟨trivial, trivial⟩⟩, trivial⟩⟩⟩⟩, ⟨h1, trivial⟩⟩, ⟨⟨⟨trivial, trivial⟩, ⟨⟨trivial, trivial⟩, ⟨trivial, trivial⟩⟩⟩, trivial⟩⟩, ⟨⟨trivial, ⟨trivial, trivial⟩⟩, trivial⟩⟩
end Go.Proofs.Ytnpmcikbnnlmkaa

/-! The functions of any graph. -/
open Go Go.AX Go.Proofs
set_option maxRecDepth 100000
set_option maxHeartbeats 1000000
set_option linter.unusedVariables false
set_option linter.unusedSimpArgs false
namespace Go.Proofs.Ytnpmcikbnnlmkaa
theorem chk_ok {g : List (List Int)} {s : List Bool} (hrw : Rows g) {v w : Int} (h : chkZ g s v w = 0) : OkG g s ∧ Asc g ∧ (0 ≤ v ∧ v < (g.length : Int)) ∧ (0 ≤ w ∧ w < (g.length : Int)) := by
  unfold chkZ at h
  by_cases h1 : 24 < g.length
  · rw [if_pos h1] at h; cases h
  rw [if_neg h1] at h
  by_cases h2 : badG g = true
  · rw [if_pos h2] at h; cases h
  rw [if_neg h2] at h
  by_cases h3 : s.length ≠ g.length ∨ v < 0 ∨ (g.length : Int) ≤ v ∨ w < 0 ∨ (g.length : Int) ≤ w
  · rw [if_pos h3] at h; cases h
  have hs : s.length = g.length := Decidable.byContradiction fun e => h3 (.inl e)
  have hv0 : ¬ v < 0 := fun e => h3 (.inr (.inl e))
  have hv1 : ¬ (g.length : Int) ≤ v := fun e => h3 (.inr (.inr (.inl e)))
  have hw0 : ¬ w < 0 := fun e => h3 (.inr (.inr (.inr (.inl e))))
  have hw1 : ¬ (g.length : Int) ≤ w := fun e => h3 (.inr (.inr (.inr (.inr e))))
  have hb : ∀ a, a < g.length → ∀ i, i < (g.getD a []).length → badE (g.getD a []) g.length a i = false := by
    intro a ha i hi
    have e1 : fnd (badR g) 0 g.length = none := by unfold badG at h2; simpa using h2
    have e2 := fnd_none e1 a (Nat.zero_le _) (by omega)
    unfold badR at e2
    have e3 : fnd (badE (g.getD a []) g.length a) 0 (g.getD a []).length = none := by simpa using e2
    exact fnd_none e3 i (Nat.zero_le _) (by omega)
  refine ⟨⟨by omega, fun a ha => ⟨hrw a ha, fun x hx => ?_⟩, hs⟩, fun a ha i h0 hi => ?_, ⟨by omega, by omega⟩, ⟨by omega, by omega⟩⟩
  · obtain ⟨i, hi, rfl⟩ := List.mem_iff_getElem.1 hx
    have hbad := hb a ha i hi
    have e : (g.getD a []).getD i 0 = (g.getD a [])[i] := by rw [List.getD_eq_getElem?_getD (l := g.getD a []), List.getElem?_eq_getElem hi]; rfl
    unfold badE at hbad
    rw [e] at hbad
    simp only [Bool.or_eq_false_iff, decide_eq_false_iff_not, beq_eq_false_iff_ne, ne_eq] at hbad
    exact ⟨by omega, by omega, hbad.2.2.1⟩
  · have hbad := hb a ha i hi
    unfold badE at hbad
    rw [decide_eq_true h0, Bool.true_and] at hbad
    simp only [Bool.or_eq_false_iff, decide_eq_false_iff_not] at hbad
    omega

def prA (y : List Int × Int) : AV := .tup [lI y.1, .int .i64 y.2]
noncomputable def distO (g : List (List Int)) (s : List Bool) (v : Int) : List Int × Int := if chkZ g s v v = 0 then (distL g s v.toNat g.length, 0) else ([], chkZ g s v v)
noncomputable def hopsO (g : List (List Int)) (s : List Bool) (v : Int) : List Int × Int := if chkZ g s v v = 0 then (hopsZ g (distL g s v.toNat g.length), 0) else ([], chkZ g s v v)
noncomputable def pathO (g : List (List Int)) (s : List Bool) (v w : Int) : List Int × Int :=
  if chkZ g s v w = 0 then (if (distL g s w.toNat g.length).getD v.toNat 0 < 0 then ([], 0) else (wkL g (distL g s w.toNat g.length) v.toNat ((distL g s w.toNat g.length).getD v.toNat 0).toNat, 0)) else ([], chkZ g s v w)
noncomputable def tabO (g : List (List Int)) (s : List Bool) : List (List Int) × Int := if chk4 g s = 0 then (tabZ g s g.length, 0) else ([], chk4 g s)
def tabA (y : List (List Int) × Int) : AV := .tup [.lst (gL y.1), .int .i64 y.2]

theorem toN {v : Int} (h : 0 ≤ v) : ((v.toNat : Nat) : Int) = v := Int.toNat_of_nonneg h

theorem distG_ct {g : List (List Int)} {s : List Bool} (hrw : Rows g) (v : Int) : CT Try.prog 12 [] [.lst (gL g), .lst (boL s), .int .i64 v] [] (prA (distO g s v)) := by
  have hb : Try.f12.body = some (bodyOf Try.f12) := by kernel_rfl
  have hn : [AV.lst (gL g), .lst (boL s), .int .i64 v].length ≤ Try.f12.ntmps := Nat.le_of_ble_eq_true rfl
  have c := checkG_ct (s := s) hrw v v
  unfold distO
  by_cases h : chkZ g s v v = 0
  · obtain ⟨hg, _, ⟨h0, h1⟩, _⟩ := chk_ok hrw h
    have cd := distances_ct hg v.toNat (by omega)
    rw [toN h0] at cd
    rw [if_pos h]
    rw [h] at c
    exact CT.path mix Try.func12 hb hn (dst_1 ⟨g, s, distL g s v.toNat g.length, 0, 0, 0, 0, [], v, 0, false, 0, [], []⟩ c (by simp) cd)
  · rw [if_neg h]
    exact CT.pathW mix Try.func12 hb hn (dst_0 ⟨g, s, [], 0, 0, 0, 0, [], v, 0, false, chkZ g s v v, [], []⟩ c (by simpa using h)) rfl
theorem rdistG_ct {g : List (List Int)} {s : List Bool} (hrw : Rows g) (v : Int) : CT Try.prog 13 [] [.lst (gL g), .lst (boL s), .int .i64 v] [] (prA (distO g s v)) := by
  have hb : Try.f13.body = some (bodyOf Try.f13) := by kernel_rfl
  have hn : [AV.lst (gL g), .lst (boL s), .int .i64 v].length ≤ Try.f13.ntmps := Nat.le_of_ble_eq_true rfl
  have c := rcheck_ct (s := s) hrw v v
  unfold distO
  by_cases h : chkZ g s v v = 0
  · obtain ⟨hg, _, ⟨h0, h1⟩, _⟩ := chk_ok hrw h
    have cd := rdist_ct hg v.toNat (by omega)
    rw [toN h0, dist_eq hg (by omega)] at cd
    rw [if_pos h]
    rw [h] at c
    exact CT.path mix Try.func13 hb hn (rds_1 ⟨g, s, distL g s v.toNat g.length, 0, 0, 0, 0, [], v, 0, false, 0, [], []⟩ c (by simp) cd)
  · rw [if_neg h]
    exact CT.pathW mix Try.func13 hb hn (rds_0 ⟨g, s, [], 0, 0, 0, 0, [], v, 0, false, chkZ g s v v, [], []⟩ c (by simpa using h)) rfl
theorem hopsG_ct {g : List (List Int)} {s : List Bool} (hrw : Rows g) (v : Int) : CT Try.prog 14 [] [.lst (gL g), .lst (boL s), .int .i64 v] [] (prA (hopsO g s v)) := by
  have hb : Try.f14.body = some (bodyOf Try.f14) := by kernel_rfl
  have hn : [AV.lst (gL g), .lst (boL s), .int .i64 v].length ≤ Try.f14.ntmps := Nat.le_of_ble_eq_true rfl
  have c := checkG_ct (s := s) hrw v v
  unfold hopsO
  by_cases h : chkZ g s v v = 0
  · obtain ⟨hg, _, ⟨h0, h1⟩, _⟩ := chk_ok hrw h
    have cd := hops_ct hg v.toNat (by omega)
    rw [toN h0] at cd
    rw [if_pos h]
    rw [h] at c
    exact CT.path mix Try.func14 hb hn (hps_1 ⟨g, s, [], 0, 0, 0, 0, [], v, 0, false, 0, hopsZ g (distL g s v.toNat g.length), []⟩ c (by simp) cd)
  · rw [if_neg h]
    exact CT.pathW mix Try.func14 hb hn (hps_0 ⟨g, s, [], 0, 0, 0, 0, [], v, 0, false, chkZ g s v v, [], []⟩ c (by simpa using h)) rfl
theorem rhopsG_ct {g : List (List Int)} {s : List Bool} (hrw : Rows g) (v : Int) : CT Try.prog 15 [] [.lst (gL g), .lst (boL s), .int .i64 v] [] (prA (hopsO g s v)) := by
  have hb : Try.f15.body = some (bodyOf Try.f15) := by kernel_rfl
  have hn : [AV.lst (gL g), .lst (boL s), .int .i64 v].length ≤ Try.f15.ntmps := Nat.le_of_ble_eq_true rfl
  have c := rcheck_ct (s := s) hrw v v
  unfold hopsO
  by_cases h : chkZ g s v v = 0
  · obtain ⟨hg, _, ⟨h0, h1⟩, _⟩ := chk_ok hrw h
    have cd := rhops_ct hg v.toNat (by omega)
    rw [toN h0] at cd
    rw [if_pos h]
    rw [h] at c
    exact CT.path mix Try.func15 hb hn (rhs_1 ⟨g, s, [], 0, 0, 0, 0, [], v, 0, false, 0, hopsZ g (distL g s v.toNat g.length), []⟩ c (by simp) cd)
  · rw [if_neg h]
    exact CT.pathW mix Try.func15 hb hn (rhs_0 ⟨g, s, [], 0, 0, 0, 0, [], v, 0, false, chkZ g s v v, [], []⟩ c (by simpa using h)) rfl

theorem shutNeg {g : List (List Int)} {s : List Bool} {goal a : Nat} {d : List Int} (hD : Dst g s goal d) (ha : a < g.length) (h0 : 0 ≤ d.getD a 0) : s.getD goal false = false := by
  cases h : s.getD goal false with
  | false => rfl
  | true => have := hD.shut h a ha; omega

theorem pathG_ct {g : List (List Int)} {s : List Bool} (hrw : Rows g) (v w : Int) : CT Try.prog 17 [] [.lst (gL g), .lst (boL s), .int .i64 v, .int .i64 w] [] (prA (pathO g s v w)) := by
  have hb : Try.f17.body = some (bodyOf Try.f17) := by kernel_rfl
  have hn : [AV.lst (gL g), .lst (boL s), .int .i64 v, .int .i64 w].length ≤ Try.f17.ntmps := Nat.le_of_ble_eq_true rfl
  have c := checkG_ct (s := s) hrw v w
  unfold pathO
  by_cases h : chkZ g s v w = 0
  · obtain ⟨hg, ha, ⟨h0, h1⟩, ⟨h2, h3⟩⟩ := chk_ok hrw h
    rw [if_pos h]
    rw [h] at c
    obtain ⟨a, rfl⟩ : ∃ a : Nat, v = (a : Int) := ⟨v.toNat, (toN h0).symm⟩
    obtain ⟨goal, rfl⟩ : ∃ a : Nat, w = (a : Int) := ⟨w.toNat, (toN h2).symm⟩
    simp only [Int.toNat_natCast]
    have hal : a < g.length := by omega
    have hgo : goal < g.length := by omega
    have cd := distances_ct hg goal hgo
    have hD := dst_ok hg hgo
    have hbd := hD.bnd a hal
    have hgl := hg.len
    by_cases hneg : (distL g s goal g.length).getD a 0 < 0
    · rw [if_pos hneg]
      have hda := lI_get (l := distL g s goal g.length) (j := a) (by rw [hD.len]; exact hal)
      exact CT.pathW mix Try.func17 hb hn (pthn_0 ⟨g, s, distL g s goal g.length, a, goal, 0, 0, [], 0, (distL g s goal g.length).getD a 0, false, 0, [], []⟩ c (by simp) cd (by simp [iN]) hda (decide_eq_true hneg)) rfl
    · rw [if_neg hneg]
      obtain ⟨m, hm⟩ : ∃ m : Nat, (distL g s goal g.length).getD a 0 = (m : Int) := ⟨((distL g s goal g.length).getD a 0).toNat, (toN (by omega)).symm⟩
      have hok := wk_ok hg hgo hD hal hm (shutNeg hD hal (by omega))
      have k := path_ct hg ha a goal m hal hgo hm (by omega) fun k hk => ⟨(hok k (by omega)).1, (hok k (by omega)).2.1⟩
      rw [hm, Int.toNat_natCast]
      exact k
  · rw [if_neg h]
    by_cases hr : 0 ≤ v ∧ 0 ≤ w
    · obtain ⟨a, rfl⟩ : ∃ a : Nat, v = (a : Int) := ⟨v.toNat, (toN hr.1).symm⟩
      obtain ⟨b, rfl⟩ : ∃ a : Nat, w = (a : Int) := ⟨w.toNat, (toN hr.2).symm⟩
      exact CT.pathW mix Try.func17 hb hn (pthe_0 ⟨g, s, [], a, b, 0, 0, [], 0, 0, false, chkZ g s (a : Int) (b : Int), [], []⟩ c (by simpa using h)) rfl
    · exact CT.pathW mix Try.func17 hb hn (pgen_0 ⟨g, s, [], 0, 0, 0, 0, [], v, w, false, chkZ g s v w, [], []⟩ c (by simpa using h)) rfl

theorem first_ct {g : List (List Int)} {s : List Bool} (hg : OkG g s) (a goal : Nat) (hal : a < g.length) (hgo : goal < g.length) : CT Try.prog 34 [] [.lst (gL g), .lst (boL s), .int .i64 (a : Nat), .int .i64 (goal : Nat)] [] (lI (if (distL g s goal g.length).getD a 0 < 0 then [] else wkL g (distL g s goal g.length) a ((distL g s goal g.length).getD a 0).toNat)) := by
  have hb : Try.f34.body = some (bodyOf Try.f34) := by kernel_rfl
  have hn : [AV.lst (gL g), .lst (boL s), .int .i64 (a : Nat), .int .i64 (goal : Nat)].length ≤ Try.f34.ntmps := Nat.le_of_ble_eq_true rfl
  have hgl := hg.len
  have cd := rdist_ct hg goal hgo
  rw [dist_eq hg hgo] at cd
  have ch := rhops_ct hg goal hgo
  have hD := dst_ok hg hgo
  have hbd := hD.bnd a hal
  generalize distL g s goal g.length = d at cd ch hD hbd
  have hda := lI_get (l := d) (j := a) (by rw [hD.len]; exact hal)
  by_cases hneg : d.getD a 0 < 0
  · rw [if_pos hneg]
    exact CT.pathW mix Try.func34 hb hn (rfn_0 ⟨g, s, d, a, goal, 0, 0, [], d.getD a 0, 0, false, 0, [], []⟩ cd (by simp [iN]) hda (decide_eq_true hneg)) rfl
  · rw [if_neg hneg]
    obtain ⟨m, hm⟩ : ∃ m : Nat, d.getD a 0 = (m : Int) := ⟨(d.getD a 0).toNat, (toN (by omega)).symm⟩
    have hgd := shutNeg hD hal (by omega)
    have hok := wk_ok hg hgo hD hal hm hgd
    rw [hm, Int.toNat_natCast]
    refine CT.path mix Try.func34 hb hn (rf_0 ⟨g, s, d, a, goal, 0, 0, [], d.getD a 0, 0, false, 0, hopsZ g d, []⟩ cd (by simp [iN]) hda (decide_eq_false hneg) ch ?_)
    have key : T Try.prog 0 (.loop (loopC (bodyOf Try.f34) 0)) (lo34 ⟨g, s, d, (wkZ g d a 0).toNat, goal, 0, 0, wkL g d a 0, 0, 0, false, 0, hopsZ g d, []⟩) (TK Try.prog 0 (Fin Try.prog Try.f34 0 [] (lI (wkL g d a m))) (loopK (bodyOf Try.f34) 0)) := by
      refine T.loop (fun k : Nat => lo34 ⟨g, s, d, (wkZ g d a k).toNat, goal, 0, k, wkL g d a k, 0, 0, false, 0, hopsZ g d, []⟩) (fun k => k ≤ m) (fun k => m + 1 - k) 0 (Nat.zero_le _) ?_
      intro k hk
      obtain ⟨w1, w2, w3⟩ := hok k hk
      have hlen := wkL_len g d a k
      by_cases h : k < m
      · obtain ⟨x1, x2, x3⟩ := hok (k + 1) h
        have hne : (wkZ g d a k).toNat ≠ goal := by
          intro e; rw [e, hD.zero hgd] at w3; omega
        have hgt : (hopsZ g d).getD (wkZ g d a k).toNat 0 = wkZ g d a (k + 1) := by
          have hlt : (wkZ g d a k).toNat < g.length := by omega
          simp [hopsZ, List.getD_eq_getElem?_getD, List.getElem?_range hlt, wkZ]
        have hg2 := lI_get (l := hopsZ g d) (j := (wkZ g d a k).toNat) (by simp [hopsZ]; omega)
        rw [hgt, ← toN x1] at hg2
        refine T.path mix (rfe_0 ⟨g, s, d, (wkZ g d a k).toNat, goal, (wkZ g d a (k + 1)).toNat, k, wkL g d a k, 0, 0, false, 0, hopsZ g d, []⟩ (by simp [iN]; omega) (Int.natCast_nonneg _) hg2 (by simp [hlen]) (by simp) (by simp [hlen]; omega) (by simp [hlen]; omega) ?_)
        intro st hst
        refine ⟨k + 1, ?_, h, by omega⟩
        have e2 : ∀ y : AV, ((wkL g d a k).map (AV.int .i64)).length + [y].length = k + 1 + 1 := by intro y; simp [hlen]
        have e3 : (wkL g d a (k + 1)).map (AV.int .i64) = (wkL g d a k).map (AV.int .i64) ++ [.int .i64 (((wkZ g d a (k + 1)).toNat : Nat) : Int)] := by
          rw [wkL_succ, List.map_append, toN x1]; rfl
        simp only [e2] at hst
        show Ren 0 st (lo34 ⟨g, s, d, (wkZ g d a (k + 1)).toNat, goal, 0, k + 1, wkL g d a (k + 1), 0, 0, false, 0, hopsZ g d, []⟩)
        unfold lo34 dB
        simp only [e3]
        exact hst
      · obtain rfl : k = m := by omega
        have he : (wkZ g d a k).toNat = goal := zero_goal hD (by omega) (by rw [w3]; omega)
        exact T.out mix (rfex_0 ⟨g, s, d, (wkZ g d a k).toNat, goal, 0, k, wkL g d a k, 0, 0, false, 0, hopsZ g d, []⟩ (by simp [iN, he]) (by simp [hlen]))
    exact key

theorem rpathG_ct {g : List (List Int)} {s : List Bool} (hrw : Rows g) (v w : Int) : CT Try.prog 18 [] [.lst (gL g), .lst (boL s), .int .i64 v, .int .i64 w] [] (prA (pathO g s v w)) := by
  have hb : Try.f18.body = some (bodyOf Try.f18) := by kernel_rfl
  have hn : [AV.lst (gL g), .lst (boL s), .int .i64 v, .int .i64 w].length ≤ Try.f18.ntmps := Nat.le_of_ble_eq_true rfl
  have c := rcheck_ct (s := s) hrw v w
  unfold pathO
  by_cases h : chkZ g s v w = 0
  · obtain ⟨hg, ha, ⟨h0, h1⟩, ⟨h2, h3⟩⟩ := chk_ok hrw h
    rw [if_pos h]
    rw [h] at c
    have cf := first_ct hg v.toNat w.toNat (by omega) (by omega)
    rw [toN h0, toN h2] at cf
    by_cases hneg : (distL g s w.toNat g.length).getD v.toNat 0 < 0
    · rw [if_pos hneg] at cf ⊢
      exact CT.path mix Try.func18 hb hn (rp_1 ⟨g, s, [], 0, 0, 0, 0, [], v, w, false, 0, [], []⟩ c (by simp) cf)
    · rw [if_neg hneg] at cf ⊢
      exact CT.path mix Try.func18 hb hn (rp_1 ⟨g, s, [], 0, 0, 0, 0, [], v, w, false, 0, wkL g (distL g s w.toNat g.length) v.toNat ((distL g s w.toNat g.length).getD v.toNat 0).toNat, []⟩ c (by simp) cf)
  · rw [if_neg h]
    exact CT.pathW mix Try.func18 hb hn (rp_0 ⟨g, s, [], 0, 0, 0, 0, [], v, w, false, chkZ g s v w, [], []⟩ c (by simpa using h)) rfl
#print axioms rpathG_ct
end Go.Proofs.Ytnpmcikbnnlmkaa

/-! The table of any graph. -/
open Go Go.AX Go.Proofs
set_option maxRecDepth 100000
set_option maxHeartbeats 1000000
set_option linter.unusedVariables false
set_option linter.unusedSimpArgs false
namespace Go.Proofs.Ytnpmcikbnnlmkaa
theorem chk4_ok {g : List (List Int)} {s : List Bool} (hrw : Rows g) (h0 : 0 < g.length) (h : chk4 g s = 0) : OkG g s ∧ Asc g := by
  have e := chkZ_4 (g := g) (s := s) 0 0
  rw [if_neg (by simp [h]), if_neg (by omega)] at e
  obtain ⟨a, b, _⟩ := chk_ok hrw e
  exact ⟨a, b⟩
theorem chk4_0 {g : List (List Int)} {s : List Bool} (h0 : 0 < g.length) : chkZ g s 0 0 = chk4 g s := by
  have e := chkZ_4 (g := g) (s := s) 0 0
  by_cases h : chk4 g s = 0
  · rw [if_neg (by simp [h]), if_neg (by omega)] at e; rw [e, h]
  · rw [if_pos h] at e; exact e
theorem badG_nil : badG [] = false := rfl

theorem tableG_ct {g : List (List Int)} {s : List Bool} (hrw : Rows g) : CT Try.prog 19 [] [.lst (gL g), .lst (boL s)] [] (tabA (tabO g s)) := by
  have hb : Try.f19.body = some (bodyOf Try.f19) := by kernel_rfl
  have hn : [AV.lst (gL g), .lst (boL s)].length ≤ Try.f19.ntmps := Nat.le_of_ble_eq_true rfl
  have hl := gL_len g
  have hbl := boL_len s
  have c := checkG_ct (s := s) hrw 0 0
  by_cases h0 : g.length = 0
  · obtain rfl : g = [] := List.eq_nil_of_length_eq_zero h0
    by_cases h1 : s.length = 0
    · have e : tabO [] s = ([], 0) := by simp [tabO, chk4, badG_nil, h1, tabZ]
      rw [e]
      exact CT.pathW mix Try.func19 hb hn (tbe_0 ⟨[], s, [], 0, 0, 0, 0, [], 0, 0, false, 0, [], []⟩ rfl (by simp [iN, hbl, h1])) rfl
    · have e : chkZ ([] : List (List Int)) s 0 0 = 19 := by simp [chkZ, badG_nil]
      have e2 : tabO [] s = ([], 19) := by simp [tabO, chk4, badG_nil, h1]
      rw [e] at c
      rw [e2]
      exact CT.pathW mix Try.func19 hb hn (tbc_0 ⟨[], s, [], 0, 0, 0, 0, [], 0, 0, false, 19, [], []⟩ rfl (by simpa [iN, hbl] using h1) c (by simp)) rfl
  · have hp : 0 < g.length := by omega
    rw [chk4_0 hp] at c
    unfold tabO
    by_cases h : chk4 g s = 0
    · obtain ⟨hg, ha⟩ := chk4_ok hrw hp h
      rw [if_pos h]
      exact table_ct hg ha hp
    · rw [if_neg h]
      exact CT.pathW mix Try.func19 hb hn (tbc_1 ⟨g, s, [], 0, 0, 0, 0, [], 0, 0, false, chk4 g s, [], []⟩ (by simp [iN, hl]; intro e; subst e; simp at h0) c (by simpa using h)) rfl

noncomputable def lo20S (g : List (List Int)) (s : List Bool) : Nat → St
  | 0 => lo20z ⟨g, s, [], 0, 0, 0, 0, [], 0, 0, false, 0, [], []⟩
  | k + 1 => lo20 ⟨g, s, [], 0, 0, 0, k + 1, [], 0, 0, false, 0, [], tabZ g s (k + 1)⟩

theorem rtableG_ct {g : List (List Int)} {s : List Bool} (hrw : Rows g) : CT Try.prog 20 [] [.lst (gL g), .lst (boL s)] [] (tabA (tabO g s)) := by
  have hb : Try.f20.body = some (bodyOf Try.f20) := by kernel_rfl
  have hn : [AV.lst (gL g), .lst (boL s)].length ≤ Try.f20.ntmps := Nat.le_of_ble_eq_true rfl
  have hl := gL_len g
  have c := check4_ct (s := s) hrw
  unfold tabO
  by_cases h : chk4 g s = 0
  · rw [if_pos h]
    rw [h] at c
    by_cases h0 : g.length = 0
    · obtain rfl : g = [] := List.eq_nil_of_length_eq_zero h0
      refine CT.pathW (res := .tup [.nils, .int .i64 0]) mix Try.func20 hb hn (rt_0 ⟨[], s, [], 0, 0, 0, 0, [], 0, 0, false, 0, [], []⟩ c (by simp) ?_) (by simp [tabZ, tabA, wkV, wk1, gL])
      refine T.loop (fun k : Nat => lo20z ⟨[], s, [], 0, 0, 0, 0, [], 0, 0, false, 0, [], []⟩) (fun k => True) (fun k => 0) 0 trivial ?_
      intro k hk
      exact T.out mix (rtz_0 ⟨[], s, [], 0, 0, 0, 0, [], 0, 0, false, 0, [], []⟩ rfl)
    have hp : 0 < g.length := by omega
    obtain ⟨hg, ha⟩ := chk4_ok hrw hp h
    have hgl := hg.len
    refine CT.path mix Try.func20 hb hn (rt_0 ⟨g, s, [], 0, 0, 0, 0, [], 0, 0, false, 0, [], []⟩ c (by simp) ?_)
    refine T.loop (fun k : Nat => lo20S g s k) (fun k => k ≤ g.length) (fun k => g.length + 1 - k) 0 (Nat.zero_le _) ?_
    intro k hk
    cases k with
    | zero =>
      refine T.path mix (rt0_0 ⟨g, s, [], 0, 0, 0, 0, hopsZ g (distL g s 0 g.length), 0, 0, false, 0, hopsZ g (distL g s 0 g.length), []⟩ (decide_eq_true (by simp only [iN, hl]; omega)) (rhops_ct hg 0 hp) (by simp) (by simp) (by simp) ?_)
      intro st hst
      exact ⟨1, hst, by omega, by omega⟩
    | succ k =>
      have hlen := tabZ_len g s (k + 1)
      have hgt := gL_len (tabZ g s (k + 1))
      by_cases h : k + 1 < g.length
      · refine T.path mix (rtr_0 ⟨g, s, [], 0, 0, 0, k + 1, [], 0, 0, false, 0, hopsZ g (distL g s (k + 1) g.length), tabZ g s (k + 1)⟩ (decide_eq_true (by simp only [iN, hl]; omega)) (rhops_ct hg (k + 1) h) (by simp only [hgt, hlen]) (by simp) (by simp [hgt, hlen]; omega) (by simp [hgt, hlen]; omega) ?_)
        intro st hst
        refine ⟨k + 2, ?_, by omega, by omega⟩
        have e2 : ∀ y : AV, (gL (tabZ g s (k + 1))).length + [y].length = k + 1 + 1 := by intro y; simp [hgt, hlen]
        have e3 : gL (tabZ g s (k + 1 + 1)) = gL (tabZ g s (k + 1)) ++ [lI (hopsZ g (distL g s (k + 1) g.length))] := by
          rw [tabZ_succ]; simp [gL]
        simp only [iN, wrap_nat (k + 1) (show k + 1 < 9223372036854775807 by omega), e2] at hst
        show Ren 0 st (lo20 ⟨g, s, [], 0, 0, 0, k + 1 + 1, [], 0, 0, false, 0, [], tabZ g s (k + 1 + 1)⟩)
        unfold lo20
        simp only [e3]
        exact hst
      · have e : k + 1 = g.length := by omega
        rw [show tabZ g s g.length = tabZ g s (k + 1) by rw [e]]
        exact T.out mix (rtx_0 ⟨g, s, [], 0, 0, 0, k + 1, [], 0, 0, false, 0, [], tabZ g s (k + 1)⟩ (decide_eq_false (by simp only [iN, hl]; omega)) (by simp only [hgt, hlen]))
  · rw [if_neg h]
    exact CT.pathW mix Try.func20 hb hn (rte_0 ⟨g, s, [], 0, 0, 0, 0, [], 0, 0, false, chk4 g s, [], []⟩ c (by simpa using h)) rfl

theorem sameL_ct (g : List (List Int)) (hg : g.length ≤ 1000000) (hr : ∀ v, v < g.length → (g.getD v []).length ≤ 1000000) : CT Try.prog 21 [] [.lst (gL g), .lst (gL g)] [] (.bool true) := by
  have hl := gL_len g
  refine CT.path mix Try.func21 (show Try.f21.body = some (bodyOf Try.f21) by kernel_rfl) (Nat.le_of_ble_eq_true rfl) (sl_0 ⟨g, [], [], 0, 0, 0, 0, [], 0, 0, false, 0, [], []⟩ (by simp) ?_)
  refine T.loop (fun k : Nat => lo21 ⟨g, [], [], 0, 0, 0, k, [], 0, 0, false, 0, [], []⟩) (fun k => k ≤ g.length) (fun k => g.length + 1 - k) 0 (Nat.zero_le _) ?_
  intro k hk
  by_cases h : k < g.length
  · refine T.path mix (slr_0 ⟨g, [], [], 0, 0, 0, k, g.getD k [], 0, 0, false, 0, [], []⟩ (decide_eq_true (by simp only [iN, hl]; omega)) (by simp [iN]) (gL_get h) (sameInts_ct _ (hr k h)) ?_)
    intro st hst
    simp only [iN, wrap_nat k (show k < 9223372036854775807 by omega)] at hst
    exact ⟨k + 1, hst, h, by omega⟩
  · exact T.out mix (slx_0 ⟨g, [], [], 0, 0, 0, k, [], 0, 0, false, 0, [], []⟩ (decide_eq_false (by simp only [iN, hl]; omega)))
theorem tabO_len (g : List (List Int)) (s : List Bool) : (tabO g s).1.length ≤ 24 ∧ ∀ v, v < (tabO g s).1.length → ((tabO g s).1.getD v []).length ≤ 1000000 := by
  unfold tabO
  by_cases h : chk4 g s = 0
  · rw [if_pos h]
    have h24 : g.length ≤ 24 := by
      unfold chk4 at h
      by_cases h1 : 24 < g.length
      · rw [if_pos h1] at h; cases h
      · omega
    refine ⟨by rw [tabZ_len]; exact h24, fun v hv => ?_⟩
    rw [tabZ_len] at hv
    have e : (tabZ g s g.length).getD v [] = hopsZ g (distL g s v g.length) := by
      simp [tabZ, List.getD_eq_getElem?_getD, List.getElem?_range hv]
    show ((tabZ g s g.length).getD v []).length ≤ 1000000
    rw [e]
    simp only [hopsZ, List.length_map, List.length_range]; omega
  · rw [if_neg h]; exact ⟨by simp, fun v hv => by simp at hv⟩
#print axioms tableG_ct
#print axioms rtableG_ct
#print axioms sameL_ct
end Go.Proofs.Ytnpmcikbnnlmkaa

/-! RoutesFinds: the paths of the law. -/
open Go Go.AX Go.Proofs
set_option maxRecDepth 100000
set_option maxHeartbeats 4000000
set_option linter.unusedVariables false
namespace Go.Proofs.Ytnpmcikbnnlmkaa
structure QF where
  L : List Int
  g : List (List Int)
  s : List Bool
  n0 : Int
  n1 : Int
  d : List Int × Int
  h : List Int × Int
  p : List Int × Int
  t : List (List Int) × Int
  kk : Nat
  i : Nat
  g' : List (List Int)
  s' : List Bool
  k1 : Nat
  k2 : Nat
  v0 : Int
  v1 : Int
def nB (a b : Int) : Blk := { es := [.agg [.int .i64 a, .int .i64 b]], z := 2 }
noncomputable def st3 (q : QF) : St := { n := Try.f3.ntmps, fr := [(0, .lst (gL q.g)), (1, .lst (boL q.s)), (2, .agg [.int .i64 q.n0, .int .i64 q.n1]), (3, lI q.L)], hp := [] }
noncomputable def lo3 (q : QF) : St := { n := Try.f3.ntmps, fr := [(0, .lst (gL q.g)), (1, .lst (boL q.s)), (6, .ptr 0 0 0), (9, .ptr 1 0 0), (10, .int .i64 (iN q.i))], hp := [some (nB q.n0 q.n1), some (tapeB q.L q.kk)] }
noncomputable def lo3z (q : QF) : St := { n := Try.f3.ntmps, fr := [(0, .lst (gL q.g)), (1, .lst (boL q.s)), (6, .ptr 0 0 0), (9, .ptr 1 0 0), (10, .int .i64 0)], hp := [some (nB q.n0 q.n1), some (tapeB q.L q.kk)] }
noncomputable def lo3o (q : QF) : St := { n := Try.f3.ntmps, fr := [(0, .lst (gL q.g)), (1, .lst (boL q.s)), (6, .ptr 0 0 0), (9, .ptr 1 0 0), (10, .int .i64 1)], hp := [some (nB q.n0 q.n1), some (tapeB q.L q.kk)] }
noncomputable def cF (q : QF) : Nat → FuncId → List AV → List (Option Blk) → Hint := fun dst f args hp => match f with
  | 8 => .call [] [] [] (.bool true)
  | 9 => match args with
    | [.ptr b _ _, _] => .call [b] [] [tapeB q.L q.k1] (.lst (gL q.g'))
    | _ => .no
  | 10 => match args with
    | [.ptr b _ _, _] => .call [b] [] [tapeB q.L q.k2] (.lst (boL q.s'))
    | _ => .no
  | 11 => nextG q.L args hp (match dst with | 47 => q.v0 | _ => q.v1)
  | 12 => .call [] [] [] (prA q.d)
  | 13 => .call [] [] [] (prA q.d)
  | 14 => .call [] [] [] (prA q.h)
  | 15 => .call [] [] [] (prA q.h)
  | 17 => .call [] [] [] (prA q.p)
  | 18 => .call [] [] [] (prA q.p)
  | 19 => .call [] [] [] (tabA q.t)
  | 20 => .call [] [] [] (tabA q.t)
  | 16 => .call [] [] [] (.bool true)
  | 21 => .call [] [] [] (.bool true)
  | _ => .no
def eF (q : QF) : List (Nat × AV) := []
theorem fi_0 (q : QF) (h1 : (CT Try.prog (nat_lit 8) [] [] [] (AV.bool true))) {post : Exit → St → Prop} (ht : T Try.prog 0 (.loop (loopC (bodyOf Try.f3) 0)) (St.mk 157 [(0, AV.lst (gL q.g)), (1, AV.lst (boL q.s)), (6, AV.ptr 0 0 0), (9, AV.ptr 1 0 0), (10, AV.int IntKind.i64 0)] [some (Blk.mk [AV.agg [AV.int IntKind.i64 q.n0, AV.int IntKind.i64 q.n1]] [AV.int IntKind.i64 q.n0, AV.int IntKind.i64 q.n1].length true true), some (Blk.mk [AV.agg [AV.lst (List.map (AV.int IntKind.i64) q.L), AV.int IntKind.i64 0]] [AV.lst (List.map (AV.int IntKind.i64) q.L), AV.int IntKind.i64 0].length true true)]) (TK Try.prog 0 post (loopK (bodyOf Try.f3) 0))) : ∃ o' st' q', go Try.prog ({ dec := [], els := eF q, calls := cF q, unroll := false } : HT) 0 4000 (.inl (bodyOf Try.f3)) [] (st3 q) = some (o', st', q') ∧ q' ∧ Go.AX.Rest Try.prog 0 post st' o' :=
  endR_spec (σ := [0,1]) (fz := []) (vars := [0,1,6,9,10]) (show endR 0 [0,1] [] [0,1,6,9,10] (go Try.prog ({ dec := [], els := eF q, calls := cF q, unroll := false } : HT) 0 4000 (.inl (bodyOf Try.f3)) [] (st3 q)) = some (loopC (bodyOf Try.f3) 0, loopK (bodyOf Try.f3) 0, St.mk 157 [(0, AV.lst (gL q.g)), (1, AV.lst (boL q.s)), (6, AV.ptr 0 0 0), (9, AV.ptr 1 0 0), (10, AV.int IntKind.i64 0)] [some (Blk.mk [AV.agg [AV.int IntKind.i64 q.n0, AV.int IntKind.i64 q.n1]] [AV.int IntKind.i64 q.n0, AV.int IntKind.i64 q.n1].length true true), some (Blk.mk [AV.agg [AV.lst (List.map (AV.int IntKind.i64) q.L), AV.int IntKind.i64 0]] [AV.lst (List.map (AV.int IntKind.i64) q.L), AV.int IntKind.i64 0].length true true)], ((((True ∧ True) ∧ (True ∧ True)) ∧ ((((type_of% h1) ∧ True) ∧ ((True ∧ True) ∧ True)) ∧ (True ∧ (((True ∧ True) ∧ ((True ∧ True) ∧ ((True ∧ True) ∧ ((True ∧ True) ∧ True)))) ∧ ((True ∧ True) ∧ True))))) ∧ (True ∧ (True ∧ (True ∧ (True ∧ (True ∧ (True ∧ (True ∧ True))))))))) by kernel_rfl) ⟨⟨⟨⟨trivial, trivial⟩, ⟨trivial, trivial⟩⟩, ⟨⟨⟨h1, trivial⟩, ⟨⟨trivial, trivial⟩, trivial⟩⟩, ⟨trivial, ⟨⟨⟨trivial, trivial⟩, ⟨⟨trivial, trivial⟩, ⟨⟨trivial, trivial⟩, ⟨⟨trivial, trivial⟩, trivial⟩⟩⟩⟩, ⟨⟨trivial, trivial⟩, trivial⟩⟩⟩⟩⟩, ⟨trivial, ⟨trivial, ⟨trivial, ⟨trivial, ⟨trivial, ⟨trivial, ⟨trivial, trivial⟩⟩⟩⟩⟩⟩⟩⟩ ht
theorem fr_0 (q : QF) (h1 : (CT Try.prog 12 [] [AV.lst (gL q.g), AV.lst (boL q.s), AV.int IntKind.i64 q.n0] [] (AV.tup [AV.lst (List.map (AV.int IntKind.i64) q.d.fst), AV.int IntKind.i64 q.d.snd]))) (h2 : (CT Try.prog 13 [] [AV.lst (gL q.g), AV.lst (boL q.s), AV.int IntKind.i64 q.n0] [] (AV.tup [AV.lst (List.map (AV.int IntKind.i64) q.d.fst), AV.int IntKind.i64 q.d.snd]))) (h3 : (CT Try.prog 14 [] [AV.lst (gL q.g), AV.lst (boL q.s), AV.int IntKind.i64 q.n0] [] (AV.tup [AV.lst (List.map (AV.int IntKind.i64) q.h.fst), AV.int IntKind.i64 q.h.snd]))) (h4 : (CT Try.prog 15 [] [AV.lst (gL q.g), AV.lst (boL q.s), AV.int IntKind.i64 q.n0] [] (AV.tup [AV.lst (List.map (AV.int IntKind.i64) q.h.fst), AV.int IntKind.i64 q.h.snd]))) (h5 : ((q.d.snd != q.d.snd) = false)) (h6 : ((q.h.snd != q.h.snd) = false)) (h7 : (CT Try.prog 16 [] [AV.lst (List.map (AV.int IntKind.i64) q.d.fst), AV.lst (List.map (AV.int IntKind.i64) q.d.fst)] [] (AV.bool true))) (h8 : (CT Try.prog 16 [] [AV.lst (List.map (AV.int IntKind.i64) q.h.fst), AV.lst (List.map (AV.int IntKind.i64) q.h.fst)] [] (AV.bool true))) (h9 : (CT Try.prog 17 [] [AV.lst (gL q.g), AV.lst (boL q.s), AV.int IntKind.i64 q.n1, AV.int IntKind.i64 q.n0] [] (AV.tup [AV.lst (List.map (AV.int IntKind.i64) q.p.fst), AV.int IntKind.i64 q.p.snd]))) (h10 : (CT Try.prog 18 [] [AV.lst (gL q.g), AV.lst (boL q.s), AV.int IntKind.i64 q.n1, AV.int IntKind.i64 q.n0] [] (AV.tup [AV.lst (List.map (AV.int IntKind.i64) q.p.fst), AV.int IntKind.i64 q.p.snd]))) (h11 : (CT Try.prog 19 [] [AV.lst (gL q.g), AV.lst (boL q.s)] [] (AV.tup [AV.lst (gL q.t.fst), AV.int IntKind.i64 q.t.snd]))) (h12 : (CT Try.prog 20 [] [AV.lst (gL q.g), AV.lst (boL q.s)] [] (AV.tup [AV.lst (gL q.t.fst), AV.int IntKind.i64 q.t.snd]))) (h13 : ((q.p.snd != q.p.snd) = false)) (h14 : ((q.t.snd != q.t.snd) = false)) (h15 : (CT Try.prog 16 [] [AV.lst (List.map (AV.int IntKind.i64) q.p.fst), AV.lst (List.map (AV.int IntKind.i64) q.p.fst)] [] (AV.bool true))) (h16 : (CT Try.prog 21 [] [AV.lst (gL q.t.fst), AV.lst (gL q.t.fst)] [] (AV.bool true))) {post : Exit → St → Prop} {R : St → Prop} (hR : ∀ st, Ren 0 st (St.mk 157 [(0, AV.lst (gL q.g)), (1, AV.lst (boL q.s)), (6, AV.ptr 0 0 0), (9, AV.ptr 1 0 0), (10, AV.int IntKind.i64 1)] [some (Blk.mk [AV.agg [AV.int IntKind.i64 q.n0, AV.int IntKind.i64 q.n1]] 2 true true), some (Blk.mk [AV.agg [AV.lst (List.map (AV.int IntKind.i64) q.L), AV.int IntKind.i64 (iN q.kk)]] 2 true true)]) → R st) : ∃ o' st' q', go Try.prog ({ dec := [(87, false), (91, false), (139, false), (143, false)], els := eF q, calls := cF q, unroll := false } : HT) 0 4000 (.inl (loopC (bodyOf Try.f3) 0)) [] (lo3z q) = some (o', st', q') ∧ q' ∧ Go.AX.Rest Try.prog 0 (andThen R post) st' o' :=
  endN_spec (σ := [0,1]) (fz := []) (vars := [0,1,6,9,10]) (show endN 0 [0,1] [] [0,1,6,9,10] (go Try.prog ({ dec := [(87, false), (91, false), (139, false), (143, false)], els := eF q, calls := cF q, unroll := false } : HT) 0 4000 (.inl (loopC (bodyOf Try.f3) 0)) [] (lo3z q)) = some (St.mk 157 [(0, AV.lst (gL q.g)), (1, AV.lst (boL q.s)), (6, AV.ptr 0 0 0), (9, AV.ptr 1 0 0), (10, AV.int IntKind.i64 1)] [some (Blk.mk [AV.agg [AV.int IntKind.i64 q.n0, AV.int IntKind.i64 q.n1]] 2 true true), some (Blk.mk [AV.agg [AV.lst (List.map (AV.int IntKind.i64) q.L), AV.int IntKind.i64 (iN q.kk)]] 2 true true)], ((((True ∧ True) ∧ ((True ∧ True) ∧ True)) ∧ (True ∧ (((True ∧ True) ∧ ((True ∧ True) ∧ True)) ∧ (True ∧ (((True ∧ True) ∧ ((True ∧ True) ∧ ((True ∧ (((0 : Int) ≤ (0 : Int)) ∧ ((0 : Int) < (2 : Int)))) ∧ ((True ∧ True) ∧ ((True ∧ (True ∧ (True ∧ (True ∧ (True ∧ (True ∧ ((type_of% h1) ∧ True))))))) ∧ ((True ∧ True) ∧ ((True ∧ True) ∧ ((True ∧ True) ∧ ((True ∧ True) ∧ ((True ∧ True) ∧ True)))))))))) ∧ (((True ∧ True) ∧ ((True ∧ True) ∧ ((True ∧ (((0 : Int) ≤ (0 : Int)) ∧ ((0 : Int) < (2 : Int)))) ∧ ((True ∧ True) ∧ ((True ∧ (True ∧ (True ∧ (True ∧ (True ∧ (True ∧ ((type_of% h2) ∧ True))))))) ∧ ((True ∧ True) ∧ ((True ∧ True) ∧ ((True ∧ True) ∧ ((True ∧ True) ∧ ((True ∧ True) ∧ True)))))))))) ∧ (((True ∧ True) ∧ ((True ∧ True) ∧ ((True ∧ (((0 : Int) ≤ (0 : Int)) ∧ ((0 : Int) < (2 : Int)))) ∧ ((True ∧ True) ∧ ((True ∧ (True ∧ (True ∧ (True ∧ (True ∧ (True ∧ ((type_of% h3) ∧ True))))))) ∧ ((True ∧ True) ∧ ((True ∧ True) ∧ ((True ∧ True) ∧ ((True ∧ True) ∧ ((True ∧ True) ∧ True)))))))))) ∧ (((True ∧ True) ∧ ((True ∧ True) ∧ ((True ∧ (((0 : Int) ≤ (0 : Int)) ∧ ((0 : Int) < (2 : Int)))) ∧ ((True ∧ True) ∧ ((True ∧ (True ∧ (True ∧ (True ∧ (True ∧ (True ∧ ((type_of% h4) ∧ True))))))) ∧ ((True ∧ True) ∧ ((True ∧ True) ∧ ((True ∧ True) ∧ ((True ∧ True) ∧ ((True ∧ True) ∧ True)))))))))) ∧ (((True ∧ True) ∧ ((True ∧ True) ∧ ((True ∧ (True ∧ True)) ∧ (((type_of% h5) ∧ True) ∧ ((True ∧ (True ∧ True)) ∧ ((True ∧ (True ∧ True)) ∧ ((True ∧ (True ∧ (True ∧ True))) ∧ ((True ∧ ((type_of% h6) ∧ True)) ∧ ((True ∧ True) ∧ ((True ∧ (True ∧ True)) ∧ ((True ∧ (True ∧ True)) ∧ ((True ∧ (True ∧ (True ∧ (True ∧ (True ∧ ((type_of% h7) ∧ True)))))) ∧ ((True ∧ (True ∧ True)) ∧ ((True ∧ (True ∧ True)) ∧ ((True ∧ True) ∧ ((True ∧ (True ∧ True)) ∧ ((True ∧ (True ∧ True)) ∧ ((True ∧ (True ∧ (True ∧ (True ∧ (True ∧ ((type_of% h8) ∧ True)))))) ∧ ((True ∧ (True ∧ True)) ∧ ((True ∧ (True ∧ True)) ∧ True)))))))))))))))))))) ∧ (True ∧ (((True ∧ True) ∧ ((True ∧ True) ∧ ((True ∧ (((0 : Int) ≤ (1 : Int)) ∧ ((1 : Int) < (2 : Int)))) ∧ ((True ∧ True) ∧ ((True ∧ (((0 : Int) ≤ (0 : Int)) ∧ ((0 : Int) < (2 : Int)))) ∧ ((True ∧ True) ∧ ((True ∧ (True ∧ (True ∧ (True ∧ (True ∧ (True ∧ (True ∧ (True ∧ ((type_of% h9) ∧ True))))))))) ∧ ((True ∧ True) ∧ ((True ∧ True) ∧ ((True ∧ True) ∧ ((True ∧ True) ∧ ((True ∧ True) ∧ True)))))))))))) ∧ (((True ∧ True) ∧ ((True ∧ True) ∧ ((True ∧ (((0 : Int) ≤ (1 : Int)) ∧ ((1 : Int) < (2 : Int)))) ∧ ((True ∧ True) ∧ ((True ∧ (((0 : Int) ≤ (0 : Int)) ∧ ((0 : Int) < (2 : Int)))) ∧ ((True ∧ True) ∧ ((True ∧ (True ∧ (True ∧ (True ∧ (True ∧ (True ∧ (True ∧ (True ∧ ((type_of% h10) ∧ True))))))))) ∧ ((True ∧ True) ∧ ((True ∧ True) ∧ ((True ∧ True) ∧ ((True ∧ True) ∧ ((True ∧ True) ∧ True)))))))))))) ∧ (((True ∧ True) ∧ ((True ∧ True) ∧ ((True ∧ (True ∧ (True ∧ (True ∧ ((type_of% h11) ∧ True))))) ∧ ((True ∧ True) ∧ ((True ∧ True) ∧ ((True ∧ True) ∧ ((True ∧ True) ∧ ((True ∧ True) ∧ True)))))))) ∧ (((True ∧ True) ∧ ((True ∧ True) ∧ ((True ∧ (True ∧ (True ∧ (True ∧ ((type_of% h12) ∧ True))))) ∧ ((True ∧ True) ∧ ((True ∧ True) ∧ ((True ∧ True) ∧ ((True ∧ True) ∧ ((True ∧ True) ∧ True)))))))) ∧ (((True ∧ True) ∧ ((True ∧ True) ∧ ((True ∧ (True ∧ True)) ∧ (((type_of% h13) ∧ True) ∧ ((True ∧ (True ∧ True)) ∧ ((True ∧ (True ∧ True)) ∧ ((True ∧ (True ∧ (True ∧ True))) ∧ ((True ∧ ((type_of% h14) ∧ True)) ∧ ((True ∧ True) ∧ ((True ∧ (True ∧ True)) ∧ ((True ∧ (True ∧ True)) ∧ ((True ∧ (True ∧ (True ∧ (True ∧ (True ∧ ((type_of% h15) ∧ True)))))) ∧ ((True ∧ (True ∧ True)) ∧ ((True ∧ (True ∧ True)) ∧ ((True ∧ True) ∧ ((True ∧ (True ∧ True)) ∧ ((True ∧ (True ∧ True)) ∧ ((True ∧ (True ∧ (True ∧ (True ∧ (True ∧ ((type_of% h16) ∧ True)))))) ∧ ((True ∧ (True ∧ True)) ∧ ((True ∧ (True ∧ True)) ∧ True)))))))))))))))))))) ∧ (True ∧ (((True ∧ True) ∧ ((True ∧ True) ∧ ((True ∧ True) ∧ True))) ∧ True))))))))))))))))) ∧ (True ∧ (True ∧ (True ∧ (True ∧ (True ∧ (True ∧ (True ∧ True))))))))) by kernel_rfl) ⟨⟨⟨⟨trivial, trivial⟩, ⟨⟨trivial, trivial⟩, trivial⟩⟩, ⟨trivial, ⟨⟨⟨trivial, trivial⟩, ⟨⟨trivial, trivial⟩, trivial⟩⟩, ⟨trivial, ⟨⟨⟨trivial, trivial⟩, ⟨⟨trivial, trivial⟩, ⟨⟨trivial, ⟨(by first | exact Nat.le_of_ble_eq_true rfl | decide), (by first | exact Nat.le_of_ble_eq_true rfl | decide)⟩⟩, ⟨⟨trivial, trivial⟩, ⟨⟨trivial, ⟨trivial, ⟨trivial, ⟨trivial, ⟨trivial, ⟨trivial, ⟨h1, trivial⟩⟩⟩⟩⟩⟩⟩, ⟨⟨trivial, trivial⟩, ⟨⟨trivial, trivial⟩, ⟨⟨trivial, trivial⟩, ⟨⟨trivial, trivial⟩, ⟨⟨trivial, trivial⟩, trivial⟩⟩⟩⟩⟩⟩⟩⟩⟩⟩, ⟨⟨⟨trivial, trivial⟩, ⟨⟨trivial, trivial⟩, ⟨⟨trivial, ⟨(by first | exact Nat.le_of_ble_eq_true rfl | decide), (by first | exact Nat.le_of_ble_eq_true rfl | decide)⟩⟩, ⟨⟨trivial, trivial⟩, ⟨⟨trivial, ⟨trivial, ⟨trivial, ⟨trivial, ⟨trivial, ⟨trivial, ⟨h2, trivial⟩⟩⟩⟩⟩⟩⟩, ⟨⟨trivial, trivial⟩, ⟨⟨trivial, trivial⟩, ⟨⟨trivial, trivial⟩, ⟨⟨trivial, trivial⟩, ⟨⟨trivial, trivial⟩, trivial⟩⟩⟩⟩⟩⟩⟩⟩⟩⟩, ⟨⟨⟨trivial, trivial⟩, ⟨⟨trivial, trivial⟩, ⟨⟨trivial, ⟨(by first | exact Nat.le_of_ble_eq_true rfl | decide), (by first | exact Nat.le_of_ble_eq_true rfl | decide)⟩⟩, ⟨⟨trivial, trivial⟩, ⟨⟨trivial, ⟨trivial, ⟨trivial, ⟨trivial, ⟨trivial, ⟨trivial, ⟨h3, trivial⟩⟩⟩⟩⟩⟩⟩, ⟨⟨trivial, trivial⟩, ⟨⟨trivial, trivial⟩, ⟨⟨trivial, trivial⟩, ⟨⟨trivial, trivial⟩, ⟨⟨trivial, trivial⟩, trivial⟩⟩⟩⟩⟩⟩⟩⟩⟩⟩, ⟨⟨⟨trivial, trivial⟩, ⟨⟨trivial, trivial⟩, ⟨⟨trivial, ⟨(by first | exact Nat.le_of_ble_eq_true rfl | decide), (by first | exact Nat.le_of_ble_eq_true rfl | decide)⟩⟩, ⟨⟨trivial, trivial⟩, ⟨⟨trivial, ⟨trivial, ⟨trivial, ⟨trivial, ⟨trivial, ⟨trivial, ⟨h4, trivial⟩⟩⟩⟩⟩⟩⟩, ⟨⟨trivial, trivial⟩, ⟨⟨trivial, trivial⟩, ⟨⟨trivial, trivial⟩, ⟨⟨trivial, trivial⟩, ⟨⟨trivial, trivial⟩, trivial⟩⟩⟩⟩⟩⟩⟩⟩⟩⟩, ⟨⟨⟨trivial, trivial⟩, ⟨⟨trivial, trivial⟩, ⟨⟨trivial, ⟨trivial, trivial⟩⟩, ⟨⟨h5, trivial⟩, ⟨⟨trivial, ⟨trivial, trivial⟩⟩, ⟨⟨trivial, ⟨trivial, trivial⟩⟩, ⟨⟨trivial, ⟨trivial, ⟨trivial, trivial⟩⟩⟩, ⟨⟨trivial, ⟨h6, trivial⟩⟩, ⟨⟨trivial, trivial⟩, ⟨⟨trivial, ⟨trivial, trivial⟩⟩, ⟨⟨trivial, ⟨trivial, trivial⟩⟩, ⟨⟨trivial, ⟨trivial, ⟨trivial, ⟨trivial, ⟨trivial, ⟨h7, trivial⟩⟩⟩⟩⟩⟩, ⟨⟨trivial, ⟨trivial, trivial⟩⟩, ⟨⟨trivial, ⟨trivial, trivial⟩⟩, ⟨⟨trivial, trivial⟩, ⟨⟨trivial, ⟨trivial, trivial⟩⟩, ⟨⟨trivial, ⟨trivial, trivial⟩⟩, ⟨⟨trivial, ⟨trivial, ⟨trivial, ⟨trivial, ⟨trivial, ⟨h8, trivial⟩⟩⟩⟩⟩⟩, ⟨⟨trivial, ⟨trivial, trivial⟩⟩, ⟨⟨trivial, ⟨trivial, trivial⟩⟩, trivial⟩⟩⟩⟩⟩⟩⟩⟩⟩⟩⟩⟩⟩⟩⟩⟩⟩⟩⟩⟩, ⟨trivial, ⟨⟨⟨trivial, trivial⟩, ⟨⟨trivial, trivial⟩, ⟨⟨trivial, ⟨(by first | exact Nat.le_of_ble_eq_true rfl | decide), (by first | exact Nat.le_of_ble_eq_true rfl | decide)⟩⟩, ⟨⟨trivial, trivial⟩, ⟨⟨trivial, ⟨(by first | exact Nat.le_of_ble_eq_true rfl | decide), (by first | exact Nat.le_of_ble_eq_true rfl | decide)⟩⟩, ⟨⟨trivial, trivial⟩, ⟨⟨trivial, ⟨trivial, ⟨trivial, ⟨trivial, ⟨trivial, ⟨trivial, ⟨trivial, ⟨trivial, ⟨h9, trivial⟩⟩⟩⟩⟩⟩⟩⟩⟩, ⟨⟨trivial, trivial⟩, ⟨⟨trivial, trivial⟩, ⟨⟨trivial, trivial⟩, ⟨⟨trivial, trivial⟩, ⟨⟨trivial, trivial⟩, trivial⟩⟩⟩⟩⟩⟩⟩⟩⟩⟩⟩⟩, ⟨⟨⟨trivial, trivial⟩, ⟨⟨trivial, trivial⟩, ⟨⟨trivial, ⟨(by first | exact Nat.le_of_ble_eq_true rfl | decide), (by first | exact Nat.le_of_ble_eq_true rfl | decide)⟩⟩, ⟨⟨trivial, trivial⟩, ⟨⟨trivial, ⟨(by first | exact Nat.le_of_ble_eq_true rfl | decide), (by first | exact Nat.le_of_ble_eq_true rfl | decide)⟩⟩, ⟨⟨trivial, trivial⟩, ⟨⟨trivial, ⟨trivial, ⟨trivial, ⟨trivial, ⟨trivial, ⟨trivial, ⟨trivial, ⟨trivial, ⟨h10, trivial⟩⟩⟩⟩⟩⟩⟩⟩⟩, ⟨⟨trivial, trivial⟩, ⟨⟨trivial, trivial⟩, ⟨⟨trivial, trivial⟩, ⟨⟨trivial, trivial⟩, ⟨⟨trivial, trivial⟩, trivial⟩⟩⟩⟩⟩⟩⟩⟩⟩⟩⟩⟩, ⟨⟨⟨trivial, trivial⟩, ⟨⟨trivial, trivial⟩, ⟨⟨trivial, ⟨trivial, ⟨trivial, ⟨trivial, ⟨h11, trivial⟩⟩⟩⟩⟩, ⟨⟨trivial, trivial⟩, ⟨⟨trivial, trivial⟩, ⟨⟨trivial, trivial⟩, ⟨⟨trivial, trivial⟩, ⟨⟨trivial, trivial⟩, trivial⟩⟩⟩⟩⟩⟩⟩⟩, ⟨⟨⟨trivial, trivial⟩, ⟨⟨trivial, trivial⟩, ⟨⟨trivial, ⟨trivial, ⟨trivial, ⟨trivial, ⟨h12, trivial⟩⟩⟩⟩⟩, ⟨⟨trivial, trivial⟩, ⟨⟨trivial, trivial⟩, ⟨⟨trivial, trivial⟩, ⟨⟨trivial, trivial⟩, ⟨⟨trivial, trivial⟩, trivial⟩⟩⟩⟩⟩⟩⟩⟩, ⟨⟨⟨trivial, trivial⟩, ⟨⟨trivial, trivial⟩, ⟨⟨trivial, ⟨trivial, trivial⟩⟩, ⟨⟨h13, trivial⟩, ⟨⟨trivial, ⟨trivial, trivial⟩⟩, ⟨⟨trivial, ⟨trivial, trivial⟩⟩, ⟨⟨trivial, ⟨trivial, ⟨trivial, trivial⟩⟩⟩, ⟨⟨trivial, ⟨h14, trivial⟩⟩, ⟨⟨trivial, trivial⟩, ⟨⟨trivial, ⟨trivial, trivial⟩⟩, ⟨⟨trivial, ⟨trivial, trivial⟩⟩, ⟨⟨trivial, ⟨trivial, ⟨trivial, ⟨trivial, ⟨trivial, ⟨h15, trivial⟩⟩⟩⟩⟩⟩, ⟨⟨trivial, ⟨trivial, trivial⟩⟩, ⟨⟨trivial, ⟨trivial, trivial⟩⟩, ⟨⟨trivial, trivial⟩, ⟨⟨trivial, ⟨trivial, trivial⟩⟩, ⟨⟨trivial, ⟨trivial, trivial⟩⟩, ⟨⟨trivial, ⟨trivial, ⟨trivial, ⟨trivial, ⟨trivial, ⟨h16, trivial⟩⟩⟩⟩⟩⟩, ⟨⟨trivial, ⟨trivial, trivial⟩⟩, ⟨⟨trivial, ⟨trivial, trivial⟩⟩, trivial⟩⟩⟩⟩⟩⟩⟩⟩⟩⟩⟩⟩⟩⟩⟩⟩⟩⟩⟩⟩, ⟨trivial, ⟨⟨⟨trivial, trivial⟩, ⟨⟨trivial, trivial⟩, ⟨⟨trivial, trivial⟩, trivial⟩⟩⟩, trivial⟩⟩⟩⟩⟩⟩⟩⟩⟩⟩⟩⟩⟩⟩⟩⟩⟩, ⟨trivial, ⟨trivial, ⟨trivial, ⟨trivial, ⟨trivial, ⟨trivial, ⟨trivial, trivial⟩⟩⟩⟩⟩⟩⟩⟩ hR
theorem fs_0 (q : QF) (h1 : (CT Try.prog 9 [some (Blk.mk [AV.agg [AV.lst (List.map (AV.int IntKind.i64) q.L), AV.int IntKind.i64 (iN q.kk)]] 2 true true)] [AV.ptr 0 0 0, AV.int IntKind.i64 10] [some (Blk.mk [AV.agg [AV.lst (List.map (AV.int IntKind.i64) q.L), AV.int IntKind.i64 (iN q.k1)]] 2 true true)] (AV.lst (gL q.g')))) (h2 : (CT Try.prog 10 [some (Blk.mk [AV.agg [AV.lst (List.map (AV.int IntKind.i64) q.L), AV.int IntKind.i64 (iN q.k1)]] 2 true true)] [AV.ptr 0 0 0, AV.int IntKind.i64 (iN (gL q.g').length)] [some (Blk.mk [AV.agg [AV.lst (List.map (AV.int IntKind.i64) q.L), AV.int IntKind.i64 (iN q.k2)]] 2 true true)] (AV.lst (boL q.s')))) (h3 : (CT Try.prog 11 [some (Blk.mk [AV.agg [AV.lst (List.map (AV.int IntKind.i64) q.L), AV.int IntKind.i64 (iN q.k2)]] 2 true true)] [AV.ptr 0 0 0, AV.int IntKind.i64 (iN (gL q.g').length)] [some (Blk.mk [AV.agg [AV.lst (List.map (AV.int IntKind.i64) q.L), AV.int IntKind.i64 (iN (q.k2 + 1))]] 2 true true)] (AV.int IntKind.i64 q.v0))) (h4 : (CT Try.prog 11 [some (Blk.mk [AV.agg [AV.lst (List.map (AV.int IntKind.i64) q.L), AV.int IntKind.i64 (iN (q.k2 + 1))]] 2 true true)] [AV.ptr 0 0 0, AV.int IntKind.i64 (iN (gL q.g').length)] [some (Blk.mk [AV.agg [AV.lst (List.map (AV.int IntKind.i64) q.L), AV.int IntKind.i64 (iN (q.k2 + 1 + 1))]] 2 true true)] (AV.int IntKind.i64 q.v1))) (h5 : (CT Try.prog 12 [] [AV.lst (gL q.g'), AV.lst (boL q.s'), AV.int IntKind.i64 q.v0] [] (AV.tup [AV.lst (List.map (AV.int IntKind.i64) q.d.fst), AV.int IntKind.i64 q.d.snd]))) (h6 : (CT Try.prog 13 [] [AV.lst (gL q.g'), AV.lst (boL q.s'), AV.int IntKind.i64 q.v0] [] (AV.tup [AV.lst (List.map (AV.int IntKind.i64) q.d.fst), AV.int IntKind.i64 q.d.snd]))) (h7 : (CT Try.prog 14 [] [AV.lst (gL q.g'), AV.lst (boL q.s'), AV.int IntKind.i64 q.v0] [] (AV.tup [AV.lst (List.map (AV.int IntKind.i64) q.h.fst), AV.int IntKind.i64 q.h.snd]))) (h8 : (CT Try.prog 15 [] [AV.lst (gL q.g'), AV.lst (boL q.s'), AV.int IntKind.i64 q.v0] [] (AV.tup [AV.lst (List.map (AV.int IntKind.i64) q.h.fst), AV.int IntKind.i64 q.h.snd]))) (h9 : ((q.d.snd != q.d.snd) = false)) (h10 : ((q.h.snd != q.h.snd) = false)) (h11 : (CT Try.prog 16 [] [AV.lst (List.map (AV.int IntKind.i64) q.d.fst), AV.lst (List.map (AV.int IntKind.i64) q.d.fst)] [] (AV.bool true))) (h12 : (CT Try.prog 16 [] [AV.lst (List.map (AV.int IntKind.i64) q.h.fst), AV.lst (List.map (AV.int IntKind.i64) q.h.fst)] [] (AV.bool true))) (h13 : (CT Try.prog 17 [] [AV.lst (gL q.g'), AV.lst (boL q.s'), AV.int IntKind.i64 q.v1, AV.int IntKind.i64 q.v0] [] (AV.tup [AV.lst (List.map (AV.int IntKind.i64) q.p.fst), AV.int IntKind.i64 q.p.snd]))) (h14 : (CT Try.prog 18 [] [AV.lst (gL q.g'), AV.lst (boL q.s'), AV.int IntKind.i64 q.v1, AV.int IntKind.i64 q.v0] [] (AV.tup [AV.lst (List.map (AV.int IntKind.i64) q.p.fst), AV.int IntKind.i64 q.p.snd]))) (h15 : (CT Try.prog 19 [] [AV.lst (gL q.g'), AV.lst (boL q.s')] [] (AV.tup [AV.lst (gL q.t.fst), AV.int IntKind.i64 q.t.snd]))) (h16 : (CT Try.prog 20 [] [AV.lst (gL q.g'), AV.lst (boL q.s')] [] (AV.tup [AV.lst (gL q.t.fst), AV.int IntKind.i64 q.t.snd]))) (h17 : ((q.p.snd != q.p.snd) = false)) (h18 : ((q.t.snd != q.t.snd) = false)) (h19 : (CT Try.prog 16 [] [AV.lst (List.map (AV.int IntKind.i64) q.p.fst), AV.lst (List.map (AV.int IntKind.i64) q.p.fst)] [] (AV.bool true))) (h20 : (CT Try.prog 21 [] [AV.lst (gL q.t.fst), AV.lst (gL q.t.fst)] [] (AV.bool true))) {post : Exit → St → Prop} {R : St → Prop} (hR : ∀ st, Ren 0 st (St.mk 157 [(0, AV.lst (gL q.g')), (1, AV.lst (boL q.s')), (6, AV.ptr 0 0 0), (9, AV.ptr 1 0 0), (10, AV.int IntKind.i64 2)] [some (Blk.mk [AV.agg [AV.int IntKind.i64 q.v0, AV.int IntKind.i64 q.v1]] 2 true true), some (Blk.mk [AV.agg [AV.lst (List.map (AV.int IntKind.i64) q.L), AV.int IntKind.i64 (iN (q.k2 + 1 + 1))]] 2 true true)]) → R st) : ∃ o' st' q', go Try.prog ({ dec := [(87, false), (91, false), (139, false), (143, false)], els := eF q, calls := cF q, unroll := false } : HT) 0 4000 (.inl (loopC (bodyOf Try.f3) 0)) [] (lo3o q) = some (o', st', q') ∧ q' ∧ Go.AX.Rest Try.prog 0 (andThen R post) st' o' :=
  endN_spec (σ := [0,1]) (fz := []) (vars := [0,1,6,9,10]) (show endN 0 [0,1] [] [0,1,6,9,10] (go Try.prog ({ dec := [(87, false), (91, false), (139, false), (143, false)], els := eF q, calls := cF q, unroll := false } : HT) 0 4000 (.inl (loopC (bodyOf Try.f3) 0)) [] (lo3o q)) = some (St.mk 157 [(0, AV.lst (gL q.g')), (1, AV.lst (boL q.s')), (6, AV.ptr 0 0 0), (9, AV.ptr 1 0 0), (10, AV.int IntKind.i64 2)] [some (Blk.mk [AV.agg [AV.int IntKind.i64 q.v0, AV.int IntKind.i64 q.v1]] 2 true true), some (Blk.mk [AV.agg [AV.lst (List.map (AV.int IntKind.i64) q.L), AV.int IntKind.i64 (iN (q.k2 + 1 + 1))]] 2 true true)], ((((True ∧ True) ∧ ((True ∧ True) ∧ True)) ∧ (True ∧ (((True ∧ True) ∧ ((True ∧ True) ∧ True)) ∧ (True ∧ (((True ∧ True) ∧ ((True ∧ (True ∧ (True ∧ (True ∧ ((type_of% h1) ∧ True))))) ∧ ((True ∧ True) ∧ True))) ∧ (((True ∧ True) ∧ ((True ∧ True) ∧ ((True ∧ True) ∧ ((True ∧ (True ∧ (True ∧ (True ∧ (True ∧ ((type_of% h2) ∧ True)))))) ∧ ((True ∧ True) ∧ True))))) ∧ (((True ∧ True) ∧ ((True ∧ True) ∧ ((True ∧ True) ∧ ((True ∧ (True ∧ (True ∧ (True ∧ (True ∧ ((type_of% h3) ∧ True)))))) ∧ ((True ∧ True) ∧ ((True ∧ True) ∧ ((True ∧ True) ∧ ((True ∧ (True ∧ (True ∧ (True ∧ (True ∧ ((type_of% h4) ∧ True)))))) ∧ ((True ∧ (True ∧ True)) ∧ ((True ∧ (True ∧ (Nat.le 1 [AV.agg [AV.int IntKind.i64 q.n0, AV.int IntKind.i64 q.n1]].length))) ∧ True)))))))))) ∧ (((True ∧ True) ∧ ((True ∧ True) ∧ ((True ∧ (((0 : Int) ≤ (0 : Int)) ∧ ((0 : Int) < (2 : Int)))) ∧ ((True ∧ True) ∧ ((True ∧ (True ∧ (True ∧ (True ∧ (True ∧ (True ∧ ((type_of% h5) ∧ True))))))) ∧ ((True ∧ True) ∧ ((True ∧ True) ∧ ((True ∧ True) ∧ ((True ∧ True) ∧ ((True ∧ True) ∧ True)))))))))) ∧ (((True ∧ True) ∧ ((True ∧ True) ∧ ((True ∧ (((0 : Int) ≤ (0 : Int)) ∧ ((0 : Int) < (2 : Int)))) ∧ ((True ∧ True) ∧ ((True ∧ (True ∧ (True ∧ (True ∧ (True ∧ (True ∧ ((type_of% h6) ∧ True))))))) ∧ ((True ∧ True) ∧ ((True ∧ True) ∧ ((True ∧ True) ∧ ((True ∧ True) ∧ ((True ∧ True) ∧ True)))))))))) ∧ (((True ∧ True) ∧ ((True ∧ True) ∧ ((True ∧ (((0 : Int) ≤ (0 : Int)) ∧ ((0 : Int) < (2 : Int)))) ∧ ((True ∧ True) ∧ ((True ∧ (True ∧ (True ∧ (True ∧ (True ∧ (True ∧ ((type_of% h7) ∧ True))))))) ∧ ((True ∧ True) ∧ ((True ∧ True) ∧ ((True ∧ True) ∧ ((True ∧ True) ∧ ((True ∧ True) ∧ True)))))))))) ∧ (((True ∧ True) ∧ ((True ∧ True) ∧ ((True ∧ (((0 : Int) ≤ (0 : Int)) ∧ ((0 : Int) < (2 : Int)))) ∧ ((True ∧ True) ∧ ((True ∧ (True ∧ (True ∧ (True ∧ (True ∧ (True ∧ ((type_of% h8) ∧ True))))))) ∧ ((True ∧ True) ∧ ((True ∧ True) ∧ ((True ∧ True) ∧ ((True ∧ True) ∧ ((True ∧ True) ∧ True)))))))))) ∧ (((True ∧ True) ∧ ((True ∧ True) ∧ ((True ∧ (True ∧ True)) ∧ (((type_of% h9) ∧ True) ∧ ((True ∧ (True ∧ True)) ∧ ((True ∧ (True ∧ True)) ∧ ((True ∧ (True ∧ (True ∧ True))) ∧ ((True ∧ ((type_of% h10) ∧ True)) ∧ ((True ∧ True) ∧ ((True ∧ (True ∧ True)) ∧ ((True ∧ (True ∧ True)) ∧ ((True ∧ (True ∧ (True ∧ (True ∧ (True ∧ ((type_of% h11) ∧ True)))))) ∧ ((True ∧ (True ∧ True)) ∧ ((True ∧ (True ∧ True)) ∧ ((True ∧ True) ∧ ((True ∧ (True ∧ True)) ∧ ((True ∧ (True ∧ True)) ∧ ((True ∧ (True ∧ (True ∧ (True ∧ (True ∧ ((type_of% h12) ∧ True)))))) ∧ ((True ∧ (True ∧ True)) ∧ ((True ∧ (True ∧ True)) ∧ True)))))))))))))))))))) ∧ (True ∧ (((True ∧ True) ∧ ((True ∧ True) ∧ ((True ∧ (((0 : Int) ≤ (1 : Int)) ∧ ((1 : Int) < (2 : Int)))) ∧ ((True ∧ True) ∧ ((True ∧ (((0 : Int) ≤ (0 : Int)) ∧ ((0 : Int) < (2 : Int)))) ∧ ((True ∧ True) ∧ ((True ∧ (True ∧ (True ∧ (True ∧ (True ∧ (True ∧ (True ∧ (True ∧ ((type_of% h13) ∧ True))))))))) ∧ ((True ∧ True) ∧ ((True ∧ True) ∧ ((True ∧ True) ∧ ((True ∧ True) ∧ ((True ∧ True) ∧ True)))))))))))) ∧ (((True ∧ True) ∧ ((True ∧ True) ∧ ((True ∧ (((0 : Int) ≤ (1 : Int)) ∧ ((1 : Int) < (2 : Int)))) ∧ ((True ∧ True) ∧ ((True ∧ (((0 : Int) ≤ (0 : Int)) ∧ ((0 : Int) < (2 : Int)))) ∧ ((True ∧ True) ∧ ((True ∧ (True ∧ (True ∧ (True ∧ (True ∧ (True ∧ (True ∧ (True ∧ ((type_of% h14) ∧ True))))))))) ∧ ((True ∧ True) ∧ ((True ∧ True) ∧ ((True ∧ True) ∧ ((True ∧ True) ∧ ((True ∧ True) ∧ True)))))))))))) ∧ (((True ∧ True) ∧ ((True ∧ True) ∧ ((True ∧ (True ∧ (True ∧ (True ∧ ((type_of% h15) ∧ True))))) ∧ ((True ∧ True) ∧ ((True ∧ True) ∧ ((True ∧ True) ∧ ((True ∧ True) ∧ ((True ∧ True) ∧ True)))))))) ∧ (((True ∧ True) ∧ ((True ∧ True) ∧ ((True ∧ (True ∧ (True ∧ (True ∧ ((type_of% h16) ∧ True))))) ∧ ((True ∧ True) ∧ ((True ∧ True) ∧ ((True ∧ True) ∧ ((True ∧ True) ∧ ((True ∧ True) ∧ True)))))))) ∧ (((True ∧ True) ∧ ((True ∧ True) ∧ ((True ∧ (True ∧ True)) ∧ (((type_of% h17) ∧ True) ∧ ((True ∧ (True ∧ True)) ∧ ((True ∧ (True ∧ True)) ∧ ((True ∧ (True ∧ (True ∧ True))) ∧ ((True ∧ ((type_of% h18) ∧ True)) ∧ ((True ∧ True) ∧ ((True ∧ (True ∧ True)) ∧ ((True ∧ (True ∧ True)) ∧ ((True ∧ (True ∧ (True ∧ (True ∧ (True ∧ ((type_of% h19) ∧ True)))))) ∧ ((True ∧ (True ∧ True)) ∧ ((True ∧ (True ∧ True)) ∧ ((True ∧ True) ∧ ((True ∧ (True ∧ True)) ∧ ((True ∧ (True ∧ True)) ∧ ((True ∧ (True ∧ (True ∧ (True ∧ (True ∧ ((type_of% h20) ∧ True)))))) ∧ ((True ∧ (True ∧ True)) ∧ ((True ∧ (True ∧ True)) ∧ True)))))))))))))))))))) ∧ (True ∧ (((True ∧ True) ∧ ((True ∧ True) ∧ ((True ∧ True) ∧ True))) ∧ True)))))))))))))))))))) ∧ (True ∧ (True ∧ (True ∧ (True ∧ (True ∧ (True ∧ (True ∧ True))))))))) by kernel_rfl) ⟨⟨⟨⟨trivial, trivial⟩, ⟨⟨trivial, trivial⟩, trivial⟩⟩, ⟨trivial, ⟨⟨⟨trivial, trivial⟩, ⟨⟨trivial, trivial⟩, trivial⟩⟩, ⟨trivial, ⟨⟨⟨trivial, trivial⟩, ⟨⟨trivial, ⟨trivial, ⟨trivial, ⟨trivial, ⟨h1, trivial⟩⟩⟩⟩⟩, ⟨⟨trivial, trivial⟩, trivial⟩⟩⟩, ⟨⟨⟨trivial, trivial⟩, ⟨⟨trivial, trivial⟩, ⟨⟨trivial, trivial⟩, ⟨⟨trivial, ⟨trivial, ⟨trivial, ⟨trivial, ⟨trivial, ⟨h2, trivial⟩⟩⟩⟩⟩⟩, ⟨⟨trivial, trivial⟩, trivial⟩⟩⟩⟩⟩, ⟨⟨⟨trivial, trivial⟩, ⟨⟨trivial, trivial⟩, ⟨⟨trivial, trivial⟩, ⟨⟨trivial, ⟨trivial, ⟨trivial, ⟨trivial, ⟨trivial, ⟨h3, trivial⟩⟩⟩⟩⟩⟩, ⟨⟨trivial, trivial⟩, ⟨⟨trivial, trivial⟩, ⟨⟨trivial, trivial⟩, ⟨⟨trivial, ⟨trivial, ⟨trivial, ⟨trivial, ⟨trivial, ⟨h4, trivial⟩⟩⟩⟩⟩⟩, ⟨⟨trivial, ⟨trivial, trivial⟩⟩, ⟨⟨trivial, ⟨trivial, (Nat.le_of_ble_eq_true rfl)⟩⟩, trivial⟩⟩⟩⟩⟩⟩⟩⟩⟩⟩, ⟨⟨⟨trivial, trivial⟩, ⟨⟨trivial, trivial⟩, ⟨⟨trivial, ⟨(by first | exact Nat.le_of_ble_eq_true rfl | decide), (by first | exact Nat.le_of_ble_eq_true rfl | decide)⟩⟩, ⟨⟨trivial, trivial⟩, ⟨⟨trivial, ⟨trivial, ⟨trivial, ⟨trivial, ⟨trivial, ⟨trivial, ⟨h5, trivial⟩⟩⟩⟩⟩⟩⟩, ⟨⟨trivial, trivial⟩, ⟨⟨trivial, trivial⟩, ⟨⟨trivial, trivial⟩, ⟨⟨trivial, trivial⟩, ⟨⟨trivial, trivial⟩, trivial⟩⟩⟩⟩⟩⟩⟩⟩⟩⟩, ⟨⟨⟨trivial, trivial⟩, ⟨⟨trivial, trivial⟩, ⟨⟨trivial, ⟨(by first | exact Nat.le_of_ble_eq_true rfl | decide), (by first | exact Nat.le_of_ble_eq_true rfl | decide)⟩⟩, ⟨⟨trivial, trivial⟩, ⟨⟨trivial, ⟨trivial, ⟨trivial, ⟨trivial, ⟨trivial, ⟨trivial, ⟨h6, trivial⟩⟩⟩⟩⟩⟩⟩, ⟨⟨trivial, trivial⟩, ⟨⟨trivial, trivial⟩, ⟨⟨trivial, trivial⟩, ⟨⟨trivial, trivial⟩, ⟨⟨trivial, trivial⟩, trivial⟩⟩⟩⟩⟩⟩⟩⟩⟩⟩, ⟨⟨⟨trivial, trivial⟩, ⟨⟨trivial, trivial⟩, ⟨⟨trivial, ⟨(by first | exact Nat.le_of_ble_eq_true rfl | decide), (by first | exact Nat.le_of_ble_eq_true rfl | decide)⟩⟩, ⟨⟨trivial, trivial⟩, ⟨⟨trivial, ⟨trivial, ⟨trivial, ⟨trivial, ⟨trivial, ⟨trivial, ⟨h7, trivial⟩⟩⟩⟩⟩⟩⟩, ⟨⟨trivial, trivial⟩, ⟨⟨trivial, trivial⟩, ⟨⟨trivial, trivial⟩, ⟨⟨trivial, trivial⟩, ⟨⟨trivial, trivial⟩, trivial⟩⟩⟩⟩⟩⟩⟩⟩⟩⟩, ⟨⟨⟨trivial, trivial⟩, ⟨⟨trivial, trivial⟩, ⟨⟨trivial, ⟨(by first | exact Nat.le_of_ble_eq_true rfl | decide), (by first | exact Nat.le_of_ble_eq_true rfl | decide)⟩⟩, ⟨⟨trivial, trivial⟩, ⟨⟨trivial, ⟨trivial, ⟨trivial, ⟨trivial, ⟨trivial, ⟨trivial, ⟨h8, trivial⟩⟩⟩⟩⟩⟩⟩, ⟨⟨trivial, trivial⟩, ⟨⟨trivial, trivial⟩, ⟨⟨trivial, trivial⟩, ⟨⟨trivial, trivial⟩, ⟨⟨trivial, trivial⟩, trivial⟩⟩⟩⟩⟩⟩⟩⟩⟩⟩, ⟨⟨⟨trivial, trivial⟩, ⟨⟨trivial, trivial⟩, ⟨⟨trivial, ⟨trivial, trivial⟩⟩, ⟨⟨h9, trivial⟩, ⟨⟨trivial, ⟨trivial, trivial⟩⟩, ⟨⟨trivial, ⟨trivial, trivial⟩⟩, ⟨⟨trivial, ⟨trivial, ⟨trivial, trivial⟩⟩⟩, ⟨⟨trivial, ⟨h10, trivial⟩⟩, ⟨⟨trivial, trivial⟩, ⟨⟨trivial, ⟨trivial, trivial⟩⟩, ⟨⟨trivial, ⟨trivial, trivial⟩⟩, ⟨⟨trivial, ⟨trivial, ⟨trivial, ⟨trivial, ⟨trivial, ⟨h11, trivial⟩⟩⟩⟩⟩⟩, ⟨⟨trivial, ⟨trivial, trivial⟩⟩, ⟨⟨trivial, ⟨trivial, trivial⟩⟩, ⟨⟨trivial, trivial⟩, ⟨⟨trivial, ⟨trivial, trivial⟩⟩, ⟨⟨trivial, ⟨trivial, trivial⟩⟩, ⟨⟨trivial, ⟨trivial, ⟨trivial, ⟨trivial, ⟨trivial, ⟨h12, trivial⟩⟩⟩⟩⟩⟩, ⟨⟨trivial, ⟨trivial, trivial⟩⟩, ⟨⟨trivial, ⟨trivial, trivial⟩⟩, trivial⟩⟩⟩⟩⟩⟩⟩⟩⟩⟩⟩⟩⟩⟩⟩⟩⟩⟩⟩⟩, ⟨trivial, ⟨⟨⟨trivial, trivial⟩, ⟨⟨trivial, trivial⟩, ⟨⟨trivial, ⟨(by first | exact Nat.le_of_ble_eq_true rfl | decide), (by first | exact Nat.le_of_ble_eq_true rfl | decide)⟩⟩, ⟨⟨trivial, trivial⟩, ⟨⟨trivial, ⟨(by first | exact Nat.le_of_ble_eq_true rfl | decide), (by first | exact Nat.le_of_ble_eq_true rfl | decide)⟩⟩, ⟨⟨trivial, trivial⟩, ⟨⟨trivial, ⟨trivial, ⟨trivial, ⟨trivial, ⟨trivial, ⟨trivial, ⟨trivial, ⟨trivial, ⟨h13, trivial⟩⟩⟩⟩⟩⟩⟩⟩⟩, ⟨⟨trivial, trivial⟩, ⟨⟨trivial, trivial⟩, ⟨⟨trivial, trivial⟩, ⟨⟨trivial, trivial⟩, ⟨⟨trivial, trivial⟩, trivial⟩⟩⟩⟩⟩⟩⟩⟩⟩⟩⟩⟩, ⟨⟨⟨trivial, trivial⟩, ⟨⟨trivial, trivial⟩, ⟨⟨trivial, ⟨(by first | exact Nat.le_of_ble_eq_true rfl | decide), (by first | exact Nat.le_of_ble_eq_true rfl | decide)⟩⟩, ⟨⟨trivial, trivial⟩, ⟨⟨trivial, ⟨(by first | exact Nat.le_of_ble_eq_true rfl | decide), (by first | exact Nat.le_of_ble_eq_true rfl | decide)⟩⟩, ⟨⟨trivial, trivial⟩, ⟨⟨trivial, ⟨trivial, ⟨trivial, ⟨trivial, ⟨trivial, ⟨trivial, ⟨trivial, ⟨trivial, ⟨h14, trivial⟩⟩⟩⟩⟩⟩⟩⟩⟩, ⟨⟨trivial, trivial⟩, ⟨⟨trivial, trivial⟩, ⟨⟨trivial, trivial⟩, ⟨⟨trivial, trivial⟩, ⟨⟨trivial, trivial⟩, trivial⟩⟩⟩⟩⟩⟩⟩⟩⟩⟩⟩⟩, ⟨⟨⟨trivial, trivial⟩, ⟨⟨trivial, trivial⟩, ⟨⟨trivial, ⟨trivial, ⟨trivial, ⟨trivial, ⟨h15, trivial⟩⟩⟩⟩⟩, ⟨⟨trivial, trivial⟩, ⟨⟨trivial, trivial⟩, ⟨⟨trivial, trivial⟩, ⟨⟨trivial, trivial⟩, ⟨⟨trivial, trivial⟩, trivial⟩⟩⟩⟩⟩⟩⟩⟩, ⟨⟨⟨trivial, trivial⟩, ⟨⟨trivial, trivial⟩, ⟨⟨trivial, ⟨trivial, ⟨trivial, ⟨trivial, ⟨h16, trivial⟩⟩⟩⟩⟩, ⟨⟨trivial, trivial⟩, ⟨⟨trivial, trivial⟩, ⟨⟨trivial, trivial⟩, ⟨⟨trivial, trivial⟩, ⟨⟨trivial, trivial⟩, trivial⟩⟩⟩⟩⟩⟩⟩⟩, ⟨⟨⟨trivial, trivial⟩, ⟨⟨trivial, trivial⟩, ⟨⟨trivial, ⟨trivial, trivial⟩⟩, ⟨⟨h17, trivial⟩, ⟨⟨trivial, ⟨trivial, trivial⟩⟩, ⟨⟨trivial, ⟨trivial, trivial⟩⟩, ⟨⟨trivial, ⟨trivial, ⟨trivial, trivial⟩⟩⟩, ⟨⟨trivial, ⟨h18, trivial⟩⟩, ⟨⟨trivial, trivial⟩, ⟨⟨trivial, ⟨trivial, trivial⟩⟩, ⟨⟨trivial, ⟨trivial, trivial⟩⟩, ⟨⟨trivial, ⟨trivial, ⟨trivial, ⟨trivial, ⟨trivial, ⟨h19, trivial⟩⟩⟩⟩⟩⟩, ⟨⟨trivial, ⟨trivial, trivial⟩⟩, ⟨⟨trivial, ⟨trivial, trivial⟩⟩, ⟨⟨trivial, trivial⟩, ⟨⟨trivial, ⟨trivial, trivial⟩⟩, ⟨⟨trivial, ⟨trivial, trivial⟩⟩, ⟨⟨trivial, ⟨trivial, ⟨trivial, ⟨trivial, ⟨trivial, ⟨h20, trivial⟩⟩⟩⟩⟩⟩, ⟨⟨trivial, ⟨trivial, trivial⟩⟩, ⟨⟨trivial, ⟨trivial, trivial⟩⟩, trivial⟩⟩⟩⟩⟩⟩⟩⟩⟩⟩⟩⟩⟩⟩⟩⟩⟩⟩⟩⟩, ⟨trivial, ⟨⟨⟨trivial, trivial⟩, ⟨⟨trivial, trivial⟩, ⟨⟨trivial, trivial⟩, trivial⟩⟩⟩, trivial⟩⟩⟩⟩⟩⟩⟩⟩⟩⟩⟩⟩⟩⟩⟩⟩⟩⟩⟩⟩, ⟨trivial, ⟨trivial, ⟨trivial, ⟨trivial, ⟨trivial, ⟨trivial, ⟨trivial, trivial⟩⟩⟩⟩⟩⟩⟩⟩ hR
theorem fx_0 (q : QF) (h1 : (decide (iN q.i < 2) = false)) : ∃ o' st' q', go2 Try.prog ({ dec := [(33, false)], els := eF q, calls := cF q, unroll := false } : HT) 0 4000 (loopC (bodyOf Try.f3) 0) (loopK (bodyOf Try.f3) 0) (lo3 q) = some (o', st', q') ∧ q' ∧ Go.AX.Rest Try.prog 0 (Fin Try.prog Try.f3 0 [] (AV.bool true)) st' o' :=
  endF_spec (σ := []) (fz := []) (show endF Try.prog Try.f3 0 [] [] (go2 Try.prog ({ dec := [(33, false)], els := eF q, calls := cF q, unroll := false } : HT) 0 4000 (loopC (bodyOf Try.f3) 0) (loopK (bodyOf Try.f3) 0) (lo3 q)) = some ([], AV.bool true, (((((True ∧ True) ∧ ((True ∧ True) ∧ True)) ∧ ((type_of% h1) ∧ True)) ∧ ((True ∧ True) ∧ True)) ∧ (True ∧ True))) by kernel_rfl) ⟨⟨⟨⟨⟨trivial, trivial⟩, ⟨⟨trivial, trivial⟩, trivial⟩⟩, ⟨h1, trivial⟩⟩, ⟨⟨trivial, trivial⟩, trivial⟩⟩, ⟨trivial, trivial⟩⟩
end Go.Proofs.Ytnpmcikbnnlmkaa

/-! RoutesFinds: the law. -/
open Go Go.AX Go.Proofs
set_option maxRecDepth 100000
set_option maxHeartbeats 1000000
set_option linter.unusedVariables false
set_option linter.unusedSimpArgs false
namespace Go.Proofs.Ytnpmcikbnnlmkaa
theorem distO_len {g : List (List Int)} {s : List Bool} (hrw : Rows g) (v : Int) : (distO g s v).1.length ≤ 1000000 := by
  unfold distO
  by_cases h : chkZ g s v v = 0
  · obtain ⟨hg, _⟩ := chk_ok hrw h
    have := hg.len
    rw [if_pos h]; show (distL g s v.toNat g.length).length ≤ _; rw [distL_len]; omega
  · rw [if_neg h]; simp
theorem hopsO_len {g : List (List Int)} {s : List Bool} (hrw : Rows g) (v : Int) : (hopsO g s v).1.length ≤ 1000000 := by
  unfold hopsO
  by_cases h : chkZ g s v v = 0
  · obtain ⟨hg, _⟩ := chk_ok hrw h
    have := hg.len
    rw [if_pos h]; simp only [hopsZ, List.length_map, List.length_range]; omega
  · rw [if_neg h]; simp
theorem pathO_len {g : List (List Int)} {s : List Bool} (hrw : Rows g) (v w : Int) : (pathO g s v w).1.length ≤ 1000000 := by
  unfold pathO
  by_cases h : chkZ g s v w = 0
  · obtain ⟨hg, _, ⟨h0, h1⟩, ⟨h2, h3⟩⟩ := chk_ok hrw h
    have := hg.len
    have hD := dst_ok hg (goal := w.toNat) (by omega)
    have hb := hD.bnd v.toNat (by omega)
    rw [if_pos h]
    by_cases hn : (distL g s w.toNat g.length).getD v.toNat 0 < 0
    · rw [if_pos hn]; simp
    · rw [if_neg hn]; show (wkL g _ _ _).length ≤ _; rw [wkL_len]; omega
  · rw [if_neg h]; simp

noncomputable def lf (L : List Int) (g : List (List Int)) (s : List Bool) (a b : Int) (kk i : Nat) : QF := ⟨L, g, s, a, b, ([], 0), ([], 0), ([], 0), ([], 0), kk, i, [], [], 0, 0, 0, 0⟩

theorem finds_ct {g : List (List Int)} {s : List Bool} (hrw : Rows g) (a b : Int) (L : List Int) : CT Try.prog 3 [] [.lst (gL g), .lst (boL s), .agg [.int .i64 a, .int .i64 b], lI L] [] (.bool true) := by
  obtain ⟨g', k1, n, hn, hgi, hkk, c1⟩ := graph_ex L 0 10 (by omega) (by omega)
  obtain ⟨s', k2, hs, hkk2, c2⟩ := shut_ex L k1 n (by omega) (by omega)
  obtain ⟨hg', _⟩ := hgi.ok (by omega) (by omega) hs
  have hrw' : Rows g' := fun v hv => (hg'.row v hv).1
  have hgn := hgi.len
  have hl := gL_len g'
  have n1 := next_ct L k2 (n : Int) (by omega)
  have n2 := next_ct L (k2 + 1) (n : Int) (by omega)
  generalize nextZ L k2 (n : Int) = v0 at n1
  generalize nextZ L (k2 + 1) (n : Int) = v1 at n2
  refine CT.path mix Try.func3 (show Try.f3.body = some (bodyOf Try.f3) by kernel_rfl) (Nat.le_of_ble_eq_true rfl) (fi_0 (lf L g s a b 0 0) known_ct ?_)
  refine T.loop (fun j : Nat => match j with
    | 0 => lo3z (lf L g s a b 0 0)
    | 1 => lo3o (lf L g s a b 0 0)
    | _ => lo3 (lf L g' s' v0 v1 (k2 + 1 + 1) 2)) (fun j => j ≤ 2) (fun j => 3 - j) 0 (by omega) ?_
  intro j hj
  match j, hj with
  | 0, _ =>
    obtain ⟨t1, t2⟩ := tabO_len g s
    refine T.path mix (fr_0 ⟨L, g, s, a, b, distO g s a, hopsO g s a, pathO g s b a, tabO g s, 0, 0, [], [], 0, 0, 0, 0⟩ (distG_ct hrw a) (rdistG_ct hrw a) (hopsG_ct hrw a) (rhopsG_ct hrw a) (by simp) (by simp) (sameInts_ct _ (distO_len hrw a)) (sameInts_ct _ (hopsO_len hrw a)) (pathG_ct hrw b a) (rpathG_ct hrw b a) (tableG_ct hrw) (rtableG_ct hrw) (by simp) (by simp) (sameInts_ct _ (pathO_len hrw b a)) (sameL_ct _ (Nat.le_trans t1 (by decide)) t2) ?_)
    intro st hst
    exact ⟨1, hst, by omega, by omega⟩
  | 1, _ =>
    obtain ⟨t1, t2⟩ := tabO_len g' s'
    refine T.path mix (fs_0 ⟨L, g, s, a, b, distO g' s' v0, hopsO g' s' v0, pathO g' s' v1 v0, tabO g' s', 0, 0, g', s', k1, k2, v0, v1⟩ c1 (by simp only [iN, hl, hgn]; exact c2) (by simp only [iN, hl, hgn]; exact n1) (by simp only [iN, hl, hgn]; exact n2) (distG_ct hrw' v0) (rdistG_ct hrw' v0) (hopsG_ct hrw' v0) (rhopsG_ct hrw' v0) (by simp) (by simp) (sameInts_ct _ (distO_len hrw' v0)) (sameInts_ct _ (hopsO_len hrw' v0)) (pathG_ct hrw' v1 v0) (rpathG_ct hrw' v1 v0) (tableG_ct hrw') (rtableG_ct hrw') (by simp) (by simp) (sameInts_ct _ (pathO_len hrw' v1 v0)) (sameL_ct _ (Nat.le_trans t1 (by decide)) t2) ?_)
    intro st hst
    exact ⟨2, hst, by omega, by omega⟩
  | 2, _ =>
    exact T.out mix (fx_0 (lf L g' s' v0 v1 (k2 + 1 + 1) 2) rfl)

theorem intsR {n : Nat} {es : List AV} (h : ∀ x ∈ es, ShV Try.prog n 3 x) : ∃ L : List Int, es = L.map (AV.int .i64) := by
  induction es with
  | nil => exact ⟨[], rfl⟩
  | cons x es ih =>
    obtain ⟨L, rfl⟩ := ih fun y hy => h y (List.mem_cons_of_mem _ hy)
    obtain ⟨i, _, rfl⟩ := (h x (by simp)).intD Try.underlying3
    exact ⟨i :: L, rfl⟩
theorem boolsR {n : Nat} {es : List AV} (h : ∀ x ∈ es, ShV Try.prog n 4 x) : ∃ s : List Bool, es = boL s := by
  induction es with
  | nil => exact ⟨[], rfl⟩
  | cons x es ih =>
    obtain ⟨L, rfl⟩ := ih fun y hy => h y (List.mem_cons_of_mem _ hy)
    obtain ⟨i, rfl⟩ := (h x (by simp)).boolD Try.underlying4
    exact ⟨i :: L, rfl⟩
theorem rowsR {n : Nat} {es : List AV} (h : ∀ x ∈ es, ShV Try.prog (n + 1) 25 x) : ∃ g : List (List Int), es = gL g ∧ ∀ r ∈ g, r.length ≤ 9223372036854775807 := by
  induction es with
  | nil => exact ⟨[], rfl, fun r hr => by cases hr⟩
  | cons x es ih =>
    obtain ⟨g, rfl, hg⟩ := ih fun y hy => h y (List.mem_cons_of_mem _ hy)
    obtain ⟨ls, hm, hl, rfl⟩ := (h x (by simp)).sliceD Try.underlying25
    obtain ⟨L, rfl⟩ := intsR hl
    refine ⟨L :: g, rfl, fun r hr => ?_⟩
    rcases List.mem_cons.1 hr with rfl | hr
    · simpa [maxLen] using hm
    · exact hg r hr
theorem routesFinds_row (avs : List AV) (h : ShVs Try.prog 5 Try.f3.params.toList avs) : CT Try.prog 3 [] avs [] (.bool true) := by
  rw [Try.params3] at h
  obtain ⟨a, _, rfl, ka, h⟩ := h.consD
  obtain ⟨b, _, rfl, kb, h⟩ := h.consD
  obtain ⟨c, _, rfl, kc, h⟩ := h.consD
  obtain ⟨d, _, rfl, kd, h⟩ := h.consD
  obtain rfl := h.nilD
  obtain ⟨ls, _, hl, rfl⟩ := ka.sliceD Try.underlying22
  obtain ⟨g, rfl, hg⟩ := rowsR hl
  obtain ⟨bs, _, hb, rfl⟩ := kb.sliceD Try.underlying23
  obtain ⟨s, rfl⟩ := boolsR hb
  obtain ⟨_, hx, rfl⟩ := kc.arrayD Try.underlying24
  obtain ⟨_, _, rfl, g1, hx⟩ := hx.consD
  obtain ⟨_, _, rfl, g2, hx⟩ := hx.consD
  obtain rfl := hx.nilD
  obtain ⟨x, _, rfl⟩ := g1.intD Try.underlying3
  obtain ⟨y, _, rfl⟩ := g2.intD Try.underlying3
  obtain ⟨li, _, hi, rfl⟩ := kd.sliceD Try.underlying25
  obtain ⟨L, rfl⟩ := intsR hi
  refine finds_ct (fun v hv => ?_) x y L
  rw [List.getD_eq_getElem?_getD, List.getElem?_eq_getElem hv]
  exact hg _ (List.getElem_mem hv)
#print axioms routesFinds_row
end Go.Proofs.Ytnpmcikbnnlmkaa


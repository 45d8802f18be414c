/- PROVED HERE: That the law LedgerQuiet holds. No conditions. -/
import Derived.Test.YthjgbnbibebigaaGreatRows
import Derived.WalkKit
import Derived.ProofKit
import Derived.OpenShut
import Derived.ShutString
import Derived.ChangeOld
import Derived.Below
import Derived.Test.YthjgbnbibebigaaGreatLedgerQuietM9
namespace Go.Proofs.YthjgbnbibebigaaGreat.ledgerQuiet
open Go.ChangeShapes Go.WideShapes Go.ChangeAt Go.RowKit
set_option linter.unusedVariables false

theorem own : ownKnob Tryz.prog.godebug = none := by kernel_rfl
theorem laidOut : laidOutB Tryz.prog = true := by kernel_rfl

set_option maxRecDepth 100000 in
theorem lifted (os : Os) (started : os.Started) (H : Type) (enc : TypeId × Value → H) :
    ReturnsInHanded {} Tryz.checked os 3 .any (Rows.ledgerQuietSpec.pre6 enc Tryz.prog Tryz.f3 Rows.ledgerQuietRow.domain false) (Rows.ledgerQuietSpec.post enc Tryz.prog Tryz.f3 false true false false) := by
  refine returnsInHanded_of_change (C := Tryz.checked) own started (by kernel_rfl) Tryz.func3
    (ChangeSpec.witness6 (enc := enc) (C := Tryz.checked) false ⟨#[], #[.slice none 0 0], []⟩ 8 (by kernel_rfl) (by kernel_rfl) (by kernel_rfl) (by kernel_rfl)) ?_
  intro W base args ds gs before hval0 hW hcnd _
  have hW' := hW
  obtain ⟨p, q, hA, hV, rfl, hfz, hnd⟩ := hW
  obtain ⟨rfl, rfl⟩ := trodVars_none hV
  obtain ⟨d0, rfl⟩ := AX.list1 (((AX.trodAll_len hA).trans (by rw [Tryz.params3]; rfl)) : ds.length = 1)
  obtain ⟨avs, h1, h2, h3⟩ := AX.args_rt 6 hA (fun j t v ht hv => hval0 j t v (by simpa using ht) (by simpa using hv)) (by kernel_rfl)
  have h := AX.CT.calls (ledgerQuiet_row avs h1) W args.toList h2 h3
  rw [show args.toList.toArray = args from by simp] at h
  refine h.mono fun e W' ⟨he, bel⟩ => ?_
  subst he
  exact ⟨_, rfl, _, _, _, [], _, [], hW', trodAll_mk1 (shut_bool Tryz.underlying4 _), AX.trodAll_below laidOut bel (by kernel_rfl) hA, rfl, bel.frame _, fun h => by cases h⟩

theorem over : Rows.ledgerQuietRow.holds Tryz.pinned (OpenSpec.ofChange Rows.ledgerQuietSpec) :=
  OpenClaim.holds_of_wide 3 Tryz.f3 rfl rfl rfl rfl rfl rfl rfl ⟨rfl, rfl, rfl, rfl, rfl⟩ rfl rfl rfl rfl rfl (by kernel_rfl) Tryz.func3 (by kernel_rfl)
    (of_decide_eq_true (by kernel_rfl)) (by unfold Func.isWrapper; first | (rw [if_pos (by decide +kernel)]; kernel_rfl) | (rw [if_neg (by decide +kernel)]; exact ⟨rfl, rfl⟩))
    (fun os started H enc _ => lifted os started H enc)

/-- THE STATEMENT -/
theorem proved : Rows.LedgerQuietSaid := over
#print axioms proved
end Go.Proofs.YthjgbnbibebigaaGreat.ledgerQuiet

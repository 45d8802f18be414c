import Derived.Test.YtnpmcikbnnlmkaaAxZa
import Derived.Below
import Derived.OpenShut
import Derived.ChangeOld
/-! From a contract to the call that a row speaks of. -/
namespace Go.AX
variable {P : Program}

theorem CT.calls {f : FuncId} {args : List AV} (h : CT P f [] args [] (.bool true)) (w : World) (vs : List Value) (hl : vs.length = args.length)
    (hv : ∀ (i : Nat) c v, args[i]? = some c → vs[i]? = some v → RT (fun r => r < w.heap.size) w c v) :
    Calls P f vs.toArray w fun e w' => e = .returned (.bool true) ∧ Go.RowKit.Below w.heap.size w w' := by
  have hno : ∀ r, ¬ Mut (fun _ => none) (nth ([] : List (Option Blk))) r := by
    rintro r ⟨b, blk, z, hb, _⟩
    simp [nth] at hb
  refine (h (fun _ => none) (fun r => r < w.heap.size) w vs (fun r hr => ⟨hr, hno r⟩) ⟨fun b blk hb => (by simp [nth] at hb), fun b blk hb => (by simp [nth] at hb), fun b b' r z z' hb => (by simp [nth] at hb)⟩ (fun _ _ => rfl) hl
    fun i c v hc hvv => .imm _ _ (hv i c v hc hvv)).mono fun e w' ⟨v, φ', he, cp⟩ => ?_
  have hb := cp.val.bool_inv
  subst hb
  exact ⟨he, cp.keep.os, cp.keep.tape, cp.keep.output, cp.keep.size, fun k hk => cp.keep.block k hk (hno k)⟩

theorem rt_ints {w : World} {k : IntKind} {a : Option Addr} {len cap : Nat} {z : List Int}
    (h : (a = none ∧ len = 0 ∧ cap = 0 ∧ z = []) ∨ ∃ x, a = some x ∧ len ≤ cap ∧ cap ≤ maxLen ∧ z.length = cap ∧ (∀ i, i < z.length → w.cell? (x.add i) = some (.int k (z.getD i 0))) ∧ ∀ n ∈ z, (Lit.int k n).wf = true) :
    RT (fun r => r < w.heap.size) w (.lst ((z.take len).map (AV.int k))) (.slice a len cap) := by
  rcases h with ⟨rfl, rfl, rfl, rfl⟩ | ⟨x, rfl, hl, _, hz, hc, _⟩
  · exact .lnil none
  · rcases Nat.eq_zero_or_pos cap with hcap | hcap
    · subst hcap
      have : len = 0 := by omega
      subst this
      exact .lnil (some x)
    · obtain ⟨b, off, rfl, hat⟩ := Go.ints_at hc (by omega)
      have hlen : ((z.take len).map (AV.int k)).length = len := by simp; omega
      have hb : b < w.heap.size := by
        have h0 := hat 0 (by omega)
        rcases Nat.lt_or_ge b w.heap.size with hlt | hge
        · exact hlt
        · simp [World.cell?, Array.getElem?_eq_none hge] at h0
      have key := RT.lst (A := fun r => r < w.heap.size) (w := w) ((z.take len).map (AV.int k)) b off cap 1 (fun i _ => .int k (z.getD i 0)) (by rw [hlen]; exact hl) (fun _ => hb) (fun e he => ?_) (fun e he c hcm => ?_) (fun i j hi hj => ?_) fun i j e c he hj => ?_
      · rw [hlen] at key; exact key
      · obtain ⟨n, _, rfl⟩ := List.mem_map.1 he; rfl
      · obtain ⟨n, _, rfl⟩ := List.mem_map.1 he
        simp [AV.cells] at hcm; subst hcm; rfl
      · have : j = 0 := by omega
        subst this
        rw [hlen] at hi
        simpa using hat i (by omega)
      · rw [List.getElem?_map] at he
        obtain ⟨n, hn, rfl⟩ := Option.map_eq_some_iff.1 he
        rw [List.getElem?_take] at hn
        split at hn
        · cases j with
          | zero =>
            simp [AV.cells] at hj
            subst hj
            have : z.getD i 0 = n := by simp [List.getD, hn]
            rw [this]; exact .int k n
          | succ j => simp [AV.cells] at hj
        · cases hn

end Go.AX

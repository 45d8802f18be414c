import Derived.Test.YtnpmcikbnnlmkaaRt2p
import Derived.KernelRfl
/-! Routes: the check of a good graph. -/
open Go Go.AX Go.Proofs
set_option maxRecDepth 100000
set_option maxHeartbeats 1000000
set_option linter.unusedVariables false
set_option linter.unusedSimpArgs false
namespace Go.Proofs.Ytnpmcikbnnlmkaa
/-- Strictly ascending rows. -/
def Asc (g : List (List Int)) : Prop := ∀ v, v < g.length → ∀ i, 0 < i → i < (g.getD v []).length → (g.getD v []).getD (i - 1) 0 < (g.getD v []).getD i 0

theorem row_get {g : List (List Int)} {s : List Bool} (hg : OkG g s) {v : Nat} (hv : v < g.length) {i : Nat} (hi : i < (g.getD v []).length) : ∃ w : Nat, (g.getD v []).getD i 0 = (w : Int) ∧ w < g.length ∧ w ≠ v := by
  have hr := (hg.row v hv).2
  generalize g.getD v [] = r at hi hr ⊢
  have hm : r.getD i 0 ∈ r := by
    rw [List.getD_eq_getElem?_getD, List.getElem?_eq_getElem hi]
    exact List.getElem_mem hi
  obtain ⟨h1, h2, h3⟩ := hr _ hm
  exact ⟨(r.getD i 0).toNat, by omega, by omega, by omega⟩

def qk (g : List (List Int)) (s : List Bool) (v w : Int) (a i : Nat) (r : List Int) : QK := ⟨g, s, [], 0, 0, a, i, r, v, w, false, 0, [], []⟩

theorem wrapM1 (i : Nat) (h0 : 0 < i) (h : i < 9223372036854775808) : IntKind.i64.wrap ((i : Int) - 1) = ((i - 1 : Nat) : Int) := by
  have e1 : (2 : Int) ^ IntKind.i64.bits = 18446744073709551616 := by decide
  have e2 : (2 : Int) ^ (IntKind.i64.bits - 1) = 9223372036854775808 := by decide
  have e3 : IntKind.i64.signed = true := by decide
  simp only [IntKind.wrap, e1, e2, e3, Bool.true_and, decide_eq_true_eq]
  split <;> omega

theorem ckb_run {g : List (List Int)} {s : List Bool} (hg : OkG g s) (hs : Asc g) (v w : Int) (a : Nat) (ha : a < g.length) {R : St → Prop} {post : Exit → St → Prop}
    (hR : ∀ st, Ren 0 st (la27 (qk g s v w (a + 1) 0 [])) → R st) :
    T Try.prog 0 (.loop (loopC (loopC (bodyOf Try.f27) 0) 0)) (lb27 (qk g s v w a 0 (g.getD a []))) (TK Try.prog 0 (andThen R post) (loopK (loopC (bodyOf Try.f27) 0) 0)) := by
  have hgl := hg.len
  have hr1 := (hg.row a ha).1
  have hrow := gL_get ha
  have hget := fun i => row_get hg ha (i := i)
  have hsr := hs a ha
  generalize g.getD a [] = r at hr1 hrow hget hsr
  refine T.loop (fun i : Nat => lb27 (qk g s v w a i r)) (fun i => i ≤ r.length) (fun i => r.length + 1 - i) 0 (Nat.zero_le _) ?_
  intro i hi
  by_cases h : i < r.length
  · obtain ⟨x, hx, hx1, hx2⟩ := hget i h
    have hg1 := lI_get h
    rw [hx] at hg1
    have next : ∀ st, Ren 0 st (lb27 (qk g s v w a (i + 1) r)) → ∃ j, Ren 0 st (lb27 (qk g s v w a j r)) ∧ j ≤ r.length ∧ r.length + 1 - j < r.length + 1 - i := fun st hst => ⟨i + 1, hst, h, by omega⟩
    by_cases h0 : 0 < i
    · have hlt := hsr i h0 h
      rw [hx] at hlt
      have hw := wrapM1 i h0 (by omega)
      have hp := lI_get (l := r) (j := i - 1) (by omega)
      refine T.path mix (ckbr_3 ⟨g, s, [], 0, x, a, i, r, v, w, false, r.getD (i - 1) 0, [], []⟩ (decide_eq_true (by simp only [iN]; omega)) (by simp [iN]) hrow (by simp [iN]) hg1 (decide_eq_false (by simp only [iN]; omega)) (by simp [iN]; omega) (decide_eq_true (by simp only [iN]; omega)) (by simp only [iN, hw]; omega) (by simp only [iN, hw, Int.toNat_natCast]; exact hp) (decide_eq_false (by simp only [iN]; omega)) ?_)
      intro st hst
      simp only [iN, wrap_nat i (show i < 9223372036854775807 by omega)] at hst
      exact next st hst
    · refine T.path mix (ckbr_4 ⟨g, s, [], 0, x, a, i, r, v, w, false, 0, [], []⟩ (decide_eq_true (by simp only [iN]; omega)) (by simp [iN]) hrow (by simp [iN]) hg1 (decide_eq_false (by simp only [iN]; omega)) (by simp [iN]; omega) (decide_eq_false (by simp only [iN]; omega)) ?_)
      intro st hst
      simp only [iN, wrap_nat i (show i < 9223372036854775807 by omega)] at hst
      exact next st hst
  · refine T.out mix (ckbx_0 (qk g s v w a i r) (decide_eq_false (by simp only [iN, qk]; omega)) ?_)
    intro st hst
    simp only [iN, qk, wrap_nat a (show a < 9223372036854775807 by omega)] at hst
    exact hR st hst

theorem check_ct {g : List (List Int)} {s : List Bool} (hg : OkG g s) (hs : Asc g) (v w : Nat) (hv : v < g.length) (hw : w < g.length) : CT Try.prog 27 [] [.lst (gL g), .lst (boL s), .int .i64 (v : Nat), .int .i64 (w : Nat)] [] (.int .i64 0) := by
  have hgl := hg.len
  have hl := gL_len g
  have hbl := boL_len s
  have hsl := hg.sh
  refine CT.path mix Try.func27 (show Try.f27.body = some (bodyOf Try.f27) by kernel_rfl) (Nat.le_of_ble_eq_true rfl) (ck_0 (qk g s (v : Nat) (w : Nat) 0 0 []) (decide_eq_false (by simp only [iN, qk, hl]; omega)) ?_)
  simp only [qk, hl]
  refine T.loop (fun a : Nat => la27 (qk g s (v : Nat) (w : Nat) a 0 [])) (fun a => a ≤ g.length) (fun a => g.length + 1 - a) 0 (Nat.zero_le _) ?_
  intro a ha
  by_cases h : a < g.length
  · refine T.path mix (cka_0 (qk g s (v : Nat) (w : Nat) a 0 (g.getD a [])) (decide_eq_true (by simp only [iN, qk]; omega)) (by simp [iN]) (gL_get h) ?_)
    simp only [qk, lI_len]
    exact ckb_run hg hs (v : Nat) (w : Nat) a h fun st hst => ⟨a + 1, hst, h, by omega⟩
  · refine T.out mix (ckx_5 (qk g s (v : Nat) (w : Nat) a 0 []) (decide_eq_false (by simp only [iN, qk]; omega)) (by simp [iN, qk, hbl, hsl]) (decide_eq_false (by simp only [qk]; omega)) (decide_eq_false (by simp only [iN, qk]; omega)) (decide_eq_false (by simp only [qk]; omega)) (decide_eq_false (by simp only [iN, qk]; omega)))

theorem Distances_ct {g : List (List Int)} {s : List Bool} (hg : OkG g s) (hs : Asc g) (v : Nat) (hv : v < g.length) : CT Try.prog 12 [] [.lst (gL g), .lst (boL s), .int .i64 (v : Nat)] [] (.tup [lI (distL g s v g.length), .int .i64 0]) :=
  CT.path mix Try.func12 (show Try.f12.body = some (bodyOf Try.f12) by kernel_rfl) (Nat.le_of_ble_eq_true rfl) (dst_1 ⟨g, s, distL g s v g.length, 0, 0, 0, 0, [], (v : Nat), 0, false, 0, [], []⟩ (check_ct hg hs v v hv hv) (by simp) (distances_ct hg v hv))
#print axioms Distances_ct
end Go.Proofs.Ytnpmcikbnnlmkaa

import Derived.Test.YtnpmcikbnnlmkaaRt1p
import Derived.Test.YtnpmcikbnnlmkaaAxRd
import Derived.KernelRfl
/-! Routes: the distances. -/
open Go Go.AX Go.Proofs
set_option maxRecDepth 100000
set_option maxHeartbeats 1000000
set_option linter.unusedVariables false
set_option linter.unusedSimpArgs false
namespace Go.Proofs.Ytnpmcikbnnlmkaa
def edgeF (v far : Nat) (d : List Int) (w : Int) : List Int := if (d.getD w.toNat 0 == (far : Int)) = true then d.set v ((far + 1 : Nat) : Int) else d
def edgesL (r : List Int) (v far : Nat) (d : List Int) : List Int := r.foldl (edgeF v far) d
def vertF (g : List (List Int)) (s : List Bool) (far : Nat) (d : List Int) (v : Nat) : List Int :=
  if s.getD v false = true then d else if decide (0 ≤ d.getD v 0) = true then d else edgesL (g.getD v []) v far d
def roundL (g : List (List Int)) (s : List Bool) (d : List Int) (far : Nat) : List Int := (List.range g.length).foldl (vertF g s far) d
def dist0 (g : List (List Int)) (goal : Nat) : List Int := (List.replicate g.length (-1)).set goal 0
def distL (g : List (List Int)) (s : List Bool) (goal N : Nat) : List Int := if s.getD goal false = true then List.replicate g.length (-1) else (List.range N).foldl (roundL g s) (dist0 g goal)

/-- A graph as the checks want it. -/
structure OkG (g : List (List Int)) (s : List Bool) : Prop where
  len : g.length ≤ 24
  row : ∀ v, v < g.length → (g.getD v []).length ≤ 9223372036854775807 ∧ ∀ w ∈ g.getD v [], 0 ≤ w ∧ w < (g.length : Int) ∧ w ≠ (v : Int)
  sh : s.length = g.length

theorem edgeF_len (v far : Nat) (d : List Int) (w : Int) : (edgeF v far d w).length = d.length := by
  unfold edgeF; split <;> simp
theorem foldl_len {β : Type} {f : List Int → β → List Int} (hf : ∀ d x, (f d x).length = d.length) : ∀ (l : List β) (d : List Int), (l.foldl f d).length = d.length := by
  intro l
  induction l with
  | nil => intro d; rfl
  | cons x l ih => intro d; rw [List.foldl_cons, ih, hf]
theorem edgesL_len (r : List Int) (v far : Nat) (d : List Int) : (edgesL r v far d).length = d.length := foldl_len (edgeF_len v far) r d
theorem vertF_len (g : List (List Int)) (s : List Bool) (far : Nat) (d : List Int) (v : Nat) : (vertF g s far d v).length = d.length := by
  unfold vertF; split
  · rfl
  · split
    · rfl
    · exact edgesL_len _ _ _ _
theorem roundL_len (g : List (List Int)) (s : List Bool) (d : List Int) (far : Nat) : (roundL g s d far).length = d.length := foldl_len (vertF_len g s far) _ d
theorem dist0_len (g : List (List Int)) (goal : Nat) : (dist0 g goal).length = g.length := by simp [dist0]
theorem distL_len (g : List (List Int)) (s : List Bool) (goal N : Nat) : (distL g s goal N).length = g.length := by
  unfold distL; split
  · simp
  · rw [foldl_len (roundL_len g s), dist0_len]

theorem gL_len (g : List (List Int)) : (gL g).length = g.length := by simp [gL]
theorem gL_get {g : List (List Int)} {v : Nat} (h : v < g.length) : (gL g)[v]? = some (lI (g.getD v [])) := by
  unfold gL
  rw [List.getElem?_map, List.getD_eq_getElem?_getD, List.getElem?_eq_getElem h]; rfl
theorem boL_len (s : List Bool) : (boL s).length = s.length := by simp [boL]
theorem boL_get {s : List Bool} {v : Nat} (h : v < s.length) : (boL s)[v]? = some (.bool (s.getD v false)) := by
  unfold boL
  rw [List.getElem?_map, List.getD_eq_getElem?_getD, List.getElem?_eq_getElem h]; rfl
theorem lI_len (l : List Int) : (l.map (AV.int .i64)).length = l.length := by simp
theorem lI_get {l : List Int} {j : Nat} (h : j < l.length) : (l.map (AV.int .i64))[j]? = some (.int .i64 (l.getD j 0)) := by
  rw [List.getElem?_map, List.getD_eq_getElem?_getD, List.getElem?_eq_getElem h]; rfl
theorem lI_get0 {l : List Int} {j : Nat} (h : j < l.length) : (l.map (AV.int .i64))[0 + j]? = some (.int .i64 (l.getD j 0)) := by rw [Nat.zero_add]; exact lI_get h

def fillL (n j : Nat) : List Int := (List.range n).map fun t => if t < j then -1 else 0
theorem fillL_len (n j : Nat) : (fillL n j).length = n := by simp [fillL]
theorem fillL_0 (n : Nat) : List.replicate n (AV.int .i64 0) = (fillL n 0).map (AV.int .i64) := by
  apply List.ext_getElem
  · simp [fillL]
  · intro i h1 h2; simp [fillL]
theorem fillL_n (n : Nat) : fillL n n = List.replicate n (-1) := by
  apply List.ext_getElem
  · simp [fillL]
  · intro i h1 h2; simp [fillL] at h1 ⊢; omega
theorem fillL_set (n j : Nat) (h : j < n) : (fillL n j).set j (-1) = fillL n (j + 1) := by
  apply List.ext_getElem
  · simp [fillL]
  · intro i h1 h2
    simp only [fillL, List.getElem_set, List.getElem_map, List.getElem_range]
    split
    · rw [if_pos (by omega)]
    · by_cases hij : i < j
      · rw [if_pos hij, if_pos (by omega)]
      · rw [if_neg hij, if_neg (by omega)]

theorem map_set (l : List Int) (j : Nat) (v : Int) : (l.map (AV.int .i64)).set (0 + j) (.int .i64 v) = (l.set j v).map (AV.int .i64) := by rw [Nat.zero_add, List.map_set]
theorem take_fold {β : Type} (f : List Int → β → List Int) (r : List β) (d : List Int) (i : Nat) (h : i < r.length) : (r.take (i + 1)).foldl f d = f ((r.take i).foldl f d) (r[i]) := by
  rw [List.take_add_one, List.getElem?_eq_getElem h, List.foldl_append]; rfl
theorem range_fold (f : List Int → Nat → List Int) (d : List Int) (i : Nat) : (List.range (i + 1)).foldl f d = f ((List.range i).foldl f d) i := by
  rw [List.range_succ, List.foldl_append]; rfl
theorem iw (j : Nat) (h : j < 9223372036854775807) : IntKind.i64.wrap (iN j + 1) = ((j + 1 : Nat) : Int) := wrap_nat j h

noncomputable def qd (g : List (List Int)) (s : List Bool) (goal : Nat) (d : List Int) (far v i : Nat) (r : List Int) : QD := ⟨g, s, goal, g.length, d, far, v, i, r, 0, false, 0⟩

theorem dc_run {g : List (List Int)} {s : List Bool} (hg : OkG g s) (goal far v : Nat) (d : List Int) (hd : d.length = g.length) (hf : far < 1000) (hv : v < g.length) {R : St → Prop} {post : Exit → St → Prop}
    (hR : ∀ st, Ren 0 st (lb28 (qd g s goal (edgesL (g.getD v []) v far d) far (v + 1) 0 [])) → R st) :
    T Try.prog 0 (.loop (loopC (loopC (loopC (bodyOf Try.f28) 1) 0) 0)) (lc28 (qd g s goal d far v 0 (g.getD v []))) (TK Try.prog 0 (andThen R post) (loopK (loopC (loopC (bodyOf Try.f28) 1) 0) 0)) := by
  obtain ⟨hr1, hr2⟩ := hg.row v hv
  have hgl := hg.len
  have hrow := gL_get hv
  generalize g.getD v [] = r at hR hr1 hr2 hrow
  refine T.loop (fun i : Nat => lc28 (qd g s goal ((r.take i).foldl (edgeF v far) d) far v i r)) (fun i => i ≤ r.length) (fun i => r.length + 1 - i) 0 (Nat.zero_le _) ?_
  intro i hi
  have hdl : ((r.take i).foldl (edgeF v far) d).length = g.length := by rw [foldl_len (edgeF_len v far), hd]
  by_cases h : i < r.length
  · obtain ⟨w0, w1, _⟩ := hr2 r[i] (List.getElem_mem h)
    obtain ⟨w, hw⟩ : ∃ w : Nat, r[i] = (w : Int) := ⟨r[i].toNat, by omega⟩
    have hwn : w < g.length := by omega
    have hget : (r.map (AV.int .i64))[i]? = some (.int .i64 (w : Int)) := by rw [List.getElem?_map, List.getElem?_eq_getElem h, hw]; rfl
    have hstep := take_fold (edgeF v far) r d i h
    generalize hdd : (r.take i).foldl (edgeF v far) d = d' at hdl hstep
    rw [hw] at hstep
    have hml := lI_len d'
    by_cases he : (d'.getD w 0 == (far : Int)) = true
    · refine T.path mix (dcr_0 ⟨g, s, goal, g.length, d', far, v, i, r, w, false, d'.getD w 0⟩ (by simp [iN]; omega) (by simp [iN]) hrow (by simp [iN]) hget (by simp [iN]) (by simp [iN]; omega) (lI_get0 (l := d') (j := w) (by omega)) he (by simp [iN]; omega) (by simp [iN, hml]; omega) ?_)
      intro st hst
      refine ⟨i + 1, ?_, h, by omega⟩
      have e : edgeF v far d' ((w : Nat) : Int) = d'.set v ((far + 1 : Nat) : Int) := by unfold edgeF; rw [Int.toNat_natCast, if_pos he]
      rw [hstep, e]
      simp only [iN, Int.toNat_natCast, iw i (by omega), wrap_nat far (by omega), wrap_nat i (by omega)] at hst
      rw [map_set] at hst
      exact hst
    · have hne := he
      have he := Bool.eq_false_iff.2 he
      refine T.path mix (dcr_1 ⟨g, s, goal, g.length, d', far, v, i, r, w, false, d'.getD w 0⟩ (by simp [iN]; omega) (by simp [iN]) hrow (by simp [iN]) hget (by simp [iN]) (by simp [iN]; omega) (lI_get0 (l := d') (j := w) (by omega)) he ?_)
      intro st hst
      refine ⟨i + 1, ?_, h, by omega⟩
      have e : edgeF v far d' ((w : Nat) : Int) = d' := by unfold edgeF; rw [Int.toNat_natCast, if_neg hne]
      rw [hstep, e]
      simp only [iN, wrap_nat i (show i < 9223372036854775807 by omega)] at hst
      exact hst
  · have hti : r.take i = r := List.take_of_length_le (by omega)
    refine T.out mix (dcx_0 (qd g s goal ((r.take i).foldl (edgeF v far) d) far v i r) (decide_eq_false (by simp only [iN, qd]; omega)) ?_)
    intro st hst
    refine hR st ?_
    rw [hti] at hst
    simp only [iN, qd, wrap_nat v (show v < 9223372036854775807 by omega)] at hst
    exact hst

theorem db_run {g : List (List Int)} {s : List Bool} (hg : OkG g s) (goal far : Nat) (d : List Int) (hd : d.length = g.length) (hf : far < 1000) {R : St → Prop} {post : Exit → St → Prop}
    (hR : ∀ st, Ren 0 st (la28 (qd g s goal (roundL g s d far) (far + 1) 0 0 [])) → R st) :
    T Try.prog 0 (.loop (loopC (loopC (bodyOf Try.f28) 1) 0)) (lb28 (qd g s goal d far 0 0 [])) (TK Try.prog 0 (andThen R post) (loopK (loopC (bodyOf Try.f28) 1) 0)) := by
  have hgl := hg.len
  refine T.loop (fun v : Nat => lb28 (qd g s goal ((List.range v).foldl (vertF g s far) d) far v 0 [])) (fun v => v ≤ g.length) (fun v => g.length + 1 - v) 0 (Nat.zero_le _) ?_
  intro v hv
  have hdl : ((List.range v).foldl (vertF g s far) d).length = g.length := by rw [foldl_len (vertF_len g s far), hd]
  by_cases h : v < g.length
  · have hstep := range_fold (vertF g s far) d v
    generalize (List.range v).foldl (vertF g s far) d = d' at hdl hstep
    have hb := boL_get (s := s) (v := v) (by rw [hg.sh]; exact h)
    have next : ∀ (d'' : List Int) (st : St), vertF g s far d' v = d'' → Ren 0 st (lb28 (qd g s goal d'' far (v + 1) 0 [])) → ∃ j, Ren 0 st (lb28 (qd g s goal ((List.range j).foldl (vertF g s far) d) far j 0 [])) ∧ j ≤ g.length ∧ g.length + 1 - j < g.length + 1 - v := by
      intro d'' st e hst
      refine ⟨v + 1, ?_, h, by omega⟩
      rw [hstep, e]; exact hst
    by_cases hs : s.getD v false = true
    · refine T.path mix (dbn_0 ⟨g, s, goal, g.length, d', far, v, 0, [], 0, s.getD v false, 0⟩ (by simp [iN]; omega) (by simp [iN]) hb hs ?_)
      intro st hst
      simp only [iN, wrap_nat v (show v < 9223372036854775807 by omega)] at hst
      exact next d' st (by unfold vertF; rw [if_pos hs]) hst
    · by_cases hd0 : decide (0 ≤ d'.getD v 0) = true
      · refine T.path mix (dbn_1 ⟨g, s, goal, g.length, d', far, v, 0, [], 0, s.getD v false, d'.getD v 0⟩ (by simp [iN]; omega) (by simp [iN]) hb (Bool.eq_false_iff.2 hs) (by simp [iN]; omega) (lI_get0 (l := d') (j := v) (by omega)) hd0 ?_)
        intro st hst
        simp only [iN, wrap_nat v (show v < 9223372036854775807 by omega)] at hst
        exact next d' st (by unfold vertF; rw [if_neg hs, if_pos hd0]) hst
      · refine T.path mix (dbi_0 ⟨g, s, goal, g.length, d', far, v, 0, g.getD v [], 0, s.getD v false, d'.getD v 0⟩ (by simp [iN]; omega) (by simp [iN]) hb (Bool.eq_false_iff.2 hs) (by simp [iN]; omega) (lI_get0 (l := d') (j := v) (by omega)) (Bool.eq_false_iff.2 hd0) (gL_get h) ?_)
        have k := dc_run hg goal far v d' hdl hf h (R := fun st' => ∃ j, Ren 0 st' (lb28 (qd g s goal ((List.range j).foldl (vertF g s far) d) far j 0 [])) ∧ j ≤ g.length ∧ g.length + 1 - j < g.length + 1 - v) (post := TK Try.prog 0 (andThen R post) (loopK (loopC (bodyOf Try.f28) 1) 0)) fun st hst => next _ st (by unfold vertF; rw [if_neg hs, if_neg hd0]) hst
        simp only [lI_len]
        exact k
  · obtain rfl : v = g.length := by omega
    refine T.out mix (dbx_0 (qd g s goal ((List.range g.length).foldl (vertF g s far) d) far g.length 0 []) (by simp [iN, qd]) ?_)
    intro st hst
    refine hR st ?_
    simp only [iN, qd, wrap_nat far (show far < 9223372036854775807 by omega)] at hst
    exact hst

theorem distances_ct {g : List (List Int)} {s : List Bool} (hg : OkG g s) (goal : Nat) (hgo : goal < g.length) : CT Try.prog 28 [] [.lst (gL g), .lst (boL s), .int .i64 (goal : Nat)] [] (lI (distL g s goal g.length)) := by
  have hgl := hg.len
  have hl := gL_len g
  refine CT.path mix Try.func28 (show Try.f28.body = some (bodyOf Try.f28) by kernel_rfl) (Nat.le_of_ble_eq_true rfl) (di_0 (qd g s goal [] 0 0 0 []) (Int.le_refl _) (by simp only [qd, iN, hl]; omega) (by simp only [qd, iN, hl]; omega) ?_)
  have hb := boL_get (s := s) (v := goal) (by rw [hg.sh]; exact hgo)
  have key : T Try.prog 0 (.loop (loopC (bodyOf Try.f28) 0)) (lf28 (qd g s goal (fillL g.length 0) 0 0 0 [])) (TK Try.prog 0 (Fin Try.prog Try.f28 0 [] (lI (distL g s goal g.length))) (loopK (bodyOf Try.f28) 0)) := by
    refine T.loop (fun i : Nat => lf28 (qd g s goal (fillL g.length i) 0 0 i [])) (fun i => i ≤ g.length) (fun i => g.length + 1 - i) 0 (Nat.zero_le _) ?_
    intro i hi
    have hfl := fillL_len g.length i
    have hml := lI_len (fillL g.length i)
    by_cases h : i < g.length
    · refine T.path mix (dfr_0 (qd g s goal (fillL g.length i) 0 0 i []) (by simp [iN, qd]; omega) (by simp [iN]) (by simp [iN, qd]; omega) (by simp [iN, qd, fillL_len]; omega) ?_)
      intro st hst
      refine ⟨i + 1, ?_, h, by omega⟩
      simp only [iN, qd, Int.toNat_natCast, wrap_nat i (show i < 9223372036854775807 by omega)] at hst
      rw [map_set, fillL_set _ _ h] at hst
      exact hst
    · obtain rfl : i = g.length := by omega
      by_cases hs : s.getD goal false = true
      · have k := dfs_0 ⟨g, s, goal, g.length, fillL g.length g.length, 0, 0, g.length, [], 0, s.getD goal false, 0⟩ (by simp [iN]) (by simp [iN]) hb hs (by simp [fillL_len])
        have e : distL g s goal g.length = fillL g.length g.length := by unfold distL; rw [if_pos hs, fillL_n]
        rw [e]
        exact T.out mix k
      · have e : distL g s goal g.length = (List.range g.length).foldl (roundL g s) (dist0 g goal) := by unfold distL; rw [if_neg hs]
        refine T.out mix (dfx_0 ⟨g, s, goal, g.length, fillL g.length g.length, 0, 0, g.length, [], 0, s.getD goal false, 0⟩ (by simp [iN]) (by simp [iN]) hb (Bool.eq_false_iff.2 hs) (by simp [iN]; omega) (by simp [iN, fillL_len]; omega) ?_)
        simp only [iN, Int.toNat_natCast]
        rw [map_set, fillL_n, e]
        refine T.loop (fun far : Nat => la28 (qd g s goal ((List.range far).foldl (roundL g s) (dist0 g goal)) far 0 0 [])) (fun far => far ≤ g.length) (fun far => g.length + 1 - far) 0 (Nat.zero_le _) ?_
        intro far hfar
        have hdl : ((List.range far).foldl (roundL g s) (dist0 g goal)).length = g.length := by rw [foldl_len (roundL_len g s), dist0_len]
        by_cases hf : far < g.length
        · refine T.path mix (dai_0 (qd g s goal ((List.range far).foldl (roundL g s) (dist0 g goal)) far 0 0 []) (by simp [iN, qd]; omega) ?_)
          refine db_run hg goal far _ hdl (by omega) fun st hst => ⟨far + 1, ?_, hf, by omega⟩
          rw [range_fold]; exact hst
        · obtain rfl : far = g.length := by omega
          exact T.out mix (dax_0 (qd g s goal ((List.range g.length).foldl (roundL g s) (dist0 g goal)) g.length 0 0 []) (by simp [iN, qd]) (by simp [qd, hdl]))
  unfold lf28 qd dB at key
  simp only [qd, hl, fillL_0]
  exact key
#print axioms distances_ct
end Go.Proofs.Ytnpmcikbnnlmkaa

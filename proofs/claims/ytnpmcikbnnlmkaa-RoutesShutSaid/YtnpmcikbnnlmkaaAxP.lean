import Derived.Test.YtnpmcikbnnlmkaaAxO
/-! Contracts of functions, and calls by contract. -/
namespace Go.AX
variable {P : Program}

structure CP (φ : Phi) (A : Nat → Prop) (w : World) (hin hout : List (Option Blk)) (res : AV) (v : Value) (w' : World) (φ' : Phi) : Prop where
  par : ∀ b, b < hin.length → φ' b = φ b
  keep : Keep (Mut φ (nth hin)) w w'
  mutd : ∀ r, Mut φ' (nth hout) r → Mut φ (nth hin) r ∨ w.heap.size ≤ r
  heap : HR φ' (Ok A w.heap.size φ' (nth hout) w') w' (nth hout)
  val : VR φ' (Ok A w.heap.size φ' (nth hout) w') w' res v
  out : ∀ b, hout.length ≤ b → φ' b = none
  len : hin.length ≤ hout.length
  own : ∀ b r z, hin.length ≤ b → φ' b = some (r, z) → w.heap.size ≤ r

/-- THE CONTRACT OF A FUNCTION: called over the blocks 'hin' with 'args' it leaves 'hout' and returns 'res'. -/
def CT (P : Program) (f : FuncId) (hin : List (Option Blk)) (args : List AV) (hout : List (Option Blk)) (res : AV) : Prop :=
  ∀ (φ : Phi) (A : Nat → Prop) (w : World) (vs : List Value), (∀ r, A r → r < w.heap.size ∧ ¬ Mut φ (nth hin) r) → HR φ A w (nth hin) → (∀ b, hin.length ≤ b → φ b = none) →
    vs.length = args.length → (∀ (i : Nat) c v, args[i]? = some c → vs[i]? = some v → VR φ A w c v) →
    Calls P f vs.toArray w fun e w' => ∃ v φ', e = .returned v ∧ CP φ A w hin hout res v w' φ'

def enumF : Nat → List AV → List (Nat × AV)
  | _, [] => []
  | i, x :: r => (i, x) :: enumF (i + 1) r

theorem look_enumF : ∀ (l : List AV) (i s : Nat), i ≤ s → look (enumF i l) s = l.getD (s - i) .unk := by
  intro l
  induction l with
  | nil => intro i s _; simp [enumF, look]
  | cons x r ih =>
    intro i s h
    simp only [enumF, look]
    cases hb : Nat.beq i s with
    | true => have := Nat.eq_of_beq_eq_true hb; subst this; simp
    | false =>
      have hne : i ≠ s := fun e => by subst e; rw [Nat.beq_refl] at hb; cases hb
      simp only
      rw [ih (i + 1) s (by omega), show s - i = (s - (i + 1)) + 1 by omega]
      simp

def resOne (P : Program) (st : St) : ResultVar → Option AV
  | .tmp t => some (look st.fr t)
  | .cell a t =>
    match look st.fr a, tsz P t with
    | .ptr b i j, some (s, ag) =>
      match st.h b with
      | some blk => match blk.es[i]? with
        | some e => match Nat.beq ((e.cells.drop j).take s).length s with
          | true => mkV ag ((e.cells.drop j).take s)
          | false => none
        | none => none
      | none => none
    | _, _ => none

def resA (P : Program) (fn : Func) (st : St) : Option AV :=
  match mapO (resOne P st) fn.results.toList with
  | some [x] => some x
  | some l => some (.tup l)
  | none => none

/-- How a body's end must look for the contract. -/
def Fin (P : Program) (fn : Func) (m : Nat) (hout : List (Option Blk)) (res : AV) (e : Exit) (st : St) : Prop :=
  (e = .normal ∨ e = .ret) ∧ ∃ res0 st1, resA P fn st = some res0 ∧ Ren m { st with fr := [(0, res0)] } st1 ∧ st1.hp = hout ∧ look st1.fr 0 = res ∧ 0 < st.n

def resF (tmps : Array Value) : ResultVar → Sem Value
  | .tmp t => pure (tmps.getD t undef)
  | .cell a t => do loadVar t (← asAddr (tmps.getD a undef))

theorem res_one {A0 : Nat → Prop} {n0 m : Nat} {φ : Phi} {st : St} {a : Act} {w : World} (hr : Rel A0 n0 m φ st a w) {x : ResultVar} {v : AV} (h : resOne P st x = some v) :
    ∃ u, (resF a.tmps x).run P w = .ok u w ∧ VR φ (Ok A0 n0 φ st.h w) w v u := by
  cases x with
  | tmp t => simp only [resOne, Option.some.injEq] at h; subst h; exact ⟨_, rfl, hr.slot t⟩
  | cell p t =>
    simp only [resOne] at h
    split at h
    case h_2 => cases h
    rename_i b i j s ag hp ht
    split at h
    case h_2 => cases h
    rename_i blk hb
    split at h
    case h_2 => cases h
    rename_i e he
    split at h
    case h_2 => cases h
    rename_i hl
    have hs := hr.slot p
    rw [hp] at hs
    obtain ⟨r, z, hφ, hv⟩ := hs.ptr_inv
    obtain ⟨rfl, _, hat⟩ := hr.heap.at hb he hφ
    have hat' := hat.sub rfl j s
    rw [Addr.add_lit] at hat'
    obtain ⟨u, h1, h2⟩ := run_load_at (P := P) hat' rfl ht (Nat.eq_of_beq_eq_true hl) h
    refine ⟨u, ?_, h2⟩
    simp only [resF, Sem.run_bind, hv, asAddr, Sem.run_pure, Result.andThen_ok, h1]

theorem res_all {A0 : Nat → Prop} {n0 m : Nat} {φ : Phi} {st : St} {a : Act} {w : World} (hr : Rel A0 n0 m φ st a w) {fn : Func} {v : AV} (h : resA P fn st = some v) :
    ∃ u, (results fn a.tmps).run P w = .ok u w ∧ VR φ (Ok A0 n0 φ st.h w) w v u := by
  have key : ∀ (l : List ResultVar) (vs : List AV), mapO (resOne P st) l = some vs →
      ∃ us : List Value, (l.mapM (m := Sem) (resF a.tmps)).run P w = .ok us w ∧
        us.length = vs.length ∧ ∀ (i : Nat) c u, vs[i]? = some c → us[i]? = some u → VR φ (Ok A0 n0 φ st.h w) w c u := by
    intro l
    induction l with
    | nil => intro vs hv; simp [mapO] at hv; subst hv; exact ⟨[], rfl, rfl, fun i c u hc => by simp at hc⟩
    | cons x r ih =>
      intro vs hv
      simp only [mapO] at hv
      split at hv
      · rename_i y l' hy hl
        cases hv
        obtain ⟨u, h1, h2⟩ := res_one (P := P) hr hy
        obtain ⟨us, h3, h4, h5⟩ := ih l' hl
        refine ⟨u :: us, ?_, by simp [h4], fun i c v' hc hv' => ?_⟩
        · rw [List.mapM_cons]
          simp only [Sem.run_bind, h1, Result.andThen_ok, h3, Sem.run_pure]
        · cases i with
          | zero => simp at hc hv'; subst hc hv'; exact h2
          | succ i => exact h5 i c v' (by simpa using hc) (by simpa using hv')
      · cases hv
  unfold resA at h
  cases hm : mapO (resOne P st) fn.results.toList with
  | none => rw [hm] at h; cases h
  | some vs =>
    rw [hm] at h
    obtain ⟨us, h1, h2, h3⟩ := key _ vs hm
    have run : (results fn a.tmps).run P w = .ok (if hh : us.toArray.size = 1 then us.toArray[0] else .tuple us.toArray) w := by
      have e : results fn a.tmps = (do let vs ← fn.results.mapM (resF a.tmps); pure (if h : vs.size = 1 then vs[0] else .tuple vs)) := rfl
      rw [e, Array.mapM_eq_mapM_toList]
      simp only [Sem.run_bind, Sem.run_map, h1, Result.andThen_ok, Sem.run_pure]
    rw [run]
    split at h
    · rename_i x hx
      cases hx; cases h
      obtain ⟨u, rfl⟩ := List.length_eq_one_iff.1 (show us.length = 1 by simpa using h2)
      exact ⟨u, by simp, h3 0 _ u rfl rfl⟩
    · rename_i l hne hx
      cases hx; cases h
      refine ⟨.tuple us.toArray, ?_, .tup _ _ h2 h3⟩
      have : us.length ≠ 1 := fun h1' => by
        rw [h2] at h1'
        obtain ⟨x, rfl⟩ := List.length_eq_one_iff.1 h1'
        exact hne x rfl
      simp [this]
    · rename_i hx; cases hx

theorem CT.of {f : FuncId} {fn : Func} {c : Code} {hin hout : List (Option Blk)} {args : List AV} {res : AV} (hf : P.funcs[f]? = some fn) (hb : fn.body = some c) (hn : args.length ≤ fn.ntmps)
    (h : T P hin.length c { n := fn.ntmps, fr := enumF 0 args, hp := hin } (Fin P fn hin.length hout res)) : CT P f hin args hout res := by
  intro φ A w vs hA hh ho hlen hv
  refine calls_of_wp hf hb ?_
  have hsub : ∀ r, A r → Ok A w.heap.size φ (nth hin) w r := fun r hr => ⟨.inl hr, (hA r hr).1, (hA r hr).2⟩
  have mono : ∀ {c u}, VR φ A w c u → VR φ (Ok A w.heap.size φ (nth hin) w) w c u := fun h => h.mono (fun _ _ h => h) hsub (fun _ _ => rfl) (fun _ => Nat.le_refl _)
  have hrel : Rel A w.heap.size hin.length φ { n := fn.ntmps, fr := enumF 0 args, hp := hin } { tmps := vs.toArray ++ Array.replicate (fn.ntmps - vs.toArray.size) undef, defers := [] } w := by
    refine ⟨rfl, by simp; omega, fun s => ?_, ⟨fun b blk hb => ?_, hh.flat, hh.inj⟩, ho, Nat.le_refl _, fun b r z hb hφ => by rw [ho b hb] at hφ; cases hφ⟩
    · show VR _ _ _ (look (enumF 0 args) s) _
      rw [look_enumF args 0 s (Nat.zero_le _)]
      simp only [Nat.sub_zero]
      rcases Nat.lt_or_ge s args.length with hs | hs
      · have hsv : s < vs.length := by omega
        have e1 : args.getD s .unk = args[s] := by simp [List.getD, hs]
        have e2 : (vs.toArray ++ Array.replicate (fn.ntmps - vs.toArray.size) undef).getD s undef = vs[s] := by simp [Array.getElem?_append, hsv]
        rw [e1, e2]
        exact mono (hv s _ _ (by simp [hs]) (by simp [hsv]))
      · have e1 : args.getD s .unk = .unk := by simp [List.getD, hs]
        rw [e1]; exact .imm _ _ (.unk _)
    · rcases hh.blk b blk hb with hl | ⟨r, cs, T, h1, h2, h3, h4⟩
      · exact .inl hl
      · exact .inr ⟨r, cs, T, h1, h2, h3, fun i e he => ⟨(h4 i e he).1, fun j c hj => by
          obtain ⟨g1, u, g2, g3⟩ := (h4 i e he).2 j c hj
          exact ⟨g1, u, g2, mono g3⟩⟩⟩
  refine wp_mono (h A w.heap.size φ _ w (Nat.le_refl _) hrel) fun e a' w' hq => ?_
  obtain ⟨φ1, st, ⟨he, res0, st1, hres, hren, hhp, hlk, hpos⟩, hr1, hm1, ht1⟩ := hq
  obtain ⟨u, hru, hvu⟩ := res_all hr1 hres
  have hrv : Rel A w.heap.size hin.length φ1 { st with fr := [(0, res0)] } { tmps := (Array.replicate st.n undef).setIfInBounds 0 u, defers := [] } w' := by
    refine ⟨rfl, by simp, fun s => ?_, hr1.heap, hr1.out, hr1.base, hr1.own⟩
    cases s with
    | zero =>
      have : ((Array.replicate st.n undef).setIfInBounds 0 u).getD 0 undef = u := by simp [hpos]
      rw [this]; exact hvu
    | succ s => exact .imm _ _ (.unk _)
  obtain ⟨φ2, k1, k2, k3⟩ := hren A w.heap.size φ1 _ w' hm1 hrv
  have htr := ht1.trans k3
  have hval := k1.slot 0
  rw [hlk] at hval
  have e0 : ((Array.replicate st.n undef).setIfInBounds 0 u).getD 0 undef = u := by simp [hpos]
  rw [e0] at hval
  have hfin : ∃ v φ', Ending.returned u = .returned v ∧ CP φ A w hin hout res v w' φ' :=
    ⟨u, φ2, rfl, ⟨htr.par, htr.keep, by rw [← hhp]; exact htr.mutd, by rw [← hhp]; exact k1.heap, by rw [← hhp]; exact hval, by rw [← hhp]; exact k1.out, by rw [← hhp]; exact k2, k1.own⟩⟩
  rcases he with rfl | rfl
  · exact ⟨hr1.defs, u, hru, hfin⟩
  · exact ⟨hr1.defs, u, hru, hfin⟩

end Go.AX

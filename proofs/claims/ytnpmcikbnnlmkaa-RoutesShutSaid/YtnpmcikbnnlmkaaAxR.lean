import Derived.Test.YtnpmcikbnnlmkaaAxQ
/-! A call of a function by its contract: the operation. -/
namespace Go.AX
variable {P : Program}

def zipB : List Nat → List Blk → List (Nat × Blk)
  | b :: r, x :: l => (b, x) :: zipB r l
  | _, _ => []

theorem zipB_mem : ∀ {σ : List Nat} {l : List Blk} {b : Nat} {x : Blk}, (b, x) ∈ zipB σ l → ∃ k : Nat, σ[k]? = some b ∧ l[k]? = some x := by
  intro σ
  induction σ with
  | nil => intro l b x h; simp [zipB] at h
  | cons y r ih =>
    intro l b x h
    cases l with
    | nil => simp [zipB] at h
    | cons z l =>
      simp only [zipB, List.mem_cons, Prod.mk.injEq] at h
      rcases h with ⟨rfl, rfl⟩ | h
      · exact ⟨0, rfl, rfl⟩
      · obtain ⟨k, h1, h2⟩ := ih h; exact ⟨k + 1, by simpa using h1, by simpa using h2⟩

theorem zipB_get : ∀ {σ : List Nat} {l : List Blk} {k : Nat} {b : Nat} {x : Blk}, σ[k]? = some b → l[k]? = some x → (b, x) ∈ zipB σ l := by
  intro σ
  induction σ with
  | nil => intro l k b x h; simp at h
  | cons y r ih =>
    intro l k b x h1 h2
    cases l with
    | nil => simp at h2
    | cons z l =>
      cases k with
      | zero => simp at h1 h2; subst h1 h2; simp [zipB]
      | succ k => exact List.mem_cons_of_mem _ (ih (by simpa using h1) (by simpa using h2))

/-- What a call makes of the state. -/
def callR (σ : List Nat) (nb : Nat) (outs : List Blk) (res : AV) : OpR :=
  { v := bakV (tau σ nb) 3 res, chg := zipB σ ((outs.take σ.length).map (bakB (tau σ nb))), new := (outs.drop σ.length).map (bakB (tau σ nb)) }

def fnOk (P : Program) (f : FuncId) : Bool :=
  match P.funcs[f]? with
  | some fn => !(fn.name == "runtime.NumGoroutine") && fn.body.isSome
  | none => false

theorem run_call {f : FuncId} (hf : fnOk P f = true) (ρ : Operand → Value) (o : Oper) (x : Operand) (xs : Array Operand) (ts : Array TypeId) (caps : Array Value)
    (ho : o.op = .call { callee := .value x, args := xs, argTypes := ts }) (hx : ρ x = .func (.func f) #[] caps) (w : World) :
    (execOp ρ o).run P w = .ok (.enter f (xs.map ρ ++ caps)) w := by
  unfold fnOk at hf
  split at hf
  case h_2 => cases hf
  rename_i fn hfn
  simp only [Bool.and_eq_true, Bool.not_eq_true'] at hf
  obtain ⟨hname, hbody⟩ := hf
  have hnone : ¬ fn.body = none := by cases hb : fn.body <;> simp_all
  have hname' : ¬ fn.name = "runtime.NumGoroutine" := by simpa using hname
  simp [execOp, ho, resolve, hx, Deferred.ofValue, invoke, callFunc, hfn, hname', hnone]

theorem ok_call {o : Oper} {ev : Operand → AV} {x : Operand} {xs : Array Operand} {ts : Array TypeId} {f : FuncId} {caps : List AV} {hp : List (Option Blk)} {σ fz : List Nat} {hpl : List (Option Blk × Prop)}
    {outs : List Blk} {res : AV} (ho : o.op = .call { callee := .value x, args := xs, argTypes := ts }) (hx : ev x = .fn f caps) (hf : fnOk P f = true)
    (hargs : ∀ a ∈ xs.toList.map ev ++ caps, (renV σ fz hp 3 a).2) (hh : renH σ fz hp = some hpl) (hp2 : ∀ p ∈ hpl.map (·.2), p) (hn : nodupN σ = true) (hfz : ∀ b ∈ fz, b ∉ σ)
    (hσ : ∀ b ∈ σ, ∃ blk, nth hp b = some blk ∧ blk.wr = true)
    (hct : CT P f (hpl.map (·.1)) ((xs.toList.map ev ++ caps).map fun a => (renV σ fz hp 3 a).1) (mapSome outs) res)
    (hwr : ∀ blk ∈ outs, blk.wr = true) (himm : fz = [] ∨ (immF 3 res = true ∧ ∀ blk ∈ outs, ImmB blk)) :
    OpOK P o ev (nth hp) hp.length (callR σ hp.length outs res) := by
  intro φ A w a K Q hA hv hhr hno k
  have hcv := hv x
  rw [hx] at hcv
  obtain ⟨cv, hcx, hcl, hch⟩ := hcv.fn_inv
  obtain ⟨hlen, hsp⟩ := mapO_spec hh
  let FZ : Nat → Prop := fun r => ∃ b blk z, b ∈ fz ∧ nth hp b = some blk ∧ φ b = some (r, z)
  let A1 : Nat → Prop := fun r => A r ∨ FZ r
  have hK : RenK φ A A1 w hp fz := ⟨fun r h => .inl h, fun b blk hb hblk r z hφ => .inr ⟨b, blk, z, hb, hblk, hφ⟩, hhr⟩
  obtain ⟨hheap, hlive⟩ := ren_heap hK hh hp2 hn
  have hphi : ∀ k b, σ[k]? = some b → renPhi σ φ k = φ b := fun k b hk => by simp [renPhi, hk]
  have hmut : ∀ r, Mut (renPhi σ φ) (nth (hpl.map (·.1))) r → ∃ (k b : Nat) (blk : Blk) (z : Nat), σ[k]? = some b ∧ nth hp b = some blk ∧ blk.wr = true ∧ φ b = some (r, z) := by
    rintro r ⟨k, blk', z, hk, hw, hφ⟩
    obtain ⟨b, blk, h1, h2, h3⟩ := hlive k blk' hk
    rw [hphi k b h1] at hφ
    exact ⟨k, b, blk, z, h1, h2, by rw [← h3]; exact hw, hφ⟩
  have hlt : ∀ b blk r z, nth hp b = some blk → φ b = some (r, z) → r < w.heap.size := by
    intro b blk r z hblk hφ
    rcases hhr.blk b blk hblk with ⟨_, h0, _⟩ | ⟨r', cs, T, h1, h2, _⟩
    · rw [hφ] at h0; cases h0
    · rw [hφ] at h1; simp at h1; rw [h1.1]; exact (Array.getElem?_eq_some_iff.1 h2).1
  have hA1 : ∀ r, A1 r → r < w.heap.size ∧ ¬ Mut (renPhi σ φ) (nth (hpl.map (·.1))) r := by
    rintro r (h | ⟨b, blk, z, hb, hblk, hφ⟩)
    · refine ⟨(hA r h).1, fun hm => ?_⟩
      obtain ⟨k, b, blk, z, _, g2, g3, g4⟩ := hmut r hm
      exact (hA r h).2 ⟨b, blk, z, g2, g3, g4⟩
    · refine ⟨hlt b blk r z hblk hφ, fun hm => ?_⟩
      obtain ⟨k, b', blk', z', g1, g2, g3, g4⟩ := hmut r hm
      have := hhr.inj b b' r _ _ (by simp [hblk]) (by simp [g2]) hφ g4
      subst this
      exact hfz b hb (List.mem_of_getElem? g1)
  have hcall := hct (renPhi σ φ) A1 w ((xs.map a.eval ++ cv.toArray).toList) hA1 hheap
    (fun b hb => by simp only [renPhi]; rw [List.getElem?_eq_none (by simpa [hlen] using hb)])
    (by simp [hcl]) (fun i c v hc hvv => by
      simp only [List.getElem?_map, Option.map_eq_some_iff] at hc
      obtain ⟨c0, hc0, rfl⟩ := hc
      refine VR.ren hK 3 c0 v ?_ (hargs c0 (List.mem_of_getElem? hc0))
      simp only [Array.toList_append, Array.toList_map] at hvv
      rw [List.getElem?_append] at hc0 hvv
      simp only [List.length_map] at hc0 hvv
      split at hc0
      · rename_i hi
        rw [if_pos hi] at hvv
        simp only [List.getElem?_map, Option.map_eq_some_iff] at hc0 hvv
        obtain ⟨p, hp1, rfl⟩ := hc0
        obtain ⟨q, hq1, rfl⟩ := hvv
        rw [hp1] at hq1; cases hq1
        exact hv p
      · rename_i hi
        rw [if_neg hi] at hvv
        exact hch _ c0 v hc0 hvv)
  unfold Oper.wp
  rw [run_call hf a.eval o x xs ts cv.toArray ho hcx w]
  simp only [Oper.upon]
  rw [Array.toArray_toList] at hcall
  refine hcall.mono fun e w' hq => ?_
  obtain ⟨v, φ2, rfl, hc⟩ := hq
  simp only
  -- back
  have hlenσ : (hpl.map (·.1)).length = σ.length := by rw [List.length_map, hlen]
  have houtl : (mapSome outs).length = outs.length := length_mapSome outs
  have hlo : σ.length ≤ outs.length := by have := hc.len; rw [hlenσ, houtl] at this; exact this
  let φ3 : Phi := fun b => if b < hp.length then φ b else φ2 (σ.length + (b - hp.length))
  have hσlt : ∀ b ∈ σ, b < hp.length := by
    intro b hb
    obtain ⟨blk, h1, _⟩ := hσ b hb
    rcases Nat.lt_or_ge b hp.length with h | h
    · exact h
    · rw [nth_eq, List.getElem?_eq_none h] at h1; cases h1
  have htau : ∀ k, φ3 (tau σ hp.length k) = φ2 k := by
    intro k
    unfold tau
    cases hk : σ[k]? with
    | some b =>
      have hb := List.mem_of_getElem? hk
      have hkl : k < σ.length := (List.getElem?_eq_some_iff.1 hk).1
      simp only [φ3]
      rw [if_pos (hσlt b hb), ← hphi k b hk, hc.par k (by rw [hlenσ]; exact hkl)]
    | none =>
      have hkl : σ.length ≤ k := List.getElem?_eq_none_iff.1 hk
      simp only [φ3]
      rw [if_neg (by omega)]
      congr 1; omega
  have hφ3 : ∀ k y, φ2 k = some y → φ3 (tau σ hp.length k) = some y := fun k y h => by rw [htau]; exact h
  have hnewlt : ∀ k r z, σ.length ≤ k → φ2 k = some (r, z) → w.heap.size ≤ r ∧ r < w'.heap.size ∧ Mut φ2 (nth (mapSome outs)) r := by
    intro k r z hk hφ
    have hko : k < outs.length := by
      rcases Nat.lt_or_ge k outs.length with h | h
      · exact h
      · rw [hc.out k (by rw [houtl]; exact h)] at hφ; cases hφ
    have hb : nth (mapSome outs) k = some outs[k] := by rw [nth_mapSome]; simp [hko]
    refine ⟨hc.own k r z (by rw [hlenσ]; exact hk) hφ, ?_, ⟨k, outs[k], z, hb, hwr _ (List.getElem_mem hko), hφ⟩⟩
    rcases hc.heap.blk k _ hb with ⟨_, h0, _⟩ | ⟨r', cs, T, h1, h2, _⟩
    · rw [hφ] at h0; cases h0
    · rw [hφ] at h1; simp at h1; rw [h1.1]; exact (Array.getElem?_eq_some_iff.1 h2).1
  have hgrow : fz = [] → ∀ r, Ok A1 w.heap.size φ2 (nth (mapSome outs)) w' r → Grow A φ3 hp.length w w' r := by
    rintro hfe r ⟨h1, h2, h3⟩
    have hfresh : w.heap.size ≤ r → Grow A φ3 hp.length w w' r := fun hs => .inr ⟨hs, h2, fun ⟨b, z, hb, hφ⟩ => by
      simp only [φ3] at hφ
      rw [if_neg (by omega)] at hφ
      exact h3 (hnewlt _ r z (by omega) hφ).2.2⟩
    rcases h1 with (h1 | ⟨b, _, _, hb, _⟩) | h1
    · exact .inl h1
    · rw [hfe] at hb; simp at hb
    · exact hfresh h1
  have hside : ∀ (q : Prop), ((fz = []) ∨ q) → ((∀ r, Ok A1 w.heap.size φ2 (nth (mapSome outs)) w' r → Grow A φ3 hp.length w w' r) ∨ q) := fun q h => h.imp hgrow id
  have hbr : ∀ (k : Nat) (blk : Blk), outs[k]? = some blk → BR φ3 (Grow A φ3 hp.length w w') w' (tau σ hp.length k) (bakB (tau σ hp.length) blk) := by
    intro k blk hk
    have hb : nth (mapSome outs) k = some blk := by rw [nth_mapSome]; exact hk
    exact (hc.heap.blk k blk hb).bak hφ3 (fun h => by rw [htau]; exact h) (hc.heap.flat k blk hb) (hside _ (himm.imp id fun h => h.2 blk (List.mem_of_getElem? hk)))
  have hflat : ∀ (k : Nat) (blk : Blk), outs[k]? = some blk → (bakB (tau σ hp.length) blk).flat = true → Noref (bakB (tau σ hp.length) blk).es := by
    intro k blk hk hfl
    have hb : nth (mapSome outs) k = some blk := by rw [nth_mapSome]; exact hk
    unfold bakB at hfl ⊢
    split at hfl
    · exact hc.heap.flat k blk hb hfl
    · rename_i hf0; simp only at hfl; rw [hf0] at hfl; cases hfl
  refine k v w' φ3 ⟨?_, fun b hb => ?_, fun b hb => ?_, fun b r z hb hφ => ?_, fun b b' r z z' hb hb' h1 h2 => ?_, ?_, fun b blk hm => ?_, fun blk hm => ?_, fun b blk hm => ?_, fun j blk hj => ?_⟩
  · refine hc.keep.mono fun r hr => ?_
    obtain ⟨k, b, blk, z, g1, g2, g3, g4⟩ := hmut r hr
    have hkl : k < σ.length := (List.getElem?_eq_some_iff.1 g1).1
    refine ⟨b, z, .inr ⟨bakB (tau σ hp.length) outs[k], ?_⟩, g4⟩
    exact zipB_get g1 (by simp [hkl, show k < outs.length by omega])
  · simp only [φ3]; rw [if_pos hb]
  · have hb2 : hp.length + (outs.length - σ.length) ≤ b := by simpa [callR] using hb
    simp only [φ3]; rw [if_neg (by omega)]
    exact hc.out _ (by rw [houtl]; omega)
  · simp only [φ3] at hφ
    rw [if_neg (by omega)] at hφ
    obtain ⟨g1, g2, _⟩ := hnewlt _ r z (by omega) hφ
    exact .inl ⟨g1, g2⟩
  · simp only [φ3] at h1 h2
    rw [if_neg (by omega)] at h1 h2
    have live : ∀ k r z, σ.length ≤ k → φ2 k = some (r, z) → (nth (mapSome outs) k).isSome = true := by
      intro k r z hk hφ
      have hko : k < outs.length := by
        rcases Nat.lt_or_ge k outs.length with h | h
        · exact h
        · rw [hc.out k (by rw [houtl]; exact h)] at hφ; cases hφ
      rw [nth_mapSome]; simp [hko]
    have := hc.heap.inj _ _ r z z' (live _ r z (by omega) h1) (live _ r z' (by omega) h2) h1 h2
    omega
  · exact VR.bak hφ3 3 res v hc.val (hside _ (himm.imp id (·.1)))
  · obtain ⟨k, h1, h2⟩ := zipB_mem hm
    simp only [List.getElem?_map, Option.map_eq_some_iff] at h2
    obtain ⟨blk0, h2, rfl⟩ := h2
    rw [List.getElem?_take] at h2
    split at h2
    · exact hflat k blk0 h2
    · cases h2
  · simp only [callR, List.mem_map] at hm
    obtain ⟨blk0, hm, rfl⟩ := hm
    obtain ⟨j, hj⟩ := List.getElem?_of_mem (List.mem_of_mem_drop hm)
    exact hflat j blk0 hj
  · obtain ⟨k, h1, h2⟩ := zipB_mem hm
    simp only [List.getElem?_map, Option.map_eq_some_iff] at h2
    obtain ⟨blk0, h2, rfl⟩ := h2
    rw [List.getElem?_take] at h2
    split at h2
    · have := hbr k blk0 h2
      have ht : tau σ hp.length k = b := by unfold tau; rw [h1]
      rw [ht] at this; exact this
    · cases h2
  · simp only [callR, List.getElem?_map, Option.map_eq_some_iff] at hj
    obtain ⟨blk0, hj, rfl⟩ := hj
    rw [List.getElem?_drop] at hj
    have := hbr _ blk0 hj
    have ht : tau σ hp.length (σ.length + j) = hp.length + j := by
      unfold tau; rw [List.getElem?_eq_none (by omega)]; simp only; omega
    rw [ht] at this; exact this

end Go.AX

import Derived.Test.YtnpmcikbnnlmkaaAxP
/-! A call of a function by its contract. -/
namespace Go.AX
variable {P : Program}

/-- The heap as the callee sees it. -/
theorem ren_heap {φ : Phi} {A A' : Nat → Prop} {w : World} {σ fz : List Nat} {hp : List (Option Blk)} {hpl : List (Option Blk × Prop)} (hK : RenK φ A A' w hp fz) (hh : renH σ fz hp = some hpl)
    (hp2 : ∀ p ∈ hpl.map (·.2), p) (hn : nodupN σ = true) : HR (renPhi σ φ) A' w (nth (hpl.map (·.1))) ∧
      (∀ k blk', nth (hpl.map (·.1)) k = some blk' → ∃ b blk, σ[k]? = some b ∧ nth hp b = some blk ∧ blk'.wr = blk.wr) := by
  obtain ⟨hlen, hsp⟩ := mapO_spec hh
  have hlive : ∀ k blk', nth (hpl.map (·.1)) k = some blk' → ∃ b blk y, σ[k]? = some b ∧ nth hp b = some blk ∧ renB σ fz hp blk = some y ∧ y.1 = blk' ∧ y.2 := by
    intro k blk' hk
    rw [nth_eq] at hk
    cases hq : hpl[k]? with
    | none => simp [hq] at hk
    | some ob =>
      simp [hq] at hk
      obtain ⟨b, hb, hf⟩ := hsp k _ hq
      split at hf
      · rename_i blk hblk
        split at hf
        · rename_i y hy
          cases hf
          simp at hk
          exact ⟨b, blk, y, hb, hblk, hy, hk, hp2 _ (List.mem_map.2 ⟨_, List.mem_of_getElem? hq, rfl⟩)⟩
        · cases hf
      · cases hf; simp at hk
  have hwr : ∀ {blk y}, renB σ fz hp blk = some y → y.1.wr = blk.wr ∧ y.1.z = blk.z := by
    intro blk y h
    unfold renB at h
    split at h
    · cases h; exact ⟨rfl, rfl⟩
    · split at h
      · cases h; exact ⟨rfl, rfl⟩
      · cases h
  have hphi : ∀ k b, σ[k]? = some b → renPhi σ φ k = φ b := fun k b hk => by simp [renPhi, hk]
  have mono : ∀ {c u}, RT A w c u → VR (renPhi σ φ) A' w c u := fun h => .imm _ _ (h.mono hK.sub (fun _ _ => rfl))
  refine ⟨⟨fun k blk' hk => ?_, fun k blk' hk hfl => ?_, fun k k' r z z' hk hk' h1 h2 => ?_⟩, fun k blk' hk => ?_⟩
  · obtain ⟨b, blk, y, hb, hblk, hrb, rfl, hy2⟩ := hlive k blk' hk
    have hw2 := hwr hrb
    rcases hK.heap.blk b blk hblk with ⟨g1, g2, g3⟩ | ⟨r, cs, T, g1, g2, g3, g4⟩
    · left
      refine ⟨?_, by rw [hphi k b hb]; exact g2, by rw [hw2.1]; exact g3⟩
      unfold renB at hrb
      split at hrb
      · cases hrb; exact g1
      · rw [g1] at hrb; simp [mapO] at hrb; rw [← hrb]
    · right
      refine ⟨r, cs, T, by rw [hphi k b hb, hw2.2]; exact g1, g2, ?_, fun i e' he' => ?_⟩
      · rw [hw2.2]
        unfold renB at hrb
        split at hrb
        · cases hrb; exact g3
        · split at hrb
          · rename_i es hes; cases hrb; simp only [List.length_map]; rw [(mapO_spec hes).1]; exact g3
          · cases hrb
      · rw [hw2.2]
        unfold renB at hrb
        split at hrb
        · rename_i hflat
          cases hrb
          obtain ⟨k1, k2⟩ := g4 i e' he'
          refine ⟨k1, fun j c hj => ?_⟩
          obtain ⟨k3, u, k4, k5⟩ := k2 j c hj
          have hno := hK.heap.flat b _ hblk hflat e' (List.mem_of_getElem? he') c (List.mem_of_getElem? hj)
          exact ⟨k3, u, k4, mono (k5.noref_rt hno)⟩
        · split at hrb
          · rename_i es hes
            cases hrb
            simp only [List.getElem?_map, Option.map_eq_some_iff] at he'
            obtain ⟨x, hxe, rfl⟩ := he'
            obtain ⟨e, he, hre⟩ := (mapO_spec hes).2 i x hxe
            have hx2 := allP hy2 _ (List.mem_map.2 ⟨x, List.mem_of_getElem? hxe, rfl⟩)
            obtain ⟨k1, k2⟩ := g4 i e he
            have hones : ∀ c ∈ e.cells, c.one = true := fun c hc => by
              obtain ⟨j, hj⟩ := List.getElem?_of_mem hc; exact (k2 j c hj).1
            obtain ⟨r1, r2⟩ := renE_spec hre hx2 hones
            refine ⟨by rw [r1]; exact k1, fun j c' hj => ?_⟩
            obtain ⟨c, y, hc, hcc, rfl, hy⟩ := r2 j c' hj
            obtain ⟨k3, u, k4, k5⟩ := k2 j c hc
            obtain ⟨q1, q2⟩ := renC_spec hK hcc hy k3 k5
            exact ⟨q1, u, k4, q2⟩
          · cases hrb
  · obtain ⟨b, blk, y, hb, hblk, hrb, rfl, hy2⟩ := hlive k blk' hk
    unfold renB at hrb
    split at hrb
    · rename_i hf; cases hrb; exact hK.heap.flat b _ hblk hf
    · split at hrb
      · cases hrb; exact norefE_spec _ hfl
      · cases hrb
  · obtain ⟨blk, hb⟩ := Option.isSome_iff_exists.1 hk
    obtain ⟨blk2, hb2⟩ := Option.isSome_iff_exists.1 hk'
    obtain ⟨b1, q1, _, g1, g2, _⟩ := hlive k blk hb
    obtain ⟨b2, q2, _, g3, g4, _⟩ := hlive k' blk2 hb2
    rw [hphi k b1 g1] at h1
    rw [hphi k' b2 g3] at h2
    have := hK.heap.inj b1 b2 r z z' (by simp [g2]) (by simp [g4]) h1 h2
    subst this
    exact nodupN_spec hn k k' b1 g1 g3
  · obtain ⟨b, blk, y, hb, hblk, hrb, rfl, _⟩ := hlive k blk' hk
    exact ⟨b, blk, hb, hblk, (hwr hrb).1⟩

/-- Numbers of the callee's blocks, back in the caller. -/
def tau (σ : List Nat) (nb k : Nat) : Nat :=
  match σ[k]? with
  | some b => b
  | none => nb + (k - σ.length)

def bakV (τ : Nat → Nat) : Nat → AV → AV
  | 0, _ => .unk
  | d + 1, v =>
    match v with
    | .ptr b i j => .ptr (τ b) i j
    | .sl b i n => .sl (τ b) i n
    | .agg cs => .agg (cs.map (bakV τ d))
    | .tup cs => .tup (cs.map (bakV τ d))
    | .fn f cs => .fn f (cs.map (bakV τ d))
    | v => v

/-- No value of 'a' lies in memory that came in. -/
def immF : Nat → AV → Bool
  | 0, _ => false
  | d + 1, v =>
    match v with
    | .lst _ => false
    | .iptr _ => false
    | .agg cs => cs.all (immF d)
    | .tup cs => cs.all (immF d)
    | .fn _ cs => cs.all (immF d)
    | _ => true

theorem VR.bak {φ φ' : Phi} {A A' : Nat → Prop} {w : World} {τ : Nat → Nat} (hφ : ∀ k x, φ k = some x → φ' (τ k) = some x) : ∀ (d : Nat) (a : AV) (v : Value), VR φ A w a v → ((∀ r, A r → A' r) ∨ immF d a = true) → VR φ' A' w (bakV τ d a) v := by
  intro d
  induction d with
  | zero => intro a v _ _; exact .imm _ _ (.unk v)
  | succ d ih =>
    intro a v h hA
    have kids : ∀ (cs : List AV) (vs : List Value), ((∀ r, A r → A' r) ∨ cs.all (immF d) = true) → (∀ (i : Nat) c u, cs[i]? = some c → vs[i]? = some u → VR φ A w c u) →
        ∀ (i : Nat) c u, (cs.map (bakV τ d))[i]? = some c → vs[i]? = some u → VR φ' A' w c u := by
      intro cs vs hA hh i c u hc hu
      simp only [List.getElem?_map, Option.map_eq_some_iff] at hc
      obtain ⟨c0, hc0, rfl⟩ := hc
      exact ih c0 u (hh i c0 u hc0 hu) (hA.imp id fun hall => List.all_eq_true.1 hall c0 (List.mem_of_getElem? hc0))
    cases a with
    | ptr b i j => obtain ⟨r, z, hb, rfl⟩ := h.ptr_inv; exact .ptr _ i j r z (hφ _ _ hb)
    | sl b i n =>
      rcases h.sl_inv with ⟨rfl, a, rfl⟩ | ⟨r, z, cap, hb, hn, hr, rfl⟩
      · exact .slnil _ i a
      · exact .sl _ i n r z cap (hφ _ _ hb) hn hr
    | agg cs => obtain ⟨vs, rfl, hl, hh⟩ := h.agg_inv; exact .agg _ _ (by simpa using hl) (kids cs vs hA hh)
    | tup cs => obtain ⟨vs, rfl, hl, hh⟩ := h.tup_inv; exact .tup _ _ (by simpa using hl) (kids cs vs hA hh)
    | fn f cs => obtain ⟨vs, rfl, hl, hh⟩ := h.fn_inv; exact .fn f _ _ (by simpa using hl) (kids cs vs hA hh)
    | lst es =>
      rcases hA with hA | hA
      · cases h with | imm a v h => exact .imm _ _ (h.mono hA (fun _ _ => rfl))
      · simp [immF] at hA
    | iptr es =>
      rcases hA with hA | hA
      · cases h with | imm a v h => exact .imm _ _ (h.mono hA (fun _ _ => rfl))
      · simp [immF] at hA
    | unk => exact .imm _ _ (.unk _)
    | bool b => rw [h.bool_inv]; exact .imm _ _ (.bool _)
    | int k n => rw [h.int_inv]; exact .imm _ _ (.int _ _)
    | str s => rw [h.str_inv]; exact .imm _ _ (.str _)
    | nils => rw [h.nils_inv]; exact .imm _ _ .nils
    | con c => cases h with | imm a v h => cases h with | con v h => exact .imm _ _ (.con _ h)

def bakE (τ : Nat → Nat) (e : AV) : AV :=
  match e with
  | .agg cs => .agg (cs.map (bakV τ 1))
  | v => bakV τ 1 v

def bakB (τ : Nat → Nat) (blk : Blk) : Blk :=
  match blk.flat with
  | true => blk
  | false => { blk with es := blk.es.map (bakE τ) }

/-- No element lies in memory that came in. -/
def ImmB (blk : Blk) : Prop := ∀ e ∈ blk.es, ∀ c ∈ e.cells, immF 1 c = true

theorem bakV_one {τ : Nat → Nat} {c : AV} (h : c.one = true) (hf : ∀ f cs, c ≠ .fn f cs) : (bakV τ 1 c).one = true := by
  cases c <;> simp_all [bakV, AV.one]

theorem BR.bak {φ φ' : Phi} {A A' : Nat → Prop} {w : World} {τ : Nat → Nat} (hφ : ∀ k x, φ k = some x → φ' (τ k) = some x) {k : Nat} {blk : Blk} (hN : φ k = none → φ' (τ k) = none) (hfl : blk.flat = true → Noref blk.es)
    (h : BR φ A w k blk) (hA : (∀ r, A r → A' r) ∨ ImmB blk) : BR φ' A' w (τ k) (bakB τ blk) := by
  have hz : (bakB τ blk).z = blk.z ∧ (bakB τ blk).wr = blk.wr ∧ (bakB τ blk).es.length = blk.es.length := by unfold bakB; split <;> simp
  have cellOK : ∀ e ∈ blk.es, ∀ c ∈ e.cells, ∀ u, c.one = true → VR φ A w c u → (bakV τ 1 c).one = true ∧ VR φ' A' w (bakV τ 1 c) u := by
    intro e he c hc u h1 hv
    have := VR.bak (A' := A') hφ 1 c u hv (hA.imp id fun hall => hall e he c hc)
    refine ⟨?_, this⟩
    cases c with
    | fn f cs => simp [bakV, AV.one]
    | _ => exact bakV_one h1 (by simp)
  rcases h with ⟨g1, g2, g3⟩ | ⟨r, cs, T, g1, g2, g3, g4⟩
  · left; refine ⟨List.eq_nil_of_length_eq_zero (by rw [hz.2.2, g1]; rfl), hN g2, by rw [hz.2.1]; exact g3⟩
  · right
    refine ⟨r, cs, T, by rw [hz.1]; exact hφ _ _ g1, g2, by rw [hz.1, hz.2.2]; exact g3, fun i e' he' => ?_⟩
    rw [hz.1]
    unfold bakB at he'
    split at he'
    · rename_i hflat
      obtain ⟨k1, k2⟩ := g4 i e' he'
      refine ⟨k1, fun j c hj => ?_⟩
      obtain ⟨k3, u, k4, k5⟩ := k2 j c hj
      refine ⟨k3, u, k4, ?_⟩
      have hno := hfl hflat e' (List.mem_of_getElem? he') c (List.mem_of_getElem? hj)
      have := (cellOK e' (List.mem_of_getElem? he') c (List.mem_of_getElem? hj) u k3 k5).2
      have e1 : bakV τ 1 c = c := by cases c <;> simp_all [AV.noref, bakV]
      rw [e1] at this; exact this
    · simp only [List.getElem?_map, Option.map_eq_some_iff] at he'
      obtain ⟨e, he, rfl⟩ := he'
      obtain ⟨k1, k2⟩ := g4 i e he
      have hcells : (bakE τ e).cells = e.cells.map (bakV τ 1) := by
        cases e with
        | agg cs => rfl
        | unk => have := (k2 0 .unk rfl).1; simp [AV.one] at this
        | tup cs => have := (k2 0 (.tup cs) rfl).1; simp [AV.one] at this
        | _ => simp [bakE, AV.cells, bakV]
      refine ⟨by rw [hcells]; simpa using k1, fun j c' hj => ?_⟩
      rw [hcells] at hj
      simp only [List.getElem?_map, Option.map_eq_some_iff] at hj
      obtain ⟨c, hc, rfl⟩ := hj
      obtain ⟨k3, u, k4, k5⟩ := k2 j c hc
      obtain ⟨q1, q2⟩ := cellOK e (List.mem_of_getElem? he) c (List.mem_of_getElem? hc) u k3 k5
      exact ⟨q1, u, k4, q2⟩

end Go.AX

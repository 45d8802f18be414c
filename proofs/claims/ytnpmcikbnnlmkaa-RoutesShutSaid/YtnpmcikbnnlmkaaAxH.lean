import Derived.Test.YtnpmcikbnnlmkaaAxG
/-! make, slicing, stores. -/
namespace Go.AX
variable {φ : Phi} {A : Nat → Prop} {w : World} {P : Program}

/-- The zero element of a slice type: the element, its cells, its bytes. -/
def zeroEl (P : Program) (t : TypeId) : Option (AV × Nat × Nat) :=
  match P.underlying t with
  | some (.slice e) =>
    match P.info? e with
    | some ie => match ie.zero with
      | some zv => match (absV zv).known && Nat.beq (absV zv).cells.length ie.size && allOne (absV zv).cells && Nat.blt 0 ie.size with
        | true => some (absV zv, ie.size, ie.bytes)
        | false => none
      | none => none
    | none => none
  | _ => none

theorem zeroEl_spec {t : TypeId} {e : AV} {z by_ : Nat} (h : zeroEl P t = some (e, z, by_)) :
    ∃ el i zv, P.underlying t = some (.slice el) ∧ P.info? el = some i ∧ i.zero = some zv ∧ e = absV zv ∧ i.size = z ∧ i.bytes = by_ ∧ e.known = true ∧ e.cells.length = z ∧ allOne e.cells = true ∧ 0 < z := by
  unfold zeroEl at h
  split at h
  case h_2 => cases h
  rename_i el hu
  split at h
  case h_2 => cases h
  rename_i i hi
  split at h
  case h_2 => cases h
  rename_i zv hz
  split at h
  case h_2 => cases h
  rename_i hc
  simp only [Option.some.injEq, Prod.mk.injEq] at h
  obtain ⟨rfl, rfl, rfl⟩ := h
  simp only [Bool.and_eq_true] at hc
  obtain ⟨⟨⟨h1, h2⟩, h3⟩, h4⟩ := hc
  exact ⟨el, i, zv, hu, hi, hz, rfl, rfl, rfl, h1, Nat.eq_of_beq_eq_true h2, h3, by simp only [Nat.blt] at h4; exact Nat.le_of_ble_eq_true h4⟩

theorem ok_makeSlice {o : Oper} {ev : Operand → AV} {h : Hp} {nb : Nat} {t : TypeId} {x y : Operand} {kl kc : IntKind} {l c : Int} {e : AV} {z by_ : Nat}
    (ho : o.op = .makeSlice t x y) (hx : ev x = .int kl l) (hy : ev y = .int kc c) (ht : zeroEl P t = some (e, z, by_)) (h0 : 0 ≤ l) (hlc : l ≤ c) (hb : (by_ : Int) * c ≤ 281474976710656) (h63 : c ≤ 9223372036854775807) :
    OpOK P o ev h nb { v := .sl nb 0 l.toNat, new := [{ es := List.replicate l.toNat e, z, flat := norefL e.cells }] } := by
  refine .alloc (fun hf e' he c' hc => by rw [(List.mem_replicate.1 he).2] at hc; exact List.all_eq_true.1 hf c' hc) fun φ A w ρ hv _ => ?_
  obtain ⟨el, i, zv, hu, hi, hz, rfl, hsz, hby, hk, hl, hone, hpos⟩ := zeroEl_spec ht
  have h1 := hv x; rw [hx] at h1; have h1 := h1.int_inv
  have h2 := hv y; rw [hy] at h2; have h2 := h2.int_inv
  have hcr := (VR.imm (φ := φ) (A := A) (w := w) _ _ (RT.absV zv)).cr hk
  have hzs : zv.cells.size = z := by have := hcr.1; simp at this; omega
  have hrun := run_make (P := P) w t el i zv hu hi hz kl kc l c h0 hlc (by rw [hby]; exact hb) h63
  have hlc' : l.toNat ≤ c.toNat := by omega
  have hsize : (madeCells zv.cells (c.toNat * z)).toList.length = c.toNat * z := by simp [size_madeCells]
  refine ⟨(madeCells zv.cells (c.toNat * z)).toList, el, .slice (some ⟨w.heap.size, 0, none⟩) l.toNat c.toNat, ?_, ?_, fun k e' he => ?_, fun φ' A' w' hφ hr => ?_⟩
  · rw [hsz] at hrun
    simp [execOp, ho, h1, h2, hrun]
  · rw [hsize]; simp; exact Nat.mul_le_mul_right _ hlc'
  · have hlt := (List.getElem?_eq_some_iff.1 he).1
    simp at hlt
    rw [List.getElem?_replicate, if_pos (by omega)] at he
    cases he
    refine ⟨hl, fun j c' hj => ?_⟩
    have hjl := (List.getElem?_eq_some_iff.1 hj).1
    have hidx : k * z + j < c.toNat * z := by
      have hk' : k + 1 ≤ c.toNat := by omega
      have := Nat.mul_le_mul_right z hk'
      rw [Nat.succ_mul] at this; omega
    have hmod : (k * z + j) % z = j := by rw [Nat.mul_comm, Nat.mul_add_mod]; exact Nat.mod_eq_of_lt (by omega)
    have hju : j < zv.cells.toList.length := by simp; omega
    refine ⟨List.all_eq_true.1 hone c' (List.mem_of_getElem? hj), zv.cells.toList[j], ?_, hcr.2 j c' _ hj (by simp)⟩
    simp [madeCells, hidx, hzs, hmod, getElem!_pos zv.cells j (by omega)]
  · have := VR.sl (φ := φ') (A := A') (w := w') nb 0 l.toNat w.heap.size z c.toNat hφ hlc' (by rw [Nat.zero_add, ← hsize]; exact hr)
    simpa using this

theorem VR.sl_addr {b i n : Nat} {a : Option Addr} {cap : Nat} {len : Nat} (h : VR φ A w (.sl b i n) (.slice a len cap)) : len = n ∧ n ≤ cap := by
  rcases h.sl_inv with ⟨rfl, a', he⟩ | ⟨r, z, c, _, hn, _, he⟩ <;> cases he
  · exact ⟨rfl, Nat.le_refl _⟩
  · exact ⟨rfl, hn⟩

/-- A bound of a slice expression. -/
def bnd (ev : Operand → AV) (x : Option Operand) (d : Int) : Option Int :=
  match x with
  | none => some d
  | some x => match ev x with
    | .int _ n => some n
    | _ => none

theorem run_bounds {ev : Operand → AV} {ρ : Operand → Value} (hv : ∀ x, VR φ A w (ev x) (ρ x)) {lo hi mx : Option Operand} {n l u m : Int} {len cap : Nat} (isS : Bool)
    (hl : bnd ev lo 0 = some l) (hu : bnd ev hi n = some u) (hm : bnd ev mx n = some m) (hmx : mx.isSome = true → hi.isSome = true) (hn : n = len)
    (h0 : 0 ≤ l) (h1 : l ≤ u) (h2 : u ≤ m) (h3 : m ≤ n) (hc : len ≤ cap) :
    ∃ m' : Nat, u.toNat ≤ m' ∧ m' ≤ cap ∧ (Instr.sliceBounds isS len cap (lo.map ρ) (hi.map ρ) (mx.map ρ)).run P w = .ok (l.toNat, u.toNat, m') w := by
  have get : ∀ (x : Operand) (d k : Int), bnd ev (some x) d = some k → ∃ kk, ρ x = .int kk k := by
    intro x d k h
    simp only [bnd] at h
    split at h
    · rename_i kk nn he
      cases h
      have := hv x; rw [he] at this; exact ⟨kk, this.int_inv⟩
    · cases h
  have sb : ∀ (x : Operand) (d k : Int) (y : Nat) (cd : BoundsCode), bnd ev (some x) d = some k → 0 ≤ k → k ≤ y → (Instr.sliceBound (ρ x) y cd).run P w = .ok k.toNat w := by
    intro x d k y cd h ha hb
    obtain ⟨kk, he⟩ := get x d k h
    simp [Instr.sliceBound, he, asIntOf, ha, hb]
  cases mx with
  | none =>
    simp only [bnd, Option.some.injEq] at hm
    subst hm
    refine ⟨cap, by omega, Nat.le_refl _, ?_⟩
    cases hi with
    | none =>
      simp only [bnd, Option.some.injEq] at hu
      subst hu
      cases lo with
      | none => simp only [bnd, Option.some.injEq] at hl; subst hl; subst hn; simp [Instr.sliceBounds]
      | some x =>
        have := sb x 0 l len (if false then .slice3C else .sliceB) hl h0 (by omega)
        subst hn
        simp [Instr.sliceBounds] at this ⊢
        simp [this]
    | some y =>
      have hy := sb y n u cap (if isS then .sliceAcap else .sliceAlen) hu (by omega) (by omega)
      cases lo with
      | none =>
        simp only [bnd, Option.some.injEq] at hl; subst hl
        simp [Instr.sliceBounds, hy]
      | some x =>
        have hx := sb x 0 l u.toNat .sliceB hl h0 (by omega)
        simp [Instr.sliceBounds, hy, hx]
  | some q =>
    refine ⟨m.toNat, by omega, by omega, ?_⟩
    have hq := sb q n m cap (if isS then .slice3Acap else .slice3Alen) hm (by omega) (by omega)
    cases hi with
    | none => simp at hmx
    | some y =>
      have hy := sb y n u m.toNat .slice3B hu (by omega) (by omega)
      cases lo with
      | none =>
        simp only [bnd, Option.some.injEq] at hl; subst hl
        simp [Instr.sliceBounds, hq, hy]
      | some x =>
        have hx := sb x 0 l u.toNat .slice3C hl h0 (by omega)
        simp [Instr.sliceBounds, hq, hy, hx]

theorem ok_slice_sl {o : Oper} {ev : Operand → AV} {h : Hp} {nb : Nat} {t : TypeId} {x : Operand} {lo hi mx : Option Operand} {b i n z : Nat} {l u m : Int} {blk : Blk}
    (ho : o.op = .slice t x lo hi mx) (hx : ev x = .sl b i n) (ht : elSz P t = some (none, z)) (hb : h b = some blk) (hz : blk.z = z)
    (hl : bnd ev lo 0 = some l) (hu : bnd ev hi n = some u) (hm : bnd ev mx n = some m) (hmx : mx.isSome = true → hi.isSome = true)
    (h0 : 0 ≤ l ∧ l ≤ u ∧ u ≤ m ∧ m ≤ n) : OpOK P o ev h nb { v := .sl b (i + l.toNat) (u.toNat - l.toNat) } := by
  refine .value fun φ A w ρ _ hv hh => ?_
  have h1 := hv x; rw [hx] at h1
  obtain ⟨e, inf, hun, hi', hsz⟩ := elSz_slice ht
  obtain ⟨h0, h01, h02, h03⟩ := h0
  have fin : ∀ (a : Option Addr) (cap : Nat), ρ x = .slice a n cap → n ≤ cap → (∀ m' : Nat, u.toNat ≤ m' → m' ≤ cap → VR φ A w (.sl b (i + l.toNat) (u.toNat - l.toNat))
      (.slice (if m' = l.toNat then a else a.map (·.add (l.toNat * inf.size))) (u.toNat - l.toNat) (m' - l.toNat))) →
      ∃ v', (execOp ρ o).run P w = .ok (.value v') w ∧ VR φ A w (.sl b (i + l.toNat) (u.toNat - l.toNat)) v' := by
    intro a cap he hc hvr
    obtain ⟨m', hm1, hm2, hr⟩ := run_bounds (P := P) hv (len := n) (cap := cap) true hl hu hm hmx rfl h0 h01 h02 h03 hc
    refine ⟨_, ?_, hvr m' hm1 hm2⟩
    simp [execOp, ho, he, Instr.sliceAt, Instr.slice, run_underlying hun, hr, sizeOf, typeInfo, hi']
  rcases h1.sl_inv with ⟨hn, a, he⟩ | ⟨r, z', cap, hφ, hn, hrow, he⟩
  · refine fin a 0 (by rw [he, hn]) (by omega) fun m' hm1 hm2 => ?_
    have hl0 : l.toNat = 0 := by omega
    have hu0 : u.toNat = 0 := by omega
    have hm0 : m' = 0 := by omega
    rw [hl0, hu0, hm0]
    exact .slnil b _ a
  · have hzz : z' = blk.z := by
      rcases hh.blk b blk hb with ⟨_, hno, _⟩ | ⟨r', cs, T, hφ', _⟩
      · rw [hφ] at hno; cases hno
      · rw [hφ] at hφ'; simp at hφ'; omega
    refine fin _ cap he hn fun m' hm1 hm2 => ?_
    by_cases hml : m' = l.toNat
    · rw [if_pos hml]
      have e1 : u.toNat - l.toNat = 0 := by omega
      have e2 : m' - l.toNat = 0 := by omega
      rw [e1, e2]
      exact .slnil b _ _
    · rw [if_neg hml]
      have := VR.sl (φ := φ) (A := A) (w := w) b (i + l.toNat) (u.toNat - l.toNat) r z' (m' - l.toNat) hφ (by omega) (by
        refine Nat.le_trans (Nat.mul_le_mul_right _ ?_) hrow; omega)
      have ead : (⟨r, i * z', none⟩ : Addr).add (l.toNat * inf.size) = ⟨r, (i + l.toNat) * z', none⟩ := by
        rw [Addr.add_lit, hsz, ← hz, ← hzz, Nat.add_mul]
      simp only [Option.map_some, ead]
      exact this

end Go.AX

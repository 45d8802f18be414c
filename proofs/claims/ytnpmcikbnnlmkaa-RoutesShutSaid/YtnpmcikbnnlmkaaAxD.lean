import Derived.Test.YtnpmcikbnnlmkaaAxC
/-! Operations that read memory, and places in it. -/
namespace Go.AX

def aggD : TypeDesc → Bool
  | .struct _ => true
  | .array _ _ => true
  | _ => false

def tsz (P : Program) (t : TypeId) : Option (Nat × Bool) :=
  match P.info? t, P.underlying t with
  | some i, some d => some (i.size, aggD d)
  | _, _ => none

def mkV (ag : Bool) (cs : List AV) : Option AV :=
  match ag, cs with
  | true, cs => some (.agg cs)
  | false, [c] => some c
  | false, _ => none

/-- From 'ad' on the cells 'cs' lie in memory. -/
def At (φ : Phi) (A : Nat → Prop) (w : World) (ad : Addr) (cs : List AV) : Prop :=
  ∃ us : List Value, us.length = cs.length ∧ (∀ (k : Nat) u, us[k]? = some u → w.cell? (ad.add k) = some u) ∧
    ∀ (k : Nat) c u, cs[k]? = some c → us[k]? = some u → c.one = true ∧ VR φ A w c u

variable {φ : Phi} {A : Nat → Prop} {w : World} {P : Program}

theorem add_add (ad : Addr) (i j : Nat) (h : ad.spot = none) : (ad.add i).add j = ad.add (i + j) := by
  cases ad with | mk b o s =>
  simp only at h; subst h
  simp [Go.Addr.add_lit, Nat.add_assoc]

theorem At.sub {ad : Addr} {cs : List AV} (h : At φ A w ad cs) (hs : ad.spot = none) (j s : Nat) : At φ A w (ad.add j) ((cs.drop j).take s) := by
  obtain ⟨us, hl, hc, hv⟩ := h
  refine ⟨(us.drop j).take s, by simp [hl], fun k u hk => ?_, fun k c u hk hu => ?_⟩
  · rw [List.getElem?_take] at hk
    split at hk
    · rw [List.getElem?_drop] at hk
      rw [add_add _ _ _ hs]
      exact hc (j + k) u hk
    · cases hk
  · rw [List.getElem?_take] at hk hu
    split at hk
    · rename_i hlt
      rw [if_pos hlt] at hu
      rw [List.getElem?_drop] at hk hu
      exact hv (j + k) c u hk hu
    · cases hk

theorem run_load_at {t : TypeId} {s : Nat} {ag : Bool} {ad : Addr} {cs : List AV} {v : AV} (hat : At φ A w ad cs) (_hs : ad.spot = none) (ht : tsz P t = some (s, ag)) (hl : cs.length = s) (hm : mkV ag cs = some v) :
    ∃ u, (loadVar t ad).run P w = .ok u w ∧ VR φ A w v u := by
  obtain ⟨us, hul, hc, hv⟩ := hat
  unfold tsz at ht
  cases hi : P.info? t with
  | none => simp [hi] at ht
  | some i =>
    cases hu : P.underlying t with
    | none => simp [hi, hu] at ht
    | some d =>
      simp only [hi, hu, Option.some.injEq, Prod.mk.injEq] at ht
      obtain ⟨rfl, rfl⟩ := ht
      have hcs : (loadCells ad us.length).run P w = .ok us.toArray w := run_loadCells_list w ad us hc
      have hlen : us.length = i.size := by omega
      rw [hlen] at hcs
      have single : aggD d = false → ∃ u, (load ad).run P w = .ok u w ∧ VR φ A w v u := by
        intro hd
        rw [hd] at hm
        unfold mkV at hm
        split at hm <;> try (simp_all; done)
        rename_i c
        cases hm
        simp at hl
        match us, hul with
        | [u], _ =>
          have h0 := hc 0 u rfl
          simp only [Addr.add, if_true] at h0
          exact ⟨u, by simp [h0], (hv 0 _ u rfl rfl).2⟩
      have aggr : aggD d = true → VR φ A w v (.agg us.toArray) := by
        intro hd
        rw [hd] at hm
        simp [mkV] at hm
        subst hm
        exact .agg _ _ hul fun k c u h1 h2 => (hv k c u h1 h2).2
      unfold loadVar isAgg
      cases d <;> first
        | (refine ⟨_, ?_, aggr rfl⟩; simp [run_underlying hu, sizeOf, typeInfo, hi, hcs]; done)
        | (obtain ⟨u, h1, h2⟩ := single rfl
           refine ⟨u, ?_, h2⟩
           simp only [Sem.run_bind, run_underlying hu, Result.andThen_ok, Sem.run_pure]
           simpa using h1)

theorem HR.at {h : Hp} (hh : HR φ A w h) {b : Nat} {blk : Blk} (hb : h b = some blk) {i : Nat} {e : AV} (he : blk.es[i]? = some e) {r z : Nat} (hφ : φ b = some (r, z)) :
    z = blk.z ∧ e.cells.length = z ∧ At φ A w ⟨r, i * z, none⟩ e.cells := by
  rcases hh.blk b blk hb with ⟨h0, _⟩ | ⟨r', cs, T, hφ', hr, hsz, hel⟩
  · rw [h0] at he; simp at he
  rw [hφ] at hφ'
  simp only [Option.some.injEq, Prod.mk.injEq] at hφ'
  obtain ⟨rfl, rfl⟩ := hφ'
  obtain ⟨hl, hc⟩ := hel i e he
  refine ⟨rfl, hl, (List.range blk.z).map fun j => cs.getD (i * blk.z + j) undef, by simp [hl], fun k u hk => ?_, fun k c u hk hu => ?_⟩
  · simp only [List.getElem?_map, Option.map_eq_some_iff] at hk
    obtain ⟨j, hj, rfl⟩ := hk
    have hjk : j = k := by
      have := List.getElem?_eq_some_iff.1 hj
      obtain ⟨h1, h2⟩ := this
      simpa using h2.symm
    subst hjk
    have hlt : j < blk.z := by have := (List.getElem?_eq_some_iff.1 hj).1; simpa using this
    obtain ⟨_, v, hv, _⟩ := hc j e.cells[j] (by simp)
    rw [Addr.add_lit, cell_of_row w r _ cs T (0, 0) hr]
    simp [hv]
  · simp only [List.getElem?_map, Option.map_eq_some_iff] at hu
    obtain ⟨j, hj, rfl⟩ := hu
    have hjk : j = k := by
      obtain ⟨h1, h2⟩ := List.getElem?_eq_some_iff.1 hj
      simpa using h2.symm
    subst hjk
    obtain ⟨h1, v, hv, hvr⟩ := hc j c hk
    refine ⟨h1, ?_⟩
    simpa [hv] using hvr

theorem ok_load_ptr {o : Oper} {ev : Operand → AV} {h : Hp} {nb : Nat} {t : TypeId} {x : Operand} {b i j s : Nat} {blk : Blk} {e v : AV} {ag : Bool}
    (ho : o.op = .load t x) (hx : ev x = .ptr b i j) (hb : h b = some blk) (he : blk.es[i]? = some e) (ht : tsz P t = some (s, ag))
    (hl : ((e.cells.drop j).take s).length = s) (hm : mkV ag ((e.cells.drop j).take s) = some v) : OpOK P o ev h nb { v } := by
  refine .value fun φ A w ρ _ hv hh => ?_
  have h1 := hv x; rw [hx] at h1
  obtain ⟨r, z, hφ, hp⟩ := h1.ptr_inv
  obtain ⟨rfl, _, hat⟩ := hh.at hb he hφ
  have hat' := hat.sub rfl j s
  rw [Addr.add_lit] at hat'
  obtain ⟨u, hr, hvr⟩ := run_load_at (P := P) hat' rfl ht hl hm
  exact ⟨u, by simp [execOp, ho, Instr.loadAt, hp, Instr.sureAddr, hr], hvr⟩

theorem At.of_iptr {cs : List AV} {r o : Nat} {g : Nat → Value} (h1 : ∀ c ∈ cs, c.one = true) (hc : ∀ j, j < cs.length → w.cell? ⟨r, o + j, none⟩ = some (g j))
    (h : ∀ (j : Nat) c, cs[j]? = some c → RT A w c (g j)) : At φ A w ⟨r, o, none⟩ cs := by
  refine ⟨(List.range cs.length).map g, by simp, fun k u hk => ?_, fun k c u hk hu => ?_⟩
  · simp only [List.getElem?_map, Option.map_eq_some_iff] at hk
    obtain ⟨j, hj, rfl⟩ := hk
    obtain ⟨h1, h2⟩ := List.getElem?_eq_some_iff.1 hj
    simp at h1 h2; subst h2
    rw [Addr.add_lit]
    exact hc _ h1
  · simp only [List.getElem?_map, Option.map_eq_some_iff] at hu
    obtain ⟨j, hj, rfl⟩ := hu
    obtain ⟨_, h2⟩ := List.getElem?_eq_some_iff.1 hj
    simp at h2; subst h2
    exact ⟨h1 c (List.mem_of_getElem? hk), .imm _ _ (h _ c hk)⟩

theorem ok_load_iptr {o : Oper} {ev : Operand → AV} {h : Hp} {nb : Nat} {t : TypeId} {x : Operand} {s : Nat} {cs : List AV} {v : AV} {ag : Bool}
    (ho : o.op = .load t x) (hx : ev x = .iptr cs) (ht : tsz P t = some (s, ag)) (hl : (cs.take s).length = s) (hm : mkV ag (cs.take s) = some v) : OpOK P o ev h nb { v } := by
  refine .value fun φ A w ρ _ hv hh => ?_
  have h1 := hv x; rw [hx] at h1
  obtain ⟨r, o', g, hp, hA, hone, hc, hrt⟩ := h1.iptr_inv
  have hat := (At.of_iptr (φ := φ) hone hc hrt).sub rfl 0 s
  simp only [List.drop_zero, Addr.add, if_true] at hat
  obtain ⟨u, hr, hvr⟩ := run_load_at (P := P) hat rfl ht hl hm
  exact ⟨u, by simp [execOp, ho, Instr.loadAt, hp, Instr.sureAddr, hr], hvr⟩

/-- The place of a field. -/
def fldOff (P : Program) (t : TypeId) (f : Nat) : Option Nat :=
  match P.underlying t with
  | some (.struct fs) => match fs[f]? with
    | some fd => match tsz P fd.type with
      | some (0, _) => none
      | some _ => some fd.offset
      | none => none
    | none => none
  | _ => none

theorem run_fieldAt {t : TypeId} {f off : Nat} (hf : fldOff P t f = some off) (ad : Addr) :
    (Instr.fieldAt t (.pointer (some ad)) f).run P w = .ok (.pointer (some (ad.add off))) w := by
  unfold fldOff at hf
  split at hf
  · rename_i fs hu
    split at hf
    · rename_i fd hfd
      cases hi : P.info? fd.type with
      | none => simp [tsz, hi] at hf
      | some i =>
        cases hd : P.underlying fd.type with
        | none => simp [tsz, hi, hd] at hf
        | some d =>
          simp only [tsz, hi, hd] at hf
          by_cases hsz : i.size = 0
          · simp [hsz] at hf
          · have hoff : fd.offset = off := by
              split at hf
              · rename_i x h0; simp only [Option.some.injEq, Prod.mk.injEq] at h0; exact absurd h0.1 hsz
              · simpa using hf
              · cases hf
            subst hoff
            simp [Instr.fieldAt, run_underlying hu, hfd, Instr.sureAddr, fieldPlace, sizeOf, typeInfo, hi, hsz]
    · cases hf
  · cases hf

end Go.AX

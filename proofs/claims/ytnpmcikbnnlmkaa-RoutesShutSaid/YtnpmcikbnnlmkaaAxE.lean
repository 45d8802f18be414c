import Derived.Test.YtnpmcikbnnlmkaaAxD
/-! Places, and operations that make new blocks. -/
namespace Go.AX
variable {φ : Phi} {A : Nat → Prop} {w : World} {P : Program}

theorem ok_fieldAddr_ptr {o : Oper} {ev : Operand → AV} {h : Hp} {nb : Nat} {t : TypeId} {x : Operand} {b i j f off : Nat}
    (ho : o.op = .fieldAddr t x f) (hx : ev x = .ptr b i j) (hf : fldOff P t f = some off) : OpOK P o ev h nb { v := .ptr b i (j + off) } := by
  refine .value fun φ A w ρ _ hv _ => ?_
  have h1 := hv x; rw [hx] at h1
  obtain ⟨r, z, hφ, hp⟩ := h1.ptr_inv
  refine ⟨.pointer (some ⟨r, i * z + (j + off), none⟩), ?_, .ptr b i (j + off) r z hφ⟩
  simp [execOp, ho, hp, run_fieldAt hf, Addr.add_lit, Nat.add_assoc]

theorem VR.iptr_mk {cs : List AV} {r o : Nat} {g : Nat → Value} (hA : cs ≠ [] → A r) (h1 : ∀ c ∈ cs, c.one = true) (hc : ∀ j, j < cs.length → w.cell? ⟨r, o + j, none⟩ = some (g j))
    (h : ∀ (j : Nat) c, cs[j]? = some c → RT A w c (g j)) (k : Nat) : VR φ A w (.iptr (cs.drop k)) (.pointer (some ⟨r, o + k, none⟩)) := by
  refine .imm _ _ (.iptr _ r (o + k) (fun j => g (k + j)) (fun hn => hA fun he => hn (by simp [he])) (fun c hm => h1 c (List.mem_of_mem_drop hm)) (fun j hj => ?_) fun j c hj => ?_)
  · rw [Nat.add_assoc]; exact hc (k + j) (by simp at hj; omega)
  · rw [List.getElem?_drop] at hj; exact h _ _ hj

theorem ok_fieldAddr_iptr {o : Oper} {ev : Operand → AV} {h : Hp} {nb : Nat} {t : TypeId} {x : Operand} {cs : List AV} {f off : Nat}
    (ho : o.op = .fieldAddr t x f) (hx : ev x = .iptr cs) (hf : fldOff P t f = some off) : OpOK P o ev h nb { v := .iptr (cs.drop off) } := by
  refine .value fun φ A w ρ _ hv _ => ?_
  have h1 := hv x; rw [hx] at h1
  obtain ⟨r, o', g, hp, hA, hone, hc, hrt⟩ := h1.iptr_inv
  refine ⟨.pointer (some ⟨r, o' + off, none⟩), ?_, VR.iptr_mk hA hone hc hrt off⟩
  simp [execOp, ho, hp, run_fieldAt hf, Addr.add_lit]

/-- The size of a slice's or an array's elements, and the array's length. -/
def elSz (P : Program) (t : TypeId) : Option (Option Nat × Nat) :=
  match P.underlying t with
  | some (.slice e) => match P.info? e with | some i => some (none, i.size) | none => none
  | some (.array n e) => match P.info? e with | some i => some (some n, i.size) | none => none
  | _ => none

theorem elSz_slice {t : TypeId} {z : Nat} (h : elSz P t = some (none, z)) : ∃ e i, P.underlying t = some (.slice e) ∧ P.info? e = some i ∧ i.size = z := by
  unfold elSz at h
  split at h
  · rename_i e hu
    split at h
    · rename_i i hi; simp at h; exact ⟨e, i, hu, hi, h⟩
    · cases h
  · split at h <;> simp at h
  · cases h
theorem elSz_array {t : TypeId} {n z : Nat} (h : elSz P t = some (some n, z)) : ∃ e i, P.underlying t = some (.array n e) ∧ P.info? e = some i ∧ i.size = z := by
  unfold elSz at h
  split at h
  · split at h <;> simp at h
  · rename_i m e hu
    split at h
    · rename_i i hi; simp at h; obtain ⟨rfl, h⟩ := h; exact ⟨e, i, hu, hi, h⟩
    · cases h
  · cases h

theorem ok_indexAddr_sl {o : Oper} {ev : Operand → AV} {h : Hp} {nb : Nat} {t : TypeId} {x y : Operand} {b i n z : Nat} {k : IntKind} {m : Int} {blk : Blk}
    (ho : o.op = .indexAddr t x y) (hx : ev x = .sl b i n) (hy : ev y = .int k m) (ht : elSz P t = some (none, z)) (hb : h b = some blk) (hz : blk.z = z) (hm : 0 ≤ m ∧ m < n) :
    OpOK P o ev h nb { v := .ptr b (i + m.toNat) 0 } := by
  refine .value fun φ A w ρ _ hv hh => ?_
  have h1 := hv x; rw [hx] at h1
  have h2 := hv y; rw [hy] at h2; have h2 := h2.int_inv
  obtain ⟨e, inf, hu, hi, hsz⟩ := elSz_slice ht
  rcases h1.sl_inv with ⟨hn, _⟩ | ⟨r, z', cap, hφ, hn, hr, hp⟩
  · omega
  have hzz : z' = z := by
    rcases hh.blk b blk hb with ⟨_, hn, _⟩ | ⟨r', cs, T, hφ', _⟩
    · rw [hφ] at hn; cases hn
    · rw [hφ] at hφ'; simp at hφ'; omega
  subst hzz
  refine ⟨.pointer (some ⟨r, (i + m.toNat) * z' + 0, none⟩), ?_, .ptr b _ 0 r z' hφ⟩
  simp [execOp, ho, hp, h2, Instr.indexAt, asIntOf, run_underlying hu, sizeOf, typeInfo, hi, hsz, hm.1, hm.2, Addr.add_lit, Nat.add_mul]

theorem ok_indexAddr_lst {o : Oper} {ev : Operand → AV} {h : Hp} {nb : Nat} {t : TypeId} {x y : Operand} {z : Nat} {k : IntKind} {m : Int} {es : List AV} {e : AV}
    (ho : o.op = .indexAddr t x y) (hx : ev x = .lst es) (hy : ev y = .int k m) (ht : elSz P t = some (none, z)) (hm : 0 ≤ m) (he : es[m.toNat]? = some e) (hl : e.cells.length = z) :
    OpOK P o ev h nb { v := .iptr e.cells } := by
  refine .value fun φ A w ρ _ hv hh => ?_
  have h1 := hv x; rw [hx] at h1
  have h2 := hv y; rw [hy] at h2; have h2 := h2.int_inv
  obtain ⟨el, inf, hu, hi, hsz⟩ := elSz_slice ht
  have hlt := (List.getElem?_eq_some_iff.1 he).1
  have hmem : e ∈ es := List.mem_of_getElem? he
  have hne : es ≠ [] := List.ne_nil_of_mem hmem
  rcases h1.lst_inv with ⟨h0, _⟩ | ⟨r, o', cap, z', g, hp, hcap, hA, hz, hone, hc, hrt⟩
  · exact absurd h0 hne
  have hzz : z' = z := by rw [← hz e hmem, hl]
  subst hzz
  refine ⟨.pointer (some ⟨r, o' + m.toNat * z', none⟩), ?_, ?_⟩
  · have hlt' : m < es.length := by omega
    simp [execOp, ho, hp, h2, Instr.indexAt, asIntOf, run_underlying hu, sizeOf, typeInfo, hi, hsz, hm, hlt', Addr.add_lit]
  · have := VR.iptr_mk (φ := φ) (A := A) (w := w) (cs := e.cells) (r := r) (o := o' + m.toNat * z') (g := g m.toNat) (fun _ => hA hne) (hone e hmem) (fun j hj => hc _ j hlt (by omega)) (fun j c hj => hrt _ j e c he hj) 0
    simpa using this

theorem ok_indexAddr_arr {o : Oper} {ev : Operand → AV} {h : Hp} {nb : Nat} {t : TypeId} {x y : Operand} {b i j n z : Nat} {k : IntKind} {m : Int}
    (ho : o.op = .indexAddr t x y) (hx : ev x = .ptr b i j) (hy : ev y = .int k m) (ht : elSz P t = some (some n, z)) (hm : 0 ≤ m ∧ m < n) :
    OpOK P o ev h nb { v := .ptr b i (j + m.toNat * z) } := by
  refine .value fun φ A w ρ _ hv hh => ?_
  have h1 := hv x; rw [hx] at h1
  have h2 := hv y; rw [hy] at h2; have h2 := h2.int_inv
  obtain ⟨e, inf, hu, hi, hsz⟩ := elSz_array ht
  obtain ⟨r, z', hφ, hp⟩ := h1.ptr_inv
  refine ⟨.pointer (some ⟨r, i * z' + (j + m.toNat * z), none⟩), ?_, .ptr b i _ r z' hφ⟩
  simp [execOp, ho, hp, h2, Instr.indexAt, Instr.sureAddr, asIntOf, run_underlying hu, sizeOf, typeInfo, hi, hsz, hm.1, hm.2, Addr.add_lit, Nat.add_assoc]

theorem ok_len {o : Oper} {ev : Operand → AV} {h : Hp} {nb : Nat} {x : Operand} {ts : Array TypeId} {t : TypeId} {e : TypeId} {n : Nat}
    (ho : o.op = .call { callee := .builtin .len, args := #[x], argTypes := ts }) (hts : ts[0]? = some t) (hu : P.underlying t = some (.slice e))
    (hx : (∃ b i, ev x = .sl b i n) ∨ (∃ es, ev x = .lst es ∧ es.length = n) ∨ (ev x = .nils ∧ n = 0)) : OpOK P o ev h nb { v := .int .i64 n } := by
  refine .value fun φ A w ρ _ hv hh => ⟨.int .i64 n, ?_, .imm _ _ (.int _ _)⟩
  have hp : ∃ a c, ρ x = .slice a n c := by
    have h1 := hv x
    rcases hx with ⟨b, i, hx⟩ | ⟨es, hx, rfl⟩ | ⟨hx, rfl⟩ <;> rw [hx] at h1
    · rcases h1.sl_inv with ⟨rfl, a, he⟩ | ⟨r, z, cap, _, _, _, he⟩ <;> exact ⟨_, _, he⟩
    · rcases h1.lst_inv with ⟨rfl, a, he⟩ | ⟨r, o', cap, z, g, he, _⟩ <;> exact ⟨_, _, he⟩
    · exact ⟨_, _, h1.nils_inv⟩
  obtain ⟨a, c, he⟩ := hp
  simp [execOp, ho, resolve, invoke, builtin, Builtin.len_, hts, run_underlying hu, he, goInt]

theorem ok_len_arr {o : Oper} {ev : Operand → AV} {h : Hp} {nb : Nat} {x : Operand} {ts : Array TypeId} {t : TypeId} {e : TypeId} {n : Nat}
    (ho : o.op = .call { callee := .builtin .len, args := #[x], argTypes := ts }) (hts : ts[0]? = some t) (hu : P.underlying t = some (.array n e)) : OpOK P o ev h nb { v := .int .i64 n } := by
  refine .value fun φ A w ρ _ hv hh => ⟨.int .i64 n, ?_, .imm _ _ (.int _ _)⟩
  simp [execOp, ho, resolve, invoke, builtin, Builtin.len_, hts, run_underlying hu, goInt]

theorem ok_len_str {o : Oper} {ev : Operand → AV} {h : Hp} {nb : Nat} {x : Operand} {ts : Array TypeId} {t : TypeId} {s : ByteArray}
    (ho : o.op = .call { callee := .builtin .len, args := #[x], argTypes := ts }) (hts : ts[0]? = some t) (hu : P.underlying t = some .string) (hx : ev x = .str s) : OpOK P o ev h nb { v := .int .i64 s.size } := by
  refine .value fun φ A w ρ _ hv hh => ⟨.int .i64 s.size, ?_, .imm _ _ (.int _ _)⟩
  have h1 := hv x; rw [hx] at h1; have h1 := h1.str_inv
  simp [execOp, ho, resolve, invoke, builtin, Builtin.len_, hts, run_underlying hu, h1, goInt]

theorem rowSize_push (w w' : World) (o : Obj) (h : w'.heap = w.heap.push o) (r : Nat) : rowSize w r ≤ rowSize w' r := by
  unfold rowSize
  rw [h]
  by_cases he : r = w.heap.size
  · subst he; rw [Array.getElem?_eq_none (Nat.le_refl _)]; exact Nat.zero_le _
  · rw [Array.getElem?_push, if_neg he]; exact Nat.le_refl _

/-- A new block behind all. -/
theorem OpOK.alloc {o : Oper} {ev : Operand → AV} {h : Hp} {nb : Nat} {v : AV} {es : List AV} {z : Nat} {flat : Bool} (hfl : flat = true → Noref es)
    (H : ∀ (φ : Phi) (A : Nat → Prop) (w : World) (ρ : Operand → Value), (∀ x, VR φ A w (ev x) (ρ x)) → HR φ A w h →
      ∃ (us : List Value) (T : TypeId) (v' : Value), (execOp ρ o).run P w = .ok (.value v') (w.alloc (.cells us.toArray T)) ∧ es.length * z ≤ us.length ∧
        (∀ (i : Nat) e, es[i]? = some e → e.cells.length = z ∧ ∀ (j : Nat) c, e.cells[j]? = some c → c.one = true ∧ ∃ u, us[i * z + j]? = some u ∧ VR φ A w c u) ∧
        ∀ (φ' : Phi) (A' : Nat → Prop) (w' : World), φ' nb = some (w.heap.size, z) → us.length ≤ rowSize w' w.heap.size → VR φ' A' w' v v') :
    OpOK P o ev h nb { v, new := [{ es, z, flat }] } := by
  intro φ A w a K Q hA hv hh hn k
  obtain ⟨us, T, v', hr, hsz, hcell, hval⟩ := H φ A w a.eval hv hh
  unfold Oper.wp
  rw [hr]
  have hnew : (w.alloc (.cells us.toArray T)).heap[w.heap.size]? = some (.cells us.toArray T (0, 0)) := heap_alloc_new w _
  have hrow : rowSize (w.alloc (.cells us.toArray T)) w.heap.size = us.length := by unfold rowSize; rw [hnew]; simp
  let φ' : Phi := fun b => if b = nb then some (w.heap.size, z) else φ b
  have hφ : ∀ b x, φ b = some x → φ' b = some x := fun b x hb => by
    simp only [φ']; split
    · rename_i he; subst he; rw [hn b (Nat.le_refl _)] at hb; cases hb
    · exact hb
  refine k v' _ φ' ⟨⟨rfl, rfl, rfl, by simp, fun r hr _ => RowKit.Below.heap_alloc w _ r hr, rowSize_push w _ _ rfl⟩, fun b hb => ?_, fun b hb => ?_, fun b r z' hb h1 => ?_, fun b b' r z1 z2 hb hb' h1 h2 => ?_, ?_, fun b blk hm => by simp at hm, fun blk hm => by simp at hm; subst hm; exact hfl, ?_, ?_⟩
  · simp only [φ']; rw [if_neg (by omega)]
  · simp at hb; simp only [φ']; rw [if_neg (by omega)]; exact hn b (by omega)
  · simp only [φ'] at h1
    split at h1
    · simp at h1; left; simp; omega
    · rw [hn b hb] at h1; cases h1
  · simp only [φ'] at h1 h2
    by_cases e1 : b = nb
    · by_cases e2 : b' = nb
      · omega
      · rw [if_neg e2, hn b' hb'] at h2; cases h2
    · rw [if_neg e1, hn b hb] at h1; cases h1
  · exact hval _ _ _ (by simp [φ']) (by rw [hrow]; exact Nat.le_refl _)
  · intro b blk hm; simp at hm
  · intro k' blk hk
    match k', hk with
    | 0, hk =>
      simp at hk; subst hk
      refine .inr ⟨w.heap.size, us.toArray, T, by simp [φ'], hnew, by simpa using hsz, fun i e he => ?_⟩
      obtain ⟨hl, hc⟩ := hcell i e he
      refine ⟨hl, fun j c hj => ?_⟩
      obtain ⟨h1, u, hu, hvr⟩ := hc j c hj
      refine ⟨h1, u, by simpa using hu, hvr.mono hφ (fun _ h => .inl h) (fun r hr => RowKit.Below.heap_alloc w _ r (hA r hr).1) (rowSize_push w _ _ rfl)⟩

end Go.AX

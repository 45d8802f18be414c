import Derived.Test.YtnpmcikbnnlmkaaAxE
/-! Allocating, boxing, building. -/
namespace Go.AX
variable {φ : Phi} {A : Nat → Prop} {w : World} {P : Program}

def absC : Value → AV
  | .bool b => .bool b
  | .int k n => .int k n
  | .string s => .str s
  | .slice none 0 0 => .nils
  | .agg _ => .unk
  | .tuple _ => .unk
  | v => .con v

def absV : Value → AV
  | .agg cs => .agg (cs.toList.map absC)
  | v => absC v

theorem RT.absC (v : Value) : RT A w (absC v) v := by
  unfold AX.absC
  split
  · exact .bool _
  · exact .int _ _
  · exact .str _
  · exact .nils
  · exact .unk _
  · exact .unk _
  · refine .con _ ?_
    cases v <;> simp_all [Value.oneCell']

theorem RT.absV (v : Value) : RT A w (absV v) v := by
  unfold AX.absV
  split
  · rename_i cs
    have := RT.agg (A := A) (w := w) (cs.toList.map AX.absC) cs.toList (by simp) (fun i c u hc hu => by
      simp only [List.getElem?_map, hu, Option.map_some, Option.some.injEq] at hc
      subst hc; exact RT.absC u)
    simpa using this
  · exact RT.absC _

/-- The cells 'us' are described by 'cs', each of them one cell. -/
def CR (φ : Phi) (A : Nat → Prop) (w : World) (cs : List AV) (us : List Value) : Prop :=
  us.length = cs.length ∧ ∀ (i : Nat) c u, cs[i]? = some c → us[i]? = some u → VR φ A w c u

theorem VR.cr {a : AV} {v : Value} (h : VR φ A w a v) (hk : a.known = true) : CR φ A w a.cells v.cells.toList := h.cells hk

def allOne (cs : List AV) : Bool := cs.all AV.one

theorem CR.block {cs : List AV} {us : List Value} (h : CR φ A w cs us) (h1 : allOne cs = true) (e : AV) (he : e.cells = cs) :
    ∀ (i : Nat) e', [e][i]? = some e' → e'.cells.length = cs.length ∧ ∀ (j : Nat) c, e'.cells[j]? = some c → c.one = true ∧ ∃ u, us[i * cs.length + j]? = some u ∧ VR φ A w c u := by
  intro i e' hi
  match i, hi with
  | 0, hi =>
    simp at hi; subst hi
    refine ⟨by rw [he], fun j c hj => ?_⟩
    rw [he] at hj
    have hlt := (List.getElem?_eq_some_iff.1 hj).1
    have hlu : j < us.length := by rw [h.1]; exact hlt
    refine ⟨?_, us[j], by simp [hlu], h.2 j c us[j] hj (by simp [hlu])⟩
    exact List.all_eq_true.1 h1 c (List.mem_of_getElem? hj)

theorem noref_one (a : AV) : norefL a.cells = true → Noref [a] := by
  intro h e he c hc
  simp at he; subst he
  exact List.all_eq_true.1 h c hc

theorem ok_alloc {o : Oper} {ev : Operand → AV} {h : Hp} {nb : Nat} {t : TypeId} {i : TypeInfo} {zv : Value}
    (ho : o.op = .alloc t) (hi : P.info? t = some i) (hz : i.zero = some zv) (hk : (absV zv).known = true) (h1 : allOne (absV zv).cells = true) :
    OpOK P o ev h nb { v := .ptr nb 0 0, new := [{ es := [absV zv], z := (absV zv).cells.length, flat := norefL (absV zv).cells }] } := by
  refine .alloc (noref_one _) fun φ A w ρ _ _ => ?_
  have hcr : CR φ A w (absV zv).cells zv.cells.toList := (VR.imm _ _ (RT.absV zv)).cr hk
  refine ⟨zv.cells.toList, t, .pointer (some ⟨w.heap.size, 0, none⟩), ?_, ?_, hcr.block h1 _ rfl, fun φ' A' w' hφ _ => ?_⟩
  · simp [execOp, ho, Instr.alloc, zeroValue, typeInfo, hi, hz, newVar, newRow]
  · simp [hcr.1]
  · have := VR.ptr (A := A') (w := w') nb 0 0 w.heap.size _ hφ
    simpa using this

theorem ok_box {o : Oper} {ev : Operand → AV} {h : Hp} {nb : Nat} {t : TypeId} {x : Operand}
    (ho : o.op = .box t x) (hk : (ev x).known = true) (h1 : allOne (ev x).cells = true) :
    OpOK P o ev h nb { v := .ptr nb 0 0, new := [{ es := [ev x], z := (ev x).cells.length, flat := norefL (ev x).cells }] } := by
  refine .alloc (noref_one _) fun φ A w ρ hv _ => ?_
  have hcr := (hv x).cr hk
  refine ⟨(ρ x).cells.toList, t, .pointer (some ⟨w.heap.size, 0, none⟩), ?_, ?_, hcr.block h1 _ rfl, fun φ' A' w' hφ _ => ?_⟩
  · simp [execOp, ho, Instr.box, newVar, newRow]
  · simp [hcr.1]
  · have := VR.ptr (A := A') (w := w') nb 0 0 w.heap.size _ hφ
    simpa using this

def fillA (place : Nat → Option (Nat × Nat)) (cells : List AV) : List (Nat × AV) → Option (List AV)
  | [] => some cells
  | (i, v) :: rest =>
    match place i with
    | none => none
    | some (off, size) =>
      match v.known && Nat.beq v.cells.length size && Nat.ble (off + size) cells.length with
      | true => fillA place (cells.take off ++ v.cells ++ cells.drop (off + size)) rest
      | false => none

theorem foldl_set (us : List Value) : ∀ (off : Nat) (cs : Array Value), off + us.length ≤ cs.size →
    ((us.zipIdx).foldl (fun (cs : Array Value) (x : Value × Nat) => cs.setIfInBounds (off + x.2) x.1) cs).toList = cs.toList.take off ++ us ++ cs.toList.drop (off + us.length) := by
  have key : ∀ (us : List Value) (n off : Nat) (cs : Array Value), off + n + us.length ≤ cs.size →
      ((us.zipIdx n).foldl (fun (cs : Array Value) (x : Value × Nat) => cs.setIfInBounds (off + x.2) x.1) cs).toList = cs.toList.take (off + n) ++ us ++ cs.toList.drop (off + n + us.length) := by
    intro us
    induction us with
    | nil => intro n off cs _; simp
    | cons u us ih =>
      intro n off cs hl
      simp only [List.length_cons] at hl
      simp only [List.zipIdx_cons, List.foldl_cons]
      rw [ih (n + 1) off _ (by simp; omega)]
      apply List.ext_getElem?
      intro k
      have hk : off + n < cs.toList.length := by simp; omega
      simp only [Array.toList_setIfInBounds, List.append_assoc, List.getElem?_append, List.length_take, List.length_set, List.getElem?_take, List.getElem?_set, List.getElem?_drop, List.length_cons, Array.length_toList,
        List.getElem?_cons]
      (repeat' split) <;> first | rfl | (exfalso; omega) | (congr 1; omega) | skip
  intro off cs hl
  have := key us 0 off cs (by simpa using hl)
  simpa using this

theorem CR.splice {cs ds : List AV} {us vs : List Value} (h : CR φ A w cs us) (h' : CR φ A w ds vs) (off : Nat) (hl : off + ds.length ≤ cs.length) :
    CR φ A w (cs.take off ++ ds ++ cs.drop (off + ds.length)) (us.take off ++ vs ++ us.drop (off + vs.length)) := by
  refine ⟨by simp [h.1, h'.1], fun i c u hc hu => ?_⟩
  simp only [List.append_assoc, List.getElem?_append, List.length_take, List.getElem?_take, List.getElem?_drop] at hc hu
  have e1 : min off cs.length = off := by omega
  have e2 : min off us.length = off := by have := h.1; omega
  rw [e1] at hc
  rw [e2] at hu
  by_cases hi : i < off
  · rw [if_pos hi, if_pos hi] at hc hu; exact h.2 i c u hc hu
  · rw [if_neg hi] at hc hu
    by_cases h2 : i - off < ds.length
    · rw [if_pos h2] at hc
      rw [if_pos (by rw [h'.1]; exact h2)] at hu
      exact h'.2 _ c u hc hu
    · rw [if_neg h2] at hc
      rw [if_neg (by rw [h'.1]; exact h2)] at hu
      rw [h'.1] at hu
      exact h.2 _ c u hc hu

theorem fill_rel (place : Nat → Option (Nat × Nat)) : ∀ (parts : List (Nat × AV)) (reals : List (Nat × Value)) (cs : List AV) (us : Array Value) (cs' : List AV),
    CR φ A w cs us.toList → parts.map (·.1) = reals.map (·.1) → (∀ (k : Nat) x y, parts[k]? = some x → reals[k]? = some y → VR φ A w x.2 y.2) → fillA place cs parts = some cs' →
    ∃ us', Instr.fill place us reals = some us' ∧ CR φ A w cs' us'.toList := by
  intro parts
  induction parts with
  | nil =>
    intro reals cs us cs' h hm _ hf
    cases reals with
    | nil => simp [fillA] at hf; subst hf; exact ⟨us, rfl, h⟩
    | cons x r => simp at hm
  | cons p parts ih =>
    intro reals cs us cs' h hm hv hf
    cases reals with
    | nil => simp at hm
    | cons x reals =>
      obtain ⟨i, a⟩ := p
      obtain ⟨i', v⟩ := x
      simp only [List.map_cons, List.cons.injEq] at hm
      obtain ⟨rfl, hm⟩ := hm
      have hav : VR φ A w a v := hv 0 _ _ rfl rfl
      simp only [fillA] at hf
      cases hp : place i with
      | none => simp [hp] at hf
      | some x =>
        obtain ⟨off, size⟩ := x
        simp only [hp] at hf
        split at hf
        · rename_i hc
          simp only [Bool.and_eq_true] at hc
          obtain ⟨⟨hk, hl⟩, hle⟩ := hc
          have hl := Nat.eq_of_beq_eq_true hl
          have hle := Nat.le_of_ble_eq_true hle
          have hcr := hav.cr hk
          have hsz : v.cells.size = size := by have := hcr.1; simp at this; omega
          have hus : us.size = cs.length := by have := h.1; simpa using this
          have hsp := h.splice hcr off (by omega)
          have hset := foldl_set v.cells.toList off us (by simp; omega)
          obtain ⟨us', h1, h2⟩ := ih reals _ _ cs' (by rw [hset]; rw [hl] at hsp; exact hsp) hm (fun k x y hx hy => hv (k + 1) x y hx hy) hf
          refine ⟨us', ?_, h2⟩
          simp only [Instr.fill, hp]
          rw [if_neg (by simp; omega), ← h1]
          congr 1
          rw [← Array.foldl_toList, Array.toList_zipIdx]
        · cases hf

end Go.AX

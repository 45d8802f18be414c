import Derived.Test.YtnpmcikbnnlmkaaAxI
/-! append, copy. -/
namespace Go.AX
variable {φ : Phi} {A : Nat → Prop} {w : World} {P : Program}

/-- 'us' are the cells of the elements 'es', z a piece. -/
structure Row (φ : Phi) (A : Nat → Prop) (w : World) (z : Nat) (es : List AV) (us : List Value) : Prop where
  len : us.length = es.length * z
  cell : ∀ (i : Nat) e, es[i]? = some e → e.cells.length = z ∧ ∀ (j : Nat) c, e.cells[j]? = some c → c.one = true ∧ ∃ u, us[i * z + j]? = some u ∧ VR φ A w c u

theorem Row.one {z : Nat} {es : List AV} {us : List Value} (h : Row φ A w z es us) (hz : 0 < z) : ∀ u ∈ us, u.oneCell' = true := by
  intro u hu
  obtain ⟨k, hk⟩ := List.getElem?_of_mem hu
  have hlt := (List.getElem?_eq_some_iff.1 hk).1
  have hi : k / z < es.length := by rw [Nat.div_lt_iff_lt_mul hz, ← h.len]; exact hlt
  obtain ⟨hl, hc⟩ := h.cell (k / z) es[k / z] (by simp [hi])
  have hj : k % z < es[k / z].cells.length := by rw [hl]; exact Nat.mod_lt _ hz
  obtain ⟨h1, u', hu', hvr⟩ := hc (k % z) _ (List.getElem?_eq_getElem hj)
  rw [Nat.mul_comm, Nat.div_add_mod, hk] at hu'
  cases hu'
  exact hvr.one h1

theorem Row.append {z : Nat} {es es' : List AV} {us us' : List Value} (h : Row φ A w z es us) (h' : Row φ A w z es' us') : Row φ A w z (es ++ es') (us ++ us') := by
  refine ⟨by simp [h.len, h'.len, Nat.add_mul], fun i e he => ?_⟩
  rw [List.getElem?_append] at he
  split at he
  · rename_i hi
    obtain ⟨hl, hc⟩ := h.cell i e he
    refine ⟨hl, fun j c hj => ?_⟩
    obtain ⟨h1, u, hu, hvr⟩ := hc j c hj
    refine ⟨h1, u, ?_, hvr⟩
    rw [List.getElem?_append_left (List.getElem?_eq_some_iff.1 hu).1]; exact hu
  · rename_i hi
    obtain ⟨hl, hc⟩ := h'.cell _ e he
    refine ⟨hl, fun j c hj => ?_⟩
    obtain ⟨h1, u, hu, hvr⟩ := hc j c hj
    refine ⟨h1, u, ?_, hvr⟩
    have hsub : (i - es.length) * z = i * z - es.length * z := Nat.sub_mul _ _ _
    have hle : es.length * z ≤ i * z := Nat.mul_le_mul_right z (by omega)
    rw [List.getElem?_append_right (by rw [h.len]; omega), h.len, show i * z + j - es.length * z = (i - es.length) * z + j by omega]; exact hu

theorem Row.sub {z : Nat} {es : List AV} {us : List Value} (h : Row φ A w z es us) (o m : Nat) (hl : o + m ≤ es.length) : Row φ A w z ((es.drop o).take m) ((us.drop (o * z)).take (m * z)) := by
  have hm : (o + m) * z ≤ us.length := by rw [h.len]; exact Nat.mul_le_mul_right z hl
  rw [Nat.add_mul] at hm
  refine ⟨by simp only [List.length_take, List.length_drop]; rw [Nat.min_eq_left (by omega), Nat.min_eq_left (by omega)], fun i e he => ?_⟩
  rw [List.getElem?_take] at he
  split at he
  · rename_i hi
    rw [List.getElem?_drop] at he
    obtain ⟨hl', hc⟩ := h.cell _ e he
    refine ⟨hl', fun j c hj => ?_⟩
    obtain ⟨h1, u, hu, hvr⟩ := hc j c hj
    refine ⟨h1, u, ?_, hvr⟩
    have hjz : j < z := by have := (List.getElem?_eq_some_iff.1 hj).1; omega
    have hlt : i * z + j < m * z := by have := Nat.mul_le_mul_right z (show i + 1 ≤ m from hi); rw [Nat.succ_mul] at this; omega
    rw [List.getElem?_take, if_pos hlt, List.getElem?_drop, ← Nat.add_assoc, ← Nat.add_mul]; exact hu
  · cases he

theorem HR.row {h : Hp} (hh : HR φ A w h) {b : Nat} {blk : Blk} (hb : h b = some blk) {r z : Nat} (hφ : φ b = some (r, z)) :
    z = blk.z ∧ ∃ cs T, w.heap[r]? = some (.cells cs T (0, 0)) ∧ blk.es.length * z ≤ cs.size ∧ Row φ A w z blk.es (cs.toList.take (blk.es.length * z)) := by
  rcases hh.blk b blk hb with ⟨_, h0, _⟩ | ⟨r', cs, T, hφ', hr, hsz, hel⟩
  · rw [hφ] at h0; cases h0
  rw [hφ] at hφ'
  simp only [Option.some.injEq, Prod.mk.injEq] at hφ'
  obtain ⟨rfl, rfl⟩ := hφ'
  refine ⟨rfl, cs, T, hr, hsz, by simp; omega, fun i e he => ?_⟩
  obtain ⟨hl, hc⟩ := hel i e he
  refine ⟨hl, fun j c hj => ?_⟩
  obtain ⟨h1, u, hu, hvr⟩ := hc j c hj
  refine ⟨h1, u, ?_, hvr⟩
  have hjz : j < blk.z := by have := (List.getElem?_eq_some_iff.1 hj).1; omega
  have hi := (List.getElem?_eq_some_iff.1 he).1
  have hlt : i * blk.z + j < blk.es.length * blk.z := by have := Nat.mul_le_mul_right blk.z (show i + 1 ≤ blk.es.length from hi); rw [Nat.succ_mul] at this; omega
  rw [List.getElem?_take, if_pos hlt]; simpa using hu

/-- What a slice shows, as cells. -/
def Src (φ : Phi) (A : Nat → Prop) (w : World) (z : Nat) (src : List AV) (v : Value) : Prop :=
  ∃ (a : Option Addr) (c : Nat) (us : List Value), v = .slice a src.length c ∧ Row φ A w z src us ∧ (a = none → src = [] ∧ c = 0) ∧
    ∀ ad, a = some ad → ∀ (j : Nat) u, us[j]? = some u → w.cell? (ad.add j) = some u

theorem Src.nil {z : Nat} {a : Option Addr} : Src φ A w z [] (.slice a 0 0) :=
  ⟨a, 0, [], rfl, ⟨by simp, fun i e he => by simp at he⟩, fun _ => ⟨rfl, rfl⟩, fun _ _ j u hu => by simp at hu⟩

theorem Src.sl {h : Hp} (hh : HR φ A w h) {b i m z : Nat} {blk : Blk} {v : Value} (hb : h b = some blk) (hv : VR φ A w (.sl b i m) v) (hz : blk.z = z) (hl : i + m ≤ blk.es.length) :
    Src φ A w z ((blk.es.drop i).take m) v := by
  have hlen : ((blk.es.drop i).take m).length = m := by simp; omega
  rcases hv.sl_inv with ⟨rfl, a, rfl⟩ | ⟨r, z', cap, hφ, hn, hrow, rfl⟩
  · simpa using Src.nil
  · obtain ⟨rfl, cs, T, hr, hsz, hrow'⟩ := hh.row hb hφ
    subst hz
    refine ⟨some ⟨r, i * blk.z, none⟩, cap, _, by rw [hlen], hrow'.sub i m hl, by simp, fun ad hd j u hu => ?_⟩
    cases hd
    rw [List.getElem?_take] at hu
    split at hu
    · rw [List.getElem?_drop, List.getElem?_take] at hu
      split at hu
      · rw [Addr.add_lit, cell_of_row w r _ cs T (0, 0) hr]; simpa using hu
      · cases hu
    · cases hu

theorem Src.lst {es : List AV} {v : Value} {z : Nat} (hv : VR φ A w (.lst es) v) (hz : ∀ e ∈ es, e.cells.length = z) (hpos : 0 < z) : Src φ A w z es v := by
  rcases hv.lst_inv with ⟨rfl, a, rfl⟩ | ⟨r, o, cap, z', g, rfl, hcap, hA, hz', h1, hc, hrt⟩
  · exact Src.nil
  · by_cases hes : es = []
    · subst hes
      exact ⟨some ⟨r, o, none⟩, cap, [], rfl, ⟨by simp, fun i e he => by simp at he⟩, by simp, fun _ _ j u hu => by simp at hu⟩
    · have hzz : z' = z := by
        obtain ⟨e, he⟩ := List.exists_mem_of_ne_nil es hes
        rw [← hz e he, hz' e he]
      subst hzz
      refine ⟨some ⟨r, o, none⟩, cap, (List.range (es.length * z')).map fun k => g (k / z') (k % z'), rfl, ⟨by simp, fun i e he => ?_⟩, by simp, fun ad hd j u hu => ?_⟩
      · refine ⟨hz e (List.mem_of_getElem? he), fun j c hj => ?_⟩
        have hi := (List.getElem?_eq_some_iff.1 he).1
        have hjz : j < z' := by have := (List.getElem?_eq_some_iff.1 hj).1; rw [hz e (List.mem_of_getElem? he)] at this; exact this
        have hlt : i * z' + j < es.length * z' := by have := Nat.mul_le_mul_right z' (show i + 1 ≤ es.length from hi); rw [Nat.succ_mul] at this; omega
        refine ⟨h1 e (List.mem_of_getElem? he) c (List.mem_of_getElem? hj), g i j, ?_, .imm _ _ (hrt i j e c he hj)⟩
        have hdiv : (i * z' + j) / z' = i := by rw [Nat.mul_comm, Nat.mul_add_div hpos, Nat.div_eq_of_lt hjz, Nat.add_zero]
        have hmod : (i * z' + j) % z' = j := by rw [Nat.mul_comm, Nat.mul_add_mod]; exact Nat.mod_eq_of_lt hjz
        simp [hlt, hdiv, hmod]
      · cases hd
        simp only [List.getElem?_map, Option.map_eq_some_iff] at hu
        obtain ⟨k, hk, rfl⟩ := hu
        obtain ⟨hk1, hk2⟩ := List.getElem?_eq_some_iff.1 hk
        simp at hk1 hk2; subst hk2
        have hkd : j / z' < es.length := by rw [Nat.div_lt_iff_lt_mul hpos]; exact hk1
        have := hc (j / z') (j % z') hkd (Nat.mod_lt _ hpos)
        rw [Nat.add_assoc, Nat.mul_comm, Nat.div_add_mod] at this
        rw [Addr.add_lit]; exact this

/-- The elements that a slice operand shows. -/
def srcOf (h : Hp) (x : AV) : Option (List AV) :=
  match x with
  | .nils => some []
  | .lst es => some es
  | .sl b i m => match h b with
    | some blk => some ((blk.es.drop i).take m)
    | none => none
  | _ => none

def SrcFit (h : Hp) (z : Nat) (x : AV) : Prop :=
  match x with
  | .nils => True
  | .lst es => ∀ e ∈ es, e.cells.length = z
  | .sl b i m => match h b with
    | some blk => blk.z = z ∧ i + m ≤ blk.es.length
    | none => False
  | _ => False

theorem Src.of {h : Hp} (hh : HR φ A w h) {x : AV} {src : List AV} {z : Nat} {v : Value} (hx : srcOf h x = some src) (hf : SrcFit h z x) (hv : VR φ A w x v) (hpos : 0 < z) : Src φ A w z src v := by
  cases x <;> simp only [srcOf, SrcFit] at hx hf <;> try (simp at hx; done)
  · cases hx; rw [hv.nils_inv]; exact Src.nil
  · cases hx; exact Src.lst hv hf hpos
  · rename_i b i m
    cases hb : h b with
    | none => simp [hb] at hx
    | some blk => simp only [hb] at hx hf; cases hx; exact Src.sl hh hb hv hf.1 hf.2

/-- Does a slice operand show elements without references? -/
def srcFlat (h : Hp) (x : AV) : Bool :=
  match x with
  | .sl b _ _ => match h b with
    | some blk => blk.flat
    | none => false
  | _ => true

theorem RT.noref {a : AV} {v : Value} (h : RT A w a v) (h1 : a.one = true) : a.noref = true := by
  cases h <;> simp_all [AV.one, AV.noref]

theorem srcFlat_spec {h : Hp} (hh : HR φ A w h) {x : AV} {src : List AV} {v : Value} (hx : srcOf h x = some src) (hv : VR φ A w x v) (hf : srcFlat h x = true) : Noref src := by
  cases x <;> simp only [srcOf, srcFlat] at hx hf <;> try (simp at hx; done)
  · cases hx; intro e he; simp at he
  · rename_i es
    cases hx
    intro e he c hc
    rcases hv.lst_inv with ⟨rfl, _⟩ | ⟨r, o, cap, z, g, _, _, _, _, h1, _, hrt⟩
    · simp at he
    · obtain ⟨i, hi⟩ := List.getElem?_of_mem he
      obtain ⟨j, hj⟩ := List.getElem?_of_mem hc
      exact (hrt i j e c hi hj).noref (h1 e he c hc)
  · rename_i b i m
    cases hb : h b with
    | none => simp [hb] at hx
    | some blk =>
      simp only [hb] at hx hf; cases hx
      exact fun e he => hh.flat b blk hb hf e (List.mem_of_mem_drop (List.mem_of_mem_take he))

end Go.AX

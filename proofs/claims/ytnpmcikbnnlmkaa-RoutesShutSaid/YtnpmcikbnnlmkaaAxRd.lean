import Derived.Test.YtnpmcikbnnlmkaaAxBr
import Derived.ChangeArms
import Derived.Carry
/-! What an argument reads as, as an abstract value: for every type made of Booleans, integers, strings, structs, arrays and slices. -/
namespace Go.AX
variable {P : Program}

def isAg (P : Program) (t : TypeId) : Bool := match P.underlying t with
  | some (.struct _) => true
  | some (.array _ _) => true
  | _ => false

def mkEl (ag : Bool) (ys : List AV) : AV := match ag with
  | true => .agg ys
  | false => match ys with
    | [y] => y
    | _ => .unk

def ShL (R : TypeId → List AV → Prop) : List TypeId → List (List AV) → Prop
  | [], [] => True
  | t :: ts, p :: ps => R t p ∧ ShL R ts ps
  | _, _ => False

/-- The abstract cells of a value of a type. -/
def Sh (P : Program) : Nat → TypeId → List AV → Prop
  | 0, _, _ => False
  | n + 1, t, cs => match P.underlying t with
    | some .bool => ∃ b, cs = [.bool b]
    | some (.int k) => ∃ i, (Lit.int k i).wf = true ∧ cs = [.int k i]
    | some .string => ∃ s : ByteArray, s.size ≤ maxLen ∧ cs = [.str s]
    | some (.slice e) => ∃ es : List AV, es.length ≤ maxLen ∧ (∀ x ∈ es, ∃ ys, Sh P n e ys ∧ x = mkEl (isAg P e) ys) ∧ cs = [.lst es]
    | some (.struct fs) => ∃ ps, ShL (Sh P n) (fs.toList.map (·.type)) ps ∧ cs = ps.flatten
    | some (.array k e) => ∃ ps, ShL (Sh P n) (List.replicate k e) ps ∧ cs = ps.flatten
    | _ => False

def contig (P : Program) : Nat → List (Nat × TypeId) → Option Nat
  | o, [] => some o
  | o, (a, t) :: r => match Nat.beq a o with
    | true => contig P (o + P.cellsOf t) r
    | false => none

def okT (P : Program) : Nat → TypeId → Bool
  | 0, _ => false
  | n + 1, t => match P.underlying t with
    | some .bool => true
    | some (.int _) => true
    | some .string => true
    | some (.slice e) => okT P n e && Nat.ble 1 (P.cellsOf e)
    | some (.struct fs) => (match contig P 0 (fs.toList.map fun f => (f.offset, f.type)) with | some l => Nat.beq l (P.cellsOf t) | none => false) && (fs.toList.all fun f => okT P n f.type)
    | some (.array k e) => okT P n e && Nat.beq (P.cellsOf t) (k * P.cellsOf e)
    | _ => false

theorem mapM_some {α β : Type} {f : α → Option β} : ∀ {l : List α} {xs : List β}, l.mapM f = some xs → xs.length = l.length ∧ ∀ a ∈ l, ∃ y, f a = some y := by
  intro l
  induction l with
  | nil => intro xs h; simp at h; subst h; exact ⟨rfl, fun a h => by simp at h⟩
  | cons x r ih =>
    intro xs h
    simp only [List.mapM_cons] at h
    cases hx : f x with
    | none => simp [hx] at h
    | some y =>
      cases hr : r.mapM f with
      | none => simp [hx, hr] at h
      | some ys =>
        simp [hx, hr] at h
        subst h
        obtain ⟨h1, h2⟩ := ih hr
        refine ⟨by simp [h1], fun a ha => ?_⟩
        rcases List.mem_cons.1 ha with rfl | ha
        · exact ⟨y, hx⟩
        · exact h2 a ha

theorem ShL.one {R : TypeId → List AV → Prop} (h : ∀ t p, R t p → ∀ c ∈ p, c.one = true) : ∀ {ts : List TypeId} {ps : List (List AV)}, ShL R ts ps → ∀ c ∈ ps.flatten, c.one = true := by
  intro ts
  induction ts with
  | nil => intro ps hs c hc; cases ps <;> simp_all [ShL]
  | cons t ts ih =>
    intro ps hs c hc
    cases ps with
    | nil => simp at hc
    | cons p ps =>
      simp only [List.flatten_cons, List.mem_append] at hc
      exact hc.elim (h t p hs.1 c) (ih hs.2 c)

theorem Sh.one : ∀ {n : Nat} {t : TypeId} {cs : List AV}, Sh P n t cs → ∀ c ∈ cs, c.one = true := by
  intro n
  induction n with
  | zero => intro t cs h; exact h.elim
  | succ n ih =>
    intro t cs h c hc
    unfold Sh at h
    split at h
    · obtain ⟨b, rfl⟩ := h; simp at hc; subst hc; rfl
    · obtain ⟨i, _, rfl⟩ := h; simp at hc; subst hc; rfl
    · obtain ⟨s, _, rfl⟩ := h; simp at hc; subst hc; rfl
    · obtain ⟨es, _, _, rfl⟩ := h; simp at hc; subst hc; rfl
    · obtain ⟨ps, hp, rfl⟩ := h; exact ShL.one (fun _ _ => ih) hp c hc
    · obtain ⟨ps, hp, rfl⟩ := h; exact ShL.one (fun _ _ => ih) hp c hc
    · exact h.elim

theorem Sh.el {n : Nat} {t : TypeId} {ys : List AV} (h : Sh P n t ys) : (mkEl (isAg P t) ys).cells = ys := by
  cases n with
  | zero => exact h.elim
  | succ n =>
    unfold Sh at h
    unfold isAg
    cases hu : P.underlying t with
    | none => rw [hu] at h; exact h.elim
    | some u =>
      rw [hu] at h
      cases u
      case bool => obtain ⟨b, rfl⟩ := h; rfl
      case int => obtain ⟨b, _, rfl⟩ := h; rfl
      case string => obtain ⟨b, _, rfl⟩ := h; rfl
      case slice => obtain ⟨es, _, _, rfl⟩ := h; rfl
      case struct => rfl
      case array => rfl
      all_goals exact h.elim

/-- Cells that lie as these abstract cells say. -/
def Lies (A : Nat → Prop) (w : World) (avs : List AV) (cs : List Value) : Prop := avs.length = cs.length ∧ ∀ (i : Nat) c v, avs[i]? = some c → cs[i]? = some v → RT A w c v

theorem segs_lie {A : Nat → Prop} {w : World} {R : TypeId → List AV → Prop} {cs : List Value} : ∀ {segs : List (Nat × TypeId)} {o l : Nat}, contig P o segs = some l → l ≤ cs.length →
    (∀ s ∈ segs, ∃ avs, R s.2 avs ∧ Lies A w avs ((cs.drop s.1).take (P.cellsOf s.2))) → ∃ ps, ShL R (segs.map (·.2)) ps ∧ Lies A w ps.flatten ((cs.drop o).take (l - o)) ∧ o ≤ l := by
  intro segs
  induction segs with
  | nil =>
    intro o l h hl _
    simp only [contig, Option.some.injEq] at h
    subst h
    exact ⟨[], trivial, ⟨by simp, fun i c v hc => by simp at hc⟩, Nat.le_refl _⟩
  | cons s r ih =>
    intro o l h hl hs
    obtain ⟨a, t⟩ := s
    simp only [contig] at h
    split at h
    case h_2 => cases h
    rename_i ha
    have ha := Nat.eq_of_beq_eq_true ha
    subst ha
    obtain ⟨ps, h1, h2, h3⟩ := ih h hl fun s hm => hs s (List.mem_cons_of_mem _ hm)
    obtain ⟨avs, g1, g2, g3⟩ := hs (a, t) (by simp)
    simp only at g1 g2 g3
    have hlen : avs.length = P.cellsOf t := by rw [g2]; simp; omega
    refine ⟨avs :: ps, ⟨g1, h1⟩, ⟨?_, fun i c v hc hv => ?_⟩, by omega⟩
    · have := h2.1
      simp only [List.flatten_cons, List.length_append, this, hlen, List.length_take, List.length_drop]
      omega
    · simp only [List.flatten_cons] at hc
      rw [List.getElem?_append] at hc
      split at hc
      · rename_i hi
        refine g3 i c v hc ?_
        rw [List.getElem?_take] at hv ⊢
        rw [if_pos (by omega)]
        split at hv
        · exact hv
        · cases hv
      · rename_i hi
        refine h2.2 (i - avs.length) c v hc ?_
        rw [List.getElem?_take] at hv ⊢
        split at hv
        · rw [if_pos (by omega)]
          rw [List.getElem?_drop] at hv ⊢
          rw [show a + P.cellsOf t + (i - avs.length) = a + i by omega]
          exact hv
        · cases hv

theorem lies1 {A : Nat → Prop} {w : World} {c : AV} {v : Value} (hr : RT A w c v) : Lies A w [c] [v] := by
  refine ⟨rfl, fun i c' v' hc hv => ?_⟩
  cases i with
  | zero => simp at hc hv; subst hc hv; exact hr
  | succ i => simp at hc

theorem plus (b off i : Nat) : (⟨b, off, none⟩ : Addr).add i = ⟨b, off + i, none⟩ := by
  unfold Addr.add
  split <;> simp_all

theorem trod_array {H : Type} {enc : TypeId × Value → H} {w : World} {base : Nat} {spare : Nat → Bool} {held : Bool} {n k : Nat} {t e : TypeId} {cs : List Value} {x : DataW H × List MemPlace} (hu : P.underlying t = some (.array k e))
    (h : DataW.trod enc P w base spare held (n + 1) t cs = some x) : cs.length = P.cellsOf t ∧ ∀ i, i < k → ∃ y, DataW.trod enc P w base spare held n e ((cs.drop (i * P.cellsOf e)).take (P.cellsOf e)) = some y := by
  unfold DataW.trod at h
  rw [hu] at h
  split at h <;> simp_all
  obtain ⟨hl, xs, hp, hd⟩ := h
  intro i hi
  have hlen := Go.mapM_some_length hp
  have g := mapM_some_get hp i i (by simp [hi])
  rw [List.getElem?_eq_getElem (by simpa [hlen] using hi)] at g
  exact ⟨_, _, g⟩

theorem contig_array (e : TypeId) : ∀ (k a : Nat), contig P (a * P.cellsOf e) ((List.range' a k).map fun i => (i * P.cellsOf e, e)) = some ((a + k) * P.cellsOf e) := by
  intro k
  induction k with
  | zero => intro a; simp [contig]
  | succ k ih =>
    intro a
    simp only [List.range'_succ, List.map_cons, contig, Nat.beq_refl]
    have := ih (a + 1)
    rw [Nat.add_mul, Nat.one_mul] at this
    rw [this]
    congr 2
    omega

theorem lies_of_trod {H : Type} {enc : TypeId × Value → H} {w : World} {base : Nat} {held : Bool} : ∀ {n : Nat} {t : TypeId} {cs : List Value} {x : DataW H × List MemPlace},
    DataW.trod enc P w base (fun _ => true) held n t cs = some x → okT P n t = true → ∃ avs, Sh P n t avs ∧ Lies (fun r => r < w.heap.size) w avs cs := by
  intro n
  induction n with
  | zero => intro t cs x h; simp [DataW.trod] at h
  | succ n ih =>
    intro t cs x h hok
    unfold okT at hok
    unfold Sh
    cases hu : P.underlying t with
    | none => rw [hu] at hok; cases hok
    | some u =>
      rw [hu] at hok
      cases u
      case bool =>
        obtain ⟨b, rfl, _⟩ := DataW.trod_bool hu h
        exact ⟨_, ⟨b, rfl⟩, lies1 (.bool b)⟩
      case int k =>
        obtain ⟨i, rfl, _, hw⟩ := DataW.trod_int hu h
        exact ⟨_, ⟨i, hw, rfl⟩, lies1 (.int k i)⟩
      case string =>
        obtain ⟨s, rfl, _, hw⟩ := DataW.trod_string hu h
        exact ⟨_, ⟨s, hw, rfl⟩, lies1 (.str s)⟩
      case slice e =>
        simp only [Bool.and_eq_true] at hok
        have hpos : 1 ≤ P.cellsOf e := Nat.le_of_ble_eq_true hok.2
        rcases DataW.trod_slice hu h with ⟨rfl, _⟩ | ⟨a, len, cap, elems, rest, m, hm, rfl, _, _, hl, hmx, hel, hget, hsp, _⟩
        · exact ⟨_, ⟨[], by simp, by simp, rfl⟩, lies1 (.lnil none)⟩
        · obtain rfl : n = m := by omega
          rcases Nat.eq_zero_or_pos cap with hc | hc
          · subst hc
            obtain rfl : len = 0 := by omega
            exact ⟨_, ⟨[], by simp, by simp, rfl⟩, lies1 (.lnil (some a))⟩
          · obtain ⟨hrl, hrest⟩ := hsp rfl
            have all : ∀ i, i < cap → ∃ cs y, w.cells? base (a.add (i * P.cellsOf e)) (P.cellsOf e) = some cs ∧ DataW.trod enc P w base (fun _ => true) held n e cs = some y := by
              intro i hi
              rcases Nat.lt_or_ge i len with hlt | hge
              · have g := hget i hlt
                rw [List.getElem?_eq_getElem (by omega)] at g
                obtain ⟨cs, h1, h2⟩ := Option.bind_eq_some_iff.1 g
                exact ⟨cs, _, h1, h2⟩
              · have g := hrest (i - len) (by omega)
                rw [List.getElem?_eq_getElem (by omega), show len + (i - len) = i by omega] at g
                obtain ⟨cs, h1, h2⟩ := Option.bind_eq_some_iff.1 g
                exact ⟨cs, _, h1, h2⟩
            have hspot : a.spot = none := by
              obtain ⟨cs, _, h1, _⟩ := all 0 hc
              obtain ⟨_, hlen, hcell⟩ := World.cells?_some h1
              have g0 := hcell 0 hpos
              rw [List.getElem?_eq_getElem (by omega)] at g0
              simpa [Addr.add] using World.cell?_spot g0
            obtain ⟨b, off, spot⟩ := a
            simp only at hspot
            subst hspot
            have ex : ∀ i, ∃ ys : List AV, i < cap → Sh P n e ys ∧ ys.length = P.cellsOf e ∧ ∀ j c, ys[j]? = some c → ∃ v, w.cell? ⟨b, off + i * P.cellsOf e + j, none⟩ = some v ∧ RT (fun r => r < w.heap.size) w c v := by
              intro i
              rcases Nat.lt_or_ge i cap with hi | hi
              · obtain ⟨cs, y, h1, h2⟩ := all i hi
                obtain ⟨ys, g1, g2, g3⟩ := ih h2 hok.1
                obtain ⟨_, hlen, hcell⟩ := World.cells?_some h1
                refine ⟨ys, fun _ => ⟨g1, by omega, fun j c hj => ?_⟩⟩
                have hj' : j < ys.length := (List.getElem?_eq_some_iff.1 hj).1
                have g := hcell j (by omega)
                rw [List.getElem?_eq_getElem (by omega)] at g
                refine ⟨cs[j]'(by omega), ?_, g3 j c _ hj (List.getElem?_eq_getElem (by omega))⟩
                rw [plus, plus] at g
                exact g
              · exact ⟨[], fun h => absurd h (by omega)⟩
            let ys : Nat → List AV := fun i => Classical.choose (ex i)
            have hys : ∀ i, i < cap → Sh P n e (ys i) ∧ (ys i).length = P.cellsOf e ∧ ∀ j c, (ys i)[j]? = some c → ∃ v, w.cell? ⟨b, off + i * P.cellsOf e + j, none⟩ = some v ∧ RT (fun r => r < w.heap.size) w c v := fun i => Classical.choose_spec (ex i)
            have hb : b < w.heap.size := by
              obtain ⟨g1, g2, g3⟩ := hys 0 hc
              obtain ⟨v, hv, _⟩ := g3 0 _ (List.getElem?_eq_getElem (by omega))
              rcases Nat.lt_or_ge b w.heap.size with hlt | hge
              · exact hlt
              · simp [World.cell?, Array.getElem?_eq_none hge] at hv
            let es : List AV := (List.range len).map fun i => mkEl (isAg P e) (ys i)
            have hesl : es.length = len := by simp [es]
            have mem : ∀ x ∈ es, ∃ i, i < len ∧ x = mkEl (isAg P e) (ys i) := by
              intro x hx
              obtain ⟨i, hi, rfl⟩ := List.mem_map.1 hx
              exact ⟨i, by simpa using hi, rfl⟩
            refine ⟨_, ⟨es, by omega, fun x hx => ?_, rfl⟩, lies1 ?_⟩
            · obtain ⟨i, hi, rfl⟩ := mem x hx
              exact ⟨ys i, (hys i (by omega)).1, rfl⟩
            · have key := RT.lst (A := fun r => r < w.heap.size) (w := w) es b off cap (P.cellsOf e) (fun i j => (w.cell? ⟨b, off + i * P.cellsOf e + j, none⟩).getD default) (by omega) (fun _ => hb) (fun x hx => ?_) (fun x hx c hcm => ?_) (fun i j hi hj => ?_) fun i j x c hx hj => ?_
              · rw [hesl] at key; exact key
              · obtain ⟨i, hi, rfl⟩ := mem x hx
                rw [(hys i (by omega)).1.el]; exact (hys i (by omega)).2.1
              · obtain ⟨i, hi, rfl⟩ := mem x hx
                rw [(hys i (by omega)).1.el] at hcm
                exact (hys i (by omega)).1.one c hcm
              · obtain ⟨g1, g2, g3⟩ := hys i (by omega)
                obtain ⟨v, hv, _⟩ := g3 j _ (List.getElem?_eq_getElem (by omega))
                simp [hv]
              · have hi : i < len := by rw [← hesl]; exact (List.getElem?_eq_some_iff.1 hx).1
                have hx' : x = mkEl (isAg P e) (ys i) := by
                  simp only [es, List.getElem?_map, List.getElem?_range hi, Option.map_some, Option.some.injEq] at hx
                  exact hx.symm
                subst hx'
                obtain ⟨g1, g2, g3⟩ := hys i (by omega)
                rw [g1.el] at hj
                obtain ⟨v, hv, hr⟩ := g3 j c hj
                simpa [hv] using hr
      case struct fs =>
        simp only [Bool.and_eq_true] at hok
        obtain ⟨xs, m, hm, _, hlen, hxl, hget⟩ := DataW.trod_struct hu h
        obtain rfl : n = m := by omega
        obtain ⟨hc, ha⟩ := hok
        split at hc
        case h_2 => cases hc
        rename_i l hcon
        have hl := Nat.eq_of_beq_eq_true hc
        obtain ⟨ps, h1, h2, _⟩ := segs_lie (A := fun r => r < w.heap.size) (w := w) (R := Sh P n) (cs := cs) hcon (by omega) fun s hs => by
          obtain ⟨f, hf, rfl⟩ := List.mem_map.1 hs
          obtain ⟨i, hi, rfl⟩ := List.mem_iff_getElem.1 hf
          simp only [Array.length_toList] at hi
          have g := hget i (fs[i]) (by simp [hi])
          rw [List.getElem?_eq_getElem (by omega)] at g
          exact ih g (List.all_eq_true.1 ha _ hf)
        refine ⟨_, ⟨ps, ?_, rfl⟩, ?_⟩
        · simpa [List.map_map, Function.comp_def] using h1
        · simpa [hl, ← hlen] using h2
      case array k e =>
        simp only [Bool.and_eq_true] at hok
        have hk := Nat.eq_of_beq_eq_true hok.2
        obtain ⟨hlen, hel⟩ := trod_array hu h
        have hcon := contig_array (P := P) e k 0
        rw [Nat.zero_mul, Nat.zero_add] at hcon
        obtain ⟨ps, h1, h2, _⟩ := segs_lie (A := fun r => r < w.heap.size) (w := w) (R := Sh P n) (cs := cs) hcon (by omega) fun s hs => by
          obtain ⟨i, hi, rfl⟩ := List.mem_map.1 hs
          obtain ⟨y, g⟩ := hel i (by simpa using hi)
          exact ih g hok.1
        refine ⟨_, ⟨ps, ?_, rfl⟩, ?_⟩
        · simpa [List.map_map, Function.comp_def, List.map_const'] using h1
        · simpa [← hk, ← hlen] using h2
      all_goals cases hok

theorem okT_succ : ∀ {n : Nat} {t : TypeId}, okT P n t = true → okT P (n + 1) t = true := by
  intro n
  induction n with
  | zero => intro t h; cases h
  | succ n ih =>
    intro t h
    unfold okT at h ⊢
    cases hu : P.underlying t with
    | none => rw [hu] at h; cases h
    | some u =>
      rw [hu] at h
      cases u
      case bool => rfl
      case int => rfl
      case string => rfl
      case slice e =>
        simp only [Bool.and_eq_true] at h ⊢
        exact ⟨ih h.1, h.2⟩
      case struct fs =>
        simp only [Bool.and_eq_true] at h ⊢
        exact ⟨h.1, List.all_eq_true.2 fun f hf => ih (List.all_eq_true.1 h.2 f hf)⟩
      case array k e =>
        simp only [Bool.and_eq_true] at h ⊢
        exact ⟨ih h.1, h.2⟩
      all_goals cases h

theorem okT_le {n m : Nat} {t : TypeId} (hnm : n ≤ m) (h : okT P n t = true) : okT P m t = true := by
  induction hnm with
  | refl => exact h
  | step _ ih => exact okT_succ ih

theorem ShL.imp {R R' : TypeId → List AV → Prop} : ∀ {ts : List TypeId} {ps : List (List AV)}, (∀ t ∈ ts, ∀ p, R t p → R' t p) → ShL R ts ps → ShL R' ts ps := by
  intro ts
  induction ts with
  | nil => intro ps h hs; cases ps <;> simp_all [ShL]
  | cons t ts ih =>
    intro ps h hs
    cases ps with
    | nil => exact hs.elim
    | cons p ps => exact ⟨h t (by simp) p hs.1, ih (fun t' ht => h t' (List.mem_cons_of_mem _ ht)) hs.2⟩

theorem Sh.down : ∀ {n : Nat} {t : TypeId} {ys : List AV}, okT P n t = true → Sh P (n + 1) t ys → Sh P n t ys := by
  intro n
  induction n with
  | zero => intro t ys h; cases h
  | succ n ih =>
    intro t ys h hs
    unfold okT at h
    unfold Sh at hs ⊢
    cases hu : P.underlying t with
    | none => rw [hu] at h; cases h
    | some u =>
      rw [hu] at h hs
      cases u
      case bool => exact hs
      case int => exact hs
      case string => exact hs
      case slice e =>
        simp only [Bool.and_eq_true] at h
        obtain ⟨es, h1, h2, h3⟩ := hs
        refine ⟨es, h1, fun x hx => ?_, h3⟩
        obtain ⟨ys, g, g'⟩ := h2 x hx
        exact ⟨ys, ih h.1 g, g'⟩
      case struct fs =>
        simp only [Bool.and_eq_true] at h
        obtain ⟨ps, h1, h2⟩ := hs
        refine ⟨ps, h1.imp (fun t ht p hp => ?_), h2⟩
        obtain ⟨f, hf, rfl⟩ := List.mem_map.1 ht
        exact ih (List.all_eq_true.1 h.2 f hf) hp
      case array k e =>
        simp only [Bool.and_eq_true] at h
        obtain ⟨ps, h1, h2⟩ := hs
        refine ⟨ps, h1.imp (fun t ht p hp => ?_), h2⟩
        obtain rfl : t = e := (List.mem_replicate.1 ht).2
        exact ih h.1 hp
      all_goals cases h

theorem Sh.downs {n m : Nat} {t : TypeId} {ys : List AV} (hnm : n ≤ m) (h : okT P n t = true) (hs : Sh P m t ys) : Sh P n t ys := by
  induction hnm with
  | refl => exact hs
  | step hk ih => exact ih (hs.down (okT_le hk h))

/-- An argument as an abstract value. -/
def ShV (P : Program) (n : Nat) (t : TypeId) (a : AV) : Prop := ∃ ys, Sh P n t ys ∧ a = mkEl (isAg P t) ys

def ShVs (P : Program) (n : Nat) : List TypeId → List AV → Prop
  | [], [] => True
  | t :: ts, a :: as => ShV P n t a ∧ ShVs P n ts as
  | _, _ => False

theorem ag_okWide {w : World} {r : Reach} {base n : Nat} {t : TypeId} {v : Value} (h : Value.okWide P w r base t v) (hk : okT P n t = true) :
    (isAg P t = true ∧ ∃ cs, v = .agg cs) ∨ (isAg P t = false ∧ v.cells = #[v]) := by
  cases n with
  | zero => cases hk
  | succ n =>
    unfold isAg
    unfold okT at hk
    unfold Value.okWide at h
    cases hu : P.underlying t with
    | none => rw [hu] at hk; cases hk
    | some u =>
      rw [hu] at h hk
      cases u
      case struct => obtain ⟨cs, h, _⟩ := h; exact .inl ⟨rfl, cs, h⟩
      case array => obtain ⟨cs, h, _⟩ := h; exact .inl ⟨rfl, cs, h⟩
      case bool => refine .inr ⟨rfl, ?_⟩; cases v <;> first | rfl | (exfalso; simp [Cell.okWide, Cell.ok, hu] at h; done)
      case int => refine .inr ⟨rfl, ?_⟩; cases v <;> first | rfl | (exfalso; simp [Cell.okWide, Cell.ok, hu] at h; done)
      case string => refine .inr ⟨rfl, ?_⟩; cases v <;> first | rfl | (exfalso; simp [Cell.okWide, Cell.ok, hu] at h; done)
      case slice => refine .inr ⟨rfl, ?_⟩; cases v <;> first | rfl | (exfalso; simp [Cell.okWide, Cell.ok, hu] at h; done)
      all_goals cases hk

theorem rt_of_lies {A : Nat → Prop} {w : World} {cs : List Value} {ys : List AV} (h : Lies A w ys cs) : RT A w (.agg ys) (.agg cs.toArray) := .agg ys cs h.1.symm h.2

theorem args_rt {H : Type} {enc : TypeId × Value → H} {w : World} {base base' : Nat} {held : Bool} {r : Reach} (n : Nat) : ∀ {ts : List TypeId} {vs : List Value} {ds : List (DataW H)} {ps : List MemPlace}, DataW.TrodAll enc P w base (fun _ => true) held ts vs ds ps →
    (∀ (j : Nat) t v, ts[j]? = some t → vs[j]? = some v → Value.okWide P w r base' t v) → (ts.all (okT P n)) = true →
    ∃ as, ShVs P n ts as ∧ vs.length = as.length ∧ ∀ (i : Nat) c v, as[i]? = some c → vs[i]? = some v → RT (fun r => r < w.heap.size) w c v := by
  intro ts
  induction ts with
  | nil =>
    intro vs ds ps h _ _
    obtain ⟨rfl, _⟩ := ChangeShapes.trodAll_nil h
    exact ⟨[], trivial, rfl, fun i c v hc => by simp at hc⟩
  | cons t ts ih =>
    intro vs ds ps h hw ho
    simp only [List.all_cons, Bool.and_eq_true] at ho
    obtain ⟨v, vs, d, ds, p, q, rfl, rfl, rfl, ⟨f, hd⟩, hr⟩ := ChangeShapes.trodAll_cons h
    obtain ⟨as, h1, h2, h3⟩ := ih hr (fun j t' v' ht hv => hw (j + 1) t' v' (by simpa using ht) (by simpa using hv)) ho.2
    obtain ⟨ys, g1, g2⟩ := lies_of_trod (DataW.trod_le (Nat.le_max_left f n) hd) (okT_le (Nat.le_max_right f n) ho.1)
    have hwv := hw 0 t v rfl rfl
    have hsh : Sh P n t ys := g1.downs (Nat.le_max_right f n) ho.1
    refine ⟨mkEl (isAg P t) ys :: as, ⟨⟨ys, hsh, rfl⟩, h1⟩, by simp [h2], fun i c v' hc hv => ?_⟩
    cases i with
    | succ i => exact h3 i c v' (by simpa using hc) (by simpa using hv)
    | zero =>
      simp at hc hv
      subst hc hv
      rcases ag_okWide hwv ho.1 with ⟨ha, cs, rfl⟩ | ⟨ha, hcs⟩
      · rw [ha]
        have := rt_of_lies g2
        simpa [mkEl, Value.cells] using this
      · rw [hcs] at g2
        have hl := g2.1
        have hel := hsh.el
        rw [ha] at hel ⊢
        match ys, hl with
        | [y], _ => exact g2.2 0 y v rfl rfl

theorem trodAll_below {H : Type} {enc : TypeId × Value → H} (hl : laidOutB P = true) {W W' : World} (hb : Go.RowKit.Below W.heap.size W W') : ∀ {ts : List TypeId} {vs : List Value} {ds : List (DataW H)} {ps : List MemPlace},
    (ts.all fun t => P.readableRec t && Nat.blt t P.types.size) = true → DataW.TrodAll enc P W 0 (fun _ => true) true ts vs ds ps → DataW.TrodAll enc P W' 0 (fun b => decide (b < W.heap.size)) true ts vs ds ps := by
  intro ts
  induction ts with
  | nil => intro vs ds ps _ h; cases vs <;> cases ds <;> simp_all [DataW.TrodAll]
  | cons t ts ih =>
    intro vs ds ps ho h
    simp only [List.all_cons, Bool.and_eq_true] at ho
    cases vs with
    | nil => cases ds <;> simp_all [DataW.TrodAll]
    | cons v vs =>
      cases ds with
      | nil => simp_all [DataW.TrodAll]
      | cons d ds =>
        obtain ⟨p, q, hd, hr, he⟩ := h
        have lt : ∀ x ∈ p, x.block < W.heap.size := by obtain ⟨m, hm⟩ := hd; exact DataW.trod_lt m _ _ _ hm
        exact ⟨p, q, Go.RowKit.Below.trod hl ho.1.1 (by simpa [Nat.blt_eq] using ho.1.2) hd hb lt, ih ho.2 hr, he⟩

theorem ShL.consD {R : TypeId → List AV → Prop} {t : TypeId} {ts : List TypeId} {ps : List (List AV)} (h : ShL R (t :: ts) ps) : ∃ p ps', ps = p :: ps' ∧ R t p ∧ ShL R ts ps' := by
  cases ps with
  | nil => exact h.elim
  | cons p ps => exact ⟨p, ps, rfl, h.1, h.2⟩

theorem ShL.nilD {R : TypeId → List AV → Prop} {ps : List (List AV)} (h : ShL R [] ps) : ps = [] := by
  cases ps with
  | nil => rfl
  | cons p ps => exact h.elim

theorem Sh.boolD {n : Nat} {t : TypeId} {ys : List AV} (hu : P.underlying t = some .bool) (h : Sh P n t ys) : ∃ b, ys = [.bool b] := by
  cases n with
  | zero => exact h.elim
  | succ n => unfold Sh at h; rw [hu] at h; exact h

theorem Sh.intD {n : Nat} {t : TypeId} {k : IntKind} {ys : List AV} (hu : P.underlying t = some (.int k)) (h : Sh P n t ys) : ∃ i, (Lit.int k i).wf = true ∧ ys = [.int k i] := by
  cases n with
  | zero => exact h.elim
  | succ n => unfold Sh at h; rw [hu] at h; exact h

theorem Sh.strD {n : Nat} {t : TypeId} {ys : List AV} (hu : P.underlying t = some .string) (h : Sh P n t ys) : ∃ s : ByteArray, s.size ≤ maxLen ∧ ys = [.str s] := by
  cases n with
  | zero => exact h.elim
  | succ n => unfold Sh at h; rw [hu] at h; exact h

theorem Sh.structD {n : Nat} {t : TypeId} {fs : Array Field} {ys : List AV} (hu : P.underlying t = some (.struct fs)) (h : Sh P (n + 1) t ys) : ∃ ps, ShL (Sh P n) (fs.toList.map (·.type)) ps ∧ ys = ps.flatten := by
  unfold Sh at h; rw [hu] at h; exact h

theorem Sh.arrayD {n k : Nat} {t e : TypeId} {ys : List AV} (hu : P.underlying t = some (.array k e)) (h : Sh P (n + 1) t ys) : ∃ ps, ShL (Sh P n) (List.replicate k e) ps ∧ ys = ps.flatten := by
  unfold Sh at h; rw [hu] at h; exact h

theorem Sh.sliceD {n : Nat} {t e : TypeId} {ys : List AV} (hu : P.underlying t = some (.slice e)) (h : Sh P (n + 1) t ys) : ∃ es : List AV, es.length ≤ maxLen ∧ (∀ x ∈ es, ShV P n e x) ∧ ys = [.lst es] := by
  unfold Sh at h; rw [hu] at h; exact h

theorem ShV.agD {n : Nat} {t : TypeId} {a : AV} (h : ShV P n t a) (hi : isAg P t = true) : ∃ ys, Sh P n t ys ∧ a = .agg ys := by
  obtain ⟨ys, h, rfl⟩ := h
  rw [hi]; exact ⟨ys, h, rfl⟩

theorem ShV.oneD {n : Nat} {t : TypeId} {a : AV} (h : ShV P n t a) (hi : isAg P t = false) : ∃ ys, Sh P n t ys ∧ (∀ y, ys = [y] → a = y) := by
  obtain ⟨ys, h, rfl⟩ := h
  rw [hi]; exact ⟨ys, h, fun y hy => by subst hy; rfl⟩

theorem ShV.intD {n : Nat} {t : TypeId} {k : IntKind} {a : AV} (h : ShV P n t a) (hu : P.underlying t = some (.int k)) : ∃ i, (Lit.int k i).wf = true ∧ a = .int k i := by
  obtain ⟨ys, hs, rfl⟩ := h
  obtain ⟨i, hw, rfl⟩ := hs.intD hu
  exact ⟨i, hw, by simp [isAg, hu, mkEl]⟩

theorem ShV.boolD {n : Nat} {t : TypeId} {a : AV} (h : ShV P n t a) (hu : P.underlying t = some .bool) : ∃ b, a = .bool b := by
  obtain ⟨ys, hs, rfl⟩ := h
  obtain ⟨i, rfl⟩ := hs.boolD hu
  exact ⟨i, by simp [isAg, hu, mkEl]⟩

theorem ShV.sliceD {n : Nat} {t e : TypeId} {a : AV} (h : ShV P (n + 1) t a) (hu : P.underlying t = some (.slice e)) : ∃ es : List AV, es.length ≤ maxLen ∧ (∀ x ∈ es, ShV P n e x) ∧ a = .lst es := by
  obtain ⟨ys, hs, rfl⟩ := h
  obtain ⟨es, h1, h2, rfl⟩ := hs.sliceD hu
  exact ⟨es, h1, h2, by simp [isAg, hu, mkEl]⟩

theorem ShV.structD {n : Nat} {t : TypeId} {fs : Array Field} {a : AV} (h : ShV P (n + 1) t a) (hu : P.underlying t = some (.struct fs)) : ∃ ps, ShL (Sh P n) (fs.toList.map (·.type)) ps ∧ a = .agg ps.flatten := by
  obtain ⟨ys, hs, rfl⟩ := h
  obtain ⟨ps, h1, rfl⟩ := hs.structD hu
  exact ⟨ps, h1, by simp [isAg, hu, mkEl]⟩

theorem ShV.arrayD {n k : Nat} {t e : TypeId} {a : AV} (h : ShV P (n + 1) t a) (hu : P.underlying t = some (.array k e)) : ∃ ps, ShL (Sh P n) (List.replicate k e) ps ∧ a = .agg ps.flatten := by
  obtain ⟨ys, hs, rfl⟩ := h
  obtain ⟨ps, h1, rfl⟩ := hs.arrayD hu
  exact ⟨ps, h1, by simp [isAg, hu, mkEl]⟩

theorem ShVs.consD {n : Nat} {t : TypeId} {ts : List TypeId} {as : List AV} (h : ShVs P n (t :: ts) as) : ∃ a as', as = a :: as' ∧ ShV P n t a ∧ ShVs P n ts as' := by
  cases as with
  | nil => exact h.elim
  | cons p ps => exact ⟨p, ps, rfl, h.1, h.2⟩

theorem ShVs.nilD {n : Nat} {as : List AV} (h : ShVs P n [] as) : as = [] := by
  cases as with
  | nil => rfl
  | cons p ps => exact h.elim

theorem wf_u64 {q : Int} (h : (Lit.int .u64 q).wf = true) : 0 ≤ q ∧ q ≤ 18446744073709551615 := by
  simp only [Lit.wf, Bool.and_eq_true, decide_eq_true_eq] at h
  have h1 : IntKind.u64.min = 0 := rfl
  have h2 : IntKind.u64.max = 18446744073709551615 := rfl
  omega

theorem wf_i64 {q : Int} (h : (Lit.int .i64 q).wf = true) : -9223372036854775808 ≤ q ∧ q ≤ 9223372036854775807 := by
  simp only [Lit.wf, Bool.and_eq_true, decide_eq_true_eq] at h
  have h1 : IntKind.i64.min = -9223372036854775808 := rfl
  have h2 : IntKind.i64.max = 9223372036854775807 := rfl
  omega

theorem trodAll_len {H : Type} {enc : TypeId × Value → H} {w : World} {base : Nat} {spare : Nat → Bool} {held : Bool} : ∀ {ts : List TypeId} {vs : List Value} {ds : List (DataW H)} {ps : List MemPlace},
    DataW.TrodAll enc P w base spare held ts vs ds ps → ds.length = ts.length := by
  intro ts
  induction ts with
  | nil => intro vs ds ps h; cases vs <;> cases ds <;> simp_all [DataW.TrodAll]
  | cons t ts ih =>
    intro vs ds ps h
    cases vs with
    | nil => exact h.elim
    | cons v vs =>
      cases ds with
      | nil => exact h.elim
      | cons d ds =>
        obtain ⟨p, q, _, hr, _⟩ := h
        simp [ih hr]

theorem list1 {α : Type} {l : List α} (h : l.length = 1) : ∃ x0, l = [x0] :=
  match l, h with | [x0], _ => ⟨_, rfl⟩

theorem list2 {α : Type} {l : List α} (h : l.length = 2) : ∃ x0 x1, l = [x0, x1] :=
  match l, h with | [x0, x1], _ => ⟨_, _, rfl⟩

theorem list3 {α : Type} {l : List α} (h : l.length = 3) : ∃ x0 x1 x2, l = [x0, x1, x2] :=
  match l, h with | [x0, x1, x2], _ => ⟨_, _, _, rfl⟩

theorem list4 {α : Type} {l : List α} (h : l.length = 4) : ∃ x0 x1 x2 x3, l = [x0, x1, x2, x3] :=
  match l, h with | [x0, x1, x2, x3], _ => ⟨_, _, _, _, rfl⟩

theorem list5 {α : Type} {l : List α} (h : l.length = 5) : ∃ x0 x1 x2 x3 x4, l = [x0, x1, x2, x3, x4] :=
  match l, h with | [x0, x1, x2, x3, x4], _ => ⟨_, _, _, _, _, rfl⟩

theorem list6 {α : Type} {l : List α} (h : l.length = 6) : ∃ x0 x1 x2 x3 x4 x5, l = [x0, x1, x2, x3, x4, x5] :=
  match l, h with | [x0, x1, x2, x3, x4, x5], _ => ⟨_, _, _, _, _, _, rfl⟩

theorem list7 {α : Type} {l : List α} (h : l.length = 7) : ∃ x0 x1 x2 x3 x4 x5 x6, l = [x0, x1, x2, x3, x4, x5, x6] :=
  match l, h with | [x0, x1, x2, x3, x4, x5, x6], _ => ⟨_, _, _, _, _, _, _, rfl⟩

theorem list8 {α : Type} {l : List α} (h : l.length = 8) : ∃ x0 x1 x2 x3 x4 x5 x6 x7, l = [x0, x1, x2, x3, x4, x5, x6, x7] :=
  match l, h with | [x0, x1, x2, x3, x4, x5, x6, x7], _ => ⟨_, _, _, _, _, _, _, _, rfl⟩

end Go.AX

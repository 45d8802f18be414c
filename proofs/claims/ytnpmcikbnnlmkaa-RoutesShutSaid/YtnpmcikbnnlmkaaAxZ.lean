import Derived.Test.YtnpmcikbnnlmkaaAxY
/-! Regions, and whole stretches of code, by evaluation. -/
namespace Go.AX
variable {P : Program}

def insN (l : List Nat) (k : Nat) : List Nat := match memN l k with | true => l | false => k :: l
def uniN (l r : List Nat) : List Nat := r.foldl insN l
def preOf (acc : List (List Nat)) (o : Oper) : List Nat := (preD o).foldl (fun l k => uniN (insN l k) (acc.getD k [])) []
def presL : List Oper → List (List Nat) → List (List Nat)
  | [], acc => acc
  | o :: r, acc => presL r (acc ++ [preOf acc o])

theorem mem_insN {l : List Nat} {k x : Nat} (h : x ∈ insN l k) : x = k ∨ x ∈ l := by
  unfold insN at h
  split at h
  · exact .inr h
  · exact List.mem_cons.1 h

theorem mem_uniN {r : List Nat} : ∀ {l : List Nat} {x : Nat}, x ∈ uniN l r → x ∈ l ∨ x ∈ r := by
  induction r with
  | nil => intro l x h; exact .inl h
  | cons y r ih =>
    intro l x h
    rcases ih (l := insN l y) h with h | h
    · rcases mem_insN h with rfl | h
      · exact .inr (by simp)
      · exact .inl h
    · exact .inr (List.mem_cons_of_mem _ h)

theorem mem_preOf {acc : List (List Nat)} {o : Oper} {x : Nat} (h : x ∈ preOf acc o) : ∃ k ∈ preD o, x = k ∨ x ∈ acc.getD k [] := by
  have key : ∀ (r l : List Nat) (x : Nat), x ∈ r.foldl (fun l k => uniN (insN l k) (acc.getD k [])) l → x ∈ l ∨ ∃ k ∈ r, x = k ∨ x ∈ acc.getD k [] := by
    intro r
    induction r with
    | nil => intro l x h; exact .inl h
    | cons y r ih =>
      intro l x h
      rcases ih _ x h with h | ⟨k, h1, h2⟩
      · rcases mem_uniN h with h | h
        · rcases mem_insN h with rfl | h
          · exact .inr ⟨_, by simp, .inl rfl⟩
          · exact .inl h
        · exact .inr ⟨y, by simp, .inr h⟩
      · exact .inr ⟨k, List.mem_cons_of_mem _ h1, h2⟩
  rcases key _ _ _ h with h | h
  · simp at h
  · exact h

theorem presL_spec {ops : Array Oper} : ∀ {l : List Oper} {acc : List (List Nat)}, (∀ (j : Nat) o, l[j]? = some o → ops[acc.length + j]? = some o) → (∀ j k, k ∈ acc.getD j [] → Pre ops j k) →
    ∀ j k, k ∈ (presL l acc).getD j [] → Pre ops j k := by
  intro l
  induction l with
  | nil => intro acc _ h; exact h
  | cons o r ih =>
    intro acc hl h
    refine ih (acc := acc ++ [preOf acc o]) (fun j o' hj => ?_) fun j k hk => ?_
    · have := hl (j + 1) o' (by simpa using hj)
      simpa [Nat.add_assoc, Nat.add_comm 1 j] using this
    · rcases Nat.lt_trichotomy j acc.length with hlt | he | hlt
      · have : (acc ++ [preOf acc o]).getD j [] = acc.getD j [] := by simp [List.getD, List.getElem?_append, hlt]
        rw [this] at hk; exact h j k hk
      · subst he
        have : (acc ++ [preOf acc o]).getD acc.length [] = preOf acc o := by simp [List.getD]
        rw [this] at hk
        obtain ⟨q, h1, h2⟩ := mem_preOf hk
        have ho := hl 0 o rfl
        simp only [Nat.add_zero] at ho
        rcases h2 with rfl | h2
        · exact .direct ho h1
        · exact .trans (.direct ho h1) (h q k h2)
      · have : (acc ++ [preOf acc o]).getD j [] = [] := by
          simp only [List.getD]
          rw [List.getElem?_eq_none (by simp; omega)]; rfl
        rw [this] at hk; simp at hk

def quietGo (nb : Nat) (R : OpR) : Nat → List (Option Blk) → Bool
  | _, [] => true
  | i, x :: r => (match x with | none => true | some _ => (actH nb R i).isNone) && quietGo nb R (i + 1) r

def quiet (hp : List (Option Blk)) (pl : Pl) : Bool :=
  match pl.R.dead, pl.R.chg, pl.R.new with
  | [], [], [] => true
  | _, _, _ => quietGo pl.hp.length pl.R 0 hp

theorem quietGo_spec {nb : Nat} {R : OpR} : ∀ {l : List (Option Blk)} {i : Nat}, quietGo nb R i l = true → ∀ b blk, nth l b = some blk → actH nb R (i + b) = none := by
  intro l
  induction l with
  | nil => intro i _ b blk h; simp [nth] at h
  | cons x r ih =>
    intro i h b blk hb
    simp only [quietGo, Bool.and_eq_true] at h
    cases b with
    | zero =>
      simp only [nth] at hb
      subst hb
      simpa using h.1
    | succ b => have := ih h.2 b blk hb; rwa [show i + (b + 1) = i + 1 + b by omega]

theorem quiet_spec {hp : List (Option Blk)} {pl : Pl} (h : quiet hp pl = true) (b : Nat) (blk : Blk) (hb : nth hp b = some blk) : actH pl.hp.length pl.R b = none := by
  unfold quiet at h
  split at h
  · rename_i h1 h2 h3
    unfold actH
    rw [h1, h2, h3]
    split
    · rfl
    · rw [if_neg (by simp; omega)]
  · have := quietGo_spec h b blk hb
    rwa [Nat.zero_add] at this

def optIs : Option Nat → Nat → Bool
  | some x, d => Nat.beq x d
  | none, _ => false

def apartP (x y : Option Nat × Pl) : Bool :=
  (match x.1 with | none => true | some d => !optIs y.1 d && !memN y.2.reads d) && (match y.1 with | none => true | some d => !memN x.2.reads d) && quiet y.2.hp x.2 && quiet x.2.hp y.2

theorem apartP_spec {x y : Option Nat × Pl} (h : apartP x y = true) : Ap x y := by
  simp only [apartP, Bool.and_eq_true] at h
  obtain ⟨⟨⟨h1, h2⟩, h3⟩, h4⟩ := h
  have nm : ∀ {l : List Nat} {d : Nat}, (!memN l d) = true → d ∉ l := fun h hm => by rw [memN_iff.2 hm] at h; cases h
  refine ⟨fun d hd he => ?_, fun d hd => ?_, fun d hd => ?_, quiet_spec h3, quiet_spec h4⟩
  · rw [hd] at h1
    simp only [Bool.and_eq_true] at h1
    rw [he] at h1
    simp [optIs] at h1
  · rw [hd] at h1
    simp only [Bool.and_eq_true] at h1
    exact nm h1.2
  · rw [hd] at h2
    exact nm h2

def apGo (pres : List (List Nat)) : Nat → List (Option Nat × Pl) → List (Nat × (Option Nat × Pl)) → Bool
  | _, [], _ => true
  | j, y :: r, es => es.all (fun x => memN (pres.getD j []) x.1 || apartP x.2 y) && apGo pres (j + 1) r ((j, y) :: es)

theorem apGo_spec {pres : List (List Nat)} {pls : List (Option Nat × Pl)} : ∀ {l : List (Option Nat × Pl)} {j : Nat} {es : List (Nat × (Option Nat × Pl))}, apGo pres j l es = true →
    (∀ k, l[k]? = pls[j + k]?) → (∀ i x, i < j → pls[i]? = some x → (i, x) ∈ es) → ∀ i k x y, j ≤ k → i < k → pls[i]? = some x → pls[k]? = some y → memN (pres.getD k []) i = true ∨ apartP x y = true := by
  intro l
  induction l with
  | nil =>
    intro j es _ hl _ i k x y hjk _ _ hy
    have := hl (k - j)
    rw [show j + (k - j) = k by omega, hy] at this
    simp at this
  | cons z r ih =>
    intro j es h hl hes i k x y hjk hik hx hy
    simp only [apGo, Bool.and_eq_true] at h
    have hz : pls[j]? = some z := by have := hl 0; simpa using this.symm
    rcases Nat.lt_or_ge j k with hlt | hge
    · refine ih h.2 (fun q => ?_) (fun i' x' hi' hx' => ?_) i k x y (by omega) hik hx hy
      · have := hl (q + 1)
        simpa [Nat.add_assoc, Nat.add_comm 1 q] using this
      · rcases Nat.lt_or_ge i' j with h1 | h1
        · exact List.mem_cons_of_mem _ (hes i' x' h1 hx')
        · have : i' = j := by omega
          subst this
          rw [hz] at hx'; cases hx'; simp
    · have : k = j := by omega
      subst this
      rw [hz] at hy; cases hy
      have := List.all_eq_true.1 h.1 _ (hes i x hik hx)
      simpa using this

def dirGo : Nat → List Oper → Bool
  | _, [] => true
  | j, o :: r => (preD o).all (fun k => Nat.blt k j) && dirGo (j + 1) r

theorem dirGo_spec : ∀ {l : List Oper} {j : Nat}, dirGo j l = true → ∀ (k : Nat) o, l[k]? = some o → ∀ q, q ∈ preD o → q < j + k := by
  intro l
  induction l with
  | nil => intro j _ k o h; simp at h
  | cons x r ih =>
    intro j h k o hk q hq
    simp only [dirGo, Bool.and_eq_true] at h
    cases k with
    | zero =>
      simp at hk; subst hk
      exact Nat.le_of_ble_eq_true (show Nat.ble (q + 1) j = true from List.all_eq_true.1 h.1 q hq)
    | succ k => have := ih h.2 k o (by simpa using hk) q hq; omega

def evalReg (P : Program) (H : HT) (m : Nat) (ops : Array Oper) (dr : Bool) (st : St) : Option (St × Prop) :=
  match evalOps P H dr m ops ops.toList st with
  | some (pls, st', p) => match dr with
    | false => some (st', p)
    | true => match dirGo 0 ops.toList && apGo (presL ops.toList []) 0 pls [] with
      | true => some (st', p)
      | false => none
  | none => none

theorem VR.drawn {φ : Phi} {A : Nat → Prop} {w : World} {n : Nat} {c : AV} {v : Value} (h : VR φ A w c v) : VR φ A { w with drawn := n } c v :=
  h.mono (fun _ _ h => h) (fun _ h => h) (fun _ _ => rfl) (fun _ => Nat.le_refl _)

theorem T.region {H : HT} {m id : Nat} {ops : Array Oper} {dr : Bool} {st st' : St} {p : Prop} {post : Exit → St → Prop} (hmix : P.follows .mixedOrders = true) (h : evalReg P H m ops dr st = some (st', p)) (hp : p)
    (hpost : post .normal st') : T P m (.region id ops dr) st post := by
  intro A0 n0 φ a w hm hr
  unfold evalReg at h
  split at h
  case h_2 => cases h
  rename_i pls st1 q hev
  split at h
  · cases h
    exact wp_region_list (seq_sound hev hp hm hr fun φ' a' w' g1 g2 g3 => ⟨φ', _, hpost, g2, g1, g3⟩)
  · split at h
    case h_2 => cases h
    rename_i hc
    cases h
    simp only [Bool.and_eq_true] at hc
    obtain ⟨g1, g2, g3⟩ := evalOps_spec hev hp
    have hlen : ops.toList.length = ops.size := by simp
    rw [hlen] at g2 g1
    have D : DR P m ops st pls := by
      refine ⟨g1, fun j o ho => g3 j o (by simpa using ho), fun j o ho k hk => ?_, fun i j x y hij hx hy => ?_, hm⟩
      · have := dirGo_spec hc.1 j o (by simpa using ho) k hk; omega
      · rcases apGo_spec hc.2 (pls := pls) (fun k => by rw [Nat.zero_add]) (fun i x hi => by omega) i j x y (Nat.zero_le _) hij hx hy with h | h
        · left
          refine presL_spec (ops := ops) (l := ops.toList) (acc := []) (fun j o hj => by simpa using hj) (fun j k hk => by simp at hk) j i (memN_iff.1 h)
        · exact .inr (apartP_spec h)
    refine wp_region_any hmix (drawn_sound D (by rw [← g2]; exact hpost) ops.size _ φ a _ ⟨by simp, fun j o ho hs => ?_, ?_, ?_, fun b hb => ?_⟩ ?_)
    · have : seen (Array.replicate ops.size false) j = false := by
        unfold seen
        simp only [Array.getD_eq_getD_getElem?, Array.getElem?_replicate]; split <;> rfl
      rw [this] at hs; cases hs
    · have hseen : ∀ k, seen (Array.replicate ops.size false) k = false := by
        intro k; unfold seen
        simp only [Array.getD_eq_getD_getElem?, Array.getElem?_replicate]; split <;> rfl
      have e1 : cur (sact pls) (look st.fr) (seen (Array.replicate ops.size false)) ops.size = look st.fr := by
        funext s
        exact cur_text (sact pls) (look st.fr) (j := 0) (Nat.zero_le _) fun k _ _ => by rw [hseen]; simp
      have e2 : cur (hact pls) st.h (seen (Array.replicate ops.size false)) ops.size = st.h := by
        funext s
        exact cur_text (hact pls) st.h (j := 0) (Nat.zero_le _) fun k _ _ => by rw [hseen]; simp
      rw [e1, e2]
      refine ⟨hr.defs, hr.size, fun s => (hr.slot s).drawn, ⟨fun b blk hb => ?_, hr.heap.flat, hr.heap.inj⟩, hr.base, hr.own⟩
      rcases hr.heap.blk b blk hb with h | ⟨r, cs, T, k1, k2, k3, k4⟩
      · exact .inl h
      · exact .inr ⟨r, cs, T, k1, k2, k3, fun i e hi => ⟨(k4 i e hi).1, fun j c hj => by
          obtain ⟨f1, u, f2, f3⟩ := (k4 i e hi).2 j c hj
          exact ⟨f1, u, f2, f3.drawn⟩⟩⟩
    · have hseen : ∀ k, seen (Array.replicate ops.size false) k = false := by
        intro k; unfold seen
        simp only [Array.getD_eq_getD_getElem?, Array.getElem?_replicate]; split <;> rfl
      have e2 : cur (hact pls) st.h (seen (Array.replicate ops.size false)) ops.size = st.h := by
        funext s
        exact cur_text (hact pls) st.h (j := 0) (Nat.zero_le _) fun k _ _ => by rw [hseen]; simp
      rw [e2]
      exact ⟨fun _ _ => rfl, ⟨rfl, rfl, rfl, Nat.le_refl _, fun _ _ _ => rfl, fun _ => Nat.le_refl _⟩, fun _ h => .inl h⟩
    · rcases Nat.lt_or_ge b st.hp.length with h | h
      · exact .inl h
      · exact absurd (hr.out b h) hb
    · exact Nat.le_trans List.countP_le_length (by simp)

inductive Kt where
  | code (c : Code)
  | blk (id : Nat)
  | rnd (c : Code)

/-- A loop at the beginning of a round. -/
def TL (P : Program) (m : Nat) (c : Code) (st : St) (post : Exit → St → Prop) : Prop :=
  ∀ A0 n0 φ a w, m ≤ st.hp.length → Rel A0 n0 m φ st a w → ∀ b k cs, ∃ e a' w', RQ A0 n0 m φ st.h w post e a' w' ∧ Arrives P (lone (b.at a (.code c :: .inLoop c :: k)) cs w) b k cs e a' w'

theorem T.of_TL {m : Nat} {c : Code} {st : St} {post : Exit → St → Prop} (h : TL P m c st post) : T P m (.loop c) st post := by
  intro A0 n0 φ a w hm hr b k cs
  obtain ⟨e, a', w', hq, harr⟩ := h A0 n0 φ a w hm hr b k cs
  exact ⟨e, a', w', hq, .of_steps (.one step_loop) harr⟩

theorem TL.round {m : Nat} {c : Code} {st : St} {post : Exit → St → Prop} (h : T P m c st (andThen (fun s => TL P m c s post) post)) : TL P m c st post := by
  intro A0 n0 φ a w hm hr b k cs
  obtain ⟨e, a1, w1, hq, harr⟩ := h A0 n0 φ a w hm hr b (.inLoop c :: k) cs
  obtain ⟨φ1, st1, h1, h2, h3, h4⟩ := hq
  cases e with
  | normal =>
    obtain ⟨e2, a2, w2, hq2, harr2⟩ := h1 A0 n0 φ1 a1 w1 h3 h2 b k cs
    exact ⟨e2, a2, w2, hq2.trans h4, .of_steps (Steps.trans harr (.one step_inLoop)) harr2⟩
  | exit id => exact ⟨_, a1, w1, ⟨φ1, st1, h1, h2, h3, h4⟩, .pass (x := .inLoop c) rfl (fun _ _ => .inl (by simp)) harr⟩
  | goto l => exact ⟨_, a1, w1, ⟨φ1, st1, h1, h2, h3, h4⟩, .pass (x := .inLoop c) rfl (fun _ _ => .inl (by simp)) harr⟩
  | ret => exact ⟨_, a1, w1, ⟨φ1, st1, h1, h2, h3, h4⟩, .pass (x := .inLoop c) rfl (fun _ _ => .inl (by simp)) harr⟩
  | panic ch => exact ⟨_, a1, w1, ⟨φ1, st1, h1, h2, h3, h4⟩, .pass (x := .inLoop c) rfl (fun _ _ => .inl (by simp)) harr⟩
  | outgrown => exact ⟨_, a1, w1, ⟨φ1, st1, h1, h2, h3, h4⟩, .pass (x := .inLoop c) rfl (fun _ _ => .inl (by simp)) harr⟩

inductive Out where
  | done (e : Exit)
  | loop (c : Code) (k : List Kt)

def TK (P : Program) (m : Nat) (post : Exit → St → Prop) : List Kt → Exit → St → Prop
  | [], e, st => post e st
  | .code c :: k, e, st => match e with
    | .normal => T P m c st (TK P m post k)
    | e => TK P m post k e st
  | .blk id :: k, e, st => inBlk id (TK P m post k) e st
  | .rnd c :: k, e, st => match e with
    | .normal => TL P m c st (TK P m post k)
    | e => TK P m post k e st

def exitB (id : Nat) : Exit → Exit
  | .exit id' => match Nat.beq id' id with | true => .normal | false => .exit id'
  | e => e

def condSlot : Operand → Nat
  | .tmp g => g
  | _ => 1000000

def conj (p : Prop) : Option (Out × St × Prop) → Option (Out × St × Prop)
  | some (o, s, q) => some (o, s, p ∧ q)
  | none => none

def go (P : Program) (H : HT) (m : Nat) : Nat → Code ⊕ Exit → List Kt → St → Option (Out × St × Prop)
  | 0, _, _, _ => none
  | n + 1, .inl c, k, st => match c with
    | .seq a b => go P H m n (.inl a) (.code b :: k) st
    | .block id c => go P H m n (.inl c) (.blk id :: k) st
    | .region _ ops dr => match evalReg P H m ops dr st with
      | some (st', p) => conj p (go P H m n (.inr .normal) k st')
      | none => none
    | .cond x c d => match st.ev x with
      | .bool b => match (gd H (condSlot x) b).1 with
        | true => conj (gd H (condSlot x) b).2 (go P H m n (.inl c) k st)
        | false => conj (gd H (condSlot x) b).2 (go P H m n (.inl d) k st)
      | _ => none
    | .skip => go P H m n (.inr .normal) k st
    | .ret => go P H m n (.inr .ret) k st
    | .exit id => go P H m n (.inr (.exit id)) k st
    | .loop c => match H.unroll with
      | true => go P H m n (.inl c) (.rnd c :: k) st
      | false => some (.loop c k, st, True)
    | _ => none
  | n + 1, .inr e, k, st => match k with
    | [] => some (.done e, st, True)
    | .code c :: k => match e with
      | .normal => go P H m n (.inl c) k st
      | e => go P H m n (.inr e) k st
    | .blk id :: k => go P H m n (.inr (exitB id e)) k st
    | .rnd c :: k => match e with
      | .normal => go P H m n (.inl c) (.rnd c :: k) st
      | e => go P H m n (.inr e) k st

/-- What is left to show behind a stretch. -/
def Rest (P : Program) (m : Nat) (post : Exit → St → Prop) (st : St) : Out → Prop
  | .done e => post e st
  | .loop c k => T P m (.loop c) st (TK P m post k)

theorem go_sound {H : HT} {m : Nat} {post : Exit → St → Prop} (hmix : P.follows .mixedOrders = true) : ∀ (n : Nat) (c : Code ⊕ Exit) (k : List Kt) (st : St) (o : Out) (st' : St) (p : Prop),
    go P H m n c k st = some (o, st', p) → p → Rest P m post st' o → match c with
      | .inl c => T P m c st (TK P m post k)
      | .inr e => TK P m post k e st := by
  have hcj : ∀ {p : Prop} {x : Option (Out × St × Prop)} {o : Out} {st' : St} {q : Prop}, conj p x = some (o, st', q) → ∃ q', x = some (o, st', q') ∧ q = (p ∧ q') := by
    intro p x o st' q h
    unfold conj at h
    split at h
    · cases h; exact ⟨_, rfl, rfl⟩
    · cases h
  intro n
  induction n with
  | zero => intro c k st o st' p h; simp [go] at h
  | succ n ih =>
    intro c k st o st' p h hp hrest
    cases c with
    | inl c =>
      cases c <;> simp only [go] at h
      case seq a b =>
        refine T.seq ((ih _ _ _ _ _ _ h hp hrest).mono fun e s hs => ?_)
        cases e <;> exact hs
      case block id c =>
        refine T.block ((ih _ _ _ _ _ _ h hp hrest).mono fun e s hs => ?_)
        exact hs
      case region id ops dr =>
        split at h
        · rename_i st1 p1 h1
          obtain ⟨q, h2, rfl⟩ := hcj h
          exact T.region hmix h1 hp.1 (ih _ _ _ _ _ _ h2 hp.2 hrest)
        · cases h
      case cond x c d =>
        split at h
        · rename_i b hb
          split at h
          · rename_i hg
            obtain ⟨q, h2, rfl⟩ := hcj h
            exact T.cond_true (by rw [hb, gd_spec hp.1, hg]) (ih _ _ _ _ _ _ h2 hp.2 hrest)
          · rename_i hg
            obtain ⟨q, h2, rfl⟩ := hcj h
            exact T.cond_false (by rw [hb, gd_spec hp.1, hg]) (ih _ _ _ _ _ _ h2 hp.2 hrest)
        · cases h
      case skip => exact T.skip (ih _ _ _ _ _ _ h hp hrest)
      case ret => exact T.ret (ih _ _ _ _ _ _ h hp hrest)
      case exit id => exact T.exit (ih _ _ _ _ _ _ h hp hrest)
      case loop c =>
        split at h
        · refine T.of_TL (TL.round ((ih _ _ _ _ _ _ h hp hrest).mono fun e s hs => ?_))
          cases e <;> exact hs
        · cases h; exact hrest
      all_goals cases h
    | inr e =>
      cases k with
      | nil => simp only [go] at h; cases h; exact hrest
      | cons x k =>
        cases x with
        | code c =>
          cases e <;> simp only [go] at h
          case normal => exact ih _ _ _ _ _ _ h hp hrest
          all_goals exact ih _ _ _ _ _ _ h hp hrest
        | rnd c =>
          cases e <;> simp only [go] at h
          case normal =>
            refine TL.round ((ih _ _ _ _ _ _ h hp hrest).mono fun e s hs => ?_)
            cases e <;> exact hs
          all_goals exact ih _ _ _ _ _ _ h hp hrest
        | blk id =>
          simp only [go] at h
          have := ih _ _ _ _ _ _ h hp hrest
          cases e <;> simp only [exitB] at this
          case exit id' =>
            show inBlk id _ _ _
            simp only [inBlk]
            split at this
            · rename_i hb; rw [if_pos (Nat.eq_of_beq_eq_true hb)]; exact this
            · rename_i hb; rw [if_neg (fun e => by rw [e, Nat.beq_refl] at hb; cases hb)]; exact this
          all_goals exact this

theorem T.run {H : HT} {m n : Nat} {c : Code} {st : St} {post : Exit → St → Prop} {o : Out} {st' : St} {p : Prop} (hmix : P.follows .mixedOrders = true) (h : go P H m n (.inl c) [] st = some (o, st', p)) (hp : p) (hr : Rest P m post st' o) :
    T P m c st post := go_sound hmix n (.inl c) [] st o st' p h hp hr

end Go.AX

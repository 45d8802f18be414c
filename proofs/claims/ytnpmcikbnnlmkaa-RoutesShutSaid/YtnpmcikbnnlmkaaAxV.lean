import Derived.Test.YtnpmcikbnnlmkaaAxU
/-! The evaluator of one operation, all together. -/
namespace Go.AX
variable {P : Program}

def liveW (hp : List (Option Blk)) (b : Nat) : Bool := match nth hp b with | some blk => blk.wr | none => false

/-- What freezing asks of the blocks that come out. -/
def immOK (fz : List Nat) (outs : List Blk) : Prop := match fz with
  | [] => True
  | _ => ∀ blk ∈ outs, ImmB blk

def aCall (P : Program) (x : AV) (args : List AV) (hp : List (Option Blk)) (hint : Hint) : Option (OpR × Prop) :=
  match x, hint with
  | .fn f caps, .call σ fz outs res =>
    match renH σ fz hp, fnOk P f && nodupN σ && fz.all (fun b => !memN σ b) && σ.all (liveW hp) && outs.all (·.wr) && (match fz with | [] => true | _ => immF 3 res) with
    | some hpl, true => some (callR σ hp.length outs res,
        ((args ++ caps).map fun a => (renV σ fz hp 3 a).2).foldr And ((hpl.map (·.2)).foldr And
          (CT P f (hpl.map (·.1)) ((args ++ caps).map fun a => (renV σ fz hp 3 a).1) (mapSome outs) res ∧ immOK fz outs)))
    | _, _ => none
  | _, _ => none

theorem aCall_sound {o : Oper} {ev : Operand → AV} {hp : List (Option Blk)} {x : Operand} {xs : Array Operand} {ts : Array TypeId} {hint : Hint} {R : OpR} {p : Prop}
    (ho : o.op = .call { callee := .value x, args := xs, argTypes := ts }) (hr : aCall P (ev x) (xs.toList.map ev) hp hint = some (R, p)) (hpp : p) :
    OpOK P o ev (nth hp) hp.length R ∧ R.fits (nth hp) ∧ R.dead = [] := by
  generalize hx : ev x = u at hr
  unfold aCall at hr
  split at hr
  case h_2 => cases hr
  rename_i f caps σ fz outs res
  split at hr
  case h_2 => cases hr
  rename_i hpl hh hc
  cases hr
  simp only [Bool.and_eq_true] at hc
  obtain ⟨⟨⟨⟨⟨h1, h2⟩, h3⟩, h4⟩, h5⟩, h6⟩ := hc
  obtain ⟨p1, hpp⟩ := foldr_and hpp
  obtain ⟨p2, p3, p4⟩ := foldr_and hpp
  have hlive : ∀ b ∈ σ, ∃ blk, nth hp b = some blk ∧ blk.wr = true := by
    intro b hb
    have := List.all_eq_true.1 h4 b hb
    unfold liveW at this
    split at this
    · rename_i blk hblk; exact ⟨blk, hblk, this⟩
    · cases this
  refine ⟨ok_call ho hx h1 (fun a ha => p1 _ (List.mem_map.2 ⟨a, ha, rfl⟩)) hh p2 h2 (fun b hb hm => ?_) hlive p3 (fun blk hb => List.all_eq_true.1 h5 blk hb) ?_, ⟨fun b blk hm => ?_, fun b hm => by simp [callR] at hm⟩, rfl⟩
  · have := List.all_eq_true.1 h3 b hb
    rw [memN_iff.2 hm] at this; cases this
  · cases fz with
    | nil => exact .inl rfl
    | cons y r => exact .inr ⟨h6, p4⟩
  · obtain ⟨k, g1, _⟩ := zipB_mem hm
    exact hlive b (List.mem_of_getElem? g1)

def aop (P : Program) (o : Oper) (ev : Operand → AV) (hp : List (Option Blk)) (hint : Hint) : Option (OpR × Prop) :=
  match o.op with
  | .move x => vOp (ev x)
  | .assign x => vOp (ev x)
  | .pick c x y => match ev c with
    | .bool t => vOp (pickV t (ev x) (ev y))
    | _ => none
  | .nilCheck x => match ev x with
    | .ptr b i j => vOp (.ptr b i j)
    | .iptr cs => vOp (.iptr cs)
    | _ => none
  | .binOp op t x y _ => aBin P op t (ev x) (ev y)
  | .unOp .not _ x => match ev x with
    | .bool b => vOp (.bool (!b))
    | _ => none
  | .unOp .neg _ x => match ev x with
    | .int k n => vOp (.int k (k.wrap (0 - n)))
    | _ => none
  | .convert s t x => match ev x, unI P t, unK P s with
    | .int _ n, some k', true => vOp (.int k' (k'.wrap n))
    | _, _, _ => none
  | .extract x i => match ev x with
    | .tup vs => match vs[i]? with
      | some v => vOp v
      | none => none
    | _ => none
  | .field t x f => match ev x, P.underlying t with
    | .agg cs, some (.struct fs) => match fs[f]? with
      | some fd => match partA P fd.type cs fd.offset with
        | some v => vOp v
        | none => none
      | none => none
    | _, _ => none
  | .fieldAddr t x f => match ev x, fldOff P t f with
    | .ptr b i j, some off => vOp (.ptr b i (j + off))
    | .iptr cs, some off => vOp (.iptr (cs.drop off))
    | _, _ => none
  | .indexAddr t x y => aIdx P t (ev x) (ev y) hp hint
  | .load t x => aLoad P t (ev x) hp hint
  | .store t x y => aStore P t (ev x) (ev y) hp hint
  | .alloc t => match P.info? t with
    | some i => match i.zero with
      | some zv => match (absV zv).known && allOne (absV zv).cells with
        | true => some ({ v := .ptr hp.length 0 0, new := [{ es := [absV zv], z := (absV zv).cells.length, flat := norefL (absV zv).cells }] }, True)
        | false => none
      | none => none
    | none => none
  | .box _ x => match (ev x).known && allOne (ev x).cells with
    | true => some ({ v := .ptr hp.length 0 0, new := [{ es := [ev x], z := (ev x).cells.length, flat := norefL (ev x).cells }] }, True)
    | false => none
  | .build t parts => match builtA P t (parts.toList.map fun p => (p.1, ev p.2)) with
    | some v => vOp v
    | none => none
  | .buildSlice t n parts => match litA P t n (parts.toList.map fun p => (p.1, ev p.2)) with
    | some (es, z) => some ({ v := .sl hp.length 0 n, new := [{ es, z, flat := norefE es }] }, True)
    | none => none
  | .makeSlice t x y => match ev x, ev y, zeroEl P t with
    | .int _ l, .int _ c, some (e, z, by_) => some ({ v := .sl hp.length 0 l.toNat, new := [{ es := List.replicate l.toNat e, z, flat := norefL e.cells }] },
        0 ≤ l ∧ l ≤ c ∧ (by_ : Int) * c ≤ 281474976710656 ∧ c ≤ 9223372036854775807)
    | _, _, _ => none
  | .slice t x lo hi mx => aSlice P t (ev x) (lo.map ev) (hi.map ev) (mx.map ev) hp
  | .makeFunc fn first caps => match fn, first.toList with
    | .func f, [] => vOp (.fn f (caps.toList.map ev))
    | _, _ => none
  | .call c => match c.callee, c.args.toList, c.argTypes.toList with
    | .value x, xs, _ => aCall P (ev x) (xs.map ev) hp hint
    | .builtin .len, [x], t :: _ => aLen P t (ev x)
    | .builtin .append, [x, y], [t, t'] => match Nat.beq t t' with
      | true => aAppend P t (ev x) (ev y) hp
      | false => none
    | .builtin .copy, [x, y], [t, _] => aCopy P t (ev x) (ev y) hp
    | .builtin .min, [x, y], _ => match ev x, ev y with
      | .int k a, .int k' b => match decide (k = k') with
        | true => vOp (.int k (if b < a then b else a))
        | false => none
      | _, _ => none
    | .builtin .max, [x, y], _ => match ev x, ev y with
      | .int k a, .int k' b => match decide (k = k') with
        | true => vOp (.int k (if a < b then b else a))
        | false => none
      | _, _ => none
    | _, _, _ => none
  | _ => none

theorem arr_of {α : Type} {a : Array α} {l : List α} (h : a.toList = l) : a = l.toArray := by rw [← h]

theorem aop_sound {o : Oper} {ev : Operand → AV} {hp : List (Option Blk)} {hint : Hint} {R : OpR} {p : Prop} (hr : aop P o ev hp hint = some (R, p)) (hpp : p) :
    OpOK P o ev (nth hp) hp.length R ∧ R.fits (nth hp) := by
  have value : ∀ {v : AV}, vOp v = some (R, p) → OpOK P o ev (nth hp) hp.length { v } → OpOK P o ev (nth hp) hp.length R ∧ R.fits (nth hp) := by
    intro v h hk; cases h; exact ⟨hk, OpR.fits_value _ _⟩
  have new : ∀ {v : AV} {blk : Blk}, OpR.fits { v, new := [blk] } (nth hp) := ⟨fun b blk hm => by simp at hm, fun b hm => by simp at hm⟩
  unfold aop at hr
  split at hr
  · rename_i x ho; exact value hr (ok_move (.inl ho))
  · rename_i x ho; exact value hr (ok_move (.inr ho))
  · rename_i c x y ho; split at hr
    · rename_i t hc; exact value hr (ok_pick ho hc)
    · cases hr
  · rename_i x ho; split at hr
    · rename_i b i j hx; have := ok_nilCheck (P := P) (h := nth hp) (nb := hp.length) ho (.inl ⟨b, i, j, hx⟩); rw [hx] at this; exact value hr this
    · rename_i cs hx; have := ok_nilCheck (P := P) (h := nth hp) (nb := hp.length) ho (.inr ⟨cs, hx⟩); rw [hx] at this; exact value hr this
    · cases hr
  · rename_i op t x y t' ho; obtain ⟨h1, h2, _⟩ := aBin_sound ho hr hpp (h := nth hp) (nb := hp.length); exact ⟨h1, h2⟩
  · rename_i t x ho; split at hr
    · rename_i b hx; exact value hr (ok_not ho hx)
    · cases hr
  · rename_i t x ho; split at hr
    · rename_i k n hx; exact value hr (ok_neg ho hx)
    · cases hr
  · rename_i s t x ho; split at hr
    · rename_i k n k' hx hu hs
      refine value hr (ok_convI ho hx ?_ ?_)
      · unfold unK at hs; split at hs
        · rename_i d hd; exact ⟨d, hd⟩
        · cases hs
      · unfold unI at hu; split at hu
        · cases hu; assumption
        · cases hu
    · cases hr
  · rename_i x i ho; split at hr
    · rename_i vs hx; split at hr
      · rename_i v hv; exact value hr (ok_extract ho hx hv)
      · cases hr
    · cases hr
  · rename_i t x f ho; split at hr
    · rename_i cs fs hx hu; split at hr
      · rename_i fd hf; split at hr
        · rename_i v hv; exact value hr (ok_field ho hx hu hf hv)
        · cases hr
      · cases hr
    · cases hr
  · rename_i t x f ho; split at hr
    · rename_i b i j off hx hf; exact value hr (ok_fieldAddr_ptr ho hx hf)
    · rename_i cs off hx hf; exact value hr (ok_fieldAddr_iptr ho hx hf)
    · cases hr
  · rename_i t x y ho; obtain ⟨h1, h2, _⟩ := aIdx_sound ho hr hpp (nb := hp.length); exact ⟨h1, h2⟩
  · rename_i t x ho; obtain ⟨h1, h2, _⟩ := aLoad_sound ho hr hpp (nb := hp.length); exact ⟨h1, h2⟩
  · rename_i t x y ho; obtain ⟨h1, h2, _⟩ := aStore_sound ho hr hpp (nb := hp.length); exact ⟨h1, h2⟩
  · rename_i t ho; split at hr
    · rename_i i hi; split at hr
      · rename_i zv hz; split at hr
        · rename_i hc; simp only [Bool.and_eq_true] at hc; cases hr; exact ⟨ok_alloc ho hi hz hc.1 hc.2, new⟩
        · cases hr
      · cases hr
    · cases hr
  · rename_i t x ho; split at hr
    · rename_i hc; simp only [Bool.and_eq_true] at hc; cases hr; exact ⟨ok_box ho hc.1 hc.2, new⟩
    · cases hr
  · rename_i t parts ho; split at hr
    · rename_i v hv; exact value hr (ok_build ho hv)
    · cases hr
  · rename_i t n parts ho; split at hr
    · rename_i es z hv; cases hr; exact ⟨ok_buildSlice ho hv, new⟩
    · cases hr
  · rename_i t x y ho; split at hr
    · rename_i kl l kc c e z by_ hx hy ht; cases hr; exact ⟨ok_makeSlice ho hx hy ht hpp.1 hpp.2.1 hpp.2.2.1 hpp.2.2.2, new⟩
    · cases hr
  · rename_i t x lo hi mx ho; obtain ⟨h1, h2, _⟩ := aSlice_sound ho hr hpp (nb := hp.length); exact ⟨h1, h2⟩
  · rename_i fn first caps ho; split at hr
    · rename_i f hfn hf
      have := arr_of hf
      subst this
      exact value hr (ok_makeFunc ho)
    · cases hr
  · rename_i c ho
    obtain ⟨callee, args, argTypes⟩ := c
    simp only at hr
    split at hr
    · rename_i x xs ts _; obtain ⟨h1, h2, _⟩ := aCall_sound ho hr hpp; exact ⟨h1, h2⟩
    · rename_i x t ts ha ht
      have := arr_of ha; subst this
      obtain ⟨h1, h2, _⟩ := aLen_sound (h := nth hp) (nb := hp.length) (t := t) ho (by rw [arr_of ht]; simp) hr; exact ⟨h1, h2⟩
    · rename_i x y t t' ha ht
      split at hr
      · rename_i hb
        have hb := Nat.eq_of_beq_eq_true hb
        subst hb
        have := arr_of ha; subst this
        have := arr_of ht; subst this
        exact aAppend_sound ho hr hpp
      · cases hr
    · rename_i x y t t' ha ht
      have := arr_of ha; subst this
      have := arr_of ht; subst this
      obtain ⟨h1, h2, _⟩ := aCopy_sound ho hr hpp (nb := hp.length); exact ⟨h1, h2⟩
    · rename_i x y ts ha
      have := arr_of ha; subst this
      split at hr
      · rename_i k a k' b hx hy; split at hr
        · rename_i hk; have hk := of_decide_eq_true hk; subst hk; exact value hr (ok_minmax ho hx hy (.inl ⟨rfl, rfl⟩))
        · cases hr
      · cases hr
    · rename_i x y ts ha
      have := arr_of ha; subst this
      split at hr
      · rename_i k a k' b hx hy; split at hr
        · rename_i hk; have hk := of_decide_eq_true hk; subst hk; exact value hr (ok_minmax ho hx hy (.inr ⟨rfl, rfl⟩))
        · cases hr
      · cases hr
    · cases hr
  · cases hr

end Go.AX

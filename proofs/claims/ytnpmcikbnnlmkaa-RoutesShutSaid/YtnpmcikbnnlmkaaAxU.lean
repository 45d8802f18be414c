import Derived.Test.YtnpmcikbnnlmkaaAxT
/-! The evaluator of one operation: the rest, and all together. -/
namespace Go.AX
variable {P : Program}

def aIdx (P : Program) (t : TypeId) (x y : AV) (hp : List (Option Blk)) (hint : Hint) : Option (OpR × Prop) :=
  match x, y, elSz P t with
  | .sl b i n, .int _ m, some (none, z) =>
    match nth hp b with
    | some blk => match Nat.beq blk.z z with
      | true => some ({ v := .ptr b (i + m.toNat) 0 }, 0 ≤ m ∧ m < n)
      | false => none
    | none => none
  | .lst es, .int _ m, some (none, z) =>
    match hint with
    | .el e => match Nat.beq e.cells.length z with
      | true => some ({ v := .iptr e.cells }, 0 ≤ m ∧ es[m.toNat]? = some e)
      | false => none
    | _ => match es[m.toNat]? with
      | some e => match Nat.beq e.cells.length z with
        | true => some ({ v := .iptr e.cells }, 0 ≤ m)
        | false => none
      | none => none
  | .ptr b i j, .int _ m, some (some n, z) => some ({ v := .ptr b i (j + m.toNat * z) }, 0 ≤ m ∧ m < n)
  | _, _, _ => none

theorem aIdx_sound {o : Oper} {ev : Operand → AV} {hp : List (Option Blk)} {nb : Nat} {t : TypeId} {x y : Operand} {hint : Hint} {R : OpR} {p : Prop}
    (ho : o.op = .indexAddr t x y) (hr : aIdx P t (ev x) (ev y) hp hint = some (R, p)) (hpp : p) : OpOK P o ev (nth hp) nb R ∧ R.fits (nth hp) ∧ R.dead = [] := by
  generalize hx : ev x = u at hr
  generalize hy : ev y = v at hr
  unfold aIdx at hr
  split at hr
  · rename_i b i n k m z ht
    split at hr
    case h_2 => cases hr
    rename_i blk hb
    split at hr
    · rename_i hz; cases hr; exact ⟨ok_indexAddr_sl ho hx hy ht hb (Nat.eq_of_beq_eq_true hz) hpp, OpR.fits_value _ _, rfl⟩
    · cases hr
  · rename_i es k m z ht
    split at hr
    · rename_i e
      split at hr
      · rename_i hz; cases hr; exact ⟨ok_indexAddr_lst ho hx hy ht hpp.1 hpp.2 (Nat.eq_of_beq_eq_true hz), OpR.fits_value _ _, rfl⟩
      · cases hr
    · split at hr
      case h_2 => cases hr
      rename_i e he
      split at hr
      · rename_i hz; cases hr; exact ⟨ok_indexAddr_lst ho hx hy ht hpp he (Nat.eq_of_beq_eq_true hz), OpR.fits_value _ _, rfl⟩
      · cases hr
  · rename_i b i j k m n z ht
    cases hr; exact ⟨ok_indexAddr_arr ho hx hy ht hpp, OpR.fits_value _ _, rfl⟩
  · cases hr

/-- The value of a cut: a whole one as it is. -/
def cutL (es : List AV) (l u : Int) : AV := .lst ((es.drop l.toNat).take (u.toNat - l.toNat))

def aSliceE (P : Program) (t : TypeId) (x : AV) (lo hi mx : Option AV) : Bool :=
  match x, lo, hi, mx, elSz P t with
  | .lst _, none, some (.int _ u), some (.int _ m), some (none, _) => match u, m with
    | .ofNat 0, .ofNat 0 => true
    | _, _ => false
  | _, _, _, _, _ => false

theorem aSliceE_spec {t : TypeId} {x : AV} {lo hi mx : Option AV} (h : aSliceE P t x lo hi mx = true) : ∃ es ky kq z, x = .lst es ∧ lo = none ∧ hi = some (.int ky 0) ∧ mx = some (.int kq 0) ∧ elSz P t = some (none, z) := by
  unfold aSliceE at h
  split at h
  case h_2 => cases h
  rename_i es ky u kq m z he
  split at h
  case h_2 => cases h
  exact ⟨es, ky, kq, z, rfl, rfl, rfl, rfl, he⟩

def aSlice (P : Program) (t : TypeId) (x : AV) (lo hi mx : Option AV) (hp : List (Option Blk)) : Option (OpR × Prop) :=
  match aSliceE P t x lo hi mx with
  | true => some ({ v := .sl 1000000 0 0 }, True)
  | false =>
  let bd (o : Option AV) (d : Int) : Option Int := match o with | none => some d | some (.int _ n) => some n | _ => none
  match mx.isSome && !hi.isSome with
  | true => none
  | false =>
    match x, elSz P t with
    | .sl b i n, some (none, z) =>
      match nth hp b, bd lo 0, bd hi n, bd mx n with
      | some blk, some l, some u, some m => match Nat.beq blk.z z with
        | true => some ({ v := .sl b (i + l.toNat) (u.toNat - l.toNat) }, 0 ≤ l ∧ l ≤ u ∧ u ≤ m ∧ m ≤ n)
        | false => none
      | _, _, _, _ => none
    | .lst es, some (none, z) =>
      match bd lo 0, bd hi es.length, bd mx es.length with
      | some l, some u, some m => some ({ v := cutL es l u }, (∀ e ∈ es, e.cells.length = z) ∧ 0 ≤ l ∧ l ≤ u ∧ u ≤ m ∧ m ≤ es.length)
      | _, _, _ => none
    | _, _ => none

theorem aSlice_sound {o : Oper} {ev : Operand → AV} {hp : List (Option Blk)} {nb : Nat} {t : TypeId} {x : Operand} {lo hi mx : Option Operand} {R : OpR} {p : Prop}
    (ho : o.op = .slice t x lo hi mx) (hr : aSlice P t (ev x) (lo.map ev) (hi.map ev) (mx.map ev) hp = some (R, p)) (hpp : p) : OpOK P o ev (nth hp) nb R ∧ R.fits (nth hp) ∧ R.dead = [] := by
  have bdeq : ∀ (q : Option Operand) (d : Int), (match q.map ev with | none => some d | some (.int _ n) => some n | _ => none : Option Int) = bnd ev q d := by
    intro q d; cases q with
    | none => rfl
    | some q => simp only [Option.map_some, bnd]
                cases ev q <;> rfl
  generalize hx : ev x = u at hr
  unfold aSlice at hr
  split at hr
  · rename_i hE
    cases hr
    obtain ⟨es, ky, kq, z, rfl, h2, h3, h4, h5⟩ := aSliceE_spec hE
    cases lo with
    | some _ => simp at h2
    | none =>
      cases hi with
      | none => simp at h3
      | some y =>
        cases mx with
        | none => simp at h4
        | some q =>
          simp only [Option.map_some, Option.some.injEq] at h3 h4
          exact ⟨ok_slice_emp ho hx h5 h3 h4, OpR.fits_value _ _, rfl⟩
  rename_i hF
  clear hF
  simp only [bdeq] at hr
  split at hr
  case h_1 => cases hr
  rename_i hmx
  have hmx : mx.isSome = true → hi.isSome = true := by
    intro h; simp [h] at hmx; simpa using hmx
  split at hr
  · rename_i b i n z ht
    split at hr
    · rename_i blk l u m hb hl hu hm
      split at hr
      · rename_i hz; cases hr; exact ⟨ok_slice_sl ho hx ht hb (Nat.eq_of_beq_eq_true hz) hl hu hm hmx hpp, OpR.fits_value _ _, rfl⟩
      · cases hr
    · cases hr
  · rename_i es z ht
    split at hr
    · rename_i l u m hl hu hm
      cases hr; exact ⟨ok_slice_lst ho hx ht hpp.1 hl hu hm hmx hpp.2, OpR.fits_value _ _, rfl⟩
    · cases hr
  · cases hr

def aLen (P : Program) (t : TypeId) (x : AV) : Option (OpR × Prop) :=
  match unL P t, x with
  | true, .sl _ _ n => vOp (.int .i64 n)
  | true, .lst es => vOp (.int .i64 es.length)
  | true, .nils => vOp (.int .i64 (0 : Nat))
  | false, .str s => match unS P t with
    | true => vOp (.int .i64 s.size)
    | false => none
  | false, _ => match unA P t with
    | some n => vOp (.int .i64 n)
    | none => none
  | _, _ => none

theorem aLen_sound {o : Oper} {ev : Operand → AV} {h : Hp} {nb : Nat} {ts : Array TypeId} {t : TypeId} {x : Operand} {R : OpR} {p : Prop}
    (ho : o.op = .call { callee := .builtin .len, args := #[x], argTypes := ts }) (hts : ts[0]? = some t) (hr : aLen P t (ev x) = some (R, p)) : OpOK P o ev h nb R ∧ R.fits h ∧ R.dead = [] := by
  have hsl : unL P t = true → ∃ e, P.underlying t = some (.slice e) := by
    intro hu; unfold unL at hu; split at hu
    · rename_i e he; exact ⟨e, he⟩
    · cases hu
  generalize hx : ev x = u at hr
  unfold aLen at hr
  split at hr
  · rename_i b i n hu; cases hr; obtain ⟨e, he⟩ := hsl hu; exact ⟨ok_len ho hts he (.inl ⟨_, _, hx⟩), OpR.fits_value _ _, rfl⟩
  · rename_i es hu; cases hr; obtain ⟨e, he⟩ := hsl hu; exact ⟨ok_len ho hts he (.inr (.inl ⟨_, hx, rfl⟩)), OpR.fits_value _ _, rfl⟩
  · rename_i hu; cases hr; obtain ⟨e, he⟩ := hsl hu; exact ⟨ok_len ho hts he (.inr (.inr ⟨hx, rfl⟩)), OpR.fits_value _ _, rfl⟩
  · split at hr
    · rename_i hu; cases hr
      refine ⟨ok_len_str ho hts ?_ hx, OpR.fits_value _ _, rfl⟩
      unfold unS at hu; split at hu
      · assumption
      · cases hu
    · cases hr
  · split at hr
    · rename_i n hu; cases hr
      unfold unA at hu; split at hu
      · rename_i m e he; cases hu; exact ⟨ok_len_arr ho hts he, OpR.fits_value _ _, rfl⟩
      · cases hu
    · cases hr
  · cases hr

def aAppend (P : Program) (t : TypeId) (x y : AV) (hp : List (Option Blk)) : Option (OpR × Prop) :=
  match zeroEl P t, srcOf (nth hp) y with
  | some (_, z, by_), some src =>
    match x with
    | .nils => some ({ v := .sl hp.length 0 src.length, new := [{ es := src, z, flat := srcFlat (nth hp) y }] },
        SrcFit (nth hp) z y ∧ src.length ≤ 9223372036854775807 ∧ src.length * by_ ≤ 140737488355328)
    | .sl b 0 n => match nth hp b with
      | some blk => match blk.wr && Nat.beq blk.z z with
        | true => some ({ v := .sl hp.length 0 (blk.es.length + src.length), dead := [b], new := [{ es := blk.es ++ src, z, flat := blk.flat && srcFlat (nth hp) y }] },
            blk.es.length = n ∧ SrcFit (nth hp) z y ∧ blk.es.length + src.length ≤ 9223372036854775807 ∧ (blk.es.length + src.length) * by_ ≤ 140737488355328)
        | false => none
      | none => match n with
        | 0 => match Nat.ble hp.length b with
          | true => some ({ v := .sl hp.length 0 src.length, new := [{ es := src, z, flat := srcFlat (nth hp) y }] },
              SrcFit (nth hp) z y ∧ src.length ≤ 9223372036854775807 ∧ src.length * by_ ≤ 140737488355328)
          | false => none
        | _ => none
    | _ => none
  | _, _ => none

theorem aAppend_sound {o : Oper} {ev : Operand → AV} {hp : List (Option Blk)} {t : TypeId} {x y : Operand} {R : OpR} {p : Prop}
    (ho : o.op = .call { callee := .builtin .append, args := #[x, y], argTypes := #[t, t] }) (hr : aAppend P t (ev x) (ev y) hp = some (R, p)) (hpp : p) :
    OpOK P o ev (nth hp) hp.length R ∧ R.fits (nth hp) := by
  generalize hx : ev x = u at hr
  unfold aAppend at hr
  split at hr
  case h_2 => cases hr
  rename_i e z by_ src ht hs
  split at hr
  · cases hr
    refine ⟨?_, fun b blk hm => by simp at hm, fun b hm => by simp at hm⟩
    have := ok_append (nb := hp.length) (old := []) (dead := []) (fl := true) ho ht (.inl ⟨.inl hx, rfl, rfl, rfl⟩) hs hpp.1 (by simpa using hpp.2.1) (by simpa using hpp.2.2)
    simpa using this
  · rename_i b n
    split at hr
    case h_2 =>
      split at hr
      case h_2 => cases hr
      split at hr
      case h_2 => cases hr
      rename_i hble
      cases hr
      refine ⟨?_, fun b blk hm => by simp at hm, fun b hm => by simp at hm⟩
      have := ok_append (nb := hp.length) (old := []) (dead := []) (fl := true) ho ht (.inl ⟨.inr ⟨b, Nat.le_of_ble_eq_true hble, hx⟩, rfl, rfl, rfl⟩) hs hpp.1 (by simpa using hpp.2.1) (by simpa using hpp.2.2)
      simpa using this
    rename_i blk hb
    split at hr
    case h_2 => cases hr
    rename_i hc
    simp only [Bool.and_eq_true] at hc
    cases hr
    refine ⟨?_, fun b blk hm => by simp at hm, fun b' hm => ?_⟩
    · exact ok_append (nb := hp.length) (old := blk.es) (dead := [b]) (fl := blk.flat) ho ht (.inr ⟨b, n, blk, hx, hb, Nat.eq_of_beq_eq_true hc.2, hc.1, rfl, rfl, hpp.1, rfl⟩) hs hpp.2.1 hpp.2.2.1 hpp.2.2.2
    · simp at hm; subst hm; exact ⟨⟨blk, hb, hc.1⟩, rfl⟩
  · cases hr

def aCopy (P : Program) (t : TypeId) (x y : AV) (hp : List (Option Blk)) : Option (OpR × Prop) :=
  match zeroEl P t, srcOf (nth hp) y, x with
  | some (_, z, _), some src, .sl b i n =>
    match nth hp b with
    | some blk => match blk.wr && Nat.beq blk.z z with
      | true => some ({ v := .int .i64 (min src.length n : Nat), chg := [(b, { blk with es := blk.es.take i ++ src.take (min src.length n) ++ blk.es.drop (i + min src.length n), flat := blk.flat && srcFlat (nth hp) y })] },
          i + n ≤ blk.es.length ∧ SrcFit (nth hp) z y)
      | false => none
    | none => none
  | _, _, _ => none

theorem aCopy_sound {o : Oper} {ev : Operand → AV} {hp : List (Option Blk)} {nb : Nat} {t t' : TypeId} {x y : Operand} {R : OpR} {p : Prop}
    (ho : o.op = .call { callee := .builtin .copy, args := #[x, y], argTypes := #[t, t'] }) (hr : aCopy P t (ev x) (ev y) hp = some (R, p)) (hpp : p) :
    OpOK P o ev (nth hp) nb R ∧ R.fits (nth hp) ∧ R.dead = [] := by
  generalize hx : ev x = u at hr
  unfold aCopy at hr
  split at hr
  case h_2 => cases hr
  rename_i e z by_ src b i n ht hs
  split at hr
  case h_2 => cases hr
  rename_i blk hb
  split at hr
  case h_2 => cases hr
  rename_i hc
  simp only [Bool.and_eq_true] at hc
  cases hr
  refine ⟨ok_copy ho ht hx hb (Nat.eq_of_beq_eq_true hc.2) hc.1 hpp.1 hs hpp.2, ⟨fun b' blk'' hm => ?_, fun b hm => by simp at hm⟩, rfl⟩
  simp only [List.mem_singleton, Prod.mk.injEq] at hm
  obtain ⟨rfl, rfl⟩ := hm
  exact ⟨blk, hb, hc.1⟩

end Go.AX

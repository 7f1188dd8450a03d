/- F2: the framework: a typed evaluator over the program form, with its soundness, by parts. -/
import Derived.Test.YtfllidjfcolkeaaF1
import Derived.Laws.Cells
import Derived.Laws.World
import Derived.Laws.Append
namespace Go.Fw
open Go

section runs
variable {P : Program} {w : World}

theorem run_info {t : Nat} {i : TypeInfo} (h : P.info? t = some i) : (typeInfo t).run P w = .ok i w := by simp [typeInfo, h]
theorem run_under {t : Nat} {d : TypeDesc} (h : P.underlying t = some d) : (underlying t).run P w = .ok d w := by simp [underlying, h]
theorem run_size {t : Nat} {i : TypeInfo} (h : P.info? t = some i) : (sizeOf t).run P w = .ok i.size w := by simp [sizeOf, run_info h]
theorem run_zero {t : Nat} {i : TypeInfo} {z : Value} (h : P.info? t = some i) (hz : i.zero = some z) : (zeroValue t).run P w = .ok z w := by simp [zeroValue, run_info h, hz]

def descAgg : TypeDesc → Bool
  | .struct _ => true
  | .array _ _ => true
  | _ => false

theorem kind_agg {ti : TI} {d : TypeDesc} (h : kindOk ti.kind d) : (ti.agg = true ∧ ∃ fields, d = .struct fields) ∨ (ti.agg = false ∧ descAgg d = false) := by
  unfold TI.agg
  generalize ti.kind = k at h
  cases k <;> simp only [kindOk] at h
  case struct fs => obtain ⟨fields, rfl, _⟩ := h; exact .inl ⟨rfl, fields, rfl⟩
  case other => right; refine ⟨rfl, ?_⟩; cases d <;> first | rfl | exact h.elim
  all_goals subst h; exact .inr ⟨rfl, rfl⟩

theorem run_isAgg {t : Nat} {ti : TI} {d : TypeDesc} (h : P.underlying t = some d) (hk : kindOk ti.kind d) : (isAgg t).run P w = .ok ti.agg w := by
  have hu := run_under (w := w) h
  rcases kind_agg hk with ⟨h1, fields, rfl⟩ | ⟨h1, h2⟩
  · simp [isAgg, hu, h1]
  · simp only [isAgg, Sem.run_bind, hu, Result.andThen_ok, h1]
    cases d <;> first | rfl | (cases h2; done)

theorem rowAt.cell {p : Addr} {n : Nat} {rs : List Value} (h : rowAt w p n rs) (j : Nat) (v : Value) (hv : rs[j]? = some v) : w.cell? (p.add j) = some v := by
  obtain ⟨vs, ty, fr, hb, hs, hle, rfl⟩ := h
  have hj : j < n ∧ p.off + j < vs.size := by
    have := (List.getElem?_eq_some_iff.1 hv).1
    rw [List.length_take, List.length_drop, Array.length_toList] at this
    omega
  rw [List.getElem?_take_of_lt hj.1, List.getElem?_drop, Array.getElem?_toList] at hv
  obtain ⟨b, o, s⟩ := p
  simp only at hs hb hv
  subst hs
  unfold Addr.add
  split
  · rename_i h0; subst h0; simp [World.cell?, hb]; simpa using hv
  · simp [World.cell?, hb]; exact hv

theorem run_loadRow {p : Addr} {n : Nat} {rs : List Value} (h : rowAt w p n rs) (hn : rs.length = n) : (loadCells p n).run P w = .ok rs.toArray w := by
  have := run_loadCells_list (P := P) (w := w) p rs (fun j v hv => h.cell j v hv)
  rw [← hn]
  simpa using this

theorem rowAt.len {p : Addr} {n : Nat} {rs : List Value} (h : rowAt w p n rs) : rs.length = n := by
  obtain ⟨vs, ty, fr, hb, hs, hle, rfl⟩ := h
  rw [List.length_take, List.length_drop, Array.length_toList]; omega

/-- a part of a row -/
theorem rowAt.part {p : Addr} {n : Nat} {rs : List Value} (h : rowAt w p n rs) {off m : Nat} (hle : off + m ≤ n) : rowAt w ⟨p.block, p.off + off, none⟩ m ((rs.drop off).take m) := by
  obtain ⟨vs, ty, fr, hb, hs, hl, rfl⟩ := h
  refine ⟨vs, ty, fr, hb, rfl, by simp only; omega, ?_⟩
  simp only
  rw [List.drop_take, List.take_take, List.drop_drop, Nat.min_eq_left (by omega)]

/-- reading a variable -/
theorem run_loadVar {t : Nat} {ti : TI} (hT : TOk1 P t ti) {p : Addr} {rs : List Value} (h : rowAt w p ti.zero.length rs) :
    ∃ v, (loadVar t p).run P w = .ok v w ∧ IsVal ti.agg rs v := by
  obtain ⟨info, z, zs, d, h1, h2, h3, h4, h5, h6, h7, h8⟩ := hT
  have hag := run_isAgg (w := w) h7 h8
  unfold loadVar
  simp only [Sem.run_bind, hag, Result.andThen_ok]
  cases hb : ti.agg with
  | true =>
    simp only [if_true, Sem.run_bind, run_size h1, Result.andThen_ok, h3, run_loadRow h h.len, Sem.run_pure]
    exact ⟨_, rfl, rfl⟩
  | false =>
    simp only [Bool.false_eq_true, if_false]
    have hz1 : zs.length = 1 := by rw [hb] at h6; rw [show zs = [z] from h6]; rfl
    have hl : rs.length = 1 := by
      rw [h.len]
      have : zs.length = ti.zero.length := CellsR.length (w := default) (V := fun _ => False) (μ := fun _ => none) (objs := fun _ => none) (valsOf_ok _ _ h5)
      omega
    match rs, hl with
    | [v], _ =>
      have hc := h.cell 0 v rfl
      refine ⟨v, ?_, rfl⟩
      simp only [run_load]
      have e : p.add 0 = p := rfl
      rw [e] at hc
      rw [hc]

theorem TOk1.size {t : Nat} {ti : TI} (hT : TOk1 P t ti) : ti.agg = false → ti.zero.length = 1 := by
  intro hb
  obtain ⟨info, z, zs, d, h1, h2, h3, h4, h5, h6, h7, h8⟩ := hT
  rw [hb] at h6
  have : zs.length = ti.zero.length := CellsR.length (w := default) (V := fun _ => False) (μ := fun _ => none) (objs := fun _ => none) (valsOf_ok _ _ h5)
  rw [← this, show zs = [z] from h6]; rfl

end runs

/-! ## what an operation comes to -/
def OpOk (P : Program) (o : Oper) (a : Act) (w0 : World) (U : Nat → Prop) (S : Own) (slots : Nat → AV) (w : World) (post : AV → Objs → Prop) : Prop :=
  ∃ nx w' av objs' V' μ', (execOp a.eval o).run P w = .ok nx w' ∧ ((∃ v, nx = .value v ∧ AVR w' V' μ' objs' av v) ∨ (nx = .skip ∧ av = .undef)) ∧
    RelM w0 U S ⟨slots, objs'⟩ a w' V' μ' ∧ post av objs'

section pures
variable {P : Program} {o : Oper} {w0 : World} {U : Nat → Prop} {S : Own} {a : Act} {w : World} {V : Nat → Prop} {μ : Mu} {slots : Nat → AV} {objs : Objs} {β : Type} {y : β}

theorem OpOk.pure (R : RelM w0 U S ⟨slots, objs⟩ a w V μ) {v : Value} {av : AV} {post : AV → Objs → Prop} (hrun : (execOp a.eval o).run P w = .ok (.value v) w)
    (hv : AVR w V μ objs av v) (hp : post av objs) : OpOk P o a w0 U S slots w post :=
  ⟨_, w, av, objs, V, μ, hrun, .inl ⟨v, rfl, hv⟩, R, hp⟩

theorem AVR.one {c : Cell} {v : Value} (h : AVR w V μ objs (.cs false [c]) v) : Plain v ∧ CellR w V μ objs c v := by
  obtain ⟨vs, h1, u, r, h2, h3, h4, h5⟩ := h
  rw [show r = [] from h5] at h2
  rw [show vs = [v] from h1] at h2
  cases h2
  exact ⟨h3, h4⟩
theorem AVR.mk1 {c : Cell} {v : Value} (hp : Plain v) (h : CellR w V μ objs c v) : AVR w V μ objs (.cs false [c]) v := ⟨[v], rfl, v, [], rfl, hp, h, rfl⟩

theorem opt_bind_some {α γ : Type} {x : Option α} {f : α → Option γ} {z : γ} (h : Option.bind x f = some z) : ∃ u, x = some u ∧ f u = some z := by
  cases x with
  | none => cases h
  | some u => exact ⟨u, rfl, h⟩
theorem cond_some {α : Type} {b : Bool} {x : Option α} {z : α} (h : cond b x none = some z) : b = true ∧ x = some z := by
  cases b with
  | true => exact ⟨rfl, h⟩
  | false => cases h
theorem cond_none {α : Type} {b : Bool} {x : Option α} {z : α} (h : cond b none x = some z) : b = false ∧ x = some z := by
  cases b with
  | false => exact ⟨rfl, h⟩
  | true => cases h

theorem evPick_ok {c x z : AV} {vc vx vz : Value} {k : AV → Option β} (h : evPick c x z k = some y) (hc : AVR w V μ objs c vc) (hx : AVR w V μ objs x vx) (hz : AVR w V μ objs z vz) :
    ∃ t av, vc = .bool t ∧ k av = some y ∧ AVR w V μ objs av (if t then vx else vz) := by
  unfold evPick at h
  split at h
  · rename_i t
    have ht : vc = .bool t := hc.one.2
    refine ⟨t, ?_⟩
    split at h
    · rename_i p q
      refine ⟨_, ht, h, ?_⟩
      have e1 : vx = .bool p := hx.one.2
      have e2 : vz = .bool q := hz.one.2
      subst e1 e2
      cases t <;> exact AVR.mk1 trivial rfl
    · cases t with
      | true => exact ⟨x, ht, h, by simpa using hx⟩
      | false => exact ⟨z, ht, h, by simpa using hz⟩
  · cases h

def cellVal : Cell → Value
  | .int k n => .int k n
  | .bool b => .bool b
  | .str s => .string s
  | _ => undef
def scalar : Cell → Bool
  | .int _ _ => true
  | .bool _ => true
  | .str _ => true
  | _ => false
theorem scalar_ok {c : Cell} (h : scalar c = true) : Plain (cellVal c) ∧ CellR w V μ objs c (cellVal c) := by
  cases c <;> first | (cases h; done) | exact ⟨trivial, rfl⟩

theorem evInt_ok {op : BinOp} {k : IntKind} {m n : Int} {j : Cell → Option β} (h : evInt op k m n j = some y) (hne : op ≠ .shl ∧ op ≠ .shr) :
    ∃ c, j c = some y ∧ scalar c = true ∧ ∀ w t, (Go.binOp op t (.int k m) (.int k n)).run P w = .ok (cellVal c) w := by
  unfold evInt at h
  cases op <;> simp only at h <;> try (cases h; done)
  case quo =>
    obtain ⟨hb, h⟩ := cond_none h
    refine ⟨_, h, rfl, fun w t => ?_⟩
    have : ¬ n = 0 := by simpa using hb
    simp [Go.binOp, Op.intDiv, this, cellVal]
  case rem =>
    obtain ⟨hb, h⟩ := cond_none h
    refine ⟨_, h, rfl, fun w t => ?_⟩
    have : ¬ n = 0 := by simpa using hb
    simp [Go.binOp, Op.intDiv, this, cellVal]
  all_goals exact ⟨_, h, rfl, fun w t => by simp [Go.binOp, Op.intArith, Op.intBits, Op.intCmp, bitsV, cellVal]⟩

theorem evStr_ok {op : BinOp} {m n : ByteArray} {j : Cell → Option β} (h : evStr op m n j = some y) :
    ∃ c, j c = some y ∧ scalar c = true ∧ ∀ w t, (Go.binOp op t (.string m) (.string n)).run P w = .ok (cellVal c) w := by
  unfold evStr at h
  cases op <;> simp only at h <;> try (cases h; done)
  case add =>
    obtain ⟨hb, h⟩ := cond_some h
    refine ⟨_, h, rfl, fun w t => ?_⟩
    have hle : m.size + n.size ≤ 9223372036854775807 := Nat.le_of_ble_eq_true hb
    have hno : ¬ ((m.size + n.size : Nat) : Int) > IntKind.i64.max := by
      have : IntKind.i64.max = 9223372036854775807 := by decide
      rw [this]; omega
    simp only [Go.binOp, Op.stringOp, if_neg hno, Sem.run_pure, cellVal]
  all_goals exact ⟨_, h, rfl, fun w t => by simp [Go.binOp, Op.stringOp, cellVal]⟩

theorem eqGuard_plain {op : BinOp} {t : TypeId} {x z : Operand} {u v : Value} (hu : u ≠ .nilIface) (hp : ∀ cs, u ≠ .agg cs) : (eqGuard op t x z u v).run P w = .ok () w := by
  unfold eqGuard
  cases op <;> first
    | rfl
    | (cases u <;> first | rfl | exact absurd rfl hu | exact absurd rfl (hp _))

theorem equalIn_bool {d : Nat} {t : TypeId} (h : P.underlying t = some .bool) (m n : Bool) : (Op.equalIn (d + 1) t (.bool m) (.bool n)).run P w = .ok (m == n) w := by
  unfold Op.equalIn
  simp only [Sem.run_bind, run_under h, Result.andThen_ok, Sem.run_pure]

theorem equal_bool {t : TypeId} (h : P.underlying t = some .bool) (m n : Bool) : (Op.equal t (.bool m) (.bool n)).run P w = .ok (m == n) w :=
  equalIn_bool (d := 9999) h m n

/-! ### structs, compared -/
def flatVals : (s : Sh) → El s → List Value
  | .int k, x => [.int k x]
  | .bool, x => [.bool x]
  | .str, x => [.string x]
  | .pair a b, x => flatVals a x.1 ++ flatVals b x.2
  | _, _ => []

theorem flatVals_len : ∀ (s : Sh) (x : El s), s.flat = true → (flatVals s x).length = s.size
  | .int _, _, _ => rfl
  | .bool, _, _ => rfl
  | .str, _, _ => rfl
  | .sl _, _, h => by cases h
  | .own _, _, h => by cases h
  | .pair a b, x, h => by
    simp only [Sh.flat, Bool.and_eq_true] at h
    simp only [flatVals, List.length_append, Sh.size, flatVals_len a _ h.1, flatVals_len b _ h.2]
  | .unit, _, _ => rfl

theorem takeEl_flat : ∀ (s : Sh) (cs : List Cell) (vs : List Value) (t : Taken s), s.flat = true → CellsR w V μ objs cs vs → takeEl (fun _ => none) s cs = some t →
    ∃ ts, vs = flatVals s t.val ++ ts ∧ CellsR w V μ objs t.rest ts
  | .int k, cs, vs, t, _, hc, h => by
    simp only [takeEl, takeInt] at h
    split at h
    · split at h <;> cases h
      rename_i hk
      subst hk
      obtain ⟨v, r, rfl, _, hv, hr⟩ := hc
      exact ⟨r, by rw [show v = _ from hv]; rfl, hr⟩
    · cases h
  | .bool, cs, vs, t, _, hc, h => by
    simp only [takeEl, takeBool] at h
    split at h <;> cases h
    obtain ⟨v, r, rfl, _, hv, hr⟩ := hc
    exact ⟨r, by rw [show v = _ from hv]; rfl, hr⟩
  | .str, cs, vs, t, _, hc, h => by
    simp only [takeEl, takeStr] at h
    split at h <;> cases h
    obtain ⟨v, r, rfl, _, hv, hr⟩ := hc
    exact ⟨r, by rw [show v = _ from hv]; rfl, hr⟩
  | .sl _, _, _, _, hf, _, _ => by cases hf
  | .own _, _, _, _, hf, _, _ => by cases hf
  | .pair a b, cs, vs, t, hf, hc, h => by
    simp only [Sh.flat, Bool.and_eq_true] at hf
    simp only [takeEl] at h
    split at h <;> try (cases h; done)
    rename_i t1 h1
    split at h <;> cases h
    rename_i t2 h2
    obtain ⟨ts, rfl, hr1⟩ := takeEl_flat a cs vs t1 hf.1 hc h1
    obtain ⟨ts2, rfl, hr2⟩ := takeEl_flat b t1.rest ts t2 hf.2 hr1 h2
    exact ⟨ts2, by simp [flatVals], hr2⟩
  | .unit, cs, vs, t, _, hc, h => by
    simp only [takeEl] at h
    cases h
    exact ⟨vs, rfl, hc⟩

theorem eqOk_flat {T : Tys} : ∀ (d : Nat), (∀ t s, eqOk T d t s = true → s.flat = true) ∧ (∀ fs pos s, eqFs T d fs pos s = true → s.flat = true)
  | 0 => ⟨fun _ _ h => by simp [eqOk] at h, fun fs _ _ h => by cases fs <;> simp [eqFs] at h⟩
  | d + 1 => by
    obtain ⟨ih1, ih2⟩ := eqOk_flat (T := T) d
    refine ⟨fun t s h => ?_, fun fs pos s h => ?_⟩
    · simp only [eqOk] at h
      split at h <;> try (cases h; done)
      have h := (Bool.and_eq_true _ _ ▸ h).2
      split at h <;> try (cases h; done)
      · split at h <;> try (cases h; done)
        rfl
      · split at h <;> try (cases h; done)
        rfl
      · split at h <;> try (cases h; done)
        rfl
      · exact ih2 _ _ _ h
    · cases fs with
      | nil => simp [eqFs] at h
      | cons f r =>
        simp only [eqFs] at h
        split at h
        · simp only [Bool.and_eq_true] at h
          exact ih1 _ _ h.2
        · split at h <;> try (cases h; done)
          simp only [Bool.and_eq_true] at h
          simp only [Sh.flat, Bool.and_eq_true]
          exact ⟨ih1 _ _ h.1.2, ih2 _ _ _ h.2⟩

/-- a part of a struct's cells -/
theorem run_part {T : Tys} (hT : TOk P T) {t : TypeId} {ti : TI} (hti : T.get t = some ti) {s : Sh} {x : El s} (hx : s.flat = true) (hs : s.size = ti.zero.length) (A B : List Value) :
    ∃ v, IsVal ti.agg (flatVals s x) v ∧ (part t (A ++ flatVals s x ++ B).toArray A.length).run P w = .ok v w := by
  obtain ⟨info, z, zs, d', hi, hz, hsz, _, hzs, hiv, hu', hk'⟩ := hT _ _ hti
  have hl := flatVals_len s x hx
  have hag := run_isAgg (w := w) hu' hk'
  simp only [part, Sem.run_bind, hag, Result.andThen_ok]
  cases hb2 : ti.agg with
  | true =>
    simp only [if_true, Sem.run_bind, run_size hi, Result.andThen_ok, Sem.run_pure]
    refine ⟨_, rfl, ?_⟩
    congr 2
    apply Array.ext'
    rw [hsz, ← hs, ← hl]
    simp [List.extract_eq_take_drop]
  | false =>
    have h1 := (hT _ _ hti).size hb2
    rw [h1] at hs
    rw [hs] at hl
    match hfv : flatVals s x, hl with
    | [u], _ =>
      simp only [Bool.false_eq_true, if_false]
      refine ⟨u, rfl, ?_⟩
      have hg : (A ++ [u] ++ B).toArray[A.length]? = some u := by simp
      rw [hg]
      rfl

theorem eqOk_size {T : Tys} : ∀ (d : Nat) (t : TypeId) (s : Sh) (ti : TI), T.get t = some ti → eqOk T d t s = true → s.size = ti.zero.length := by
  intro d t s ti hti h
  cases d with
  | zero => simp [eqOk] at h
  | succ d =>
    simp only [eqOk, hti, Bool.and_eq_true] at h
    exact Nat.eq_of_beq_eq_true h.1

theorem eqEl_run {T : Tys} (hT : TOk P T) : ∀ (d : Nat),
    (∀ (t : TypeId) (s : Sh) (ti : TI), T.get t = some ti → eqOk T d t s = true → s.size = ti.zero.length → ∀ (e : Nat) (x y : El s) (u v : Value), IsVal ti.agg (flatVals s x) u → IsVal ti.agg (flatVals s y) v →
      (Op.equalIn (d + e) t u v).run P w = .ok (eqEl s x y) w) ∧
    (∀ (fields : List Field) (fs : List (Nat × TypeId)) (pos : Nat) (s : Sh), fields.map (fun f => (f.offset, f.type)) = fs → (fields.all fun f => f.name != "_") = true → eqFs T d fs pos s = true →
      ∀ (e : Nat) (x y : El s) (A A' : List Value), A.length = pos → A'.length = pos →
      (Op.eqFields (d + e) (A ++ flatVals s x).toArray (A' ++ flatVals s y).toArray fields).run P w = .ok (eqEl s x y) w)
  | 0 => ⟨fun _ _ _ _ h => by simp [eqOk] at h, fun _ fs _ _ _ _ h => by cases fs <;> simp [eqFs] at h⟩
  | d + 1 => by
    obtain ⟨ih1, ih2⟩ := eqEl_run hT d
    refine ⟨?_, ?_⟩
    · intro t s ti hti h hsz e x y u v hu hv
      obtain ⟨info, z, zs, ds, hi, hz, hsz', _, hzs, hiv, hun, hk⟩ := hT _ _ hti
      simp only [eqOk, hti] at h
      have h := (Bool.and_eq_true _ _ ▸ h).2
      have hst := hT.st _ _ hti
      unfold StOk1 at hst
      rw [show d + 1 + e = (d + e) + 1 by omega]
      unfold TI.agg at hu hv
      generalize hkk : ti.kind = kd at *
      cases kd with
      | int k =>
        simp only at h
        split at h <;> try (cases h; done)
        rename_i k'
        have := of_decide_eq_true h
        subst this
        have hk : ds = .int k := hk
        subst hk
        have hu : [Value.int k x] = [u] := hu
        have hv : [Value.int k y] = [v] := hv
        cases hu; cases hv
        rw [run_equalIn_int w (d + e) t k k x y hun]
        congr 1
      | bool =>
        simp only at h
        split at h <;> try (cases h; done)
        have hk : ds = .bool := hk
        subst hk
        have hu : [Value.bool x] = [u] := hu
        have hv : [Value.bool y] = [v] := hv
        cases hu; cases hv
        exact run_equalIn_bool' w (d + e) t x y hun
      | str =>
        simp only at h
        split at h <;> try (cases h; done)
        have hk : ds = .string := hk
        subst hk
        have hu : [Value.string x] = [u] := hu
        have hv : [Value.string y] = [v] := hv
        cases hu; cases hv
        exact run_equalIn_string w (d + e) t x y hun
      | struct fs =>
        simp only at h hst
        obtain ⟨fields, rfl, hfl⟩ := hk
        have hu : u = .agg (flatVals s x).toArray := hu
        have hv : v = .agg (flatVals s y).toArray := hv
        subst hu hv
        have hfo : P.fieldsOf t = fields := by simp only [Program.fieldsOf, hun]
        rw [run_equalIn_agg w (d + e) t _ _ (by rw [hfo]; exact hun) hst.1]
        have := ih2 fields.toList fs 0 s hfl (by rw [← hfo]; exact hst.2.2) h e x y [] [] rfl rfl
        rw [hfo]
        simpa using this
      | slice _ => simp at h
      | other => simp at h
    · intro fields fs pos s hfl hnm h e x y A A' hA hA'
      cases fs with
      | nil => simp [eqFs] at h
      | cons f r =>
        cases fields with
        | nil => cases hfl
        | cons fd fields =>
          simp only [List.map_cons, List.cons.injEq] at hfl
          obtain ⟨rfl, hfl⟩ := hfl
          simp only [List.all_cons, Bool.and_eq_true] at hnm
          have hne : fd.name ≠ "_" := by simpa using hnm.1
          simp only [eqFs] at h
          rw [show d + 1 + e = d + (e + 1) by omega]
          have one : ∀ (sa : Sh) (xa ya : El sa) (B B' : List Value), Nat.beq fd.offset pos = true → eqOk T d fd.type sa = true →
              ∃ ua va, (part fd.type (A ++ flatVals sa xa ++ B).toArray fd.offset).run P w = .ok ua w ∧ (part fd.type (A' ++ flatVals sa ya ++ B').toArray fd.offset).run P w = .ok va w ∧
                (Op.equalIn (d + (e + 1)) fd.type ua va).run P w = .ok (eqEl sa xa ya) w := by
            intro sa xa ya B B' hpos hok
            have hpos := Nat.eq_of_beq_eq_true hpos
            have hfs := (eqOk_flat (T := T) d).1 _ _ hok
            cases htf : T.get fd.type with
            | none =>
              cases d with
              | zero => simp [eqOk] at hok
              | succ d => simp [eqOk, htf] at hok
            | some tf =>
              have hsz : sa.size = tf.zero.length := eqOk_size d _ _ tf htf hok
              obtain ⟨ua, hu1, hu2⟩ := run_part (w := w) hT htf (x := xa) hfs hsz A B
              obtain ⟨va, hv1, hv2⟩ := run_part (w := w) hT htf (x := ya) hfs hsz A' B'
              rw [hA, ← hpos] at hu2
              rw [hA', ← hpos] at hv2
              exact ⟨ua, va, hu2, hv2, ih1 _ sa tf htf hok hsz (e + 1) xa ya ua va hu1 hv1⟩
          cases r with
          | nil =>
            simp only [Bool.and_eq_true] at h
            obtain ⟨ua, va, h1, h2, h3⟩ := one s x y [] [] h.1 h.2
            simp only [List.append_nil] at h1 h2
            have hn : fields = [] := by cases fields with | nil => rfl | cons _ _ => cases hfl
            subst hn
            simp only [Op.eqFields, if_pos hne, Sem.run_bind, h1, h2, h3, Result.andThen_ok]
            cases eqEl s x y <;> simp
          | cons f2 r2 =>
            cases s with
            | pair a b =>
              simp only [Bool.and_eq_true] at h
              obtain ⟨ua, va, h1, h2, h3⟩ := one a x.1 y.1 (flatVals b x.2) (flatVals b y.2) h.1.1 h.1.2
              have hfa := (eqOk_flat (T := T) d).1 _ _ h.1.2
              have hrec := ih2 fields (f2 :: r2) (pos + a.size) b hfl hnm.2 h.2 (e + 1) x.2 y.2 (A ++ flatVals a x.1) (A' ++ flatVals a y.1)
                (by rw [List.length_append, hA, flatVals_len a _ hfa]) (by rw [List.length_append, hA', flatVals_len a _ hfa])
              simp only [flatVals, ← List.append_assoc]
              simp only [Op.eqFields, if_pos hne, Sem.run_bind, h1, h2, h3, Result.andThen_ok, eqEl]
              cases hb : eqEl a x.1 y.1 with
              | false => simp
              | true => simpa using hrec
            | _ => simp at h

theorem evBin_ok {T : Tys} (hT : TOk P T) {op : BinOp} {t : TypeId} {p q : AV} {vp vq : Value} {xo yo : Operand} {j : Cell → Option β} (h : evBin T op t p q j = some y)
    (hp : AVR w V μ objs p vp) (hq : AVR w V μ objs q vq) :
    ∃ c, j c = some y ∧ scalar c = true ∧ (eqGuard op t xo yo vp vq).run P w = .ok () w ∧ (Go.binOp op t vp vq).run P w = .ok (cellVal c) w := by
  unfold evBin at h
  split at h
  · rename_i k m k' n
    have e1 : vp = .int k m := hp.one.2
    have e2 : vq = .int k' n := hq.one.2
    subst e1 e2
    have hg : (eqGuard op t xo yo (.int k m) (.int k' n)).run P w = .ok () w := eqGuard_plain (by simp) (by simp)
    split at h
    · obtain ⟨hb, h⟩ := cond_none h
      have hb : ¬ n < 0 := by simpa using hb
      exact ⟨_, h, rfl, hg, by simp [Go.binOp, Op.shift, hb, cellVal, shlV]⟩
    · obtain ⟨hb, h⟩ := cond_none h
      have hb : ¬ n < 0 := by simpa using hb
      exact ⟨_, h, rfl, hg, by simp [Go.binOp, Op.shift, hb, cellVal, shrV]⟩
    · rename_i op' h1 h2
      split at h <;> try (cases h; done)
      rename_i hk
      subst hk
      obtain ⟨c, hc, hs, hr⟩ := evInt_ok (P := P) h ⟨h1, h2⟩
      exact ⟨c, hc, hs, hg, hr w t⟩
  · rename_i m n
    have e1 : vp = .string m := hp.one.2
    have e2 : vq = .string n := hq.one.2
    subst e1 e2
    obtain ⟨c, hc, hs, hr⟩ := evStr_ok (P := P) h
    exact ⟨c, hc, hs, eqGuard_plain (by simp) (by simp), hr w t⟩
  · rename_i m n
    have e1 : vp = .bool m := hp.one.2
    have e2 : vq = .bool n := hq.one.2
    subst e1 e2
    split at h <;> try (cases h; done)
    all_goals
      rename_i h1
      obtain ⟨info, z, zs, d, _, _, _, _, _, _, hu, hd⟩ := hT _ _ h1
      have hd : d = .bool := hd
      subst hd
      have hr := equal_bool (w := w) hu m n
      exact ⟨_, h, rfl, eqGuard_plain (by simp) (by simp), by simp only [Go.binOp, Sem.run_bind, hr, Result.andThen_ok, Sem.run_pure, cellVal]⟩
  · rename_i l m
    split at h <;> try (cases h; done)
    rename_i ti hti
    obtain ⟨hok, h⟩ := cond_some h
    obtain ⟨hag, hok⟩ := Bool.and_eq_true _ _ ▸ hok
    split at h <;> try (cases h; done)
    rename_i x z hx hz
    have hfl := (eqOk_flat (T := T) 60).1 _ _ hok
    obtain ⟨us, hus, hcu⟩ := hp
    obtain ⟨vs, hvs, hcv⟩ := hq
    have hus : vp = .agg us.toArray := hus
    have hvs : vq = .agg vs.toArray := hvs
    subst hus hvs
    obtain ⟨r1, e1, hr1⟩ := takeEl_flat _ _ _ _ hfl hcu hx
    obtain ⟨r2, e2, hr2⟩ := takeEl_flat _ _ _ _ hfl hcv hz
    have fin : x.rest = [] → z.rest = [] → us = flatVals ti.sh x.val ∧ vs = flatVals ti.sh z.val := by
      intro h1 h2
      rw [h1] at hr1
      rw [h2] at hr2
      exact ⟨by rw [e1, show r1 = [] from hr1, List.append_nil], by rw [e2, show r2 = [] from hr2, List.append_nil]⟩
    have hst := hT.st _ _ hti
    have hagg : (∃ fs, ti.kind = .struct fs) ∨ ∀ fs, ti.kind ≠ .struct fs := by
      cases ti.kind <;> first | exact .inl ⟨_, rfl⟩ | exact .inr (fun _ => by simp)
    have hstr : x.rest = [] → z.rest = [] → ti.agg = true → (eqGuard op t xo yo (.agg us.toArray) (.agg vs.toArray)).run P w = .ok () w ∧ (Op.equalIn 10000 t (.agg us.toArray) (.agg vs.toArray)).run P w = .ok (eqEl ti.sh x.val z.val) w := by
      intro h1 h2 hag
      obtain ⟨f1, f2⟩ := fin h1 h2
      rcases hagg with ⟨fs, hfs⟩ | hno
      · unfold StOk1 at hst
        rw [hfs] at hst
        refine ⟨run_eqGuard_agg w op t xo yo _ _ hst.2.1, ?_⟩
        have := (eqEl_run (w := w) hT 60).1 t ti.sh ti hti hok (eqOk_size 60 _ _ _ hti hok) 9940 x.val z.val (.agg us.toArray) (.agg vs.toArray) (by rw [hag, f1]; rfl) (by rw [hag, f2]; rfl)
        exact this
      · exfalso
        unfold TI.agg at hag
        split at hag
        · rename_i fs hfs; exact hno fs hfs
        · cases hag
    split at h <;> try (cases h; done)
    · rename_i h1 h2 _
      obtain ⟨g1, g2⟩ := hstr h1 h2 hag
      exact ⟨_, h, rfl, g1, by rw [run_eql_struct, g2]; rfl⟩
    · rename_i h1 h2 _
      obtain ⟨g1, g2⟩ := hstr h1 h2 hag
      exact ⟨_, h, rfl, g1, by rw [run_neq_struct, g2]; rfl⟩
  · cases h

theorem evUn_ok {op : UnOp} {p : AV} {vp : Value} {j : Cell → Option β} (h : evUn op p j = some y) (hp : AVR w V μ objs p vp) :
    ∃ c, j c = some y ∧ scalar c = true ∧ (Op.unary op vp).run P w = .ok (cellVal c) w := by
  unfold evUn at h
  split at h
  · have e1 := hp.one.2
    rw [show vp = _ from e1]
    exact ⟨_, h, rfl, by simp [Op.unary, Op.intArith, cellVal]⟩
  · have e1 := hp.one.2
    rw [show vp = _ from e1]
    exact ⟨_, h, rfl, by simp [Op.unary, cellVal]⟩
  · cases h

theorem evConvert_ok {T : Tys} (hT : TOk P T) {s d : TypeId} {p : AV} {vp : Value} {k : AV → Option β} (h : evConvert T s d p k = some y) (hp : AVR w V μ objs p vp) :
    ∃ c, k (.cs false [c]) = some y ∧ scalar c = true ∧ (Go.convert s d vp).run P w = .ok (cellVal c) w := by
  unfold evConvert at h
  split at h
  · rename_i ts td kk n hs hd
    rw [show vp = .int kk n from hp.one.2]
    obtain ⟨_, _, _, ds, _, _, _, _, _, _, hus, _⟩ := hT _ _ hs
    obtain ⟨_, _, _, dd, _, _, _, _, _, _, hud, hkd⟩ := hT _ _ hd
    split at h <;> try (cases h; done)
    · rename_i kd hkk
      rw [hkk] at hkd
      rw [show dd = .int kd from hkd] at hud
      refine ⟨_, h, rfl, ?_⟩
      cases ds <;> simp [Go.convert, run_under hus, run_under hud, Conv.intToInt, cellVal]
    · rename_i hkk
      rw [hkk] at hkd
      rw [show dd = .string from hkd] at hud
      refine ⟨_, h, rfl, ?_⟩
      cases ds <;> simp [Go.convert, run_under hus, run_under hud, Conv.intToString, cellVal]
  · rename_i ts td st hs hd
    rw [show vp = .string st from hp.one.2]
    obtain ⟨_, _, _, ds, _, _, _, _, _, _, hus, _⟩ := hT _ _ hs
    obtain ⟨_, _, _, dd, _, _, _, _, _, _, hud, hkd⟩ := hT _ _ hd
    split at h <;> try (cases h; done)
    rename_i hkk
    rw [hkk] at hkd
    rw [show dd = .string from hkd] at hud
    refine ⟨_, h, rfl, ?_⟩
    cases ds <;> simp [Go.convert, run_under hus, run_under hud, cellVal]
  · cases h

end pures
end Go.Fw

namespace Go.Fw
open Go

section pures
variable {P : Program} {o : Oper} {w0 : World} {U : Nat → Prop} {S : Own} {a : Act} {w : World} {V : Nat → Prop} {μ : Mu} {slots : Nat → AV} {objs : Objs} {β : Type} {y : β}

theorem AVR.mkp {c : Cell} {q : Option Addr} (h : CellR w V μ objs c (.pointer q)) : AVR w V μ objs (.cs false [c]) (.pointer q) := AVR.mk1 trivial h

/-- an element of a row that is there -/
theorem ObR.elem {id : Nat} {e : Sh} {xs : List (El e)} {wr : Bool} (h : ObR w V μ objs id (.row e xs wr)) {i : Nat} {x : El e} (hx : xs[i]? = some x) {b off : Nat} (hm : μ id = some (b, off)) :
    ∃ rs, rowAt w ⟨b, off + i * e.size, none⟩ e.size rs ∧ Reads w V e x rs := by
  have hi := (List.getElem?_eq_some_iff.1 hx).1
  rcases h with ⟨_, rfl⟩ | ⟨b', o', vs, ty, fr, hmu, hb, _, _, hsz, hrows⟩
  · simp at hi
  · rw [hm] at hmu
    simp only [Option.some.injEq, Prod.mk.injEq] at hmu
    obtain ⟨rfl, rfl⟩ := hmu
    have hle : (i + 1) * e.size ≤ xs.length * e.size := Nat.mul_le_mul_right _ hi
    rw [Nat.succ_mul] at hle
    have := RowsR.get _ _ hrows i x hx
    refine ⟨_, ⟨vs, ty, fr, hb, rfl, by simp only; omega, rfl⟩, ?_⟩
    rw [List.drop_take, List.take_take, List.drop_drop, Nat.min_eq_left (by omega)] at this
    exact this

theorem evLoad_ok {T : Tys} (hT : TOk P T) {t : TypeId} {p : AV} {vp : Value} {k : AV → Option β} (hO : ∀ id o, objs id = some o → ObR w V μ objs id o)
    (h : evLoad T objs t p k = some y) (hp : AVR w V μ objs p vp) : ∃ av v, k av = some y ∧ AVR w V μ objs av v ∧ (Instr.loadAt t vp).run P w = .ok v w := by
  unfold evLoad at h
  split at h
  · rename_i ti id off hti
    have h1 := hp.one.2
    split at h <;> try (cases h; done)
    rename_i cs ho
    obtain ⟨hb, h⟩ := cond_some h
    have hle := Nat.le_of_ble_eq_true hb
    obtain ⟨b, o', hmu, rfl⟩ := h1.2 cs _ ho
    obtain ⟨b', vs, ty, fr, hmu', hbl, _, hcells⟩ := hO id _ ho
    rw [hmu] at hmu'
    simp only [Option.some.injEq, Prod.mk.injEq] at hmu'
    obtain ⟨rfl, rfl⟩ := hmu'
    have hl := hcells.length
    rw [Array.length_toList] at hl
    obtain ⟨v, hr, hv⟩ := run_loadVar (w := w) (hT t ti hti) (p := ⟨b, 0 + off, none⟩) (rs := (vs.toList.drop off).take ti.zero.length)
      ⟨vs, ty, fr, hbl, rfl, by simp only; omega, by simp⟩
    exact ⟨_, v, h, ⟨_, hv, (hcells.drop off).take _⟩, by simpa [Instr.loadAt, Instr.sureAddr] using hr⟩
  · rename_i ti id i off hti
    have h1 := hp.one.2
    split at h <;> try (cases h; done)
    rename_i e xs wr ho
    obtain ⟨hb, h⟩ := cond_some h
    have hle := Nat.le_of_ble_eq_true hb
    obtain ⟨x, hx, h⟩ := opt_bind_some h
    obtain ⟨b, o', hmu, rfl⟩ := h1.2 e xs wr ho
    obtain ⟨rs, hrow, hrd⟩ := (hO id _ ho).elem hx hmu
    obtain ⟨v, hr, hv⟩ := run_loadVar (w := w) (hT t ti hti) (hrow.part (off := off) hle)
    exact ⟨_, v, h, ⟨_, hv, ((elCells_ok e x rs hrd).drop off).take _⟩, by simpa [Instr.loadAt, Instr.sureAddr] using hr⟩
  · rename_i ti e x off hti
    obtain ⟨q, rs, rfl, hq, hrow, hrd⟩ := hp.one.2
    obtain ⟨hb, h⟩ := cond_some h
    have hle := Nat.le_of_ble_eq_true hb
    obtain ⟨v, hr, hv⟩ := run_loadVar (w := w) (hT t ti hti) (hrow.part (off := off) hle)
    exact ⟨_, v, h, ⟨_, hv, ((elCells_ok e x rs hrd).drop off).take _⟩, by simpa [Instr.loadAt, Instr.sureAddr] using hr⟩
  · cases h

theorem evField_ok {p : AV} {vp : Value} {off : Nat} {k : AV → Option β} (h : evField objs off p k = some y) (hp : AVR w V μ objs p vp) :
    ∃ (b q : Nat) (c : Cell), vp = .pointer (some ⟨b, q, none⟩) ∧ k (.cs false [c]) = some y ∧ CellR w V μ objs c (.pointer (some ⟨b, q + off, none⟩)) := by
  unfold evField at h
  split at h
  · have h1 := hp.one.2
    split at h <;> try (cases h; done)
    rename_i id o' nm cs ho
    obtain ⟨b, o2, hm, rfl⟩ := h1.2 cs _ ho
    exact ⟨b, _, _, rfl, h, h1.1, fun cs' nm' ho' => ⟨b, o2, hm, by simp [Nat.add_assoc]⟩⟩
  · have h1 := hp.one.2
    split at h <;> try (cases h; done)
    rename_i id i o' e xs wr ho
    obtain ⟨b, o2, hm, rfl⟩ := h1.2 e xs wr ho
    refine ⟨b, _, _, rfl, h, h1.1, fun e' xs' wr' ho' => ⟨b, o2, hm, ?_⟩⟩
    rw [ho] at ho'
    cases ho'
    simp [Nat.add_assoc]
  · obtain ⟨q, rs, rfl, hq, hrow, hrd⟩ := hp.one.2
    exact ⟨q.block, _, _, rfl, h, q, rs, by simp [Nat.add_assoc], hq, hrow, hrd⟩
  · cases h

theorem map_get {α γ : Type} {f : α → γ} {l : List α} {m : List γ} (h : l.map f = m) {i : Nat} {z : γ} (hz : m[i]? = some z) : ∃ u, l[i]? = some u ∧ f u = z := by
  subst h
  rw [List.getElem?_map] at hz
  cases hl : l[i]? with
  | none => rw [hl] at hz; cases hz
  | some u => rw [hl] at hz; simp at hz; exact ⟨u, rfl, hz⟩

theorem evFieldAddr_ok {T : Tys} (hT : TOk P T) {s : TypeId} {p : AV} {vp : Value} {f : Nat} {k : AV → Option β} (h : evFieldAddr T objs s p f k = some y) (hp : AVR w V μ objs p vp) :
    ∃ av v, k av = some y ∧ AVR w V μ objs av v ∧ (Instr.fieldAt s vp f).run P w = .ok v w := by
  unfold evFieldAddr at h
  split at h <;> try (cases h; done)
  rename_i ti hti
  obtain ⟨_, _, _, d, _, _, _, _, _, _, hu, hk⟩ := hT _ _ hti
  split at h <;> try (cases h; done)
  rename_i fs hfs
  rw [hfs] at hk
  obtain ⟨fields, rfl, hfl⟩ := hk
  split at h <;> try (cases h; done)
  rename_i off t hf
  split at h <;> try (cases h; done)
  rename_i tf htf
  obtain ⟨hb, h⟩ := cond_none h
  obtain ⟨fd, hfd, he⟩ := map_get hfl hf
  simp only [Prod.mk.injEq] at he
  obtain ⟨rfl, rfl⟩ := he
  obtain ⟨info, _, _, _, hi, _, hsz, _⟩ := hT _ _ htf
  have hne : ¬ info.size = 0 := by rw [hsz]; intro h0; rw [h0] at hb; cases hb
  obtain ⟨b, q, c, rfl, hk', hc⟩ := evField_ok h hp
  refine ⟨_, _, hk', AVR.mkp hc, ?_⟩
  have hfd' : fields[f]? = some fd := by rw [← Array.getElem?_toList]; exact hfd
  simp only [Instr.fieldAt, Sem.run_bind, run_under hu, Result.andThen_ok, hfd', Instr.sureAddr, Sem.run_pure, fieldPlace, run_size hi, hne, if_false, Addr.add]
  split
  · rename_i h0; rw [h0]; rfl
  · rfl

theorem evPart_ok {T : Tys} (hT : TOk P T) {s : TypeId} {p : AV} {vp : Value} {f : Nat} {k : AV → Option β} (h : evPart T s p f k = some y) (hp : AVR w V μ objs p vp) :
    ∃ av v, k av = some y ∧ AVR w V μ objs av v ∧ (Instr.field s vp f).run P w = .ok v w := by
  unfold evPart at h
  split at h <;> try (cases h; done)
  rename_i ti l hti
  obtain ⟨_, _, _, d, _, _, _, _, _, _, hu, hk⟩ := hT _ _ hti
  split at h <;> try (cases h; done)
  rename_i fs hfs
  rw [hfs] at hk
  obtain ⟨fields, rfl, hfl⟩ := hk
  split at h <;> try (cases h; done)
  rename_i off t hf
  split at h <;> try (cases h; done)
  rename_i tf htf
  obtain ⟨hb, h⟩ := cond_some h
  have hle := Nat.le_of_ble_eq_true hb
  obtain ⟨fd, hfd, he⟩ := map_get hfl hf
  simp only [Prod.mk.injEq] at he
  obtain ⟨rfl, rfl⟩ := he
  have hft := hT _ _ htf
  obtain ⟨info, z, zs, d', hi, hz, hsz, _, hzs, hiv, hu', hk'⟩ := hT _ _ htf
  obtain ⟨vs, hvs, hcells⟩ := hp
  rw [show vp = .agg vs.toArray from hvs]
  have hl := hcells.length
  have hfd' : fields[f]? = some fd := by rw [← Array.getElem?_toList]; exact hfd
  have hag := run_isAgg (w := w) hu' hk'
  simp only [Instr.field, Sem.run_bind, run_under hu, Result.andThen_ok, hfd', asAgg, Sem.run_pure, part, hag]
  cases hb2 : tf.agg with
  | true =>
    simp only [if_true, Sem.run_bind, run_size hi, Result.andThen_ok, Sem.run_pure]
    refine ⟨_, _, h, ⟨(vs.drop fd.offset).take tf.zero.length, ?_, (hcells.drop _).take _⟩, rfl⟩
    rw [hb2]
    simp only [IsVal, hsz]
    congr 1
    apply Array.ext'
    simp [List.extract_eq_take_drop]
  | false =>
    have h1 := hft.size hb2
    simp only [Bool.false_eq_true, if_false]
    have hlt : fd.offset < vs.length := by omega
    have hg : vs.toArray[fd.offset]? = some vs[fd.offset] := by simp [hlt]
    rw [hg]
    refine ⟨_, vs[fd.offset], h, ⟨[vs[fd.offset]], by rw [hb2]; rfl, ?_⟩, rfl⟩
    have := (hcells.drop fd.offset).take tf.zero.length
    rw [h1] at this ⊢
    rwa [show (vs.drop fd.offset).take 1 = [vs[fd.offset]] from by rw [List.drop_eq_getElem_cons hlt]; rfl] at this

theorem nth_some {α : Type} {xs : List α} {i : Int} {x : α} (h : nth xs i = some x) : 0 ≤ i ∧ i.toNat < xs.length ∧ xs[i.toNat]? = some x := by
  unfold nth at h
  obtain ⟨h1, h2⟩ := cond_some h
  exact ⟨of_decide_eq_true h1, (List.getElem?_eq_some_iff.1 h2).1, h2⟩

theorem evIndexAddr_ok {T : Tys} (hT : TOk P T) {t : TypeId} {p q : AV} {vp vq : Value} {k : AV → Option β} (hO : ∀ id o, objs id = some o → ObR w V μ objs id o)
    (h : evIndexAddr T objs t p q k = some y) (hp : AVR w V μ objs p vp) (hq : AVR w V μ objs q vq) :
    ∃ av v, k av = some y ∧ AVR w V μ objs av v ∧ (Instr.indexAt t vp vq).run P w = .ok v w := by
  unfold evIndexAddr at h
  split at h <;> try (cases h; done)
  rename_i ti kk n hti
  rw [show vq = .int kk n from hq.one.2]
  obtain ⟨_, _, _, d, _, _, _, _, _, _, hu, hk⟩ := hT _ _ hti
  split at h <;> try (cases h; done)
  rename_i e hke
  rw [hke] at hk
  rw [show d = .slice e from hk] at hu
  split at h <;> try (cases h; done)
  rename_i te hte
  obtain ⟨info, z, zs, d', hi, hz, hsz, _, hzs, hiv, hu', hk'⟩ := hT _ _ hte
  have run : ∀ (b off len cap : Nat), 0 ≤ n → n.toNat < len → (Instr.indexAt t (.slice (some ⟨b, off, none⟩) len cap) (.int kk n)).run P w =
      .ok (.pointer (some ⟨b, off + n.toNat * te.zero.length, none⟩)) w := by
    intro b off len cap h0 hlt
    have hc : 0 ≤ n ∧ n < (len : Int) := ⟨h0, by omega⟩
    simp only [Instr.indexAt, asIntOf, Sem.run_bind, Sem.run_pure, Result.andThen_ok, run_under hu, if_pos hc, run_size hi, hsz, Addr.add]
    split
    · rename_i h0; rw [h0]; rfl
    · rfl
  split at h
  · rename_i e' xs
    obtain ⟨hb, h⟩ := cond_some h
    have hsz' := Nat.eq_of_beq_eq_true hb
    obtain ⟨x, hx, h⟩ := opt_bind_some h
    obtain ⟨h0, hlt, hx⟩ := nth_some hx
    obtain ⟨ad, cap, rfl, hcap, hne | ⟨ad', rfl, hv, rs, hrow, hrs⟩⟩ := hp.one.2
    · rw [hne] at hlt; simp at hlt
    · obtain ⟨vs, ty, fr, hbk, hsp, hl, rfl⟩ := hrow
      obtain ⟨b, off, sp⟩ := ad'
      simp only at hsp hbk hl hv hrs
      subst hsp
      refine ⟨_, _, h, AVR.mkp ?_, run b off xs.length cap h0 hlt⟩
      have hle : (n.toNat + 1) * e'.size ≤ xs.length * e'.size := Nat.mul_le_mul_right _ hlt
      rw [Nat.succ_mul] at hle
      have hg := RowsR.get _ _ hrs n.toNat x hx
      refine ⟨⟨b, off + n.toNat * e'.size, none⟩, _, by rw [hsz']; rfl, hv, ⟨vs, ty, fr, hbk, rfl, by simp only; omega, rfl⟩, ?_⟩
      rw [List.drop_take, List.take_take, List.drop_drop, Nat.min_eq_left (by omega)] at hg
      exact hg
  · rename_i id
    split at h <;> try (cases h; done)
    rename_i e' xs wr ho
    obtain ⟨hb, h⟩ := cond_some h
    rw [Bool.and_eq_true] at hb
    have hsz' := Nat.eq_of_beq_eq_true hb.1
    have hne0 : ¬ e'.size = 0 := by intro h0; rw [h0] at hb; exact absurd hb.2 (by decide)
    obtain ⟨x, hx, h⟩ := opt_bind_some h
    obtain ⟨h0, hlt, hx⟩ := nth_some hx
    obtain ⟨ad, cap, rfl, hcap, hm⟩ := hp.one.2.2 e' xs wr ho
    rcases hO id _ ho with ⟨hmu, rfl⟩ | ⟨b, off, vs, ty, fr, hmu, hbk, _, _, hl, hrows⟩
    · simp at hlt
    · rw [hmu] at hm
      obtain ⟨ha, -⟩ := hm
      have ha := ha.resolve_left (by omega)
      subst ha
      refine ⟨_, _, h, AVR.mkp ⟨hp.one.2.1, fun e2 xs2 wr2 ho2 => ⟨b, off, hmu, ?_⟩⟩, run b _ xs.length cap h0 hlt⟩
      rw [ho] at ho2
      cases ho2
      simp [hsz']
  · rename_i id off' len
    split at h <;> try (cases h; done)
    rename_i e' xs wr ho
    obtain ⟨hb, h⟩ := cond_some h
    rw [Bool.and_eq_true] at hb
    have hsz' := Nat.eq_of_beq_eq_true hb.1
    obtain ⟨x, hx, h⟩ := opt_bind_some h
    obtain ⟨h0, hlt, hx⟩ := nth_some hx
    obtain ⟨hle, ad, cap, rfl, hcap, hm⟩ := hp.one.2.2 e' xs wr ho
    have hlen : n.toNat < len := by rw [List.length_take] at hlt; omega
    rcases hO id _ ho with ⟨hmu, rfl⟩ | ⟨b, off, vs, ty, fr, hmu, hbk, _, _, hl, hrows⟩
    · simp at hlt
    · rw [hmu] at hm
      obtain ⟨ha, -⟩ := hm
      have ha := ha.resolve_left (by omega)
      subst ha
      refine ⟨_, _, h, AVR.mkp ⟨hp.one.2.1, fun e2 xs2 wr2 ho2 => ⟨b, off, hmu, ?_⟩⟩, run b _ len cap h0 hlen⟩
      rw [ho] at ho2
      cases ho2
      simp [hsz', Nat.add_mul, Nat.add_assoc]
  · cases h

end pures
end Go.Fw

namespace Go.Fw
open Go

section pures
variable {P : Program} {o : Oper} {w0 : World} {U : Nat → Prop} {S : Own} {a : Act} {w : World} {V : Nat → Prop} {μ : Mu} {slots : Nat → AV} {objs : Objs} {β : Type} {y : β}

theorem AVR.mks {c : Cell} {ad : Option Addr} {l cap : Nat} (h : CellR w V μ objs c (.slice ad l cap)) : AVR w V μ objs (.cs false [c]) (.slice ad l cap) := AVR.mk1 trivial h

theorem AVR.mki {kk : IntKind} {n : Int} : AVR w V μ objs (.cs false [.int kk n]) (.int kk n) := AVR.mk1 trivial rfl

theorem evIndex_ok {T : Tys} (hT : TOk P T) {t : TypeId} {p q : AV} {vp vq : Value} {k : AV → Option β}
    (h : evIndex T t p q k = some y) (hp : AVR w V μ objs p vp) (hq : AVR w V μ objs q vq) :
    ∃ av v, k av = some y ∧ AVR w V μ objs av v ∧ (Instr.index t vp vq).run P w = .ok v w := by
  unfold evIndex at h
  split at h <;> try (cases h; done)
  rename_i ti s kk n hti
  rw [show vp = .string s from hp.one.2, show vq = .int kk n from hq.one.2]
  obtain ⟨_, _, _, d, _, _, _, _, _, _, hu, hk⟩ := hT _ _ hti
  split at h <;> try (cases h; done)
  rename_i hke
  rw [hke] at hk
  rw [show d = .string from hk] at hu
  obtain ⟨b, hb, h⟩ := opt_bind_some h
  obtain ⟨h0, hlt, hx⟩ := nth_some hb
  refine ⟨_, .int .u8 b.toNat, h, AVR.mk1 trivial rfl, ?_⟩
  have hs : s[n.toNat]? = some b := by
    rw [List.getElem?_eq_some_iff] at hx
    obtain ⟨h1, h2⟩ := hx
    have hlt' : n.toNat < s.size := by simpa using h1
    rw [getElem?_pos s n.toNat hlt']
    rw [← h2]
    rfl
  simp only [Instr.index, asIntOf, Sem.run_bind, Sem.run_pure, Result.andThen_ok, run_under hu, if_pos h0, hs]

theorem run_bound {x : Int} {kk : IntKind} {m : Nat} {code : BoundsCode} (h0 : 0 ≤ x) (h1 : x ≤ m) : (Instr.sliceBound (.int kk x) m code).run P w = .ok x.toNat w := by
  simp only [Instr.sliceBound, asIntOf, Sem.run_bind, Sem.run_pure, Result.andThen_ok, if_pos (And.intro h0 h1)]

/-- the value of a bound -/
def CutR (w : World) (V : Nat → Prop) (μ : Mu) (objs : Objs) : Option AV → Option Value → Prop
  | none, none => True
  | some x, some v => AVR w V μ objs x v
  | _, _ => False

/-- what a bound comes to -/
def BoundR (P : Program) (w : World) (most n df : Nat) : Option Value → Prop
  | some v => ∀ code, (Instr.sliceBound v most code).run P w = .ok n w
  | none => n = df

theorem run_bounds {isS : Bool} {len cap : Nat} {lo hi : Option Value} {l h : Nat} 
    (h1 : BoundR P w cap h len hi) (h2 : BoundR P w h l 0 lo) :
    (Instr.sliceBounds isS len cap lo hi none).run P w = .ok (l, h, cap) w := by
  unfold Instr.sliceBounds
  cases hi with
  | none =>
    have h1 : h = len := h1
    subst h1
    cases lo with
    | none => have h2 : l = 0 := h2; subst h2; simp
    | some v => have h2 : ∀ code, _ := h2; simp [h2]
  | some u =>
    have h1 : ∀ code, _ := h1
    cases lo with
    | none => have h2 : l = 0 := h2; subst h2; simp [h1]
    | some v => have h2 : ∀ code, _ := h2; simp [h1, h2]

theorem cut_int {x : Option AV} {vx : Option Value} {df most : Nat} {c : Option Int} {n : Nat} (hx : CutR w V μ objs x vx) (hc : cutI x df = some (c, n)) (hi : inCut c most = true) (hd : df ≤ most) :
    n ≤ most ∧ ∀ most', n ≤ most' → BoundR P w most' n df vx := by
  unfold cutI at hc
  split at hc
  · cases hc
    cases vx with
    | none => exact ⟨hd, fun _ _ => rfl⟩
    | some v => exact hx.elim
  · cases hc
    rename_i kk m
    cases vx with
    | none => exact hx.elim
    | some v =>
      have e : v = .int kk m := (AVR.one hx).2
      subst e
      simp only [inCut, Bool.and_eq_true, decide_eq_true_eq] at hi
      exact ⟨by omega, fun most' h' code => run_bound hi.1 (by omega)⟩
  · cases hc

theorem SliceR.cut {α : Type} {n l h : Nat} {R : α → List Value → Prop} {xs : List α} {ad : Option Addr} {cap : Nat} (hs : SliceR w V n R xs (.slice ad xs.length cap))
    (hl : l ≤ h) (hh : h ≤ xs.length) : SliceR w V n R ((xs.drop l).take (h - l)) (.slice (if cap = l then ad else ad.map (·.add (l * n))) (h - l) (cap - l)) := by
  obtain ⟨ad', cap', he, hcap, hx⟩ := hs
  cases he
  have hlen : ((xs.drop l).take (h - l)).length = h - l := by rw [List.length_take, List.length_drop]; omega
  refine ⟨_, cap - l, by rw [hlen], by omega, ?_⟩
  rcases hx with rfl | ⟨p, rfl, hv, rs, hrow, hrs⟩
  · left; simp
  · by_cases h0 : h - l = 0
    · left; rw [h0]; simp
    · right
      have hne : ¬ cap = l := by omega
      obtain ⟨vs, ty, fr, hb, hsp, hle, rfl⟩ := hrow
      obtain ⟨b, off, sp⟩ := p
      simp only at hsp hb hle hv hrs
      subst hsp
      have hmul : h * n ≤ xs.length * n := Nat.mul_le_mul_right _ hh
      have hsplit : h * n = (h - l) * n + l * n := by rw [← Nat.add_mul]; congr 1; omega
      refine ⟨⟨b, off + l * n, none⟩, ?_, hv, _, ⟨vs, ty, fr, hb, rfl, by rw [hlen]; simp only; omega, rfl⟩, ?_⟩
      · rw [if_neg hne]
        simp only [Option.map_some, Addr.add]
        split
        · rename_i h0; rw [h0]; rfl
        · rfl
      · rw [hlen]
        have := RowsR.take _ _ (RowsR.drop _ _ hrs l) (h - l)
        rw [List.drop_take, List.take_take, List.drop_drop, Nat.min_eq_left (by omega)] at this
        exact this

theorem OwnRef.cut {m : Option (Nat × Nat)} {n off len l h : Nat} {ad : Option Addr} {cap : Nat} (hs : OwnRef w m n off len (.slice ad len cap)) (hl : l ≤ h) (hh : h ≤ len) :
    OwnRef w m n (off + l) (h - l) (.slice (if cap = l then ad else ad.map (·.add (l * n))) (h - l) (cap - l)) := by
  obtain ⟨ad', cap', he, hcap, hm⟩ := hs
  cases he
  refine ⟨_, cap - l, rfl, by omega, ?_⟩
  cases m with
  | none => simp only at hm ⊢; omega
  | some q =>
    obtain ⟨b, o'⟩ := q
    obtain ⟨h1, vs, ty, fr, hb, hle⟩ := hm
    have e : off + l + (cap - l) = off + cap := by omega
    refine ⟨?_, vs, ty, fr, hb, by rw [e]; exact hle⟩
    by_cases hc : cap = l
    · left; omega
    · right
      have := h1.resolve_left (by omega)
      subst this
      rw [if_neg hc]
      simp only [Option.map_some, Addr.add, Nat.add_mul]
      split
      · rename_i h0; rw [h0]; simp
      · simp [Nat.add_assoc]

theorem evSlice_ok {T : Tys} (hT : TOk P T) {t : TypeId} {p : AV} {vp : Value} {lo hi : Option AV} {vlo vhi : Option Value} {k : AV → Option β} (hO : ∀ id o, objs id = some o → ObR w V μ objs id o)
    (h : evSlice T objs t p lo hi k = some y) (hp : AVR w V μ objs p vp) (hlo : CutR w V μ objs lo vlo) (hhi : CutR w V μ objs hi vhi) :
    ∃ av v, k av = some y ∧ AVR w V μ objs av v ∧ (Instr.sliceAt t vp vlo vhi none).run P w = .ok v w := by
  unfold evSlice at h
  split at h
  · -- a string
    rename_i ti s hti
    rw [show vp = .string s from hp.one.2]
    obtain ⟨_, _, _, d, _, _, _, _, _, _, hu, hk⟩ := hT _ _ hti
    split at h <;> try (cases h; done)
    rename_i hke
    rw [hke] at hk
    rw [show d = .string from hk] at hu
    split at h <;> try (cases h; done)
    rename_i cl l ch hh hcl hch
    obtain ⟨hb, h⟩ := cond_some h
    rw [Bool.and_eq_true] at hb
    obtain ⟨g1, g2⟩ := cut_int (P := P) hhi hch hb.1 (Nat.le_refl _)
    obtain ⟨g3, g4⟩ := cut_int (P := P) hlo hcl hb.2 (Nat.zero_le _)
    have hr := run_bounds (P := P) (w := w) (isS := false) (len := s.size) (cap := s.size) (g2 _ g1) (g4 _ g3)
    refine ⟨_, .string (s.extract l hh), h, AVR.mk1 trivial rfl, ?_⟩
    simp [Instr.sliceAt, Instr.slice, run_under hu, hr]
  · rename_i ti c _ hti
    obtain ⟨_, _, _, d, _, _, _, _, _, _, hu, hk⟩ := hT _ _ hti
    split at h <;> try (cases h; done)
    rename_i e hke
    rw [hke] at hk
    rw [show d = .slice e from hk] at hu
    split at h <;> try (cases h; done)
    rename_i te hte
    obtain ⟨info, z, zs, d', hinf, hz, hsz, _, hzs, hiv, hu', hk'⟩ := hT _ _ hte
    have run : ∀ (ad : Option Addr) (len cap l hh : Nat), (Instr.sliceBounds true len cap vlo vhi none).run P w = .ok (l, hh, cap) w →
        (Instr.sliceAt t (.slice ad len cap) vlo vhi none).run P w = .ok (.slice (if cap = l then ad else ad.map (·.add (l * te.zero.length))) (hh - l) (cap - l)) w := by
      intro ad len cap l hh hr
      simp [Instr.sliceAt, Instr.slice, run_under hu, hr, run_size hinf, hsz]
    split at h
    · split at h <;> try (cases h; done)
      rename_i cl l ch hh hcl hch
      obtain ⟨hb, h⟩ := cond_some h
      rw [Bool.and_eq_true] at hb
      obtain ⟨g1, g2⟩ := cut_int (P := P) hhi hch hb.1 (Nat.le_refl _)
      obtain ⟨g3, g4⟩ := cut_int (P := P) hlo hcl hb.2 (Nat.zero_le _)
      obtain ⟨ad, rfl⟩ := hp.one.2
      have hr := run_bounds (P := P) (w := w) (isS := true) (len := 0) (cap := 0) (g2 _ g1) (g4 _ g3)
      refine ⟨_, _, h, ?_, run ad 0 0 l hh hr⟩
      have e1 : hh - l = 0 := by omega
      rw [e1, Nat.zero_sub]
      exact AVR.mks ⟨_, rfl⟩
    · rename_i e' xs _
      split at h <;> try (cases h; done)
      rename_i cl l ch hh hcl hch
      obtain ⟨hb, h⟩ := cond_some h
      simp only [Bool.and_eq_true] at hb
      have hes := Nat.eq_of_beq_eq_true hb.1.1
      obtain ⟨g1, g2⟩ := cut_int (P := P) hhi hch hb.1.2 (Nat.le_refl _)
      obtain ⟨g3, g4⟩ := cut_int (P := P) hlo hcl hb.2 (Nat.zero_le _)
      have hs : SliceR w V e'.size (Reads w V e') xs vp := hp.one.2
      obtain ⟨ad, cap, rfl, hcap, hx⟩ := hs
      have hr := run_bounds (P := P) (w := w) (isS := true) (len := xs.length) (cap := cap) (g2 _ (Nat.le_trans g1 hcap)) (g4 _ g3)
      refine ⟨_, _, h, AVR.mks ?_, run ad _ cap l hh hr⟩
      rw [← hes]
      exact SliceR.cut (w := w) ⟨ad, cap, rfl, hcap, hx⟩ g3 g1
    · rename_i id _
      split at h <;> try (cases h; done)
      rename_i e' xs wr ho
      split at h <;> try (cases h; done)
      rename_i cl l ch hh hcl hch
      obtain ⟨hb, h⟩ := cond_some h
      simp only [Bool.and_eq_true] at hb
      have hes := Nat.eq_of_beq_eq_true hb.1.1
      obtain ⟨g1, g2⟩ := cut_int (P := P) hhi hch hb.1.2 (Nat.le_refl _)
      obtain ⟨g3, g4⟩ := cut_int (P := P) hlo hcl hb.2 (Nat.zero_le _)
      have hc := hp.one.2
      obtain ⟨ad, cap, rfl, hcap, hm⟩ := hc.2 e' xs wr ho
      have hr := run_bounds (P := P) (w := w) (isS := true) (len := xs.length) (cap := cap) (g2 _ (Nat.le_trans g1 hcap)) (g4 _ g3)
      refine ⟨_, _, h, AVR.mks ⟨hc.1, fun e2 xs2 wr2 ho2 => ?_⟩, run ad _ cap l hh hr⟩
      rw [ho] at ho2
      cases ho2
      rw [← hes]
      refine ⟨by omega, ?_⟩
      have := OwnRef.cut (w := w) (off := 0) ⟨ad, cap, rfl, hcap, hm⟩ g3 g1
      rwa [Nat.zero_add] at this
    · rename_i id off len _
      split at h <;> try (cases h; done)
      rename_i e' xs wr ho
      split at h <;> try (cases h; done)
      rename_i cl l ch hh hcl hch
      obtain ⟨hb, h⟩ := cond_some h
      simp only [Bool.and_eq_true] at hb
      have hes := Nat.eq_of_beq_eq_true hb.1.1
      obtain ⟨g1, g2⟩ := cut_int (P := P) hhi hch hb.1.2 (Nat.le_refl _)
      obtain ⟨g3, g4⟩ := cut_int (P := P) hlo hcl hb.2 (Nat.zero_le _)
      have hc := hp.one.2
      obtain ⟨hle, ad, cap, rfl, hcap, hm⟩ := hc.2 e' xs wr ho
      have hr := run_bounds (P := P) (w := w) (isS := true) (len := len) (cap := cap) (g2 _ (Nat.le_trans g1 hcap)) (g4 _ g3)
      refine ⟨_, _, h, AVR.mks ⟨hc.1, fun e2 xs2 wr2 ho2 => ?_⟩, run ad _ cap l hh hr⟩
      rw [ho] at ho2
      cases ho2
      rw [← hes]
      exact ⟨by omega, OwnRef.cut (w := w) ⟨ad, cap, rfl, hcap, hm⟩ g3 g1⟩
    · cases h
  · cases h

theorem lenC_ok {c : Cell} {v : Value} {n : Nat} (h : lenC objs c = some n) (hc : CellR w V μ objs c v) :
    (∃ s, v = .string s ∧ s.size = n ∧ c = .str s) ∨ (∃ ad cap, v = .slice ad n cap ∧ ∀ s, c ≠ .str s) := by
  unfold lenC at h
  split at h
  · cases h; exact .inl ⟨_, hc, rfl, rfl⟩
  · cases h; obtain ⟨ad, rfl⟩ := hc; exact .inr ⟨ad, 0, rfl, by simp⟩
  · cases h; obtain ⟨ad, cap, rfl, _⟩ := hc; exact .inr ⟨ad, cap, rfl, by simp⟩
  · split at h <;> cases h
    rename_i id e xs wr ho
    obtain ⟨ad, cap, rfl, _⟩ := hc.2 _ _ _ ho
    exact .inr ⟨ad, cap, rfl, by simp⟩
  · split at h <;> cases h
    rename_i id off _ e xs wr ho
    obtain ⟨_, ad, cap, rfl, _⟩ := hc.2 _ _ _ ho
    exact .inr ⟨ad, cap, rfl, by simp⟩
  · cases h

theorem evLen_ok {T : Tys} (hT : TOk P T) {t ty : TypeId} {p : AV} {vp : Value} {k : AV → Option β} (h : evLen T objs t p k = some y) (hp : AVR w V μ objs p vp) :
    ∃ av v, k av = some y ∧ AVR w V μ objs av v ∧ (Builtin.len_ #[t] ty #[vp]).run P w = .ok v w := by
  unfold evLen at h
  split at h <;> try (cases h; done)
  rename_i ti c hti
  obtain ⟨_, _, _, d, _, _, _, _, _, _, hu, hk⟩ := hT _ _ hti
  split at h <;> try (cases h; done)
  rename_i n hn
  have hl := lenC_ok hn hp.one.2
  have fin : ∀ d', P.underlying t = some d' → ((d' = .string ∧ ∃ s, vp = .string s ∧ s.size = n) ∨ (∃ e, d' = .slice e ∧ ∃ ad cap, vp = .slice ad n cap)) →
      (Builtin.len_ #[t] ty #[vp]).run P w = .ok (.int .i64 n) w := by
    intro d' hu' hcase
    rcases hcase with ⟨rfl, s, rfl, rfl⟩ | ⟨e, rfl, ad, cap, rfl⟩
    · simp [Builtin.len_, run_under hu', goInt]
    · simp [Builtin.len_, run_under hu', goInt]
  split at h <;> try (cases h; done)
  · rename_i s hkk
    rw [hkk] at hk
    refine ⟨_, _, h, AVR.mki, fin d hu (.inl ⟨hk, ?_⟩)⟩
    rcases hl with ⟨s', h1, h2, _⟩ | ⟨_, _, _, h4⟩
    · exact ⟨s', h1, h2⟩
    · exact (h4 _ rfl).elim
  · rename_i e hkk hns
    rw [hkk] at hk
    refine ⟨_, _, h, AVR.mki, fin d hu (.inr ⟨e, hk, ?_⟩)⟩
    rcases hl with ⟨s', _, _, h3⟩ | ⟨ad, cap, h3, _⟩
    · exact (hns _ h3).elim
    · exact ⟨ad, cap, h3⟩

theorem evMinMax_ok {mx : Bool} {p q : AV} {vp vq : Value} {k : AV → Option β} (h : evMinMax mx p q k = some y) (hp : AVR w V μ objs p vp) (hq : AVR w V μ objs q vq) :
    ∃ av v, k av = some y ∧ AVR w V μ objs av v ∧ (cond mx (Builtin.max2 vp vq) (Builtin.min2 vp vq)).run P w = .ok v w := by
  unfold evMinMax at h
  split at h <;> try (cases h; done)
  rename_i ka m kb n
  split at h <;> try (cases h; done)
  rename_i hk
  subst hk
  rw [show vp = .int ka m from hp.one.2, show vq = .int ka n from hq.one.2]
  cases mx with
  | true => exact ⟨_, _, h, AVR.mki, by simp [Builtin.max2]⟩
  | false => exact ⟨_, _, h, AVR.mki, by simp [Builtin.min2]⟩

theorem TupR.get : ∀ {l : List (Bool × List Cell)} {vs : List Value}, TupR w V μ objs l vs → ∀ {i : Nat} {ag : Bool} {cs : List Cell}, l[i]? = some (ag, cs) →
    ∃ v, vs[i]? = some v ∧ AVR w V μ objs (.cs ag cs) v
  | [], _, _, i, ag, cs, hi => by simp at hi
  | (a', c') :: l, _, ⟨v, r, us, rfl, h1, h2, h3⟩, i, ag, cs, hi => by
    cases i with
    | zero =>
      simp only [List.getElem?_cons_zero, Option.some.injEq, Prod.mk.injEq] at hi
      obtain ⟨rfl, rfl⟩ := hi
      exact ⟨v, rfl, us, h1, h2⟩
    | succ i => exact TupR.get h3 (by simpa using hi)

end pures
end Go.Fw

namespace Go.Fw
open Go

section mem
variable {P : Program} {o : Oper} {w0 : World} {U : Nat → Prop} {S : Own} {a : Act} {w : World} {V : Nat → Prop} {μ : Mu} {slots : Nat → AV} {objs : Objs} {β : Type} {y : β}

theorem ObR.keeps {w' : World} {V' : Nat → Prop} {μ' : Mu} {objs' : Objs} (hk : Keeps V V' w w' μ μ' objs objs') {id : Nat} {ob : Ob} (h : ObR w V μ objs id ob) (hm : μ' id = μ id)
    (hb : ∀ b x, μ id = some (b, x) → ob ≠ .dead → w'.heap[b]? = w.heap[b]?) : ObR w' V' μ' objs' id ob := by
  cases ob with
  | dead => trivial
  | var nm cs =>
    obtain ⟨b, vs, ty, fr, h1, h2, h3, h4⟩ := h
    exact ⟨b, vs, ty, fr, by rw [hm]; exact h1, by rw [hb b 0 h1 (by simp)]; exact h2, h3, h4.keeps hk⟩
  | row e xs wr =>
    rcases h with ⟨h1, h2⟩ | ⟨b, o', vs, ty, fr, h1, h2, h3, h4, h5, h6⟩
    · exact .inl ⟨by rw [hm]; exact h1, h2⟩
    · refine .inr ⟨b, o', vs, ty, fr, by rw [hm]; exact h1, by rw [hb b o' h1 (by simp)]; exact h2, h3, ?_, h5, RowsR.mono (fun x cs hx => Reads.same hk.same e x cs hx) _ _ h6⟩
      intro hf
      exact (hk.same b _ (h4 hf) h2).1

/-! ### a new block -/
theorem heap_push_new {ob : Obj} : ({ w with heap := w.heap.push ob } : World).heap[w.heap.size]? = some ob := by simp
theorem heap_push_old {ob : Obj} {b : Nat} {x : Obj} (h : w.heap[b]? = some x) : ({ w with heap := w.heap.push ob } : World).heap[b]? = some x := by
  have hlt := (Array.getElem?_eq_some_iff.1 h).1
  simp only [Array.getElem?_push]
  rw [if_neg (by omega)]
  exact h

def putMu (μ : Mu) (id : Nat) (p : Option (Nat × Nat)) : Mu := fun i => cond (Nat.beq i id) p (μ i)

theorem beq_false {i j : Nat} (h : i ≠ j) : Nat.beq i j = false := by
  cases hb : Nat.beq i j with
  | false => rfl
  | true => exact (h (Nat.eq_of_beq_eq_true hb)).elim
theorem putOb_same {objs : Objs} {id : Nat} {ob : Ob} : putOb objs id ob id = some ob := by simp [putOb]
theorem putOb_other {objs : Objs} {id i : Nat} {ob : Ob} (h : i ≠ id) : putOb objs id ob i = objs i := by simp [putOb, beq_false h]
theorem putMu_same {id : Nat} {p : Option (Nat × Nat)} : putMu μ id p id = p := by simp [putMu]
theorem putMu_other {id i : Nat} {p : Option (Nat × Nat)} (h : i ≠ id) : putMu μ id p i = μ i := by simp [putMu, beq_false h]

def newHeap (w : World) : Option Obj → Array Obj
  | some x => w.heap.push x
  | none => w.heap
def newPlace (w : World) (off : Nat) : Option Obj → Option (Nat × Nat)
  | some _ => some (w.heap.size, off)
  | none => none

/-- laws of a new object in a new block (or in none) -/
theorem RelM.new (R : RelM w0 U S ⟨slots, objs⟩ a w V μ) {id : Nat} {ob : Ob} (hfree : objs id = none) {w' : World} {blk : Option Obj} {off : Nat} (hnn : ∀ k cs, ob ≠ .var (some k) cs)
    (hw0 : w'.heap = newHeap w blk ∧ Quiet w w')
    (hO : ObR w' (fun b => V b ∨ (blk ≠ none ∧ b = w.heap.size)) (putMu μ id (newPlace w off blk)) (putOb objs id ob) id ob) :
    RelM w0 U S ⟨slots, putOb objs id ob⟩ a w' (fun b => V b ∨ (blk ≠ none ∧ b = w.heap.size)) (putMu μ id (newPlace w off blk)) := by
  obtain ⟨hw, hq⟩ := hw0
  have hold : ∀ (b : Nat) x, w.heap[b]? = some x → w'.heap[b]? = some x := by
    intro b x hb
    rw [hw]
    cases blk with
    | none => exact hb
    | some z => exact heap_push_old (w := w) hb
  have hlt : ∀ (b : Nat) x, w.heap[b]? = some x → b < w.heap.size := fun b x hb => (Array.getElem?_eq_some_iff.1 hb).1
  have hsz : w.heap.size ≤ w'.heap.size := by rw [hw]; cases blk <;> simp [newHeap]
  have hkeep : Keeps V (fun b => V b ∨ (blk ≠ none ∧ b = w.heap.size)) w w' μ (putMu μ id (newPlace w off blk)) objs (putOb objs id ob) := by
    refine ⟨fun b x hv hb => ⟨fun h => ?_, hold b x hb⟩, fun i hi => ?_, fun i e xs wr hi ho => ?_, fun i cs nm hi ho => ?_⟩
    · rcases h with h | ⟨_, rfl⟩
      · exact hv h
      · exact Nat.lt_irrefl _ (hlt _ _ hb)
    · by_cases h : i = id
      · subst h; rw [putOb_same]; rfl
      · rw [putOb_other h]; exact hi
    · by_cases h : i = id
      · subst h; rw [hfree] at hi; cases hi
      · rw [putOb_other h] at ho
        rw [putMu_other h]
        exact ⟨⟨xs, wr, ho, rfl⟩, rfl, fun b o vs ty fr hm hb => ⟨vs, ty, fr, hold b _ hb, rfl⟩⟩
    · by_cases h : i = id
      · subst h; rw [hfree] at hi; cases hi
      · rw [putOb_other h] at ho
        rw [putMu_other h]
        exact ⟨⟨cs, ho⟩, rfl⟩
  have hinold : ∀ i o b x, objs i = some o → o.wr = true → μ i = some (b, x) → b < w.heap.size := fun i o b x h1 h2 h3 => R.vlt b (R.inV i o b x h1 h2 h3)
  refine R.step hkeep ?_ ?_ ?_ ?_ ?_ ⟨hsz, hq⟩ ?_ ?_ ?_
  · intro i o hi
    by_cases h : i = id
    · subst h; rw [putOb_same] at hi; cases hi; exact hO
    · rw [putOb_other h] at hi
      refine (R.objs i o hi).keeps hkeep (putMu_other h) ?_
      intro b x hm hd
      cases o with
      | dead => exact absurd rfl hd
      | var nm cs =>
        obtain ⟨b', vs, ty, fr, h1, h2, _⟩ := R.objs i _ hi
        have h1 : μ i = _ := h1
        rw [hm] at h1; cases h1
        rw [h2]; exact hold _ _ h2
      | row e xs wr =>
        rcases R.objs i _ hi with ⟨h1, _⟩ | ⟨b', o', vs, ty, fr, h1, h2, _⟩
        · have h1 : μ i = _ := h1
          rw [hm] at h1; cases h1
        · have h1 : μ i = _ := h1
          rw [hm] at h1; cases h1
          rw [h2]; exact hold _ _ h2
  · intro i i' o1 o2 b x x' h1 h2 h3 h4 h5 h6
    by_cases hi : i = id
    · by_cases hi' : i' = id
      · rw [hi, hi']
      · subst hi
        rw [putMu_same] at h5
        rw [putOb_other hi'] at h2
        rw [putMu_other hi'] at h6
        have := hinold i' o2 b x' h2 h4 h6
        cases blk with
        | none => cases h5
        | some z => cases h5; exact absurd this (Nat.lt_irrefl _)
    · by_cases hi' : i' = id
      · subst hi'
        rw [putMu_same] at h6
        rw [putOb_other hi] at h1
        rw [putMu_other hi] at h5
        have := hinold i o1 b x h1 h3 h5
        cases blk with
        | none => cases h6
        | some z => cases h6; exact absurd this (Nat.lt_irrefl _)
      · rw [putOb_other hi] at h1
        rw [putOb_other hi'] at h2
        rw [putMu_other hi] at h5
        rw [putMu_other hi'] at h6
        exact R.inj i i' o1 o2 b x x' h1 h2 h3 h4 h5 h6
  · intro i o b x h1 h2 h3
    by_cases hi : i = id
    · subst hi
      rw [putMu_same] at h3
      cases blk with
      | none => cases h3
      | some z => cases h3; exact ⟨.inr R.grow, .inr ⟨by simp, rfl⟩⟩
    · rw [putOb_other hi] at h1
      rw [putMu_other hi] at h3
      exact ⟨R.orig i o b x h1 h2 h3, .inl (R.inV i o b x h1 h2 h3)⟩
  · intro b x _ _ hb; exact hold b x hb
  · intro b vs ty fr hb; exact ⟨vs, ty, fr, hold b _ hb, rfl⟩
  · intro b hb
    rcases hb with hb | ⟨hne, rfl⟩
    · exact Nat.lt_of_lt_of_le (R.vlt b hb) hsz
    · rw [hw]
      cases blk with
      | none => exact absurd rfl hne
      | some z => simp [newHeap]
  · intro b hb _ _; exact .inl hb
  · intro i k cs hi ho
    by_cases h : i = id
    · subst h; rw [putOb_same] at ho; exact hnn k cs (Option.some.inj ho)
    · rw [putOb_other h, hi] at ho; cases ho

/-! ### a block is written -/
def setBlk (w : World) (b : Nat) (vs : Array Value) (ty : TypeId) (fr : Nat × Nat) : World := { w with heap := w.heap.setIfInBounds b (.cells vs ty fr) }

theorem setBlk_same {b : Nat} {vs : Array Value} {ty : TypeId} {fr : Nat × Nat} (h : b < w.heap.size) : (setBlk w b vs ty fr).heap[b]? = some (.cells vs ty fr) := by simp [setBlk, h]
theorem setBlk_other {b b' : Nat} {vs : Array Value} {ty : TypeId} {fr : Nat × Nat} (h : b' ≠ b) : (setBlk w b vs ty fr).heap[b']? = w.heap[b']? := by
  simp only [setBlk, Array.getElem?_setIfInBounds]
  rw [if_neg (fun (e : b = b') => h e.symm)]

theorem setCell_eq {b off : Nat} {vs : Array Value} {ty : TypeId} {fr : Nat × Nat} {v : Value} (h : w.heap[b]? = some (.cells vs ty fr)) :
    w.setCell ⟨b, off, none⟩ v = setBlk w b (vs.setIfInBounds off v) ty fr := by
  unfold World.setCell setBlk
  congr 1
  apply Array.ext
  · simp
  · intro i h1 h2
    have hb := Array.getElem?_eq_some_iff.1 h
    simp only [Array.size_modify] at h1
    rw [Array.getElem_modify]
    by_cases hi : b = i
    · subst hi
      rw [if_pos rfl, hb.2]
      simp
    · rw [if_neg hi, Array.getElem_setIfInBounds (by simpa using h1), if_neg hi]

theorem setBlk_setBlk {b : Nat} {vs us : Array Value} {ty ty' : TypeId} {fr fr' : Nat × Nat} : setBlk (setBlk w b vs ty fr) b us ty' fr' = setBlk w b us ty' fr' := by
  simp [setBlk]
theorem setBlk_self {b : Nat} {vs : Array Value} {ty : TypeId} {fr : Nat × Nat} (h : w.heap[b]? = some (.cells vs ty fr)) : setBlk w b vs ty fr = w := by
  unfold setBlk
  have hb := Array.getElem?_eq_some_iff.1 h
  have : w.heap.setIfInBounds b (.cells vs ty fr) = w.heap := by
    apply Array.ext
    · simp
    · intro i h1 h2
      rw [Array.getElem_setIfInBounds (by simpa using h1)]
      split
      · rename_i hi; subst hi; exact hb.2.symm
      · rfl
  rw [this]

theorem plain_one {v : Value} (h : Plain v) : v.oneCell' = true := by cases v <;> first | rfl | exact h.elim

theorem run_storeRow : ∀ (us : List Value) (i : Nat) (vs : Array Value) (w : World) (b off : Nat) (ty : TypeId) (fr : Nat × Nat), w.heap[b]? = some (.cells vs ty fr) → Thawed fr vs.size →
    off + i + us.length ≤ vs.size → (∀ u ∈ us, Plain u) → (storeCells ⟨b, off, none⟩ us i).run P w = .ok () (setBlk w b (replaceAt vs.toList (off + i) us).toArray ty fr)
  | [], i, vs, w, b, off, ty, fr, hb, _, _, _ => by
    have e : (replaceAt vs.toList (off + i) []).toArray = vs := by apply Array.ext'; simp [replaceAt]
    rw [e, setBlk_self hb]
    rfl
  | u :: us, i, vs, w, b, off, ty, fr, hb, hth, hle, hp => by
    simp only [List.length_cons] at hle
    have hlt : off + i < vs.size := by omega
    have hadd : (⟨b, off, none⟩ : Addr).add i = ⟨b, off + i, none⟩ := by
      unfold Addr.add
      split
      · rename_i h0; rw [h0]; rfl
      · rfl
    have hc : w.cell? ⟨b, off + i, none⟩ = some vs[off + i] := by simp [World.cell?, hb, hlt]
    have hf : w.frozen? ⟨b, off + i, none⟩ = false := by
      simp only [World.frozen?, hb]
      exact hth _ hlt
    have hset := setCell_eq (w := w) (off := off + i) (v := u) hb
    have hb' : (setBlk w b (vs.setIfInBounds (off + i) u) ty fr).heap[b]? = some (.cells (vs.setIfInBounds (off + i) u) ty fr) := setBlk_same (Array.getElem?_eq_some_iff.1 hb).1
    have ih := run_storeRow us (i + 1) (vs.setIfInBounds (off + i) u) (setBlk w b (vs.setIfInBounds (off + i) u) ty fr) b off ty fr hb' (by simpa using hth) (by simp; omega)
      (fun v hv => hp v (by simp [hv]))
    simp only [storeCells, Sem.run_bind, hadd, run_store P w _ u .plain (plain_one (hp u (by simp))), hc, hf, Bool.false_eq_true, if_false, Result.andThen_ok, hset, ih, setBlk_setBlk]
    congr 2
    apply Array.ext'
    simp only [replaceAt, Array.toList_setIfInBounds]
    rw [show off + (i + 1) = off + i + 1 by omega]
    have hl : off + i < vs.toList.length := by simpa using hlt
    rw [List.take_set, List.drop_set]
    rw [List.take_succ_eq_append_getElem hl]
    have h1 : ((vs.toList.take (off + i) ++ [vs.toList[off + i]]).set (off + i) u) = vs.toList.take (off + i) ++ [u] := by
      rw [List.set_append_right _ _ (by rw [List.length_take]; omega)]
      rw [List.length_take, Nat.min_eq_left (by omega), Nat.sub_self]; rfl
    rw [h1, if_pos (by omega)]
    simp [Nat.add_assoc, Nat.add_comm 1]

end mem
end Go.Fw

namespace Go.Fw
open Go

section mem
variable {P : Program} {o : Oper} {w0 : World} {U : Nat → Prop} {S : Own} {a : Act} {w : World} {V : Nat → Prop} {μ : Mu} {slots : Nat → AV} {objs : Objs} {β : Type} {y : β}

/-- one object's kind stays -/
def Alike : Ob → Ob → Prop
  | .var nm _, .var nm' _ => nm = nm'
  | .row e xs _, .row e' xs' _ => e = e' ∧ xs.length = xs'.length
  | _, _ => False

theorem setBlk_size {b : Nat} {vs : Array Value} {ty : TypeId} {fr : Nat × Nat} : (setBlk w b vs ty fr).heap.size = w.heap.size := by simp [setBlk]

theorem setBlk_sizes {b : Nat} {vs us : Array Value} {ty : TypeId} {fr : Nat × Nat} (hb : w.heap[b]? = some (.cells vs ty fr)) (hs : us.size = vs.size) (b' : Nat) (vs' : Array Value) (ty' : TypeId) (fr' : Nat × Nat)
    (h : w.heap[b']? = some (.cells vs' ty' fr')) : ∃ vs2 ty2 fr2, (setBlk w b us ty fr).heap[b']? = some (.cells vs2 ty2 fr2) ∧ vs2.size = vs'.size := by
  by_cases he : b' = b
  · subst he
    rw [hb] at h
    cases h
    exact ⟨us, ty, fr, setBlk_same (Array.getElem?_eq_some_iff.1 hb).1, hs⟩
  · exact ⟨vs', ty', fr', by rw [setBlk_other he]; exact h, rfl⟩

theorem RelM.write (R : RelM w0 U S ⟨slots, objs⟩ a w V μ) {id b x : Nat} {ob ob' : Ob} (ho : objs id = some ob) (hwr : ob.wr = true) (hwr' : ob'.wr = true) (hal : Alike ob ob') (hm : μ id = some (b, x))
    {vs us : Array Value} {ty : TypeId} {fr : Nat × Nat} (hb : w.heap[b]? = some (.cells vs ty fr)) (hs : us.size = vs.size)
    (hO : ObR (setBlk w b us ty fr) V μ (putOb objs id ob') id ob') : RelM w0 U S ⟨slots, putOb objs id ob'⟩ a (setBlk w b us ty fr) V μ := by
  have hVb : V b := R.inV id ob b x ho hwr hm
  have hkeep : Keeps V V w (setBlk w b us ty fr) μ μ objs (putOb objs id ob') := by
    refine ⟨fun b' z hv hz => ⟨hv, ?_⟩, fun i hi => ?_, fun i e xs wr hi hi' => ?_, fun i cs nm hi hi' => ?_⟩
    · rw [setBlk_other (fun (h : b' = b) => hv (by rw [h]; exact hVb))]; exact hz
    · by_cases h : i = id
      · subst h; rw [putOb_same]; rfl
      · rw [putOb_other h]; exact hi
    · by_cases h : i = id
      · subst h
        rw [putOb_same] at hi'
        cases hi'
        cases ob with
        | row e' xs' wr' =>
          obtain ⟨rfl, hl⟩ := hal
          exact ⟨⟨xs', wr', ho, hl⟩, rfl, fun b' o' vs' ty' fr' hm' hb' => setBlk_sizes hb hs b' vs' ty' fr' hb'⟩
        | _ => exact hal.elim
      · rw [putOb_other h] at hi'
        exact ⟨⟨xs, wr, hi', rfl⟩, rfl, fun b' o' vs' ty' fr' hm' hb' => setBlk_sizes hb hs b' vs' ty' fr' hb'⟩
    · by_cases h : i = id
      · subst h
        rw [putOb_same] at hi'
        cases hi'
        cases ob with
        | var nm' cs' =>
          have hal : nm' = nm := hal
          subst hal
          exact ⟨⟨cs', ho⟩, rfl⟩
        | _ => exact hal.elim
      · rw [putOb_other h] at hi'
        exact ⟨⟨cs, hi'⟩, rfl⟩
  refine R.step hkeep ?_ ?_ ?_ ?_ (setBlk_sizes hb hs) ⟨by rw [setBlk_size]; exact Nat.le_refl _, rfl, rfl⟩ ?_ (fun b hb _ _ => hb) (fun i k cs hi hc => ?_)
  · intro i o1 hi
    by_cases h : i = id
    · subst h; rw [putOb_same] at hi; cases hi; exact hO
    · rw [putOb_other h] at hi
      refine (R.objs i o1 hi).keeps hkeep rfl ?_
      intro b' x' hm' hd
      rw [setBlk_other]
      intro he
      subst he
      cases hw1 : o1.wr with
      | true => exact h (R.inj i id o1 ob b' x' x hi ho hw1 hwr hm' hm)
      | false =>
        cases o1 with
        | var nm cs => cases hw1
        | dead => exact hd rfl
        | row e xs wr =>
          have hw1 : wr = false := hw1
          rcases R.objs i _ hi with ⟨h1, _⟩ | ⟨b2, o2, vs2, ty2, fr2, h1, _, _, h4, _⟩
          · have h1 : μ i = none := h1; rw [hm'] at h1; cases h1
          · have h1 : μ i = some (b2, o2) := h1
            rw [hm'] at h1
            cases h1
            exact h4 hw1 hVb
  · intro i i' o1 o2 b1 x1 x2 h1 h2 h3 h4 h5 h6
    have f1 : ∃ o1', objs i = some o1' ∧ o1'.wr = true := by
      by_cases h : i = id
      · subst h; exact ⟨ob, ho, hwr⟩
      · rw [putOb_other h] at h1; exact ⟨o1, h1, h3⟩
    have f2 : ∃ o2', objs i' = some o2' ∧ o2'.wr = true := by
      by_cases h : i' = id
      · subst h; exact ⟨ob, ho, hwr⟩
      · rw [putOb_other h] at h2; exact ⟨o2, h2, h4⟩
    obtain ⟨o1', g1, g2⟩ := f1
    obtain ⟨o2', g3, g4⟩ := f2
    exact R.inj i i' o1' o2' b1 x1 x2 g1 g3 g2 g4 h5 h6
  · intro i o1 b1 x1 h1 h2 h3
    have f1 : ∃ o1', objs i = some o1' ∧ o1'.wr = true := by
      by_cases h : i = id
      · subst h; exact ⟨ob, ho, hwr⟩
      · rw [putOb_other h] at h1; exact ⟨o1, h1, h2⟩
    obtain ⟨o1', g1, g2⟩ := f1
    exact ⟨R.orig i o1' b1 x1 g1 g2 h3, R.inV i o1' b1 x1 g1 g2 h3⟩
  · intro b' z hS h0 hz
    rw [setBlk_other]
    · exact hz
    · intro he
      subst he
      rcases R.orig id ob b' x ho hwr hm with h | h
      · exact hS h
      · have := (Array.getElem?_eq_some_iff.1 h0).1
        omega
  · intro b' hv
    rw [setBlk_size]; exact R.vlt b' hv
  · by_cases h : i = id
    · subst h; rw [ho] at hi; cases hi
    · rw [putOb_other h, hi] at hc; cases hc

/-- an object is given up -/
theorem RelM.kill (R : RelM w0 U S ⟨slots, objs⟩ a w V μ) {j : Nat} (hj : (objs j).isSome = true) : RelM w0 U S ⟨slots, putOb objs j .dead⟩ a w V μ := by
  have hrow : ∀ i o, putOb objs j .dead i = some o → o ≠ .dead → i ≠ j ∧ objs i = some o := by
    intro i o h hd
    by_cases hi : i = j
    · subst hi; rw [putOb_same] at h; cases h; exact absurd rfl hd
    · rw [putOb_other hi] at h; exact ⟨hi, h⟩
  have hkeep : Keeps V V w w μ μ objs (putOb objs j .dead) := by
    refine ⟨fun b' z hv hz => ⟨hv, hz⟩, fun i hi => ?_, fun i e xs wr hi hi' => ?_, fun i cs nm hi hi' => ?_⟩
    · by_cases h : i = j
      · subst h; rw [putOb_same]; rfl
      · rw [putOb_other h]; exact hi
    · exact ⟨⟨xs, wr, (hrow i _ hi' (by simp)).2, rfl⟩, rfl, fun b' o' vs' ty' fr' hm' hb' => ⟨vs', ty', fr', hb', rfl⟩⟩
    · exact ⟨⟨cs, (hrow i _ hi' (by simp)).2⟩, rfl⟩
  have live : ∀ i o, putOb objs j .dead i = some o → o.wr = true → objs i = some o := fun i o h hw => (hrow i o h (by intro e; subst e; cases hw)).2
  refine R.step hkeep ?_ ?_ ?_ (fun _ _ _ _ h => h) (fun b vs ty fr h => ⟨vs, ty, fr, h, rfl⟩) ⟨Nat.le_refl _, rfl, rfl⟩ R.vlt (fun b hb _ _ => hb) (fun i k cs hi hc => by have := (hrow i _ hc (by simp)).2; rw [hi] at this; cases this)
  · intro i o1 hi
    by_cases hd : o1 = .dead
    · subst hd; trivial
    · exact (R.objs i o1 (hrow i o1 hi hd).2).keeps hkeep rfl (fun _ _ _ _ => rfl)
  · intro i i' o1 o2 b1 x1 x2 h1 h2 h3 h4 h5 h6
    exact R.inj i i' o1 o2 b1 x1 x2 (live i o1 h1 h3) (live i' o2 h2 h4) h3 h4 h5 h6
  · intro i o1 b1 x1 h1 h2 h3
    exact ⟨R.orig i o1 b1 x1 (live i o1 h1 h2) h2 h3, R.inV i o1 b1 x1 (live i o1 h1 h2) h2 h3⟩

/-- a new object in a block that has been given up -/
theorem RelM.take (R : RelM w0 U S ⟨slots, objs⟩ a w V μ) {id b off : Nat} {ob : Ob} (hnn : ∀ k cs, ob ≠ .var (some k) cs) (hfree : objs id = none) (hVb : V b) (horig : b ∈ S ∨ w0.heap.size ≤ b)
    (hno : ∀ i o x, objs i = some o → o.wr = true → μ i = some (b, x) → False)
    {vs us : Array Value} {ty : TypeId} {fr : Nat × Nat} (hb : w.heap[b]? = some (.cells vs ty fr)) (hs : us.size = vs.size)
    (hO : ObR (setBlk w b us ty fr) V (putMu μ id (some (b, off))) (putOb objs id ob) id ob) :
    RelM w0 U S ⟨slots, putOb objs id ob⟩ a (setBlk w b us ty fr) V (putMu μ id (some (b, off))) := by
  have hfro : ∀ i e xs x, objs i = some (.row e xs false) → μ i = some (b, x) → False := by
    intro i e xs x hi hm
    rcases R.objs i _ hi with ⟨h1, _⟩ | ⟨b2, o2, vs2, ty2, fr2, h1, _, _, h4, _⟩
    · have h1 : μ i = none := h1; rw [hm] at h1; cases h1
    · have h1 : μ i = some (b2, o2) := h1
      rw [hm] at h1
      cases h1
      exact h4 rfl hVb
  have hkeep : Keeps V V w (setBlk w b us ty fr) μ (putMu μ id (some (b, off))) objs (putOb objs id ob) := by
    refine ⟨fun b' z hv hz => ⟨hv, ?_⟩, fun i hi => ?_, fun i e xs wr hi hi' => ?_, fun i cs nm hi hi' => ?_⟩
    · rw [setBlk_other (fun (h : b' = b) => hv (by rw [h]; exact hVb))]; exact hz
    · by_cases h : i = id
      · subst h; rw [putOb_same]; rfl
      · rw [putOb_other h]; exact hi
    · by_cases h : i = id
      · subst h; rw [hfree] at hi; cases hi
      · rw [putOb_other h] at hi'
        rw [putMu_other h]
        exact ⟨⟨xs, wr, hi', rfl⟩, rfl, fun b' o' vs' ty' fr' hm' hb' => setBlk_sizes hb hs b' vs' ty' fr' hb'⟩
    · by_cases h : i = id
      · subst h; rw [hfree] at hi; cases hi
      · rw [putOb_other h] at hi'
        rw [putMu_other h]
        exact ⟨⟨cs, hi'⟩, rfl⟩
  refine R.step hkeep ?_ ?_ ?_ ?_ (setBlk_sizes hb hs) ⟨by rw [setBlk_size]; exact Nat.le_refl _, rfl, rfl⟩ ?_ (fun b hb _ _ => hb) (fun i k cs hi hc => ?_)
  · intro i o1 hi
    by_cases h : i = id
    · subst h; rw [putOb_same] at hi; cases hi; exact hO
    · rw [putOb_other h] at hi
      refine (R.objs i o1 hi).keeps hkeep (putMu_other h) ?_
      intro b' x' hm' hd
      rw [setBlk_other]
      intro he
      subst he
      cases hw1 : o1.wr with
      | true => exact hno i o1 x' hi hw1 hm'
      | false =>
        cases o1 with
        | var nm cs => cases hw1
        | dead => exact hd rfl
        | row e xs wr =>
          have hw1 : wr = false := hw1
          subst hw1
          exact hfro i e xs x' hi hm'
  · intro i i' o1 o2 b1 x1 x2 h1 h2 h3 h4 h5 h6
    by_cases hi : i = id
    · by_cases hi' : i' = id
      · rw [hi, hi']
      · subst hi
        rw [putMu_same] at h5
        cases h5
        rw [putOb_other hi'] at h2
        rw [putMu_other hi'] at h6
        exact (hno i' o2 x2 h2 h4 h6).elim
    · by_cases hi' : i' = id
      · subst hi'
        rw [putMu_same] at h6
        cases h6
        rw [putOb_other hi] at h1
        rw [putMu_other hi] at h5
        exact (hno i o1 x1 h1 h3 h5).elim
      · rw [putOb_other hi] at h1
        rw [putOb_other hi'] at h2
        rw [putMu_other hi] at h5
        rw [putMu_other hi'] at h6
        exact R.inj i i' o1 o2 b1 x1 x2 h1 h2 h3 h4 h5 h6
  · intro i o1 b1 x1 h1 h2 h3
    by_cases hi : i = id
    · subst hi
      rw [putMu_same] at h3
      cases h3
      exact ⟨horig, hVb⟩
    · rw [putOb_other hi] at h1
      rw [putMu_other hi] at h3
      exact ⟨R.orig i o1 b1 x1 h1 h2 h3, R.inV i o1 b1 x1 h1 h2 h3⟩
  · intro b' z hS h0 hz
    rw [setBlk_other]
    · exact hz
    · intro he
      subst he
      rcases horig with h | h
      · exact hS h
      · have := (Array.getElem?_eq_some_iff.1 h0).1
        omega
  · intro b' hv
    rw [setBlk_size]; exact R.vlt b' hv
  · by_cases h : i = id
    · subst h; rw [putOb_same] at hc; exact hnn k cs (Option.some.inj hc)
    · rw [putOb_other h, hi] at hc; cases hc

/-- rows that are frozen -/
theorem RelM.frz (R : RelM w0 U S ⟨slots, objs⟩ a w V μ) (ids : List Nat) : ∃ V', RelM w0 U S ⟨slots, frz ids objs⟩ a w V' μ ∧ Keeps V V' w w μ μ objs (frz ids objs) ∧ (∀ b, V' b → V b) ∧
    (∀ id ∈ ids, ∀ e xs wr, objs id = some (.row e xs wr) → ∀ b x, μ id = some (b, x) → ¬ V' b) := by
  cases ids with
  | nil => exact ⟨V, R, Keeps.refl, fun _ h => h, fun id h => by cases h⟩
  | cons i0 ids0 =>
    generalize hids : i0 :: ids0 = ids
    have hf : Go.Fw.frz ids objs = fun i => match objs i with
        | some (.row e xs wr) => some (.row e xs (cond (ids.contains i) false wr))
        | o => o := by subst hids; rfl
    have get : ∀ i o, Go.Fw.frz ids objs i = some o → (∃ e xs wr, objs i = some (.row e xs wr) ∧ o = .row e xs (cond (ids.contains i) false wr)) ∨ (objs i = some o ∧ ∀ e xs wr, o ≠ .row e xs wr) := by
      intro i o h
      rw [hf] at h
      simp only at h
      cases hi : objs i with
      | none => rw [hi] at h; cases h
      | some ob =>
        rw [hi] at h
        cases ob with
        | row e xs wr => simp only at h; cases h; exact .inl ⟨e, xs, wr, rfl, rfl⟩
        | var nm cs => simp only at h; cases h; exact .inr ⟨rfl, by simp⟩
        | dead => simp only at h; cases h; exact .inr ⟨rfl, by simp⟩
    let V' : Nat → Prop := fun b => V b ∧ ¬ ∃ id e xs wr x, id ∈ ids ∧ objs id = some (.row e xs wr) ∧ μ id = some (b, x)
    have hkeep : Keeps V V' w w μ μ objs (Go.Fw.frz ids objs) := by
      refine ⟨fun b' z hv hz => ⟨fun h => hv h.1, hz⟩, fun i hi => ?_, fun i e xs wr hi hi' => ?_, fun i cs nm hi hi' => ?_⟩
      · rw [hf]
        simp only
        cases h : objs i with
        | none => rw [h] at hi; cases hi
        | some ob => cases ob <;> rfl
      · rcases get i _ hi' with ⟨e', xs', wr', h1, h2⟩ | ⟨_, h2⟩
        · cases h2
          exact ⟨⟨xs, wr', h1, rfl⟩, rfl, fun b' o' vs' ty' fr' hm' hb' => ⟨vs', ty', fr', hb', rfl⟩⟩
        · exact absurd rfl (h2 _ _ _)
      · rcases get i _ hi' with ⟨e', xs', wr', h1, h2⟩ | ⟨h1, _⟩
        · cases h2
        · exact ⟨⟨cs, h1⟩, rfl⟩
    have live : ∀ i o, Go.Fw.frz ids objs i = some o → o.wr = true → (∃ o', objs i = some o' ∧ o'.wr = true) ∧ (∀ e xs wr, objs i = some (.row e xs wr) → i ∉ ids) := by
      intro i o h hw
      rcases get i o h with ⟨e, xs, wr, h1, rfl⟩ | ⟨h1, h2⟩
      · cases hc : ids.contains i with
        | true => rw [hc] at hw; cases hw
        | false =>
          rw [hc] at hw
          exact ⟨⟨_, h1, hw⟩, fun _ _ _ _ hm => by rw [List.contains_iff_mem.2 hm] at hc; cases hc⟩
      · exact ⟨⟨o, h1, hw⟩, fun e xs wr h3 => by rw [h1] at h3; cases h3; exact absurd rfl (h2 _ _ _)⟩
    have out : ∀ i o b x, Go.Fw.frz ids objs i = some o → o.wr = true → μ i = some (b, x) → V' b := by
      intro i o b x h hw hm
      obtain ⟨⟨o', h1, h2⟩, h3⟩ := live i o h hw
      refine ⟨R.inV i o' b x h1 h2 hm, ?_⟩
      rintro ⟨id, e, xs, wr, x', g1, g2, g3⟩
      cases wr with
      | true =>
        have := R.inj i id o' _ b x x' h1 g2 h2 rfl hm g3
        subst this
        exact h3 e xs true g2 g1
      | false =>
        rcases R.objs id _ g2 with ⟨k1, _⟩ | ⟨b2, o2, vs2, ty2, fr2, k1, _, _, k4, _⟩
        · have k1 : μ id = none := k1; rw [g3] at k1; cases k1
        · have k1 : μ id = some (b2, o2) := k1
          rw [g3] at k1
          cases k1
          exact k4 rfl (R.inV i o' b x h1 h2 hm)
    refine ⟨V', ?_, hkeep, fun _ h => h.1, fun id hid e xs wr ho b x hm h => h.2 ⟨id, e, xs, wr, x, hid, ho, hm⟩⟩
    refine R.step hkeep ?_ ?_ ?_ (fun _ _ _ _ h => h) (fun b vs ty fr h => ⟨vs, ty, fr, h, rfl⟩) ⟨Nat.le_refl _, rfl, rfl⟩ (fun b h => R.vlt b h.1) ?_ (fun i k cs hi hc => by rw [hf] at hc; simp only [hi] at hc; cases hc)
    · intro i o1 hi
      rcases get i o1 hi with ⟨e, xs, wr, h1, rfl⟩ | ⟨h1, h2⟩
      · have := (R.objs i _ h1).keeps hkeep rfl (fun _ _ _ _ => rfl)
        cases hc : ids.contains i with
        | false => exact this
        | true =>
          rcases this with ⟨k1, k2⟩ | ⟨b2, o2, vs2, ty2, fr2, k1, k2, k3, k4, k5, k6⟩
          · exact .inl ⟨k1, k2⟩
          · exact .inr ⟨b2, o2, vs2, ty2, fr2, k1, k2, (fun h => nomatch h), fun _ h => h.2 ⟨i, e, xs, wr, o2, List.contains_iff_mem.1 hc, h1, k1⟩, k5, k6⟩
      · exact (R.objs i o1 h1).keeps hkeep rfl (fun _ _ _ _ => rfl)
    · intro i i' o1 o2 b1 x1 x2 h1 h2 h3 h4 h5 h6
      obtain ⟨⟨o1', g1, g2⟩, _⟩ := live i o1 h1 h3
      obtain ⟨⟨o2', g3, g4⟩, _⟩ := live i' o2 h2 h4
      exact R.inj i i' o1' o2' b1 x1 x2 g1 g3 g2 g4 h5 h6
    · intro i o1 b1 x1 h1 h2 h3
      obtain ⟨⟨o1', g1, g2⟩, _⟩ := live i o1 h1 h2
      exact ⟨R.orig i o1' b1 x1 g1 g2 h3, out i o1 b1 x1 h1 h2 h3⟩
    · intro b hb hU hS
      refine ⟨hb, ?_⟩
      rintro ⟨id, e, xs, wr, x', g1, g2, g3⟩
      cases wr with
      | true =>
        rcases R.orig id _ b x' g2 rfl g3 with h | h
        · exact hS h
        · have := R.ult b hU; omega
      | false =>
        rcases R.objs id _ g2 with ⟨k1, _⟩ | ⟨b2, o2, vs2, ty2, fr2, k1, _, _, k4, _⟩
        · have k1 : μ id = none := k1; rw [g3] at k1; cases k1
        · have k1 : μ id = some (b2, o2) := k1
          rw [g3] at k1
          cases k1
          exact k4 rfl hb

end mem
end Go.Fw

namespace Go.Fw
open Go

section mem
variable {P : Program} {o : Oper} {w0 : World} {U : Nat → Prop} {S : Own} {a : Act} {w : World} {V : Nat → Prop} {μ : Mu} {slots : Nat → AV} {objs : Objs} {β : Type} {y : β}

theorem newOb_some {id : Nat} {ob : Ob} {k : Objs → Option β} (h : newOb objs id ob k = some y) : objs id = none ∧ k (putOb objs id ob) = some y := by
  unfold newOb at h
  split at h
  · rename_i h1; exact ⟨h1, h⟩
  · cases h

/-- what an operation that makes or changes memory comes to -/
def OpM (w0 : World) (U : Nat → Prop) (S : Own) (slots : Nat → AV) (a : Act) (run : World → Result Value) (w : World) (post : AV → Objs → Prop) : Prop :=
  ∃ v w' av objs' V' μ', run w = .ok v w' ∧ AVR w' V' μ' objs' av v ∧ RelM w0 U S ⟨slots, objs'⟩ a w' V' μ' ∧ post av objs'

theorem thawed_zero (n : Nat) : Thawed (0, 0) n := fun k _ => by simp

/-- a new variable -/
theorem OpM.var (R : RelM w0 U S ⟨slots, objs⟩ a w V μ) {id : Nat} (hfree : objs id = none) {cs : List Cell} {vs : List Value} {t : TypeId} (hcs : CellsR w V μ objs cs vs)
    {run : World → Result Value} (hrun : run w = .ok (.pointer (some ⟨w.heap.size, 0, none⟩)) { w with heap := w.heap.push (.cells vs.toArray t) }) {post : AV → Objs → Prop}
    (hp : post (.cs false [.ptr id 0]) (putOb objs id (.var none cs))) : OpM w0 U S slots a run w post := by
  have hold : ∀ (b : Nat) x, w.heap[b]? = some x → ({ w with heap := w.heap.push (.cells vs.toArray t) } : World).heap[b]? = some x := fun b x h => heap_push_old (w := w) h
  have hk : Keeps V (fun b => V b ∨ (some (Obj.cells vs.toArray t) ≠ none ∧ b = w.heap.size)) w { w with heap := w.heap.push (.cells vs.toArray t) } μ (putMu μ id (newPlace w 0 (some (Obj.cells vs.toArray t)))) objs (putOb objs id (.var none cs)) := by
    refine ⟨fun b x hv hb => ⟨fun h => ?_, hold b x hb⟩, fun i hi => ?_, fun i e xs wr hi ho => ?_, fun i cs nm hi ho => ?_⟩
    · rcases h with h | ⟨_, rfl⟩
      · exact hv h
      · exact Nat.lt_irrefl _ ((Array.getElem?_eq_some_iff.1 hb).1)
    · by_cases h : i = id
      · subst h; rw [putOb_same]; rfl
      · rw [putOb_other h]; exact hi
    · by_cases h : i = id
      · subst h; rw [hfree] at hi; cases hi
      · rw [putOb_other h] at ho
        rw [putMu_other h]
        exact ⟨⟨xs, wr, ho, rfl⟩, rfl, fun b o vs ty fr hm hb => ⟨vs, ty, fr, hold b _ hb, rfl⟩⟩
    · by_cases h : i = id
      · subst h; rw [hfree] at hi; cases hi
      · rw [putOb_other h] at ho
        rw [putMu_other h]
        exact ⟨⟨cs, ho⟩, rfl⟩
  have R' := R.new (id := id) (ob := .var none cs) hfree (w' := { w with heap := w.heap.push (.cells vs.toArray t) }) (blk := some (.cells vs.toArray t)) (off := 0) (by simp) ⟨rfl, rfl, rfl⟩
    ⟨w.heap.size, vs.toArray, t, (0, 0), putMu_same, heap_push_new, thawed_zero _, by simpa using hcs.keeps hk⟩
  refine ⟨_, _, _, _, _, _, hrun, AVR.mkp ?_, R', hp⟩
  exact ⟨by rw [putOb_same]; rfl, fun cs' nm h => ⟨w.heap.size, 0, putMu_same, rfl⟩⟩

/-- a new row of its own -/
theorem OpM.row (R : RelM w0 U S ⟨slots, objs⟩ a w V μ) {id : Nat} (hfree : objs id = none) {e : Sh} {xs : List (El e)} {vs : List Value} {t : TypeId} {cap : Nat}
    (hrows : RowsR e.size (Reads w V e) xs (vs.take (xs.length * e.size))) (hlen : xs.length ≤ cap) (hcap : cap * e.size ≤ vs.length)
    {run : World → Result Value} {w' : World} (hw0 : w'.heap = w.heap.push (.cells vs.toArray t) ∧ Quiet w w') (hrun : run w = .ok (.slice (some ⟨w.heap.size, 0, none⟩) xs.length cap) w') {post : AV → Objs → Prop}
    (hp : post (.cs false [.own id]) (putOb objs id (.row e xs true))) : OpM w0 U S slots a run w post := by
  obtain ⟨hw', hq⟩ := hw0
  have hnew : w'.heap[w.heap.size]? = some (.cells vs.toArray t) := by rw [hw']; simp
  have hold : ∀ (b : Nat) x, w.heap[b]? = some x → w'.heap[b]? = some x := by
    intro b x h; rw [hw']; exact heap_push_old (w := w) h
  have hs : Same V (fun b => V b ∨ (some (Obj.cells vs.toArray t) ≠ none ∧ b = w.heap.size)) w w' := by
    intro b x hv hb
    refine ⟨fun h => ?_, hold b x hb⟩
    rcases h with h | ⟨_, rfl⟩
    · exact hv h
    · exact Nat.lt_irrefl _ ((Array.getElem?_eq_some_iff.1 hb).1)
  have hmul := Nat.mul_le_mul_right e.size hlen
  have R' := R.new (id := id) (ob := .row e xs true) hfree (w' := w') (blk := some (.cells vs.toArray t)) (off := 0) (by simp) ⟨hw', hq⟩
    (.inr ⟨w.heap.size, 0, vs.toArray, t, (0, 0), putMu_same, hnew, fun _ => thawed_zero _, (fun h => nomatch h), by simp; omega,
      by simpa using RowsR.mono (fun x cs hx => Reads.same hs e x cs hx) _ _ hrows⟩)
  refine ⟨_, _, _, _, _, _, hrun, AVR.mks ?_, R', hp⟩
  refine ⟨by rw [putOb_same]; rfl, fun e' xs' wr' h => ?_⟩
  rw [putOb_same] at h
  cases h
  refine ⟨_, cap, rfl, hlen, ?_⟩
  rw [putMu_same]
  exact ⟨.inr (by simp), vs.toArray, t, (0, 0), hnew, by simpa using hcap⟩

/-! ### parts laid into cells -/
theorem fill_one : ∀ (l : List Value) (i : Nat) (cells : Array Value) (off : Nat), off + i + l.length ≤ cells.size →
    (l.zipIdx i).foldl (fun cs (x : Value × Nat) => cs.setIfInBounds (off + x.2) x.1) cells = (replaceAt cells.toList (off + i) l).toArray
  | [], i, cells, off, _ => by apply Array.ext'; simp [replaceAt]
  | u :: us, i, cells, off, hle => by
    simp only [List.length_cons] at hle
    have hlt : off + i < cells.size := by omega
    simp only [List.zipIdx_cons, List.foldl_cons]
    rw [fill_one us (i + 1) (cells.setIfInBounds (off + i) u) off (by simp; omega)]
    apply Array.ext'
    simp only [replaceAt, Array.toList_setIfInBounds]
    rw [show off + (i + 1) = off + i + 1 by omega]
    have hl : off + i < cells.toList.length := by simpa using hlt
    rw [List.take_set, List.drop_set]
    rw [List.take_succ_eq_append_getElem hl]
    have h1 : ((cells.toList.take (off + i) ++ [cells.toList[off + i]]).set (off + i) u) = cells.toList.take (off + i) ++ [u] := by
      rw [List.set_append_right _ _ (by rw [List.length_take]; omega)]
      rw [List.length_take, Nat.min_eq_left (by omega), Nat.sub_self]; rfl
    rw [h1, if_pos (by omega)]
    simp [Nat.add_assoc, Nat.add_comm 1]

theorem fill_fold (v : Value) (cells : Array Value) (off : Nat) (h : off + v.cells.size ≤ cells.size) :
    v.cells.zipIdx.foldl (fun cs (x : Value × Nat) => cs.setIfInBounds (off + x.2) x.1) cells = (replaceAt cells.toList off v.cells.toList).toArray := by
  rw [← Array.foldl_toList, Array.toList_zipIdx]
  exact fill_one v.cells.toList 0 cells off (by simpa using h)

theorem isVal_cells {agg : Bool} {vs : List Value} {v : Value} (h : IsVal agg vs v) (hp : ∀ u ∈ vs, Plain u) : v.cells = vs.toArray := by
  cases agg with
  | true => rw [show v = _ from h]; rfl
  | false =>
    rw [show vs = [v] from h]
    have := hp v (by rw [show vs = [v] from h]; simp)
    cases v <;> first | rfl | exact this.elim

theorem CellsR.replaceAt {cs l : List Cell} {vs us : List Value} (h : CellsR w V μ objs cs vs) (h2 : CellsR w V μ objs l us) (off : Nat) :
    CellsR w V μ objs (replaceAt cs off l) (replaceAt vs off us) := by
  unfold Go.Fw.replaceAt
  rw [h2.length]
  exact ((h.take off).append h2).append (h.drop _)

theorem replaceAt_length {α : Type} (l m : List α) (off : Nat) (h : off + m.length ≤ l.length) : (replaceAt l off m).length = l.length := by
  simp only [replaceAt, List.length_append, List.length_take, List.length_drop]; omega

/-- the parts of a literal, and their values -/
def PartsR (w : World) (V : Nat → Prop) (μ : Mu) (objs : Objs) : List (Nat × AV) → List (Nat × Value) → Prop
  | [], ps => ps = []
  | (i, x) :: l, ps => ∃ v r, ps = (i, v) :: r ∧ AVR w V μ objs x v ∧ PartsR w V μ objs l r

theorem parts_ok (R : RelM w0 U S ⟨slots, objs⟩ a w V μ) (ps : List (Nat × Operand)) : PartsR w V μ objs (ps.map fun p => (p.1, AS.val ⟨slots, objs⟩ p.2)) (ps.map fun p => (p.1, a.eval p.2)) := by
  induction ps with
  | nil => rfl
  | cons p ps ih => exact ⟨_, _, rfl, R.val p.2, ih⟩

theorem fillC_ok {T : Tys} {fs : List (Nat × TypeId)} {place : Nat → Option (Nat × Nat)} (hpl : ∀ (i : Nat) off t ti, fs[i]? = some (off, t) → T.get t = some ti → place i = some (off, ti.zero.length)) :
    ∀ (ps : List (Nat × AV)) (qs : List (Nat × Value)) (cells : List Cell) (vs : List Value) (out : List Cell), PartsR w V μ objs ps qs → CellsR w V μ objs cells vs → fillC T fs cells ps = some out →
      ∃ us, Instr.fill place vs.toArray qs = some us.toArray ∧ CellsR w V μ objs out us
  | [], qs, cells, vs, out, hp, hc, h => by
    rw [show qs = [] from hp]
    simp only [fillC] at h
    cases h
    exact ⟨vs, rfl, hc⟩
  | (i, x) :: ps, qs, cells, vs, out, ⟨v, r, hq, hx, hp⟩, hc, h => by
    subst hq
    unfold fillC at h
    split at h <;> try (cases h; done)
    rename_i off t ag l hf
    split at h <;> try (cases h; done)
    rename_i ti hti
    obtain ⟨hb, h⟩ := cond_some h
    simp only [Bool.and_eq_true, beq_iff_eq] at hb
    obtain ⟨⟨h1, h2⟩, h3⟩ := hb
    have h1 := Nat.eq_of_beq_eq_true h1
    have h3 := Nat.le_of_ble_eq_true h3
    obtain ⟨us, hv, hcs⟩ := hx
    have hcells := isVal_cells hv hcs.plain'
    have hl := hcs.length
    have hl2 := hc.length
    have hsz : v.cells.size = l.length := by rw [hcells]; simpa using hl
    obtain ⟨us2, hfill, hout⟩ := fillC_ok hpl ps r (replaceAt cells off l) (replaceAt vs off us) out hp (hc.replaceAt hcs off) h
    refine ⟨us2, ?_, hout⟩
    unfold Instr.fill
    rw [hpl i off t ti hf hti]
    have hno : (decide (v.cells.size ≠ ti.zero.length) || decide (off + v.cells.size > vs.toArray.size)) = false := by
      rw [hsz]
      simp only [List.size_toArray, Bool.or_eq_false_iff, decide_eq_false_iff_not]
      omega
    simp only [hno, Bool.false_eq_true, if_false]
    rw [fill_fold v vs.toArray off (by rw [hsz]; simp; omega), hcells]
    exact hfill

end mem
end Go.Fw

namespace Go.Fw
open Go

section mem
variable {P : Program} {o : Oper} {w0 : World} {U : Nat → Prop} {S : Own} {a : Act} {w : World} {V : Nat → Prop} {μ : Mu} {slots : Nat → AV} {objs : Objs} {β : Type} {y : β}

theorem run_mapM_list {α γ : Type} {f : α → Sem γ} {g : α → γ} : ∀ (l : List α), (∀ x ∈ l, (f x).run P w = .ok (g x) w) → (l.mapM f).run P w = .ok (l.map g) w
  | [], _ => by simp
  | x :: l, h => by
    have ih := run_mapM_list l (fun z hz => h z (by simp [hz]))
    simp [List.mapM_cons, h x (by simp), ih]

theorem run_mapM {α γ : Type} {f : α → Sem γ} {g : α → γ} (l : Array α) (h : ∀ x ∈ l.toList, (f x).run P w = .ok (g x) w) : (l.mapM f).run P w = .ok (l.map g) w := by
  rw [Array.mapM_eq_mapM_toList]
  simp only [Sem.run_map, run_mapM_list l.toList h, Result.andThen_ok]
  congr 1
  apply Array.ext'
  simp

theorem evBuild_ok {T : Tys} (hT : TOk P T) {t : TypeId} {ps : List (Nat × AV)} {qs : List (Nat × Value)} {k : AV → Option β} (hp : PartsR w V μ objs ps qs) (h : evBuild T t ps k = some y) :
    ∃ av v, k av = some y ∧ AVR w V μ objs av v ∧ (Instr.build t qs.toArray).run P w = .ok v w := by
  unfold evBuild at h
  split at h <;> try (cases h; done)
  rename_i ti hti
  obtain ⟨info, z, zs, d, hinf, hz, hsz, _, hzs, hiv, hu, hk⟩ := hT _ _ hti
  split at h <;> try (cases h; done)
  rename_i fs hfs
  have hag : ti.agg = true := by unfold TI.agg; rw [hfs]
  rw [hfs] at hk
  obtain ⟨fields, rfl, hfl⟩ := hk
  obtain ⟨hall, h⟩ := cond_some h
  split at h <;> try (cases h; done)
  rename_i cs hcs
  have hz0 : CellsR w V μ objs ti.zero zs := valsOf_ok _ _ hzs
  have hzc : z.cells = zs.toArray := isVal_cells hiv hz0.plain'
  -- the places
  have hplace : ∀ f ∈ fields.toList, (do pure (f.offset, ← sizeOf f.type) : Sem (Nat × Nat)).run P w = .ok (f.offset, ((T.get f.type).map (·.zero.length)).getD 0) w := by
    intro f hf
    have hm : (f.offset, f.type) ∈ fs := by rw [← hfl]; exact List.mem_map.2 ⟨f, hf, rfl⟩
    have hs := List.all_eq_true.1 hall _ hm
    cases hg : T.get f.type with
    | none => rw [hg] at hs; cases hs
    | some tf =>
      obtain ⟨inf, _, _, _, hi, _, hsz', _⟩ := hT _ _ hg
      simp [run_size hi, hsz']
  have hmap := run_mapM fields hplace
  obtain ⟨us, hfill, hout⟩ := fillC_ok (T := T) (fs := fs) (place := ((fields.map fun f => (f.offset, ((T.get f.type).map (·.zero.length)).getD 0))[·]?))
    (fun i off tt tj hf hg => by
      obtain ⟨fd, hfd, he⟩ := map_get hfl hf
      simp only [Prod.mk.injEq] at he
      obtain ⟨rfl, rfl⟩ := he
      rw [Array.getElem?_toList] at hfd
      simp [hfd, hg]) ps qs ti.zero zs cs hp hz0 hcs
  refine ⟨_, _, h, ⟨us, rfl, hout⟩, ?_⟩
  unfold Instr.build
  simp only [Sem.run_bind, run_zero hinf hz, Result.andThen_ok, run_under hu, hmap, hzc]
  rw [hfill]
  simp

/-- rows laid one behind the other -/
theorem rowsOf_ok {e : Sh} {agg : Bool} (hO : ∀ id o, objs id = some o → ObR w V μ objs id o) {W : Nat → Prop} (hW : ∀ b, W b → V b) :
    ∀ (ps : List (Nat × AV)) (qs : List (Nat × Value)) (n : Nat) (xs : List (El e)) (ids : List Nat), PartsR w V μ objs ps qs → rowsOf objs e agg n ps = some (xs, ids) →
      (∀ id ∈ ids, ∀ b x, μ id = some (b, x) → ¬ W b) →
      xs.length = ps.length ∧ ∃ rs, RowsR e.size (Reads w W e) xs rs ∧ rs.length = ps.length * e.size ∧ (∀ u ∈ rs, Plain u) ∧
        ∀ (cells : Array Value), n * e.size + ps.length * e.size ≤ cells.size →
          Instr.fill (fun i => some (i * e.size, e.size)) cells qs = some (replaceAt cells.toList (n * e.size) rs).toArray
  | [], qs, n, xs, ids, hp, h, _ => by
    simp only [rowsOf] at h
    cases h
    rw [show qs = [] from hp]
    refine ⟨rfl, [], rfl, by simp, by simp, fun cells _ => ?_⟩
    simp only [Instr.fill, replaceAt]
    congr 1
    apply Array.ext'
    simp
  | (i, x) :: ps, qs, n, xs, ids, ⟨v, r, hq, hx, hp⟩, h, hids => by
    subst hq
    cases x with
    | cs ag l =>
      simp only [rowsOf] at h
      obtain ⟨hb, h⟩ := cond_some h
      rw [Bool.and_eq_true, beq_iff_eq] at hb
      have hin := Nat.eq_of_beq_eq_true hb.1
      split at h <;> try (cases h; done)
      rename_i t ht
      split at h <;> try (cases h; done)
      rename_i xs' ids' h1 h2 h3
      cases h
      obtain ⟨us, hv, hcs⟩ := hx
      obtain ⟨u1, u2, rfl, hr, hh⟩ := takeEl_ok hO hW e l us t hcs ht (fun id hid => hids id (by simp [hid]))
      rw [h1] at hr
      rw [show u2 = [] from hr, List.append_nil] at hv hcs
      rw [h2] at hh
      have hread : ∀ (s : Sh) (x : El s) (cs : List Value) (pl : Places), HoldsS w W s x cs pl → pl = [] → Reads w W s x cs := by
        intro s
        induction s with
        | int k => intro x cs pl hh _; exact hh.1
        | bool => intro x cs pl hh _; exact hh.1
        | str => intro x cs pl hh _; exact hh.1
        | sl e _ => intro x cs pl hh _; exact hh.1
        | own e _ => intro x cs pl hh hpl; obtain ⟨c, m, _, h2, _⟩ := hh; rw [h2] at hpl; cases hpl
        | pair s1 s2 i1 i2 =>
          intro x cs pl hh hpl
          obtain ⟨c1, c2, p1, p2, h1, h2, h3, h4⟩ := hh
          rw [h2] at hpl
          have := List.append_eq_nil_iff.1 hpl
          exact ⟨c1, c2, h1, i1 _ _ _ h3 this.1, i2 _ _ _ h4 this.2⟩
        | unit => intro x cs pl hh _; exact hh.1
      have hrd := hread e t.val u1 _ hh rfl
      have hlen := hrd.length
      obtain ⟨hl, rs, hrows, hrl, hrp, hfill⟩ := rowsOf_ok hO hW ps r (n + 1) xs' ids' hp h3 (fun id hid => hids id (by simp [hid]))
      have hcells := isVal_cells hv hcs.plain'
      have hcsz : v.cells.size = e.size := by rw [hcells]; simpa using hlen
      refine ⟨by simp [hl], u1 ++ rs, ?_, by simp only [List.length_append, List.length_cons, Nat.succ_mul]; omega, fun u hu => ?_, fun cells hle => ?_⟩
      · exact RowsR.append [t.val] xs' u1 rs ⟨by omega, by rw [List.take_of_length_le (by omega)]; exact hrd, by rw [List.drop_of_length_le (by omega)]; rfl⟩ hrows
      · rcases List.mem_append.1 hu with h | h
        · exact hcs.plain' u h
        · exact hrp u h
      · simp only [List.length_cons, Nat.succ_mul] at hle
        unfold Instr.fill
        have hno : (decide (v.cells.size ≠ e.size) || decide (i * e.size + v.cells.size > cells.size)) = false := by
          rw [hcsz, hin]
          simp only [Bool.or_eq_false_iff, decide_eq_false_iff_not]
          omega
        simp only [hno, Bool.false_eq_true, if_false]
        rw [fill_fold v cells (i * e.size) (by rw [hcsz, hin]; omega), hcells]
        have hsz' : (replaceAt cells.toList (i * e.size) u1).length = cells.size := by
          rw [replaceAt_length]
          · simp
          · rw [hlen, hin]; simp; omega
        rw [hfill _ (by simp only [List.size_toArray, hsz', Nat.succ_mul]; omega)]
        congr 2
        simp only [replaceAt, hin]
        have e1 : (n + 1) * e.size = n * e.size + e.size := by rw [Nat.succ_mul]
        rw [e1]
        have ht1 : (cells.toList.take (n * e.size)).length = n * e.size := by rw [List.length_take, Array.length_toList]; omega
        have ht2 : (cells.toList.take (n * e.size) ++ u1).length = n * e.size + e.size := by rw [List.length_append, ht1, hlen]
        rw [show (cells.toList.take (n * e.size) ++ u1 ++ cells.toList.drop (n * e.size + u1.length)).take (n * e.size + e.size) = cells.toList.take (n * e.size) ++ u1 from by
          rw [List.take_append_of_le_length (by omega), List.take_of_length_le (by omega)]]
        rw [show (cells.toList.take (n * e.size) ++ u1 ++ cells.toList.drop (n * e.size + u1.length)).drop (n * e.size + e.size + rs.length) = cells.toList.drop (n * e.size + (u1 ++ rs).length) from by
          rw [List.drop_append, List.drop_of_length_le (by omega), List.nil_append, List.drop_drop]
          congr 1
          rw [ht2, List.length_append, hlen]; omega]
        simp [List.append_assoc]
    | tup l => simp only [rowsOf] at h; cases h
    | undef => simp only [rowsOf] at h; cases h

end mem
end Go.Fw

namespace Go.Fw
open Go

section mem
variable {P : Program} {o : Oper} {w0 : World} {U : Nat → Prop} {S : Own} {a : Act} {w : World} {V : Nat → Prop} {μ : Mu} {slots : Nat → AV} {objs : Objs} {β : Type} {y : β}

theorem PartsR.length : ∀ {ps : List (Nat × AV)} {qs : List (Nat × Value)}, PartsR w V μ objs ps qs → qs.length = ps.length
  | [], _, h => by rw [show _ = _ from h]; rfl
  | _ :: _, _, ⟨_, _, h, _, h2⟩ => by rw [h]; simp [PartsR.length h2]

theorem readSl_lent {e : Sh} {c : Cell} {xs : List (El e)} {ids : List Nat} (h : readSl objs e c = some (xs, ids)) : ∀ i ∈ ids, ∃ e xs wr, objs i = some (.row e xs wr) := by
  intro i hi
  unfold readSl at h
  split at h
  · cases h; cases hi
  · split at h <;> cases h
    cases hi
  · split at h <;> try (cases h; done)
    rename_i ho
    split at h <;> cases h
    simp only [List.mem_singleton] at hi
    subst hi
    exact ⟨_, _, _, ho⟩
  · split at h <;> try (cases h; done)
    rename_i ho
    split at h <;> cases h
    simp only [List.mem_singleton] at hi
    subst hi
    exact ⟨_, _, _, ho⟩
  · cases h

theorem takeEl_lent : ∀ (s : Sh) (cs : List Cell) (t : Taken s), takeEl objs s cs = some t → ∀ i ∈ t.lent, ∃ e xs wr, objs i = some (.row e xs wr)
  | .int k, cs, t, ht, i, hi => by
    simp only [takeEl, takeInt] at ht
    split at ht
    · split at ht
      · cases ht; cases hi
      · cases ht
    · cases ht
  | .bool, cs, t, ht, i, hi => by
    simp only [takeEl, takeBool] at ht
    split at ht
    · cases ht; cases hi
    · cases ht
  | .str, cs, t, ht, i, hi => by
    simp only [takeEl, takeStr] at ht
    split at ht
    · cases ht; cases hi
    · cases ht
  | .sl e, cs, t, ht, i, hi => by
    simp only [takeEl, takeSlice] at ht
    split at ht
    · split at ht
      · rename_i hrd
        cases ht
        exact readSl_lent hrd i hi
      · cases ht
    · cases ht
  | .own e, cs, t, ht, i, hi => by
    simp only [takeEl, takeOwned] at ht
    split at ht
    · split at ht
      · cases ht; cases hi
      · cases ht
    · cases ht
  | .pair s1 s2, cs, t, ht, i, hi => by
    simp only [takeEl] at ht
    split at ht
    · rename_i t1 h1
      split at ht
      · rename_i t2 h2
        cases ht
        rcases List.mem_append.1 hi with h | h
        · exact takeEl_lent s1 _ _ h1 i h
        · exact takeEl_lent s2 _ _ h2 i h
      · cases ht
    · cases ht
  | .unit, cs, t, ht, i, hi => by
    simp only [takeEl] at ht
    cases ht; cases hi

theorem evBuildSlice_ok (R : RelM w0 U S ⟨slots, objs⟩ a w V μ) {T : Tys} (hT : TOk P T) {t : TypeId} {len id : Nat} {ps : List (Nat × AV)} {qs : List (Nat × Value)} {k : AV → Objs → Option β}
    (hp : PartsR w V μ objs ps qs) (h : evBuildSlice T objs t len ps id k = some y) :
    OpM w0 U S slots a (fun w => (Instr.buildSlice t len qs.toArray).run P w) w (fun av objs' => k av objs' = some y) := by
  unfold evBuildSlice at h
  split at h <;> try (cases h; done)
  rename_i ti hti
  obtain ⟨_, _, _, d, _, _, _, _, _, _, hu, hk⟩ := hT _ _ hti
  split at h <;> try (cases h; done)
  rename_i e hke
  rw [hke] at hk
  rw [show d = .slice e from hk] at hu
  split at h <;> try (cases h; done)
  rename_i te hte
  obtain ⟨info, z, zs, d', hi, hz, hsz, _, hzs, hiv, hu', hk'⟩ := hT _ _ hte
  obtain ⟨hb, h⟩ := cond_some h
  simp only [Bool.and_eq_true] at hb
  have hlen := Nat.eq_of_beq_eq_true hb.1.1
  have hbig := Nat.le_of_ble_eq_true hb.1.2
  have hes := Nat.eq_of_beq_eq_true hb.2
  split at h <;> try (cases h; done)
  rename_i xs ids hrows
  obtain ⟨hfree, h⟩ := newOb_some h
  obtain ⟨V', R', hk2, hVV, hfr⟩ := R.frz ids
  have hids : ∀ i ∈ ids, ∀ b x, μ i = some (b, x) → ¬ V' b := by
    have hall : ∀ (ps : List (Nat × AV)) (n : Nat) (xs : List (El te.sh)) (ids : List Nat), rowsOf objs te.sh te.agg n ps = some (xs, ids) → ∀ i ∈ ids, ∃ e xs wr, objs i = some (.row e xs wr) := by
      intro ps
      induction ps with
      | nil => intro n xs ids h i hi; simp only [rowsOf] at h; cases h; cases hi
      | cons p ps ih =>
        intro n xs ids h i hi
        obtain ⟨m, x⟩ := p
        cases x with
        | cs ag l =>
          simp only [rowsOf] at h
          obtain ⟨_, h⟩ := cond_some h
          split at h <;> try (cases h; done)
          rename_i t ht
          split at h <;> try (cases h; done)
          rename_i xs' ids' h1 h2 h3
          cases h
          rcases List.mem_append.1 hi with h | h
          · exact takeEl_lent _ _ t ht i h
          · exact ih _ _ _ h3 i h
        | tup l => simp only [rowsOf] at h; cases h
        | undef => simp only [rowsOf] at h; cases h
    intro i hi b x hm
    obtain ⟨e1, xs1, wr1, ho⟩ := hall ps 0 xs ids hrows i hi
    exact hfr i hi e1 xs1 wr1 ho b x hm
  obtain ⟨hxl, rs, hrr, hrl, hrp, hfill⟩ := rowsOf_ok R.objs hVV ps qs 0 xs ids hp hrows hids
  have hfill := hfill ((Array.range (len * info.size)).map ((if len * info.size = 0 then #[] else z.cells)[· % (if len * info.size = 0 then #[] else z.cells).size]!))
    (by simp [hsz, hes, hlen])
  have hrep : replaceAt ((Array.range (len * info.size)).map ((if len * info.size = 0 then #[] else z.cells)[· % (if len * info.size = 0 then #[] else z.cells).size]!)).toList (0 * te.sh.size) rs = rs := by
    simp only [replaceAt, Nat.zero_mul, List.take_zero, List.nil_append, Nat.zero_add]
    rw [List.drop_of_length_le (by simp [hrl, hsz, hes, hlen]), List.append_nil]
  rw [hrep] at hfill
  refine OpM.row R' (id := id) hfree (e := te.sh) (xs := xs) (vs := rs) (t := e) (cap := xs.length) ?_ (Nat.le_refl _) (by rw [hrl, hxl]; exact Nat.le_refl _) (w' := { w with heap := w.heap.push (.cells rs.toArray e) }) ⟨rfl, rfl, rfl⟩ ?_ h
  · rw [List.take_of_length_le (by rw [hrl, hxl]; exact Nat.le_refl _)]; exact hrr
  · have hno : ¬ len * info.size > 2 ^ 24 := by rw [hsz]; omega
    unfold Instr.buildSlice
    simp only [Sem.run_bind, run_under hu, Result.andThen_ok, run_size hi, if_neg hno]
    have hsz2 : info.size = te.sh.size := by rw [hsz, hes]
    by_cases h0 : len * info.size = 0
    · rw [if_pos h0] at hfill
      rw [if_pos h0]
      rw [hsz2] at hfill ⊢
      simp only [Sem.run_bind, Sem.run_pure, Result.andThen_ok]
      rw [hfill]
      simp [newRow, hxl, hlen]
    · rw [if_neg h0] at hfill
      rw [if_neg h0]
      rw [hsz2] at hfill ⊢
      simp only [Sem.run_bind, run_zero hi hz, Sem.run_pure, Result.andThen_ok]
      rw [hfill]
      simp [newRow, hxl, hlen]

theorem rows_replicate {α : Type} {n : Nat} {R : α → List Value → Prop} {x : α} {zs : List Value} (hz : zs.length = n) (hx : R x zs) (f : Nat → Value) (hf : ∀ i, i < n → zs[i]? = some (f i)) :
    ∀ m : Nat, RowsR n R (List.replicate m x) ((List.range (m * n)).map fun i => f (i % n))
  | 0 => by simp [RowsR]
  | m + 1 => by
    have e : (List.range ((m + 1) * n)).map (fun i => f (i % n)) = zs ++ (List.range (m * n)).map (fun i => f (i % n)) := by
      rw [Nat.succ_mul, Nat.add_comm, List.range_add, List.map_append, List.map_map]
      congr 1
      · apply List.ext_getElem?
        intro i
        by_cases hi : i < n
        · rw [hf i hi]; simp [hi, Nat.mod_eq_of_lt hi]
        · rw [List.getElem?_eq_none (by simp; omega), List.getElem?_eq_none (by omega)]
      · apply List.map_congr_left
        intro i _
        simp [Nat.add_mod_left]
    rw [e]
    simp only [List.replicate_succ]
    refine ⟨by simp [hz], ?_, ?_⟩
    · rw [List.take_append_of_le_length (by omega), List.take_of_length_le (by omega)]; exact hx
    · rw [List.drop_append_of_le_length (by omega), List.drop_of_length_le (by omega), List.nil_append]
      exact rows_replicate hz hx f hf m

theorem HoldsS.reads {W : Nat → Prop} : ∀ (s : Sh) (x : El s) (cs : List Value), HoldsS w W s x cs [] → Reads w W s x cs
  | .int _, _, _, hh => hh.1
  | .bool, _, _, hh => hh.1
  | .str, _, _, hh => hh.1
  | .sl _, _, _, hh => hh.1
  | .own _, _, _, ⟨_, _, _, h2, _⟩ => by cases h2
  | .pair a b, _, _, ⟨c1, c2, p1, p2, h1, h2, h3, h4⟩ => by
    have := List.append_eq_nil_iff.1 h2.symm
    obtain ⟨rfl, rfl⟩ := this
    exact ⟨c1, c2, h1, HoldsS.reads a _ _ h3, HoldsS.reads b _ _ h4⟩
  | .unit, _, _, hh => hh.1


end mem
end Go.Fw

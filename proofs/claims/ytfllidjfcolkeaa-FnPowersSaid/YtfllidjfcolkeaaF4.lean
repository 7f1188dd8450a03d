/- F4: the framework: a typed evaluator over the program form, with its soundness, by parts. -/
import Derived.Test.YtfllidjfcolkeaaF3
import Derived.Orders
namespace Go.Fw
open Go

/-! ## what an operation touches -/
def tupIds : List (Bool × List Cell) → List Nat
  | [] => []
  | p :: l => cellsIds p.2 ++ tupIds l

def AV.ids : AV → List Nat
  | .cs _ l => cellsIds l
  | .tup l => tupIds l
  | .undef => []

def avsIds : List AV → List Nat
  | [] => []
  | a :: l => a.ids ++ avsIds l

def touchL (objs : Objs) (l : List Nat) : List Nat := reach objs 6 l

/-- an evaluation that turns on few objects -/
def Loc (E : Objs → (γ : Type) → (AV → Objs → Option γ) → Option γ) (objs : Objs) (tch : List Nat) : Prop :=
  ∃ (av : AV) (g : Nat → Option Ob → Option Ob) (m : Nat → Prop), (∀ id, m id → objs id = none ∧ (g id none).isSome = true) ∧ (∀ id, id ∉ tch → ¬ m id → ∀ x, g id x = x) ∧
    (∀ id x, x.isSome = true → (g id x).isSome = true) ∧
    ∀ objs2 : Objs, (∀ id ∈ tch, objs2 id = objs id) → (∀ id, m id → objs2 id = none) → ∀ (γ : Type) (k2 : AV → Objs → Option γ), E objs2 γ k2 = k2 av (fun id => g id (objs2 id))

/-- an evaluation that leaves the objects -/
def LocQ (E : Objs → (γ : Type) → (AV → Option γ) → Option γ) (objs : Objs) (tch : List Nat) : Prop :=
  ∃ av : AV, ∀ objs2 : Objs, (∀ id ∈ tch, objs2 id = objs id) → ∀ (γ : Type) (k2 : AV → Option γ), E objs2 γ k2 = k2 av

theorem Loc.mono {E : Objs → (γ : Type) → (AV → Objs → Option γ) → Option γ} {objs : Objs} {t t' : List Nat} (h : Loc E objs t) (hs : ∀ i ∈ t, i ∈ t') : Loc E objs t' := by
  obtain ⟨av, g, m, h1, h2, h3, h4⟩ := h
  exact ⟨av, g, m, h1, fun id hid => h2 id (fun hc => hid (hs id hc)), h3, fun objs2 ha => h4 objs2 (fun id hi => ha id (hs id hi))⟩

theorem LocQ.mono {E : Objs → (γ : Type) → (AV → Option γ) → Option γ} {objs : Objs} {t t' : List Nat} (h : LocQ E objs t) (hs : ∀ i ∈ t, i ∈ t') : LocQ E objs t' := by
  obtain ⟨av, h4⟩ := h
  exact ⟨av, fun objs2 ha => h4 objs2 (fun id hi => ha id (hs id hi))⟩

theorem LocQ.loc {E : Objs → (γ : Type) → (AV → Option γ) → Option γ} {objs : Objs} {t : List Nat} (h : LocQ E objs t) :
    Loc (fun o γ k => E o γ (fun v => k v o)) objs t := by
  obtain ⟨av, h4⟩ := h
  exact ⟨av, fun _ x => x, fun _ => False, fun _ hf => hf.elim, fun _ _ _ _ => rfl, fun _ _ h => h, fun objs2 ha _ γ k2 => h4 objs2 ha γ _⟩

section quiet
variable {β : Type} {y : β} {T : Tys} {objs : Objs}

theorem LocQ.const {a : AV} {t : List Nat} : LocQ (fun _ _ k => k a) objs t := ⟨a, fun _ _ _ _ => rfl⟩

theorem LocQ.of {E : Objs → (γ : Type) → (AV → Option γ) → Option γ} {t : List Nat} {av : AV} {k : AV → Option β} (_ : k av = some y)
    (h : ∀ objs2 : Objs, (∀ id ∈ t, objs2 id = objs id) → ∀ (γ : Type) (k2 : AV → Option γ), E objs2 γ k2 = k2 av) : LocQ E objs t := ⟨av, h⟩

theorem LocC.of {E : (γ : Type) → (Cell → Option γ) → Option γ} {c : Cell} {k : Cell → Option β} (_ : k c = some y)
    (h : ∀ (γ : Type) (k2 : Cell → Option γ), E γ k2 = k2 c) : ∃ c : Cell, ∀ (γ : Type) (k2 : Cell → Option γ), E γ k2 = k2 c := ⟨c, h⟩

theorem evPick_q {c a b : AV} {k : AV → Option β} (h : evPick c a b k = some y) : LocQ (fun _ _ k => evPick c a b k) objs [] := by
  unfold evPick at h
  split at h <;> try (cases h; done)
  rename_i t
  split at h
  · exact LocQ.of h (fun _ _ _ _ => rfl)
  · rename_i hno
    refine ⟨cond t a b, fun _ _ γ k2 => ?_⟩
    unfold evPick
    simp only
    cases t <;> rfl

theorem evLoad_q {t : TypeId} {a : AV} {k : AV → Option β} (h : evLoad T objs t a k = some y) : LocQ (fun o _ k => evLoad T o t a k) objs a.ids := by
  unfold evLoad at h
  split at h
  · rename_i ti id off hti
    split at h <;> try (cases h; done)
    rename_i cs ho
    obtain ⟨hb, h⟩ := cond_some h
    refine LocQ.of h (fun objs2 ha γ k2 => ?_)
    have := ha id (by simp [AV.ids, cellsIds, Cell.ids])
    simp only [evLoad, hti, this, ho, hb, cond_true]
  · rename_i ti id i off hti
    split at h <;> try (cases h; done)
    rename_i e xs wr ho
    obtain ⟨hb, h⟩ := cond_some h
    obtain ⟨x, hx, h⟩ := opt_bind_some h
    refine LocQ.of h (fun objs2 ha γ k2 => ?_)
    have := ha id (by simp [AV.ids, cellsIds, Cell.ids])
    simp only [evLoad, hti, this, ho, hb, cond_true, hx, Option.bind_some]
  · rename_i ti e x off hti
    obtain ⟨hb, h⟩ := cond_some h
    refine LocQ.of h (fun objs2 ha γ k2 => ?_)
    simp only [evLoad, hti, hb, cond_true]
  · cases h

theorem evField_q {off : Nat} {a : AV} {k : AV → Option β} (h : evField objs off a k = some y) : LocQ (fun o _ k => evField o off a k) objs a.ids := by
  unfold evField at h
  split at h
  · rename_i id o
    split at h <;> try (cases h; done)
    rename_i cs ho
    refine LocQ.of h (fun objs2 ha γ k2 => ?_)
    have := ha id (by simp [AV.ids, cellsIds, Cell.ids])
    simp only [evField, this, ho]
  · rename_i id i o
    split at h <;> try (cases h; done)
    rename_i e xs wr ho
    refine LocQ.of h (fun objs2 ha γ k2 => ?_)
    have := ha id (by simp [AV.ids, cellsIds, Cell.ids])
    simp only [evField, this, ho]
  · exact LocQ.of h (fun objs2 ha γ k2 => rfl)
  · cases h

theorem evFieldAddr_q {s : TypeId} {a : AV} {f : Nat} {k : AV → Option β} (h : evFieldAddr T objs s a f k = some y) : LocQ (fun o _ k => evFieldAddr T o s a f k) objs a.ids := by
  unfold evFieldAddr at h
  split at h <;> try (cases h; done)
  rename_i ti hti
  split at h <;> try (cases h; done)
  rename_i fs hk
  split at h <;> try (cases h; done)
  rename_i off t hf
  split at h <;> try (cases h; done)
  rename_i tf htf
  cases hb : Nat.beq tf.zero.length 0 with
  | true => rw [hb] at h; cases h
  | false =>
    rw [hb, cond_false] at h
    obtain ⟨av, h2⟩ := evField_q h
    refine ⟨av, fun objs2 ha γ k2 => ?_⟩
    have := h2 objs2 ha γ k2
    simp only [evFieldAddr, hti, hk, hf, htf, hb, cond_false]
    exact this

theorem evPart_q {s : TypeId} {a : AV} {f : Nat} {k : AV → Option β} (h : evPart T s a f k = some y) : LocQ (fun _ _ k => evPart T s a f k) objs [] := by
  unfold evPart at h
  split at h <;> try (cases h; done)
  rename_i ti l hti
  split at h <;> try (cases h; done)
  rename_i fs hk
  split at h <;> try (cases h; done)
  rename_i off t hf
  split at h <;> try (cases h; done)
  rename_i tf htf
  obtain ⟨hb, h⟩ := cond_some h
  refine LocQ.of h (fun objs2 ha γ k2 => ?_)
  simp only [evPart, hti, hk, hf, htf, hb, cond_true]

theorem evIndexAddr_q {t : TypeId} {x i : AV} {k : AV → Option β} (h : evIndexAddr T objs t x i k = some y) : LocQ (fun o _ k => evIndexAddr T o t x i k) objs x.ids := by
  unfold evIndexAddr at h
  split at h <;> try (cases h; done)
  rename_i ti kk n hti
  split at h <;> try (cases h; done)
  rename_i e hk
  split at h <;> try (cases h; done)
  rename_i te hte
  split at h <;> try (cases h; done)
  · rename_i e' xs
    obtain ⟨hb, h⟩ := cond_some h
    obtain ⟨z, hz, h⟩ := opt_bind_some h
    refine LocQ.of h (fun objs2 ha γ k2 => ?_)
    simp only [evIndexAddr, hti, hk, hte, hb, cond_true, hz, Option.bind_some]
  · rename_i id
    split at h <;> try (cases h; done)
    rename_i e' xs wr ho
    obtain ⟨hb, h⟩ := cond_some h
    obtain ⟨z, hz, h⟩ := opt_bind_some h
    refine LocQ.of h (fun objs2 ha γ k2 => ?_)
    have := ha id (by simp [AV.ids, cellsIds, Cell.ids])
    simp only [evIndexAddr, hti, hk, hte, this, ho, hb, cond_true, hz, Option.bind_some]
  · rename_i id off len
    split at h <;> try (cases h; done)
    rename_i e' xs wr ho
    obtain ⟨hb, h⟩ := cond_some h
    obtain ⟨z, hz, h⟩ := opt_bind_some h
    refine LocQ.of h (fun objs2 ha γ k2 => ?_)
    have := ha id (by simp [AV.ids, cellsIds, Cell.ids])
    simp only [evIndexAddr, hti, hk, hte, this, ho, hb, cond_true, hz, Option.bind_some]

theorem evIndex_q {t : TypeId} {x i : AV} {k : AV → Option β} (h : evIndex T t x i k = some y) : LocQ (fun _ _ k => evIndex T t x i k) objs [] := by
  unfold evIndex at h
  split at h <;> try (cases h; done)
  rename_i ti s kk n hti
  split at h <;> try (cases h; done)
  rename_i hk
  obtain ⟨z, hz, h⟩ := opt_bind_some h
  refine LocQ.of h (fun objs2 ha γ k2 => ?_)
  simp only [evIndex, hti, hk, hz, Option.bind_some]

theorem evInt_q {op : BinOp} {kk : IntKind} {x z : Int} {j : Cell → Option β} (h : evInt op kk x z j = some y) : ∃ c : Cell, ∀ (γ : Type) (j2 : Cell → Option γ), evInt op kk x z j2 = j2 c := by
  cases op <;> simp only [evInt] at h ⊢ <;> first
    | exact LocC.of h (fun _ _ => rfl)
    | (cases hz : z == 0 with
        | true => rw [hz] at h; cases h
        | false => rw [hz] at h; exact LocC.of h (fun _ _ => rfl))
    | (cases h; done)

theorem evStr_q {op : BinOp} {x z : ByteArray} {j : Cell → Option β} (h : evStr op x z j = some y) : ∃ c : Cell, ∀ (γ : Type) (j2 : Cell → Option γ), evStr op x z j2 = j2 c := by
  cases op <;> simp only [evStr] at h ⊢ <;> first
    | exact LocC.of h (fun _ _ => rfl)
    | (obtain ⟨hb, h⟩ := cond_some h; simp only [hb, cond_true]; exact LocC.of h (fun _ _ => rfl))
    | (cases h; done)

theorem evBin_q {op : BinOp} {t : TypeId} {x z : AV} {j : Cell → Option β} (h : evBin T op t x z j = some y) : ∃ c : Cell, ∀ (γ : Type) (j2 : Cell → Option γ), evBin T op t x z j2 = j2 c := by
  unfold evBin at h
  split at h
  · rename_i k1 a k2 b
    split at h
    · cases hb : decide (b < 0) with
      | true => rw [hb] at h; cases h
      | false => (rw [hb] at h; exact LocC.of h (fun _ _ => by simp only [evBin, hb, cond_false]))
    · cases hb : decide (b < 0) with
      | true => rw [hb] at h; cases h
      | false => (rw [hb] at h; exact LocC.of h (fun _ _ => by simp only [evBin, hb, cond_false]))
    · rename_i hn1 hn2
      split at h <;> try (cases h; done)
      rename_i hkk
      obtain ⟨c, hc⟩ := evInt_q h
      refine ⟨c, fun γ j2 => ?_⟩
      rw [← hc γ j2]
      cases op <;> first
        | exact (hn1 rfl).elim
        | exact (hn2 rfl).elim
        | (simp only [evBin, if_pos hkk])
  · obtain ⟨c, hc⟩ := evStr_q h
    exact ⟨c, fun γ j2 => hc γ j2⟩
  · rename_i a b
    split at h <;> try (cases h; done)
    · rename_i ht
      exact LocC.of h (fun _ _ => by simp only [evBin, ht])
    · rename_i ht
      exact LocC.of h (fun _ _ => by simp only [evBin, ht])
  · rename_i l m
    split at h <;> try (cases h; done)
    rename_i ti hti
    obtain ⟨hok, h⟩ := cond_some h
    split at h <;> try (cases h; done)
    rename_i u v hu hv
    split at h <;> try (cases h; done)
    · rename_i h1 h2 _
      exact LocC.of h (fun _ _ => by simp only [evBin, hti, hok, hu, hv, cond_true, h1, h2])
    · rename_i h1 h2 _
      exact LocC.of h (fun _ _ => by simp only [evBin, hti, hok, hu, hv, cond_true, h1, h2])
  · cases h

theorem evUn_q {op : UnOp} {x : AV} {j : Cell → Option β} (h : evUn op x j = some y) : ∃ c : Cell, ∀ (γ : Type) (j2 : Cell → Option γ), evUn op x j2 = j2 c := by
  unfold evUn at h
  split at h <;> first | exact LocC.of h (fun _ _ => rfl) | cases h

theorem evConvert_q {s d : TypeId} {x : AV} {k : AV → Option β} (h : evConvert T s d x k = some y) : LocQ (fun _ _ k => evConvert T s d x k) objs [] := by
  unfold evConvert at h
  split at h <;> try (cases h; done)
  · rename_i hs hd
    split at h <;> try (cases h; done)
    · rename_i hk
      exact LocQ.of h (fun _ _ _ _ => by simp only [evConvert, hs, hd, hk])
    · rename_i hk
      exact LocQ.of h (fun _ _ _ _ => by simp only [evConvert, hs, hd, hk])
  · rename_i hs hd
    split at h <;> try (cases h; done)
    rename_i hk
    exact LocQ.of h (fun _ _ _ _ => by simp only [evConvert, hs, hd, hk])

end quiet
end Go.Fw

namespace Go.Fw
open Go

section quiet
variable {β : Type} {y : β} {T : Tys} {objs : Objs}

theorem evBuild_q {t : TypeId} {parts : List (Nat × AV)} {k : AV → Option β} (h : evBuild T t parts k = some y) : LocQ (fun _ _ k => evBuild T t parts k) objs [] := by
  unfold evBuild at h
  split at h <;> try (cases h; done)
  rename_i ti hti
  split at h <;> try (cases h; done)
  rename_i fs hk
  obtain ⟨hb, h⟩ := cond_some h
  split at h <;> try (cases h; done)
  rename_i cs hcs
  exact LocQ.of h (fun _ _ _ _ => by simp only [evBuild, hti, hk, hb, cond_true, hcs])

theorem evMinMax_q {mx : Bool} {x z : AV} {k : AV → Option β} (h : evMinMax mx x z k = some y) : LocQ (fun _ _ k => evMinMax mx x z k) objs [] := by
  unfold evMinMax at h
  split at h <;> try (cases h; done)
  split at h <;> try (cases h; done)
  rename_i hk
  exact LocQ.of h (fun _ _ _ _ => by simp only [evMinMax, if_pos hk])

theorem lenC_congr {o2 : Objs} {c : Cell} (h : ∀ id ∈ c.ids, o2 id = objs id) : lenC o2 c = lenC objs c := by
  cases c with
  | own id => simp only [lenC, h id (by simp [Cell.ids])]
  | sub id off len => simp only [lenC, h id (by simp [Cell.ids])]
  | _ => rfl

theorem evLen_q {t : TypeId} {x : AV} {k : AV → Option β} (h : evLen T objs t x k = some y) : LocQ (fun o _ k => evLen T o t x k) objs x.ids := by
  unfold evLen at h
  split at h <;> try (cases h; done)
  rename_i ti c hti
  split at h <;> try (cases h; done)
  rename_i n hn
  have hc : ∀ {o2 : Objs}, (∀ id ∈ (AV.cs false [c]).ids, o2 id = objs id) → lenC o2 c = some n := fun ha => by
    rw [lenC_congr (fun id hi => ha id (by simpa [AV.ids, cellsIds] using hi))]; exact hn
  split at h
  · rename_i s hk
    exact LocQ.of h (fun o2 ha _ _ => by simp only [evLen, hti, hc ha, hk])
  · cases h
  · rename_i e hk hne
    refine LocQ.of h (fun o2 ha _ _ => ?_)
    simp only [evLen, hti, hc ha, hk]
  · cases h

theorem evSlice_q {t : TypeId} {x : AV} {lo hi : Option AV} {k : AV → Option β} (h : evSlice T objs t x lo hi k = some y) : LocQ (fun o _ k => evSlice T o t x lo hi k) objs x.ids := by
  unfold evSlice at h
  split at h <;> try (cases h; done)
  · rename_i ti s hti
    split at h <;> try (cases h; done)
    rename_i hk
    split at h <;> try (cases h; done)
    rename_i cl l ch hh hlo hhi
    obtain ⟨hb, h⟩ := cond_some h
    exact LocQ.of h (fun _ _ _ _ => by simp only [evSlice, hti, hk, hlo, hhi, hb, cond_true])
  · rename_i ti c hns hti
    split at h <;> try (cases h; done)
    rename_i e hk
    split at h <;> try (cases h; done)
    rename_i te hte
    split at h <;> try (cases h; done)
    · split at h <;> try (cases h; done)
      rename_i cl l ch hh hlo hhi
      obtain ⟨hb, h⟩ := cond_some h
      exact LocQ.of h (fun _ _ _ _ => by simp only [evSlice, hti, hk, hte, hlo, hhi, hb, cond_true])
    · split at h <;> try (cases h; done)
      rename_i cl l ch hh hlo hhi
      obtain ⟨hb, h⟩ := cond_some h
      exact LocQ.of h (fun _ _ _ _ => by simp only [evSlice, hti, hk, hte, hlo, hhi, hb, cond_true])
    · rename_i id
      split at h <;> try (cases h; done)
      rename_i e' xs wr ho
      split at h <;> try (cases h; done)
      rename_i cl l ch hh hlo hhi
      obtain ⟨hb, h⟩ := cond_some h
      refine LocQ.of h (fun o2 ha _ _ => ?_)
      have := ha id (by simp [AV.ids, cellsIds, Cell.ids])
      simp only [evSlice, hti, hk, hte, this, ho, hlo, hhi, hb, cond_true]
    · rename_i id off len
      split at h <;> try (cases h; done)
      rename_i e' xs wr ho
      split at h <;> try (cases h; done)
      rename_i cl l ch hh hlo hhi
      obtain ⟨hb, h⟩ := cond_some h
      refine LocQ.of h (fun o2 ha _ _ => ?_)
      have := ha id (by simp [AV.ids, cellsIds, Cell.ids])
      simp only [evSlice, hti, hk, hte, this, ho, hlo, hhi, hb, cond_true]

end quiet

/-! ### packing touches what it names -/
section congr
variable {objs o2 : Objs}

theorem cellsIds_append : ∀ (a b : List Cell), cellsIds (a ++ b) = cellsIds a ++ cellsIds b
  | [], b => rfl
  | c :: a, b => by simp [cellsIds, cellsIds_append a b]

theorem readSl_congr {e : Sh} {c : Cell} (h : ∀ id ∈ c.ids, o2 id = objs id) : readSl o2 e c = readSl objs e c := by
  cases c with
  | own id => simp only [readSl, h id (by simp [Cell.ids])]
  | sub id off len => simp only [readSl, h id (by simp [Cell.ids])]
  | _ => rfl

theorem readSl_ids {e : Sh} {c : Cell} {xs : List (El e)} {l : List Nat} (h : readSl objs e c = some (xs, l)) : ∀ i ∈ l, i ∈ c.ids := by
  cases c with
  | own id =>
    simp only [readSl] at h
    split at h <;> try (cases h; done)
    split at h <;> cases h
    simp [Cell.ids]
  | sub id off len =>
    simp only [readSl] at h
    split at h <;> try (cases h; done)
    split at h <;> cases h
    simp [Cell.ids]
  | nils => simp only [readSl] at h; cases h; simp
  | sl e' xs' => simp only [readSl] at h; split at h <;> cases h; simp
  | _ => simp only [readSl] at h; cases h

theorem takeOwn_congr {e : Sh} {c : Cell} (h : ∀ id ∈ c.ids, o2 id = objs id) : takeOwn o2 e c = takeOwn objs e c := by
  cases c with
  | own id => simp only [takeOwn, h id (by simp [Cell.ids])]
  | _ => rfl

theorem takeOwn_owned {e : Sh} {c : Cell} {xs : List (El e)} {l : Option Nat} (h : takeOwn objs e c = some (xs, l)) : ∀ i, l = some i → i ∈ c.ids := by
  cases c with
  | own id =>
    simp only [takeOwn] at h
    split at h <;> try (cases h; done)
    split at h <;> cases h
    simp [Cell.ids]
  | nils => simp only [takeOwn] at h; cases h; simp
  | _ => simp only [takeOwn] at h; cases h

theorem takeEl_facts : ∀ (s : Sh) (cs : List Cell) (t : Taken s), takeEl objs s cs = some t →
    (∃ pre, cs = pre ++ t.rest) ∧ (∀ i ∈ t.lent, i ∈ cellsIds cs) ∧ (∀ i, some i ∈ t.owned → i ∈ cellsIds cs)
  | .int k, cs, t, h => by
    simp only [takeEl, takeInt] at h
    split at h <;> try (cases h; done)
    split at h <;> cases h
    rename_i k' n r _
    exact ⟨⟨[_], rfl⟩, by simp, by simp⟩
  | .bool, cs, t, h => by
    simp only [takeEl, takeBool] at h
    split at h <;> cases h
    exact ⟨⟨[_], rfl⟩, by simp, by simp⟩
  | .str, cs, t, h => by
    simp only [takeEl, takeStr] at h
    split at h <;> cases h
    exact ⟨⟨[_], rfl⟩, by simp, by simp⟩
  | .sl e, cs, t, h => by
    simp only [takeEl, takeSlice] at h
    split at h <;> try (cases h; done)
    split at h <;> cases h
    rename_i c r xs ids hr
    exact ⟨⟨[_], rfl⟩, fun i hi => by simp only [cellsIds, List.mem_append]; exact .inl (readSl_ids hr i hi), by simp⟩
  | .own e, cs, t, h => by
    simp only [takeEl, takeOwned] at h
    split at h <;> try (cases h; done)
    split at h <;> cases h
    rename_i c r xs ids hr
    exact ⟨⟨[_], rfl⟩, by simp, fun i hi => by
      simp only [cellsIds, List.mem_append]
      simp only [List.mem_singleton] at hi
      exact .inl (takeOwn_owned hr i hi.symm)⟩
  | .pair a b, cs, t, h => by
    simp only [takeEl] at h
    split at h <;> try (cases h; done)
    rename_i t1 h1
    split at h <;> cases h
    rename_i t2 h2
    obtain ⟨⟨p1, e1⟩, l1, o1⟩ := takeEl_facts a cs t1 h1
    obtain ⟨⟨p2, e2⟩, l2, o2⟩ := takeEl_facts b _ t2 h2
    have hsub : ∀ i ∈ cellsIds t1.rest, i ∈ cellsIds cs := fun i hi => by
      rw [e1, cellsIds_append]; exact List.mem_append.2 (.inr hi)
    refine ⟨⟨p1 ++ p2, by rw [List.append_assoc, ← e2]; exact e1⟩, fun i hi => ?_, fun i hi => ?_⟩
    · rcases List.mem_append.1 hi with h | h
      · exact l1 i h
      · exact hsub i (l2 i h)
    · rcases List.mem_append.1 hi with h | h
      · exact o1 i h
      · exact hsub i (o2 i h)
  | .unit, cs, t, h => by
    simp only [takeEl] at h
    cases h
    exact ⟨⟨[], rfl⟩, by simp, by simp⟩

theorem takeEl_congr : ∀ (s : Sh) (cs : List Cell), (∀ id ∈ cellsIds cs, o2 id = objs id) → takeEl o2 s cs = takeEl objs s cs
  | .int _, _, _ => rfl
  | .bool, _, _ => rfl
  | .str, _, _ => rfl
  | .sl e, cs, h => by
    simp only [takeEl, takeSlice]
    cases cs with
    | nil => rfl
    | cons c r => simp only [readSl_congr (e := e) (fun id hi => h id (by simp only [cellsIds, List.mem_append]; exact .inl hi))]
  | .own e, cs, h => by
    simp only [takeEl, takeOwned]
    cases cs with
    | nil => rfl
    | cons c r => simp only [takeOwn_congr (e := e) (fun id hi => h id (by simp only [cellsIds, List.mem_append]; exact .inl hi))]
  | .pair a b, cs, h => by
    simp only [takeEl, takeEl_congr a cs h]
    cases h1 : takeEl objs a cs with
    | none => rfl
    | some t1 =>
      obtain ⟨⟨p1, e1⟩, _, _⟩ := takeEl_facts a cs t1 h1
      simp only [takeEl_congr b t1.rest (fun id hi => h id (by rw [e1, cellsIds_append]; exact List.mem_append.2 (.inr hi)))]
  | .unit, _, _ => rfl

theorem touchL_under {objs : Objs} : ∀ {l : List Nat} {i j : Nat}, i ∈ l → j ∈ obIds objs i → j ∈ under objs l
  | a :: l, i, j, h, hj => by
    simp only [under, List.mem_append]
    cases h with
    | head => exact .inl hj
    | tail _ h => exact .inr (touchL_under h hj)

theorem under_mono {objs : Objs} : ∀ {l l' : List Nat}, (∀ i ∈ l, i ∈ l') → ∀ j ∈ under objs l, j ∈ under objs l'
  | [], _, _, j, hj => by cases hj
  | a :: l, l', hs, j, hj => by
    simp only [under, List.mem_append] at hj
    rcases hj with h | h
    · exact touchL_under (hs a (by simp)) h
    · exact under_mono (fun i hi => hs i (by simp [hi])) j h

theorem reach_add {objs : Objs} {l : List Nat} {i n : Nat} : ∀ (k : Nat), i ∈ reach objs n l → i ∈ reach objs (n + k) l
  | 0, h => h
  | k + 1, h => List.mem_append.2 (.inl (reach_add k h))

theorem touchL_self {objs : Objs} {l : List Nat} {i : Nat} (h : i ∈ l) : i ∈ touchL objs l := reach_add (n := 0) 6 h

theorem reach_step {objs : Objs} {l : List Nat} {i j n : Nat} (h : i ∈ reach objs n l) (hj : j ∈ obIds objs i) : j ∈ reach objs (n + 1) l := List.mem_append.2 (.inr (touchL_under h hj))

theorem reach_mono {objs : Objs} {l l' : List Nat} (hs : ∀ i ∈ l, i ∈ l') : ∀ (n : Nat), ∀ j ∈ reach objs n l, j ∈ reach objs n l'
  | 0, j, h => hs j h
  | n + 1, j, h => by
    rcases List.mem_append.1 h with h | h
    · exact List.mem_append.2 (.inl (reach_mono hs n j h))
    · exact List.mem_append.2 (.inr (under_mono (reach_mono hs n) j h))

theorem under_congr {objs o2 : Objs} : ∀ (l : List Nat), (∀ id ∈ l, o2 id = objs id) → under o2 l = under objs l
  | [], _ => rfl
  | a :: l, h => by
    simp only [under, obIds, h a (by simp), under_congr l (fun id hi => h id (by simp [hi]))]

theorem reach_congr {objs o2 : Objs} {l : List Nat} : ∀ (n : Nat), (∀ id ∈ reach objs n l, o2 id = objs id) → reach o2 n l = reach objs n l
  | 0, _ => rfl
  | n + 1, h => by
    have ih := reach_congr n (fun id hi => h id (List.mem_append.2 (.inl hi)))
    simp only [reach, ih]
    rw [under_congr (reach objs n l) (fun id hi => h id (List.mem_append.2 (.inl hi)))]

theorem touchL_mono {objs : Objs} {l l' : List Nat} (hs : ∀ i ∈ l, i ∈ l') : ∀ j ∈ touchL objs l, j ∈ touchL objs l' := reach_mono hs 6

theorem linkN_congr {ok : List Nat} (h : ∀ id ∈ ok, o2 id = objs id) : ∀ (ns : List Nd) (i : Nat) (acc : List (Nat × Nat)), linkN o2 ok i ns acc = linkN objs ok i ns acc
  | [], _, _ => rfl
  | n :: r, i, acc => by
    simp only [linkN]
    cases ha : assocN acc i with
    | none => exact linkN_congr h r (i + 1) _
    | some id =>
      simp only
      cases hc : ok.contains id with
      | false => exact linkN_congr h r (i + 1) _
      | true =>
        rw [h id (List.contains_iff_mem.1 hc)]
        exact linkN_congr h r (i + 1) _

theorem findIds_congr {hd : Hd} {ns : List Nd} {c : Cell} (h : ∀ id ∈ reach objs 6 c.ids, o2 id = objs id) : findIds o2 hd ns c = findIds objs hd ns c := by
  have h5 : ∀ id ∈ reach objs 5 c.ids, o2 id = objs id := fun id hi => h id (reach_add (n := 5) 1 hi)
  simp only [findIds, reach_congr 5 h5]
  rw [linkN_congr h5]

theorem findIds_reach {hd : Hd} {ns : List Nd} {c : Cell} {ids : List Nat} (h : findIds objs hd ns c = some ids) : ∀ i ∈ ids, i ∈ reach objs 5 c.ids := by
  unfold findIds at h
  split at h <;> try (cases h; done)
  obtain ⟨hall, h⟩ := cond_some h
  cases h
  intro i hi
  exact List.contains_iff_mem.1 (List.all_eq_true.1 hall i hi)

theorem packF_congr {ids : List Nat} : ∀ (fs : List Fld) (cs : List Cell), (∀ id ∈ cellsIds cs, o2 id = objs id) → packF o2 ids fs cs = packF objs ids fs cs
  | [], [], _ => rfl
  | [], _ :: _, _ => rfl
  | .s sh :: r, cs, h => by
    simp only [packF, takeEl_congr sh cs h]
    cases h1 : takeEl objs sh cs with
    | none => rfl
    | some t1 =>
      obtain ⟨⟨p1, e1⟩, _, _⟩ := takeEl_facts sh cs t1 h1
      simp only [packF_congr r t1.rest (fun id hi => h id (by rw [e1, cellsIds_append]; exact List.mem_append.2 (.inr hi)))]
  | .p _ :: _, [], _ => rfl
  | .c _ _ :: _, [], _ => rfl
  | .p k :: r, c :: cs, h => by
    simp only [packF, packF_congr r cs (fun id hi => h id (by simp only [cellsIds, List.mem_append]; exact .inr hi))]
  | .c f ks :: r, c :: cs, h => by
    simp only [packF, packF_congr r cs (fun id hi => h id (by simp only [cellsIds, List.mem_append]; exact .inr hi))]

theorem packF_ids {ids : List Nat} : ∀ (fs : List Fld) (cs : List Cell) (t : TakenF fs), packF objs ids fs cs = some t → (∀ i ∈ t.lent, i ∈ cellsIds cs) ∧ (∀ i, some i ∈ t.owned → i ∈ cellsIds cs)
  | [], [], t, h => by simp only [packF] at h; cases h; exact ⟨by simp, by simp⟩
  | [], _ :: _, t, h => by simp only [packF] at h; cases h
  | .s sh :: r, cs, t, h => by
    simp only [packF] at h
    split at h <;> try (cases h; done)
    rename_i t1 h1
    split at h <;> cases h
    rename_i u hu
    obtain ⟨⟨p1, e1⟩, l1, q1⟩ := takeEl_facts sh cs t1 h1
    obtain ⟨l2, q2⟩ := packF_ids r t1.rest u hu
    have hsub : ∀ i ∈ cellsIds t1.rest, i ∈ cellsIds cs := fun i hi => by
      rw [e1, cellsIds_append]; exact List.mem_append.2 (.inr hi)
    refine ⟨fun i hi => ?_, fun i hi => ?_⟩
    · rcases List.mem_append.1 hi with h | h
      · exact l1 i h
      · exact hsub i (l2 i h)
    · rcases List.mem_append.1 hi with h | h
      · exact q1 i h
      · exact hsub i (q2 i h)
  | .p _ :: _, [], t, h => by simp only [packF] at h; cases h
  | .c _ _ :: _, [], t, h => by simp only [packF] at h; cases h
  | .p k :: r, c :: cs, t, h => by
    simp only [packF] at h
    obtain ⟨_, h⟩ := cond_some h
    split at h <;> cases h
    rename_i u hu
    obtain ⟨l2, q2⟩ := packF_ids r cs u hu
    exact ⟨fun i hi => by simp only [cellsIds, List.mem_append]; exact .inr (l2 i hi), fun i hi => by simp only [cellsIds, List.mem_append]; exact .inr (q2 i hi)⟩
  | .c f ks :: r, c :: cs, t, h => by
    simp only [packF] at h
    obtain ⟨_, h⟩ := cond_some h
    split at h <;> cases h
    rename_i u hu
    obtain ⟨l2, q2⟩ := packF_ids r cs u hu
    exact ⟨fun i hi => by simp only [cellsIds, List.mem_append]; exact .inr (l2 i hi), fun i hi => by simp only [cellsIds, List.mem_append]; exact .inr (q2 i hi)⟩

theorem packN_congr {ids : List Nat} {l : List Nat} (h : ∀ id ∈ reach objs 6 l, o2 id = objs id) : ∀ (ns : List Nd) (il : List Nat), (∀ i ∈ il, i ∈ reach objs 5 l) → packN o2 ids ns il = packN objs ids ns il
  | [], [], _ => rfl
  | [], _ :: _, _ => rfl
  | _ :: _, [], _ => rfl
  | n :: r, id :: il, hi => by
    have h5 := hi id (by simp)
    simp only [packN, h id (reach_add (n := 5) 1 h5)]
    cases ho : objs id with
    | none => rfl
    | some ob =>
      cases ob with
      | var nm cs =>
        simp only [packF_congr n.fs cs (fun j hj => h j (reach_step h5 (by simp only [obIds, ho]; exact hj))), packN_congr h r il (fun i h2 => hi i (by simp [h2]))]
      | row e xs wr => rfl
      | dead => rfl

theorem packN_ids {ids : List Nat} {l : List Nat} : ∀ (ns : List Nd) (il : List Nat) (t : TakenN ns), (∀ i ∈ il, i ∈ reach objs 5 l) → packN objs ids ns il = some t → (∀ i ∈ t.lent, i ∈ reach objs 6 l) ∧ (∀ i, some i ∈ t.owned → i ∈ reach objs 6 l)
  | [], [], t, _, h => by simp only [packN] at h; cases h; exact ⟨by simp, by simp⟩
  | [], _ :: _, t, _, h => by simp only [packN] at h; cases h
  | _ :: _, [], t, _, h => by simp only [packN] at h; cases h
  | n :: r, id :: il, t, hi, h => by
    have h5 := hi id (by simp)
    simp only [packN] at h
    split at h <;> try (cases h; done)
    rename_i nm cs ho
    obtain ⟨_, h⟩ := cond_some h
    split at h <;> try (cases h; done)
    rename_i t1 h1
    split at h <;> cases h
    rename_i u hu
    obtain ⟨l1, q1⟩ := packF_ids n.fs cs t1 h1
    obtain ⟨l2, q2⟩ := packN_ids r il u (fun i h2 => hi i (by simp [h2])) hu
    have hsub : ∀ j ∈ cellsIds cs, j ∈ reach objs 6 l := fun j hj => reach_step h5 (by simp only [obIds, ho]; exact hj)
    refine ⟨fun i hi => ?_, fun i hi => ?_⟩
    · rcases List.mem_append.1 hi with h | h
      · exact hsub i (l1 i h)
      · exact l2 i h
    · rcases List.mem_append.1 hi with h | h
      · exact hsub i (q1 i h)
      · exact q2 i h

theorem packP_congr (p : PSh) (a : AV) (h : ∀ id ∈ touchL objs a.ids, o2 id = objs id) : packP o2 p a = packP objs p a := by
  cases p with
  | val agg s =>
    simp only [packP]
    cases hc : a.cells agg with
    | none => rfl
    | some cs =>
      have := AV.cells_eq hc
      subst this
      simp only [packVal, takeEl_congr s cs (fun id hi => h id (touchL_self hi))]
  | ptr s =>
    simp only [packP]
    cases hc : a.ptrId with
    | none => rfl
    | some id =>
      have := AV.ptrId_eq hc
      subst this
      have h0 := h id (touchL_self (by simp [AV.ids, cellsIds, Cell.ids]))
      simp only [packPtr, h0]
      cases ho : objs id with
      | none => rfl
      | some ob =>
        cases ob with
        | var nm cs =>
          simp only [takeEl_congr s cs (fun j hj => h j (reach_add (n := 1) 5 (reach_step (n := 0) (i := id) (by simp [reach, AV.ids, cellsIds, Cell.ids]) (by simp only [obIds, ho]; exact hj))))]
        | row e xs wr => rfl
        | dead => rfl
  | brw e =>
    simp only [packP]
    cases hc : a.ownId with
    | none => rfl
    | some id =>
      have := AV.ownId_eq hc
      subst this
      have h0 := h id (touchL_self (by simp [AV.ids, cellsIds, Cell.ids]))
      simp only [packBrw, h0]
  | net hd ns =>
    simp only [packP]
    cases hc : a.one with
    | none => rfl
    | some c =>
      have := AV.one_eq hc
      subst this
      have hci : (AV.cs false [c]).ids = c.ids := by simp [AV.ids, cellsIds]
      rw [hci] at h
      simp only [findIds_congr h]
      cases hf : findIds objs hd ns c with
      | none => rfl
      | some ids => simp only [packNet, packN_congr h ns ids (findIds_reach hf)]
  | also k => rfl

theorem packL_congr : ∀ (ps : List PSh) (as : List AV), (∀ id ∈ touchL objs (avsIds as), o2 id = objs id) → packL o2 ps as = packL objs ps as
  | [], [], _ => rfl
  | [], _ :: _, _ => rfl
  | _ :: _, [], _ => rfl
  | p :: ps, a :: as, h => by
    simp only [packL, packP_congr p a (fun id hi => h id (touchL_mono (fun i hi => by simp only [avsIds, List.mem_append]; exact .inl hi) id hi)),
      packL_congr ps as (fun id hi => h id (touchL_mono (fun i hi => by simp only [avsIds, List.mem_append]; exact .inr hi) id hi))]

theorem packP_touch (p : PSh) (a : AV) (t : Packed p) (h : packP objs p a = some t) : (∀ i ∈ t.lent, i ∈ touchL objs a.ids) ∧ (∀ i, some i ∈ t.owned → i ∈ touchL objs a.ids) := by
  cases p with
  | val agg s =>
    simp only [packP] at h
    split at h <;> try (cases h; done)
    rename_i cs hcs
    have := AV.cells_eq hcs
    subst this
    unfold packVal at h
    split at h <;> try (cases h; done)
    rename_i t' ht
    split at h <;> cases h
    have := takeEl_facts s _ t' ht
    exact ⟨fun i hi => touchL_self (this.2.1 i hi), fun i hi => touchL_self (this.2.2 i hi)⟩
  | ptr s =>
    simp only [packP] at h
    split at h <;> try (cases h; done)
    rename_i id hid
    have := AV.ptrId_eq hid
    subst this
    unfold packPtr at h
    split at h <;> try (cases h; done)
    rename_i cs ho
    split at h <;> try (cases h; done)
    rename_i t' ht
    split at h <;> cases h
    have f := takeEl_facts s _ t' ht
    have hu : ∀ j ∈ cellsIds cs, j ∈ touchL objs (AV.cs false [Cell.ptr id 0]).ids := fun j hj =>
      reach_add (n := 1) 5 (reach_step (n := 0) (i := id) (by simp [reach, AV.ids, cellsIds, Cell.ids]) (by simp only [obIds, ho]; exact hj))
    refine ⟨fun i hi => hu i (f.2.1 i hi), fun i hi => ?_⟩
    rcases List.mem_cons.1 hi with h | h
    · cases h; exact touchL_self (by simp [AV.ids, cellsIds, Cell.ids])
    · exact hu i (f.2.2 i h)
  | brw e =>
    simp only [packP] at h
    split at h <;> try (cases h; done)
    rename_i id hid
    have := AV.ownId_eq hid
    subst this
    unfold packBrw at h
    split at h <;> try (cases h; done)
    split at h <;> cases h
    exact ⟨fun i hi => (by cases hi), fun i hi => by
      simp only [List.mem_singleton, Option.some.injEq] at hi
      subst hi
      exact touchL_self (by simp [AV.ids, cellsIds, Cell.ids])⟩
  | net hd ns =>
    simp only [packP] at h
    split at h <;> try (cases h; done)
    rename_i c hc
    have := AV.one_eq hc
    subst this
    split at h <;> try (cases h; done)
    rename_i ids hids
    have hci : (AV.cs false [c]).ids = c.ids := by simp [AV.ids, cellsIds]
    unfold packNet at h
    obtain ⟨_, h⟩ := cond_some h
    split at h <;> cases h
    rename_i t' ht
    obtain ⟨f1, f2⟩ := packN_ids ns ids t' (findIds_reach hids) ht
    unfold touchL
    rw [hci]
    refine ⟨f1, fun i hi => ?_⟩
    rcases List.mem_append.1 hi with h | h
    · obtain ⟨j, hj, hji⟩ := List.mem_map.1 h
      cases hji
      exact reach_add (n := 5) 1 (findIds_reach hids i hj)
    · exact f2 i h
  | also k =>
    simp only [packP] at h
    split at h <;> cases h
    exact ⟨fun i hi => (by cases hi), fun i hi => (by cases hi)⟩

theorem packL_touch : ∀ (ps : List PSh) (as : List AV) (t : PackedL ps), packL objs ps as = some t → (∀ i ∈ t.lent, i ∈ touchL objs (avsIds as)) ∧ (∀ i, some i ∈ t.owned → i ∈ touchL objs (avsIds as))
  | [], as, t, h => by
    cases as with
    | nil => simp only [packL] at h; cases h; exact ⟨fun i hi => (by cases hi), fun i hi => (by cases hi)⟩
    | cons b as => simp only [packL] at h; cases h
  | p :: ps, as, t, h => by
    cases as with
    | nil => simp only [packL] at h; cases h
    | cons b as =>
      simp only [packL] at h
      split at h <;> try (cases h; done)
      rename_i t1 h1
      split at h <;> cases h
      rename_i t2 h2
      have f1 := packP_touch p b t1 h1
      have f2 := packL_touch ps as t2 h2
      have s1 : ∀ j ∈ touchL objs b.ids, j ∈ touchL objs (avsIds (b :: as)) := touchL_mono (fun i hi => by simp only [avsIds, List.mem_append]; exact .inl hi)
      have s2 : ∀ j ∈ touchL objs (avsIds as), j ∈ touchL objs (avsIds (b :: as)) := touchL_mono (fun i hi => by simp only [avsIds, List.mem_append]; exact .inr hi)
      refine ⟨fun i hi => ?_, fun i hi => ?_⟩
      · rcases List.mem_append.1 hi with h | h
        · exact s1 i (f1.1 i h)
        · exact s2 i (f2.1 i h)
      · rcases List.mem_append.1 hi with h | h
        · exact s1 i (f1.2 i h)
        · exact s2 i (f2.2 i h)

end congr
end Go.Fw

namespace Go.Fw
open Go

def fz (ids : List Nat) (i : Nat) (x : Option Ob) : Option Ob := match x with
  | some (.row e xs wr) => some (.row e xs (cond (ids.contains i) false wr))
  | o => o

section eff
variable {β : Type} {y : β} {T : Tys} {objs : Objs}

theorem frz_eq (ids : List Nat) (objs : Objs) : frz ids objs = fun i => fz ids i (objs i) := by
  funext i
  cases ids with
  | nil =>
    simp only [frz, fz]
    cases objs i with
    | none => rfl
    | some ob => cases ob <;> simp
  | cons j l => rfl

theorem fz_some {ids : List Nat} {i : Nat} {x : Option Ob} (h : x.isSome = true) : (fz ids i x).isSome = true := by
  cases x with
  | none => cases h
  | some ob => cases ob <;> rfl

theorem fz_none {ids : List Nat} {i : Nat} : fz ids i none = none := rfl

theorem fz_id {ids : List Nat} {i : Nat} (h : i ∉ ids) (x : Option Ob) : fz ids i x = x := by
  have hc : ids.contains i = false := by
    cases hb : ids.contains i with
    | false => rfl
    | true => exact absurd (List.contains_iff_mem.1 hb) h
  cases x with
  | none => rfl
  | some ob => cases ob <;> simp only [fz, hc, cond_false]

theorem newOb_eq {o2 : Objs} {n : Nat} {ob : Ob} {γ : Type} {k : Objs → Option γ} (h : o2 n = none) : newOb o2 n ob k = k (putOb o2 n ob) := by
  simp only [newOb, h]

/-- objects frozen, then one killed or changed, then one new -/
theorem loc_new {E : Objs → (γ : Type) → (AV → Objs → Option γ) → Option γ} {t : List Nat} {av : AV} {n : Nat} {ob : Ob} {f : Nat → Option Ob → Option Ob} (hfree : objs n = none)
    (hf0 : ∀ i, f i none = none) (hf1 : ∀ i x, x.isSome = true → (f i x).isSome = true) (hf2 : ∀ i, i ∉ t → ∀ x, f i x = x)
    (hE : ∀ objs2 : Objs, (∀ id ∈ t, objs2 id = objs id) → ∀ (γ : Type) (k : AV → Objs → Option γ), E objs2 γ k = newOb (fun i => f i (objs2 i)) n ob (k av)) : Loc E objs t := by
  refine ⟨av, fun id x => cond (Nat.beq id n) (some ob) (f id x), fun id => id = n, ?_, ?_, ?_, ?_⟩
  · rintro id rfl; exact ⟨hfree, by simp⟩
  · intro id hid hne x
    simp only [beq_false hne, cond_false]
    exact hf2 id hid x
  · intro id x hx
    show (cond (Nat.beq id n) (some ob) (f id x)).isSome = true
    cases hb : Nat.beq id n with
    | true => rfl
    | false => exact hf1 id x hx
  · intro objs2 ha hm γ k2
    rw [hE objs2 ha γ k2, newOb_eq (by simp only [hm n rfl, hf0])]
    rfl

/-- objects changed -/
theorem loc_put {E : Objs → (γ : Type) → (AV → Objs → Option γ) → Option γ} {t : List Nat} {av : AV} {f : Nat → Option Ob → Option Ob}
    (hf1 : ∀ i x, x.isSome = true → (f i x).isSome = true) (hf2 : ∀ i, i ∉ t → ∀ x, f i x = x)
    (hE : ∀ objs2 : Objs, (∀ id ∈ t, objs2 id = objs id) → ∀ (γ : Type) (k : AV → Objs → Option γ), E objs2 γ k = k av (fun i => f i (objs2 i))) : Loc E objs t :=
  ⟨av, f, fun _ => False, fun _ h => h.elim, fun id hid _ x => hf2 id hid x, hf1, fun objs2 ha _ γ k2 => hE objs2 ha γ k2⟩

def partsIds (parts : List (Nat × AV)) : List Nat := avsIds (parts.map Prod.snd)

theorem rowsOf_congr {o2 : Objs} {s : Sh} {agg : Bool} : ∀ (n : Nat) (parts : List (Nat × AV)), (∀ id ∈ partsIds parts, o2 id = objs id) → rowsOf o2 s agg n parts = rowsOf objs s agg n parts
  | _, [], _ => rfl
  | n, (i, a) :: r, h => by
    have h1 : ∀ id ∈ a.ids, o2 id = objs id := fun id hi => h id (by simp only [partsIds, List.map_cons, avsIds, List.mem_append]; exact .inl hi)
    have ih := rowsOf_congr (s := s) (agg := agg) (n + 1) r (fun id hi => h id (by simp only [partsIds, List.map_cons, avsIds, List.mem_append]; exact .inr hi))
    cases a with
    | cs ag l => simp only [rowsOf, takeEl_congr s l h1, ih]
    | tup l => rfl
    | undef => rfl

theorem rowsOf_ids {s : Sh} {agg : Bool} : ∀ (n : Nat) (parts : List (Nat × AV)) (xs : List (El s)) (ids : List Nat), rowsOf objs s agg n parts = some (xs, ids) → ∀ i ∈ ids, i ∈ partsIds parts
  | _, [], xs, ids, h, i, hi => by simp only [rowsOf] at h; cases h; cases hi
  | n, (j, .cs ag l) :: r, xs, ids, h, i, hi => by
    simp only [rowsOf] at h
    obtain ⟨_, h⟩ := cond_some h
    split at h <;> try (cases h; done)
    rename_i t ht
    split at h <;> try (cases h; done)
    rename_i xs' ids' _ _ hr
    cases h
    simp only [partsIds, List.map_cons, avsIds, List.mem_append]
    rcases List.mem_append.1 hi with h | h
    · exact .inl ((takeEl_facts s l t ht).2.1 i h)
    · exact .inr (rowsOf_ids (n + 1) r _ _ hr i h)
  | _, (_, .tup _) :: _, _, _, h, _, _ => by simp only [rowsOf] at h; cases h
  | _, (_, .undef) :: _, _, _, h, _, _ => by simp only [rowsOf] at h; cases h

theorem evBuildSlice_loc {t : TypeId} {len : Nat} {parts : List (Nat × AV)} {n : Nat} {k : AV → Objs → Option β} (h : evBuildSlice T objs t len parts n k = some y) :
    Loc (fun o _ k => evBuildSlice T o t len parts n k) objs (partsIds parts) := by
  unfold evBuildSlice at h
  split at h <;> try (cases h; done)
  rename_i ti hti
  split at h <;> try (cases h; done)
  rename_i e hk
  split at h <;> try (cases h; done)
  rename_i te hte
  obtain ⟨hb, h⟩ := cond_some h
  split at h <;> try (cases h; done)
  rename_i xs ids hr
  obtain ⟨hfree, _⟩ := newOb_some h
  have hfree' : objs n = none := by
    rw [frz_eq] at hfree
    cases ho : objs n with
    | none => rfl
    | some ob => have := fz_some (ids := ids) (i := n) (x := objs n) (by rw [ho]; rfl); rw [show fz ids n (objs n) = none from hfree] at this; cases this
  refine loc_new (av := .cs false [.own n]) (ob := .row te.sh xs true) (f := fz ids) hfree' (fun _ => rfl) (fun i x hx => fz_some hx) (fun i hi x => fz_id (fun hc => hi (rowsOf_ids _ _ _ _ hr i hc)) x) (fun objs2 ha γ k2 => ?_)
  simp only [evBuildSlice, hti, hk, hte, hb, cond_true, rowsOf_congr _ _ ha, hr, frz_eq]

theorem evMakeSlice_loc {t : TypeId} {l c : AV} {n : Nat} {k : AV → Objs → Option β} (h : evMakeSlice T objs t l c n k = some y) : Loc (fun o _ k => evMakeSlice T o t l c n k) objs [] := by
  unfold evMakeSlice at h
  split at h <;> try (cases h; done)
  rename_i ti k1 a k2 b hti
  split at h <;> try (cases h; done)
  rename_i e hk
  split at h <;> try (cases h; done)
  rename_i te hte
  split at h <;> try (cases h; done)
  rename_i z hz
  obtain ⟨hb, h⟩ := cond_some h
  split at h <;> try (cases h; done)
  rename_i hrest
  obtain ⟨hfree, _⟩ := newOb_some h
  refine loc_new (av := .cs false [.own n]) (ob := .row te.sh (List.replicate a.toNat z.val) true) (f := fun _ x => x) hfree (fun _ => rfl) (fun i x hx => hx) (fun i hi x => rfl) (fun objs2 ha γ k2 => ?_)
  simp only [evMakeSlice, hti, hk, hte, hz, hb, cond_true, hrest]

theorem elCells_ids : ∀ (s : Sh) (x : El s), cellsIds (elCells s x) = []
  | .int _, _ => rfl
  | .bool, _ => rfl
  | .str, _ => rfl
  | .sl _, _ => rfl
  | .own _, _ => rfl
  | .pair a b, x => by simp only [elCells, cellsIds_append, elCells_ids a x.1, elCells_ids b x.2, List.append_nil]
  | .unit, _ => rfl

theorem cellsIds_take {i : Nat} : ∀ (l : List Cell) (n : Nat), i ∈ cellsIds (l.take n) → i ∈ cellsIds l := fun l n h => by
  rw [← List.take_append_drop n l, cellsIds_append]; exact List.mem_append.2 (.inl h)
theorem cellsIds_drop {i : Nat} : ∀ (l : List Cell) (n : Nat), i ∈ cellsIds (l.drop n) → i ∈ cellsIds l := fun l n h => by
  rw [← List.take_append_drop n l, cellsIds_append]; exact List.mem_append.2 (.inr h)

theorem replaceAt_ids {i : Nat} {l m : List Cell} {off : Nat} (h : i ∈ cellsIds (replaceAt l off m)) : i ∈ cellsIds l ∨ i ∈ cellsIds m := by
  simp only [replaceAt, cellsIds_append, List.mem_append] at h
  rcases h with (h | h) | h
  · exact .inl (cellsIds_take _ _ h)
  · exact .inr h
  · exact .inl (cellsIds_drop _ _ h)

theorem evStore_loc {t : TypeId} {a x : AV} {k : Objs → Option β} (h : evStore T objs t a x k = some y) : Loc (fun o _ k => evStore T o t a x (k .undef)) objs (a.ids ++ x.ids) := by
  unfold evStore at h
  split at h <;> try (cases h; done)
  rename_i ti ag l hti
  obtain ⟨hb0, h⟩ := cond_some h
  split at h
  · rename_i id off _
    split at h <;> try (cases h; done)
    rename_i nm cs ho
    obtain ⟨hb, h⟩ := cond_some h
    have hid : id ∈ (AV.cs false [Cell.ptr id off]).ids ++ (AV.cs ag l).ids := by simp [AV.ids, cellsIds, Cell.ids]
    refine loc_put (av := .undef) (f := fun i x => cond (Nat.beq i id) (some (.var nm (replaceAt cs off l))) x) (fun i x hx => ?_) (fun i hi x => ?_) (fun objs2 ha γ k2 => ?_)
    · cases Nat.beq i id with
      | true => rfl
      | false => exact hx
    · rw [beq_false (fun e => hi (by rw [e]; exact hid)), cond_false]
    · have := ha id hid
      simp only [evStore, hti, hb0, cond_true, this, ho, hb]
      rfl
  · rename_i id i off _
    split at h <;> try (cases h; done)
    rename_i e xs ho
    obtain ⟨hb, h⟩ := cond_some h
    obtain ⟨z, hz, h⟩ := opt_bind_some h
    split at h <;> try (cases h; done)
    rename_i u hu
    split at h <;> try (cases h; done)
    rename_i hrest hown
    cases hc : u.lent.contains id with
    | true => rw [hc] at h; cases h
    | false =>
      have hid : id ∈ (AV.cs false [Cell.eptr id i off]).ids ++ (AV.cs ag l).ids := by simp [AV.ids, cellsIds, Cell.ids]
      have hsub : ∀ j ∈ cellsIds (replaceAt (elCells e z) off l), j ∈ (AV.cs false [Cell.eptr id i off]).ids ++ (AV.cs ag l).ids := fun j hj => by
        rcases replaceAt_ids hj with h | h
        · rw [elCells_ids] at h; cases h
        · exact List.mem_append.2 (.inr h)
      refine loc_put (av := .undef) (f := fun j x => cond (Nat.beq j id) (some (.row e (xs.set i u.val) true)) (fz u.lent j x)) (fun j x hx => ?_) (fun j hj x => ?_) (fun objs2 ha γ k2 => ?_)
      · cases Nat.beq j id with
        | true => rfl
        | false => exact fz_some hx
      · rw [beq_false (fun e => hj (by rw [e]; exact hid)), cond_false]
        exact fz_id (fun hl => hj (hsub j ((takeEl_facts e _ u hu).2.1 j hl))) x
      · have := ha id hid
        simp only [evStore, hti, hb0, cond_true, this, ho, hb, hz, Option.bind_some, takeEl_congr e _ (fun j hj => ha j (hsub j hj)), hu, hrest, hown, hc, cond_false, frz_eq]
        rfl
  · cases h

theorem headOf_congr {o2 : Objs} {e : Sh} {c : Cell} (h : ∀ id ∈ c.ids, o2 id = objs id) : headOf o2 e c = headOf objs e c := by
  cases c with
  | own id => simp only [headOf, h id (by simp [Cell.ids])]
  | sub id off len => simp only [headOf, h id (by simp [Cell.ids])]
  | _ => rfl

theorem headOf_id {e : Sh} {c : Cell} {xs : List (El e)} {j : Nat} (h : headOf objs e c = some (xs, some j)) : j ∈ c.ids ∧ (objs j).isSome = true := by
  cases c with
  | own id =>
    simp only [headOf] at h
    split at h <;> try (cases h; done)
    rename_i ho
    split at h <;> cases h
    exact ⟨by simp [Cell.ids], by rw [ho]; rfl⟩
  | sub id off len =>
    simp only [headOf] at h
    split at h <;> try (cases h; done)
    rename_i ho
    split at h <;> cases h
    exact ⟨by simp [Cell.ids], by rw [ho]; rfl⟩
  | nils => simp only [headOf] at h; cases h
  | _ => simp only [headOf] at h; cases h

theorem evAppend_loc {t : TypeId} {x z : AV} {n : Nat} {k : AV → Objs → Option β} (h : evAppend T objs t x z n k = some y) : Loc (fun o _ k => evAppend T o t x z n k) objs (x.ids ++ z.ids) := by
  unfold evAppend at h
  split at h <;> try (cases h; done)
  rename_i ti c d hti
  split at h <;> try (cases h; done)
  rename_i e hk
  split at h <;> try (cases h; done)
  rename_i te hte
  obtain ⟨hb, h⟩ := cond_some h
  split at h <;> try (cases h; done)
  rename_i xs i ys ids hh hr
  obtain ⟨hb2, h⟩ := cond_some h
  have hc : ∀ {o2 : Objs}, (∀ id ∈ (AV.cs false [c]).ids ++ (AV.cs false [d]).ids, o2 id = objs id) → headOf o2 te.sh c = some (xs, i) ∧ readSl o2 te.sh d = some (ys, ids) := fun ha => by
    constructor
    · rw [headOf_congr (fun id hi => ha id (List.mem_append.2 (.inl (by simpa [AV.ids, cellsIds] using hi))))]; exact hh
    · rw [readSl_congr (fun id hi => ha id (List.mem_append.2 (.inr (by simpa [AV.ids, cellsIds] using hi))))]; exact hr
  cases i with
  | none =>
    simp only at h
    obtain ⟨hfree, _⟩ := newOb_some h
    refine loc_new (av := .cs false [.own n]) (ob := .row te.sh (xs ++ ys) true) (f := fun _ x => x) hfree (fun _ => rfl) (fun i x hx => hx) (fun i hi x => rfl) (fun objs2 ha γ k2 => ?_)
    simp only [evAppend, hti, hk, hte, hb, cond_true, hc ha, hb2]
  | some j =>
    simp only at h
    obtain ⟨hfree, _⟩ := newOb_some h
    have hj := headOf_id hh
    have hjt : j ∈ (AV.cs false [c]).ids ++ (AV.cs false [d]).ids := List.mem_append.2 (.inl (by simpa [AV.ids, cellsIds] using hj.1))
    have hne : n ≠ j := fun e => by subst e; simp [putOb] at hfree
    have hfree' : objs n = none := by simpa [putOb, beq_false hne] using hfree
    refine loc_new (av := .cs false [.own n]) (ob := .row te.sh (xs ++ ys) true) (f := fun i x => match x with | none => none | some o => cond (Nat.beq i j) (some .dead) (some o)) hfree' (fun _ => rfl) (fun i x hx => ?_) (fun i hi x => ?_) (fun objs2 ha γ k2 => ?_)
    · cases x with
      | none => cases hx
      | some o => cases Nat.beq i j <;> rfl
    · cases x with
      | none => rfl
      | some o =>
        have hij : i ≠ j := fun e => hi (by rw [e]; exact hjt)
        simp only [beq_false hij, cond_false]
    · have e1 : (fun i => (match objs2 i with | none => none | some o => cond (Nat.beq i j) (some Ob.dead) (some o) : Option Ob)) = putOb objs2 j .dead := by
        funext i
        simp only [putOb]
        cases hb : Nat.beq i j with
        | true =>
          have := Nat.eq_of_beq_eq_true hb
          subst this
          have h2 := hj.2
          rw [← ha i hjt] at h2
          cases ho : objs2 i with
          | none => rw [ho] at h2; cases h2
          | some o => rfl
        | false => cases objs2 i <;> rfl
      simp only [evAppend, hti, hk, hte, hb, cond_true, hc ha, hb2]
      rw [← e1]

end eff
end Go.Fw

namespace Go.Fw
open Go

section call
variable {P : Program} {β : Type} {y : β} {T : Tys} {objs : Objs} {env : List (Ent P)} {slots : Nat → AV}

theorem enumT_tag {t : Bool} : ∀ (l : List Ob) (n : Nat) z, z ∈ enumT t n l → z.1 = t
  | [], _, z, h => by cases h
  | o :: l, n, z, h => by
    simp only [enumT] at h
    cases h with
    | head => rfl
    | tail _ h => exact enumT_tag l (n + 1) z h

theorem zipT_mem : ∀ (l : List Nat) (m : List Ob) z, z ∈ zipT l m → z.2.1 ∈ l
  | [], _, z, h => by cases h
  | _ :: _, [], z, h => by cases h
  | i :: l, o :: m, z, h => by
    simp only [zipT] at h
    cases h with
    | head => exact .head _
    | tail _ h => exact .tail _ (zipT_mem l m z h)

theorem postT_ids : ∀ (ps : List PSh) (as : List AV) (y : ElL (posts ps)) (n : Nat) z, z ∈ postT objs ps as y n → z.1 = true → z.2.1 ∈ touchL objs (avsIds as)
  | [], _, _, _, z, h, _ => by simp only [postT] at h; cases h
  | .val ag s :: ps, a :: as, y, n, z, h, ht => 
    touchL_mono (fun i hi => by simp only [avsIds, List.mem_append]; exact .inr hi) _ (postT_ids ps as y n z h ht)
  | .ptr s :: ps, a :: as, y, n, z, h, ht => by
    simp only [postT] at h
    split at h
    · rename_i id hid
      have := AV.ptrId_eq hid
      subst this
      cases h with
      | head => exact touchL_self (by simp [avsIds, AV.ids, cellsIds, Cell.ids])
      | tail _ h =>
        rcases List.mem_append.1 h with h | h
        · rw [enumT_tag _ _ _ h] at ht; cases ht
        · exact touchL_mono (fun i hi => by simp only [avsIds, List.mem_append]; exact .inr hi) _ (postT_ids ps as y.2 _ z h ht)
    · cases h
  | .brw e :: ps, a :: as, y, n, z, h, ht => by
    simp only [postT] at h
    split at h
    · rename_i id hid
      have := AV.ownId_eq hid
      subst this
      cases h with
      | head => exact touchL_self (by simp [avsIds, AV.ids, cellsIds, Cell.ids])
      | tail _ h => exact touchL_mono (fun i hi => by simp only [avsIds, List.mem_append]; exact .inr hi) _ (postT_ids ps as y.2 _ z h ht)
    · cases h
  | .net hd ns :: ps, a :: as, y, n, z, h, ht => by
    simp only [postT] at h
    split at h
    · rename_i c hc
      have := AV.one_eq hc
      subst this
      split at h
      · rename_i ids hids
        rcases List.mem_append.1 h with h | h
        · have h1 := reach_add (n := 5) 1 (findIds_reach hids _ (zipT_mem _ _ _ h))
          exact touchL_mono (fun i hi => by simp only [avsIds, AV.ids, cellsIds, List.mem_append]; exact .inl (.inl hi)) _ h1
        · rcases List.mem_append.1 h with h | h
          · rw [enumT_tag _ _ _ h] at ht; cases ht
          · exact touchL_mono (fun i hi => by simp only [avsIds, List.mem_append]; exact .inr hi) _ (postT_ids ps as y.2 _ z h ht)
      · cases h
    · cases h
  | .also k :: ps, a :: as, y, n, z, h, ht =>
    touchL_mono (fun i hi => by simp only [avsIds, List.mem_append]; exact .inr hi) _ (postT_ids ps as y n z h ht)
  | .also _ :: ps, [], y, n, z, h, _ => by simp only [postT] at h; cases h
  | .val _ _ :: ps, [], y, n, z, h, _ => by simp only [postT] at h; cases h
  | .ptr _ :: ps, [], y, n, z, h, _ => by simp only [postT] at h; cases h
  | .brw _ :: ps, [], y, n, z, h, _ => by simp only [postT] at h; cases h
  | .net _ _ :: ps, [], y, n, z, h, _ => by simp only [postT] at h; cases h

theorem mintN_nmf {loc : Nat → Nat} {f g : Nat → Nd → Option Nat} : ∀ (ns : List Nd) (x : El (netSh ns)) (m i : Nat), (∀ j nd, i ≤ j → j < i + ns.length → f j nd = g j nd) → mintN loc f m i ns x = mintN loc g m i ns x
  | [], _, _, _, _ => rfl
  | n :: r, x, m, i, h => by
    simp only [mintN, h i n (by omega) (by simp only [List.length_cons]; omega), mintN_nmf r x.2 _ (i + 1) (fun j nd h1 h2 => h j nd (by omega) (by simp only [List.length_cons]; omega))]

theorem idsFrom_length {l : List (Nat × Nat)} : ∀ (n i : Nat) (ids : List Nat), idsFrom l i n = some ids → ids.length = n
  | 0, _, _, h => by simp only [idsFrom] at h; cases h; rfl
  | n + 1, i, ids, h => by
    simp only [idsFrom] at h
    split at h <;> cases h
    rename_i id r h1 h2
    simp [idsFrom_length n (i + 1) r h2]

theorem findIds_length {hd : Hd} {ns : List Nd} {c : Cell} {ids : List Nat} (h : findIds objs hd ns c = some ids) : ids.length = ns.length := by
  unfold findIds at h
  split at h <;> try (cases h; done)
  rename_i ids' hi
  obtain ⟨_, h⟩ := cond_some h
  cases h
  exact idsFrom_length _ _ _ hi

theorem postT_congr {o2 : Objs} : ∀ (ps : List PSh) (as : List AV) (y : ElL (posts ps)) (n : Nat), (∀ id ∈ touchL objs (avsIds as), o2 id = objs id) → postT o2 ps as y n = postT objs ps as y n
  | [], _, _, _, _ => by simp only [postT]
  | .val ag s :: ps, a :: as, y, n, h => by
    simp only [postT]
    exact postT_congr ps as y n (fun id hi => h id (touchL_mono (fun i hi => by simp only [avsIds, List.mem_append]; exact .inr hi) id hi))
  | .ptr s :: ps, a :: as, y, n, h => by
    simp only [postT]
    cases hc : a.ptrId with
    | none => rfl
    | some id =>
      have := AV.ptrId_eq hc
      subst this
      simp only [nmOf, h id (touchL_self (by simp [avsIds, AV.ids, cellsIds, Cell.ids]))]
      rw [postT_congr ps as y.2 _ (fun id hi => h id (touchL_mono (fun i hi => by simp only [avsIds, List.mem_append]; exact .inr hi) id hi))]
  | .brw e :: ps, a :: as, y, n, h => by
    simp only [postT]
    rw [postT_congr ps as y.2 n (fun id hi => h id (touchL_mono (fun i hi => by simp only [avsIds, List.mem_append]; exact .inr hi) id hi))]
  | .net hd ns :: ps, a :: as, y, n, h => by
    simp only [postT]
    cases hc : a.one with
    | none => rfl
    | some c =>
      have := AV.one_eq hc
      subst this
      have h6 : ∀ id ∈ reach objs 6 c.ids, o2 id = objs id := fun id hi => h id (touchL_mono (fun i hi => by simp only [avsIds, AV.ids, cellsIds, List.mem_append]; exact .inl (.inl hi)) id hi)
      simp only [findIds_congr h6]
      cases hf : findIds objs hd ns c with
      | none => rfl
      | some ids =>
        have hl := findIds_length hf
        have hnm : mintN (fun k => ids.getD k 0) (fun i _ => nmOf o2 (ids.getD i 0)) n 0 ns y.1 = mintN (fun k => ids.getD k 0) (fun i _ => nmOf objs (ids.getD i 0)) n 0 ns y.1 := by
          refine mintN_nmf ns y.1 n 0 (fun j nd _ hj => ?_)
          have hj' : j < ids.length := by omega
          have hm : ids.getD j 0 ∈ ids := by
            rw [List.getD_eq_getElem?_getD, List.getElem?_eq_getElem hj']
            exact List.getElem_mem hj'
          simp only [nmOf, h6 _ (reach_add (n := 5) 1 (findIds_reach hf _ hm))]
        simp only [hnm]
        rw [postT_congr ps as y.2 _ (fun id hi => h id (touchL_mono (fun i hi => by simp only [avsIds, List.mem_append]; exact .inr hi) id hi))]
  | .also k :: ps, a :: as, y, n, h => by
    simp only [postT]
    exact postT_congr ps as y n (fun id hi => h id (touchL_mono (fun i hi => by simp only [avsIds, List.mem_append]; exact .inr hi) id hi))
  | .also _ :: ps, [], y, n, _ => by simp only [postT]
  | .val _ _ :: ps, [], y, n, _ => by simp only [postT]
  | .ptr _ :: ps, [], y, n, _ => by simp only [postT]
  | .brw _ :: ps, [], y, n, _ => by simp only [postT]
  | .net _ _ :: ps, [], y, n, _ => by simp only [postT]

theorem lookupOb_none : ∀ {asg : List (Nat × Ob)} {i : Nat}, (∀ z ∈ asg, z.1 ≠ i) → lookupOb asg i = none
  | [], _, _ => rfl
  | (j, o) :: l, i, h => by
    have hne := h (j, o) (by simp)
    simp only [lookupOb, beq_false hne, cond_false]
    exact lookupOb_none (fun z hz => h z (by simp [hz]))

theorem lookupOb_isSome : ∀ {asg : List (Nat × Ob)} {i : Nat}, (∃ z ∈ asg, z.1 = i) → (lookupOb asg i).isSome = true
  | [], _, ⟨_, h, _⟩ => by cases h
  | (j, o) :: l, i, ⟨z, hz, he⟩ => by
    simp only [lookupOb]
    cases hb : Nat.beq j i with
    | true => rfl
    | false =>
      rw [cond_false]
      cases hz with
      | head => simp only at he; rw [he, Nat.beq_refl] at hb; cases hb
      | tail _ hz => exact lookupOb_isSome ⟨z, hz, he⟩

def asgG (asg : List (Nat × Ob)) (K : List Nat) (i : Nat) (x : Option Ob) : Option Ob := match lookupOb asg i with
  | some o => some o
  | none => (match x with
    | none => none
    | some o => cond (K.contains i) (some .dead) (some o))

theorem assign_eq (asg : List (Nat × Ob)) (K : List Nat) (objs : Objs) : assign asg K objs = fun i => asgG asg K i (objs i) := rfl

theorem evAfter_loc {sig : Sig} {as : List AV} {lent K : List Nat} {yy : ElL sig.res × ElL (posts sig.args)} {n : Nat} {t : List Nat} {k : AV → Objs → Option β} (has : ∀ i ∈ touchL objs (avsIds as), i ∈ t) (hl : ∀ i ∈ lent, i ∈ t) (hK : ∀ i ∈ K, i ∈ t)
    (h : evAfter sig objs as lent K yy n k = some y) : Loc (fun o _ k => evAfter sig o as lent K yy n k) objs t := by
  unfold evAfter at h
  simp only at h
  obtain ⟨hchk, h⟩ := cond_some h
  simp only [Bool.and_eq_true] at hchk
  obtain ⟨⟨hnores, hchk1⟩, hchk2⟩ := hchk
  have hchk := And.intro hchk1 hchk2
  clear hchk1 hchk2
  split at h <;> try (cases h; done)
  rename_i v hret
  generalize hb : (noSlL sig.res && noSlL (posts sig.args)) = b at h hchk
  have hobs1 : ∀ o : Objs, cond b o (frz lent o) = fun i => fz (cond b [] lent) i (o i) := fun o => by
    cases b with
    | true =>
      funext i
      rw [cond_true, cond_true, fz_id (by simp)]
    | false => rw [cond_false, cond_false, frz_eq]
  have hcl : ∀ i, i ∈ (cond b [] lent) → i ∈ t := fun i hi => by
    cases b with
    | true => cases hi
    | false => exact hl i hi
  rw [hobs1] at hchk h
  generalize hasg : enumT false n (mintL n sig.res yy.1).2 ++ postT objs sig.args as yy.2 (n + (mintL n sig.res yy.1).2.length) = asgT at h hchk
  have htag : ∀ z ∈ asgT, z.1 = true → z.2.1 ∈ t := fun z hz ht => by
    rw [← hasg] at hz
    rcases List.mem_append.1 hz with h | h
    · rw [enumT_tag _ _ _ h] at ht; cases ht
    · exact has _ (postT_ids _ _ _ _ z h ht)
  refine ⟨v, fun id x => asgG (asgT.map fun z => z.2) K id (fz (cond b [] lent) id x), fun id => ∃ z ∈ asgT, z.1 = false ∧ z.2.1 = id, ?_, ?_, ?_, ?_⟩
  · rintro id ⟨z, hz, hf, rfl⟩
    have h1 := List.all_eq_true.1 hchk.2 z hz
    rw [hf, Bool.false_or, Bool.and_eq_true] at h1
    have h2 := Option.isNone_iff_eq_none.1 h1.1
    constructor
    · cases ho : objs z.2.1 with
      | none => rfl
      | some ob =>
        have := fz_some (ids := cond b [] lent) (i := z.2.1) (x := objs z.2.1) (by rw [ho]; rfl)
        rw [show fz (cond b [] lent) z.2.1 (objs z.2.1) = none from h2] at this; cases this
    · have := lookupOb_isSome (asg := asgT.map fun z => z.2) (i := z.2.1) ⟨z.2, List.mem_map.2 ⟨z, hz, rfl⟩, rfl⟩
      show (asgG _ _ _ _).isSome = true
      unfold asgG
      split
      · rfl
      · rename_i hn; rw [hn] at this; cases this
  · intro id hid hm x
    have hnone : lookupOb (asgT.map fun z => z.2) id = none := lookupOb_none (fun z hz => by
      obtain ⟨z', hz', rfl⟩ := List.mem_map.1 hz
      intro e
      cases htg : z'.1 with
      | true => exact hid (e ▸ htag z' hz' htg)
      | false => exact hm ⟨z', hz', htg, e⟩)
    have hKc : K.contains id = false := by
      cases hc : K.contains id with
      | false => rfl
      | true => exact absurd (hK id (List.contains_iff_mem.1 hc)) hid
    show asgG _ _ _ _ = x
    rw [fz_id (fun hc => hid (hcl id hc))]
    unfold asgG
    rw [hnone]
    cases x with
    | none => rfl
    | some o => simp only [hKc, cond_false]
  · intro id x hx
    show (asgG _ _ _ _).isSome = true
    have := fz_some (ids := cond b [] lent) (i := id) hx
    unfold asgG
    split
    · rfl
    · cases hz : fz (cond b [] lent) id x with
      | none => rw [hz] at this; cases this
      | some o => cases K.contains id <;> rfl
  · intro objs2 ha hm γ k2
    have hchk2 : (noAlso sig.res && nodupN (asgT.map fun z => z.2.1) && asgT.all fun z => z.1 || (((fun i => fz (cond b [] lent) i (objs2 i)) z.2.1).isNone && noName z.2.2)) = true := by
      simp only [Bool.and_eq_true]
      refine ⟨⟨hnores, hchk.1⟩, List.all_eq_true.2 fun z hz => ?_⟩
      cases hf : z.1 with
      | true => rfl
      | false =>
        have h1 := List.all_eq_true.1 hchk.2 z hz
        rw [hf, Bool.false_or, Bool.and_eq_true] at h1
        rw [Bool.false_or, hm _ ⟨z, hz, hf, rfl⟩, h1.2]
        rfl
    have hasg2 : enumT false n (mintL n sig.res yy.1).2 ++ postT objs2 sig.args as yy.2 (n + (mintL n sig.res yy.1).2.length) = asgT := by
      rw [postT_congr _ _ _ _ (fun id hi => ha id (has id hi))]
      exact hasg
    unfold evAfter
    simp only [hb, hobs1, hasg2]
    rw [hchk2, cond_true, hret, assign_eq]

theorem val_objs (slots : Nat → AV) (o1 o2 : Objs) : AS.val ⟨slots, o1⟩ = AS.val ⟨slots, o2⟩ := by
  funext x; cases x <;> rfl

theorem callArgs_objs (slots : Nat → AV) (o1 o2 : Objs) (c : Call) (ids : List Nat) : callArgs ⟨slots, o1⟩ c ids = callArgs ⟨slots, o2⟩ c ids := by
  unfold callArgs; rw [val_objs slots o1 o2]

theorem avsIds_append : ∀ (a b : List AV), avsIds (a ++ b) = avsIds a ++ avsIds b
  | [], _ => rfl
  | x :: a, b => by simp [avsIds, avsIds_append a b]

theorem avsIds_ptrs : ∀ (ids : List Nat), avsIds (ids.map fun i => AV.cs false [.ptr i 0]) = ids
  | [] => rfl
  | i :: ids => by simp [avsIds, AV.ids, cellsIds, Cell.ids, avsIds_ptrs ids]

/-- what a call names -/
theorem callArgs_ids {c : Call} {f : Operand} (hcal : c.callee = .value f) {g : FuncId} {ids : List Nat} (hf : calleeOf (AS.val ⟨slots, objs⟩ f) = some (g, ids)) :
    ∀ i ∈ avsIds (callArgs ⟨slots, objs⟩ c ids), i ∈ avsIds (c.operands.toList.map (AS.val ⟨slots, objs⟩)) := by
  intro i hi
  unfold callArgs at hi
  rw [avsIds_append, avsIds_ptrs] at hi
  simp only [Call.operands, hcal, Array.toList_append, List.map_append, avsIds_append, List.mem_append]
  rcases List.mem_append.1 hi with h | h
  · exact .inr h
  · left
    unfold calleeOf at hf
    split at hf <;> cases hf
    · cases h
    · rename_i heq
      simp [avsIds, heq, AV.ids, cellsIds, Cell.ids, h]

theorem alsoOk_congr {o2 : Objs} {ow : List (Option Nat)} : ∀ (ps : List PSh) (as : List AV), (∀ id ∈ touchL objs (avsIds as), o2 id = objs id) → alsoOk o2 ow ps as = alsoOk objs ow ps as
  | [], _, _ => by simp only [alsoOk]
  | p :: ps, [], _ => by cases p <;> simp only [alsoOk]
  | p :: ps, a :: as, h => by
    have ih := alsoOk_congr (ow := ow) ps as (fun id hi => h id (touchL_mono (fun i hi => by simp only [avsIds, List.mem_append]; exact .inr hi) id hi))
    cases p with
    | also k =>
      simp only [alsoOk, ih]
      cases ha : a.ptrId with
      | none => rfl
      | some i =>
        have := AV.ptrId_eq ha
        subst this
        have h0 := h i (touchL_self (by simp [avsIds, AV.ids, cellsIds, Cell.ids]))
        cases ow[k]? with
        | none => rfl
        | some q =>
          cases q with
          | none => rfl
          | some j =>
            show (Nat.beq i j && isVar (o2 i) && _) = (Nat.beq i j && isVar (objs i) && _)
            rw [h0]
    | _ => simp only [alsoOk, ih]

theorem evCall_loc {c : Call} {n : Nat} {k : AV → Objs → Option β} (h : evCall env c ⟨slots, objs⟩ n k = some y) :
    Loc (fun o _ k => evCall env c ⟨slots, o⟩ n k) objs (touchL objs (avsIds (c.operands.toList.map (AS.val ⟨slots, objs⟩)))) := by
  unfold evCall at h
  split at h <;> try (cases h; done)
  rename_i f hcal
  split at h <;> try (cases h; done)
  rename_i g ids hf
  split at h <;> try (cases h; done)
  rename_i e hent
  split at h <;> try (cases h; done)
  rename_i pk hpk
  obtain ⟨hchk, h⟩ := cond_some h
  obtain ⟨yy, hF, h⟩ := opt_bind_some h
  have ft := packL_touch _ _ pk hpk
  refine Loc.mono (t := touchL objs (avsIds (callArgs ⟨slots, objs⟩ c ids))) ?_ (touchL_mono (callArgs_ids hcal hf))
  have hl := evAfter_loc (t := touchL objs (avsIds (callArgs ⟨slots, objs⟩ c ids))) (fun i hi => hi) ft.1 (fun i hi => ft.2 i (ownedIds_mem.1 hi)) h
  obtain ⟨av, g', m, h1, h2, h3, h4⟩ := hl
  refine ⟨av, g', m, h1, h2, h3, fun objs2 ha hm γ k2 => ?_⟩
  rw [← h4 objs2 ha hm γ k2]
  have hpk2 : packL objs2 e.sig.args (callArgs ⟨slots, objs⟩ c ids) = some pk := by
    rw [← hpk]
    exact packL_congr _ _ ha
  show evCall env c ⟨slots, objs2⟩ n k2 = evAfter e.sig objs2 (callArgs ⟨slots, objs⟩ c ids) pk.lent (ownedIds pk.owned) yy n k2
  unfold evCall
  rw [val_objs slots objs2 objs]
  have hchk2 : (alsoOk objs2 pk.owned e.sig.args (callArgs ⟨slots, objs⟩ c ids) && nodupN (ownedIds pk.owned) && pk.lent.all fun i => !((ownedIds pk.owned).contains i)) = true := by
    rw [alsoOk_congr _ _ ha]
    exact hchk
  simp only [callArgs_objs slots objs2 objs, hcal, hf, hent, hpk2, hchk2, cond_true, hF, Option.bind_some]

end call
end Go.Fw

namespace Go.Fw
open Go

/-- turns on no object -/
def pureOp (o : Oper) : Bool := match o.op with
  | .move _ => true
  | .assign _ => true
  | .pick _ _ _ => true
  | .build _ _ => true
  | .binOp _ _ _ _ _ => true
  | .unOp _ _ _ => true
  | .convert _ _ _ => true
  | .field _ _ _ => true
  | .index _ _ _ => true
  | .extract _ _ => true
  | .makeFunc _ _ _ => true
  | _ => false

def touchOp (σ : AS) (o : Oper) : List Nat := cond (pureOp o) [] (touchL σ.objs (avsIds (o.op.operands.toList.map σ.val)))

section loc
variable {P : Program} {β : Type} {y : β} {T : Tys} {objs : Objs} {env : List (Ent P)} {slots : Nat → AV}

theorem Loc.cong {E E' : Objs → (γ : Type) → (AV → Objs → Option γ) → Option γ} {t : List Nat} (h : Loc E' objs t) (he : ∀ ob γ k, E ob γ k = E' ob γ k) : Loc E objs t := by
  have : E = E' := by funext ob γ k; exact he ob γ k
  rw [this]; exact h

theorem avsIds_mem : ∀ {l : List AV} {a : AV} {i : Nat}, a ∈ l → i ∈ a.ids → i ∈ avsIds l
  | b :: l, a, i, h, hi => by
    simp only [avsIds, List.mem_append]
    cases h with
    | head => exact .inl hi
    | tail _ h => exact .inr (avsIds_mem h hi)

theorem touchOp_eq {σ : AS} {o : Oper} (hp : pureOp o = false) : touchOp σ o = touchL σ.objs (avsIds (o.op.operands.toList.map σ.val)) := by
  unfold touchOp; rw [hp, cond_false]

theorem touch_arg {σ : AS} {o : Oper} {x : Operand} (hx : x ∈ o.op.operands.toList) {i : Nat} (hi : i ∈ (σ.val x).ids) (hp : pureOp o = false) : i ∈ touchOp σ o := by
  rw [touchOp_eq hp]
  exact touchL_self (avsIds_mem (List.mem_map.2 ⟨x, hx, rfl⟩) hi)

theorem evVal_loc {o : Oper} {k : AV → Objs → Option β} (h : evVal T o ⟨slots, objs⟩ k = some y) : Loc (fun ob _ k => evVal T o ⟨slots, ob⟩ k) objs (touchOp ⟨slots, objs⟩ o) := by
  unfold evVal at h
  split at h
  · rename_i x hop
    exact (LocQ.loc (LocQ.const (a := AS.val ⟨slots, objs⟩ x))).cong (fun ob γ k => by simp only [evVal, hop, val_objs slots ob objs])
  · rename_i x hop
    exact (LocQ.loc (LocQ.const (a := AS.val ⟨slots, objs⟩ x))).cong (fun ob γ k => by simp only [evVal, hop, val_objs slots ob objs])
  · rename_i c x z hop
    exact (Loc.mono (LocQ.loc (evPick_q h)) (fun i hi => by cases hi)).cong (fun ob γ k => by simp only [evVal, hop, val_objs slots ob objs])
  · rename_i t hop
    split at h <;> try (cases h; done)
    rename_i ti hti
    obtain ⟨hfree, _⟩ := newOb_some h
    refine loc_new (av := .cs false [.ptr (nid o) 0]) (ob := .var none ti.zero) (f := fun _ x => x) hfree (fun _ => rfl) (fun i x hx => hx) (fun i hi x => rfl) (fun objs2 ha γ k2 => ?_)
    simp only [evVal, hop, hti]
  · rename_i t x hop
    split at h <;> try (cases h; done)
    rename_i ag l hx
    obtain ⟨hfree, _⟩ := newOb_some h
    refine loc_new (av := .cs false [.ptr (nid o) 0]) (ob := .var none l) (f := fun _ x => x) hfree (fun _ => rfl) (fun i x hx => hx) (fun i hi x => rfl) (fun objs2 ha γ k2 => ?_)
    simp only [evVal, hop, val_objs slots objs2 objs, hx]
  · rename_i t parts hop
    exact (Loc.mono (LocQ.loc (evBuild_q h)) (fun i hi => by cases hi)).cong (fun ob γ k => by simp only [evVal, hop, val_objs slots ob objs])
  · rename_i t len parts hop
    refine (Loc.mono (evBuildSlice_loc h) (fun i hi => ?_)).cong (fun ob γ k => by simp only [evVal, hop, val_objs slots ob objs])
    rw [touchOp_eq (by simp only [pureOp, hop])]
    refine touchL_self ?_
    rw [hop]
    simpa [partsIds, Op.operands, List.map_map, Function.comp_def] using hi
  · rename_i t x hop
    exact (Loc.mono (LocQ.loc (evLoad_q h)) (fun i hi => touch_arg (x := x) (by rw [hop]; simp [Op.operands]) hi (by simp only [pureOp, hop]))).cong (fun ob γ k => by simp only [evVal, hop, val_objs slots ob objs])
  · rename_i t x z hop
    refine (Loc.mono (evStore_loc h) (fun i hi => ?_)).cong (fun ob γ k => by simp only [evVal, hop, val_objs slots ob objs])
    rcases List.mem_append.1 hi with h | h
    · exact touch_arg (x := x) (by rw [hop]; simp [Op.operands]) h (by simp only [pureOp, hop])
    · exact touch_arg (x := z) (by rw [hop]; simp [Op.operands]) h (by simp only [pureOp, hop])
  · rename_i x hop
    have hq := evField_q h
    obtain ⟨av, hav⟩ := hq
    refine (Loc.mono (LocQ.loc (E := fun ob _ k => evField ob 0 (AS.val ⟨slots, objs⟩ x) (fun _ => k (AS.val ⟨slots, objs⟩ x))) (t := (AS.val ⟨slots, objs⟩ x).ids)
      ⟨AS.val ⟨slots, objs⟩ x, fun o2 ha γ k2 => hav o2 ha γ (fun _ => k2 (AS.val ⟨slots, objs⟩ x))⟩)
      (fun i hi => touch_arg (x := x) (by rw [hop]; simp [Op.operands]) hi (by simp only [pureOp, hop]))).cong (fun ob γ k => by simp only [evVal, hop, val_objs slots ob objs])
  · rename_i op t x z yt hop
    obtain ⟨c, hc⟩ := evBin_q h
    exact (Loc.mono (LocQ.loc (E := fun _ _ k => k (.cs false [c])) (t := []) LocQ.const) (fun i hi => by cases hi)).cong (fun ob γ k => by
      simp only [evVal, hop, val_objs slots ob objs, hc])
  · rename_i op t x hop
    obtain ⟨c, hc⟩ := evUn_q h
    exact (Loc.mono (LocQ.loc (E := fun _ _ k => k (.cs false [c])) (t := []) LocQ.const) (fun i hi => by cases hi)).cong (fun ob γ k => by
      simp only [evVal, hop, val_objs slots ob objs, hc])
  · rename_i s d x hop
    exact (Loc.mono (LocQ.loc (evConvert_q h)) (fun i hi => by cases hi)).cong (fun ob γ k => by simp only [evVal, hop, val_objs slots ob objs])
  · rename_i t l c hop
    exact (Loc.mono (evMakeSlice_loc h) (fun i hi => by cases hi)).cong (fun ob γ k => by simp only [evVal, hop, val_objs slots ob objs])
  · rename_i t x lo hi hop
    exact (Loc.mono (LocQ.loc (evSlice_q h)) (fun i hi => touch_arg (x := x) (by rw [hop]; simp [Op.operands]) hi (by simp only [pureOp, hop]))).cong (fun ob γ k => by simp only [evVal, hop, val_objs slots ob objs])
  · rename_i s x f hop
    exact (Loc.mono (LocQ.loc (evFieldAddr_q h)) (fun i hi => touch_arg (x := x) (by rw [hop]; simp [Op.operands]) hi (by simp only [pureOp, hop]))).cong (fun ob γ k => by simp only [evVal, hop, val_objs slots ob objs])
  · rename_i s x f hop
    exact (Loc.mono (LocQ.loc (evPart_q h)) (fun i hi => by cases hi)).cong (fun ob γ k => by simp only [evVal, hop, val_objs slots ob objs])
  · rename_i t x i hop
    exact (Loc.mono (LocQ.loc (evIndexAddr_q h)) (fun i hi => touch_arg (x := x) (by rw [hop]; simp [Op.operands]) hi (by simp only [pureOp, hop]))).cong (fun ob γ k => by simp only [evVal, hop, val_objs slots ob objs])
  · rename_i t x i hop
    exact (Loc.mono (LocQ.loc (evIndex_q h)) (fun i hi => by cases hi)).cong (fun ob γ k => by simp only [evVal, hop, val_objs slots ob objs])
  · rename_i f fi cs hop
    split at h <;> try (cases h; done)
    rename_i g ids hfi hids
    exact (Loc.mono (LocQ.loc (E := fun _ _ k => k (.cs false [.clo g ids])) (t := []) LocQ.const) (fun i hi => by cases hi)).cong (fun ob γ k => by
      simp only [evVal, hop, val_objs slots ob objs, hfi, hids])
  · rename_i x i hop
    split at h <;> try (cases h; done)
    rename_i l hx
    split at h <;> try (cases h; done)
    rename_i ag cs hl
    exact (Loc.mono (LocQ.loc (E := fun _ _ k => k (.cs ag cs)) (t := []) LocQ.const) (fun i hi => by cases hi)).cong (fun ob γ k => by
      simp only [evVal, hop, val_objs slots ob objs, hx, hl])
  · rename_i c hop
    split at h <;> try (cases h; done)
    · rename_i hcal
      split at h <;> try (cases h; done)
      rename_i x t hargs htys
      exact (Loc.mono (LocQ.loc (evLen_q h)) (fun i hi => touch_arg (x := x) (by rw [hop]; simp [Op.operands, Call.operands, hcal, hargs]) hi (by simp only [pureOp, hop]))).cong (fun ob γ k => by
        simp only [evVal, hop, hcal, hargs, htys, val_objs slots ob objs])
    · rename_i hcal
      split at h <;> try (cases h; done)
      rename_i x z t u hargs htys
      split at h <;> try (cases h; done)
      rename_i tu htu
      split at h <;> try (cases h; done)
      rename_i e2 hku
      refine (Loc.mono (evAppend_loc h) (fun i hi => ?_)).cong (fun ob γ k => by
        simp only [evVal, hop, hcal, hargs, htys, htu, hku, val_objs slots ob objs])
      rcases List.mem_append.1 hi with h | h
      · exact touch_arg (x := x) (by rw [hop]; simp [Op.operands, Call.operands, hcal, hargs]) h (by simp only [pureOp, hop])
      · exact touch_arg (x := z) (by rw [hop]; simp [Op.operands, Call.operands, hcal, hargs]) h (by simp only [pureOp, hop])
    · rename_i hcal
      split at h <;> try (cases h; done)
      rename_i x z hargs
      exact (Loc.mono (LocQ.loc (evMinMax_q h)) (fun i hi => by cases hi)).cong (fun ob γ k => by
        simp only [evVal, hop, hcal, hargs, val_objs slots ob objs])
    · rename_i hcal
      split at h <;> try (cases h; done)
      rename_i x z hargs
      exact (Loc.mono (LocQ.loc (evMinMax_q h)) (fun i hi => by cases hi)).cong (fun ob γ k => by
        simp only [evVal, hop, hcal, hargs, val_objs slots ob objs])
  · cases h

theorem evOper_loc {o : Oper} {k : AV → Objs → Option β} (h : evOper T env o ⟨slots, objs⟩ k = some y) : Loc (fun ob _ k => evOper T env o ⟨slots, ob⟩ k) objs (touchOp ⟨slots, objs⟩ o) := by
  unfold evOper at h
  split at h
  · rename_i c hop
    split at h
    · rename_i f hcal
      refine (Loc.mono (evCall_loc h) ?_).cong (fun ob γ k => by simp only [evOper, hop, hcal])
      rw [touchOp_eq (by simp only [pureOp, hop])]
      refine touchL_mono (fun i hi => ?_)
      rw [hop]
      exact hi
    · rename_i hno
      refine (evVal_loc h).cong (fun ob γ k => ?_)
      simp only [evOper, hop]
  · rename_i hno
    refine (evVal_loc h).cong (fun ob γ k => ?_)
    unfold evOper
    split
    · rename_i c hop; exact (hno c hop).elim
    · rfl

end loc
end Go.Fw

namespace Go.Fw
open Go

section vals
variable {P : Program} {β : Type} {T : Tys} {env : List (Ent P)}

theorem evVal_vals {o : Oper} {σ σ2 : AS} {k : AV → Objs → Option β} (hv : ∀ x ∈ o.op.operands.toList, σ2.val x = σ.val x) (ho : σ2.objs = σ.objs) : evVal T o σ2 k = evVal T o σ k := by
  have hm : ∀ ps : Array (Nat × Operand), (∀ x ∈ (ps.toList.map (·.2)), σ2.val x = σ.val x) → (ps.toList.map fun p => (p.1, σ2.val p.2)) = (ps.toList.map fun p => (p.1, σ.val p.2)) := fun ps hp =>
    List.map_congr_left fun p hpm => by rw [hp p.2 (List.mem_map.2 ⟨p, hpm, rfl⟩)]
  unfold evVal
  rw [ho]
  cases hop : o.op <;> rw [hop] at hv <;> simp only [Op.operands] at hv
  case move x => simp only [hv x (by simp)]
  case assign x => simp only [hv x (by simp)]
  case pick c a b => simp only [hv c (by simp), hv a (by simp), hv b (by simp)]
  case box t x => simp only [hv x (by simp)]
  case build t ps => simp only [hm ps (by simpa using hv)]
  case buildSlice t n ps => simp only [hm ps (by simpa using hv)]
  case load t a => simp only [hv a (by simp)]
  case store t a x => simp only [hv a (by simp), hv x (by simp)]
  case nilCheck x => simp only [hv x (by simp)]
  case binOp op t x y u => simp only [hv x (by simp), hv y (by simp)]
  case unOp op t x => simp only [hv x (by simp)]
  case convert s d x => simp only [hv x (by simp)]
  case makeSlice t l c => simp only [hv l (by simp), hv c (by simp)]
  case slice t x lo hi mx =>
    cases mx with
    | some m => rfl
    | none =>
      have hlo : lo.map σ2.val = lo.map σ.val := by
        cases lo with
        | none => rfl
        | some l => simp only [Option.map_some, hv l (by simp)]
      have hhi : hi.map σ2.val = hi.map σ.val := by
        cases hi with
        | none => rfl
        | some l => simp only [Option.map_some, hv l (by simp)]
      simp only [hv x (by simp), hlo, hhi]
  case fieldAddr s x f => simp only [hv x (by simp)]
  case field s x f => simp only [hv x (by simp)]
  case indexAddr t x i => simp only [hv x (by simp), hv i (by simp)]
  case index t x i => simp only [hv x (by simp), hv i (by simp)]
  case extract x i => simp only [hv x (by simp)]
  case makeFunc f fi cs =>
    have hc : cs.toList.map σ2.val = cs.toList.map σ.val := List.map_congr_left fun x hx => hv x (by simp [Array.mem_toList_iff.1 hx])
    simp only [hc]
  case call c =>
    have ha : ∀ x ∈ c.args.toList, σ2.val x = σ.val x := fun x hx => hv x (by simp only [Call.operands, Array.toList_append, List.mem_append]; exact .inr hx)
    cases hc : c.callee with
    | value f => simp only [hc]
    | invoke r m => simp only [hc]
    | builtin b =>
      cases hl : c.args.toList with
      | nil => cases b <;> simp only [hc, hl]
      | cons x l =>
        have hx := ha x (by simp [hl])
        cases l with
        | nil =>
          cases b <;> simp only [hc, hl] <;> (generalize c.argTypes.toList = ts; rcases ts with _ | ⟨t, _ | ⟨u, _ | ⟨v, r⟩⟩⟩ <;> first | rfl | simp only [hx] | skip)
        | cons z l =>
          have hz := ha z (by simp [hl])
          cases l with
          | nil =>
            cases b <;> simp only [hc, hl, hx, hz] <;> (generalize c.argTypes.toList = ts; rcases ts with _ | ⟨t, _ | ⟨u, _ | ⟨v, r⟩⟩⟩ <;> first | rfl | simp only [hx, hz] | skip)
          | cons u l => cases b <;> simp only [hc, hl]
  all_goals rfl

theorem evCall_vals {c : Call} {σ σ2 : AS} {n : Nat} {k : AV → Objs → Option β} (hv : ∀ x ∈ c.operands.toList, σ2.val x = σ.val x) (ho : σ2.objs = σ.objs) : evCall env c σ2 n k = evCall env c σ n k := by
  unfold evCall
  rw [ho]
  cases hc : c.callee with
  | value f =>
    have ha : ∀ x ∈ c.args.toList, σ2.val x = σ.val x := fun x hx => hv x (by simp only [Call.operands, Array.toList_append, List.mem_append]; exact .inr hx)
    have hf : σ2.val f = σ.val f := hv f (by simp [Call.operands, hc])
    simp only [hf, callArgs, List.map_congr_left ha]
  | invoke r m => simp only [hc]
  | builtin b => simp only [hc]

theorem evOper_vals {o : Oper} {σ σ2 : AS} {k : AV → Objs → Option β} (hv : ∀ x ∈ o.op.operands.toList, σ2.val x = σ.val x) (ho : σ2.objs = σ.objs) : evOper T env o σ2 k = evOper T env o σ k := by
  unfold evOper
  cases hop : o.op
  case call c =>
    have hv' : ∀ x ∈ c.operands.toList, σ2.val x = σ.val x := fun x hx => hv x (by rw [hop]; exact hx)
    simp only [evCall_vals hv' ho, evVal_vals hv ho]
  all_goals simp only [evVal_vals hv ho]

end vals
end Go.Fw

namespace Go.Fw
open Go

/-! ## operations in any order -/
structure Info where
  i : Nat
  o : Oper
  quiet : Bool
  tch : List Nat
  o0 : Objs
  o1 : Objs

def quietOp (o : Oper) : Bool := match o.op with
  | .move _ => true
  | .assign _ => true
  | .pick _ _ _ => true
  | .build _ _ => true
  | .load _ _ => true
  | .nilCheck _ => true
  | .binOp _ _ _ _ _ => true
  | .unOp _ _ _ => true
  | .convert _ _ _ => true
  | .slice _ _ _ _ none => true
  | .fieldAddr _ _ _ => true
  | .field _ _ _ => true
  | .indexAddr _ _ _ => true
  | .index _ _ _ => true
  | .extract _ _ => true
  | .call c => (match c.callee with
    | .builtin .len => true
    | .builtin .min => true
    | .builtin .max => true
    | _ => false)
  | _ => false

def effOk (e t : Info) : Bool := e.quiet || t.tch.all fun id => !(e.tch.contains id) && ((e.o0 id).isSome || (e.o1 id).isNone)

def okPair (ops : Array Oper) (M : List Nat) (p q : Info) : Bool := (M.getD q.i 0).testBit p.i || (Oper.apart ops p.o q.o && effOk p q && effOk q p)

section ev
variable {P : Program} {β : Type}

def evOpsD (T : Tys) (env : List (Ent P)) (N : List Nat × Nat) (ops : Array Oper) (M : List Nat) : List Oper → Nat → List Info → AS → (AS → Option β) → Option β
  | [], _, _, σ, k => k σ
  | o :: r, i, infos, σ, k => cond (dstOk N o.dst) (evGuard ops.toList o.guard σ
      (fun σ => evOper T env o σ fun v objs' => cond (infos.all fun p => okPair ops M p ⟨i, o, quietOp o, touchOp σ o, σ.objs, objs'⟩)
        (evOpsD T env N ops M r (i + 1) (⟨i, o, quietOp o, touchOp σ o, σ.objs, objs'⟩ :: infos) ⟨putDst σ.slots o.dst v, objs'⟩ k) none)
      (fun σ => cond (infos.all fun p => okPair ops M p ⟨i, o, true, [], σ.objs, σ.objs⟩)
        (evOpsD T env N ops M r (i + 1) (⟨i, o, true, [], σ.objs, σ.objs⟩ :: infos) ⟨putDst σ.slots o.dst (.tup []), σ.objs⟩ k) none)) none

/-- the operations ahead of each -/
def ancOf (acc : List Nat) : List Edge → Nat
  | [] => 0
  | e :: l => cond (Region.binds .any e) (Nat.lor (Nat.lor (Nat.shiftLeft 1 e.on) (acc.getD e.on 0)) (ancOf acc l)) (ancOf acc l)

def ancs : List Oper → List Nat → List Nat
  | [], acc => acc
  | o :: l, acc => ancs l (acc ++ [ancOf acc o.after.toList])

/-- each way ahead begins with an edge; edges lead back -/
def ancOk (ops : List Oper) (M : List Nat) : Bool :=
  (List.range ops.length).all fun i => match ops[i]? with
    | none => true
    | some o => (List.range ops.length).all (fun k => !((M.getD i 0).testBit k) || o.after.toList.any fun e => Region.binds .any e && (Nat.beq e.on k || (M.getD e.on 0).testBit k)) &&
        o.after.toList.all fun e => !(Region.binds .any e) || Nat.blt e.on i

def evDraw (T : Tys) (env : List (Ent P)) (N : List Nat × Nat) (ops : Array Oper) (σ : AS) (k : AS → Option β) : Option β :=
  cond (ancOk ops.toList (ancs ops.toList [])) (evOpsD T env N ops (ancs ops.toList []) ops.toList 0 [] σ k) none

end ev

section recs
variable {P : Program} {T : Tys} {env : List (Ent P)} {ops : Array Oper} {N : List Nat × Nat}

def Does (T : Tys) (env : List (Ent P)) (o : Oper) (σ : AS) (av : AV) (objs' : Objs) : Prop := ∀ (γ : Type) (k : AV → Objs → Option γ), evOper T env o σ k = k av objs'

def Gd (ops : Array Oper) (o : Oper) (slots : Nat → AV) (b : Bool) : Prop :=
  match o.guard with
  | none => b = true
  | some (j, want) => ∃ d, (ops[j]?).bind (·.dst) = some d ∧ ((∃ v, slots d = .cs false [.bool v] ∧ b = (v == want)) ∨ (slots d = .tup [] ∧ b = false))

structure Rec where
  i : Nat
  o : Oper
  slots0 : Nat → AV
  objs0 : Objs
  on : Bool
  av : AV
  objs1 : Objs

def Rec.tch (r : Rec) : List Nat := cond r.on (touchOp ⟨r.slots0, r.objs0⟩ r.o) []
def Rec.info (r : Rec) : Info := cond r.on ⟨r.i, r.o, quietOp r.o, touchOp ⟨r.slots0, r.objs0⟩ r.o, r.objs0, r.objs1⟩ ⟨r.i, r.o, true, [], r.objs0, r.objs1⟩
def Rec.W (r : Rec) (id : Nat) : Prop := r.objs1 id ≠ r.objs0 id
def Rec.Tc (r : Rec) (id : Nat) : Prop := id ∈ r.tch ∨ r.W id

open Classical in
noncomputable def Rec.patch (r : Rec) (objs : Objs) : Objs := fun id => if r.W id then r.objs1 id else objs id

structure RecOk (T : Tys) (env : List (Ent P)) (N : List Nat × Nat) (ops : Array Oper) (r : Rec) : Prop where
  dst : dstOk N r.o.dst = true
  gd : Gd ops r.o r.slots0 r.on
  off : r.on = false → r.av = .tup [] ∧ r.objs1 = r.objs0
  does : r.on = true → ∀ objs2 : Objs, (∀ id, r.Tc id → objs2 id = r.objs0 id) → Does T env r.o ⟨r.slots0, objs2⟩ r.av (r.patch objs2)
  quiet : r.on = true → quietOp r.o = true → r.objs1 = r.objs0
  keep : ∀ id, id ∉ r.tch → (r.objs0 id).isSome = true → r.objs1 id = r.objs0 id
  mono : ∀ id, (r.objs0 id).isSome = true → (r.objs1 id).isSome = true

def StepR (ops : Array Oper) (r : Rec) (σ σ' : AS) : Prop :=
  (∀ t ∈ r.o.looksAt ops, σ.slots t = r.slots0 t) ∧ (∀ id, r.Tc id → σ.objs id = r.objs0 id) ∧ σ' = ⟨putDst σ.slots r.o.dst r.av, r.patch σ.objs⟩

def CommR (ops : Array Oper) (r s : Rec) : Prop := Oper.apart ops r.o s.o = true ∧ (∀ id, r.W id → ¬ s.Tc id) ∧ (∀ id, r.Tc id → ¬ s.W id)

theorem putDst_ne {slots : Nat → AV} {d : Option Nat} {v : AV} {t : Nat} (h : d ≠ some t) : putDst slots d v t = slots t := by
  cases d with
  | none => rfl
  | some d =>
    have hne : t ≠ d := fun e => h (by rw [e])
    simp only [putDst, putSlot, beq_false hne, cond_false]

theorem putDst_comm {slots : Nat → AV} {d e : Option Nat} {u v : AV} (h : ∀ x, d = some x → e ≠ some x) : putDst (putDst slots d u) e v = putDst (putDst slots e v) d u := by
  cases d with
  | none => rfl
  | some d =>
    cases e with
    | none => rfl
    | some e =>
      have hne : d ≠ e := fun he => h d rfl (by rw [he])
      funext t
      simp only [putDst, putSlot]
      by_cases h1 : t = d
      · subst h1; simp [beq_false hne]
      · by_cases h2 : t = e
        · subst h2; simp [beq_false h1]
        · simp [beq_false h1, beq_false h2]

theorem swapR {r s : Rec} {σ σ1 σ2 : AS} (h1 : StepR ops r σ σ1) (h2 : StepR ops s σ1 σ2) (hc : CommR ops r s) : ∃ σ3, StepR ops s σ σ3 ∧ StepR ops r σ3 σ2 := by
  obtain ⟨hap, hw1, hw2⟩ := hc
  obtain ⟨a1, a2, a3⟩ := Oper.apart_spec hap
  obtain ⟨l1, o1, rfl⟩ := h1
  obtain ⟨l2, o2, rfl⟩ := h2
  refine ⟨_, ⟨fun t ht => ?_, fun id hid => ?_, rfl⟩, ⟨fun t ht => ?_, fun id hid => ?_, ?_⟩⟩
  · rw [← l2 t ht]
    exact (putDst_ne (fun e => a1 t e ht)).symm
  · rw [← o2 id hid]
    show _ = r.patch σ.objs id
    unfold Rec.patch
    rw [if_neg (fun hw => hw1 id hw hid)]
  · rw [← l1 t ht]
    exact putDst_ne (fun e => a3 t e ht)
  · rw [← o1 id hid]
    show s.patch σ.objs id = _
    unfold Rec.patch
    rw [if_neg (hw2 id hid)]
  · congr 1
    · exact putDst_comm a2
    · funext id
      show s.patch (r.patch σ.objs) id = r.patch (s.patch σ.objs) id
      unfold Rec.patch
      by_cases hr : r.W id
      · have hs : ¬ s.W id := fun h => hw1 id hr (.inr h)
        simp only [if_pos hr, if_neg hs]
      · by_cases hs : s.W id
        · simp only [if_neg hr, if_pos hs]
        · simp only [if_neg hr, if_neg hs]

def ChainR (ops : Array Oper) : List Rec → AS → AS → Prop
  | [], σ, σ' => σ = σ'
  | r :: l, σ, σ' => ∃ σ1, StepR ops r σ σ1 ∧ ChainR ops l σ1 σ'

theorem frontR {r : Rec} {post : List Rec} : ∀ (pre : List Rec) {σ σ' : AS}, ChainR ops (pre ++ r :: post) σ σ' → (∀ s ∈ pre, CommR ops s r) → ∃ σ1, StepR ops r σ σ1 ∧ ChainR ops (pre ++ post) σ1 σ'
  | [], _, _, h, _ => h
  | s :: pre, σ, σ', ⟨σ1, h1, h2⟩, hc => by
    obtain ⟨σ2, h3, h4⟩ := frontR pre h2 (fun s hs => hc s (by simp [hs]))
    obtain ⟨σ3, h5, h6⟩ := swapR h1 h3 (hc s (by simp))
    exact ⟨σ3, h5, σ2, h6, h4⟩

/-- how the run in the given order looks -/
def RunR (T : Tys) (env : List (Ent P)) (N : List Nat × Nat) (ops : Array Oper) : List Rec → Nat → AS → AS → Prop
  | [], _, σ, σ' => σ = σ'
  | r :: l, i, σ, σ' => r.i = i ∧ ops[i]? = some r.o ∧ RecOk T env N ops r ∧ r.slots0 = σ.slots ∧ r.objs0 = σ.objs ∧ RunR T env N ops l (i + 1) ⟨putDst σ.slots r.o.dst r.av, r.objs1⟩ σ'

theorem patch_self (r : Rec) : r.patch r.objs0 = r.objs1 := by
  funext id
  unfold Rec.patch
  by_cases h : r.W id
  · rw [if_pos h]
  · rw [if_neg h]; exact (Classical.not_not.1 h).symm

theorem RunR.chain : ∀ {l : List Rec} {i : Nat} {σ σ' : AS}, RunR T env N ops l i σ σ' → ChainR ops l σ σ'
  | [], _, _, _, h => h
  | r :: l, i, σ, σ', ⟨_, _, _, h1, h2, h3⟩ => by
    refine ⟨_, ⟨fun t _ => by rw [h1], fun id _ => by rw [h2], rfl⟩, ?_⟩
    have := RunR.chain h3
    rw [← h2, patch_self]
    exact this

theorem RunR.grows : ∀ {l : List Rec} {i : Nat} {σ σ' : AS}, RunR T env N ops l i σ σ' → ∀ s ∈ l, ∀ id, (σ.objs id).isSome = true → (s.objs0 id).isSome = true
  | [], _, _, _, _, s, hs, _, _ => by cases hs
  | r :: l, i, σ, σ', ⟨_, _, h0, h1, h2, h3⟩, s, hs, id, hid => by
    cases hs with
    | head => rw [h2]; exact hid
    | tail _ hs => exact RunR.grows h3 s hs id (h0.mono id (by rw [h2]; exact hid))

theorem info_quiet {r : Rec} (ho : RecOk T env N ops r) (h : r.info.quiet = true) : r.objs1 = r.objs0 := by
  unfold Rec.info at h
  cases hon : r.on with
  | true => rw [hon] at h; exact ho.quiet hon h
  | false => exact (ho.off hon).2

theorem info_fields (r : Rec) : r.info.i = r.i ∧ r.info.o = r.o ∧ r.info.tch = r.tch ∧ r.info.o0 = r.objs0 ∧ r.info.o1 = r.objs1 := by
  unfold Rec.info Rec.tch
  cases r.on <;> exact ⟨rfl, rfl, rfl, rfl, rfl⟩

theorem effOk_spec {e t : Rec} (he : RecOk T env N ops e) (h : effOk e.info t.info = true) : ∀ id, e.W id → id ∉ t.tch := by
  intro id hw hid
  obtain ⟨_, _, f3, f4, f5⟩ := info_fields e
  obtain ⟨_, _, g3, _, _⟩ := info_fields t
  unfold effOk at h
  rw [Bool.or_eq_true] at h
  rcases h with h | h
  · exact hw (by rw [info_quiet he h])
  · rw [g3] at h
    have := List.all_eq_true.1 h id hid
    rw [f3, f4, f5, Bool.and_eq_true, Bool.or_eq_true] at this
    obtain ⟨h1, h2⟩ := this
    rcases h2 with h2 | h2
    · refine hw (he.keep id (fun hc => ?_) h2)
      rw [List.contains_iff_mem.2 hc] at h1
      cases h1
    · have h0 : (e.objs0 id).isSome = true → False := fun h0 => by
        have := he.mono id h0
        rw [Option.isNone_iff_eq_none.1 h2] at this
        cases this
      refine hw ?_
      rw [Option.isNone_iff_eq_none.1 h2]
      cases ho : e.objs0 id with
      | none => rfl
      | some ob => exact (h0 (by rw [ho]; rfl)).elim

theorem commR_of {r s : Rec} {M : List Nat} (hr : RecOk T env N ops r) (hs : RecOk T env N ops s) (hgrow : ∀ id, (r.objs1 id).isSome = true → (s.objs0 id).isSome = true)
    (h : okPair ops M r.info s.info = true) (hno : (M.getD s.i 0).testBit r.i = false) : CommR ops r s := by
  obtain ⟨f1, f2, f3, f4, f5⟩ := info_fields r
  obtain ⟨g1, g2, g3, g4, g5⟩ := info_fields s
  unfold okPair at h
  rw [g1, f1, hno, Bool.false_or, f2, g2] at h
  simp only [Bool.and_eq_true] at h
  obtain ⟨⟨h1, h2⟩, h3⟩ := h
  have k1 := effOk_spec hr h2
  have k2 := effOk_spec hs h3
  have both : ∀ id, r.W id → s.W id → False := by
    intro id hw hw2
    have hnt := k1 id hw
    have hs0 : (s.objs0 id).isSome = true := by
      refine hgrow id ?_
      cases h0 : r.objs0 id with
      | some ob => exact hr.mono id (by rw [h0]; rfl)
      | none =>
        cases h1 : r.objs1 id with
        | some ob => rfl
        | none => exact (hw (by rw [h0, h1])).elim
    exact hw2 (hs.keep id hnt hs0)
  refine ⟨h1, fun id hw ht => ?_, fun id ht hw => ?_⟩
  · rcases ht with ht | ht
    · exact k1 id hw ht
    · exact both id hw ht
  · rcases ht with ht | ht
    · exact k2 id hw ht
    · exact both id ht hw

end recs
end Go.Fw

namespace Go.Fw
open Go

section quiet
variable {P : Program} {T : Tys} {env : List (Ent P)}

theorem evOper_quiet {o : Oper} {σ : AS} (hq : quietOp o = true) {γ : Type} (k : AV → Objs → Option γ) : evOper T env o σ k = evOper T env o σ (fun v _ => k v σ.objs) := by
  unfold quietOp at hq
  cases hop : o.op <;> rw [hop] at hq <;> simp only at hq <;> try (cases hq; done)
  case slice t x lo hi mx =>
    cases mx with
    | some m => cases hq
    | none => simp only [evOper, evVal, hop]
  case call c =>
    cases hc : c.callee with
    | value f => rw [hc] at hq; cases hq
    | invoke r m => rw [hc] at hq; cases hq
    | builtin b => cases b <;> rw [hc] at hq <;> first | (cases hq; done) | (simp only [evOper, evVal, hop, hc])
  all_goals simp only [evOper, evVal, hop]

theorem Does.quiet {o : Oper} {σ : AS} {av : AV} {objs' : Objs} (h : Does T env o σ av objs') (hq : quietOp o = true) : objs' = σ.objs := by
  classical
  have h1 := h Unit (fun _ ob => if ob = σ.objs then some () else none)
  have h2 := h Unit (fun v _ => (fun _ ob => if ob = σ.objs then some () else none) v σ.objs)
  rw [evOper_quiet hq, h2] at h1
  simp only [if_true] at h1
  by_cases he : objs' = σ.objs
  · exact he
  · rw [if_neg he] at h1; cases h1

end quiet

section run
variable {P : Program} {T : Tys} {env : List (Ent P)} {ops : Array Oper} {N : List Nat × Nat} {β : Type} {y : β} {M : List Nat}

theorem setB_self {σ : AS} {d : Nat} {b : Bool} (h : σ.slots d = .cs false [.bool b]) : Go.Fw.setB σ d b = σ := by
  unfold Go.Fw.setB
  congr 1
  funext t
  simp only [putSlot]
  by_cases e : t = d
  · subst e; rw [Nat.beq_refl, cond_true, h]
  · rw [beq_false e, cond_false]

theorem evGuard_gd {o : Oper} {σ : AS} {yes no : AS → Option β} (h : evGuard ops.toList o.guard σ yes no = some y) :
    (Gd ops o σ.slots true ∧ yes σ = some y) ∨ (Gd ops o σ.slots false ∧ no σ = some y) := by
  unfold evGuard at h
  unfold Gd
  split at h
  · rename_i hg
    simp only [hg]
    exact .inl ⟨trivial, h⟩
  · rename_i j want hg
    split at h <;> try (cases h; done)
    rename_i d hd
    split at h <;> try (cases h; done)
    · rename_i b hb
      rw [Array.getElem?_toList] at hd
      simp only [hg]
      cases b <;> cases want <;> simp only [cond_true, cond_false, setB_self hb] at h
      · exact .inl ⟨⟨d, hd, .inl ⟨false, hb, rfl⟩⟩, h⟩
      · exact .inr ⟨⟨d, hd, .inl ⟨false, hb, rfl⟩⟩, h⟩
      · exact .inr ⟨⟨d, hd, .inl ⟨true, hb, rfl⟩⟩, h⟩
      · exact .inl ⟨⟨d, hd, .inl ⟨true, hb, rfl⟩⟩, h⟩
    · rename_i hb
      rw [Array.getElem?_toList] at hd
      simp only [hg]
      exact .inr ⟨⟨d, hd, .inr ⟨hb, trivial⟩⟩, h⟩

theorem evOpsD_run : ∀ (l : List Oper) (i : Nat) (infos : List Info) (σ : AS) (k : AS → Option β), (∀ (j : Nat) o, l[j]? = some o → ops[i + j]? = some o) → evOpsD T env N ops M l i infos σ k = some y →
    ∃ recs σ', k σ' = some y ∧ RunR T env N ops recs i σ σ' ∧ recs.length = l.length ∧ (∀ p ∈ infos, ∀ s ∈ recs, okPair ops M p s.info = true) ∧ recs.Pairwise (fun r s => okPair ops M r.info s.info = true)
  | [], i, infos, σ, k, _, h => ⟨[], σ, h, rfl, rfl, (fun _ _ s hs => by cases hs), .nil⟩
  | o :: l, i, infos, σ, k, hl, h => by
    simp only [evOpsD] at h
    obtain ⟨hd, h⟩ := cond_some h
    have ho : ops[i]? = some o := by simpa using hl 0 o rfl
    have hl' : ∀ (j : Nat) o', l[j]? = some o' → ops[i + 1 + j]? = some o' := fun j o' hj => by
      have := hl (j + 1) o' (by simpa using hj)
      rw [← this]; congr 1; omega
    -- one record ahead of the rest
    have one : ∀ (r : Rec), r.i = i → r.o = o → RecOk T env N ops r → r.slots0 = σ.slots → r.objs0 = σ.objs → (infos.all fun p => okPair ops M p r.info) = true →
        evOpsD T env N ops M l (i + 1) (r.info :: infos) ⟨putDst σ.slots o.dst r.av, r.objs1⟩ k = some y →
        ∃ recs σ', k σ' = some y ∧ RunR T env N ops recs i σ σ' ∧ recs.length = l.length + 1 ∧ (∀ p ∈ infos, ∀ s ∈ recs, okPair ops M p s.info = true) ∧ recs.Pairwise (fun r s => okPair ops M r.info s.info = true) := by
      intro r hri hro hok hs0 ho0 hall hrest
      obtain ⟨recs, σ', h1, h2, h3, h4, h5⟩ := evOpsD_run l (i + 1) _ _ k hl' hrest
      refine ⟨r :: recs, σ', h1, ⟨hri, by rw [hro]; exact ho, hok, hs0, ho0, by rw [hro]; exact h2⟩, by simp [h3], ?_, ?_⟩
      · intro p hp s hs
        cases hs with
        | head => exact List.all_eq_true.1 hall p hp
        | tail _ hs => exact h4 p (by simp [hp]) s hs
      · exact List.Pairwise.cons (fun s hs => h4 r.info (by simp) s hs) h5
    rcases evGuard_gd h with ⟨hg, h⟩ | ⟨hg, h⟩
    · obtain ⟨av, g, m, h1, h2, h3, h4⟩ := evOper_loc (slots := σ.slots) (objs := σ.objs) h
      have hdoes := h4 σ.objs (fun _ _ => rfl) (fun id hm => (h1 id hm).1)
      have h := (hdoes β _).symm.trans h
      obtain ⟨hall, h⟩ := cond_some h
      have hW : ∀ id, m id → (fun id => g id (σ.objs id)) id ≠ σ.objs id := fun id hm => by
        obtain ⟨k1, k2⟩ := h1 id hm
        simp only [k1]
        intro e
        rw [e] at k2
        cases k2
      refine one ⟨i, o, σ.slots, σ.objs, true, av, fun id => g id (σ.objs id)⟩ rfl rfl ?_ rfl rfl hall h
      exact {
        dst := hd
        gd := hg
        off := fun h => by cases h
        does := fun _ objs2 ha => by
          intro γ k2
          have := h4 objs2 (fun id hi => ha id (.inl hi)) (fun id hm => by
            rw [ha id (.inr (hW id hm))]
            exact (h1 id hm).1) γ k2
          refine Eq.trans this ?_
          show k2 av _ = k2 av _
          congr 1
          funext id
          unfold Rec.patch
          by_cases hw : Rec.W ⟨i, o, σ.slots, σ.objs, true, av, fun id => g id (σ.objs id)⟩ id
          · rw [if_pos hw, ha id (.inr hw)]
          · rw [if_neg hw]
            by_cases ht : id ∈ touchOp ⟨σ.slots, σ.objs⟩ o
            · rw [ha id (.inl ht)]
              exact Classical.not_not.1 hw
            · exact h2 id ht (fun hm => hw (hW id hm)) _
        quiet := fun _ hq => Does.quiet (T := T) (env := env) (o := o) (σ := σ) hdoes hq
        keep := fun id hid (hs : (σ.objs id).isSome = true) => h2 id hid (fun hm => by rw [(h1 id hm).1] at hs; cases hs) _
        mono := fun id hs => h3 id _ hs }
    · obtain ⟨hall, h⟩ := cond_some h
      refine one ⟨i, o, σ.slots, σ.objs, false, .tup [], σ.objs⟩ rfl rfl ?_ rfl rfl hall h
      exact {
        dst := hd
        gd := hg
        off := fun _ => ⟨rfl, rfl⟩
        does := fun h => by cases h
        quiet := fun h => by cases h
        keep := fun _ _ _ => rfl
        mono := fun _ h => h }

end run

section any
variable {P : Program} {w0 : World} {U : Nat → Prop} {S : Own} {T : Tys} {env : List (Ent P)} {N : List Nat × Nat} {A : List Value} {ops : Array Oper} {Q : Exit → Act → World → Prop} {M : List Nat}

theorem step_ok (hT : TOk P T) {r : Rec} {σ σ1 : AS} {i : Nat} (hi : ops[i]? = some r.o) (hs : StepR ops r σ σ1) (hr : RecOk T env N ops r) {a : Act} {w : World} (R : RelN N A w0 U S σ a w)
    {K : Act → World → Prop} (hK : ∀ a' w', RelN N A w0 U S σ1 a' w' → K a' w') : wpOp P ops Q i K a w := by
  obtain ⟨hsl, hob, rfl⟩ := hs
  obtain ⟨hB, V, μ, R⟩ := R
  have hw : Region.wanted r.o (yielded ops a.tmps) = r.on := by
    have hg := hr.gd
    unfold Gd at hg
    unfold Region.wanted
    cases hgu : r.o.guard with
    | none => rw [hgu] at hg; exact hg.symm
    | some p =>
      obtain ⟨j, want⟩ := p
      rw [hgu] at hg
      obtain ⟨d, h1, hg⟩ := hg
      have hd : d ∈ r.o.looksAt ops := by
        unfold Oper.looksAt
        rw [hgu]
        simp only [h1, Option.toList_some, List.mem_append, List.mem_singleton]
        exact .inr trivial
      rcases hg with ⟨v, h2, h3⟩ | ⟨h2, h3⟩
      · have h4 : σ.slots d = .cs false [.bool v] := by rw [hsl d hd]; exact h2
        have hy : yielded ops a.tmps j = some v := by
          simp only [yielded, h1, Option.bind_some]
          rw [slot_bool R h4]
        simp only [hy, h3]
        cases v <;> cases want <;> rfl
      · have h4 : σ.slots d = .tup [] := by rw [hsl d hd]; exact h2
        simp only [yielded_skip R h1 h4, h3]
        rfl
  unfold wpOp
  simp only [hi]
  rw [hw]
  cases hon : r.on with
  | false =>
    simp only [Bool.false_eq_true, if_false]
    obtain ⟨h1, h2⟩ := hr.off hon
    refine hK _ _ ?_
    have hp : r.patch σ.objs = σ.objs := by
      funext id
      unfold Rec.patch
      rw [if_neg (fun hw => hw (by rw [h2]))]
    rw [h1, hp]
    exact RelN.put hB hr.dst R skipped
  | true =>
    simp only [if_true]
    left
    classical
    have hd := hr.does hon σ.objs hob
    have hv : ∀ x ∈ r.o.op.operands.toList, AS.val σ x = AS.val ⟨r.slots0, σ.objs⟩ x := by
      intro x hx
      cases x with
      | tmp t =>
        refine hsl t ?_
        unfold Oper.looksAt
        exact List.mem_append_left _ (List.mem_filterMap.2 ⟨.tmp t, hx, rfl⟩)
      | _ => rfl
    have he : evOper T env r.o ⟨σ.slots, σ.objs⟩ (fun v ob => if v = r.av ∧ ob = r.patch σ.objs then some () else none) = some () := by
      have := evOper_vals (T := T) (env := env) (k := fun v ob => if v = r.av ∧ ob = r.patch σ.objs then some () else none) hv rfl
      rw [show (⟨σ.slots, σ.objs⟩ : AS) = σ from rfl, this, hd]
      simp
    refine evOper_ok hT R he ?_
    intro av v w' objs' V' μ' R' hav hk
    split at hk
    · rename_i hc
      obtain ⟨rfl, rfl⟩ := hc
      exact hK _ _ (RelN.put hB hr.dst R' hav)
    · cases hk

theorem getD_in {listed : Array Bool} {k : Nat} (h : k < listed.size) (d e : Bool) : listed.getD k d = listed.getD k e := by
  simp [Array.getD, h]

structure Inv (ops : Array Oper) (M : List Nat) (listed : Array Bool) (rem : List Rec) : Prop where
  size : listed.size = ops.size
  un : ∀ r ∈ rem, listed.getD r.i true = false
  all : ∀ k, listed.getD k true = false → ∃ r ∈ rem, r.i = k
  at_ : ∀ r ∈ rem, ops[r.i]? = some r.o
  ord : rem.Pairwise (fun r s => r.i < s.i)
  pair : rem.Pairwise (fun r s => (M.getD s.i 0).testBit r.i = true ∨ CommR ops r s)
  clo : ∀ m k, listed.getD m false = true → k < ops.size → (M.getD m 0).testBit k = true → listed.getD k false = true

theorem ancOk_spec (h : ancOk ops.toList M = true) {i : Nat} {o : Oper} (ho : ops[i]? = some o) :
    (∀ k, k < ops.size → (M.getD i 0).testBit k = true → ∃ e ∈ o.after, Region.binds .any e = true ∧ (e.on = k ∨ (M.getD e.on 0).testBit k = true)) ∧
    (∀ e ∈ o.after, Region.binds .any e = true → e.on < i) := by
  have hlt := (Array.getElem?_eq_some_iff.1 ho).1
  have h1 := List.all_eq_true.1 h i (List.mem_range.2 (by simpa using hlt))
  rw [Array.getElem?_toList, ho] at h1
  simp only [Bool.and_eq_true] at h1
  refine ⟨fun k hk hb => ?_, fun e he hb => ?_⟩
  · have := List.all_eq_true.1 h1.1 k (List.mem_range.2 (by simpa using hk))
    rw [hb] at this
    simp only [Bool.not_true, Bool.false_or] at this
    obtain ⟨e, he, h2⟩ := List.any_eq_true.1 this
    simp only [Bool.and_eq_true, Bool.or_eq_true] at h2
    exact ⟨e, by simpa using he, h2.1, h2.2.imp Nat.eq_of_beq_eq_true id⟩
  · have := List.all_eq_true.1 h1.2 e (by simpa using he)
    rw [hb] at this
    simp only [Bool.not_true, Bool.false_or] at this
    exact Nat.le_of_ble_eq_true this

theorem any_ok (hT : TOk P T) (hM : ancOk ops.toList M = true) : ∀ (fuel : Nat) (listed : Array Bool) (rem : List Rec) (σ σ' : AS) (a : Act) (w : World), rem.length = fuel → Inv ops M listed rem → (∀ r ∈ rem, RecOk T env N ops r) →
    ChainR ops rem σ σ' → RelN N A w0 U S σ a w → (∀ a' w', RelN N A w0 U S σ' a' w' → Q .normal a' w') → wpAny P .any ops Q fuel listed a w
  | 0, listed, rem, σ, σ', a, w, hlen, I, hok, hc, R, hQ => by
    have hnil := List.length_eq_zero_iff.1 hlen
    subst hnil
    refine ⟨?_, hQ a w (by rw [← show σ = σ' from hc]; exact R)⟩
    cases hr : Region.ready .any ops listed with
    | nil => rfl
    | cons i l =>
      have hi : i ∈ Region.ready .any ops listed := by rw [hr]; simp
      obtain ⟨r, hr', _⟩ := I.all i (mem_ready.1 hi).1
      cases hr'
  | fuel + 1, listed, rem, σ, σ', a, w, hlen, I, hok, hc, R, hQ => by
    refine ⟨fun hempty => ?_, fun i hi => ?_⟩
    · -- the first that is left is ready
      cases rem with
      | nil => cases hlen
      | cons r rest =>
        exfalso
        have ho := I.at_ r (by simp)
        have : r.i ∈ Region.ready .any ops listed := by
          rw [mem_ready]
          refine ⟨I.un r (by simp), r.o, ho, fun e he hb => ?_⟩
          have hlt := (ancOk_spec hM ho).2 e he hb
          have hsz : e.on < listed.size := by
            have := (Array.getElem?_eq_some_iff.1 ho).1
            rw [I.size]; omega
          cases hl : listed.getD e.on false with
          | true => rfl
          | false =>
            rw [getD_in hsz false true] at hl
            obtain ⟨s, hs, hsi⟩ := I.all e.on hl
            cases hs with
            | head => omega
            | tail _ hs =>
              have := (List.pairwise_cons.1 I.ord).1 s hs
              omega
        rw [hempty] at this
        cases this
    · obtain ⟨hun, o, ho, hafter⟩ := mem_ready.1 hi
      obtain ⟨r, hr, hri⟩ := I.all i hun
      have hro := I.at_ r hr
      rw [hri, ho] at hro
      simp only [Option.some.injEq] at hro
      obtain ⟨pre, post, hrem⟩ := List.append_of_mem hr
      have hisz : i < ops.size := (Array.getElem?_eq_some_iff.1 ho).1
      have hcomm : ∀ s ∈ pre, CommR ops s r := by
        intro s hs
        have hsrem : s ∈ rem := by rw [hrem]; simp [hs]
        have hp := I.pair
        rw [hrem, List.pairwise_append] at hp
        rcases hp.2.2 s hs r (by simp) with hb | hcm
        · exfalso
          have hsz : s.i < ops.size := (Array.getElem?_eq_some_iff.1 (I.at_ s hsrem)).1
          have hsun := I.un s hsrem
          rw [hri] at hb
          obtain ⟨e, he, heb, hk⟩ := (ancOk_spec hM ho).1 s.i hsz hb
          have hel := hafter e he heb
          have : listed.getD s.i false = true := by
            rcases hk with hk | hk
            · rw [← hk]; exact hel
            · exact I.clo e.on s.i hel hsz hk
          rw [getD_in (by rw [I.size]; exact hsz) false true, hsun] at this
          cases this
        · exact hcm
      rw [hrem] at hc
      obtain ⟨σ1, hst, hch⟩ := frontR pre hc hcomm
      refine step_ok hT (by rw [ho, hro]) hst (hok r hr) R ?_
      intro a' w' R'
      have hsub : ∀ s ∈ pre ++ post, s ∈ rem := fun s hs => by
        rw [hrem]
        rcases List.mem_append.1 hs with h | h
        · simp [h]
        · simp [h]
      have hsl : (pre ++ post).Sublist rem := by
        rw [hrem]
        exact List.Sublist.append (List.Sublist.refl _) (List.sublist_cons_self _ _)
      have hne : ∀ s ∈ pre ++ post, s.i ≠ i := by
        intro s hs he
        have hp := I.ord
        rw [hrem, List.pairwise_append, List.pairwise_cons] at hp
        rcases List.mem_append.1 hs with h | h
        · have := hp.2.2 s h r (by simp); omega
        · have := hp.2.1.1 s h; omega
      refine any_ok hT hM fuel (listed.setIfInBounds i true) (pre ++ post) σ1 σ' a' w' ?_ ?_ (fun s hs => hok s (hsub s hs)) hch R' hQ
      · rw [hrem] at hlen
        simp only [List.length_append, List.length_cons] at hlen ⊢
        omega
      · exact {
          size := by simpa using I.size
          un := fun s hs => by
            rw [getD_set_ne true (fun e => hne s hs e.symm)]
            exact I.un s (hsub s hs)
          all := fun k hk => by
            by_cases hik : i = k
            · subst hik
              have : (listed.setIfInBounds i true).getD i true = true := by
                have : i < listed.size := by rw [I.size]; exact hisz
                simp [Array.getD, this]
              rw [this] at hk
              cases hk
            · rw [getD_set_ne true hik] at hk
              obtain ⟨s, hs, hsi⟩ := I.all k hk
              refine ⟨s, ?_, hsi⟩
              rw [hrem] at hs
              rcases List.mem_append.1 hs with h | h
              · exact List.mem_append.2 (.inl h)
              · cases h with
                | head => exact (hik (by rw [← hri, hsi])).elim
                | tail _ h => exact List.mem_append.2 (.inr h)
          at_ := fun s hs => I.at_ s (hsub s hs)
          ord := I.ord.sublist hsl
          pair := I.pair.sublist hsl
          clo := fun m k hm hk hb => by
            by_cases him : i = m
            · subst him
              obtain ⟨e, he, heb, hke⟩ := (ancOk_spec hM ho).1 k hk hb
              have hel := hafter e he heb
              refine getD_set_true ?_
              rcases hke with h | h
              · rw [← h]; exact hel
              · exact I.clo e.on k hel hk h
            · rw [getD_set_ne false him] at hm
              exact getD_set_true (I.clo m k hm hk hb) }

theorem RunR.ge : ∀ {l : List Rec} {i : Nat} {σ σ' : AS}, RunR T env N ops l i σ σ' → ∀ s ∈ l, i ≤ s.i
  | [], _, _, _, _, s, hs => by cases hs
  | r :: l, i, σ, σ', ⟨hi, _, _, _, _, h⟩, s, hs => by
    cases hs with
    | head => omega
    | tail _ hs => have := RunR.ge h s hs; omega

theorem RunR.facts : ∀ {l : List Rec} {i : Nat} {σ σ' : AS}, RunR T env N ops l i σ σ' → (∀ s ∈ l, ops[s.i]? = some s.o ∧ RecOk T env N ops s) ∧ (∀ k, i ≤ k → k < i + l.length → ∃ s ∈ l, s.i = k) ∧
    l.Pairwise (fun r s => r.i < s.i)
  | [], _, _, _, _ => ⟨(fun s hs => by cases hs), (fun k h1 h2 => by simp only [List.length_nil] at h2; omega), List.Pairwise.nil⟩
  | r :: l, i, σ, σ', ⟨hi, ho, hok, h1, h2, h⟩ => by
    obtain ⟨f1, f2, f3⟩ := RunR.facts h
    refine ⟨fun s hs => ?_, fun k hk hk2 => ?_, .cons (fun s hs => ?_) f3⟩
    · cases hs with
      | head => rw [hi]; exact ⟨ho, hok⟩
      | tail _ hs => exact f1 s hs
    · by_cases he : i = k
      · exact ⟨r, by simp, by omega⟩
      · obtain ⟨s, hs, hsi⟩ := f2 k (by omega) (by simp only [List.length_cons] at hk2; omega)
        exact ⟨s, by simp [hs], hsi⟩
    · have := RunR.ge h s hs
      omega

theorem RunR.pairs : ∀ {l : List Rec} {i : Nat} {σ σ' : AS}, RunR T env N ops l i σ σ' → l.Pairwise (fun r s => okPair ops M r.info s.info = true) →
    l.Pairwise (fun r s => (M.getD s.i 0).testBit r.i = true ∨ CommR ops r s)
  | [], _, _, _, _, _ => .nil
  | r :: l, i, σ, σ', h0, hp => by
    obtain ⟨hi, ho, hok, h1, h2, h⟩ := h0
    rw [List.pairwise_cons] at hp
    have f := (RunR.facts h).1
    refine .cons (fun s hs => ?_) (RunR.pairs h hp.2)
    cases hb : (M.getD s.i 0).testBit r.i with
    | true => exact .inl rfl
    | false =>
      right
      exact commR_of hok (f s hs).2 (fun id hid => RunR.grows h s hs id hid) (hp.1 s hs) hb

theorem RelM.drawn {σ : AS} {a : Act} {w : World} {V : Nat → Prop} {μ : Mu} (R : RelM w0 U S σ a w V μ) (n : Nat) : RelM w0 U S σ a { w with drawn := n } V μ := by
  have hk : Keeps V V w { w with drawn := n } μ μ σ.objs σ.objs := {
    same := fun _ _ hv ho => ⟨hv, ho⟩
    there := fun _ h => h
    row := fun _ _ xs wr _ h => ⟨⟨xs, wr, h, rfl⟩, rfl, fun _ _ vs ty fr _ hb => ⟨vs, ty, fr, hb, rfl⟩⟩
    var := fun _ cs _ _ h => ⟨⟨cs, h⟩, rfl⟩ }
  exact RelM.step (slots := σ.slots) (objs := σ.objs) R hk (fun id o ho => ObR.keeps hk (R.objs id o ho) rfl (fun b x _ _ => rfl)) R.inj (fun id o b x h1 h2 h3 => ⟨R.orig id o b x h1 h2 h3, R.inV id o b x h1 h2 h3⟩) (fun _ _ _ _ h => h)
    (fun b vs ty fr h => ⟨vs, ty, fr, h, rfl⟩) ⟨Nat.le_refl _, rfl, rfl⟩ R.vlt (fun b hb _ _ => hb) (fun id k cs h h2 => by rw [h] at h2; cases h2)

theorem evDraw_ok (hT : TOk P T) (hm : P.follows .mixedOrders = true) {β : Type} {y : β} {σ : AS} {k : AS → Option β} {a : Act} {w : World} {id : Nat} (h : evDraw T env N ops σ k = some y) (R : RelN N A w0 U S σ a w)
    (hk : ∀ σ' a' w', RelN N A w0 U S σ' a' w' → k σ' = some y → Q .normal a' w') : (Code.region id ops true).wp P Q a w := by
  unfold evDraw at h
  obtain ⟨hM, h⟩ := cond_some h
  obtain ⟨recs, σ', hy, hrun, hlen, _, hpw⟩ := evOpsD_run ops.toList 0 [] σ k (fun j o hj => by rw [Nat.zero_add, ← Array.getElem?_toList]; exact hj) h
  obtain ⟨f1, f2, f3⟩ := hrun.facts
  refine wp_region_any hm (any_ok hT hM ops.size _ recs σ σ' a _ (by rw [hlen]; simp) ?_ (fun r hr => (f1 r hr).2) hrun.chain ?_ (fun a' w' R' => hk σ' a' w' R' hy))
  · have hfalse : ∀ k, k < ops.size → ∀ d, (Array.replicate ops.size false).getD k d = false := fun k hk d => by simp [Array.getD, hk]
    exact {
      size := by simp
      un := fun r hr => hfalse _ (Array.getElem?_eq_some_iff.1 (f1 r hr).1).1 true
      all := fun k hk => by
        have hlt : k < ops.size := by
          rcases Nat.lt_or_ge k ops.size with h | h
          · exact h
          · have hn : ¬ k < ops.size := by omega
            simp [Array.getD, hn] at hk
        exact f2 k (Nat.zero_le _) (by rw [hlen]; simpa using hlt)
      at_ := fun r hr => (f1 r hr).1
      ord := f3
      pair := hrun.pairs hpw
      clo := fun m k hm' hk _ => by
        exfalso
        rcases Nat.lt_or_ge m ops.size with h | h
        · rw [hfalse m h] at hm'; cases hm'
        · have hn : ¬ m < ops.size := by omega
          simp [Array.getD, hn] at hm' }
  · obtain ⟨hB, V, μ, R⟩ := R
    exact ⟨hB, V, μ, R.drawn _⟩

end any
end Go.Fw

namespace Go.Fw
open Go

inductive Ex where
  | nrm
  | exit (id : Nat)
  | ret

def Ex.to : Ex → Exit
  | .nrm => .normal
  | .exit id => .exit id
  | .ret => .ret

/-- where the ways through a body are laid together -/
inductive Cert where
  | d
  | seq (a b : Cert)
  /-- the first part ends normally, or else leaves for good -/
  | join (sp : Spec) (a b : Cert)
  /-- the first part ends normally -/
  | bind (sp : Spec) (a b : Cert)
  | cond (a b : Cert)
  | block (a : Cert)
  | loop (sp : Spec) (a : Cert)

def Cert.fst : Cert → Cert
  | .seq a _ => a
  | .join _ a _ => a
  | .bind _ a _ => a
  | .cond a _ => a
  | .block a => a
  | .loop _ a => a
  | .d => .d

def Cert.snd : Cert → Cert
  | .seq _ b => b
  | .join _ _ b => b
  | .bind _ _ b => b
  | .cond _ b => b
  | _ => .d

def orElse {α β γ : Type} (f : α → Option β) : α ⊕ β → Option β := loopK f

section ev
variable {P : Program}

def atEnd {α β : Type} (K : Ex → AS → Option β) (pk : AS → Option α) : Ex → AS → Option (α ⊕ β)
  | .nrm, σ => Option.bind (pk σ) fun v => some (.inl v)
  | e, σ => Option.bind (K e σ) fun b => some (.inr b)

def onlyEnd {α : Type} (pk : AS → Option α) : Ex → AS → Option α
  | .nrm, σ => pk σ
  | _, _ => none

def thenK {β : Type} (f : AS → Option β) (K : Ex → AS → Option β) : Ex → AS → Option β
  | .nrm, σ => f σ
  | e, σ => K e σ

def blockK {β : Type} (id : Nat) (K : Ex → AS → Option β) : Ex → AS → Option β
  | .exit j, σ => cond (Nat.beq j id) (K .nrm σ) (K (.exit j) σ)
  | e, σ => K e σ

/-- what a body does -/
noncomputable def ev (T : Tys) (env : List (Ent P)) (N : List Nat × Nat) : Code → Cert → AS → (β : Type) → (Ex → AS → Option β) → Option β
  | .skip, _, σ, _, K => K .nrm σ
  | .region _ ops false, _, σ, _, K => evOps T env N ops.toList ops.toList σ (K .nrm)
  | .region _ ops true, _, σ, _, K => evDraw T env N ops σ (K .nrm)
  | .seq a b, ct, σ, β, K => (match ct with
    | .join sp ca cb => Option.bind (ev T env N a ca σ (ElL (specP sp) ⊕ β) (atEnd K fun σ' => packSt sp σ' some)) (loopK fun v => ev T env N b cb (unpackSt sp v) β K)
    | .bind sp ca cb => Option.bind (ev T env N a ca σ (ElL (specP sp)) (onlyEnd fun σ' => packSt sp σ' some)) (fun v => ev T env N b cb (unpackSt sp v) β K)
    | ct => ev T env N a ct.fst σ β (thenK (fun σ' => ev T env N b ct.snd σ' β K) K))
  | .cond c a b, ct, σ, β, K => (match σ.val c with
    | .cs false [.bool t] => cond t (ev T env N a ct.fst σ β K) (ev T env N b ct.snd σ β K)
    | _ => none)
  | .block id a, ct, σ, β, K => ev T env N a ct.fst σ β (blockK id K)
  | .loop a, ct, σ, β, K => (match ct with
    | .loop sp ca => packSt sp σ fun v0 => loopC (fun v => ev T env N a ca (unpackSt sp v) (ElL (specP sp) ⊕ β) (atEnd K fun σ' => packSt sp σ' some)) v0
    | _ => none)
  | .exit id, _, σ, _, K => K (.exit id) σ
  | .ret, _, σ, _, K => K .ret σ
  | _, _, _, _, _ => none

end ev

section ok
variable {P : Program} {w0 : World} {U : Nat → Prop} {S : Own} {T : Tys} {env : List (Ent P)} {N : List Nat × Nat} {A : List Value}

theorem atEnd_inl {α β : Type} {K : Ex → AS → Option β} {pk : AS → Option α} {σ : AS} {s : α ⊕ β} (h : atEnd K pk .nrm σ = some s) : ∃ v, pk σ = some v ∧ s = .inl v := by
  unfold atEnd at h
  obtain ⟨v, h1, h2⟩ := opt_bind_some h
  cases h2
  exact ⟨v, h1, rfl⟩

theorem atEnd_inr {α β : Type} {K : Ex → AS → Option β} {pk : AS → Option α} {σ : AS} {s : α ⊕ β} {e : Ex} (he : e ≠ .nrm) (h : atEnd K pk e σ = some s) : ∃ b, K e σ = some b ∧ s = .inr b := by
  cases e with
  | nrm => exact absurd rfl he
  | exit id =>
    obtain ⟨v, h1, h2⟩ := opt_bind_some (show Option.bind (K (.exit id) σ) _ = _ from h)
    cases h2
    exact ⟨v, h1, rfl⟩
  | ret =>
    obtain ⟨v, h1, h2⟩ := opt_bind_some (show Option.bind (K .ret σ) _ = _ from h)
    cases h2
    exact ⟨v, h1, rfl⟩

theorem RelN.pack {β : Type} {y : β} {sp : Spec} {σ : AS} {a : Act} {w : World} {k : ElL (specP sp) → Option β} (R : RelN N A w0 U S σ a w) (h : packSt sp σ k = some y) : ∃ v, k v = some y ∧ RelN N A w0 U S (unpackSt sp v) a w := by
  obtain ⟨hN, V, μ, R⟩ := R
  obtain ⟨v, h1, V', μ', R'⟩ := pack_ok (slots := σ.slots) (objs := σ.objs) R h
  exact ⟨v, h1, hN, V', μ', R'⟩

/-- each way out of a part meets what is asked of it -/
def KOk (w0 : World) (U : Nat → Prop) (S : Own) (N : List Nat × Nat) (A : List Value) {β : Type} (K : Ex → AS → Option β) (y : β) (Q : Exit → Act → World → Prop) : Prop :=
  ∀ e σ a w, RelN N A w0 U S σ a w → K e σ = some y → Q e.to a w

theorem wp_loopN {α β : Type} {f : α → Option (α ⊕ β)} {y : β} {I : α → Act → World → Prop} {c : Code} {Q : Exit → Act → World → Prop}
    (round : ∀ v s a w, I v a w → f v = some s → c.wp P (Exit.then (fun a' w' => ∃ v', s = .inl v' ∧ I v' a' w') (fun e a' w' => e ≠ .normal ∧ (s = .inr y → Q e a' w') ∧ ∃ b, s = .inr b)) a w) :
    ∀ (n : Nat) (v : α) (a : Act) (w : World), loopN f n v = some y → I v a w → ∀ (b : Frame) (k : List Item) (cs : List Frame),
      ∃ e a' w', Q e a' w' ∧ Arrives P (lone (b.at a (.code c :: .inLoop c :: k)) cs w) b k cs e a' w'
  | 0, v, a, w, h, _, b, k, cs => by cases h
  | n + 1, v, a, w, h, hI, b, k, cs => by
    simp only [loopN] at h
    obtain ⟨s, hs, h⟩ := opt_bind_some h
    obtain ⟨e, a1, w1, hq, harr⟩ := round v s a w hI hs b (.inLoop c :: k) cs
    have out : e ≠ .normal → (e ≠ .normal ∧ (s = .inr y → Q e a1 w1) ∧ ∃ b, s = .inr b) → ∃ e a' w', Q e a' w' ∧ Arrives P (lone (b.at a (.code c :: .inLoop c :: k)) cs w) b k cs e a' w' := by
      rintro hne ⟨_, hq, b', hb'⟩
      subst hb'
      simp only [loopK, Option.some.injEq] at h
      subst h
      exact ⟨e, a1, w1, hq rfl, .pass (x := .inLoop c) rfl (fun _ _ => .inl hne) harr⟩
    cases e with
    | normal =>
      obtain ⟨v', rfl, hI'⟩ := hq
      obtain ⟨e2, a2, w2, hq2, harr2⟩ := wp_loopN round n v' a1 w1 h hI' b k cs
      exact ⟨e2, a2, w2, hq2, .of_steps (Steps.trans harr (.one step_inLoop)) harr2⟩
    | exit id => exact out (by simp) hq
    | goto l => exact out (by simp) hq
    | ret => exact out (by simp) hq
    | panic ch => exact out (by simp) hq
    | outgrown => exact out (by simp) hq

theorem ev_ok (hT : TOk P T) (hm : P.follows .mixedOrders = true) : ∀ (c : Code) (ct : Cert) (σ : AS) (β : Type) (K : Ex → AS → Option β) (y : β) (a : Act) (w : World) (Q : Exit → Act → World → Prop),
    ev T env N c ct σ β K = some y → RelN N A w0 U S σ a w → KOk w0 U S N A K y Q → c.wp P Q a w
  | .skip, ct, σ, β, K, y, a, w, Q, h, R, hk => wp_skip (hk .nrm σ a w R (by simpa only [ev] using h))
  | .region id ops false, ct, σ, β, K, y, a, w, Q, h, R, hk => by
    simp only [ev] at h
    apply wp_region
    have := evOps_ok (Q := Q) hT ops.toList [] σ (K .nrm) a w rfl h R (fun σ' a' w' R' h' => hk .nrm σ' a' w' R' h')
    rw [List.range_eq_range']
    simpa using this
  | .region id ops true, ct, σ, β, K, y, a, w, Q, h, R, hk => by
    simp only [ev] at h
    exact evDraw_ok hT hm h R (fun σ' a' w' R' h' => hk .nrm σ' a' w' R' h')
  | .seq x z, ct, σ, β, K, y, a, w, Q, h, R, hk => by
    apply wp_seq
    have plain : ev T env N x ct.fst σ β (thenK (fun σ' => ev T env N z ct.snd σ' β K) K) = some y → x.wp P (Exit.then (z.wp P Q) Q) a w := by
      intro h
      refine ev_ok hT hm x _ σ β _ y a w _ h R ?_
      intro e σ' a' w' R' h'
      cases e with
      | nrm => exact ev_ok hT hm z _ σ' β K y a' w' Q h' R' hk
      | exit id => exact hk (.exit id) σ' a' w' R' h'
      | ret => exact hk .ret σ' a' w' R' h'
    simp only [ev] at h
    split at h
    · rename_i sp ca cb
      obtain ⟨s, h1, h2⟩ := opt_bind_some h
      refine ev_ok hT hm x ca σ _ _ s a w _ h1 R ?_
      intro e σ' a' w' R' h'
      by_cases he : e = .nrm
      · subst he
        obtain ⟨v, hv, rfl⟩ := atEnd_inl h'
        obtain ⟨v', e', R2⟩ := R'.pack hv
        cases e'
        exact ev_ok hT hm z cb _ β K y a' w' Q h2 R2 hk
      · obtain ⟨b, hb, rfl⟩ := atEnd_inr he h'
        simp only [loopK, Option.some.injEq] at h2
        subst h2
        have := hk e σ' a' w' R' hb
        cases e with
        | nrm => exact absurd rfl he
        | exit id => exact this
        | ret => exact this
    · rename_i sp ca cb
      obtain ⟨v, h1, h2⟩ := opt_bind_some h
      refine ev_ok hT hm x ca σ _ _ v a w _ h1 R ?_
      intro e σ' a' w' R' h'
      cases e with
      | nrm =>
        obtain ⟨v', e', R2⟩ := R'.pack (show packSt sp σ' some = some v from h')
        cases e'
        exact ev_ok hT hm z cb _ β K y a' w' Q h2 R2 hk
      | exit id => cases h'
      | ret => cases h'
    · exact plain h
  | .cond c x z, ct, σ, β, K, y, a, w, Q, h, R, hk => by
    simp only [ev] at h
    split at h <;> try (cases h; done)
    rename_i t ht
    have hc : a.eval c = .bool t := by
      obtain ⟨_, V, μ, R⟩ := R
      have := RelM.val (slots := σ.slots) (objs := σ.objs) R c
      rw [show AS.val ⟨σ.slots, σ.objs⟩ c = σ.val c from rfl, ht] at this
      exact this.one.2
    refine wp_cond hc ?_
    cases t with
    | true => exact ev_ok hT hm x _ σ β K y a w Q h R hk
    | false => exact ev_ok hT hm z _ σ β K y a w Q h R hk
  | .block id x, ct, σ, β, K, y, a, w, Q, h, R, hk => by
    simp only [ev] at h
    apply wp_block
    refine ev_ok hT hm x _ σ β _ y a w _ h R ?_
    intro e σ' a' w' R' h'
    cases e with
    | nrm => exact hk .nrm σ' a' w' R' h'
    | ret => exact hk .ret σ' a' w' R' h'
    | exit j =>
      simp only [blockK] at h'
      simp only [Ex.to, Exit.inBlock]
      cases hb : Nat.beq j id with
      | true =>
        rw [hb, cond_true] at h'
        rw [if_pos (Nat.eq_of_beq_eq_true hb)]
        exact hk .nrm σ' a' w' R' h'
      | false =>
        rw [hb, cond_false] at h'
        rw [if_neg (fun e => by subst e; rw [Nat.beq_refl] at hb; cases hb)]
        exact hk (.exit j) σ' a' w' R' h'
  | .loop x, ct, σ, β, K, y, a, w, Q, h, R, hk => by
    simp only [ev] at h
    split at h <;> try (cases h; done)
    rename_i sp ca
    obtain ⟨v0, h1, R0⟩ := R.pack h
    obtain ⟨n, hn⟩ := loopC_some h1
    intro b k cs
    have := wp_loopN (P := P) (c := x) (Q := Q) (I := fun v a w => RelN N A w0 U S (unpackSt sp v) a w) (y := y) (f := fun v => ev T env N x ca (unpackSt sp v) (ElL (specP sp) ⊕ β) (atEnd K fun σ' => packSt sp σ' some))
      (fun v s a w hI hs => by
        refine ev_ok hT hm x ca _ _ _ s a w _ hs hI ?_
        intro e σ' a' w' R' h'
        by_cases he : e = .nrm
        · subst he
          obtain ⟨v1, hv, rfl⟩ := atEnd_inl h'
          obtain ⟨v', e', R2⟩ := R'.pack hv
          cases e'
          exact ⟨_, rfl, R2⟩
        · obtain ⟨b, hb, rfl⟩ := atEnd_inr he h'
          have hq : Sum.inr (α := ElL (specP sp)) b = .inr y → Q e.to a' w' := fun e1 => by cases e1; exact hk e σ' a' w' R' hb
          cases e with
          | nrm => exact absurd rfl he
          | exit id => exact ⟨by simp [Ex.to], hq, b, rfl⟩
          | ret => exact ⟨by simp [Ex.to], hq, b, rfl⟩)
      n v0 a w hn R0 b k cs
    obtain ⟨e, a', w', hq, harr⟩ := this
    exact ⟨e, a', w', hq, .of_steps (.one step_loop) harr⟩
  | .exit id, ct, σ, β, K, y, a, w, Q, h, R, hk => wp_exit (hk (.exit id) σ a w R (by simpa only [ev] using h))
  | .ret, ct, σ, β, K, y, a, w, Q, h, R, hk => wp_ret (hk .ret σ a w R (by simpa only [ev] using h))
  | .rangeFunc _ _ _ _, ct, σ, β, K, y, a, w, Q, h, R, hk => by simp only [ev] at h; cases h
  | .scope _, ct, σ, β, K, y, a, w, Q, h, R, hk => by simp only [ev] at h; cases h
  | .label _, ct, σ, β, K, y, a, w, Q, h, R, hk => by simp only [ev] at h; cases h
  | .goto _, ct, σ, β, K, y, a, w, Q, h, R, hk => by simp only [ev] at h; cases h
  | .refuse _, ct, σ, β, K, y, a, w, Q, h, R, hk => by simp only [ev] at h; cases h

end ok
end Go.Fw

namespace Go.Fw
open Go

/-! ## a function as a whole -/
def nameOb (i : Nat) : Option Ob → Option Ob
  | some (.var _ cs) => some (.var (some i) cs)
  | o => o

def entry (ps : List PSh) (x : ElL ps) : AS := ⟨fun u => ((mintL 0 ps x).1[u]?).getD .undef, fun i => nameOb i (mintL 0 ps x).2[i]?⟩

def postAV : List PSh → Nat → (Nat → AV) → List AV
  | [], _, _ => []
  | .val _ _ :: ps, n, s => postAV ps (n + 1) s
  | .ptr _ :: ps, n, s => s n :: postAV ps (n + 1) s
  | .brw _ :: ps, n, s => s n :: postAV ps (n + 1) s
  | .net _ _ :: ps, n, s => s n :: postAV ps (n + 1) s
  | .also _ :: ps, n, s => postAV ps (n + 1) s

/-- the arguments that stay in their places -/
def pinsOf : List PSh → Nat → List Nat
  | [], _ => []
  | .val _ _ :: ps, n => pinsOf ps (n + 1)
  | .also _ :: ps, n => pinsOf ps (n + 1)
  | _ :: ps, n => n :: pinsOf ps (n + 1)

def evRets {β : Type} (T : Tys) (σ : AS) : List ResultVar → (List AV → Option β) → Option β
  | [], k => k []
  | .tmp t :: r, k => evRets T σ r fun l => k (σ.slots t :: l)
  | .cell a t :: r, k => evLoad T σ.objs t (σ.slots a) fun v => evRets T σ r fun l => k (v :: l)

def noBrw : List PSh → Bool
  | [] => true
  | .brw _ :: _ => false
  | _ :: ps => noBrw ps

/-- the variables bear the names that they were given when the function was entered -/
def nodesNamed (objs : Objs) : Nat → Nat → List (Option Nat) → Bool
  | _, 0, _ => true
  | n, k + 1, some id :: r => (match objs id with
    | some (.var (some m) _) => Nat.beq m n
    | _ => false) && nodesNamed objs (n + 1) k r
  | _, _ + 1, _ => false

def namesOk (objs : Objs) : List PSh → Nat → List (Option Nat) → Bool
  | [], _, _ => true
  | .val _ s :: ps, n, ow => namesOk objs ps (n + s.owns) ow
  | .ptr s :: ps, n, ow => namesOk objs ps (n + (s.owns + 1)) (ow.drop (s.owns + 1))
  | .brw _ :: ps, n, ow => namesOk objs ps (n + 1) (ow.drop 1)
  | .also _ :: ps, n, ow => namesOk objs ps n ow
  | .net _ ns :: ps, n, ow => nodesNamed objs n ns.length ow && namesOk objs ps (n + (ns.length + (netSh ns).owns)) (ow.drop (ns.length + (netSh ns).owns))

def evRet (T : Tys) (sig : Sig) (rs : List ResultVar) (σ : AS) : Option (ElL sig.res × ElL (posts sig.args)) :=
  evRets T σ rs fun avs => match packL σ.objs sig.res avs, packL σ.objs (posts sig.args) (postAV sig.args 0 σ.slots) with
    | some p1, some p2 => cond (namesOk σ.objs sig.args 0 p2.owned && nodupN (ownedIds (p1.owned ++ p2.owned)) && (p1.lent ++ p2.lent).all fun i => !((ownedIds (p1.owned ++ p2.owned)).contains i)) (some (p1.val, p2.val)) none
    | _, _ => none

def retK (T : Tys) (sig : Sig) (rs : List ResultVar) : Ex → AS → Option (ElL sig.res × ElL (posts sig.args))
  | .exit _, _ => none
  | _, σ => evRet T sig rs σ

noncomputable def evFun {P : Program} (T : Tys) (env : List (Ent P)) (sig : Sig) (N : Nat) (rs : List ResultVar) (c : Code) (ct : Cert) (x : ElL sig.args) : Option (ElL sig.res × ElL (posts sig.args)) :=
  ev T env (pinsOf sig.args 0, N) c ct (entry sig.args x) (ElL sig.res × ElL (posts sig.args)) (retK T sig rs)

section fn
variable {P : Program} {w0 : World} {U : Nat → Prop} {S : Own} {a : Act} {w : World} {V : Nat → Prop} {μ : Mu} {objs : Objs} {β : Type} {y : β} {N : List Nat × Nat} {A : List Value} {T : Tys} {env : List (Ent P)}

theorem HoldsL.length : ∀ {ps : List PSh} {x : ElL ps} {vs : List Value} {pl : Places}, HoldsL w V ps x vs pl → vs.length = ps.length
  | [], _, _, _, ⟨h, _⟩ => by subst h; rfl
  | _ :: _, _, _, _, ⟨_, _, _, _, h, _, _, h2⟩ => by subst h; simp [HoldsL.length h2]

theorem AVsR.get : ∀ {as : List AV} {vs : List Value}, AVsR w V μ objs as vs → ∀ (i : Nat) v, vs[i]? = some v → ∃ x, as[i]? = some x ∧ AVR w V μ objs x v
  | [], _, h, i, v, hv => by rw [show _ = _ from h] at hv; simp at hv
  | x :: as, _, ⟨u, us, h, h1, h2⟩, i, v, hv => by
    subst h
    cases i with
    | zero => simp only [List.getElem?_cons_zero, Option.some.injEq] at hv; subst hv; exact ⟨x, rfl, h1⟩
    | succ i => simpa using AVsR.get h2 i v (by simpa using hv)

theorem fp_at {pl : Places} {j : Nat} {b x : Nat} (h : pl[j]? = some (some (b, x))) : b ∈ fpOf pl :=
  List.mem_filterMap.2 ⟨some (b, x), List.mem_of_getElem? h, rfl⟩

section name
variable {w : World} {V : Nat → Prop} {μ : Mu} {objs : Objs}

theorem PtrR.name {i off : Nat} {v : Value} (h : PtrR μ objs i off v) : PtrR μ (fun i => nameOb i (objs i)) i off v := by
  obtain ⟨h1, h2⟩ := h
  cases ho : objs i with
  | none => rw [ho] at h1; cases h1
  | some ob =>
    refine ⟨?_, fun cs nm hc => ?_⟩
    · simp only [ho]; cases ob <;> rfl
    · simp only [ho] at hc
      cases ob with
      | var nm0 cs0 => exact h2 cs0 nm0 ho
      | row _ _ _ => simp only [nameOb] at hc; cases hc
      | dead => simp only [nameOb] at hc; cases hc

theorem PtrsR.name : ∀ {is : List Nat} {vs : List Value}, PtrsR μ objs is vs → PtrsR μ (fun i => nameOb i (objs i)) is vs
  | [], _, h => h
  | _ :: _, _, ⟨v, r, e, hp, h1, h2⟩ => ⟨v, r, e, hp, h1.name, h2.name⟩

theorem nameOb_row {i : Nat} {e : Sh} {xs : List (El e)} {wr : Bool} {o : Option Ob} : nameOb i o = some (.row e xs wr) ↔ o = some (.row e xs wr) := by
  cases o with
  | none => simp [nameOb]
  | some ob => cases ob <;> simp [nameOb]

theorem nameOb_some {i : Nat} {o : Option Ob} : (nameOb i o).isSome = o.isSome := by
  cases o with
  | none => rfl
  | some ob => cases ob <;> rfl

theorem CellR.name {c : Cell} {v : Value} (h : CellR w V μ objs c v) : CellR w V μ (fun i => nameOb i (objs i)) c v := by
  cases c with
  | ptr id off => exact PtrR.name h
  | clo f ids => obtain ⟨cs, h1, h2⟩ := h; exact ⟨cs, h1, h2.name⟩
  | own id => exact ⟨by simp only [nameOb_some]; exact h.1, fun e xs wr ho => h.2 e xs wr (nameOb_row.1 ho)⟩
  | sub id off len => exact ⟨by simp only [nameOb_some]; exact h.1, fun e xs wr ho => h.2 e xs wr (nameOb_row.1 ho)⟩
  | eptr id i off => exact ⟨by simp only [nameOb_some]; exact h.1, fun e xs wr ho => h.2 e xs wr (nameOb_row.1 ho)⟩
  | _ => exact h

theorem CellsR.name : ∀ {cs : List Cell} {vs : List Value}, CellsR w V μ objs cs vs → CellsR w V μ (fun i => nameOb i (objs i)) cs vs
  | [], _, h => h
  | _ :: _, _, ⟨v, r, e, hp, h1, h2⟩ => ⟨v, r, e, hp, h1.name, h2.name⟩

theorem TupR.name : ∀ {cs : List (Bool × List Cell)} {vs : List Value}, TupR w V μ objs cs vs → TupR w V μ (fun i => nameOb i (objs i)) cs vs
  | [], _, h => h
  | (_, _) :: _, _, ⟨v, r, us, e, hi, h1, h2⟩ => ⟨v, r, us, e, hi, h1.name, h2.name⟩

theorem AVR.name {x : AV} {v : Value} (h : AVR w V μ objs x v) : AVR w V μ (fun i => nameOb i (objs i)) x v := by
  cases x with
  | cs agg l => obtain ⟨vs, h1, h2⟩ := h; exact ⟨vs, h1, h2.name⟩
  | tup l => obtain ⟨vs, h1, h2⟩ := h; exact ⟨vs, h1, h2.name⟩
  | undef => trivial

theorem AVsR.name : ∀ {as : List AV} {vs : List Value}, AVsR w V μ objs as vs → AVsR w V μ (fun i => nameOb i (objs i)) as vs
  | [], _, h => h
  | _ :: _, _, ⟨v, us, e, h1, h2⟩ => ⟨v, us, e, h1.name, h2.name⟩

theorem ObR.name {id : Nat} {o : Ob} (h : nameOb id (objs id) = some o) (hO : ∀ o, objs id = some o → ObR w V μ objs id o ∧ o.wr = true) : ObR w V μ (fun i => nameOb i (objs i)) id o ∧ o.wr = true ∧
    ∀ k cs, o = .var (some k) cs → k = id ∧ ∃ b, μ id = some (b, 0) := by
  cases ho : objs id with
  | none => rw [ho] at h; cases h
  | some ob =>
    rw [ho] at h
    obtain ⟨h1, h2⟩ := hO ob ho
    cases ob with
    | var nm cs =>
      cases h
      obtain ⟨b, vs, ty, fr, g1, g2, g3, g4⟩ := h1
      refine ⟨⟨b, vs, ty, fr, g1, g2, g3, g4.name⟩, rfl, fun k cs' e => ?_⟩
      cases e
      exact ⟨rfl, b, g1⟩
    | row e xs wr => cases h; exact ⟨h1, h2, fun k cs' e => by cases e⟩
    | dead => cases h; exact ⟨trivial, h2, fun k cs' e => by cases e⟩

end name

def nmAt (pl : Places) (i : Nat) : Nat := match pl[i]? with
  | some (some (b, _)) => b
  | _ => 0

theorem nmAt_eq {pl : Places} {i b x : Nat} (h : pl[i]? = some (some (b, x))) : nmAt pl i = b := by simp [nmAt, h]

theorem also_entry {pl : Places} {l : List Ob} (hl : l.length = pl.length) : ∀ (ps : List PSh) (vs : List Value), AlsoP pl ps vs → AlsoL w V (fun i => (pl[i]?).getD none) (fun i => l[i]?) ps vs
  | [], _, _ => trivial
  | _ :: _, [], _ => trivial
  | p :: ps, v :: vs, h => by
    cases p with
    | also k =>
      obtain ⟨⟨b, h1, h2⟩, h3⟩ := h
      refine ⟨?_, also_entry hl ps vs h3⟩
      subst h2
      have hlt : k < l.length := by have := (List.getElem?_eq_some_iff.1 h1).1; omega
      exact AVR.mk1 trivial ⟨by simp only; rw [List.getElem?_eq_getElem hlt]; rfl, fun _ _ _ => ⟨b, 0, by simp [h1], by simp⟩⟩
    | _ => exact ⟨trivial, also_entry hl ps vs h⟩

/-- the state in which a function begins -/
theorem entry_ok {ps : List PSh} {x : ElL ps} {vs : List Value} {pl : Places} {n : Nat} (hh : HoldsL w U ps x vs pl) (halso : AlsoP pl ps vs) (hnd : (fpOf pl).Nodup) (hU : ∀ b ∈ fpOf pl, U b) (hlt : ∀ b, U b → b < w.heap.size) :
    RelN (pinsOf ps 0, n) vs w U ⟨fpOf pl, nmAt pl⟩ (entry ps x) { tmps := vs.toArray ++ Array.replicate (n - vs.toArray.size) undef, defers := [] } w := by
  have hlenpl := mintL_len ps x vs pl 0 hh
  have hmint := HoldsL.mint _ _ _ _ hh 0 (fun i => (pl[i]?).getD none) (fun i => (mintL 0 ps x).2[i]?) (also_entry hlenpl ps vs halso) (fun j q hj => by simp [hj]) (fun j o ho => by simpa using ho)
  obtain ⟨_, hav, hobs⟩ := hmint
  have hvl := hh.length
  have hplat : ∀ (i b x : Nat), (fun i => (pl[i]?).getD none) i = some (b, x) → pl[i]? = some (some (b, x)) := by
    intro i b x h
    simp only at h
    cases hp : pl[i]? with
    | none => rw [hp] at h; cases h
    | some q => rw [hp] at h; simp only [Option.getD_some] at h; rw [h]
  refine ⟨⟨by simp only [Array.size_append, Array.size_replicate]; omega, fun i v _ hv => ?_⟩, U, (fun i => (pl[i]?).getD none), ?_⟩
  · have := (List.getElem?_eq_some_iff.1 hv).1
    simp only
    rw [Array.getElem?_append_left (by simpa using this)]
    simpa using hv
  · exact {
      slots := fun t => by
        simp only [entry]
        cases ht : vs[t]? with
        | some v =>
          obtain ⟨z, h1, h2⟩ := hav.get t v ht
          have hlt := (List.getElem?_eq_some_iff.1 ht).1
          have e : (vs.toArray ++ Array.replicate (n - vs.toArray.size) undef).getD t undef = v := by
            rw [Array.getD_eq_getD_getElem?, Array.getElem?_append_left (by simpa using hlt)]
            simp [ht]
          rw [e, h1]
          exact h2.name
        | none =>
          have hge : vs.length ≤ t := by simpa using ht
          have hal := hav.length
          rw [List.getElem?_eq_none (by omega)]
          trivial
      objs := fun id o ho => (ObR.name (objs := fun i => (mintL 0 ps x).2[i]?) ho (fun o ho => by
        have := hobs id o ho
        rwa [Nat.zero_add] at this)).1
      inj := fun id id' o o' b x x' _ _ _ _ h5 h6 => fpOf_inj hnd (hplat _ _ _ h5) (hplat _ _ _ h6)
      orig := fun id o b x _ _ h3 => .inl (fp_at (hplat _ _ _ h3))
      inV := fun id o b x _ _ h3 => hU _ (fp_at (hplat _ _ _ h3))
      frame := fun b o _ h => h
      sizes := fun b vs ty fr h => ⟨vs, ty, fr, h, rfl⟩
      grow := Nat.le_refl _
      quiet := ⟨rfl, rfl⟩
      vlt := hlt
      ult := hlt
      uv := fun b h _ => h
      defers := rfl
      named := fun id k cs h => by
        obtain ⟨_, _, h3⟩ := ObR.name (w := w) (V := U) (μ := fun i => (pl[i]?).getD none) (objs := fun i => (mintL 0 ps x).2[i]?) h (fun o ho => by
          have := hobs id o ho
          rwa [Nat.zero_add] at this)
        obtain ⟨rfl, b, hb⟩ := h3 k cs rfl
        rw [hb]
        simp only
        rw [nmAt_eq (hplat _ _ _ hb)] }

def resF (a : Act) : ResultVar → Sem Value
  | .tmp t => pure (a.tmps.getD t undef)
  | .cell b t => do loadVar t (← asAddr (a.tmps.getD b undef))

theorem evRets_ok (hT : TOk P T) {σ : AS} (R : RelM w0 U S σ a w V μ) : ∀ (rs : List ResultVar) (k : List AV → Option β), evRets T σ rs k = some y →
    ∃ avs vs, k avs = some y ∧ AVsR w V μ σ.objs avs vs ∧ (rs.mapM (resF a)).run P w = .ok vs w
  | [], k, h => ⟨[], [], h, rfl, by simp⟩
  | .tmp t :: rs, k, h => by
    simp only [evRets] at h
    obtain ⟨avs, vs, h1, h2, h3⟩ := evRets_ok hT R rs _ h
    exact ⟨_, _ :: vs, h1, ⟨_, vs, rfl, R.slots t, h2⟩, by simp [List.mapM_cons, h3, resF]⟩
  | .cell b t :: rs, k, h => by
    simp only [evRets] at h
    obtain ⟨av, v, h1, h2, h3⟩ := evLoad_ok hT R.objs h (R.slots b)
    obtain ⟨avs, vs, h4, h5, h6⟩ := evRets_ok hT R rs _ h1
    refine ⟨_, v :: vs, h4, ⟨v, vs, rfl, h2, h5⟩, ?_⟩
    have h3' : (do loadVar t (← asAddr (a.tmps.getD b undef)) : Sem Value).run P w = .ok v w := by
      revert h3
      generalize a.tmps.getD b undef = u
      intro h3
      cases u with
      | pointer q => cases q with
        | some p => simpa [Instr.loadAt, Instr.sureAddr, asAddr] using h3
        | none => simp [Instr.loadAt, Instr.sureAddr] at h3
      | _ => simp [Instr.loadAt, Instr.sureAddr] at h3
    rw [List.mapM_cons]
    show Sem.run P ((do loadVar t (← asAddr (a.tmps.getD b undef)) : Sem Value) >>= _) w = _
    rw [Sem.run_bind, h3', Result.andThen_ok]
    simp only [Sem.run_bind, Result.andThen_ok, h6, Sem.run_pure]

theorem results_ok {fn : Func} {vs : List Value} (h : (fn.results.toList.mapM (resF a)).run P w = .ok vs w) : (results fn a.tmps).run P w = .ok (retVal vs) w := by
  show Sem.run P (do
    let vs ← fn.results.mapM (resF a)
    pure (if h : vs.size = 1 then vs[0] else .tuple vs)) w = _
  rw [Array.mapM_eq_mapM_toList]
  simp only [Sem.run_bind, Sem.run_map, h, Result.andThen_ok, Sem.run_pure]
  congr 1
  match vs with
  | [] => rfl
  | [v] => rfl
  | v :: u :: vs => simp [retVal]

/-- what a pointer names is told by its value -/
theorem nodes_roots {objs : Objs} {plA : Places} (hnm : ∀ id k cs, objs id = some (.var (some k) cs) → μ id = some (nmAt plA k, 0)) : ∀ (bs : List Nat) (n : Nat) (ow : List (Option Nat)), (∀ (j b : Nat), bs[j]? = some b → plA[n + j]? = some (some (b, 0))) →
    nodesNamed objs n bs.length ow = true → (ow.map (·.bind μ)).take bs.length = placesOf bs
  | [], _, _, _, _ => rfl
  | b :: bs, n, [], _, h => by simp [nodesNamed] at h
  | b :: bs, n, none :: ow, _, h => by simp [nodesNamed] at h
  | b :: bs, n, some id :: ow, hp, h => by
    simp only [List.length_cons, nodesNamed, Bool.and_eq_true] at h
    obtain ⟨h1, h2⟩ := h
    split at h1 <;> try (cases h1; done)
    rename_i m cs ho
    have := Nat.eq_of_beq_eq_true h1
    subst this
    have hm := hnm id m cs ho
    have hb := hp 0 b rfl
    rw [Nat.add_zero] at hb
    rw [nmAt_eq hb] at hm
    have ih := nodes_roots hnm bs (m + 1) ow (fun j b' hj => by
      rw [show m + 1 + j = m + (j + 1) by omega]; exact hp (j + 1) b' (by simpa using hj)) h2
    simp only [List.map_cons, Option.bind_some, List.length_cons, List.take_succ_cons, placesOf, hm]
    congr 1

theorem roots_ok {w' : World} {V' : Nat → Prop} {objs : Objs} {plA : Places} (hnm : ∀ id k cs, objs id = some (.var (some k) cs) → μ id = some (nmAt plA k, 0)) : ∀ (ps : List PSh) (x : ElL ps) (y : ElL (posts ps)) (vs : List Value) (pl p2 : Places) (n : Nat) (ow : List (Option Nat)), noBrw ps = true → HoldsL w V ps x vs pl → HoldsL w' V' (posts ps) y (postVals ps vs) p2 →
    p2 = ow.map (·.bind μ) → pl = plA.drop n → namesOk objs ps n ow = true → rootsOf (posts ps) p2 = rootsOf ps pl
  | [], _, _, _, _, _, _, _, _, _, _, _, _, _ => rfl
  | .val ag s :: ps, x, y, vs, pl, p2, n, ow, hn, ⟨v, us, q1, q2, hv, hp, h1, h2⟩, h3, hpo, hpa, hok => by
    subst hv hp
    obtain ⟨us', hiv, _, hs⟩ := h1
    have hl := (mintS_len s _ _ q1 0 hs).2
    have ih := roots_ok hnm ps x.2 y us q2 p2 (n + s.owns) ow hn h2 h3 hpo (by
      rw [← List.drop_drop, ← hpa, List.drop_append_of_le_length (by omega), List.drop_of_length_le (by omega), List.nil_append]) (by simpa only [namesOk] using hok)
    simp only [posts, rootsOf]
    rw [ih, List.drop_append_of_le_length (by omega), List.drop_of_length_le (by omega), List.nil_append]
  | .also k :: ps, x, y, vs, pl, p2, n, ow, hn, ⟨v, us, q1, q2, hv, hp, h1, h2⟩, h3, hpo, hpa, hok => by
    have h1 : q1 = [] := h1
    subst hv hp h1
    simp only [posts, rootsOf, List.nil_append] at *
    exact roots_ok hnm ps x.2 y us q2 p2 n ow hn h2 h3 hpo hpa hok
  | .ptr s :: ps, x, y, vs, pl, p2, n, ow, hn, ⟨v, us, q1, q2, hv, hp, h1, h2⟩, h3, hpo, hpa, hok => by
    subst hv hp
    obtain ⟨v', us', r1, r2, hv', hp', h1', h2'⟩ := h3
    simp only [postVals, List.cons.injEq] at hv'
    obtain ⟨rfl, rfl⟩ := hv'
    subst hp'
    obtain ⟨b, ws, ty, fr, q, e1, e2, _, _, hs⟩ := h1
    obtain ⟨b', ws', ty', fr', q', e1', e2', _, _, hs'⟩ := h1'
    rw [e1] at e1'
    simp only [Value.pointer.injEq, Option.some.injEq, Addr.mk.injEq] at e1'
    obtain ⟨rfl, _, _⟩ := e1'
    subst e2 e2'
    have hl := (mintS_len s _ _ q 0 hs).2
    have hl' := (mintS_len s _ _ q' 0 hs').2
    have ih := roots_ok hnm ps x.2 y.2 us q2 r2 (n + (s.owns + 1)) (ow.drop (s.owns + 1)) hn h2 h2' (by
      rw [List.map_drop, ← hpo, List.drop_append_of_le_length (by simp only [List.length_cons]; omega), List.drop_of_length_le (by simp only [List.length_cons]; omega), List.nil_append]) (by
      rw [← List.drop_drop, ← hpa, List.drop_append_of_le_length (by simp only [List.length_cons]; omega), List.drop_of_length_le (by simp only [List.length_cons]; omega), List.nil_append]) (by simpa only [namesOk] using hok)
    simp only [rootsOf, List.cons_append, List.head?_cons, Option.getD_some, List.drop_succ_cons]
    rw [List.drop_append_of_le_length (by omega), List.drop_of_length_le (by omega), List.nil_append,
      List.drop_append_of_le_length (by omega), List.drop_of_length_le (by omega), List.nil_append, ih]
  | .net hd ns :: ps, x, y, vs, pl, p2, n, ow, hn, ⟨v, us, q1, q2, hv, hp, h1, h2⟩, h3, hpo, hpa, hok => by
    subst hv hp
    obtain ⟨v', us', r1, r2, hv', hp', h1', h2'⟩ := h3
    simp only [postVals, List.cons.injEq] at hv'
    obtain ⟨rfl, rfl⟩ := hv'
    subst hp'
    obtain ⟨bs, q, rfl, _, hs⟩ := h1
    obtain ⟨bs', q', rfl, _, hs'⟩ := h1'
    have hbl := hs.length
    have hbl' := hs'.length
    have hl := (mintNs_len (loc := id) (nmf := fun _ _ => none) ns _ _ q 0 0 hs).2
    have hl' := (mintNs_len (loc := id) (nmf := fun _ _ => none) ns _ _ q' 0 0 hs').2
    have hb1 : (placesOf bs).length = ns.length := by simp [placesOf, hbl]
    have hb1' : (placesOf bs').length = ns.length := by simp [placesOf, hbl']
    simp only [namesOk, Bool.and_eq_true] at hok
    have ih := roots_ok hnm ps x.2 y.2 us q2 r2 (n + (ns.length + (netSh ns).owns)) (ow.drop (ns.length + (netSh ns).owns)) hn h2 h2' (by
      rw [List.map_drop, ← hpo, List.drop_append_of_le_length (by rw [List.length_append]; omega), List.drop_of_length_le (by rw [List.length_append]; omega), List.nil_append]) (by
      rw [← List.drop_drop, ← hpa, List.drop_append_of_le_length (by rw [List.length_append]; omega), List.drop_of_length_le (by rw [List.length_append]; omega), List.nil_append]) hok.2
    have e1 : rootsOf (.net hd ns :: ps) (placesOf bs ++ (q ++ q2)) = placesOf bs ++ rootsOf ps q2 := rootsOf_net hb1 hl
    have e2 : rootsOf (posts (.net hd ns :: ps)) (placesOf bs' ++ (q' ++ r2)) = placesOf bs' ++ rootsOf (posts ps) r2 := rootsOf_net (ps := posts ps) hb1' hl'
    rw [List.append_assoc, List.append_assoc, e1, e2, ih]
    congr 1
    have hn0 : nodesNamed objs n bs.length ow = true := by rw [hbl]; exact hok.1
    have := nodes_roots (μ := μ) hnm bs n ow (fun j b hj => by
      have hd : (plA.drop n)[j]? = some (some (b, 0)) := by
        rw [← hpa, List.append_assoc, List.getElem?_append_left (by have := (List.getElem?_eq_some_iff.1 hj).1; omega)]
        simp [placesOf, hj]
      rwa [List.getElem?_drop] at hd) hn0
    rw [← this, ← hpo, List.append_assoc, List.take_append_of_le_length (by omega), List.take_of_length_le (by omega)]
  | .brw e :: ps, _, _, _, _, _, _, _, hn, _, _, _, _, _ => by cases hn

theorem postAV_ok {σ : AS} (hs : ∀ t, AVR w V μ objs (σ.slots t) (a.tmps.getD t undef)) {A : List Value} {pins : List Nat} (hA : ∀ (i : Nat) v, i ∈ pins → A[i]? = some v → a.tmps[i]? = some v) : ∀ (ps : List PSh) (n : Nat) (vs : List Value), (∀ i ∈ pinsOf ps n, i ∈ pins) → vs.length = ps.length → (∀ i v, vs[i]? = some v → A[n + i]? = some v) →
    AVsR w V μ objs (postAV ps n σ.slots) (postVals ps vs)
  | [], n, vs, _, hl, _ => by
    cases vs with
    | nil => rfl
    | cons _ _ => cases hl
  | p :: ps, n, [], _, hl, _ => by cases hl
  | p :: ps, n, v :: vs, hp, hl, hv => by
    have hp' : ∀ i ∈ pinsOf ps (n + 1), i ∈ pins := fun i hi => hp i (by
      cases p with
      | val ag s => exact hi
      | ptr s => exact List.mem_cons_of_mem _ hi
      | brw e => exact List.mem_cons_of_mem _ hi
      | net hd ns => exact List.mem_cons_of_mem _ hi
      | also k => exact hi)
    have ih := postAV_ok hs hA ps (n + 1) vs hp' (by simpa using hl) (fun i u hu => by
      have := hv (i + 1) u (by simpa using hu)
      rw [← this]; congr 1; omega)
    have one : n ∈ pins → AVR w V μ objs (σ.slots n) v := fun hm => by
      have h0 := hA n v hm (by simpa using hv 0 v rfl)
      have e : a.tmps.getD n undef = v := by rw [Array.getD_eq_getD_getElem?, h0]; rfl
      have h1 := hs n
      rw [e] at h1
      exact h1
    cases p with
    | val ag s => exact ih
    | ptr s => exact ⟨v, _, rfl, one (hp n (by simp [pinsOf])), ih⟩
    | brw e => exact ⟨v, _, rfl, one (hp n (by simp [pinsOf])), ih⟩
    | net hd ns => exact ⟨v, _, rfl, one (hp n (by simp [pinsOf])), ih⟩
    | also k => exact ih

end fn
end Go.Fw

namespace Go.Fw
open Go

section con
variable {P : Program} {w0 : World} {U : Nat → Prop} {S : Own} {a : Act} {w : World} {V : Nat → Prop} {μ : Mu} {objs : Objs} {β : Type} {y : β} {N : List Nat × Nat} {A : List Value} {T : Tys} {env : List (Ent P)}

theorem evRet_ok (hT : TOk P T) {fn : Func} {sig : Sig} {x : ElL sig.args} {yy : ElL sig.res × ElL (posts sig.args)} {vs : List Value} {pl : Places} {w : World} {U : Nat → Prop} (hn : noBrw sig.args = true)
    (hh : HoldsL w U sig.args x vs pl) {n : Nat} {σ : AS} {a : Act} {w' : World} (R : RelN (pinsOf sig.args 0, n) vs w U ⟨fpOf pl, nmAt pl⟩ σ a w') (h : evRet T sig fn.results.toList σ = some yy) :
    a.defers = [] ∧ ∃ v, (results fn a.tmps).run P w' = .ok v w' ∧ ∃ rs p1 p2, v = retVal rs ∧
      HoldsL w' (fun b => (U b ∧ b ∉ fpOf pl) ∨ b ∈ fpOf (p1 ++ p2)) sig.res yy.1 rs p1 ∧
      HoldsL w' (fun b => (U b ∧ b ∉ fpOf pl) ∨ b ∈ fpOf (p1 ++ p2)) (posts sig.args) yy.2 (postVals sig.args vs) p2 ∧
      (fpOf (p1 ++ p2)).Nodup ∧ rootsOf (posts sig.args) p2 = rootsOf sig.args pl ∧ Moved w w' (fpOf pl) (fpOf (p1 ++ p2)) := by
  obtain ⟨hB, V, μ, R⟩ := R
  obtain ⟨avs, rvs, h, hrs, hrun⟩ := evRets_ok hT R _ _ h
  split at h <;> try (cases h; done)
  rename_i k1 k2 hk1 hk2
  obtain ⟨hchk, h⟩ := cond_some h
  cases h
  simp only [Bool.and_eq_true] at hchk
  obtain ⟨⟨hnms, hchk1⟩, hchk2⟩ := hchk
  have hchk := And.intro hchk1 hchk2
  have hKnd := nodupN_ok hchk.1
  have hdis : ∀ i ∈ k1.lent ++ k2.lent, i ∉ ownedIds (k1.owned ++ k2.owned) := by
    intro i hi hm
    have := List.all_eq_true.1 hchk.2 i hi
    rw [List.contains_iff_mem.2 hm] at this
    cases this
  have f1 := packL_facts _ _ k1 hk1
  have f2 := packL_facts _ _ k2 hk2
  have hown : ∀ i, some i ∈ k1.owned ++ k2.owned → ∃ o, σ.objs i = some o ∧ o.wr = true := by
    intro i hi
    rcases List.mem_append.1 hi with h | h
    · exact f1.2 i h
    · exact f2.2 i h
  have hlent : ∀ i ∈ k1.lent ++ k2.lent, ∃ e xs wr, σ.objs i = some (.row e xs wr) := by
    intro i hi
    rcases List.mem_append.1 hi with h | h
    · exact f1.1 i h
    · exact f2.1 i h
  obtain ⟨V1, R1, _, hVV, h3⟩ := RelM.frz (slots := σ.slots) (objs := σ.objs) R (k1.lent ++ k2.lent)
  have hpAV := postAV_ok R.slots hB.2 sig.args 0 vs (fun _ h => h) hh.length (fun i v hv => by simpa using hv)
  generalize hp1 : k1.owned.map (·.bind μ) = p1
  generalize hp2 : k2.owned.map (·.bind μ) = p2
  have hp12 : (k1.owned ++ k2.owned).map (·.bind μ) = p1 ++ p2 := by rw [List.map_append, hp1, hp2]
  have hfp : ∀ b, b ∈ fpOf (p1 ++ p2) ↔ ∃ i, some i ∈ k1.owned ++ k2.owned ∧ ∃ x, μ i = some (b, x) := by
    intro b
    rw [← hp12]
    exact fp_owned _ b
  have hV1 : ∀ b, ((U b ∧ b ∉ fpOf pl) ∨ b ∈ fpOf (p1 ++ p2)) → V1 b := by
    rintro b (⟨hb, hb2⟩ | hb)
    · exact R1.uv b hb hb2
    · obtain ⟨j, hj, z, hm⟩ := (hfp b).1 hb
      obtain ⟨o', ho', hw'⟩ := hown j hj
      refine R1.inV j o' b z (show frz (k1.lent ++ k2.lent) σ.objs j = some o' from ?_) hw' hm
      rw [frz_other (fun hl => hdis j hl (ownedIds_mem.2 hj))]
      exact ho'
  have hl : ∀ i ∈ k1.lent ++ k2.lent, ∀ b x, μ i = some (b, x) → ¬ ((U b ∧ b ∉ fpOf pl) ∨ b ∈ fpOf (p1 ++ p2)) := by
    intro i hi b x hm hb
    obtain ⟨e1, xs1, wr1, ho⟩ := hlent i hi
    exact h3 i hi e1 xs1 wr1 ho b x hm (hV1 b hb)
  have hd1 := packL_ok (W := fun b => (U b ∧ b ∉ fpOf pl) ∨ b ∈ fpOf (p1 ++ p2)) R.objs (fun b hb => hVV b (hV1 b hb)) sig.res _ _ k1 hrs hk1 (fun i hi => hl i (List.mem_append.2 (.inl hi)))
  have hd2 := packL_ok (W := fun b => (U b ∧ b ∉ fpOf pl) ∨ b ∈ fpOf (p1 ++ p2)) R.objs (fun b hb => hVV b (hV1 b hb)) (posts sig.args) _ _ k2 hpAV hk2 (fun i hi => hl i (List.mem_append.2 (.inr hi)))
  rw [hp1] at hd1
  rw [hp2] at hd2
  refine ⟨R.defers, retVal rvs, results_ok hrun, rvs, p1, p2, rfl, hd1, hd2, ?_, ?_, ?_⟩
  · rw [← hp12]
    exact fp_nodup (objs := σ.objs) (fun i i' ⟨o1, h1, h2⟩ ⟨o2, h3, h4⟩ b x x' h5 h6 => R.inj i i' o1 o2 b x x' h1 h3 h2 h4 h5 h6) _ hKnd hown
  · exact roots_ok (plA := pl) (objs := σ.objs) (μ := μ) R.named sig.args x _ vs pl p2 0 k2.owned hn hh hd2 hp2.symm rfl hnms
  · exact {
      frame := fun b o hb ho => R.frame b o hb ho
      sizes := R.sizes
      grow := R.grow
      quiet := R.quiet
      fresh := fun b hb => by
        obtain ⟨j, hj, z, hm⟩ := (hfp b).1 hb
        obtain ⟨o', ho', hw'⟩ := hown j hj
        exact R.orig j o' b z ho' hw' hm
      there := fun b hb => R1.vlt b (hV1 b (.inr hb)) }

theorem con_ok (hT : TOk P T) (hm : P.follows .mixedOrders = true) {g : FuncId} {fn : Func} {c : Code} {sig : Sig} {x : ElL sig.args} {yy : ElL sig.res × ElL (posts sig.args)} {ct : Cert} (hn : noBrw sig.args = true)
    (hf : P.funcs[g]? = some fn) (hb : fn.body = some c) (h : evFun T env sig fn.ntmps fn.results.toList c ct x = some yy) : Con P g sig x yy := by
  intro w U vs pl hh halso hnd hU hlt
  refine calls_of_wp hf hb (ev_ok hT hm c ct _ _ _ yy _ w _ h (entry_ok (n := fn.ntmps) hh halso hnd hU hlt) ?_)
  intro e σ a w' R' h'
  have go : evRet T sig fn.results.toList σ = some yy → a.defers = [] ∧ ∃ v, (results fn a.tmps).run P w' = .ok v w' ∧ ∃ rs p1 p2, Ending.returned v = .returned (retVal rs) ∧
      HoldsL w' (fun b => (U b ∧ b ∉ fpOf pl) ∨ b ∈ fpOf (p1 ++ p2)) sig.res yy.1 rs p1 ∧
      HoldsL w' (fun b => (U b ∧ b ∉ fpOf pl) ∨ b ∈ fpOf (p1 ++ p2)) (posts sig.args) yy.2 (postVals sig.args vs) p2 ∧
      (fpOf (p1 ++ p2)).Nodup ∧ rootsOf (posts sig.args) p2 = rootsOf sig.args pl ∧ Moved w w' (fpOf pl) (fpOf (p1 ++ p2)) := by
    intro h'
    obtain ⟨hd, v, hr, rs, p1, p2, rfl, rest⟩ := evRet_ok hT hn hh R' h'
    exact ⟨hd, _, hr, rs, p1, p2, rfl, rest⟩
  cases e with
  | exit id => cases h'
  | nrm => exact go h'
  | ret => exact go h'

end con
end Go.Fw

namespace Go.Fw
open Go

/-! ## what a pure term answers -/
def Ok {α : Type} (m : Option α) (q : α → Prop) : Prop := ∃ y, m = some y ∧ q y

section ok
variable {α β : Type}

theorem Ok.some {y : α} {q : α → Prop} (h : q y) : Ok (some y) q := ⟨y, rfl, h⟩

theorem Ok.bind {m : Option α} {f : α → Option β} {p : α → Prop} {q : β → Prop} (h : Ok m p) (hf : ∀ y, p y → Ok (f y) q) : Ok (Option.bind m f) q := by
  obtain ⟨y, rfl, hy⟩ := h
  exact hf y hy

theorem Ok.cond {b : Bool} {x y : Option α} {q : α → Prop} (h1 : b = true → Ok x q) (h2 : b = false → Ok y q) : Ok (cond b x y) q := by
  cases b with
  | true => exact h1 rfl
  | false => exact h2 rfl

theorem Ok.mono {m : Option α} {p q : α → Prop} (h : Ok m p) (hq : ∀ y, p y → q y) : Ok m q := by
  obtain ⟨y, hy, hp⟩ := h
  exact ⟨y, hy, hq y hp⟩

theorem Ok.nth {xs : List α} {i : Int} {q : α → Prop} (h0 : 0 ≤ i) (h1 : i < xs.length) (hq : ∀ x ∈ xs, q x) : Ok (nth xs i) q := by
  have hlt : i.toNat < xs.length := by omega
  refine ⟨xs[i.toNat], ?_, hq _ (List.getElem_mem hlt)⟩
  unfold Go.Fw.nth
  rw [decide_eq_true h0, cond_true]
  exact List.getElem?_eq_getElem hlt

theorem Ok.get {xs : List α} {i : Nat} {q : α → Prop} (h1 : i < xs.length) (hq : ∀ x ∈ xs, q x) : Ok xs[i]? q :=
  ⟨xs[i], List.getElem?_eq_getElem h1, hq _ (List.getElem_mem h1)⟩

theorem Ok.loopK {f : α → Option β} {s : α ⊕ β} {q : β → Prop} (h1 : ∀ a, s = .inl a → Ok (f a) q) (h2 : ∀ b, s = .inr b → q b) : Ok (loopK f s) q := by
  cases s with
  | inl a => exact h1 a rfl
  | inr b => exact ⟨b, rfl, h2 b rfl⟩

/-- a loop with an invariant and a measure -/
theorem Ok.loop {f : α → Option (α ⊕ β)} {q : β → Prop} (I : α → Prop) (m : α → Nat)
    (h : ∀ v, I v → Ok (f v) (fun s => match s with | .inl v' => I v' ∧ m v' < m v | .inr b => q b)) : ∀ v, I v → Ok (loopC f v) q := by
  intro v hv
  generalize hn : m v = n
  induction n using Nat.strongRecOn generalizing v with
  | _ n ih =>
    rw [loopC_eq]
    obtain ⟨s, hs, hp⟩ := h v hv
    rw [hs, Option.bind_some]
    cases s with
    | inl v' => exact ih (m v') (hn ▸ hp.2) v' hp.1 rfl
    | inr b => exact ⟨b, rfl, hp⟩

/-- reckoned out -/
theorem loopC_step {f : α → Option (α ⊕ β)} {v v' : α} (h : f v = Option.some (.inl v')) : loopC f v = loopC f v' := by
  rw [loopC_eq, h]; rfl
theorem loopC_end {f : α → Option (α ⊕ β)} {v : α} {b : β} (h : f v = Option.some (.inr b)) : loopC f v = Option.some b := by
  rw [loopC_eq, h]; rfl

end ok

/-! ## integers -/
theorem wrap_i64 {n : Int} (h1 : -9223372036854775808 ≤ n) (h2 : n ≤ 9223372036854775807) : IntKind.i64.wrap n = n := by
  simp only [IntKind.wrap]
  simp [IntKind.bits, IntKind.signed]
  omega

end Go.Fw

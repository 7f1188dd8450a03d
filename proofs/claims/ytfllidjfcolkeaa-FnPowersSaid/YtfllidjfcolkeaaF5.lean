/- F5: the framework: a typed evaluator over the program form, with its soundness, by parts. -/
import Derived.Test.YtfllidjfcolkeaaF4
import Derived.ProofKit
namespace Go.Fw
open Go Go.ChangeShapes Go.RowKit

/-! ## from the readings of a statement to the framework's, and back -/
/-- what a reading bears on numbers and lengths -/
def Fit : (s : Sh) → El s → Prop
  | .int k, x => (Lit.int k x).wf = true
  | .bool, _ => True
  | .str, x => x.size ≤ maxLen
  | .sl e, xs => List.length (α := El e) xs ≤ maxLen ∧ ∀ x : El e, List.Mem x xs → Fit e x
  | .own e, xs => List.length (α := El e) xs ≤ maxLen ∧ ∀ x : El e, List.Mem x xs → Fit e x
  | .pair a b, x => Fit a x.1 ∧ Fit b x.2
  | .unit, _ => True

def fldsOk (r : TypeId → Sh → Bool) (P : Program) : List Field → Sh → Nat → Bool
  | [], _, _ => false
  | [f], s, off => f.offset == off && P.cellsOf f.type == s.size && r f.type s
  | f :: g :: l, .pair a b, off => f.offset == off && P.cellsOf f.type == a.size && r f.type a && fldsOk r P (g :: l) b (off + a.size)
  | _ :: _ :: _, _, _ => false

/-- the program's type reads as this shape -/
def shOk (P : Program) : Nat → TypeId → Sh → Bool
  | 0, _, _ => false
  | n + 1, t, s => match P.underlying t, s with
    | some .bool, .bool => true
    | some (.int k), .int k' => decide (k = k')
    | some .string, .str => true
    | some (.slice e), .sl s => shOk P n e s && P.cellsOf e == s.size && decide (0 < s.size)
    | some (.struct fs), s => P.cellsOf t == s.size && fldsOk (shOk P n) P fs.toList s 0
    | _, _ => false

section
variable {H : Type} {enc : TypeId × Value → H} {P : Program} {w : World} {sp : Nat → Bool} {held : Bool}

abbrev V0 : Nat → Prop := fun _ => False

theorem cells_row {w : World} {base : Nat} {a : Addr} {n : Nat} {cs : List Value} (h : w.cells? base a n = some cs) (hn : 0 < n) :
    ∃ vs ty fr, w.heap[a.block]? = some (.cells vs ty fr) ∧ a.spot = none ∧ a.off + n ≤ vs.size ∧ cs = (vs.toList.drop a.off).take n := by
  obtain ⟨_, hl, hc⟩ := World.cells?_some h
  have h0 := hc 0 hn
  obtain ⟨c0, hc0⟩ : ∃ c0, cs[0]? = some c0 := ⟨cs[0], List.getElem?_eq_getElem (by omega)⟩
  have e0 : a.add 0 = a := by simp [Addr.add]
  rw [hc0, e0] at h0
  unfold World.cell? at h0
  split at h0
  · rename_i vs ty fr hb
    cases hsp : a.spot with
    | some z => rw [hsp] at h0; simp at h0
    | none =>
      have hcell : ∀ i, i < n → vs[a.off + i]? = cs[i]? := by
        intro i hi
        have := hc i hi
        unfold World.cell? Addr.add at this
        by_cases hz : i = 0
        · subst hz
          simpa [hb, hsp] using this
        · simpa [hz, hb] using this
      have hlast := hcell (n - 1) (by omega)
      have hlt : a.off + n ≤ vs.size := by
        rw [List.getElem?_eq_getElem (by omega : n - 1 < cs.length)] at hlast
        have := (Array.getElem?_eq_some_iff.1 hlast).1
        omega
      refine ⟨vs, ty, fr, hb, rfl, hlt, List.ext_getElem? fun i => ?_⟩
      rw [List.getElem?_take]
      split
      · rename_i hi
        rw [List.getElem?_drop, ← hcell i hi]
        simp
      · rw [List.getElem?_eq_none (by omega)]
  · cases h0

theorem rows_of {α : Type} {w : World} {a : Addr} {len size : Nat} {R : α → List Value → Prop} {Q : α → Prop} (hs : 0 < size) (hl : 0 < len)
    (h : ∀ i, i < len → ∃ cs, w.cells? 0 (a.add (i * size)) size = some cs ∧ ∃ y, R y cs ∧ Q y) :
    ∃ ys : List α, ys.length = len ∧ (∀ y ∈ ys, Q y) ∧ ∃ rs, rowAt w a (len * size) rs ∧ RowsR size R ys rs := by
  obtain ⟨cs0, h0, _⟩ := h 0 hl
  have e0 : a.add (0 * size) = a := by simp [Addr.add]
  rw [e0] at h0
  obtain ⟨vs, ty, fr, hb, hsp, _, _⟩ := cells_row h0 hs
  have hrow : ∀ i, i < len → a.off + (i + 1) * size ≤ vs.size ∧ ∃ y, R y ((vs.toList.drop (a.off + i * size)).take size) ∧ Q y := by
    intro i hi
    obtain ⟨cs, h1, y, hy, hq⟩ := h i hi
    obtain ⟨vs', ty', fr', hb', _, hle, rfl⟩ := cells_row h1 hs
    have eb : (a.add (i * size)).block = a.block := by unfold Addr.add; split <;> rfl
    have eo : (a.add (i * size)).off = a.off + i * size := by
      unfold Addr.add; split
      · rename_i hz; rw [hz]; rfl
      · rfl
    rw [eb, hb] at hb'
    cases hb'
    rw [eo] at hle hy
    exact ⟨by rw [Nat.succ_mul]; omega, y, hy, hq⟩
  have hmain : ∀ d j, j + d = len → ∃ ys : List α, ys.length = d ∧ (∀ y ∈ ys, Q y) ∧ RowsR size R ys ((vs.toList.drop (a.off + j * size)).take (d * size)) := by
    intro d
    induction d with
    | zero => intro j _; exact ⟨[], rfl, by simp, by simp [RowsR]⟩
    | succ d ih =>
      intro j hj
      obtain ⟨ys, h1, h2, h3⟩ := ih (j + 1) (by omega)
      obtain ⟨hle, y, hy, hq⟩ := hrow j (by omega)
      refine ⟨y :: ys, by simp [h1], fun z hz => ?_, ?_, ?_, ?_⟩
      · rcases List.mem_cons.1 hz with rfl | hz
        · exact hq
        · exact h2 z hz
      · rw [List.length_take, List.length_drop, Nat.succ_mul]
        rw [Nat.succ_mul] at hle
        have : vs.toList.length = vs.size := rfl
        omega
      · rw [List.take_take, Nat.min_eq_left (by rw [Nat.succ_mul]; omega)]
        exact hy
      · rw [List.drop_take, List.drop_drop]
        rw [show a.off + j * size + size = a.off + (j + 1) * size by rw [Nat.succ_mul]; omega, show (d + 1) * size - size = d * size by rw [Nat.succ_mul]; omega]
        exact h3
  obtain ⟨ys, h1, h2, h3⟩ := hmain len 0 (by omega)
  rw [Nat.zero_mul, Nat.add_zero] at h3
  refine ⟨ys, h1, h2, _, ⟨vs, ty, fr, hb, hsp, ?_, rfl⟩, h3⟩
  have := (hrow (len - 1) (by omega)).1
  rwa [show len - 1 + 1 = len by omega] at this

theorem flds_reads {n fuel : Nat} {r : TypeId → Sh → Bool}
    (ih : ∀ t s, r t s = true → ∀ cs x, DataW.trod enc P w 0 sp held fuel t cs = some x → ∃ y : El s, Reads w V0 s y cs ∧ Fit s y) :
    ∀ (fs : List Field) (s : Sh) (off : Nat) (cs : List Value), fldsOk r P fs s off = true → cs.length = off + s.size →
      (∀ f ∈ fs, ∃ x, DataW.trod enc P w 0 sp held fuel f.type ((cs.drop f.offset).take (P.cellsOf f.type)) = some x) → ∃ y : El s, Reads w V0 s y (cs.drop off) ∧ Fit s y
  | [], _, _, _, h, _, _ => by simp [fldsOk] at h
  | [f], s, off, cs, h, hl, hf => by
    simp only [fldsOk, Bool.and_eq_true, beq_iff_eq] at h
    obtain ⟨⟨h1, h2⟩, h3⟩ := h
    obtain ⟨x, hx⟩ := hf f (by simp)
    rw [h1, h2, List.take_of_length_le (by rw [List.length_drop]; omega)] at hx
    exact ih _ _ h3 _ _ hx
  | f :: g :: l, .pair a b, off, cs, h, hl, hf => by
    simp only [fldsOk, Bool.and_eq_true, beq_iff_eq] at h
    obtain ⟨⟨⟨h1, h2⟩, h3⟩, h4⟩ := h
    obtain ⟨x, hx⟩ := hf f (by simp)
    rw [h1, h2] at hx
    obtain ⟨y, hy, hfit⟩ := ih _ _ h3 _ _ hx
    have hl' : cs.length = off + (a.size + b.size) := hl
    obtain ⟨z, hz, hzf⟩ := flds_reads (n := n) ih (g :: l) b (off + a.size) cs h4 (by omega) (fun f' hf' => hf f' (List.mem_cons_of_mem _ hf'))
    refine ⟨(y, z), ⟨_, _, ?_, hy, hz⟩, hfit, hzf⟩
    rw [← List.drop_drop, List.take_append_drop]
  | _ :: _ :: _, .int _, _, _, h, _, _ => by simp [fldsOk] at h
  | _ :: _ :: _, .bool, _, _, h, _, _ => by simp [fldsOk] at h
  | _ :: _ :: _, .str, _, _, h, _, _ => by simp [fldsOk] at h
  | _ :: _ :: _, .sl _, _, _, h, _, _ => by simp [fldsOk] at h
  | _ :: _ :: _, .own _, _, _, h, _, _ => by simp [fldsOk] at h
  | _ :: _ :: _, .unit, _, _, h, _, _ => by simp [fldsOk] at h

theorem trod_reads : ∀ (n : Nat) (t : TypeId) (s : Sh), shOk P n t s = true → ∀ (fuel : Nat) (cs : List Value) (x : DataW H × List MemPlace), DataW.trod enc P w 0 sp held fuel t cs = some x →
    ∃ y : El s, Reads w V0 s y cs ∧ Fit s y := by
  intro n
  induction n with
  | zero => intro t s h; cases h
  | succ n ih =>
    intro t s h fuel cs x hx
    simp only [shOk] at h
    split at h
    · rename_i ht
      obtain ⟨b, rfl, _⟩ := DataW.trod_bool ht hx
      exact ⟨b, rfl, trivial⟩
    · rename_i k k' ht
      cases of_decide_eq_true h
      obtain ⟨z, rfl, _, hw⟩ := DataW.trod_int ht hx
      exact ⟨z, rfl, hw⟩
    · rename_i ht
      obtain ⟨z, rfl, _, hw⟩ := DataW.trod_string ht hx
      exact ⟨z, rfl, hw⟩
    · rename_i e s' ht
      simp only [Bool.and_eq_true, beq_iff_eq, decide_eq_true_eq] at h
      obtain ⟨⟨h1, h2⟩, h3⟩ := h
      rcases DataW.trod_slice ht hx with ⟨rfl, _⟩ | ⟨a, len, cap, elems, rest, m, _, rfl, _, _, hlc, hcm, hel, hall, _, _⟩
      · exact ⟨[], ⟨_, rfl, none, 0, rfl, Nat.le_refl _, .inl rfl⟩, Nat.zero_le _, fun y hy => nomatch hy⟩
      · by_cases hz : len = 0
        · subst hz
          exact ⟨[], ⟨_, rfl, some a, cap, rfl, Nat.zero_le _, .inl rfl⟩, Nat.zero_le _, fun y hy => nomatch hy⟩
        · rw [h2] at hall
          obtain ⟨ys, k1, k2, rs, k3, k4⟩ := rows_of (w := w) (a := a) (len := len) (R := Reads w V0 s') (Q := Fit s') h3 (by omega) (by
            intro i hi
            have hi' := hall i hi
            rw [List.getElem?_eq_getElem (by omega)] at hi'
            obtain ⟨cs', hc1, hc2⟩ := Option.bind_eq_some_iff.1 hi'
            obtain ⟨y, hy, hf⟩ := ih _ _ h1 _ _ _ hc2
            exact ⟨cs', hc1, y, hy, hf⟩)
          subst k1
          exact ⟨ys, ⟨_, rfl, some a, cap, rfl, hlc, .inr ⟨a, rfl, id, rs, k3, k4⟩⟩, Nat.le_trans hlc hcm, fun y hy => k2 y hy⟩
    · rename_i s1 _ _ fs ht
      simp only [Bool.and_eq_true, beq_iff_eq] at h
      obtain ⟨xs, m, _, _, hl, hlen, hf⟩ := DataW.trod_struct ht hx
      have := flds_reads (n := n) (enc := enc) (w := w) (sp := sp) (held := held) (fuel := m) (fun t s h cs x hx => ih t s h m cs x hx) fs.toList s1 0 cs h.2 (by rw [hl, h.1, Nat.zero_add]) (by
        intro f hm
        obtain ⟨i, hi, he⟩ := List.mem_iff_getElem.1 hm
        have := hf i f (by rw [← he]; simp [Array.getElem?_eq_getElem (show i < fs.size from hi)])
        rw [this, List.getElem?_eq_getElem (by rw [hlen]; exact hi)]
        exact ⟨_, rfl⟩)
      simpa using this
    · cases h

/-- is it kept as a bundle of cells? -/
def aggOf (P : Program) (t : TypeId) : Bool := match P.underlying t with
  | some (.struct _) => true
  | some (.array ..) => true
  | _ => false

def argsOk (P : Program) (n : Nat) : List TypeId → List PSh → Bool
  | [], [] => true
  | t :: ts, .val agg s :: ps => decide (aggOf P t = agg) && shOk P n t s && argsOk P n ts ps
  | _, _ => false

def FitL : (ps : List PSh) → ElL ps → Prop
  | [], _ => True
  | p :: ps, x => Fit p.sh x.1 ∧ FitL ps x.2

theorem Reads.plain {V : Nat → Prop} : ∀ (s : Sh) (x : El s) (cs : List Value), Reads w V s x cs → ∀ u ∈ cs, Plain u
  | .int _, _, _, h, u, hu => by rw [show _ = _ from h] at hu; rw [List.mem_singleton.1 hu]; trivial
  | .bool, _, _, h, u, hu => by rw [show _ = _ from h] at hu; rw [List.mem_singleton.1 hu]; trivial
  | .str, _, _, h, u, hu => by rw [show _ = _ from h] at hu; rw [List.mem_singleton.1 hu]; trivial
  | .sl _, _, _, ⟨c, h, hs⟩, u, hu => by rw [h] at hu; rw [List.mem_singleton.1 hu]; exact hs.isSlice
  | .own _, _, _, ⟨c, h, hs⟩, u, hu => by rw [h] at hu; rw [List.mem_singleton.1 hu]; exact hs.isSlice
  | .pair a b, _, _, ⟨c1, c2, h, h1, h2⟩, u, hu => by
    rw [h] at hu
    rcases List.mem_append.1 hu with hu | hu
    · exact Reads.plain a _ _ h1 u hu
    · exact Reads.plain b _ _ h2 u hu
  | .unit, _, _, h, u, hu => by rw [show _ = _ from h] at hu; cases hu

/-- a shape that a program's type reads as owns nothing -/
theorem shOk_holds {V : Nat → Prop} : ∀ (s : Sh) (x : El s) (cs : List Value), s.owns = 0 → Reads w V s x cs → HoldsS w V s x cs []
  | .int _, _, _, _, h => ⟨h, rfl⟩
  | .bool, _, _, _, h => ⟨h, rfl⟩
  | .str, _, _, _, h => ⟨h, rfl⟩
  | .sl _, _, _, _, h => ⟨h, rfl⟩
  | .own _, _, _, h, _ => by cases h
  | .pair a b, _, _, h, ⟨c1, c2, he, h1, h2⟩ => by
    have h : a.owns + b.owns = 0 := h
    exact ⟨c1, c2, [], [], he, rfl, shOk_holds a _ _ (by omega) h1, shOk_holds b _ _ (by omega) h2⟩
  | .unit, _, _, _, h => ⟨h, rfl⟩

theorem fldsOk_owns {r : TypeId → Sh → Bool} (ih : ∀ t s, r t s = true → s.owns = 0) : ∀ (fs : List Field) (s : Sh) (off : Nat), fldsOk r P fs s off = true → s.owns = 0
  | [], _, _, h => by simp [fldsOk] at h
  | [f], s, off, h => by
    simp only [fldsOk, Bool.and_eq_true, beq_iff_eq] at h
    exact ih _ _ h.2
  | f :: g :: l, .pair a b, off, h => by
    simp only [fldsOk, Bool.and_eq_true, beq_iff_eq] at h
    have h1 := ih _ _ h.1.2
    have h2 := fldsOk_owns ih (g :: l) b _ h.2
    show a.owns + b.owns = 0
    omega
  | _ :: _ :: _, .int _, _, h => by simp [fldsOk] at h
  | _ :: _ :: _, .bool, _, h => by simp [fldsOk] at h
  | _ :: _ :: _, .str, _, h => by simp [fldsOk] at h
  | _ :: _ :: _, .sl _, _, h => by simp [fldsOk] at h
  | _ :: _ :: _, .own _, _, h => by simp [fldsOk] at h
  | _ :: _ :: _, .unit, _, h => by simp [fldsOk] at h

theorem shOk_owns : ∀ (n : Nat) (t : TypeId) (s : Sh), shOk P n t s = true → s.owns = 0 := by
  intro n
  induction n with
  | zero => intro t s h; cases h
  | succ n ih =>
    intro t s h
    simp only [shOk] at h
    split at h
    · rfl
    · rfl
    · rfl
    · rfl
    · simp only [Bool.and_eq_true] at h
      exact fldsOk_owns ih _ _ _ h.2
    · cases h

theorem args_hold {n base : Nat} : ∀ {ts : List TypeId} {ps : List PSh} {vs : List Value} {ds : List (DataW H)} {q : List MemPlace}, argsOk P n ts ps = true → DataW.TrodAll enc P w 0 sp held ts vs ds q →
    (∀ (j : Nat) t v, ts[j]? = some t → vs[j]? = some v → Value.okWide P w .any base t v) → ∃ x : ElL ps, HoldsL w V0 ps x vs [] ∧ FitL ps x
  | [], [], vs, ds, q, _, h, _ => by
    obtain ⟨rfl, rfl, rfl⟩ := trodAll_nil h
    exact ⟨(), ⟨rfl, rfl⟩, trivial⟩
  | t :: ts, .val agg s :: ps, vs, ds, q, ho, h, hv => by
    obtain ⟨v, vs1, d, ds1, a, b, rfl, rfl, rfl, h1, h2⟩ := trodAll_cons h
    simp only [argsOk, Bool.and_eq_true, decide_eq_true_eq] at ho
    obtain ⟨⟨o1, o2⟩, o3⟩ := ho
    obtain ⟨x2, hx2, hf2⟩ := args_hold o3 h2 (fun j t' v' e1 e2 => hv (j + 1) t' v' (by simpa using e1) (by simpa using e2))
    obtain ⟨fuel, h1⟩ := h1
    obtain ⟨y, hy, hf⟩ := trod_reads n t s o2 fuel _ _ h1
    have hval := hv 0 t v rfl rfl
    have hiv : IsVal agg v.cells.toList v := by
      unfold aggOf at o1
      unfold Value.okWide at hval
      subst o1
      split
      · rename_i fs ht
        rw [ht] at hval
        obtain ⟨cs, rfl, _⟩ := hval
        simp [IsVal, Value.cells]
      · rename_i k e ht
        rw [ht] at hval
        obtain ⟨cs, rfl, _⟩ := hval
        simp [IsVal, Value.cells]
      · rename_i hn1 hn2
        have hnag : ∀ cs, v ≠ .agg cs := by
          intro cs he
          subst he
          split at hval
          · rename_i ht; exact hn1 _ ht
          · rename_i ht; exact hn2 _ _ ht
          · unfold Cell.okWide at hval
            split at hval <;> try (rename_i h' ; cases h')
            unfold Cell.ok at hval
            split at hval <;> first | (rename_i h'; cases h'; done) | exact hval
        cases v <;> first | rfl | exact absurd rfl (hnag _)
    refine ⟨(y, x2), ⟨v, vs1, [], [], rfl, rfl, ⟨_, hiv, Reads.plain s y _ hy, shOk_holds s y _ (shOk_owns n t s o2) hy⟩, hx2⟩, hf, hf2⟩
  | [], _ :: _, _, _, _, h, _, _ => by simp [argsOk] at h
  | _ :: _, [], _, _, _, h, _, _ => by simp [argsOk] at h
  | _ :: _, .ptr _ :: _, _, _, _, h, _, _ => by simp [argsOk] at h
  | _ :: _, .brw _ :: _, _, _, _, h, _, _ => by simp [argsOk] at h
  | _ :: _, .net _ _ :: _, _, _, _, h, _, _ => by simp [argsOk] at h
  | _ :: _, .also _ :: _, _, _, _, h, _, _ => by simp [argsOk] at h

end
end Go.Fw

namespace Go.Fw
open Go Go.ChangeShapes Go.RowKit

section
variable {H : Type} {enc : TypeId × Value → H} {P : Program}

theorem trodAll_len {w : World} {base : Nat} {sp : Nat → Bool} {held : Bool} : ∀ {ts : List TypeId} {vs : List Value} {ds : List (DataW H)} {ps : List MemPlace}, DataW.TrodAll enc P w base sp held ts vs ds ps → ds.length = ts.length
  | [], _, _, _, h => by obtain ⟨_, rfl, _⟩ := trodAll_nil h; rfl
  | _ :: _, _, _, _, h => by
    obtain ⟨_, _, _, _, _, _, _, rfl, _, _, h2⟩ := trodAll_cons h
    simp [trodAll_len h2]

/-- an argument that was read before reads so behind a call that leaves what was there -/
theorem trodAll_stays (hl : laidOutB P = true) {W W' : World} {sp' : Nat → Bool} (hsame : ∀ p : MemPlace, p.block < W.heap.size → W.sameAt W' p) :
    ∀ {ts : List TypeId} {vs : List Value} {ds : List (DataW H)} {ps : List MemPlace}, (∀ t ∈ ts, P.readableRec t = true ∧ t < P.types.size) →
      DataW.TrodAll enc P W 0 (fun _ => true) true ts vs ds ps → (∀ p ∈ ps, p.block < W.heap.size) → (∀ p ∈ ps, sp' p.block = true) → DataW.TrodAll enc P W' 0 sp' true ts vs ds ps
  | [], [], [], _, _, h, _, _ => h
  | t :: ts, v :: vs, d :: ds, _, hr, ⟨p, q, h1, h2, e⟩, hlt, hs => by
    subst e
    refine ⟨p, q, ?_, trodAll_stays hl hsame (fun t ht => hr t (List.mem_cons_of_mem _ ht)) h2 (fun x hx => hlt x (List.mem_append_right _ hx)) (fun x hx => hs x (List.mem_append_right _ hx)), rfl⟩
    exact WideElems.Trod_stays hl (hr t (List.mem_cons_self ..)).1 (hr t (List.mem_cons_self ..)).2 h1 (fun x hx => hsame x (hlt x (List.mem_append_left _ hx))) (fun x hx => hs x (List.mem_append_left _ hx))
  | [], [], _ :: _, _, _, h, _, _ => h.elim
  | [], _ :: _, _, _, _, h, _, _ => h.elim
  | _ :: _, [], _, _, _, h, _, _ => h.elim
  | _ :: _, _ :: _, [], _, _, h, _, _ => h.elim

theorem heap_same {W W' : World} (hf : ∀ (b : Nat) o, W.heap[b]? = some o → W'.heap[b]? = some o) (b : Nat) (hb : b < W.heap.size) : W'.heap[b]? = W.heap[b]? := by
  have e : W.heap[b]? = some W.heap[b] := Array.getElem?_eq_getElem hb
  rw [e]; exact hf b _ e

theorem same_at {W W' : World} (hf : ∀ (b : Nat) o, W.heap[b]? = some o → W'.heap[b]? = some o) {p : MemPlace} (hp : p.block < W.heap.size) : W.sameAt W' p := by
  cases p with
  | cell b o => exact World.cell?_of_block (w := W) (heap_same hf b hp)
  | map b => exact heap_same hf b hp

theorem kept_all {W W' : World} (hf : ∀ (b : Nat) o, W.heap[b]? = some o → W'.heap[b]? = some o) (hq : Quiet W W') (may : MemPlace → Prop) : W.keptBut W' may := by
  refine ⟨hq.1, hq.2, fun i hi => ?_⟩
  rw [heap_same hf i hi]
  split <;> simp_all

theorem also_vals {n : Nat} {pl : Places} : ∀ {ts : List TypeId} {ps : List PSh} {vs : List Value}, argsOk P n ts ps = true → AlsoP pl ps vs
  | [], [], vs, _ => by cases vs <;> trivial
  | t :: ts, .val agg s :: ps, [], _ => trivial
  | t :: ts, .val agg s :: ps, v :: vs, h => by
    simp only [argsOk, Bool.and_eq_true] at h
    exact also_vals (ts := ts) (ps := ps) h.2
  | [], _ :: _, _, h => by simp [argsOk] at h
  | _ :: _, [], _, h => by simp [argsOk] at h
  | _ :: _, .ptr _ :: _, _, h => by simp [argsOk] at h
  | _ :: _, .brw _ :: _, _, h => by simp [argsOk] at h
  | _ :: _, .net _ _ :: _, _, h => by simp [argsOk] at h
  | _ :: _, .also _ :: _, _, h => by simp [argsOk] at h

/-- THE LAW'S END: what a contract that answers true gives the statement -/
theorem law_post {P : Program} {g : FuncId} {fn : Func} {s : ChangeSpec} {ps : List PSh} {W : World} {base : Nat} {args : Array Value} {ds gs : List (DataW H)} {before : List MemPlace} {n : Nat} {tr : TypeId}
    (hl : laidOutB P = true) (hr0 : (fn.params.toList.all fun t => P.readableRec t && decide (t < P.types.size)) = true) (hok : argsOk P n fn.params.toList ps = true) (hres : fn.resultTypes = #[tr]) (hbool : P.underlying tr = some .bool)
    (hs : s.vars = []) (hfn0 : ds.length = fn.params.toList.length → gs = [] → (s.fn H (ds ++ gs)).results = [.lit (.bool true)] ∧ (s.fn H (ds ++ gs)).args = ds ∧ (s.fn H (ds ++ gs)).vars = [])
    (hval : ∀ (j : Nat) t v, fn.params[j]? = some t → args[j]? = some v → Value.okWide P W .any base t v)
    (hW : DataW.Whole enc P fn.params.toList s.vars false W args.toList ds gs before)
    (hc : ∀ x : ElL ps, FitL ps x → ∃ u, Con P g ⟨ps, [.val false .bool]⟩ x ((true, ()), u)) :
    Calls P g args W fun e W' => ∃ v, e = .returned v ∧ s.post enc P fn false true false false W args v W' := by
  have hWhole := hW
  obtain ⟨p, q, hA, hV, rfl, hfz, hnd⟩ := hW
  rw [hs] at hV
  have hr : ∀ t ∈ fn.params.toList, P.readableRec t = true ∧ t < P.types.size := fun t ht => by
    have := List.all_eq_true.1 hr0 t ht
    simpa only [Bool.and_eq_true, decide_eq_true_eq] using this
  have hg : gs = [] := by
    cases gs with
    | nil => rfl
    | cons g gs => exact hV.elim
  have hfn := hfn0 (trodAll_len hA) hg
  obtain ⟨x, hx, hfit⟩ := args_hold hok hA (fun j t v e1 e2 => hval j t v (by simpa using e1) (by simpa using e2))
  obtain ⟨u, hcon⟩ := hc x hfit
  have hcall := hcon W V0 args.toList [] hx (also_vals hok) (by simp [fpOf]) (by simp [fpOf]) (fun _ h => h.elim)
  refine hcall.mono ?_
  rintro e W' ⟨rs, p1, p2, rfl, h1, h2, -, -, hM⟩
  obtain ⟨v, us, q1, q2, rfl, rfl, ⟨vs, hiv, -, hb, hq⟩, hn1, hn2⟩ := h1
  subst hn1
  have hv : v = .bool true := by
    have hiv : vs = [v] := hiv
    rw [hiv] at hb
    simpa using hb
  subst hv
  have hf : ∀ (b : Nat) o, W.heap[b]? = some o → W'.heap[b]? = some o := fun b o h => hM.frame b o (by simp [fpOf]) h
  have hlt : ∀ x ∈ p, x.block < W.heap.size := fun x hx => hWhole.lt x (List.mem_append_left _ hx)
  refine ⟨.bool true, rfl, ds, gs, p ++ q, [], p, q, hWhole, ?_, ?_, ?_, kept_all hf hM.quiet _, fun h => by cases h⟩
  · rw [hfn.1, hres]
    exact trodAll_mk1 (shut_bool hbool true)
  · rw [hfn.2.1]
    exact trodAll_stays hl (fun x hx => same_at hf hx) hr hA hlt (fun x hx => by simpa using hlt x hx)
  · rw [hfn.2.2, hs]
    subst hg
    exact hV

end
end Go.Fw

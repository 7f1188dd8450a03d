/- F1: the framework: a typed evaluator over the program form, with its soundness, by parts. -/
import Derived.Calls
import Derived.KernelRfl
import Derived.Laws.Sem
import Derived.Laws.StructEq
namespace Go.Fw
open Go

/-! ## shapes, pure values -/
inductive Sh where
  | int (k : IntKind)
  | bool
  | str
  | sl (e : Sh)
  | own (e : Sh)
  | pair (a b : Sh)
  | unit
  deriving DecidableEq

@[reducible] def El : Sh → Type
  | .int _ => Int
  | .bool => Bool
  | .str => ByteArray
  | .sl e => List (El e)
  | .own e => List (El e)
  | .pair a b => El a × El b
  | .unit => Unit

def Sh.size : Sh → Nat
  | .pair a b => a.size + b.size
  | .unit => 0
  | _ => 1

/-! ## memory -/
/-- n cells from an address on -/
def rowAt (w : World) (p : Addr) (n : Nat) (rs : List Value) : Prop :=
  ∃ vs ty fr, w.heap[p.block]? = some (.cells vs ty fr) ∧ p.spot = none ∧ p.off + n ≤ vs.size ∧ (vs.toList.drop p.off).take n = rs

def RowsR {α : Type} (n : Nat) (R : α → List Value → Prop) : List α → List Value → Prop
  | [], cs => cs = []
  | x :: xs, cs => n ≤ cs.length ∧ R x (cs.take n) ∧ RowsR n R xs (cs.drop n)

def SliceR {α : Type} (w : World) (V : Nat → Prop) (n : Nat) (R : α → List Value → Prop) (xs : List α) (c : Value) : Prop :=
  ∃ a cap, c = .slice a xs.length cap ∧ xs.length ≤ cap ∧
    (xs = [] ∨ ∃ p, a = some p ∧ ¬ V p.block ∧ ∃ rs, rowAt w p (xs.length * n) rs ∧ RowsR n R xs rs)

def Reads (w : World) (V : Nat → Prop) : (s : Sh) → El s → List Value → Prop
  | .int k, x, cs => cs = [.int k x]
  | .bool, x, cs => cs = [.bool x]
  | .str, x, cs => cs = [.string x]
  | .sl e, xs, cs => ∃ c, cs = [c] ∧ SliceR w V e.size (Reads w V e) xs c
  | .own e, xs, cs => ∃ c, cs = [c] ∧ SliceR w V e.size (Reads w V e) xs c
  | .pair a b, x, cs => ∃ c1 c2, cs = c1 ++ c2 ∧ Reads w V a x.1 c1 ∧ Reads w V b x.2 c2
  | .unit, _, cs => cs = []

theorem RowsR.mono {α : Type} {n : Nat} {R R' : α → List Value → Prop} (h : ∀ x cs, R x cs → R' x cs) :
    ∀ (xs : List α) (cs : List Value), RowsR n R xs cs → RowsR n R' xs cs
  | [], _, hc => hc
  | _ :: xs, _, ⟨a, b, c⟩ => ⟨a, h _ _ b, RowsR.mono h xs _ c⟩

/-- what is read stays as it is -/
def Same (V V' : Nat → Prop) (w w' : World) : Prop :=
  ∀ b o, ¬ V b → w.heap[b]? = some o → ¬ V' b ∧ w'.heap[b]? = some o

theorem rowAt.same {w w' : World} {V V' : Nat → Prop} (h : Same V V' w w') {p : Addr} {n : Nat} {rs : List Value} (hv : ¬ V p.block)
    (hr : rowAt w p n rs) : rowAt w' p n rs := by
  obtain ⟨vs, ty, fr, h1, h2⟩ := hr
  exact ⟨vs, ty, fr, (h _ _ hv h1).2, h2⟩

theorem SliceR.same {α : Type} {w w' : World} {V V' : Nat → Prop} (h : Same V V' w w') {n : Nat} {R R' : α → List Value → Prop}
    (hR : ∀ x cs, R x cs → R' x cs) {xs : List α} {c : Value} (hs : SliceR w V n R xs c) : SliceR w' V' n R' xs c := by
  obtain ⟨a, cap, rfl, hc, hx⟩ := hs
  refine ⟨a, cap, rfl, hc, ?_⟩
  rcases hx with hx | ⟨p, rfl, hv, rs, hr, hrs⟩
  · exact .inl hx
  · right
    obtain ⟨vs, ty, fr, h1, h2⟩ := hr
    have := h _ _ hv h1
    exact ⟨p, rfl, this.1, rs, ⟨vs, ty, fr, this.2, h2⟩, RowsR.mono hR _ _ hrs⟩

theorem Reads.same {w w' : World} {V V' : Nat → Prop} (h : Same V V' w w') : ∀ (s : Sh) (x : El s) (cs : List Value), Reads w V s x cs → Reads w' V' s x cs
  | .int _, _, _, hr => hr
  | .bool, _, _, hr => hr
  | .str, _, _, hr => hr
  | .sl e, _, _, ⟨c, hc, hs⟩ => ⟨c, hc, SliceR.same h (Reads.same h e) hs⟩
  | .own e, _, _, ⟨c, hc, hs⟩ => ⟨c, hc, SliceR.same h (Reads.same h e) hs⟩
  | .pair a b, _, _, ⟨c1, c2, hc, h1, h2⟩ => ⟨c1, c2, hc, Reads.same h a _ _ h1, Reads.same h b _ _ h2⟩
  | .unit, _, _, hr => hr

theorem Reads.length {w : World} {V : Nat → Prop} : ∀ (s : Sh) (x : El s) (cs : List Value), Reads w V s x cs → cs.length = s.size
  | .int _, _, _, hr => by rw [show _ = _ from hr]; rfl
  | .bool, _, _, hr => by rw [show _ = _ from hr]; rfl
  | .str, _, _, hr => by rw [show _ = _ from hr]; rfl
  | .sl _, _, _, ⟨_, hc, _⟩ => by rw [hc]; rfl
  | .own _, _, _, ⟨_, hc, _⟩ => by rw [hc]; rfl
  | .pair a b, _, _, ⟨c1, c2, hc, h1, h2⟩ => by rw [hc, List.length_append, Reads.length a _ _ h1, Reads.length b _ _ h2]; rfl
  | .unit, _, _, hr => by rw [show _ = _ from hr]; rfl

theorem RowsR.length {α : Type} {n : Nat} {R : α → List Value → Prop} : ∀ (xs : List α) (cs : List Value), RowsR n R xs cs → cs.length = xs.length * n
  | [], _, h => by rw [show _ = _ from h]; simp
  | x :: xs, cs, ⟨a, _, c⟩ => by
    have := RowsR.length xs _ c
    rw [List.length_drop] at this
    simp only [List.length_cons, Nat.succ_mul]; omega

theorem RowsR.get {α : Type} {n : Nat} {R : α → List Value → Prop} : ∀ (xs : List α) (cs : List Value), RowsR n R xs cs → ∀ (i : Nat) (x : α), xs[i]? = some x →
    R x ((cs.drop (i * n)).take n)
  | [], _, _, i, x, hx => by simp at hx
  | y :: xs, cs, ⟨_, b, c⟩, i, x, hx => by
    cases i with
    | zero => simp at hx; subst hx; simpa using b
    | succ i =>
      have := RowsR.get xs _ c i x (by simpa using hx)
      rw [List.drop_drop] at this
      rwa [Nat.succ_mul, Nat.add_comm]

theorem RowsR.append {α : Type} {n : Nat} {R : α → List Value → Prop} : ∀ (xs ys : List α) (cs ds : List Value), RowsR n R xs cs → RowsR n R ys ds →
    RowsR n R (xs ++ ys) (cs ++ ds)
  | [], _, cs, _, h, h' => by rw [show cs = [] from h]; exact h'
  | x :: xs, ys, cs, ds, ⟨a, b, c⟩, h' => by
    refine ⟨by rw [List.length_append]; omega, by rwa [List.take_append_of_le_length a], ?_⟩
    rw [List.drop_append_of_le_length a]
    exact RowsR.append xs ys _ ds c h'

theorem RowsR.take {α : Type} {n : Nat} {R : α → List Value → Prop} : ∀ (xs : List α) (cs : List Value), RowsR n R xs cs → ∀ k, RowsR n R (xs.take k) (cs.take (k * n))
  | [], cs, h, k => by rw [show cs = [] from h]; simp [RowsR]
  | x :: xs, cs, ⟨a, b, c⟩, k => by
    cases k with
    | zero => simp [RowsR]
    | succ k =>
      have := RowsR.take xs _ c k
      refine ⟨by rw [List.length_take, Nat.succ_mul]; omega, by rw [List.take_take, Nat.min_eq_left (by rw [Nat.succ_mul]; omega)]; exact b, ?_⟩
      rw [List.drop_take]
      have e : (k + 1) * n - n = k * n := by rw [Nat.succ_mul]; omega
      rw [e]; exact this

theorem RowsR.drop {α : Type} {n : Nat} {R : α → List Value → Prop} : ∀ (xs : List α) (cs : List Value), RowsR n R xs cs → ∀ k, RowsR n R (xs.drop k) (cs.drop (k * n))
  | [], cs, h, k => by rw [show cs = [] from h]; simp [RowsR]
  | x :: xs, cs, ⟨a, b, c⟩, k => by
    cases k with
    | zero => simpa using ⟨a, b, c⟩
    | succ k =>
      have := RowsR.drop xs _ c k
      rw [List.drop_drop] at this
      rw [Nat.succ_mul, Nat.add_comm (k * n) n]
      simpa using this

theorem RowsR.set {α : Type} {n : Nat} {R : α → List Value → Prop} : ∀ (xs : List α) (cs : List Value), RowsR n R xs cs → ∀ (i : Nat) (x : α) (ds : List Value), i < xs.length →
    ds.length = n → R x ds → RowsR n R (xs.set i x) (cs.take (i * n) ++ ds ++ cs.drop (i * n + n))
  | [], _, _, i, _, _, hi, _, _ => by simp at hi
  | y :: xs, cs, ⟨a, b, c⟩, i, x, ds, hi, hd, hx => by
    cases i with
    | zero =>
      simp only [List.set_cons_zero, Nat.zero_mul, List.take_zero, List.nil_append, Nat.zero_add]
      refine ⟨by rw [List.length_append]; omega, ?_, ?_⟩
      · rw [List.take_append_of_le_length (by omega), List.take_of_length_le (by omega)]; exact hx
      · rw [List.drop_append_of_le_length (by omega), List.drop_of_length_le (by omega)]; exact c
    | succ i =>
      have := RowsR.set xs _ c i x ds (by simpa using hi) hd hx
      have hl := RowsR.length xs _ c
      rw [List.length_drop] at hl
      have hi' : i < xs.length := by simpa using hi
      have hin : i * n + n ≤ xs.length * n := by rw [← Nat.succ_mul]; exact Nat.mul_le_mul_right n hi'
      simp only [List.set_cons_succ]
      have e1 : cs.take ((i + 1) * n) = cs.take n ++ (cs.drop n).take (i * n) := by
        rw [Nat.succ_mul, Nat.add_comm, List.take_add]
      have e2 : cs.drop ((i + 1) * n + n) = (cs.drop n).drop (i * n + n) := by
        rw [List.drop_drop]; congr 1; rw [Nat.succ_mul]; omega
      rw [e1, e2, List.append_assoc, List.append_assoc]
      refine ⟨by simp only [List.length_append, List.length_take]; omega, ?_, ?_⟩
      · rw [List.take_append_of_le_length (by rw [List.length_take]; omega), List.take_take, Nat.min_self]; exact b
      · rw [List.drop_append_of_le_length (by rw [List.length_take]; omega), List.drop_of_length_le (by rw [List.length_take]; omega), List.nil_append, ← List.append_assoc]
        exact this

end Go.Fw

namespace Go.Fw
open Go

/-! ## abstract cells, values, objects, states -/
inductive Cell where
  | int (k : IntKind) (n : Int)
  | bool (b : Bool)
  | str (s : ByteArray)
  | fn (f : FuncId)
  | lit (v : Value)
  | nils
  | sl (e : Sh) (xs : List (El e))
  | own (id : Nat)
  | sub (id : Nat) (off len : Nat)
  | ptr (id : Nat) (off : Nat)
  | eptr (id : Nat) (i : Nat) (off : Nat)
  | sptr (e : Sh) (x : El e) (off : Nat)
  | clo (f : FuncId) (ids : List Nat)

inductive AV where
  | cs (agg : Bool) (l : List Cell)
  | tup (l : List (Bool × List Cell))
  | undef

inductive Ob where
  /-- a variable; its name, if it bears one that lasts -/
  | var (nm : Option Nat) (cs : List Cell)
  | row (e : Sh) (xs : List (El e)) (wr : Bool)
  | dead

def Ob.wr : Ob → Bool
  | .var _ _ => true
  | .row _ _ b => b
  | .dead => false

structure AS where
  slots : Nat → AV
  objs : Nat → Option Ob

abbrev Mu := Nat → Option (Nat × Nat)

def Thawed (fr : Nat × Nat) (n : Nat) : Prop := ∀ k, k < n → (decide (fr.1 ≤ k) && decide (k < fr.2)) = false

/-- a slice's value: its cells lie in a block of its own -/
def OwnRef (w : World) (m : Option (Nat × Nat)) (n off len : Nat) (c : Value) : Prop :=
  ∃ a cap, c = .slice a len cap ∧ len ≤ cap ∧
    match m with
    | none => cap = 0
    | some (b, o) => (cap = 0 ∨ a = some ⟨b, o + off * n, none⟩) ∧ ∃ vs ty fr, w.heap[b]? = some (.cells vs ty fr) ∧ o + (off + cap) * n ≤ vs.size

/-- one cell's value -/
def Plain : Value → Prop
  | .agg _ => False
  | .tuple _ => False
  | _ => True

/-- a pointer to a variable -/
def PtrR (μ : Mu) (objs : Nat → Option Ob) (id off : Nat) (c : Value) : Prop :=
  (objs id).isSome = true ∧ ∀ cs nm, objs id = some (.var nm cs) → ∃ b o, μ id = some (b, o) ∧ c = .pointer (some ⟨b, o + off, none⟩)

def PtrsR (μ : Mu) (objs : Nat → Option Ob) : List Nat → List Value → Prop
  | [], cs => cs = []
  | i :: is, cs => ∃ v r, cs = v :: r ∧ Plain v ∧ PtrR μ objs i 0 v ∧ PtrsR μ objs is r

def CellR (w : World) (V : Nat → Prop) (μ : Mu) (objs : Nat → Option Ob) : Cell → Value → Prop
  | .int k n, c => c = .int k n
  | .bool b, c => c = .bool b
  | .str s, c => c = .string s
  | .fn f, c => c = .func (.func f) #[] #[]
  | .lit v, c => c = v
  | .nils, c => ∃ a, c = .slice a 0 0
  | .sl e xs, c => SliceR w V e.size (Reads w V e) xs c
  | .own id, c => (objs id).isSome = true ∧ ∀ e xs wr, objs id = some (.row e xs wr) → OwnRef w (μ id) e.size 0 xs.length c
  | .sub id off len, c => (objs id).isSome = true ∧ ∀ e xs wr, objs id = some (.row e xs wr) → off + len ≤ xs.length ∧ OwnRef w (μ id) e.size off len c
  | .ptr id off, c => PtrR μ objs id off c
  | .eptr id i off, c => (objs id).isSome = true ∧ ∀ e xs wr, objs id = some (.row e xs wr) → ∃ b o, μ id = some (b, o) ∧ c = .pointer (some ⟨b, o + i * e.size + off, none⟩)
  | .sptr e x off, c => ∃ p rs, c = .pointer (some ⟨p.block, p.off + off, none⟩) ∧ ¬ V p.block ∧ rowAt w p e.size rs ∧ Reads w V e x rs
  | .clo f ids, c => ∃ cs : List Value, c = .func (.func f) #[] cs.toArray ∧ PtrsR μ objs ids cs


def CellsR (w : World) (V : Nat → Prop) (μ : Mu) (objs : Nat → Option Ob) : List Cell → List Value → Prop
  | [], vs => vs = []
  | c :: cs, vs => ∃ v r, vs = v :: r ∧ Plain v ∧ CellR w V μ objs c v ∧ CellsR w V μ objs cs r

def IsVal (agg : Bool) (vs : List Value) (v : Value) : Prop :=
  match agg with
  | true => v = .agg vs.toArray
  | false => vs = [v]

def TupR (w : World) (V : Nat → Prop) (μ : Mu) (objs : Nat → Option Ob) : List (Bool × List Cell) → List Value → Prop
  | [], vs => vs = []
  | (a, cs) :: l, vs => ∃ v r us, vs = v :: r ∧ IsVal a us v ∧ CellsR w V μ objs cs us ∧ TupR w V μ objs l r

def AVR (w : World) (V : Nat → Prop) (μ : Mu) (objs : Nat → Option Ob) : AV → Value → Prop
  | .cs agg l, v => ∃ vs, IsVal agg vs v ∧ CellsR w V μ objs l vs
  | .tup l, v => ∃ vs : List Value, v = .tuple vs.toArray ∧ TupR w V μ objs l vs
  | .undef, _ => True

def ObR (w : World) (V : Nat → Prop) (μ : Mu) (objs : Nat → Option Ob) (id : Nat) : Ob → Prop
  | .var _ cs => ∃ b vs ty fr, μ id = some (b, 0) ∧ w.heap[b]? = some (.cells vs ty fr) ∧ Thawed fr vs.size ∧ CellsR w V μ objs cs vs.toList
  | .row e xs wr => (μ id = none ∧ xs = []) ∨
      ∃ b o vs ty fr, μ id = some (b, o) ∧ w.heap[b]? = some (.cells vs ty fr) ∧ (wr = true → Thawed fr vs.size) ∧ (wr = false → ¬ V b) ∧
        o + xs.length * e.size ≤ vs.size ∧ RowsR e.size (Reads w V e) xs ((vs.toList.drop o).take (xs.length * e.size))
  | .dead => True

/-- the blocks that a run may write, and those that it names -/
structure Own where
  bs : List Nat
  nm : Nat → Nat

instance : Membership Nat Own := ⟨fun S b => b ∈ S.bs⟩

/-- nothing is said outside -/
def Quiet (w w' : World) : Prop := w'.os = w.os ∧ w'.output = w.output
theorem Quiet.trans {a b c : World} (h : Quiet a b) (k : Quiet b c) : Quiet a c := ⟨k.1.trans h.1, k.2.trans h.2⟩

structure RelM (w0 : World) (U : Nat → Prop) (S : Own) (σ : AS) (a : Act) (w : World) (V : Nat → Prop) (μ : Mu) : Prop where
  slots : ∀ t, AVR w V μ σ.objs (σ.slots t) (a.tmps.getD t undef)
  objs : ∀ id o, σ.objs id = some o → ObR w V μ σ.objs id o
  inj : ∀ id id' o o' b x x', σ.objs id = some o → σ.objs id' = some o' → o.wr = true → o'.wr = true → μ id = some (b, x) → μ id' = some (b, x') → id = id'
  orig : ∀ id o b x, σ.objs id = some o → o.wr = true → μ id = some (b, x) → b ∈ S ∨ w0.heap.size ≤ b
  inV : ∀ id o b x, σ.objs id = some o → o.wr = true → μ id = some (b, x) → V b
  frame : ∀ b o, b ∉ S → w0.heap[b]? = some o → w.heap[b]? = some o
  sizes : ∀ (b : Nat) vs ty fr, w0.heap[b]? = some (.cells vs ty fr) → ∃ vs' ty' fr', w.heap[b]? = some (.cells vs' ty' fr') ∧ vs'.size = vs.size
  grow : w0.heap.size ≤ w.heap.size
  vlt : ∀ b, V b → b < w.heap.size
  ult : ∀ b, U b → b < w0.heap.size
  uv : ∀ b, U b → b ∉ S → V b
  defers : a.defers = []
  quiet : Quiet w0 w
  named : ∀ id k cs, σ.objs id = some (.var (some k) cs) → μ id = some (S.nm k, 0)

def Rel (N : Nat) (w0 : World) (U : Nat → Prop) (S : Own) (σ : AS) (a : Act) (w : World) : Prop :=
  N ≤ a.tmps.size ∧ ∃ V μ, RelM w0 U S σ a w V μ

/-! ### what is kept when the world turns elsewhere -/
theorem CellR.plain {w : World} {V : Nat → Prop} {μ : Mu} {objs : Nat → Option Ob} : ∀ {cs : List Cell} {vs : List Value}, CellsR w V μ objs cs vs → ∀ v ∈ vs, Plain v
  | [], _, h, v, hv => by rw [show _ = _ from h] at hv; cases hv
  | _ :: _, _, ⟨_, _, rfl, hp, _, hr⟩, v, hv => by
    cases hv with
    | head => exact hp
    | tail _ hm => exact CellR.plain hr v hm

theorem CellsR.length {w : World} {V : Nat → Prop} {μ : Mu} {objs : Nat → Option Ob} : ∀ {cs : List Cell} {vs : List Value}, CellsR w V μ objs cs vs → vs.length = cs.length
  | [], _, h => by rw [show _ = _ from h]; rfl
  | _ :: _, _, ⟨_, _, rfl, _, _, hr⟩ => by simp [CellsR.length hr]

theorem CellsR.append {w : World} {V : Nat → Prop} {μ : Mu} {objs : Nat → Option Ob} : ∀ {cs ds : List Cell} {vs us : List Value},
    CellsR w V μ objs cs vs → CellsR w V μ objs ds us → CellsR w V μ objs (cs ++ ds) (vs ++ us)
  | [], _, _, _, h, h' => by rw [show _ = _ from h]; exact h'
  | _ :: _, _, _, _, ⟨v, r, rfl, hp, hc, hr⟩, h' => ⟨v, _, rfl, hp, hc, CellsR.append hr h'⟩

theorem CellsR.split {w : World} {V : Nat → Prop} {μ : Mu} {objs : Nat → Option Ob} : ∀ {cs ds : List Cell} {vs : List Value},
    CellsR w V μ objs (cs ++ ds) vs → ∃ us ts, vs = us ++ ts ∧ CellsR w V μ objs cs us ∧ CellsR w V μ objs ds ts
  | [], _, vs, h => ⟨[], vs, rfl, rfl, h⟩
  | _ :: _, _, _, ⟨v, _, rfl, hp, hc, hr⟩ => by
    obtain ⟨us, ts, rfl, h1, h2⟩ := CellsR.split hr
    exact ⟨v :: us, ts, rfl, ⟨v, us, rfl, hp, hc, h1⟩, h2⟩

theorem CellsR.take {w : World} {V : Nat → Prop} {μ : Mu} {objs : Nat → Option Ob} {cs : List Cell} {vs : List Value} (n : Nat)
    (h : CellsR w V μ objs cs vs) : CellsR w V μ objs (cs.take n) (vs.take n) := by
  obtain ⟨us, ts, rfl, h1, h2⟩ := CellsR.split (cs := cs.take n) (ds := cs.drop n) (by rwa [List.take_append_drop])
  have hl := CellsR.length h1
  by_cases hn : n ≤ cs.length
  · rw [List.length_take, Nat.min_eq_left hn] at hl
    have e : (us ++ ts).take n = us := by rw [List.take_append_of_le_length (by omega), List.take_of_length_le (by omega)]
    rw [e]; exact h1
  · have e : cs.drop n = [] := List.drop_of_length_le (by omega)
    rw [e] at h2
    rw [List.length_take] at hl
    have e : (us ++ ts).take n = us := by rw [show ts = [] from h2, List.append_nil, List.take_of_length_le (by omega)]
    rw [e]; exact h1

theorem CellsR.drop {w : World} {V : Nat → Prop} {μ : Mu} {objs : Nat → Option Ob} {cs : List Cell} {vs : List Value} (n : Nat)
    (h : CellsR w V μ objs cs vs) : CellsR w V μ objs (cs.drop n) (vs.drop n) := by
  have hl := CellsR.length h
  obtain ⟨us, ts, rfl, h1, h2⟩ := CellsR.split (cs := cs.take n) (ds := cs.drop n) (by rwa [List.take_append_drop])
  have hl1 := CellsR.length h1
  by_cases hn : n ≤ cs.length
  · rw [List.length_take, Nat.min_eq_left hn] at hl1
    have e : (us ++ ts).drop n = ts := by rw [List.drop_append_of_le_length (by omega), List.drop_of_length_le (by omega), List.nil_append]
    rw [e]; exact h2
  · have e : cs.drop n = [] := List.drop_of_length_le (by omega)
    rw [e] at h2 ⊢
    exact List.drop_of_length_le (by omega)

/-- two states of the memory that agree on all that the cells name -/
structure Keeps (V V' : Nat → Prop) (w w' : World) (μ μ' : Mu) (objs objs' : Nat → Option Ob) : Prop where
  same : Same V V' w w'
  there : ∀ id, (objs id).isSome = true → (objs' id).isSome = true
  row : ∀ id e xs wr, (objs id).isSome = true → objs' id = some (.row e xs wr) → (∃ xs0 wr0, objs id = some (.row e xs0 wr0) ∧ xs0.length = xs.length) ∧ μ' id = μ id ∧
    ∀ b o vs ty fr, μ id = some (b, o) → w.heap[b]? = some (.cells vs ty fr) → ∃ vs' ty' fr', w'.heap[b]? = some (.cells vs' ty' fr') ∧ vs'.size = vs.size
  var : ∀ id cs nm, (objs id).isSome = true → objs' id = some (.var nm cs) → (∃ cs0, objs id = some (.var nm cs0)) ∧ μ' id = μ id

theorem OwnRef.keeps {w w' : World} {m : Option (Nat × Nat)} {n off len : Nat} {c : Value} (h : OwnRef w m n off len c)
    (hk : ∀ b o vs ty fr, m = some (b, o) → w.heap[b]? = some (.cells vs ty fr) → ∃ vs' ty' fr', w'.heap[b]? = some (.cells vs' ty' fr') ∧ vs'.size = vs.size) :
    OwnRef w' m n off len c := by
  obtain ⟨a, cap, rfl, hl, hm⟩ := h
  refine ⟨a, cap, rfl, hl, ?_⟩
  cases m with
  | none => exact hm
  | some p =>
    obtain ⟨b, o⟩ := p
    obtain ⟨h1, vs, ty, fr, h2, h3⟩ := hm
    obtain ⟨vs', ty', fr', h4, h5⟩ := hk b o vs ty fr rfl h2
    exact ⟨h1, vs', ty', fr', h4, by rw [h5]; exact h3⟩

theorem PtrR.keeps {w w' : World} {V V' : Nat → Prop} {μ μ' : Mu} {objs objs' : Nat → Option Ob} (h : Keeps V V' w w' μ μ' objs objs') {id off : Nat} {v : Value}
    (hc : PtrR μ objs id off v) : PtrR μ' objs' id off v := by
  refine ⟨h.there id hc.1, ?_⟩
  intro cs nm ho
  obtain ⟨⟨cs0, h1⟩, h3⟩ := h.var id cs nm hc.1 ho
  obtain ⟨b, o, h4, h5⟩ := hc.2 cs0 nm h1
  exact ⟨b, o, by rw [h3]; exact h4, h5⟩

theorem PtrsR.keeps {w w' : World} {V V' : Nat → Prop} {μ μ' : Mu} {objs objs' : Nat → Option Ob} (h : Keeps V V' w w' μ μ' objs objs') : ∀ {ids : List Nat} {vs : List Value},
    PtrsR μ objs ids vs → PtrsR μ' objs' ids vs
  | [], _, hc => hc
  | _ :: _, _, ⟨v, r, e, hp, hc, hr⟩ => ⟨v, r, e, hp, hc.keeps h, hr.keeps h⟩

theorem CellR.keeps {w w' : World} {V V' : Nat → Prop} {μ μ' : Mu} {objs objs' : Nat → Option Ob} (h : Keeps V V' w w' μ μ' objs objs') {c : Cell} {v : Value}
    (hc : CellR w V μ objs c v) : CellR w' V' μ' objs' c v := by
  cases c with
  | int k n => exact hc
  | bool b => exact hc
  | str s => exact hc
  | fn f => exact hc
  | lit v => exact hc
  | nils => exact hc
  | sl e xs => exact SliceR.same h.same (Reads.same h.same e) hc
  | own id =>
    refine ⟨h.there id hc.1, ?_⟩
    intro e xs wr ho
    obtain ⟨⟨xs0, wr0, h1, h2⟩, h3, h4⟩ := h.row id e xs wr hc.1 ho
    have := hc.2 e xs0 wr0 h1
    rw [h2] at this
    rw [h3]
    exact this.keeps h4
  | sub id off len =>
    refine ⟨h.there id hc.1, ?_⟩
    intro e xs wr ho
    obtain ⟨⟨xs0, wr0, h1, h2⟩, h3, h4⟩ := h.row id e xs wr hc.1 ho
    have := hc.2 e xs0 wr0 h1
    rw [h3]
    exact ⟨by omega, this.2.keeps h4⟩
  | ptr id off => exact PtrR.keeps h hc
  | clo f ids =>
    obtain ⟨cs, h1, h2⟩ := hc
    exact ⟨cs, h1, h2.keeps h⟩
  | eptr id i off =>
    refine ⟨h.there id hc.1, ?_⟩
    intro e xs wr ho
    obtain ⟨⟨xs0, wr0, h1, _⟩, h3, _⟩ := h.row id e xs wr hc.1 ho
    obtain ⟨b, o, h4, h5⟩ := hc.2 e xs0 wr0 h1
    exact ⟨b, o, by rw [h3]; exact h4, h5⟩
  | sptr e x off =>
    obtain ⟨p, rs, rfl, hv, hr, hx⟩ := hc
    obtain ⟨vs, ty, fr, h1, h2⟩ := hr
    have := h.same _ _ hv h1
    exact ⟨p, rs, rfl, this.1, ⟨vs, ty, fr, this.2, h2⟩, Reads.same h.same e _ _ hx⟩

theorem CellsR.keeps {w w' : World} {V V' : Nat → Prop} {μ μ' : Mu} {objs objs' : Nat → Option Ob} (h : Keeps V V' w w' μ μ' objs objs') : ∀ {cs : List Cell} {vs : List Value},
    CellsR w V μ objs cs vs → CellsR w' V' μ' objs' cs vs
  | [], _, hc => hc
  | _ :: _, _, ⟨v, r, e, hp, hc, hr⟩ => ⟨v, r, e, hp, hc.keeps h, hr.keeps h⟩

theorem TupR.keeps {w w' : World} {V V' : Nat → Prop} {μ μ' : Mu} {objs objs' : Nat → Option Ob} (h : Keeps V V' w w' μ μ' objs objs') : ∀ {cs : List (Bool × List Cell)} {vs : List Value},
    TupR w V μ objs cs vs → TupR w' V' μ' objs' cs vs
  | [], _, hc => hc
  | (_, _) :: _, _, ⟨v, r, us, e, hi, hc, hr⟩ => ⟨v, r, us, e, hi, hc.keeps h, hr.keeps h⟩

theorem AVR.keeps {w w' : World} {V V' : Nat → Prop} {μ μ' : Mu} {objs objs' : Nat → Option Ob} (h : Keeps V V' w w' μ μ' objs objs') {x : AV} {v : Value}
    (hx : AVR w V μ objs x v) : AVR w' V' μ' objs' x v := by
  cases x with
  | cs agg l => obtain ⟨vs, h1, h2⟩ := hx; exact ⟨vs, h1, h2.keeps h⟩
  | tup l => obtain ⟨vs, h1, h2⟩ := hx; exact ⟨vs, h1, h2.keeps h⟩
  | undef => trivial

end Go.Fw

namespace Go.Fw
open Go

/-! ## values packed: what crosses a call, a loop's head, a join -/
def elCells : (s : Sh) → El s → List Cell
  | .int k, x => [.int k x]
  | .bool, x => [.bool x]
  | .str, x => [.str x]
  | .sl e, xs => [.sl e xs]
  | .own e, xs => [.sl e xs]
  | .pair a b, x => elCells a x.1 ++ elCells b x.2
  | .unit, _ => []

def castRow {e' e : Sh} (h : e' = e) (xs : List (El e')) : List (El e) := h ▸ xs

def readSl (objs : Nat → Option Ob) (e : Sh) : Cell → Option (List (El e) × List Nat)
  | .nils => some ([], [])
  | .sl e' xs => if h : e' = e then some (castRow h xs, []) else none
  | .own id => match objs id with
    | some (.row e' xs _) => if h : e' = e then some (castRow h xs, [id]) else none
    | _ => none
  | .sub id off len => match objs id with
    | some (.row e' xs _) => if h : e' = e then some (((castRow h xs).drop off).take len, [id]) else none
    | _ => none
  | _ => none

def takeOwn (objs : Nat → Option Ob) (e : Sh) : Cell → Option (List (El e) × Option Nat)
  | .nils => some ([], none)
  | .own id => match objs id with
    | some (.row e' xs true) => if h : e' = e then some (castRow h xs, some id) else none
    | _ => none
  | _ => none

structure Taken (s : Sh) where
  val : El s
  rest : List Cell
  lent : List Nat
  owned : List (Option Nat)

def takeInt (k : IntKind) : List Cell → Option (Taken (.int k))
  | .int k' n :: r => if k' = k then some ⟨n, r, [], []⟩ else none
  | _ => none
def takeBool : List Cell → Option (Taken .bool)
  | .bool b :: r => some ⟨b, r, [], []⟩
  | _ => none
def takeStr : List Cell → Option (Taken .str)
  | .str s :: r => some ⟨s, r, [], []⟩
  | _ => none
def takeSlice (objs : Nat → Option Ob) (e : Sh) : List Cell → Option (Taken (.sl e))
  | c :: r => match readSl objs e c with
    | some (xs, ids) => some ⟨xs, r, ids, []⟩
    | none => none
  | _ => none
def takeOwned (objs : Nat → Option Ob) (e : Sh) : List Cell → Option (Taken (.own e))
  | c :: r => match takeOwn objs e c with
    | some (xs, id) => some ⟨xs, r, [], [id]⟩
    | none => none
  | _ => none

def takeEl (objs : Nat → Option Ob) : (s : Sh) → List Cell → Option (Taken s)
  | .int k, cs => takeInt k cs
  | .bool, cs => takeBool cs
  | .str, cs => takeStr cs
  | .sl e, cs => takeSlice objs e cs
  | .own e, cs => takeOwned objs e cs
  | .pair a b, cs => match takeEl objs a cs with
    | some t => match takeEl objs b t.rest with
      | some u => some ⟨(t.val, u.val), u.rest, t.lent ++ u.lent, t.owned ++ u.owned⟩
      | none => none
    | none => none
  | .unit, cs => some ⟨(), cs, [], []⟩

def OwnRow {α : Type} (w : World) (n : Nat) (R : α → List Value → Prop) (xs : List α) (c : Value) (m : Option (Nat × Nat)) : Prop :=
  ∃ a cap, c = .slice a xs.length cap ∧ xs.length ≤ cap ∧
    match m with
    | none => xs = [] ∧ cap = 0
    | some (b, o) => (cap = 0 ∨ a = some ⟨b, o, none⟩) ∧ ∃ vs ty fr, w.heap[b]? = some (.cells vs ty fr) ∧ Thawed fr vs.size ∧ o + cap * n ≤ vs.size ∧
        RowsR n R xs ((vs.toList.drop o).take (xs.length * n))

abbrev Places := List (Option (Nat × Nat))

def HoldsS (w : World) (V : Nat → Prop) : (s : Sh) → El s → List Value → Places → Prop
  | .int k, x, cs, pl => cs = [.int k x] ∧ pl = []
  | .bool, x, cs, pl => cs = [.bool x] ∧ pl = []
  | .str, x, cs, pl => cs = [.string x] ∧ pl = []
  | .sl e, xs, cs, pl => (∃ c, cs = [c] ∧ SliceR w V e.size (Reads w V e) xs c) ∧ pl = []
  | .own e, xs, cs, pl => ∃ c m, cs = [c] ∧ pl = [m] ∧ OwnRow w e.size (Reads w V e) xs c m
  | .pair a b, x, cs, pl => ∃ c1 c2 p1 p2, cs = c1 ++ c2 ∧ pl = p1 ++ p2 ∧ HoldsS w V a x.1 c1 p1 ∧ HoldsS w V b x.2 c2 p2
  | .unit, _, cs, pl => cs = [] ∧ pl = []

theorem SliceR.isSlice {α : Type} {w : World} {V : Nat → Prop} {n : Nat} {R : α → List Value → Prop} {xs : List α} {c : Value} (h : SliceR w V n R xs c) : Plain c := by
  obtain ⟨_, _, rfl, _⟩ := h; trivial
theorem OwnRow.isSlice {α : Type} {w : World} {n : Nat} {R : α → List Value → Prop} {xs : List α} {c : Value} {m : Option (Nat × Nat)} (h : OwnRow w n R xs c m) : Plain c := by
  obtain ⟨_, _, rfl, _⟩ := h; trivial

theorem elCells_ok {w : World} {V : Nat → Prop} {μ : Mu} {objs : Nat → Option Ob} : ∀ (s : Sh) (x : El s) (cs : List Value), Reads w V s x cs → CellsR w V μ objs (elCells s x) cs
  | .int _, _, _, h => ⟨_, [], h, trivial, rfl, rfl⟩
  | .bool, _, _, h => ⟨_, [], h, trivial, rfl, rfl⟩
  | .str, _, _, h => ⟨_, [], h, trivial, rfl, rfl⟩
  | .sl _, _, _, ⟨c, h, hs⟩ => ⟨c, [], h, hs.isSlice, hs, rfl⟩
  | .own _, _, _, ⟨c, h, hs⟩ => ⟨c, [], h, hs.isSlice, hs, rfl⟩
  | .pair a b, _, _, ⟨_, _, h, h1, h2⟩ => by rw [h]; exact (elCells_ok a _ _ h1).append (elCells_ok b _ _ h2)
  | .unit, _, _, h => h

theorem castRow_rows {e' e : Sh} (h : e' = e) (xs : List (El e')) {w : World} {V : Nat → Prop} {rs : List Value} (hr : RowsR e'.size (Reads w V e') xs rs) :
    RowsR e.size (Reads w V e) (castRow h xs) rs := by subst h; exact hr
theorem castRow_length {e' e : Sh} (h : e' = e) (xs : List (El e')) : (castRow h xs).length = xs.length := by subst h; rfl
theorem castRow_nil {e' e : Sh} (h : e' = e) : castRow h ([] : List (El e')) = [] := by subst h; rfl

/-- an own row's part, read -/
theorem ObR.read {w : World} {V W : Nat → Prop} {μ : Mu} {objs : Nat → Option Ob} {id : Nat} {e : Sh} {xs : List (El e)} {wr : Bool} (h : ObR w V μ objs id (.row e xs wr))
    {off len : Nat} {c : Value} (hc : OwnRef w (μ id) e.size off len c) (hle : off + len ≤ xs.length)
    (hW : ∀ b, W b → V b) (hn : ∀ b x, μ id = some (b, x) → ¬ W b) : SliceR w W e.size (Reads w W e) ((xs.drop off).take len) c := by
  obtain ⟨a, cap, rfl, hcap, hm⟩ := hc
  have hlen : ((xs.drop off).take len).length = len := by rw [List.length_take, List.length_drop]; omega
  refine ⟨a, cap, by rw [hlen], by omega, ?_⟩
  rcases h with ⟨hmu, hx⟩ | ⟨b, o, vs, ty, fr, hmu, hb, hth, hnv, hsz, hrows⟩
  · left; rw [hx]; simp
  · rw [hmu] at hm
    obtain ⟨ha, -⟩ := hm
    by_cases h0 : len = 0
    · left; rw [h0]; simp
    · right
      have ha : a = some ⟨b, o + off * e.size, none⟩ := ha.resolve_left (by omega)
      refine ⟨_, ha, hn b o hmu, _, ⟨vs, ty, fr, hb, rfl, ?_, rfl⟩, ?_⟩
      · simp only [hlen]
        have : (off + len) * e.size ≤ xs.length * e.size := Nat.mul_le_mul_right _ hle
        rw [Nat.add_mul] at this; omega
      · rw [hlen]
        have h1 := (RowsR.take _ _ (RowsR.drop _ _ hrows off) len)
        have e1 : ((((vs.toList.drop o).take (xs.length * e.size)).drop (off * e.size)).take (len * e.size)) = (vs.toList.drop (o + off * e.size)).take (len * e.size) := by
          rw [List.drop_take, List.take_take, List.drop_drop, Nat.min_eq_left]
          have : (off + len) * e.size ≤ xs.length * e.size := Nat.mul_le_mul_right _ hle
          rw [Nat.add_mul] at this; omega
        rw [e1] at h1
        refine RowsR.mono ?_ _ _ h1
        intro x cs hx
        exact Reads.same (fun b' o' hv ho => ⟨fun hw => hv (hW _ hw), ho⟩) e x cs hx

theorem readSl_ok {w : World} {V W : Nat → Prop} {μ : Mu} {objs : Nat → Option Ob} (hO : ∀ id o, objs id = some o → ObR w V μ objs id o)
    {e : Sh} {c : Cell} {v : Value} {xs : List (El e)} {ids : List Nat} (hc : CellR w V μ objs c v) (h : readSl objs e c = some (xs, ids))
    (hW : ∀ b, W b → V b) (hn : ∀ id ∈ ids, ∀ b x, μ id = some (b, x) → ¬ W b) : SliceR w W e.size (Reads w W e) xs v := by
  have hsame : Same V W w w := fun b o hv ho => ⟨fun hw => hv (hW _ hw), ho⟩
  unfold readSl at h
  split at h
  · simp only [Option.some.injEq, Prod.mk.injEq] at h
    obtain ⟨rfl, rfl⟩ := h
    obtain ⟨a, rfl⟩ := hc
    exact ⟨a, 0, rfl, by simp, .inl rfl⟩
  · split at h
    · rename_i h'
      subst h'
      simp only [Option.some.injEq, Prod.mk.injEq] at h
      obtain ⟨rfl, rfl⟩ := h
      exact SliceR.same hsame (Reads.same hsame _) hc
    · cases h
  · rename_i id
    split at h
    · rename_i e' xs' wr ho
      split at h
      · rename_i h'
        subst h'
        simp only [Option.some.injEq, Prod.mk.injEq] at h
        obtain ⟨rfl, rfl⟩ := h
        have := (hO id _ ho).read (W := W) (hc.2 _ _ _ ho) (by omega) hW (hn id (by simp))
        simpa [castRow] using this
      · cases h
    · cases h
  · rename_i id off len
    split at h
    · rename_i e' xs' wr ho
      split at h
      · rename_i h'
        subst h'
        simp only [Option.some.injEq, Prod.mk.injEq] at h
        obtain ⟨rfl, rfl⟩ := h
        have hr := hc.2 _ _ _ ho
        exact (hO id _ ho).read (W := W) hr.2 hr.1 hW (hn id (by simp))
      · cases h
    · cases h
  · cases h


theorem takeOwn_ok {w : World} {V W : Nat → Prop} {μ : Mu} {objs : Nat → Option Ob} (hO : ∀ id o, objs id = some o → ObR w V μ objs id o)
    {e : Sh} {c : Cell} {v : Value} {xs : List (El e)} {i : Option Nat} (hc : CellR w V μ objs c v) (h : takeOwn objs e c = some (xs, i))
    (hW : ∀ b, W b → V b) : OwnRow w e.size (Reads w W e) xs v (i.bind μ) := by
  have hsame : Same V W w w := fun b o hv ho => ⟨fun hw => hv (hW _ hw), ho⟩
  unfold takeOwn at h
  split at h
  · simp only [Option.some.injEq, Prod.mk.injEq] at h
    obtain ⟨rfl, rfl⟩ := h
    obtain ⟨a, rfl⟩ := hc
    exact ⟨a, 0, rfl, by simp, rfl, rfl⟩
  · rename_i id
    split at h
    · rename_i e' xs' ho
      split at h
      · rename_i h'
        subst h'
        simp only [Option.some.injEq, Prod.mk.injEq] at h
        obtain ⟨rfl, rfl⟩ := h
        obtain ⟨a, cap, rfl, hcap, hm⟩ := hc.2 _ _ _ ho
        refine ⟨a, cap, rfl, hcap, ?_⟩
        simp only [Option.bind_some]
        rcases hO id _ ho with ⟨hmu, hx⟩ | ⟨b, o, vs, ty, fr, hmu, hb, hth, hnv, hsz, hrows⟩
        · rw [hmu] at hm ⊢
          exact ⟨hx, hm⟩
        · rw [hmu] at hm ⊢
          obtain ⟨ha, vs', ty', fr', hb', hsz'⟩ := hm
          rw [hb] at hb'
          simp only [Option.some.injEq, Obj.cells.injEq] at hb'
          obtain ⟨rfl, rfl, rfl⟩ := hb'
          refine ⟨by simpa using ha, vs, ty, fr, hb, hth rfl, by simpa using hsz', ?_⟩
          exact RowsR.mono (fun x cs hx => Reads.same hsame _ x cs hx) _ _ hrows
      · cases h
    · cases h
  · cases h

theorem takeEl_ok {w : World} {V W : Nat → Prop} {μ : Mu} {objs : Nat → Option Ob} (hO : ∀ id o, objs id = some o → ObR w V μ objs id o) (hW : ∀ b, W b → V b) :
    ∀ (s : Sh) (cs : List Cell) (vs : List Value) (t : Taken s), CellsR w V μ objs cs vs → takeEl objs s cs = some t → (∀ id ∈ t.lent, ∀ b x, μ id = some (b, x) → ¬ W b) →
      ∃ us ts, vs = us ++ ts ∧ CellsR w V μ objs t.rest ts ∧ HoldsS w W s t.val us (t.owned.map (·.bind μ))
  | .int k, cs, vs, t, hc, h, _ => by
    simp only [takeEl, takeInt] at h
    split at h
    · split at h <;> cases h
      rename_i hk _
      subst hk
      obtain ⟨v, r, rfl, _, hv, hr⟩ := hc
      exact ⟨[v], r, rfl, hr, by rw [show v = _ from hv], rfl⟩
    · cases h
  | .bool, cs, vs, t, hc, h, _ => by
    simp only [takeEl, takeBool] at h
    split at h <;> cases h
    obtain ⟨v, r, rfl, _, hv, hr⟩ := hc
    exact ⟨[v], r, rfl, hr, by rw [show v = _ from hv], rfl⟩
  | .str, cs, vs, t, hc, h, _ => by
    simp only [takeEl, takeStr] at h
    split at h <;> cases h
    obtain ⟨v, r, rfl, _, hv, hr⟩ := hc
    exact ⟨[v], r, rfl, hr, by rw [show v = _ from hv], rfl⟩
  | .sl e, cs, vs, t, hc, h, hl => by
    simp only [takeEl, takeSlice] at h
    split at h
    · split at h <;> cases h
      rename_i xs ids hrd
      obtain ⟨v, r, rfl, _, hv, hr⟩ := hc
      exact ⟨[v], r, rfl, hr, ⟨v, rfl, readSl_ok hO hv hrd hW hl⟩, rfl⟩
    · cases h
  | .own e, cs, vs, t, hc, h, _ => by
    simp only [takeEl, takeOwned] at h
    split at h
    · split at h <;> cases h
      rename_i xs id hrd _
      obtain ⟨v, r, rfl, _, hv, hr⟩ := hc
      exact ⟨[v], r, rfl, hr, v, _, rfl, rfl, takeOwn_ok hO hv hrd hW⟩
    · cases h
  | .pair a b, cs, vs, t, hc, h, hl => by
    simp only [takeEl] at h
    split at h <;> try (cases h; done)
    rename_i t1 h1
    split at h <;> cases h
    rename_i t2 h2
    obtain ⟨us, ts, rfl, hr1, hh1⟩ := takeEl_ok hO hW a cs vs t1 hc h1 (fun id hid => hl id (by simp [hid]))
    obtain ⟨us2, ts2, rfl, hr2, hh2⟩ := takeEl_ok hO hW b t1.rest ts t2 hr1 h2 (fun id hid => hl id (by simp [hid]))
    exact ⟨us ++ us2, ts2, by rw [List.append_assoc], hr2, us, us2, _, _, rfl, by rw [List.map_append], hh1, hh2⟩
  | .unit, cs, vs, t, hc, h, _ => by
    simp only [takeEl] at h
    cases h
    exact ⟨[], vs, rfl, hc, rfl, rfl⟩

end Go.Fw

namespace Go.Fw
open Go

/-! ## minting: a packed value laid into a state again -/
def mintS : Nat → (s : Sh) → El s → List Cell × List Ob
  | n, .own e, xs => ([.own n], [.row e xs true])
  | n, .pair a b, x => ((mintS n a x.1).1 ++ (mintS (n + (mintS n a x.1).2.length) b x.2).1, (mintS n a x.1).2 ++ (mintS (n + (mintS n a x.1).2.length) b x.2).2)
  | _, .int k, x => ([.int k x], [])
  | _, .bool, x => ([.bool x], [])
  | _, .str, x => ([.str x], [])
  | _, .sl e, xs => ([.sl e xs], [])
  | _, .unit, _ => ([], [])

theorem HoldsS.mint {w : World} {V : Nat → Prop} : ∀ (s : Sh) (x : El s) (cs : List Value) (pl : Places), HoldsS w V s x cs pl → ∀ (n : Nat) (μ : Mu) (objs : Nat → Option Ob),
    (∀ j p, pl[j]? = some p → μ (n + j) = p) → (∀ j o, (mintS n s x).2[j]? = some o → objs (n + j) = some o) →
    (mintS n s x).2.length = pl.length ∧ CellsR w V μ objs (mintS n s x).1 cs ∧ (∀ j o, (mintS n s x).2[j]? = some o → ObR w V μ objs (n + j) o ∧ o.wr = true)
  | .int k, x, cs, pl, ⟨h, hp⟩, n, μ, objs, _, _ => by subst hp; exact ⟨rfl, ⟨_, [], h, trivial, rfl, rfl⟩, fun j o ho => by simp [mintS] at ho⟩
  | .bool, x, cs, pl, ⟨h, hp⟩, n, μ, objs, _, _ => by subst hp; exact ⟨rfl, ⟨_, [], h, trivial, rfl, rfl⟩, fun j o ho => by simp [mintS] at ho⟩
  | .str, x, cs, pl, ⟨h, hp⟩, n, μ, objs, _, _ => by subst hp; exact ⟨rfl, ⟨_, [], h, trivial, rfl, rfl⟩, fun j o ho => by simp [mintS] at ho⟩
  | .sl e, xs, cs, pl, ⟨⟨c, h, hs⟩, hp⟩, n, μ, objs, _, _ => by subst hp; exact ⟨rfl, ⟨c, [], h, hs.isSlice, hs, rfl⟩, fun j o ho => by simp [mintS] at ho⟩
  | .unit, x, cs, pl, ⟨h, hp⟩, n, μ, objs, _, _ => by subst hp; exact ⟨rfl, h, fun j o ho => by simp [mintS] at ho⟩
  | .own e, xs, cs, pl, ⟨c, m, h, hp, hown⟩, n, μ, objs, hmu, hobj => by
    subst hp
    have hm : μ n = m := hmu 0 m rfl
    have ho : objs n = some (.row e xs true) := hobj 0 _ rfl
    obtain ⟨a, cap, rfl, hcap, hrest⟩ := hown
    refine ⟨rfl, ⟨_, [], h, trivial, ⟨by rw [ho]; rfl, ?_⟩, rfl⟩, ?_⟩
    · intro e' xs' wr' ho'
      rw [ho] at ho'
      cases ho'
      refine ⟨a, cap, rfl, hcap, ?_⟩
      rw [hm]
      cases m with
      | none => exact hrest.2
      | some p =>
        obtain ⟨b, o⟩ := p
        obtain ⟨ha, vs, ty, fr, hb, hth, hsz, hrows⟩ := hrest
        exact ⟨by simpa using ha, vs, ty, fr, hb, by simpa using hsz⟩
    · intro j o hj
      cases j with
      | zero =>
        simp only [mintS, List.getElem?_cons_zero, Option.some.injEq] at hj
        subst hj
        refine ⟨?_, rfl⟩
        cases m with
        | none => exact .inl ⟨hm, hrest.1⟩
        | some p =>
          obtain ⟨b, o⟩ := p
          obtain ⟨ha, vs, ty, fr, hb, hth, hsz, hrows⟩ := hrest
          refine .inr ⟨b, o, vs, ty, fr, hm, hb, fun _ => hth, (fun h => nomatch h), ?_, hrows⟩
          have := Nat.mul_le_mul_right e.size hcap
          omega
      | succ j => simp [mintS] at hj
  | .pair a b, x, cs, pl, ⟨c1, c2, p1, p2, hcs, hpl, h1, h2⟩, n, μ, objs, hmu, hobj => by
    subst hcs hpl
    have i1 := HoldsS.mint a x.1 c1 p1 h1 n μ objs (fun j p hj => hmu j p (by
      rw [List.getElem?_append_left]; exact hj
      exact (List.getElem?_eq_some_iff.1 hj).1)) (fun j o hj => hobj j o (by
      simp only [mintS]; rw [List.getElem?_append_left]; exact hj
      exact (List.getElem?_eq_some_iff.1 hj).1))
    obtain ⟨hl1, hc1, ho1⟩ := i1
    have i2 := HoldsS.mint b x.2 c2 p2 h2 (n + (mintS n a x.1).2.length) μ objs (fun j p hj => by
      rw [Nat.add_assoc]; refine hmu _ p ?_
      rw [List.getElem?_append_right (by omega), hl1, Nat.add_sub_cancel_left]; exact hj) (fun j o hj => by
      rw [Nat.add_assoc]; refine hobj _ o ?_
      simp only [mintS]
      rw [List.getElem?_append_right (by omega), Nat.add_sub_cancel_left]; exact hj)
    obtain ⟨hl2, hc2, ho2⟩ := i2
    refine ⟨by simp only [mintS, List.length_append]; omega, hc1.append hc2, ?_⟩
    intro j o hj
    simp only [mintS] at hj
    by_cases hlt : j < (mintS n a x.1).2.length
    · rw [List.getElem?_append_left hlt] at hj
      exact ho1 j o hj
    · rw [List.getElem?_append_right (by omega)] at hj
      have := ho2 _ o hj
      rwa [show n + (mintS n a x.1).2.length + (j - (mintS n a x.1).2.length) = n + j by omega] at this

/-! ## what crosses a boundary: values, pointers to variables, rows that are lent to be written, nets of variables that name each other -/
inductive Fld where
  | s (sh : Sh)
  | p (k : Nat)
  | c (f : FuncId) (ks : List Nat)
  deriving DecidableEq

inductive Hd where
  | p (k : Nat)
  | c (f : FuncId) (ks : List Nat)
  deriving DecidableEq

/-- a variable of a net: its name, if it has one, and its fields -/
structure Nd where
  nm : Option Nat
  fs : List Fld
  deriving DecidableEq

@[reducible] def fldsSh : List Fld → Sh
  | [] => .unit
  | .s sh :: r => .pair sh (fldsSh r)
  | .p _ :: r => fldsSh r
  | .c _ _ :: r => fldsSh r

@[reducible] def netSh : List Nd → Sh
  | [] => .unit
  | n :: r => .pair (fldsSh n.fs) (netSh r)

def PtrsV (bs : List Nat) : List Nat → List Value → Prop
  | [], cs => cs = []
  | k :: ks, cs => ∃ b r, bs[k]? = some b ∧ cs = .pointer (some ⟨b, 0, none⟩) :: r ∧ PtrsV bs ks r

def HoldsF (w : World) (V : Nat → Prop) (bs : List Nat) : (fs : List Fld) → El (fldsSh fs) → List Value → Places → Prop
  | [], _, cs, pl => cs = [] ∧ pl = []
  | .s sh :: r, x, cs, pl => ∃ c1 c2 p1 p2, cs = c1 ++ c2 ∧ pl = p1 ++ p2 ∧ HoldsS w V sh x.1 c1 p1 ∧ HoldsF w V bs r x.2 c2 p2
  | .p k :: r, x, cs, pl => ∃ b c2, bs[k]? = some b ∧ cs = .pointer (some ⟨b, 0, none⟩) :: c2 ∧ HoldsF w V bs r x c2 pl
  | .c f ks :: r, x, cs, pl => ∃ vs c2, PtrsV bs ks vs ∧ cs = .func (.func f) #[] vs.toArray :: c2 ∧ HoldsF w V bs r x c2 pl

def HoldsN (w : World) (V : Nat → Prop) (bs : List Nat) : (ns : List Nd) → El (netSh ns) → List Nat → Places → Prop
  | [], _, bl, pl => bl = [] ∧ pl = []
  | n :: r, x, bl, pl => ∃ b bl' vs ty fr p1 p2, bl = b :: bl' ∧ pl = p1 ++ p2 ∧ w.heap[b]? = some (.cells vs ty fr) ∧ Thawed fr vs.size ∧
      HoldsF w V bs n.fs x.1 vs.toList p1 ∧ HoldsN w V bs r x.2 bl' p2

def HoldsH (bs : List Nat) : Hd → Value → Prop
  | .p k, v => ∃ b, bs[k]? = some b ∧ v = .pointer (some ⟨b, 0, none⟩)
  | .c f ks, v => ∃ vs, PtrsV bs ks vs ∧ v = .func (.func f) #[] vs.toArray

def placesOf (bs : List Nat) : Places := bs.map fun b => some (b, 0)

/-- fields laid into cells; 'loc': the variables' numbers -/
def mintF (loc : Nat → Nat) (m : Nat) : (fs : List Fld) → El (fldsSh fs) → List Cell × List Ob
  | [], _ => ([], [])
  | .s sh :: r, x => ((mintS m sh x.1).1 ++ (mintF loc (m + (mintS m sh x.1).2.length) r x.2).1, (mintS m sh x.1).2 ++ (mintF loc (m + (mintS m sh x.1).2.length) r x.2).2)
  | .p k :: r, x => (.ptr (loc k) 0 :: (mintF loc m r x).1, (mintF loc m r x).2)
  | .c f ks :: r, x => (.clo f (ks.map loc) :: (mintF loc m r x).1, (mintF loc m r x).2)

/-- variables laid out; 'nmf': the names -/
def mintN (loc : Nat → Nat) (nmf : Nat → Nd → Option Nat) (m : Nat) : Nat → (ns : List Nd) → El (netSh ns) → List Ob × List Ob
  | _, [], _ => ([], [])
  | i, n :: r, x => (.var (nmf i n) (mintF loc m n.fs x.1).1 :: (mintN loc nmf (m + (mintF loc m n.fs x.1).2.length) (i + 1) r x.2).1,
      (mintF loc m n.fs x.1).2 ++ (mintN loc nmf (m + (mintF loc m n.fs x.1).2.length) (i + 1) r x.2).2)

def hdC (loc : Nat → Nat) : Hd → Cell
  | .p k => .ptr (loc k) 0
  | .c f ks => .clo f (ks.map loc)

section net
variable {w : World} {V : Nat → Prop} {μ : Mu} {objs : Nat → Option Ob} {bs : List Nat} {loc : Nat → Nat}

theorem PtrsV.mint (hat : ∀ (k b : Nat), bs[k]? = some b → μ (loc k) = some (b, 0) ∧ (objs (loc k)).isSome = true) : ∀ (ks : List Nat) (vs : List Value), PtrsV bs ks vs → PtrsR μ objs (ks.map loc) vs
  | [], _, h => h
  | k :: ks, _, ⟨b, r, hb, h, hr⟩ => ⟨_, r, h, trivial, ⟨(hat k b hb).2, fun _ _ _ => ⟨b, 0, (hat k b hb).1, rfl⟩⟩, PtrsV.mint hat ks r hr⟩

theorem HoldsF.mint (hat : ∀ (k b : Nat), bs[k]? = some b → μ (loc k) = some (b, 0) ∧ (objs (loc k)).isSome = true) : ∀ (fs : List Fld) (x : El (fldsSh fs)) (cs : List Value) (pl : Places), HoldsF w V bs fs x cs pl → ∀ (m : Nat),
    (∀ j p, pl[j]? = some p → μ (m + j) = p) → (∀ j o, (mintF loc m fs x).2[j]? = some o → objs (m + j) = some o) →
    (mintF loc m fs x).2.length = pl.length ∧ CellsR w V μ objs (mintF loc m fs x).1 cs ∧ (∀ j o, (mintF loc m fs x).2[j]? = some o → ObR w V μ objs (m + j) o ∧ o.wr = true)
  | [], x, cs, pl, ⟨h, hp⟩, m, _, _ => by subst hp; exact ⟨rfl, h, fun j o ho => by simp [mintF] at ho⟩
  | .s sh :: r, x, cs, pl, ⟨c1, c2, p1, p2, hcs, hpl, h1, h2⟩, m, hmu, hobj => by
    subst hcs hpl
    obtain ⟨hl1, hc1, ho1⟩ := HoldsS.mint sh x.1 c1 p1 h1 m μ objs (fun j p hj => hmu j p (by
      rw [List.getElem?_append_left]; exact hj
      exact (List.getElem?_eq_some_iff.1 hj).1)) (fun j o hj => hobj j o (by
      simp only [mintF]; rw [List.getElem?_append_left]; exact hj
      exact (List.getElem?_eq_some_iff.1 hj).1))
    obtain ⟨hl2, hc2, ho2⟩ := HoldsF.mint hat r x.2 c2 p2 h2 (m + (mintS m sh x.1).2.length) (fun j p hj => by
      rw [Nat.add_assoc]; refine hmu _ p ?_
      rw [List.getElem?_append_right (by omega), hl1, Nat.add_sub_cancel_left]; exact hj) (fun j o hj => by
      rw [Nat.add_assoc]; refine hobj _ o ?_
      simp only [mintF]
      rw [List.getElem?_append_right (by omega), Nat.add_sub_cancel_left]; exact hj)
    refine ⟨by simp only [mintF, List.length_append]; omega, hc1.append hc2, ?_⟩
    intro j o hj
    simp only [mintF] at hj
    by_cases hlt : j < (mintS m sh x.1).2.length
    · rw [List.getElem?_append_left hlt] at hj
      exact ho1 j o hj
    · rw [List.getElem?_append_right (by omega)] at hj
      have := ho2 _ o hj
      rwa [show m + (mintS m sh x.1).2.length + (j - (mintS m sh x.1).2.length) = m + j by omega] at this
  | .p k :: r, x, cs, pl, ⟨b, c2, hb, hcs, h2⟩, m, hmu, hobj => by
    subst hcs
    obtain ⟨hl2, hc2, ho2⟩ := HoldsF.mint hat r x c2 pl h2 m hmu hobj
    exact ⟨hl2, ⟨_, c2, rfl, trivial, ⟨(hat k b hb).2, fun _ _ _ => ⟨b, 0, (hat k b hb).1, rfl⟩⟩, hc2⟩, ho2⟩
  | .c f ks :: r, x, cs, pl, ⟨vs, c2, hb, hcs, h2⟩, m, hmu, hobj => by
    subst hcs
    obtain ⟨hl2, hc2, ho2⟩ := HoldsF.mint hat r x c2 pl h2 m hmu hobj
    exact ⟨hl2, ⟨_, c2, rfl, trivial, ⟨vs, rfl, hb.mint hat⟩, hc2⟩, ho2⟩

theorem HoldsH.mint (hat : ∀ (k b : Nat), bs[k]? = some b → μ (loc k) = some (b, 0) ∧ (objs (loc k)).isSome = true) : ∀ (h : Hd) (v : Value), HoldsH bs h v → Plain v ∧ CellR w V μ objs (hdC loc h) v
  | .p k, _, ⟨b, hb, hv⟩ => by subst hv; exact ⟨trivial, (hat k b hb).2, fun _ _ _ => ⟨b, 0, (hat k b hb).1, rfl⟩⟩
  | .c f ks, _, ⟨vs, hb, hv⟩ => by subst hv; exact ⟨trivial, vs, rfl, hb.mint hat⟩

theorem HoldsN.length : ∀ {ns : List Nd} {x : El (netSh ns)} {bl : List Nat} {pl : Places}, HoldsN w V bs ns x bl pl → bl.length = ns.length
  | [], _, _, _, ⟨h, _⟩ => by subst h; rfl
  | _ :: _, _, _, _, ⟨_, _, _, _, _, _, _, h, _, _, _, _, h2⟩ => by subst h; simp [HoldsN.length h2]

theorem HoldsN.mint {nmf : Nat → Nd → Option Nat} (hat : ∀ (k b : Nat), bs[k]? = some b → μ (loc k) = some (b, 0) ∧ (objs (loc k)).isSome = true) : ∀ (ns : List Nd) (x : El (netSh ns)) (bl : List Nat) (pl : Places), HoldsN w V bs ns x bl pl → ∀ (m i : Nat),
    (∀ (j b : Nat), bl[j]? = some b → bs[i + j]? = some b) →
    (∀ j p, pl[j]? = some p → μ (m + j) = p) → (∀ j o, (mintN loc nmf m i ns x).2[j]? = some o → objs (m + j) = some o) →
    (mintN loc nmf m i ns x).1.length = bl.length ∧ (mintN loc nmf m i ns x).2.length = pl.length ∧
    (∀ j o, (mintN loc nmf m i ns x).1[j]? = some o → (∃ cs n, ns[j]? = some n ∧ o = .var (nmf (i + j) n) cs) ∧ ObR w V μ objs (loc (i + j)) o ∧ o.wr = true) ∧
    (∀ j o, (mintN loc nmf m i ns x).2[j]? = some o → ObR w V μ objs (m + j) o ∧ o.wr = true)
  | [], x, bl, pl, ⟨h, hp⟩, m, i, _, _, _ => by subst h hp; exact ⟨rfl, rfl, fun j o ho => by simp [mintN] at ho, fun j o ho => by simp [mintN] at ho⟩
  | n :: r, x, bl, pl, ⟨b, bl', vs, ty, fr, p1, p2, hbl, hpl, hb, hth, h1, h2⟩, m, i, hbs, hmu, hobj => by
    subst hbl hpl
    obtain ⟨hl1, hc1, ho1⟩ := HoldsF.mint hat n.fs x.1 vs.toList p1 h1 m (fun j p hj => hmu j p (by
      rw [List.getElem?_append_left]; exact hj
      exact (List.getElem?_eq_some_iff.1 hj).1)) (fun j o hj => hobj j o (by
      simp only [mintN]; rw [List.getElem?_append_left]; exact hj
      exact (List.getElem?_eq_some_iff.1 hj).1))
    obtain ⟨hl2, hl3, ho2, ho3⟩ := HoldsN.mint (nmf := nmf) hat r x.2 bl' p2 h2 (m + (mintF loc m n.fs x.1).2.length) (i + 1) (fun j b hj => by
      rw [show i + 1 + j = i + (j + 1) by omega]; exact hbs (j + 1) b (by simpa using hj)) (fun j p hj => by
      rw [Nat.add_assoc]; refine hmu _ p ?_
      rw [List.getElem?_append_right (by omega), hl1, Nat.add_sub_cancel_left]; exact hj) (fun j o hj => by
      rw [Nat.add_assoc]; refine hobj _ o ?_
      simp only [mintN]
      rw [List.getElem?_append_right (by omega), Nat.add_sub_cancel_left]; exact hj)
    refine ⟨by simp only [mintN, List.length_cons]; omega, by simp only [mintN, List.length_append]; omega, ?_, ?_⟩
    · intro j o hj
      cases j with
      | zero =>
        simp only [mintN, List.getElem?_cons_zero, Option.some.injEq] at hj
        subst hj
        exact ⟨⟨_, n, rfl, rfl⟩, ⟨b, vs, ty, fr, (hat i b (by simpa using hbs 0 b rfl)).1, hb, hth, hc1⟩, rfl⟩
      | succ j =>
        have := ho2 j o (by simpa [mintN] using hj)
        rw [show i + 1 + j = i + (j + 1) by omega] at this
        exact ⟨this.1.imp fun cs ⟨n', h1, h2⟩ => ⟨n', by simpa using h1, h2⟩, this.2⟩
    · intro j o hj
      simp only [mintN] at hj
      by_cases hlt : j < (mintF loc m n.fs x.1).2.length
      · rw [List.getElem?_append_left hlt] at hj
        exact ho1 j o hj
      · rw [List.getElem?_append_right (by omega)] at hj
        have := ho3 _ o hj
        rwa [show m + (mintF loc m n.fs x.1).2.length + (j - (mintF loc m n.fs x.1).2.length) = m + j by omega] at this

theorem mintN_len {nmf : Nat → Nd → Option Nat} : ∀ (ns : List Nd) (x : El (netSh ns)) (m i : Nat), (mintN loc nmf m i ns x).1.length = ns.length
  | [], _, _, _ => rfl
  | n :: r, x, m, i => by simp only [mintN, List.length_cons, mintN_len r x.2]

end net

inductive PSh where
  | val (agg : Bool) (s : Sh)
  | ptr (s : Sh)
  | brw (e : Sh)
  | net (h : Hd) (ns : List Nd)
  /-- a pointer to a variable that another argument brings: its number among their places -/
  | also (k : Nat)
  deriving DecidableEq

@[reducible] def PSh.sh : PSh → Sh
  | .val _ s => s
  | .ptr s => s
  | .brw e => .own e
  | .net _ ns => netSh ns
  | .also _ => .unit

@[reducible] def ElL : List PSh → Type
  | [] => Unit
  | p :: ps => El p.sh × ElL ps

def HoldsP (w : World) (V : Nat → Prop) : (p : PSh) → El p.sh → Value → Places → Prop
  | .val agg s, x, v, pl => ∃ vs, IsVal agg vs v ∧ (∀ u ∈ vs, Plain u) ∧ HoldsS w V s x vs pl
  | .ptr s, x, v, pl => ∃ b vs ty fr q, v = .pointer (some ⟨b, 0, none⟩) ∧ pl = some (b, 0) :: q ∧ w.heap[b]? = some (.cells vs ty fr) ∧ Thawed fr vs.size ∧
      HoldsS w V s x vs.toList q
  | .brw e, xs, v, pl => ∃ m, pl = [m] ∧ OwnRow w e.size (Reads w V e) xs v m
  | .net h ns, x, v, pl => ∃ bs q, pl = placesOf bs ++ q ∧ HoldsH bs h v ∧ HoldsN w V bs ns x bs q
  | .also _, _, _, pl => pl = []

def HoldsL (w : World) (V : Nat → Prop) : (ps : List PSh) → ElL ps → List Value → Places → Prop
  | [], _, vs, pl => vs = [] ∧ pl = []
  | p :: ps, x, vs, pl => ∃ v us p1 p2, vs = v :: us ∧ pl = p1 ++ p2 ∧ HoldsP w V p x.1 v p1 ∧ HoldsL w V ps x.2 us p2

def mintP (n : Nat) : (p : PSh) → El p.sh → AV × List Ob
  | .val agg s, x => (.cs agg (mintS n s x).1, (mintS n s x).2)
  | .ptr s, x => (.cs false [.ptr n 0], .var none (mintS (n + 1) s x).1 :: (mintS (n + 1) s x).2)
  | .brw e, xs => (.cs false [.own n], [.row e xs true])
  | .net h ns, x => (.cs false [hdC (n + ·) h], (mintN (n + ·) (fun _ nd => nd.nm) (n + ns.length) 0 ns x).1 ++ (mintN (n + ·) (fun _ nd => nd.nm) (n + ns.length) 0 ns x).2)
  | .also k, _ => (.cs false [.ptr k 0], [])

theorem CellsR.plain' {w : World} {V : Nat → Prop} {μ : Mu} {objs : Nat → Option Ob} {cs : List Cell} {vs : List Value} (h : CellsR w V μ objs cs vs) : ∀ v ∈ vs, Plain v :=
  CellR.plain h

/-- what is named beside stands where it is said to -/
def AlsoR (w : World) (V : Nat → Prop) (μ : Mu) (objs : Nat → Option Ob) (p : PSh) (v : Value) : Prop := match p with
  | .also k => AVR w V μ objs (.cs false [.ptr k 0]) v
  | _ => True

def AlsoL (w : World) (V : Nat → Prop) (μ : Mu) (objs : Nat → Option Ob) : List PSh → List Value → Prop
  | p :: ps, v :: vs => AlsoR w V μ objs p v ∧ AlsoL w V μ objs ps vs
  | _, _ => True

def isAlso : PSh → Bool
  | .also _ => true
  | _ => false

def noAlso (ps : List PSh) : Bool := ps.all fun p => !(isAlso p)

theorem noAlso_ok {w : World} {V : Nat → Prop} {μ : Mu} {objs : Nat → Option Ob} : ∀ (ps : List PSh) (vs : List Value), noAlso ps = true → AlsoL w V μ objs ps vs
  | [], _, _ => trivial
  | _ :: _, [], _ => trivial
  | p :: ps, v :: vs, h => by
    simp only [noAlso, List.all_cons, Bool.and_eq_true] at h
    refine ⟨?_, noAlso_ok ps vs h.2⟩
    cases p <;> first | trivial | cases h.1

theorem HoldsP.mint {w : World} {V : Nat → Prop} (p : PSh) (x : El p.sh) (v : Value) (pl : Places) (h : HoldsP w V p x v pl) (n : Nat) (μ : Mu) (objs : Nat → Option Ob) (hal : AlsoR w V μ objs p v)
    (hmu : ∀ j q, pl[j]? = some q → μ (n + j) = q) (hobj : ∀ j o, (mintP n p x).2[j]? = some o → objs (n + j) = some o) :
    (mintP n p x).2.length = pl.length ∧ AVR w V μ objs (mintP n p x).1 v ∧ (∀ j o, (mintP n p x).2[j]? = some o → ObR w V μ objs (n + j) o ∧ o.wr = true) := by
  cases p with
  | val agg s =>
    obtain ⟨vs, hv, _, hh⟩ := h
    obtain ⟨h1, h2, h3⟩ := HoldsS.mint s x vs pl hh n μ objs hmu hobj
    exact ⟨h1, ⟨vs, hv, h2⟩, h3⟩
  | ptr s =>
    obtain ⟨b, vs, ty, fr, q, rfl, rfl, hb, hth, hh⟩ := h
    have hm0 : μ n = some (b, 0) := hmu 0 _ rfl
    have ho0 : objs n = some (.var none (mintS (n + 1) s x).1) := hobj 0 _ rfl
    obtain ⟨h1, h2, h3⟩ := HoldsS.mint s x vs.toList q hh (n + 1) μ objs (fun j q hj => by
      rw [Nat.add_assoc, Nat.add_comm 1 j]; exact hmu (j + 1) q (by simpa using hj)) (fun j o hj => by
      rw [Nat.add_assoc, Nat.add_comm 1 j]; exact hobj (j + 1) o (by simpa [mintP] using hj))
    refine ⟨by simp [mintP, h1], ⟨[_], rfl, ⟨_, [], rfl, trivial, ⟨by rw [ho0]; rfl, fun cs nm hcs => ⟨b, 0, hm0, by simp⟩⟩, rfl⟩⟩, ?_⟩
    intro j o hj
    cases j with
    | zero =>
      simp only [mintP, List.getElem?_cons_zero, Option.some.injEq] at hj
      subst hj
      exact ⟨⟨b, vs, ty, fr, hm0, hb, hth, h2⟩, rfl⟩
    | succ j =>
      have := h3 j o (by simpa [mintP] using hj)
      rwa [Nat.add_assoc, Nat.add_comm 1 j] at this
  | brw e =>
    obtain ⟨m, rfl, hown⟩ := h
    obtain ⟨h1, h2, h3⟩ := HoldsS.mint (w := w) (V := V) (.own e) x [v] [m] ⟨v, m, rfl, rfl, hown⟩ n μ objs hmu hobj
    exact ⟨h1, ⟨[v], rfl, h2⟩, h3⟩
  | net hd ns =>
    obtain ⟨bs, q, rfl, hh, hn⟩ := h
    have hbl := hn.length
    have hpl : (placesOf bs).length = bs.length := by simp [placesOf]
    have hN1 := mintN_len (loc := (n + ·)) (nmf := fun _ nd => nd.nm) ns x (n + ns.length) 0
    have hobj1 : ∀ j o, (mintN (n + ·) (fun _ nd => nd.nm) (n + ns.length) 0 ns x).1[j]? = some o → objs (n + j) = some o := fun j o hj => hobj j o (by
      simp only [mintP]; rw [List.getElem?_append_left (List.getElem?_eq_some_iff.1 hj).1]; exact hj)
    have hat : ∀ (k b : Nat), bs[k]? = some b → μ (n + k) = some (b, 0) ∧ (objs (n + k)).isSome = true := by
      intro k b hk
      have hlt := (List.getElem?_eq_some_iff.1 hk).1
      refine ⟨hmu k _ ?_, ?_⟩
      · rw [List.getElem?_append_left (by omega)]
        simp [placesOf, hk]
      · have hlt2 : k < (mintN (n + ·) (fun _ nd => nd.nm) (n + ns.length) 0 ns x).1.length := by omega
        rw [hobj1 k _ (List.getElem?_eq_getElem hlt2)]; rfl
    obtain ⟨g1, g2, g3, g4⟩ := HoldsN.mint (loc := (n + ·)) (nmf := fun _ nd => nd.nm) hat ns x bs q hn (n + ns.length) 0 (fun j b hj => by simpa using hj) (fun j p hj => by
      rw [Nat.add_assoc]; refine hmu _ p ?_
      rw [List.getElem?_append_right (by omega), hpl, hbl, Nat.add_sub_cancel_left]; exact hj) (fun j o hj => by
      rw [Nat.add_assoc]; refine hobj _ o ?_
      simp only [mintP]
      rw [List.getElem?_append_right (by omega), hN1, Nat.add_sub_cancel_left]; exact hj)
    obtain ⟨k1, k2⟩ := hh.mint (w := w) (V := V) hat
    refine ⟨by simp only [mintP, List.length_append]; omega, ⟨[v], rfl, v, [], rfl, k1, k2, rfl⟩, ?_⟩
    intro j o hj
    simp only [mintP] at hj
    by_cases hlt : j < (mintN (n + ·) (fun _ nd => nd.nm) (n + ns.length) 0 ns x).1.length
    · rw [List.getElem?_append_left hlt] at hj
      have := (g3 j o hj).2
      simp only [Nat.zero_add] at this
      exact this
    · rw [List.getElem?_append_right (by omega)] at hj
      have := g4 _ o hj
      rwa [show n + ns.length + (j - (mintN (n + ·) (fun _ nd => nd.nm) (n + ns.length) 0 ns x).1.length) = n + j by omega] at this

  | also k =>
    have h : pl = [] := h
    subst h
    exact ⟨rfl, hal, fun j o hj => by simp [mintP] at hj⟩

def mintL (n : Nat) : (ps : List PSh) → ElL ps → List AV × List Ob
  | [], _ => ([], [])
  | p :: ps, x => ((mintP n p x.1).1 :: (mintL (n + (mintP n p x.1).2.length) ps x.2).1, (mintP n p x.1).2 ++ (mintL (n + (mintP n p x.1).2.length) ps x.2).2)

def AVsR (w : World) (V : Nat → Prop) (μ : Mu) (objs : Nat → Option Ob) : List AV → List Value → Prop
  | [], vs => vs = []
  | a :: as, vs => ∃ v us, vs = v :: us ∧ AVR w V μ objs a v ∧ AVsR w V μ objs as us

theorem HoldsL.mint {w : World} {V : Nat → Prop} : ∀ (ps : List PSh) (x : ElL ps) (vs : List Value) (pl : Places), HoldsL w V ps x vs pl → ∀ (n : Nat) (μ : Mu) (objs : Nat → Option Ob), AlsoL w V μ objs ps vs →
    (∀ j q, pl[j]? = some q → μ (n + j) = q) → (∀ j o, (mintL n ps x).2[j]? = some o → objs (n + j) = some o) →
    (mintL n ps x).2.length = pl.length ∧ AVsR w V μ objs (mintL n ps x).1 vs ∧ (∀ j o, (mintL n ps x).2[j]? = some o → ObR w V μ objs (n + j) o ∧ o.wr = true)
  | [], _, vs, pl, ⟨h, hp⟩, n, μ, objs, _, _, _ => by subst hp; exact ⟨rfl, h, fun j o ho => by simp [mintL] at ho⟩
  | p :: ps, x, vs, pl, ⟨v, us, p1, p2, hvs, hpl, h1, h2⟩, n, μ, objs, hal, hmu, hobj => by
    subst hvs hpl
    have i1 := HoldsP.mint p x.1 v p1 h1 n μ objs hal.1 (fun j q hj => hmu j q (by
      rw [List.getElem?_append_left]; exact hj
      exact (List.getElem?_eq_some_iff.1 hj).1)) (fun j o hj => hobj j o (by
      simp only [mintL]; rw [List.getElem?_append_left]; exact hj
      exact (List.getElem?_eq_some_iff.1 hj).1))
    obtain ⟨hl1, hc1, ho1⟩ := i1
    have i2 := HoldsL.mint ps x.2 us p2 h2 (n + (mintP n p x.1).2.length) μ objs hal.2 (fun j q hj => by
      rw [Nat.add_assoc]; refine hmu _ q ?_
      rw [List.getElem?_append_right (by omega), hl1, Nat.add_sub_cancel_left]; exact hj) (fun j o hj => by
      rw [Nat.add_assoc]; refine hobj _ o ?_
      simp only [mintL]
      rw [List.getElem?_append_right (by omega), Nat.add_sub_cancel_left]; exact hj)
    obtain ⟨hl2, hc2, ho2⟩ := i2
    refine ⟨by simp only [mintL, List.length_append]; omega, ⟨v, us, rfl, hc1, hc2⟩, ?_⟩
    intro j o hj
    simp only [mintL] at hj
    by_cases hlt : j < (mintP n p x.1).2.length
    · rw [List.getElem?_append_left hlt] at hj
      exact ho1 j o hj
    · rw [List.getElem?_append_right (by omega)] at hj
      have := ho2 _ o hj
      rwa [show n + (mintP n p x.1).2.length + (j - (mintP n p x.1).2.length) = n + j by omega] at this

/-! ## packing -/
structure Packed (p : PSh) where
  val : El p.sh
  lent : List Nat
  owned : List (Option Nat)

def packVal (objs : Nat → Option Ob) (agg : Bool) (s : Sh) (cs : List Cell) : Option (Packed (.val agg s)) :=
  match takeEl objs s cs with
  | some t => (match t.rest with
    | [] => some ⟨t.val, t.lent, t.owned⟩
    | _ :: _ => none)
  | none => none
def packPtr (objs : Nat → Option Ob) (s : Sh) (id : Nat) : Option (Packed (.ptr s)) :=
  match objs id with
  | some (.var _ cs) => (match takeEl objs s cs with
    | some t => (match t.rest with
      | [] => some ⟨t.val, t.lent, some id :: t.owned⟩
      | _ :: _ => none)
    | none => none)
  | _ => none
def packBrw (objs : Nat → Option Ob) (e : Sh) (id : Nat) : Option (Packed (.brw e)) :=
  match objs id with
  | some (.row e' xs true) => if h : e' = e then some ⟨castRow h xs, [], [some id]⟩ else none
  | _ => none
def sameIds (ids : List Nat) : List Nat → List Nat → Bool
  | [], [] => true
  | k :: ks, i :: is => (match ids[k]? with
    | some j => Nat.beq j i
    | none => false) && sameIds ids ks is
  | _, _ => false

def isPtr (ids : List Nat) (k : Nat) : Cell → Bool
  | .ptr id 0 => (match ids[k]? with
    | some j => Nat.beq j id
    | none => false)
  | _ => false

def isClo (ids : List Nat) (f : FuncId) (ks : List Nat) : Cell → Bool
  | .clo f' is => Nat.beq f' f && sameIds ids ks is
  | .fn f' => Nat.beq f' f && ks.isEmpty
  | _ => false

structure TakenF (fs : List Fld) where
  val : El (fldsSh fs)
  lent : List Nat
  owned : List (Option Nat)

def packF (objs : Nat → Option Ob) (ids : List Nat) : (fs : List Fld) → List Cell → Option (TakenF fs)
  | [], [] => some ⟨(), [], []⟩
  | .s sh :: r, cs => (match takeEl objs sh cs with
    | some t => (match packF objs ids r t.rest with
      | some u => some ⟨(t.val, u.val), t.lent ++ u.lent, t.owned ++ u.owned⟩
      | none => none)
    | none => none)
  | .p k :: r, c :: cs => cond (isPtr ids k c) (match packF objs ids r cs with
    | some u => some ⟨u.val, u.lent, u.owned⟩
    | none => none) none
  | .c f ks :: r, c :: cs => cond (isClo ids f ks c) (match packF objs ids r cs with
    | some u => some ⟨u.val, u.lent, u.owned⟩
    | none => none) none
  | _, _ => none

structure TakenN (ns : List Nd) where
  val : El (netSh ns)
  lent : List Nat
  owned : List (Option Nat)

def nameOk : Option Nat → Option Nat → Bool
  | none, _ => true
  | some k, some j => Nat.beq k j
  | some _, none => false

def packN (objs : Nat → Option Ob) (ids : List Nat) : (ns : List Nd) → List Nat → Option (TakenN ns)
  | [], [] => some ⟨(), [], []⟩
  | n :: r, id :: il => (match objs id with
    | some (.var nm cs) => cond (nameOk n.nm nm) (match packF objs ids n.fs cs with
      | some t => (match packN objs ids r il with
        | some u => some ⟨(t.val, u.val), t.lent ++ u.lent, t.owned ++ u.owned⟩
        | none => none)
      | none => none) none
    | _ => none)
  | _, _ => none

def isHd (ids : List Nat) : Hd → Cell → Bool
  | .p k, c => isPtr ids k c
  | .c f ks, c => isClo ids f ks c

/-! what an operation may reach -/
def Cell.ids : Cell → List Nat
  | .own id => [id]
  | .sub id _ _ => [id]
  | .ptr id _ => [id]
  | .eptr id _ _ => [id]
  | .clo _ ids => ids
  | _ => []

def cellsIds : List Cell → List Nat
  | [] => []
  | c :: l => c.ids ++ cellsIds l

def obIds (objs : Nat → Option Ob) (id : Nat) : List Nat := match objs id with
  | some (.var _ cs) => cellsIds cs
  | _ => []

def under (objs : Nat → Option Ob) : List Nat → List Nat
  | [] => []
  | id :: l => obIds objs id ++ under objs l

def reach (objs : Nat → Option Ob) : Nat → List Nat → List Nat
  | 0, l => l
  | n + 1, l => reach objs n l ++ under objs (reach objs n l)

/-! a net's variables, found -/
def linkF : List Fld → List Cell → List (Nat × Nat)
  | .s sh :: r, cs => linkF r (cs.drop sh.size)
  | .p k :: r, c :: cs => (match c with
    | .ptr id _ => [(k, id)]
    | _ => []) ++ linkF r cs
  | .c _ ks :: r, c :: cs => (match c with
    | .clo _ is => ks.zip is
    | _ => []) ++ linkF r cs
  | _, _ => []

def assocN : List (Nat × Nat) → Nat → Option Nat
  | [], _ => none
  | (k, i) :: l, j => cond (Nat.beq k j) (some i) (assocN l j)

def linkN (objs : Nat → Option Ob) (ok : List Nat) : Nat → List Nd → List (Nat × Nat) → List (Nat × Nat)
  | _, [], acc => acc
  | i, n :: r, acc => linkN objs ok (i + 1) r (acc ++ match assocN acc i with
    | some id => cond (ok.contains id) (match objs id with
      | some (.var _ cs) => linkF n.fs cs
      | _ => []) []
    | none => [])

def hdLinks : Hd → Cell → List (Nat × Nat)
  | .p k, .ptr id _ => [(k, id)]
  | .c _ ks, .clo _ is => ks.zip is
  | _, _ => []

def idsFrom (l : List (Nat × Nat)) : Nat → Nat → Option (List Nat)
  | _, 0 => some []
  | i, n + 1 => (match assocN l i, idsFrom l (i + 1) n with
    | some id, some r => some (id :: r)
    | _, _ => none)

def findIds (objs : Nat → Option Ob) (h : Hd) (ns : List Nd) (c : Cell) : Option (List Nat) :=
  match idsFrom (linkN objs (reach objs 5 c.ids) 0 ns (hdLinks h c)) 0 ns.length with
  | some ids => cond (ids.all fun i => (reach objs 5 c.ids).contains i) (some ids) none
  | none => none

/-- a pointer to a variable's begin -/
def AV.ptrId : AV → Option Nat
  | .cs false [.ptr id 0] => some id
  | _ => none
def AV.ownId : AV → Option Nat
  | .cs false [.own id] => some id
  | _ => none
def AV.cells (agg : Bool) : AV → Option (List Cell)
  | .cs agg' l => if agg' = agg then some l else none
  | _ => none

def AV.one : AV → Option Cell
  | .cs false [c] => some c
  | _ => none

def packNet (objs : Nat → Option Ob) (h : Hd) (ns : List Nd) (c : Cell) (ids : List Nat) : Option (Packed (.net h ns)) :=
  cond (isHd ids h c) (match packN objs ids ns ids with
    | some t => some ⟨t.val, t.lent, ids.map some ++ t.owned⟩
    | none => none) none

def packP (objs : Nat → Option Ob) : (p : PSh) → AV → Option (Packed p)
  | .val agg s, a => match a.cells agg with
    | some cs => packVal objs agg s cs
    | none => none
  | .ptr s, a => match a.ptrId with
    | some id => packPtr objs s id
    | none => none
  | .brw e, a => match a.ownId with
    | some id => packBrw objs e id
    | none => none
  | .net h ns, a => match a.one with
    | some c => (match findIds objs h ns c with
      | some ids => packNet objs h ns c ids
      | none => none)
    | none => none
  | .also _, a => match a.ptrId with
    | some _ => some ⟨(), [], []⟩
    | none => none

theorem AV.cells_eq {a : AV} {agg : Bool} {cs : List Cell} (h : a.cells agg = some cs) : a = .cs agg cs := by
  unfold AV.cells at h
  split at h
  · split at h <;> cases h
    rename_i h1; rw [h1]
  · cases h
theorem AV.ptrId_eq {a : AV} {id : Nat} (h : a.ptrId = some id) : a = .cs false [.ptr id 0] := by
  unfold AV.ptrId at h
  split at h <;> cases h
  rfl
theorem AV.one_eq {a : AV} {c : Cell} (h : a.one = some c) : a = .cs false [c] := by
  unfold AV.one at h
  split at h <;> cases h
  rfl
theorem AV.ownId_eq {a : AV} {id : Nat} (h : a.ownId = some id) : a = .cs false [.own id] := by
  unfold AV.ownId at h
  split at h <;> cases h
  rfl

structure PackedL (ps : List PSh) where
  val : ElL ps
  lent : List Nat
  owned : List (Option Nat)

def packL (objs : Nat → Option Ob) : (ps : List PSh) → List AV → Option (PackedL ps)
  | [], [] => some ⟨(), [], []⟩
  | p :: ps, a :: as => match packP objs p a with
    | some t => match packL objs ps as with
      | some u => some ⟨(t.val, u.val), t.lent ++ u.lent, t.owned ++ u.owned⟩
      | none => none
    | none => none
  | _, _ => none

section netpack
variable {w : World} {V W : Nat → Prop} {μ : Mu} {objs : Nat → Option Ob}

theorem packN_var {ids : List Nat} : ∀ (ns : List Nd) (il : List Nat) (t : TakenN ns), packN objs ids ns il = some t → ∀ i ∈ il, ∃ nm cs, objs i = some (.var nm cs)
  | [], il, t, h => by
    cases il with
    | nil => intro i hi; cases hi
    | cons _ _ => simp only [packN] at h; cases h
  | n :: r, il, t, h => by
    cases il with
    | nil => simp only [packN] at h; cases h
    | cons id il =>
      simp only [packN] at h
      split at h <;> try (cases h; done)
      rename_i nm cs ho
      cases hn : nameOk n.nm nm with
      | false => rw [hn] at h; cases h
      | true =>
        rw [hn, cond_true] at h
        split at h <;> try (cases h; done)
        split at h <;> cases h
        rename_i u hu
        intro i hi
        cases hi with
        | head => exact ⟨nm, cs, ho⟩
        | tail _ hi => exact packN_var r il u hu i hi

theorem idsMu_one (hO : ∀ id o, objs id = some o → ObR w V μ objs id o) {i : Nat} {nm : Option Nat} {cs : List Cell} (h : objs i = some (.var nm cs)) : μ i = some (((μ i).getD (0, 0)).1, 0) := by
  obtain ⟨b, _, _, _, h1, _⟩ := hO i _ h
  have h1 : μ i = some (b, 0) := h1
  rw [h1]; rfl

theorem idsMu_ok (hO : ∀ id o, objs id = some o → ObR w V μ objs id o) : ∀ (ids : List Nat), (∀ i ∈ ids, ∃ nm cs, objs i = some (.var nm cs)) →
    (ids.map some).map (·.bind μ) = placesOf (ids.map (fun i => ((μ i).getD (0, 0)).1))
  | [], _ => rfl
  | i :: ids, h => by
    obtain ⟨nm, cs, ho⟩ := h i (by simp)
    have ih := idsMu_ok hO ids (fun j hj => h j (by simp [hj]))
    simp only [List.map_cons, Option.bind_some, placesOf] at ih ⊢
    rw [ih]
    congr 1
    exact idsMu_one hO ho

theorem ids_get (hO : ∀ id o, objs id = some o → ObR w V μ objs id o) {ids : List Nat} (hvar : ∀ i ∈ ids, ∃ nm cs, objs i = some (.var nm cs)) {k i : Nat} (h : ids[k]? = some i) :
    ∃ b, (ids.map (fun i => ((μ i).getD (0, 0)).1))[k]? = some b ∧ μ i = some (b, 0) ∧ ∃ nm cs, objs i = some (.var nm cs) := by
  obtain ⟨nm, cs, ho⟩ := hvar i (List.mem_of_getElem? h)
  exact ⟨_, by simp [h], idsMu_one hO ho, nm, cs, ho⟩

theorem isPtr_ok (hO : ∀ id o, objs id = some o → ObR w V μ objs id o) {ids : List Nat} (hvar : ∀ i ∈ ids, ∃ nm cs, objs i = some (.var nm cs)) {k : Nat} {c : Cell} {v : Value} (hc : CellR w V μ objs c v) (h : isPtr ids k c = true) :
    ∃ b, (ids.map (fun i => ((μ i).getD (0, 0)).1))[k]? = some b ∧ v = .pointer (some ⟨b, 0, none⟩) := by
  unfold isPtr at h
  split at h <;> try (cases h; done)
  rename_i id
  split at h <;> try (cases h; done)
  rename_i j hj
  have := Nat.eq_of_beq_eq_true h
  subst this
  obtain ⟨b, h1, h2, nm, cs, h3⟩ := ids_get hO hvar hj
  obtain ⟨b', o, h4, h5⟩ := hc.2 cs nm h3
  rw [h2] at h4
  cases h4
  exact ⟨b, h1, h5⟩

theorem sameIds_ok (hO : ∀ id o, objs id = some o → ObR w V μ objs id o) {ids : List Nat} (hvar : ∀ i ∈ ids, ∃ nm cs, objs i = some (.var nm cs)) : ∀ (ks is : List Nat) (cs : List Value), sameIds ids ks is = true → PtrsR μ objs is cs →
    PtrsV (ids.map (fun i => ((μ i).getD (0, 0)).1)) ks cs
  | [], [], _, _, h => h
  | [], _ :: _, _, h, _ => by simp only [sameIds] at h; cases h
  | _ :: _, [], _, h, _ => by simp only [sameIds] at h; cases h
  | k :: ks, i :: is, _, h, ⟨v, r, rfl, _, hv, hr⟩ => by
    simp only [sameIds, Bool.and_eq_true] at h
    obtain ⟨h1, h2⟩ := h
    split at h1 <;> try (cases h1; done)
    rename_i j hj
    have := Nat.eq_of_beq_eq_true h1
    subst this
    obtain ⟨b, g1, g2, nm, cs, g3⟩ := ids_get hO hvar hj
    obtain ⟨b', o, h4, h5⟩ := hv.2 cs nm g3
    rw [g2] at h4
    cases h4
    exact ⟨b, r, g1, by rw [h5], sameIds_ok hO hvar ks is r h2 hr⟩

theorem isClo_ok (hO : ∀ id o, objs id = some o → ObR w V μ objs id o) {ids : List Nat} (hvar : ∀ i ∈ ids, ∃ nm cs, objs i = some (.var nm cs)) {f : FuncId} {ks : List Nat} {c : Cell} {v : Value} (hc : CellR w V μ objs c v) (h : isClo ids f ks c = true) :
    ∃ vs, PtrsV (ids.map (fun i => ((μ i).getD (0, 0)).1)) ks vs ∧ v = .func (.func f) #[] vs.toArray := by
  unfold isClo at h
  split at h <;> try (cases h; done)
  · rename_i f' is
    simp only [Bool.and_eq_true] at h
    have := Nat.eq_of_beq_eq_true h.1
    subst this
    obtain ⟨cs, h1, h2⟩ := hc
    exact ⟨cs, sameIds_ok hO hvar ks is cs h.2 h2, h1⟩
  · rename_i f'
    simp only [Bool.and_eq_true, List.isEmpty_iff] at h
    have := Nat.eq_of_beq_eq_true h.1
    subst this
    have h2 := h.2
    subst h2
    exact ⟨[], rfl, hc⟩

theorem isHd_ok (hO : ∀ id o, objs id = some o → ObR w V μ objs id o) {ids : List Nat} (hvar : ∀ i ∈ ids, ∃ nm cs, objs i = some (.var nm cs)) {h : Hd} {c : Cell} {v : Value} (hc : CellR w V μ objs c v) (hh : isHd ids h c = true) :
    HoldsH (ids.map (fun i => ((μ i).getD (0, 0)).1)) h v := by
  cases h with
  | p k => exact isPtr_ok hO hvar hc hh
  | c f ks => exact isClo_ok hO hvar hc hh

theorem packF_ok (hO : ∀ id o, objs id = some o → ObR w V μ objs id o) (hW : ∀ b, W b → V b) {ids : List Nat} (hvar : ∀ i ∈ ids, ∃ nm cs, objs i = some (.var nm cs)) :
    ∀ (fs : List Fld) (cs : List Cell) (vs : List Value) (t : TakenF fs), CellsR w V μ objs cs vs → packF objs ids fs cs = some t → (∀ id ∈ t.lent, ∀ b x, μ id = some (b, x) → ¬ W b) →
    HoldsF w W (ids.map (fun i => ((μ i).getD (0, 0)).1)) fs t.val vs (t.owned.map (·.bind μ))
  | [], cs, vs, t, hc, h, _ => by
    cases cs with
    | nil => simp only [packF] at h; cases h; exact ⟨hc, rfl⟩
    | cons _ _ => simp only [packF] at h; cases h
  | .s sh :: r, cs, vs, t, hc, h, hl => by
    simp only [packF] at h
    split at h <;> try (cases h; done)
    rename_i t1 h1
    split at h <;> cases h
    rename_i u hu
    obtain ⟨us, ts, rfl, hr, hh⟩ := takeEl_ok hO hW sh cs vs t1 hc h1 (fun id hid => hl id (by simp [hid]))
    exact ⟨us, ts, _, _, rfl, by rw [List.map_append], hh, packF_ok hO hW hvar r t1.rest ts u hr hu (fun id hid => hl id (by simp [hid]))⟩
  | .p k :: r, cs, vs, t, hc, h, hl => by
    cases cs with
    | nil => simp only [packF] at h; cases h
    | cons c cs =>
      simp only [packF] at h
      cases hp : isPtr ids k c with
      | false => rw [hp] at h; cases h
      | true =>
        rw [hp, cond_true] at h
        split at h <;> cases h
        rename_i u hu
        obtain ⟨v, rr, rfl, _, hv, hr⟩ := hc
        obtain ⟨b, h1, h2⟩ := isPtr_ok hO hvar hv hp
        exact ⟨b, rr, h1, by rw [h2], packF_ok hO hW hvar r cs rr u hr hu hl⟩
  | .c f ks :: r, cs, vs, t, hc, h, hl => by
    cases cs with
    | nil => simp only [packF] at h; cases h
    | cons c cs =>
      simp only [packF] at h
      cases hp : isClo ids f ks c with
      | false => rw [hp] at h; cases h
      | true =>
        rw [hp, cond_true] at h
        split at h <;> cases h
        rename_i u hu
        obtain ⟨v, rr, rfl, _, hv, hr⟩ := hc
        obtain ⟨ws, h1, h2⟩ := isClo_ok hO hvar hv hp
        exact ⟨ws, rr, h1, by rw [h2], packF_ok hO hW hvar r cs rr u hr hu hl⟩

theorem packN_ok (hO : ∀ id o, objs id = some o → ObR w V μ objs id o) (hW : ∀ b, W b → V b) {ids : List Nat} (hvar : ∀ i ∈ ids, ∃ nm cs, objs i = some (.var nm cs)) :
    ∀ (ns : List Nd) (il : List Nat) (t : TakenN ns), packN objs ids ns il = some t → (∀ id ∈ t.lent, ∀ b x, μ id = some (b, x) → ¬ W b) →
    HoldsN w W (ids.map (fun i => ((μ i).getD (0, 0)).1)) ns t.val (il.map (fun i => ((μ i).getD (0, 0)).1)) (t.owned.map (·.bind μ))
  | [], il, t, h, _ => by
    cases il with
    | nil => simp only [packN] at h; cases h; exact ⟨rfl, rfl⟩
    | cons _ _ => simp only [packN] at h; cases h
  | n :: r, il, t, h, hl => by
    cases il with
    | nil => simp only [packN] at h; cases h
    | cons id il =>
      simp only [packN] at h
      split at h <;> try (cases h; done)
      rename_i nm cs ho
      cases hn : nameOk n.nm nm with
      | false => rw [hn] at h; cases h
      | true =>
        rw [hn, cond_true] at h
        split at h <;> try (cases h; done)
        rename_i t1 h1
        split at h <;> cases h
        rename_i u hu
        obtain ⟨b, vs, ty, fr, g1, g2, g3, g4⟩ := hO id _ ho
        have e : ((μ id).getD (0, 0)).1 = b := by rw [show μ id = some (b, 0) from g1]; rfl
        exact ⟨b, _, vs, ty, fr, _, _, by rw [List.map_cons, e], by rw [List.map_append], g2, g3, packF_ok hO hW hvar n.fs cs vs.toList t1 g4 h1 (fun id hid => hl id (by simp [hid])),
          packN_ok hO hW hvar r il u hu (fun id hid => hl id (by simp [hid]))⟩

end netpack

theorem packP_ok {w : World} {V W : Nat → Prop} {μ : Mu} {objs : Nat → Option Ob} (hO : ∀ id o, objs id = some o → ObR w V μ objs id o) (hW : ∀ b, W b → V b)
    (p : PSh) (a : AV) (v : Value) (t : Packed p) (ha : AVR w V μ objs a v) (h : packP objs p a = some t) (hl : ∀ id ∈ t.lent, ∀ b x, μ id = some (b, x) → ¬ W b) :
    HoldsP w W p t.val v (t.owned.map (·.bind μ)) := by
  cases p with
  | val agg s =>
    simp only [packP] at h
    split at h <;> try (cases h; done)
    rename_i cs hcs
    have := AV.cells_eq hcs
    subst this
    unfold packVal at h
    split at h <;> try (cases h; done)
    rename_i t' ht
    split at h <;> cases h
    rename_i hrest
    obtain ⟨vs, hv, hcells⟩ := ha
    obtain ⟨us, ts, rfl, hr, hh⟩ := takeEl_ok hO hW s cs vs _ hcells ht hl
    rw [hrest] at hr
    rw [show ts = [] from hr, List.append_nil] at hv hcells
    exact ⟨us, hv, hcells.plain', hh⟩
  | ptr s =>
    simp only [packP] at h
    split at h <;> try (cases h; done)
    rename_i id hid
    have := AV.ptrId_eq hid
    subst this
    unfold packPtr at h
    split at h <;> try (cases h; done)
    rename_i cs ho
    split at h <;> try (cases h; done)
    rename_i t' ht
    split at h <;> cases h
    rename_i hrest
    obtain ⟨vs, rfl, v', r, hv', _, hc, hr⟩ := ha
    rw [show r = [] from hr] at hv'
    cases hv'
    obtain ⟨b, off, hmu, rfl⟩ := hc.2 cs _ ho
    obtain ⟨b', us, ty, fr, hmu', hb, hth, hcells⟩ := hO id _ ho
    rw [hmu] at hmu'
    simp only [Option.some.injEq, Prod.mk.injEq] at hmu'
    obtain ⟨rfl, rfl⟩ := hmu'
    obtain ⟨u1, u2, he, hr, hh⟩ := takeEl_ok hO hW s cs _ _ hcells ht hl
    rw [hrest] at hr
    rw [show u2 = [] from hr, List.append_nil] at he
    exact ⟨b, us, ty, fr, t'.owned.map (·.bind μ), rfl, by simp [hmu], hb, hth, by rw [he]; exact hh⟩
  | brw e =>
    simp only [packP] at h
    split at h <;> try (cases h; done)
    rename_i id hid
    have := AV.ownId_eq hid
    subst this
    unfold packBrw at h
    split at h <;> try (cases h; done)
    rename_i e' xs ho
    split at h <;> cases h
    rename_i hee
    subst hee
    obtain ⟨vs, rfl, v', r, hv', _, hc, hr⟩ := ha
    rw [show r = [] from hr] at hv'
    cases hv'
    refine ⟨μ id, by simp, ?_⟩
    have := takeOwn_ok (W := W) hO (e := e') (c := .own id) (xs := xs) (i := some id) hc (by simp [takeOwn, ho, castRow]) hW
    simpa [castRow] using this
  | net hd ns =>
    simp only [packP] at h
    split at h <;> try (cases h; done)
    rename_i c hc0
    have := AV.one_eq hc0
    subst this
    split at h <;> try (cases h; done)
    rename_i ids hids
    unfold packNet at h
    cases hhd : isHd ids hd c with
    | false => rw [hhd] at h; cases h
    | true =>
      rw [hhd, cond_true] at h
      split at h <;> cases h
      rename_i t' ht
      obtain ⟨vs, rfl, v', r, hv', _, hc, hr⟩ := ha
      rw [show r = [] from hr] at hv'
      cases hv'
      have hvar := packN_var ns ids t' ht
      have hids' := idsMu_ok hO ids hvar
      exact ⟨ids.map (fun i => ((μ i).getD (0, 0)).1), t'.owned.map (·.bind μ), by rw [List.map_append, hids'], isHd_ok hO hvar hc hhd, packN_ok hO hW hvar ns ids t' ht hl⟩
  | also k =>
    simp only [packP] at h
    split at h <;> cases h
    rfl

theorem packL_ok {w : World} {V W : Nat → Prop} {μ : Mu} {objs : Nat → Option Ob} (hO : ∀ id o, objs id = some o → ObR w V μ objs id o) (hW : ∀ b, W b → V b) :
    ∀ (ps : List PSh) (as : List AV) (vs : List Value) (t : PackedL ps), AVsR w V μ objs as vs → packL objs ps as = some t → (∀ id ∈ t.lent, ∀ b x, μ id = some (b, x) → ¬ W b) →
    HoldsL w W ps t.val vs (t.owned.map (·.bind μ))
  | [], as, vs, t, ha, h, _ => by
    cases as with
    | nil => simp only [packL] at h; cases h; exact ⟨ha, rfl⟩
    | cons a as => simp only [packL] at h; cases h
  | p :: ps, as, vs, t, ha, h, hl => by
    cases as with
    | nil => simp only [packL] at h; cases h
    | cons a as =>
      simp only [packL] at h
      split at h <;> try (cases h; done)
      rename_i t1 h1
      split at h <;> cases h
      rename_i t2 h2
      obtain ⟨v, us, rfl, hv, hus⟩ := ha
      exact ⟨v, us, _, _, rfl, by rw [List.map_append], packP_ok hO hW p a v t1 hv h1 (fun id hid => hl id (by simp [hid])),
        packL_ok hO hW ps as us t2 hus h2 (fun id hid => hl id (by simp [hid]))⟩

end Go.Fw

namespace Go.Fw
open Go

/-! ## the types that the code names -/
inductive TK where
  | int (k : IntKind)
  | bool
  | str
  | slice (e : TypeId)
  | struct (fs : List (Nat × TypeId))
  | other

structure TI where
  kind : TK
  zero : List Cell
  bytes : Nat
  sh : Sh

def TI.agg (ti : TI) : Bool := match ti.kind with
  | .struct _ => true
  | _ => false

abbrev Tys := List (Nat × TI)

def Tys.get : Tys → Nat → Option TI
  | [], _ => none
  | (u, ti) :: r, t => cond (Nat.beq u t) (some ti) (Tys.get r t)

def constCell : Value → Cell
  | .int k n => .int k n
  | .bool b => .bool b
  | .string s => .str s
  | .slice none 0 0 => .nils
  | v => .lit v

def plainB : Value → Bool
  | .agg _ => false
  | .tuple _ => false
  | _ => true

def constAV : Value → AV
  | .agg cs => cond (cs.toList.all plainB) (.cs true (cs.toList.map constCell)) .undef
  | .tuple _ => .undef
  | v => .cs false [constCell v]

def AS.val (σ : AS) : Operand → AV
  | .tmp t => σ.slots t
  | .const v => constAV v
  | .func f => .cs false [.fn f]
  | .global _ => .undef

def putSlot (slots : Nat → AV) (d : Nat) (v : AV) : Nat → AV := fun t => cond (Nat.beq t d) v (slots t)
def putDst (slots : Nat → AV) : Option Nat → AV → Nat → AV
  | some d, v => putSlot slots d v
  | none, _ => slots
def putOb (objs : Nat → Option Ob) (id : Nat) (o : Ob) : Nat → Option Ob := fun i => cond (Nat.beq i id) (some o) (objs i)

abbrev Objs := Nat → Option Ob

/-- a new object, where there is none -/
def newOb {β : Type} (objs : Objs) (id : Nat) (o : Ob) (k : Objs → Option β) : Option β :=
  match objs id with
  | none => k (putOb objs id o)
  | some _ => none

def nid (o : Oper) : Nat := match o.dst with
  | some d => 1000 + 64 * d
  | none => 0

def LIM : Nat := 4294967296

/-- the element at a place -/
def nth {α : Type} (xs : List α) (i : Int) : Option α := cond (decide (0 ≤ i)) xs[i.toNat]? none

def replaceAt {α : Type} (l : List α) (off : Nat) (m : List α) : List α := l.take off ++ m ++ l.drop (off + m.length)

section ops
variable {β : Type} (T : Tys) (objs : Objs)

def evPick (c a b : AV) (k : AV → Option β) : Option β :=
  match c with
  | .cs false [.bool t] => match a, b with
    | .cs false [.bool x], .cs false [.bool y] => k (.cs false [.bool (cond t x y)])
    | a, b => cond t (k a) (k b)
  | _ => none

def frz (ids : List Nat) (objs : Objs) : Objs :=
  match ids with
  | [] => objs
  | _ => fun i => match objs i with
    | some (.row e xs wr) => some (.row e xs (cond (ids.contains i) false wr))
    | o => o

/-- parts laid into the cells of a struct -/
def fillC (fs : List (Nat × TypeId)) (cells : List Cell) : List (Nat × AV) → Option (List Cell)
  | [] => some cells
  | (i, v) :: r => match fs[i]?, v with
    | some (off, t), .cs ag l => (match T.get t with
      | some ti => cond (Nat.beq l.length ti.zero.length && ag == ti.agg && Nat.ble (off + l.length) cells.length) (fillC fs (replaceAt cells off l) r) none
      | none => none)
    | _, _ => none

def evBuild (t : TypeId) (parts : List (Nat × AV)) (k : AV → Option β) : Option β :=
  match T.get t with
  | some ti => (match ti.kind with
    | .struct fs => cond (fs.all fun f => (T.get f.2).isSome) (match fillC T fs ti.zero parts with
      | some cs => k (.cs true cs)
      | none => none) none
    | _ => none)
  | none => none

/-- the rows of a slice that is written out: every place given, in order -/
def rowsOf (s : Sh) (agg : Bool) : Nat → List (Nat × AV) → Option (List (El s) × List Nat)
  | _, [] => some ([], [])
  | n, (i, .cs ag l) :: r => cond (Nat.beq i n && ag == agg) (match takeEl objs s l with
    | some t => (match t.rest, t.owned, rowsOf s agg (n + 1) r with
      | [], [], some (xs, ids) => some (t.val :: xs, t.lent ++ ids)
      | _, _, _ => none)
    | none => none) none
  | _, _ => none

def evBuildSlice (t : TypeId) (len : Nat) (parts : List (Nat × AV)) (id : Nat) (k : AV → Objs → Option β) : Option β :=
  match T.get t with
  | some ti => (match ti.kind with
    | .slice e => (match T.get e with
      | some te => cond (Nat.beq parts.length len && Nat.ble (len * te.zero.length) 16777216 && Nat.beq te.sh.size te.zero.length) (match rowsOf objs te.sh te.agg 0 parts with
        | some (xs, ids) => newOb (frz ids objs) id (.row te.sh xs true) (k (.cs false [.own id]))
        | none => none) none
      | none => none)
    | _ => none)
  | none => none

/-- what lies at an address -/
def evLoad (t : TypeId) (a : AV) (k : AV → Option β) : Option β :=
  match T.get t, a with
  | some ti, .cs false [.ptr id off] => (match objs id with
    | some (.var _ cs) => cond (Nat.ble (off + ti.zero.length) cs.length) (k (.cs ti.agg ((cs.drop off).take ti.zero.length))) none
    | _ => none)
  | some ti, .cs false [.eptr id i off] => (match objs id with
    | some (.row e xs _) => cond (Nat.ble (off + ti.zero.length) e.size) (Option.bind xs[i]? fun x => k (.cs ti.agg (((elCells e x).drop off).take ti.zero.length))) none
    | _ => none)
  | some ti, .cs false [.sptr e x off] => cond (Nat.ble (off + ti.zero.length) e.size) (k (.cs ti.agg (((elCells e x).drop off).take ti.zero.length))) none
  | _, _ => none

def evStore (t : TypeId) (a x : AV) (k : Objs → Option β) : Option β :=
  match T.get t, x with
  | some ti, .cs _ l => cond (Nat.beq l.length ti.zero.length) (match a with
    | .cs false [.ptr id off] => (match objs id with
      | some (.var nm cs) => cond (Nat.ble (off + l.length) cs.length) (k (putOb objs id (.var nm (replaceAt cs off l)))) none
      | _ => none)
    | .cs false [.eptr id i off] => (match objs id with
      | some (.row e xs true) => cond (Nat.ble (off + l.length) e.size) (Option.bind xs[i]? fun x => (match takeEl objs e (replaceAt (elCells e x) off l) with
        | some u => (match u.rest, u.owned with
          | [], [] => cond (u.lent.contains id) none (k (putOb (frz u.lent objs) id (.row e (xs.set i u.val) true)))
          | _, _ => none)
        | none => none)) none
      | _ => none)
    | _ => none) none
  | _, _ => none

def evField (off : Nat) (a : AV) (k : AV → Option β) : Option β :=
  match a with
  | .cs false [.ptr id o] => (match objs id with
    | some (.var _ _) => k (.cs false [.ptr id (o + off)])
    | _ => none)
  | .cs false [.eptr id i o] => (match objs id with
    | some (.row _ _ _) => k (.cs false [.eptr id i (o + off)])
    | _ => none)
  | .cs false [.sptr e x o] => k (.cs false [.sptr e x (o + off)])
  | _ => none

def evFieldAddr (s : TypeId) (a : AV) (f : Nat) (k : AV → Option β) : Option β :=
  match T.get s with
  | some ti => (match ti.kind with
    | .struct fs => (match fs[f]? with
      | some (off, t) => (match T.get t with
        | some tf => cond (Nat.beq tf.zero.length 0) none (evField objs off a k)
        | none => none)
      | none => none)
    | _ => none)
  | none => none

def evPart (s : TypeId) (a : AV) (f : Nat) (k : AV → Option β) : Option β :=
  match T.get s, a with
  | some ti, .cs true l => (match ti.kind with
    | .struct fs => (match fs[f]? with
      | some (off, t) => (match T.get t with
        | some tf => cond (Nat.ble (off + tf.zero.length) l.length) (k (.cs tf.agg ((l.drop off).take tf.zero.length))) none
        | none => none)
      | none => none)
    | _ => none)
  | _, _ => none

def evIndexAddr (t : TypeId) (x i : AV) (k : AV → Option β) : Option β :=
  match T.get t, i with
  | some ti, .cs false [.int _ n] => (match ti.kind with
    | .slice e => (match T.get e with
      | some te => (match x with
        | .cs false [.sl e' xs] => cond (Nat.beq e'.size te.zero.length) (Option.bind (nth xs n) fun x => k (.cs false [.sptr e' x 0])) none
        | .cs false [.own id] => (match objs id with
          | some (.row e' xs _) => cond (Nat.beq e'.size te.zero.length && !(Nat.beq e'.size 0)) (Option.bind (nth xs n) fun _ => k (.cs false [.eptr id n.toNat 0])) none
          | _ => none)
        | .cs false [.sub id off len] => (match objs id with
          | some (.row e' xs _) => cond (Nat.beq e'.size te.zero.length && !(Nat.beq e'.size 0)) (Option.bind (nth ((xs.drop off).take len) n) fun _ => k (.cs false [.eptr id (off + n.toNat) 0])) none
          | _ => none)
        | _ => none)
      | none => none)
    | _ => none)
  | _, _ => none

def evIndex (t : TypeId) (x i : AV) (k : AV → Option β) : Option β :=
  match T.get t, x, i with
  | some ti, .cs false [.str s], .cs false [.int _ n] => (match ti.kind with
    | .str => Option.bind (nth s.data.toList n) fun b => k (.cs false [.int .u8 b.toNat])
    | _ => none)
  | _, _, _ => none

def bitsV (op : BinOp) (k : IntKind) (x y : Int) : Int :=
  let a := BitVec.ofInt k.bits x
  let b := BitVec.ofInt k.bits y
  match op with
  | .and => k.wrap (a &&& b).toNat
  | .or => k.wrap (a ||| b).toNat
  | .xor => k.wrap (a ^^^ b).toNat
  | _ => k.wrap (a &&& ~~~b).toNat

def shlV (k : IntKind) (x y : Int) : Int := k.wrap (x * 2 ^ (min y.toNat k.bits))
def shrV (k : IntKind) (x y : Int) : Int := x.fdiv (2 ^ (min y.toNat k.bits))

def Sh.flat : Sh → Bool
  | .sl _ => false
  | .own _ => false
  | .pair a b => a.flat && b.flat
  | _ => true

/-- equality of values without slices -/
def eqEl : (s : Sh) → El s → El s → Bool
  | .int _, x, y => decide ((x : Int) = y)
  | .bool, x, y => (x : Bool) == y
  | .str, x, y => (x : ByteArray).toList == (y : ByteArray).toList
  | .pair a b, x, y => eqEl a x.1 y.1 && eqEl b x.2 y.2
  | .unit, _, _ => true
  | .sl _, _, _ => false
  | .own _, _, _ => false

mutual
/-- a type whose values are laid out as the shape says, and compared so -/
def eqOk (T : Tys) : Nat → TypeId → Sh → Bool
  | 0, _, _ => false
  | d + 1, t, s => (match T.get t with
    | some ti => Nat.beq s.size ti.zero.length && (match ti.kind with
      | .int k => (match s with
        | .int k' => decide (k = k')
        | _ => false)
      | .bool => (match s with
        | .bool => true
        | _ => false)
      | .str => (match s with
        | .str => true
        | _ => false)
      | .struct fs => eqFs T d fs 0 s
      | _ => false)
    | none => false)
def eqFs (T : Tys) : Nat → List (Nat × TypeId) → Nat → Sh → Bool
  | 0, _, _, _ => false
  | d + 1, f :: r, pos, s => (match r with
    | [] => Nat.beq f.1 pos && eqOk T d f.2 s
    | _ :: _ => (match s with
      | .pair a b => Nat.beq f.1 pos && eqOk T d f.2 a && eqFs T d r (pos + a.size) b
      | _ => false))
  | _, [], _, _ => false
end

def evInt (op : BinOp) (k : IntKind) (x y : Int) (j : Cell → Option β) : Option β :=
  match op with
  | .add => j (.int k (k.wrap (x + y)))
  | .sub => j (.int k (k.wrap (x - y)))
  | .mul => j (.int k (k.wrap (x * y)))
  | .quo => cond (y == 0) none (j (.int k (k.wrap (x.tdiv y))))
  | .rem => cond (y == 0) none (j (.int k (x.tmod y)))
  | .and => j (.int k (bitsV .and k x y))
  | .or => j (.int k (bitsV .or k x y))
  | .xor => j (.int k (bitsV .xor k x y))
  | .andNot => j (.int k (bitsV .andNot k x y))
  | .eql => j (.bool (x == y))
  | .neq => j (.bool (x != y))
  | .lss => j (.bool (decide (x < y)))
  | .leq => j (.bool (decide (x ≤ y)))
  | .gtr => j (.bool (decide (x > y)))
  | .geq => j (.bool (decide (x ≥ y)))
  | _ => none

def evStr (op : BinOp) (x y : ByteArray) (j : Cell → Option β) : Option β :=
  match op with
  | .add => cond (Nat.ble (x.size + y.size) 9223372036854775807) (j (.str (x ++ y))) none
  | .eql => j (.bool (x.toList == y.toList))
  | .neq => j (.bool !(x.toList == y.toList))
  | .lss => j (.bool (Op.bytesLess x.toList y.toList))
  | _ => none

def evBin (op : BinOp) (t : TypeId) (x y : AV) (j : Cell → Option β) : Option β :=
  match x, y with
  | .cs false [.int k a], .cs false [.int k' b] => (match op with
    | .shl => cond (decide (b < 0)) none (j (.int k (shlV k a b)))
    | .shr => cond (decide (b < 0)) none (j (.int k (shrV k a b)))
    | op => if k = k' then evInt op k a b j else none)
  | .cs false [.str a], .cs false [.str b] => evStr op a b j
  | .cs false [.bool a], .cs false [.bool b] => (match op, T.get t with
    | .eql, some ⟨.bool, _, _, _⟩ => j (.bool (a == b))
    | .neq, some ⟨.bool, _, _, _⟩ => j (.bool (!(a == b)))
    | _, _ => none)
  | .cs true l, .cs true m => (match T.get t with
    | some ti => cond (ti.agg && eqOk T 60 t ti.sh) (match takeEl (fun _ => none) ti.sh l, takeEl (fun _ => none) ti.sh m with
      | some x, some y => (match x.rest, y.rest, op with
        | [], [], .eql => j (.bool (eqEl ti.sh x.val y.val))
        | [], [], .neq => j (.bool (!(eqEl ti.sh x.val y.val)))
        | _, _, _ => none)
      | _, _ => none) none
    | none => none)
  | _, _ => none

def evUn (op : UnOp) (x : AV) (j : Cell → Option β) : Option β :=
  match op, x with
  | .neg, .cs false [.int k n] => j (.int k (k.wrap (0 - n)))
  | .not, .cs false [.bool b] => j (.bool !b)
  | _, _ => none

def evConvert (src dst : TypeId) (x : AV) (k : AV → Option β) : Option β :=
  match T.get src, T.get dst, x with
  | some _, some td, .cs false [.int _ n] => (match td.kind with
    | .int kd => k (.cs false [.int kd (kd.wrap n)])
    | .str => k (.cs false [.str (Utf8.encode n)])
    | _ => none)
  | some _, some td, .cs false [.str s] => (match td.kind with
    | .str => k (.cs false [.str s])
    | _ => none)
  | _, _, _ => none

/-- the place of a cut -/
def cutI (a : Option AV) (dflt : Nat) : Option (Option Int × Nat) :=
  match a with
  | none => some (none, dflt)
  | some (.cs false [.int _ n]) => some (some n, n.toNat)
  | _ => none

def inCut (a : Option Int) (most : Nat) : Bool := match a with
  | none => true
  | some n => decide (0 ≤ n) && decide (n ≤ most)

def evSlice (t : TypeId) (x : AV) (lo hi : Option AV) (k : AV → Option β) : Option β :=
  match T.get t, x with
  | some ti, .cs false [.str s] => (match ti.kind with
    | .str => (match cutI lo 0, cutI hi s.size with
      | some (cl, l), some (ch, h) => cond (inCut ch s.size && inCut cl h) (k (.cs false [.str (s.extract l h)])) none
      | _, _ => none)
    | _ => none)
  | some ti, .cs false [c] => (match ti.kind with
    | .slice e => (match T.get e with
      | some te => (match c with
        | .nils => (match cutI lo 0, cutI hi 0 with
          | some (cl, _), some (ch, h) => cond (inCut ch 0 && inCut cl h) (k (.cs false [.nils])) none
          | _, _ => none)
        | .sl e' xs => (match cutI lo 0, cutI hi xs.length with
          | some (cl, l), some (ch, h) => cond (Nat.beq e'.size te.zero.length && inCut ch xs.length && inCut cl h) (k (.cs false [.sl e' ((xs.drop l).take (h - l))])) none
          | _, _ => none)
        | .own id => (match objs id with
          | some (.row e' xs _) => (match cutI lo 0, cutI hi xs.length with
            | some (cl, l), some (ch, h) => cond (Nat.beq e'.size te.zero.length && inCut ch xs.length && inCut cl h) (k (.cs false [.sub id l (h - l)])) none
            | _, _ => none)
          | _ => none)
        | .sub id off len => (match objs id with
          | some (.row e' _ _) => (match cutI lo 0, cutI hi len with
            | some (cl, l), some (ch, h) => cond (Nat.beq e'.size te.zero.length && inCut ch len && inCut cl h) (k (.cs false [.sub id (off + l) (h - l)])) none
            | _, _ => none)
          | _ => none)
        | _ => none)
      | none => none)
    | _ => none)
  | _, _ => none

def lenC (c : Cell) : Option Nat :=
  match c with
  | .str s => some s.size
  | .nils => some 0
  | .sl _ xs => some xs.length
  | .own id => (match objs id with
    | some (.row _ xs _) => some xs.length
    | _ => none)
  | .sub id _ len => (match objs id with
    | some (.row _ _ _) => some len
    | _ => none)
  | _ => none

def evLen (t : TypeId) (x : AV) (k : AV → Option β) : Option β :=
  match T.get t, x with
  | some ti, .cs false [c] => (match lenC objs c with
    | some n => (match ti.kind, c with
      | .str, .str _ => k (.cs false [.int .i64 n])
      | .slice _, .str _ => none
      | .slice _, _ => k (.cs false [.int .i64 n])
      | _, _ => none)
    | none => none)
  | _, _ => none

/-- what an append begins with -/
def headOf (e : Sh) (c : Cell) : Option (List (El e) × Option Nat) :=
  match c with
  | .nils => some ([], none)
  | .own id => (match objs id with
    | some (.row e' xs true) => if h : e' = e then some (castRow h xs, some id) else none
    | _ => none)
  | .sub id off len => (match objs id with
    | some (.row e' xs true) => if h : e' = e then some (((castRow h xs).drop off).take len, some id) else none
    | _ => none)
  | _ => none

def evAppend (t : TypeId) (x y : AV) (id : Nat) (k : AV → Objs → Option β) : Option β :=
  match T.get t, x, y with
  | some ti, .cs false [c], .cs false [d] => (match ti.kind with
    | .slice e => (match T.get e with
      | some te => cond (Nat.beq te.sh.size te.zero.length && Nat.ble te.bytes 4096 && !(Nat.beq te.zero.length 0)) (match headOf objs te.sh c, readSl objs te.sh d with
        | some (xs, i), some (ys, _) => cond (Nat.ble (xs.length + ys.length) LIM) (match i with
          | none => newOb objs id (.row te.sh (xs ++ ys) true) (k (.cs false [.own id]))
          | some j => newOb (putOb objs j .dead) id (.row te.sh (xs ++ ys) true) (k (.cs false [.own id]))) none
        | _, _ => none) none
      | none => none)
    | _ => none)
  | _, _, _ => none

def evMakeSlice (t : TypeId) (l c : AV) (id : Nat) (k : AV → Objs → Option β) : Option β :=
  match T.get t, l, c with
  | some ti, .cs false [.int _ n], .cs false [.int _ m] => (match ti.kind with
    | .slice e => (match T.get e with
      | some te => (match takeEl (fun _ => none) te.sh te.zero with
        | some z => cond (decide (n = m) && decide (0 ≤ n) && decide (n ≤ LIM) && Nat.beq te.sh.size te.zero.length && Nat.ble te.bytes 4096) (match z.rest with
          | [] => newOb objs id (.row te.sh (List.replicate n.toNat z.val) true) (k (.cs false [.own id]))
          | _ => none) none
        | none => none)
      | none => none)
    | _ => none)
  | _, _, _ => none

def evMinMax (mx : Bool) (x y : AV) (k : AV → Option β) : Option β :=
  match x, y with
  | .cs false [.int ka a], .cs false [.int kb b] => if ka = kb then k (.cs false [.int ka (cond mx (if b > a then b else a) (if b < a then b else a))]) else none
  | _, _ => none

end ops

/-- the variables that pointers name -/
def ptrIds : List AV → Option (List Nat)
  | [] => some []
  | a :: r => (match a.ptrId, ptrIds r with
    | some id, some l => some (id :: l)
    | _, _ => none)

/-- an operation that is no call of a function -/
def evVal {β : Type} (T : Tys) (o : Oper) (σ : AS) (k : AV → Objs → Option β) : Option β :=
  match o.op with
  | .move x => k (σ.val x) σ.objs
  | .assign x => k (σ.val x) σ.objs
  | .pick c a b => evPick (σ.val c) (σ.val a) (σ.val b) (fun v => k v σ.objs)
  | .alloc t => (match T.get t with
    | some ti => newOb σ.objs (nid o) (.var none ti.zero) (k (.cs false [.ptr (nid o) 0]))
    | none => none)
  | .box _ x => (match σ.val x with
    | .cs _ l => newOb σ.objs (nid o) (.var none l) (k (.cs false [.ptr (nid o) 0]))
    | _ => none)
  | .build t parts => evBuild T t (parts.toList.map fun p => (p.1, σ.val p.2)) (fun v => k v σ.objs)
  | .buildSlice t len parts => evBuildSlice T σ.objs t len (parts.toList.map fun p => (p.1, σ.val p.2)) (nid o) k
  | .load t a => evLoad T σ.objs t (σ.val a) (fun v => k v σ.objs)
  | .store t a x => evStore T σ.objs t (σ.val a) (σ.val x) (k .undef)
  | .nilCheck x => evField σ.objs 0 (σ.val x) (fun _ => k (σ.val x) σ.objs)
  | .binOp op t x y _ => evBin T op t (σ.val x) (σ.val y) (fun c => k (.cs false [c]) σ.objs)
  | .unOp op _ x => evUn op (σ.val x) (fun c => k (.cs false [c]) σ.objs)
  | .convert s d x => evConvert T s d (σ.val x) (fun v => k v σ.objs)
  | .makeSlice t l c => evMakeSlice T σ.objs t (σ.val l) (σ.val c) (nid o) k
  | .slice t x lo hi none => evSlice T σ.objs t (σ.val x) (lo.map σ.val) (hi.map σ.val) (fun v => k v σ.objs)
  | .fieldAddr s x f => evFieldAddr T σ.objs s (σ.val x) f (fun v => k v σ.objs)
  | .field s x f => evPart T s (σ.val x) f (fun v => k v σ.objs)
  | .indexAddr t x i => evIndexAddr T σ.objs t (σ.val x) (σ.val i) (fun v => k v σ.objs)
  | .index t x i => evIndex T t (σ.val x) (σ.val i) (fun v => k v σ.objs)
  | .makeFunc f fi cs => (match f, fi.toList, ptrIds (cs.toList.map σ.val) with
    | .func g, [], some ids => k (.cs false [.clo g ids]) σ.objs
    | _, _, _ => none)
  | .extract x i => (match σ.val x with
    | .tup l => (match l[i]? with
      | some (ag, cs) => k (.cs ag cs) σ.objs
      | none => none)
    | _ => none)
  | .call c => (match c.callee with
    | .builtin .len => (match c.args.toList, c.argTypes.toList with
      | [x], [t] => evLen T σ.objs t (σ.val x) (fun v => k v σ.objs)
      | _, _ => none)
    | .builtin .append => (match c.args.toList, c.argTypes.toList with
      | [x, y], [t, u] => (match T.get u with
        | some tu => (match tu.kind with
          | .slice _ => evAppend T σ.objs t (σ.val x) (σ.val y) (nid o) k
          | _ => none)
        | none => none)
      | _, _ => none)
    | .builtin .min => (match c.args.toList with
      | [x, y] => evMinMax false (σ.val x) (σ.val y) (fun v => k v σ.objs)
      | _ => none)
    | .builtin .max => (match c.args.toList with
      | [x, y] => evMinMax true (σ.val x) (σ.val y) (fun v => k v σ.objs)
      | _ => none)
    | _ => none)
  | _ => none

end Go.Fw

namespace Go.Fw
open Go

/-! ## the table of types, against the program -/
def kindOk : TK → TypeDesc → Prop
  | .int k, d => d = .int k
  | .bool, d => d = .bool
  | .str, d => d = .string
  | .slice e, d => d = .slice e
  | .struct fs, d => ∃ fields, d = .struct fields ∧ fields.toList.map (fun f => (f.offset, f.type)) = fs
  | .other, d => match d with
    | .struct _ => False
    | .array _ _ => False
    | _ => True

def valOf : Cell → Option Value
  | .int k n => some (.int k n)
  | .bool b => some (.bool b)
  | .str s => some (.string s)
  | .nils => some (.slice none 0 0)
  | .lit v => (match v with
    | .agg _ => none
    | .tuple _ => none
    | v => some v)
  | _ => none

def valsOf : List Cell → Option (List Value)
  | [] => some []
  | c :: cs => match valOf c, valsOf cs with
    | some v, some vs => some (v :: vs)
    | _, _ => none

def TOk1 (P : Program) (t : Nat) (ti : TI) : Prop :=
  ∃ info z zs d, P.info? t = some info ∧ info.zero = some z ∧ info.size = ti.zero.length ∧ info.bytes = ti.bytes ∧ valsOf ti.zero = some zs ∧ IsVal ti.agg zs z ∧
    P.underlying t = some d ∧ kindOk ti.kind d

/-- a struct that may be compared -/
def StOk1 (P : Program) (t : Nat) (ti : TI) : Prop := match ti.kind with
  | .struct _ => P.stoodInHeld t = false ∧ P.eqGuardType P.depth t = false ∧ ((P.fieldsOf t).toList.all fun f => f.name != "_") = true
  | _ => True

structure TOk (P : Program) (T : Tys) : Prop where
  ok : ∀ t ti, T.get t = some ti → TOk1 P t ti
  st : ∀ t ti, T.get t = some ti → StOk1 P t ti

instance {P : Program} {T : Tys} : CoeFun (TOk P T) (fun _ => ∀ t ti, T.get t = some ti → TOk1 P t ti) := ⟨TOk.ok⟩

theorem TOk.nil (P : Program) : TOk P [] := ⟨fun _ _ h => (by cases h), fun _ _ h => (by cases h)⟩
theorem tab_cons {Q : Nat → TI → Prop} {T : Tys} {t : Nat} {ti : TI} (h1 : Q t ti) (h : ∀ t ti, T.get t = some ti → Q t ti) : ∀ u tj, Tys.get ((t, ti) :: T) u = some tj → Q u tj := by
  intro u tj hu
  simp only [Tys.get] at hu
  cases hb : Nat.beq t u with
  | true =>
    rw [hb] at hu
    simp only [cond_true, Option.some.injEq] at hu
    have := Nat.eq_of_beq_eq_true hb
    subst this hu
    exact h1
  | false => rw [hb] at hu; exact h u tj hu

theorem TOk.cons {P : Program} {T : Tys} {t : Nat} {ti : TI} (h1 : TOk1 P t ti) (h2 : StOk1 P t ti) (h : TOk P T) : TOk P ((t, ti) :: T) :=
  ⟨tab_cons (Q := TOk1 P) h1 h.ok, tab_cons (Q := StOk1 P) h2 h.st⟩

theorem valsOf_ok {w : World} {V : Nat → Prop} {μ : Mu} {objs : Nat → Option Ob} : ∀ (cs : List Cell) (vs : List Value), valsOf cs = some vs → CellsR w V μ objs cs vs
  | [], vs, h => by simp only [valsOf] at h; cases h; rfl
  | c :: cs, vs, h => by
    simp only [valsOf] at h
    split at h <;> cases h
    rename_i v vs' h1 h2
    refine ⟨v, vs', rfl, ?_, ?_, valsOf_ok cs vs' h2⟩
    · cases c with
      | lit u => cases u <;> simp only [valOf] at h1 <;> cases h1 <;> trivial
      | _ => simp only [valOf] at h1 <;> cases h1 <;> trivial
    · cases c with
      | lit u => cases u <;> simp only [valOf] at h1 <;> cases h1 <;> rfl
      | _ => simp only [valOf] at h1 <;> cases h1 <;> first | rfl | exact ⟨none, rfl⟩

/-! ## a step of a state -/
section steps
variable {w0 : World} {U : Nat → Prop} {S : Own} {a : Act} {w : World} {V : Nat → Prop} {μ : Mu} {slots : Nat → AV} {objs : Objs}

theorem RelM.step {w' : World} {V' : Nat → Prop} {μ' : Mu} {objs' : Objs} (R : RelM w0 U S ⟨slots, objs⟩ a w V μ) (hk : Keeps V V' w w' μ μ' objs objs')
    (hO : ∀ id o, objs' id = some o → ObR w' V' μ' objs' id o)
    (hinj : ∀ id id' o o' b x x', objs' id = some o → objs' id' = some o' → o.wr = true → o'.wr = true → μ' id = some (b, x) → μ' id' = some (b, x') → id = id')
    (horig : ∀ id o b x, objs' id = some o → o.wr = true → μ' id = some (b, x) → (b ∈ S ∨ w0.heap.size ≤ b) ∧ V' b)
    (hframe : ∀ b o, b ∉ S → w0.heap[b]? = some o → w.heap[b]? = some o → w'.heap[b]? = some o)
    (hsizes : ∀ (b : Nat) vs ty fr, w.heap[b]? = some (.cells vs ty fr) → ∃ vs' ty' fr', w'.heap[b]? = some (.cells vs' ty' fr') ∧ vs'.size = vs.size)
    (hgrow : w.heap.size ≤ w'.heap.size ∧ Quiet w w')
    (hvlt : ∀ b, V' b → b < w'.heap.size)
    (huv : ∀ b, V b → U b → b ∉ S → V' b)
    (hnew : ∀ id k cs, objs id = none → objs' id ≠ some (.var (some k) cs)) : RelM w0 U S ⟨slots, objs'⟩ a w' V' μ' where
  slots t := (R.slots t).keeps hk
  objs := hO
  inj := hinj
  orig id o b x h1 h2 h3 := (horig id o b x h1 h2 h3).1
  inV id o b x h1 h2 h3 := (horig id o b x h1 h2 h3).2
  frame b o hb ho := hframe b o hb ho (R.frame b o hb ho)
  sizes b vs ty fr h := by
    obtain ⟨vs', ty', fr', h1, h2⟩ := R.sizes b vs ty fr h
    obtain ⟨vs2, ty2, fr2, h3, h4⟩ := hsizes b vs' ty' fr' h1
    exact ⟨vs2, ty2, fr2, h3, by omega⟩
  grow := Nat.le_trans R.grow hgrow.1
  quiet := R.quiet.trans hgrow.2
  vlt := hvlt
  ult := R.ult
  uv b hb hs := huv b (R.uv b hb hs) hb hs
  defers := R.defers
  named id k cs h := by
    cases ho : objs id with
    | none => exact absurd h (hnew id k cs ho)
    | some o =>
      obtain ⟨⟨cs0, h1⟩, h2⟩ := hk.var id cs _ (by rw [ho]; rfl) h
      rw [h2]
      exact R.named id k cs0 h1

theorem Keeps.refl : Keeps V V w w μ μ objs objs where
  same _ _ hv ho := ⟨hv, ho⟩
  there _ h := h
  row _ _ xs wr _ h := ⟨⟨xs, wr, h, rfl⟩, rfl, fun _ _ vs ty fr _ hb => ⟨vs, ty, fr, hb, rfl⟩⟩
  var _ cs _ _ h := ⟨⟨cs, h⟩, rfl⟩

/-- a slot is written -/
theorem RelM.put (R : RelM w0 U S ⟨slots, objs⟩ a w V μ) {dst : Option Nat} {av : AV} {v : Value} (hd : ∀ d, dst = some d → d < a.tmps.size) (hv : AVR w V μ objs av v) :
    RelM w0 U S ⟨putDst slots dst av, objs⟩ (a.put dst v) w V μ where
  slots t := by
    cases dst with
    | none => exact R.slots t
    | some d =>
      have hlt := hd d rfl
      simp only [putDst, putSlot, Act.put]
      by_cases htd : t = d
      · subst htd
        rw [Nat.beq_refl, cond_true]
        simp [Array.getD, hlt, hv]
      · have e : Nat.beq t d = false := by
          cases hb : Nat.beq t d with
          | false => rfl
          | true => exact (htd (Nat.eq_of_beq_eq_true hb)).elim
        rw [e, cond_false]
        have := R.slots t
        have e2 : (a.tmps.setIfInBounds d v).getD t undef = a.tmps.getD t undef := by
          simp only [Array.getD, Array.size_setIfInBounds]
          split
          · rename_i h1
            simp only [Array.getInternal_eq_getElem]
            rw [Array.getElem_setIfInBounds (by simpa using h1), if_neg (fun h => htd h.symm)]
          · rfl
        rw [e2]; exact this
  objs := R.objs
  inj := R.inj
  orig := R.orig
  inV := R.inV
  frame := R.frame
  sizes := R.sizes
  grow := R.grow
  quiet := R.quiet
  vlt := R.vlt
  ult := R.ult
  uv := R.uv
  defers := by cases dst <;> exact R.defers
  named := R.named

theorem constCell_ok (v : Value) (hp : Plain v) : CellR w V μ objs (constCell v) v := by
  unfold constCell
  split <;> first | rfl | exact ⟨none, rfl⟩

theorem plainB_ok {v : Value} (h : plainB v = true) : Plain v := by cases v <;> first | trivial | cases h

theorem RelM.val (R : RelM w0 U S ⟨slots, objs⟩ a w V μ) (x : Operand) : AVR w V μ objs (AS.val ⟨slots, objs⟩ x) (a.eval x) := by
  cases x with
  | tmp t => exact R.slots t
  | const v =>
    simp only [AS.val, Act.eval]
    have single : ∀ u : Value, Plain u → AVR w V μ objs (.cs false [constCell u]) u := fun u hu => ⟨[u], rfl, u, [], rfl, hu, constCell_ok u hu, rfl⟩
    cases v with
    | agg cs =>
      simp only [constAV]
      cases hall : cs.toList.all plainB with
      | false => trivial
      | true =>
        refine ⟨cs.toList, by simp [IsVal], ?_⟩
        rw [List.all_eq_true] at hall
        revert hall
        generalize cs.toList = l
        intro hl
        induction l with
        | nil => rfl
        | cons u l ih => exact ⟨u, _, rfl, plainB_ok (hl u (by simp)), constCell_ok u (plainB_ok (hl u (by simp))), ih (fun v hv => hl v (by simp [hv]))⟩
    | tuple vs => trivial
    | _ => exact single _ trivial
  | global g => trivial
  | func f => exact ⟨[_], rfl, _, [], rfl, trivial, rfl, rfl⟩

end steps
end Go.Fw

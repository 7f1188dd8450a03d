/- L1: the plain law, with no program in sight. -/
import Derived.Test.YtfllidjfcolkeaaQ1
import Derived.Test.YtfllidjfcolkeaaF4
import Derived.IntWalk
namespace Go.Fw
open Go Go.Proofs
set_option maxRecDepth 100000

theorem bits_and {x y : Int} (h1 : 0 ≤ y) (h2 : y ≤ 9223372036854775807) : 0 ≤ bitsV .and .i64 x y ∧ bitsV .and .i64 x y ≤ y := by
  simp only [bitsV]
  have hy : (BitVec.ofInt 64 y).toNat = y.toNat := by
    rw [BitVec.toNat_ofInt]
    omega
  have hle : (BitVec.ofInt 64 x &&& BitVec.ofInt 64 y).toNat ≤ y.toNat := by
    rw [BitVec.toNat_and, hy]
    exact Nat.and_le_right
  have h : ((BitVec.ofInt IntKind.i64.bits x &&& BitVec.ofInt IntKind.i64.bits y).toNat : Int) ≤ y := by
    have : (BitVec.ofInt IntKind.i64.bits x &&& BitVec.ofInt IntKind.i64.bits y).toNat ≤ y.toNat := hle
    omega
  rw [wrap_i64 (by omega) (by omega)]
  constructor <;> omega

/-- a cursor over no more than 2^20 bytes -/
def CI (c : List Int × (Int × Int)) : Prop := 0 ≤ c.2.1 ∧ c.2.1 ≤ c.1.length ∧ c.1.length ≤ 1048576

theorem s_l1Byte_ok {c : List Int × (Int × Int)} (h : CI c) : Ok (s_l1Byte (c, ())) (fun (y : (Int × Unit) × ((List Int × (Int × Int)) × Unit)) => 0 ≤ y.1.1 ∧ y.1.1 ≤ 255 ∧ CI y.2.1) := by
  simp only [s_l1Byte_eq]
  obtain ⟨h1, h2, h3⟩ := h
  refine Ok.bind (p := fun (v : (List Int × (Int × Int)) × (Int × Unit)) => CI v.1 ∧ 0 ≤ v.2.1 ∧ v.2.1 ≤ 255) ?_ (fun v hv => Ok.some ⟨hv.2.1, hv.2.2, hv.1⟩)
  refine Ok.cond (fun hb => ?_) (fun _ => ?_)
  · have hb := of_decide_eq_true hb
    refine Ok.bind (p := fun _ => True) (Ok.nth h1 hb (fun _ _ => trivial)) (fun x _ => Ok.some ⟨⟨?_, ?_, h3⟩, bits_and (by decide) (by decide)⟩)
    · simp only; rw [wrap_i64 (by omega) (by omega)]; omega
    · simp only; rw [wrap_i64 (by omega) (by omega)]; omega
  · exact Ok.some ⟨⟨h1, h2, h3⟩, bits_and (by decide) (by decide)⟩

theorem tmod_range {a n : Int} (ha : 0 ≤ a) (hn : 0 < n) : 0 ≤ Int.tmod a n ∧ Int.tmod a n < n := by
  rw [Int.tmod_eq_emod_of_nonneg ha]
  exact ⟨Int.emod_nonneg _ (by omega), Int.emod_lt_of_pos _ hn⟩

theorem s_l1Below_ok {c : List Int × (Int × Int)} {n : Int} (h : CI c) (hn : 0 < n) : Ok (s_l1Below (c, (n, ()))) (fun (y : (Int × Unit) × ((List Int × (Int × Int)) × Unit)) => 0 ≤ y.1.1 ∧ y.1.1 < n ∧ CI y.2.1) := by
  simp only [s_l1Below_eq]
  refine Ok.cond (fun hb => ?_) (fun _ => Ok.cond (fun _ => ?_) (fun _ => ?_))
  · have := of_decide_eq_true hb; omega
  · refine Ok.bind (s_l1Byte_ok h) (fun y hy => Ok.cond (fun hz => ?_) (fun _ => Ok.some ?_))
    · have h0 : n = 0 := eq_of_beq hz; omega
    · have := tmod_range hy.1 hn
      exact ⟨this.1, this.2, hy.2.2⟩
  · refine Ok.bind (s_l1Byte_ok h) (fun y1 hy1 => Ok.bind (s_l1Byte_ok hy1.2.2) (fun y2 hy2 => Ok.bind (s_l1Byte_ok hy2.2.2) (fun y3 hy3 => Ok.cond (fun hz => ?_) (fun _ => Ok.some ?_))))
    · have h0 : n = 0 := eq_of_beq hz; omega
    · have e : 0 ≤ IntKind.i64.wrap (IntKind.i64.wrap (IntKind.i64.wrap (y1.1.1 * 65536) + IntKind.i64.wrap (y2.1.1 * 256)) + y3.1.1) := by
        obtain ⟨a1, a2, _⟩ := hy1
        obtain ⟨b1, b2, _⟩ := hy2
        obtain ⟨c1, c2, _⟩ := hy3
        rw [wrap_i64 (n := y1.1.1 * 65536) (by omega) (by omega), wrap_i64 (n := y2.1.1 * 256) (by omega) (by omega)]
        rw [wrap_i64 (n := y1.1.1 * 65536 + y2.1.1 * 256) (by omega) (by omega)]
        rw [wrap_i64 (by omega) (by omega)]
        omega
      have := tmod_range e hn
      exact ⟨this.1, this.2, hy3.2.2⟩

theorem s_l1Int_ok {c : List Int × (Int × Int)} {xs : List Int} (h : CI c) (hx : xs ≠ []) : Ok (s_l1Int (c, (xs, ()))) (fun (y : (Int × Unit) × ((List Int × (Int × Int)) × Unit)) => y.1.1 ∈ xs ∧ CI y.2.1) := by
  simp only [s_l1Int_eq]
  have hl : 0 < xs.length := List.length_pos_iff.2 hx
  refine Ok.bind (s_l1Below_ok h (n := ((xs.length : Nat) : Int)) (by omega)) (fun y hy => ?_)
  exact Ok.bind (Ok.nth hy.1 hy.2.1 (fun x hx => hx)) (fun x hx => Ok.some ⟨hx, hy.2.2⟩)

theorem s_l1New_ok {b : List Int} (h : b.length ≤ 1048576) : Ok (s_l1New (b, ())) (fun (y : ((List Int × (Int × Int)) × Unit) × Unit) => CI y.1.1) := by
  simp only [s_l1New_eq]
  refine Ok.loop (fun (v : List Int × (Int × (Int × Unit))) => v.1 = b ∧ 0 ≤ v.2.2.1 ∧ v.2.2.1 ≤ 4000) (fun v => (4000 - v.2.2.1).toNat) ?_ _ ⟨rfl, by simp, by simp⟩
  rintro v ⟨hv, h1, h2⟩
  refine Ok.bind (p := fun (u : List Int × (Int × (Int × (Bool × Unit)))) => u.1 = b ∧ u.2.2.1 = v.2.2.1 ∧ (u.2.2.2.1 = true → v.2.2.1 < (b.length : Int) ∧ v.2.2.1 < 4000)) ?_ ?_
  · refine Ok.cond (fun hb => Ok.some ⟨hv, rfl, fun hc => ?_⟩) (fun _ => Ok.some ⟨hv, rfl, fun hc => by cases hc⟩)
    have := of_decide_eq_true hb
    rw [hv] at this
    exact ⟨this, of_decide_eq_true hc⟩
  · rintro u ⟨hu, hi, hc⟩
    refine Ok.cond (fun hb => ?_) (fun _ => Ok.some ?_)
    · obtain ⟨k1, k2⟩ := hc hb
      refine Ok.bind (Ok.nth (q := fun _ => True) (by rw [hi]; exact h1) (by rw [hi, hu]; exact k1) (fun _ _ => trivial)) (fun x _ => Ok.some ?_)
      simp only
      rw [hi, wrap_i64 (by omega) (by omega)]
      exact ⟨⟨hu, by omega, by omega⟩, by omega⟩
    · exact ⟨by simp, by simp, by rw [hu]; exact h⟩

theorem s_DrawPower_ok {b : List Int} (h : b.length ≤ 1048576) : Ok (s_DrawPower (b, ())) (fun (y : (Int × (Int × Unit)) × Unit) => y.1.1 ∈ ([0, 1, 2, 3, 10, 2147483647, -1, 9223372036854775807] : List Int) ∧ y.1.2.1 ∈ ([0, 1, 2, 5, 10, 31, 40, 100, -1] : List Int)) := by
  simp only [s_DrawPower_eq]
  exact Ok.bind (s_l1New_ok h) (fun y0 h0 => Ok.bind (s_l1Int_ok h0 (by simp)) (fun y1 h1 => Ok.bind (s_l1Int_ok h1.2 (by simp)) (fun y2 h2 => Ok.some ⟨h1.1, h2.1⟩)))

end Go.Fw

namespace Go.Fw
open Go Go.Proofs
set_option maxRecDepth 100000

/-- a product that stops at the most -/
def gM (c r : Int) : Int := if 2147483647 < r * c then 2147483647 else r * c

def itM (c : Int) : Nat → Int → Int
  | 0, r => r
  | n + 1, r => itM c n (gM c r)

theorem gM_range {c r : Int} (hc : 0 ≤ c) (hr : 0 ≤ r) : 0 ≤ gM c r ∧ gM c r ≤ 2147483647 := by
  unfold gM
  have := Int.mul_nonneg hr hc
  split <;> constructor <;> omega

theorem itM_range {c : Int} (hc : 0 ≤ c) : ∀ (n : Nat) (r : Int), 0 ≤ r → r ≤ 2147483647 → 0 ≤ itM c n r ∧ itM c n r ≤ 2147483647
  | 0, r, h1, h2 => ⟨h1, h2⟩
  | n + 1, r, h1, _ => itM_range hc n _ (gM_range hc h1).1 (gM_range hc h1).2

theorem gM_top {c : Int} (hc : 1 ≤ c) : gM c 2147483647 = 2147483647 := by
  unfold gM
  have h : (2147483647 : Int) * 1 ≤ 2147483647 * c := Int.mul_le_mul_of_nonneg_left hc (by decide)
  split <;> omega

theorem itM_top {c : Int} (hc : 1 ≤ c) : ∀ n : Nat, itM c n 2147483647 = 2147483647
  | 0 => rfl
  | n + 1 => by simp only [itM, gM_top hc, itM_top hc n]

theorem mul_small {a b : Int} (h1 : 0 ≤ a) (h2 : a ≤ 2147483647) (h3 : 0 ≤ b) (h4 : b ≤ 2147483647) : 0 ≤ a * b ∧ a * b ≤ 4611686014132420609 := by
  refine ⟨Int.mul_nonneg h1 h3, ?_⟩
  have h := Int.mul_le_mul h2 h4 h3 (by decide : (0 : Int) ≤ 2147483647)
  exact Int.le_trans h (by decide)

def cl (b : Int) : Int := if (if 2147483647 < b then 2147483647 else b) > (0 : Int) then (if 2147483647 < b then 2147483647 else b) else 0

theorem cl_range (b : Int) : 0 ≤ cl b ∧ cl b ≤ 2147483647 := by
  unfold cl
  split <;> split <;> constructor <;> omega

theorem i_Upto_cl (b : Int) : i_Upto (b, ((2147483647 : Int), ())) = some ((cl b, ()), ()) := by
  simp only [i_Upto_eq]; rfl

theorem s_Upto_cl (b : Int) : s_Upto (b, ((2147483647 : Int), ())) = some ((cl b, ()), ()) := by
  simp only [s_Upto_eq]
  by_cases h : 2147483647 < b
  · simp [h, cl]
  · by_cases h0 : b < 0
    · have h1 : ¬ b > 0 := by omega
      simp [h, cl, h0, h1]
    · by_cases h2 : b > 0
      · simp [h, cl, h0, h2]
      · have : b = 0 := by omega
        subst this
        simp [cl]

def pw (c n : Int) : Int := itM c n.toNat 1

theorem itM_one : ∀ n : Nat, itM 1 n 1 = 1
  | 0 => rfl
  | n + 1 => by simp only [itM]; rw [show gM 1 1 = 1 by decide]; exact itM_one n
theorem itM_zero : ∀ n : Nat, itM 0 n 0 = 0
  | 0 => rfl
  | n + 1 => by simp only [itM]; rw [show gM 0 0 = 0 by decide]; exact itM_zero n

theorem i_Power_pw {b n : Int} (hn : -9223372036854775808 ≤ n ∧ n ≤ 9223372036854775807) : i_Power (b, (n, ())) = some ((pw (cl b) n, ()), ()) := by
  simp only [i_Power_eq, i_Upto_cl, Option.bind_some]
  have hcl := cl_range b
  generalize cl b = c at hcl
  by_cases hc : c < 2
  · rw [decide_eq_true hc, cond_true]
    unfold pw
    by_cases h : n > 0
    · rw [decide_eq_true h, cond_true, Option.bind_some]
      have : n.toNat = (n.toNat - 1) + 1 := by omega
      rw [this]
      simp only [itM]
      rcases (show c = 0 ∨ c = 1 by omega) with rfl | rfl
      · rw [show gM 0 1 = 0 by decide, itM_zero]
      · rw [show gM 1 1 = 1 by decide, itM_one]
    · rw [decide_eq_false h, cond_false, Option.bind_some]
      have : n.toNat = 0 := by omega
      rw [this]; rfl
  · rw [decide_eq_false hc, cond_false]
    unfold pw
    suffices h : ∀ (k : Nat) (n r : Int), n.toNat = k → -9223372036854775808 ≤ n → n ≤ 9223372036854775807 → 0 ≤ r → r ≤ 2147483647 → loopC (fun (v2 : Int × (Int × (Int × Unit))) =>
        Option.bind (cond (decide (v2.2.1 > (0 : Int)))
        (some (v2.1, (v2.2.1, (v2.2.2.1, ((decide (v2.2.2.1 < (2147483647 : Int))), ())))))
        (some (v2.1, (v2.2.1, (v2.2.2.1, (false, ())))))) fun (v3 : Int × (Int × (Int × (Bool × Unit)))) =>
        cond v3.2.2.2.1
        (some (.inl (v3.1, ((IntKind.i64.wrap (v3.2.1 - (1 : Int))), ((if (2147483647 : Int) < (IntKind.i64.wrap (v3.2.2.1 * v3.1)) then (2147483647 : Int) else (IntKind.i64.wrap (v3.2.2.1 * v3.1))), ())))))
        (some (.inr ((v3.2.2.1, ()), ())))) (c, (n, (r, ()))) = some ((itM c k r, ()), ()) from h n.toNat n 1 rfl hn.1 hn.2 (by decide) (by decide)
    intro k
    induction k with
    | zero =>
      intro n r hk _ _ h1 h2
      apply loopC_end
      have : ¬ n > 0 := by omega
      simp [this, itM]
    | succ k ih =>
      intro n r hk hn1 hn2 h1 h2
      have hpos : n > 0 := by omega
      by_cases hr : r < 2147483647
      · have hm := mul_small h1 h2 hcl.1 hcl.2
        have hw : IntKind.i64.wrap (r * c) = r * c := wrap_i64 (by omega) (by omega)
        have hw2 : IntKind.i64.wrap (n - 1) = n - 1 := wrap_i64 (by omega) (by omega)
        rw [loopC_step (v' := (c, (n - 1, (gM c r, ())))) (by simp [hpos, hr, hw, hw2, gM])]
        have hg := gM_range hcl.1 h1
        rw [ih (n - 1) (gM c r) (by omega) (by omega) (by omega) hg.1 hg.2]
        rfl
      · have : r = 2147483647 := by omega
        subst this
        rw [loopC_end (b := ((2147483647, ()), ())) (by simp [hpos])]
        rw [itM_top (by omega)]

end Go.Fw

namespace Go.Fw
open Go Go.Proofs
set_option maxRecDepth 100000

theorem itM_add (c : Int) : ∀ (m n : Nat) (r : Int), itM c (m + n) r = itM c n (itM c m r)
  | 0, n, r => by simp [itM]
  | m + 1, n, r => by rw [show m + 1 + n = (m + n) + 1 by omega]; simp only [itM]; exact itM_add c m n _

theorem gM_ge {c r : Int} {k : Int} (hc : 2 ≤ c) (hr : 0 ≤ r) (hk : k ≤ r) : 2147483647 ≤ gM c r ∨ 2 * k ≤ gM c r := by
  unfold gM
  have h : r * 2 ≤ r * c := Int.mul_le_mul_of_nonneg_left hc hr
  split
  · left; omega
  · right; omega

theorem itM_big {c : Int} (hc : 2 ≤ c) : ∀ (n : Nat) (r k : Int), 1 ≤ r → r ≤ 2147483647 → k ≤ r → 0 ≤ k → itM c n r = 2147483647 ∨ k * 2 ^ n ≤ itM c n r
  | 0, r, k, h1, h2, h3, _ => by right; simp [itM]; exact h3
  | n + 1, r, k, h1, h2, h3, h4 => by
    simp only [itM]
    have hg := gM_range (c := c) (r := r) (by omega) (by omega)
    rcases gM_ge (k := k) hc (by omega) h3 with h | h
    · left
      have : gM c r = 2147483647 := by omega
      rw [this, itM_top (by omega)]
    · have hr1 : 1 ≤ gM c r := by
        rcases gM_ge (k := 1) hc (by omega) h1 with h | h <;> omega
      rcases itM_big hc n (gM c r) (2 * k) hr1 hg.2 h (by omega) with h' | h'
      · exact .inl h'
      · right
        rw [Int.pow_succ]
        have : k * (2 ^ n * 2) = 2 * k * 2 ^ n := by rw [Int.mul_comm (2 ^ n) 2, ← Int.mul_assoc, Int.mul_comm k 2]
        rw [this]; exact h'

theorem itM_64 {c : Int} (h0 : 0 ≤ c) (n : Nat) : itM c (min n 64) 1 = itM c n 1 := by
  by_cases hn : n ≤ 64
  · rw [Nat.min_eq_left hn]
  · rw [Nat.min_eq_right (by omega)]
    have e : n = 64 + (n - 64) := by omega
    rw [e, itM_add]
    rcases (show c = 0 ∨ c = 1 ∨ 2 ≤ c by omega) with rfl | rfl | hc
    · have : itM 0 64 1 = 0 := by
        show itM 0 63 (gM 0 1) = 0
        rw [show gM 0 1 = 0 by decide, itM_zero]
      rw [this, itM_zero]
    · rw [itM_one, itM_one]
    · have : itM c 64 1 = 2147483647 := by
        have hr := itM_range h0 64 1 (by decide) (by decide)
        rcases itM_big hc 64 1 1 (by decide) (by decide) (by decide) (by decide) with h | h
        · exact h
        · have : (1 : Int) * 2 ^ 64 = 18446744073709551616 := by decide
          omega
      rw [this, itM_top (by omega)]

theorem s_Bound_b {n : Int} (h1 : 0 ≤ n) : s_Bound (n, ()) = some (((if 2147483647 < n then 2147483647 else n), ()), ()) := by
  simp only [s_Bound_eq]
  by_cases h : n > 2147483647
  · have : 2147483647 < n := h
    simp [this]
  · have h2 : ¬ 2147483647 < n := h
    have h3 : ¬ n < -2147483647 := by omega
    simp [h2, h3]

theorem s_Power_pw {b n : Int} : s_Power (b, (n, ())) = some ((pw (cl b) n, ()), ()) := by
  simp only [s_Power_eq, s_Upto_cl, Option.bind_some]
  have hcl := cl_range b
  generalize cl b = c at hcl
  unfold pw
  rw [← itM_64 hcl.1]
  suffices h : ∀ (k : Nat) (i r : Int), k = min n.toNat 64 - i.toNat → 0 ≤ i → i ≤ 64 → 0 ≤ r → r ≤ 2147483647 → loopC (fun (v1 : Int × (Int × (Int × (Int × Unit)))) =>
      Option.bind (cond (decide (v1.2.2.2.1 < v1.1))
      (some (v1.1, (v1.2.1, (v1.2.2.1, (v1.2.2.2.1, ((decide (v1.2.2.2.1 < (64 : Int))), ()))))))
      (some (v1.1, (v1.2.1, (v1.2.2.1, (v1.2.2.2.1, (false, ()))))))) fun (v2 : Int × (Int × (Int × (Int × (Bool × Unit))))) =>
      cond v2.2.2.2.2.1
      (Option.bind (s_Bound ((IntKind.i64.wrap (v2.2.2.1 * v2.2.1)), ())) fun (y3 : (Int × Unit) × Unit) =>
      some (.inl (v2.1, (v2.2.1, (y3.1.1, ((IntKind.i64.wrap (v2.2.2.2.1 + (1 : Int))), ()))))))
      (some (.inr ((v2.2.2.1, ()), ())))) (n, (c, (r, (i, ())))) = some ((itM c k r, ()), ()) by
    have := h (min n.toNat 64) 0 1 (by simp) (by decide) (by decide) (by decide) (by decide)
    exact this
  intro k
  induction k with
  | zero =>
    intro i r hk h0 h64 h1 h2
    apply loopC_end
    have : ¬ (i < n ∧ i < 64) := by omega
    by_cases hin : i < n
    · have hi64 : ¬ i < 64 := fun h => this ⟨hin, h⟩
      simp [hin, hi64, itM]
    · simp [hin, itM]
  | succ k ih =>
    intro i r hk h0 h64 h1 h2
    have hin : i < n := by omega
    have hi64 : i < 64 := by omega
    have hm := mul_small h1 h2 hcl.1 hcl.2
    have hw : IntKind.i64.wrap (r * c) = r * c := wrap_i64 (by omega) (by omega)
    have hw2 : IntKind.i64.wrap (i + 1) = i + 1 := wrap_i64 (by omega) (by omega)
    rw [loopC_step (v' := (n, (c, (gM c r, (i + 1, ()))))) (by simp [hin, hi64, hw, hw2, gM, s_Bound_b hm.1])]
    have hg := gM_range hcl.1 h1
    rw [ih (i + 1) (gM c r) (by omega) (by omega) (by omega) hg.1 hg.2]
    rfl

end Go.Fw

namespace Go.Fw
open Go Go.Proofs
set_option maxRecDepth 100000

def addM (a b : Int) : Int := if 2147483647 < a + b then 2147483647 else a + b

/-- the sum of the first powers -/
def sm (c : Int) : Nat → Int
  | 0 => 0
  | k + 1 => addM (sm c k) (pw c k)

theorem pw_range {c : Int} (hc : 0 ≤ c) (n : Int) : 0 ≤ pw c n ∧ pw c n ≤ 2147483647 := itM_range hc _ 1 (by decide) (by decide)

theorem sm_range {c : Int} (hc : 0 ≤ c) : ∀ k : Nat, 0 ≤ sm c k ∧ sm c k ≤ 2147483647
  | 0 => by simp [sm]
  | k + 1 => by
    have h1 := sm_range hc k
    have h2 := pw_range hc k
    simp only [sm, addM]
    split <;> constructor <;> omega

theorem sm_top {c : Int} (hc : 0 ≤ c) {k : Nat} (h : sm c k = 2147483647) : ∀ j : Nat, sm c (k + j) = 2147483647
  | 0 => h
  | j + 1 => by
    have h1 := sm_top hc h j
    have h2 := pw_range hc (k + j : Nat)
    rw [show k + (j + 1) = (k + j) + 1 by omega]
    simp only [sm, addM, h1]
    split <;> omega

theorem cl_cl {b : Int} : cl (cl b) = cl b := by
  have h := cl_range b
  generalize cl b = c at h
  unfold cl
  have h1 : ¬ 2147483647 < c := by omega
  simp only [h1, if_false]
  split <;> omega

theorem sm_big {c : Int} (hc : 2 ≤ c) {k : Nat} (hk : 64 ≤ k) : sm c k = 2147483647 := by
  have hp : pw c (63 : Nat) = 2147483647 := by
    have hr := itM_range (c := c) (by omega) 63 1 (by decide) (by decide)
    unfold pw
    rcases itM_big hc 63 1 1 (by decide) (by decide) (by decide) (by decide) with h | h
    · exact h
    · have e : (1 : Int) * 2 ^ 63 = 9223372036854775808 := by decide
      exfalso; omega
  have h64 : sm c 64 = 2147483647 := by
    show addM (sm c 63) (pw c (63 : Nat)) = 2147483647
    rw [hp]
    have := sm_range (c := c) (by omega) 63
    unfold addM
    split <;> omega
  have := sm_top (by omega) h64 (k - 64)
  rwa [show 64 + (k - 64) = k by omega] at this

theorem pw_zero {n : Int} (h : 0 < n) : pw 0 n = 0 := by
  unfold pw
  have : n.toNat = (n.toNat - 1) + 1 := by omega
  rw [this]
  simp only [itM]
  rw [show gM 0 1 = 0 by decide, itM_zero]

theorem pw_one {n : Int} : pw 1 n = 1 := itM_one _

theorem sm_zero : ∀ k : Nat, sm 0 (k + 1) = 1
  | 0 => by decide
  | k + 1 => by
    rw [sm, sm_zero k, pw_zero (by omega)]
    decide

theorem sm_one : ∀ k : Nat, k ≤ 2147483647 → sm 1 k = k
  | 0, _ => rfl
  | k + 1, h => by
    rw [sm, sm_one k (by omega), pw_one, addM]
    split <;> omega

/-- what both answer -/
def ss (c n : Int) : Int := if n ≤ 0 then 0 else if c = 0 then 1 else if c = 1 then cl n else sm c n.toNat

theorem i_Sums_ss {b n : Int} (hn : -9223372036854775808 ≤ n ∧ n ≤ 9223372036854775807) : i_Sums (b, (n, ())) = some ((ss (cl b) n, ()), ()) := by
  simp only [i_Sums_eq, i_Upto_cl, Option.bind_some]
  have hcl := cl_range b
  have hcc : cl (cl b) = cl b := cl_cl
  generalize cl b = c at hcl hcc
  unfold ss
  by_cases h0 : n ≤ 0
  · simp [h0]
  · by_cases hc0 : c = 0
    · simp [h0, hc0]
    · by_cases hc1 : c = 1
      · simp only [h0, hc1, decide_false, cond_false, if_false]
        have : n > 0 := by omega
        have hcn : cl n = if 2147483647 < n then 2147483647 else n := by
          unfold cl
          by_cases hb : 2147483647 < n
          · simp [hb]
          · have h3 : n > 0 := this
            simp [hb, h3]
        simp [hcn]
      · have e0 : (c == (0 : Int)) = false := by simp [hc0]
        have e1 : (c == (1 : Int)) = false := by simp [hc1]
        simp only [h0, decide_false, cond_false, e0, e1, hc0, hc1, if_false]
        suffices h : ∀ (k : Nat) (i : Int), k = n.toNat - i.toNat → 0 ≤ i → i ≤ n → loopC (fun (v1 : Int × (Int × (Int × (Int × Unit)))) =>
            Option.bind (cond (decide (v1.2.2.2.1 < v1.2.1))
            (some (v1.1, (v1.2.1, (v1.2.2.1, (v1.2.2.2.1, ((decide (v1.2.2.1 < (2147483647 : Int))), ()))))))
            (some (v1.1, (v1.2.1, (v1.2.2.1, (v1.2.2.2.1, (false, ()))))))) fun (v2 : Int × (Int × (Int × (Int × (Bool × Unit))))) =>
            cond v2.2.2.2.2.1
            (Option.bind (i_Power (v2.1, (v2.2.2.2.1, ()))) fun (y3 : (Int × Unit) × Unit) =>
            some (.inl (v2.1, (v2.2.1, ((if (2147483647 : Int) < (IntKind.i64.wrap (v2.2.2.1 + y3.1.1)) then (2147483647 : Int) else (IntKind.i64.wrap (v2.2.2.1 + y3.1.1))), ((IntKind.i64.wrap (v2.2.2.2.1 + (1 : Int))), ()))))))
            (some (.inr ((v2.2.2.1, ()), ())))) (c, (n, (sm c i.toNat, (i, ())))) = some ((sm c n.toNat, ()), ()) by
          exact h n.toNat 0 (by simp) (by decide) (by omega)
        intro k
        induction k with
        | zero =>
          intro i hk hi hin
          have : i = n := by omega
          subst this
          apply loopC_end
          simp
        | succ k ih =>
          intro i hk hi hin
          have hlt : i < n := by omega
          have hr := sm_range hcl.1 i.toNat
          by_cases ht : sm c i.toNat < 2147483647
          · have hp := pw_range hcl.1 i
            have hw : IntKind.i64.wrap (sm c i.toNat + pw c i) = sm c i.toNat + pw c i := wrap_i64 (by omega) (by omega)
            have hw2 : IntKind.i64.wrap (i + 1) = i + 1 := wrap_i64 (by omega) (by omega)
            have hs : sm c (i + 1).toNat = addM (sm c i.toNat) (pw c i) := by
              rw [show (i + 1).toNat = i.toNat + 1 by omega]
              simp only [sm]
              rw [show ((i.toNat : Nat) : Int) = i by omega]
            rw [loopC_step (v' := (c, (n, (sm c (i + 1).toNat, (i + 1, ()))))) (by
              simp [hlt, ht, i_Power_pw (b := c) (n := i) ⟨by omega, by omega⟩, hcc, hw, hw2, hs, addM])]
            exact ih (i + 1) (by omega) (by omega) (by omega)
          · have he : sm c i.toNat = 2147483647 := by omega
            rw [loopC_end (b := ((2147483647, ()), ())) (by simp [hlt, he])]
            have := sm_top hcl.1 he (n.toNat - i.toNat)
            rw [show i.toNat + (n.toNat - i.toNat) = n.toNat by omega] at this
            rw [this]

end Go.Fw

namespace Go.Fw
open Go Go.Proofs
set_option maxRecDepth 100000

theorem s_Plus_add {a b : Int} (h1 : 0 ≤ a) (h2 : a ≤ 2147483647) (h3 : 0 ≤ b) (h4 : b ≤ 2147483647) : s_Plus (a, (b, ())) = some ((addM a b, ()), ()) := by
  have ea : ¬ 2147483647 < a := by omega
  have eb : ¬ 2147483647 < b := by omega
  have hw : IntKind.i64.wrap (a + b) = a + b := wrap_i64 (by omega) (by omega)
  simp only [s_Plus_eq, s_Bound_b h1, s_Bound_b h3, Option.bind_some, ea, eb, if_false, hw, s_Bound_b (show 0 ≤ a + b by omega)]
  rfl

theorem s_Upto_two (b : Int) : ∃ z, s_Upto (b, ((2 : Int), ())) = some ((z, ()), ()) ∧ (z = 1 ↔ cl b = 1) := by
  simp only [s_Upto_eq]
  unfold cl
  by_cases h : 2 < b
  · refine ⟨2, by simp [h], ?_⟩
    split <;> split <;> constructor <;> intro <;> omega
  · by_cases h0 : b < 0
    · refine ⟨0, by simp [h, h0], ?_⟩
      split <;> split <;> constructor <;> intro <;> omega
    · refine ⟨b, by simp [h, h0], ?_⟩
      split <;> split <;> constructor <;> intro <;> omega

theorem ss_loop {c n : Int} (hc : 0 ≤ c) (hn : 0 < n) (h : n ≤ 64 ∨ c ≠ 1) (hm : n ≤ 9223372036854775807) : sm c (min n.toNat 64) = ss c n := by
  unfold ss
  rw [if_neg (by omega)]
  by_cases h0 : c = 0
  · subst h0
    rw [if_pos rfl]
    have : min n.toNat 64 = (min n.toNat 64 - 1) + 1 := by omega
    rw [this, sm_zero]
  · rw [if_neg h0]
    by_cases h1 : c = 1
    · subst h1
      rw [if_pos rfl]
      have h64 : n ≤ 64 := by rcases h with h | h; exact h; exact absurd rfl h
      rw [Nat.min_eq_left (by omega), sm_one _ (by omega)]
      unfold cl
      have e1 : ¬ 2147483647 < n := by omega
      have e2 : n > 0 := hn
      simp only [e1, if_false, e2, if_true]
      omega
    · rw [if_neg h1]
      by_cases h64 : n ≤ 64
      · rw [Nat.min_eq_left (by omega)]
      · rw [Nat.min_eq_right (by omega), sm_big (by omega) (by omega), sm_big (by omega) (by omega)]

end Go.Fw

namespace Go.Fw
open Go Go.Proofs
set_option maxRecDepth 100000

theorem s_Sums_ss {b n : Int} (hn : -9223372036854775808 ≤ n ∧ n ≤ 9223372036854775807) : s_Sums (b, (n, ())) = some ((ss (cl b) n, ()), ()) := by
  simp only [s_Sums_eq]
  have hcl := cl_range b
  obtain ⟨z, hz1, hz2⟩ := s_Upto_two b
  suffices h : ∀ (k : Nat) (i : Int), k = min n.toNat 64 - i.toNat → 0 ≤ i → i ≤ 64 → (i ≤ n ∨ i = 0) → loopC (fun (v0 : Int × (Int × (Int × (Int × Unit)))) =>
      Option.bind (cond (decide (v0.2.2.2.1 < v0.2.1))
      (cond (decide (v0.2.2.1 < (2147483647 : Int)))
      (some (v0.1, (v0.2.1, (v0.2.2.1, (v0.2.2.2.1, ((decide (v0.2.2.2.1 < (64 : Int))), ()))))))
      (some (v0.1, (v0.2.1, (v0.2.2.1, (v0.2.2.2.1, (false, ())))))))
      (some (v0.1, (v0.2.1, (v0.2.2.1, (v0.2.2.2.1, (false, ()))))))) fun (v1 : Int × (Int × (Int × (Int × (Bool × Unit))))) =>
      cond v1.2.2.2.2.1
      (Option.bind (s_Power (v1.1, (v1.2.2.2.1, ()))) fun (y2 : (Int × Unit) × Unit) =>
      Option.bind (s_Plus (v1.2.2.1, (y2.1.1, ()))) fun (y3 : (Int × Unit) × Unit) =>
      some (.inl (v1.1, (v1.2.1, (y3.1.1, ((IntKind.i64.wrap (v1.2.2.2.1 + (1 : Int))), ()))))))
      (Option.bind (Option.bind (cond (decide (v1.2.1 > (64 : Int)))
      (Option.bind (s_Upto (v1.1, ((2 : Int), ()))) fun (y4 : (Int × Unit) × Unit) =>
      some (v1.2.1, (v1.2.2.1, ((y4.1.1 == (1 : Int)), ()))))
      (some (v1.2.1, (v1.2.2.1, (false, ()))))) fun (v5 : Int × (Int × (Bool × Unit))) =>
      cond v5.2.2.1
      (Option.bind (s_Upto (v5.1, ((2147483647 : Int), ()))) fun (y6 : (Int × Unit) × Unit) =>
      some ((y6.1.1, ()), ()))
      (some ((v5.2.1, ()), ()))) fun b => some (.inr b))) (b, (n, (sm (cl b) i.toNat, (i, ())))) = some ((ss (cl b) n, ()), ()) by
    exact h (min n.toNat 64) 0 (by simp) (by decide) (by decide) (.inr rfl)
  -- what the end answers
  have hend : ∀ (i : Int) (t : Int), t = sm (cl b) (min n.toNat 64) ∨ (t = 2147483647 ∧ 0 < n ∧ sm (cl b) (min n.toNat 64) = t) →
      Option.bind (Option.bind (cond (decide (n > (64 : Int)))
      (Option.bind (s_Upto (b, ((2 : Int), ()))) fun (y4 : (Int × Unit) × Unit) =>
      some (n, (t, ((y4.1.1 == (1 : Int)), ()))))
      (some (n, (t, (false, ()))))) fun (v5 : Int × (Int × (Bool × Unit))) =>
      cond v5.2.2.1
      (Option.bind (s_Upto (v5.1, ((2147483647 : Int), ()))) fun (y6 : (Int × Unit) × Unit) =>
      some ((y6.1.1, ()), ()))
      (some ((v5.2.1, ()), ()))) (fun c => some (Sum.inr (α := Int × (Int × (Int × (Int × Unit)))) c)) = some (.inr ((ss (cl b) n, ()), ())) := by
    intro i t ht
    have hts : t = sm (cl b) (min n.toNat 64) := by rcases ht with h | h; exact h; exact h.2.2.symm
    by_cases h64 : n > 64
    · rw [decide_eq_true h64, cond_true, hz1]
      simp only [Option.bind_some]
      by_cases h1 : z = 1
      · have hc1 := hz2.1 h1
        have e : (z == (1 : Int)) = true := by simp [h1]
        rw [e, cond_true, s_Upto_cl]
        simp only [Option.bind_some]
        have : ss (cl b) n = cl n := by
          unfold ss
          rw [if_neg (by omega), hc1]
          simp
        rw [this]
      · have hc1 : cl b ≠ 1 := fun h => h1 (hz2.2 h)
        have e : (z == (1 : Int)) = false := by simp [h1]
        rw [e, cond_false]
        simp only [Option.bind_some]
        rw [hts, ss_loop hcl.1 (by omega) (.inr hc1) hn.2]
    · rw [decide_eq_false h64, cond_false]
      simp only [Option.bind_some, cond_false]
      by_cases h0 : n ≤ 0
      · have : n.toNat = 0 := by omega
        rw [hts, this]
        simp [ss, h0, sm]
      · rw [hts, ss_loop hcl.1 (by omega) (.inl (by omega)) hn.2]
  intro k
  induction k with
  | zero =>
    intro i hk hi hi64 hin
    apply loopC_end
    have hno : ¬ (i < n ∧ i < 64) := by omega
    have he : i.toNat = min n.toNat 64 := by
      rcases hin with h | h <;> omega
    have := hend i (sm (cl b) i.toNat) (.inl (by rw [he]))
    by_cases h1 : i < n
    · have h2 : ¬ i < 64 := fun h => hno ⟨h1, h⟩
      by_cases ht : sm (cl b) i.toNat < 2147483647
      · simp only [h1, h2, ht, decide_true, decide_false, cond_true, cond_false, Option.bind_some]; exact this
      · simp only [h1, ht, decide_true, decide_false, cond_true, cond_false, Option.bind_some]; exact this
    · simp only [h1, decide_false, cond_false, Option.bind_some]; exact this
  | succ k ih =>
    intro i hk hi hi64 hin
    have h1 : i < n := by omega
    have h2 : i < 64 := by omega
    have hr := sm_range hcl.1 i.toNat
    have hp := pw_range hcl.1 i
    by_cases ht : sm (cl b) i.toNat < 2147483647
    · have hw2 : IntKind.i64.wrap (i + 1) = i + 1 := wrap_i64 (by omega) (by omega)
      have hs : sm (cl b) (i + 1).toNat = addM (sm (cl b) i.toNat) (pw (cl b) i) := by
        rw [show (i + 1).toNat = i.toNat + 1 by omega]
        simp only [sm]
        rw [show ((i.toNat : Nat) : Int) = i by omega]
      rw [loopC_step (v' := (b, (n, (sm (cl b) (i + 1).toNat, (i + 1, ()))))) (by
        simp only [h1, h2, ht, decide_true, cond_true, Option.bind_some, s_Power_pw, s_Plus_add hr.1 hr.2 hp.1 hp.2, hw2, hs])]
      exact ih (i + 1) (by omega) (by omega) (by omega) (.inl (by omega))
    · have he : sm (cl b) i.toNat = 2147483647 := by omega
      apply loopC_end
      have htop := sm_top hcl.1 he (min n.toNat 64 - i.toNat)
      rw [show i.toNat + (min n.toNat 64 - i.toNat) = min n.toNat 64 by omega] at htop
      have := hend i (sm (cl b) i.toNat) (.inr ⟨he, by omega, by rw [htop, he]⟩)
      simp only [h1, ht, decide_true, decide_false, cond_true, cond_false, Option.bind_some]; exact this

end Go.Fw

namespace Go.Fw
open Go Go.Proofs
set_option maxRecDepth 100000

/-- what a draw leaves: a cursor that is one -/
abbrev C1 {β : Type} (v : TL1Cur × β) : Prop := CI v.1
abbrev C2 {α β : Type} (y : α × (TL1Cur × β)) : Prop := CI y.2.1

theorem s_l1Below_c {c : TL1Cur} {n : Int} (h : CI c) (hn : 0 < n) : Ok (s_l1Below (c, (n, ()))) C2 := (s_l1Below_ok h hn).mono fun _ h => h.2.2
theorem s_l1Int_c {c : TL1Cur} {xs : List Int} (h : CI c) (hx : xs ≠ []) : Ok (s_l1Int (c, (xs, ()))) C2 := (s_l1Int_ok h hx).mono fun _ h => h.2
theorem s_l1Once_c {c : TL1Cur} {n : Int} (h : CI c) (hn : 0 < n) : Ok (s_l1Once (c, (n, ()))) C2 := by
  simp only [s_l1Once_eq]
  exact Ok.bind (s_l1Below_c h hn) (fun y hy => Ok.some hy)

theorem s_l6Id_c {c : TL1Cur} {s : TState} (h : CI c) : Ok (s_l6Id (c, (s, ()))) C2 := by
  simp only [s_l6Id_eq]
  refine Ok.bind (p := fun (v : TL1Cur × (TState × (Bool × Unit))) => CI v.1 ∧ v.2.1 = s ∧ (v.2.2.1 = false → s.1 ≠ [])) (Ok.cond (fun _ => Ok.some ⟨h, rfl, nofun⟩) (fun hb => ?_)) ?_
  · refine Ok.bind (s_l1Once_c h (by decide)) (fun y hy => Ok.some ⟨hy, rfl, fun _ he => ?_⟩)
    rw [he] at hb
    cases hb
  · rintro ⟨v1, v2, v3, v4⟩ ⟨h1, rfl, h3⟩
    refine Ok.cond (fun _ => Ok.bind (s_l1Below_c h1 (by decide)) (fun _ hy => Ok.some hy)) (fun hb => ?_)
    have hl : 0 < v2.1.length := List.length_pos_iff.2 (h3 hb)
    refine Ok.bind (s_l1Below_ok h1 (n := ((v2.1.length : Nat) : Int)) (by omega)) (fun y hy => ?_)
    exact Ok.bind (p := fun _ => True) (Ok.nth hy.1 hy.2.1 (fun _ _ => trivial)) (fun _ _ => Ok.some hy.2.2)

theorem s_l4Draw_c {c : TL1Cur} {n : Int} (h : CI c) : Ok (s_l4Draw (c, (n, ()))) C2 := by
  simp only [s_l4Draw_eq]
  refine Ok.bind (s_l1Below_c h (by decide)) (fun _ _ => ?_)
  refine Ok.bind (s_l1Int_c (by assumption) (by simp)) (fun _ _ => ?_)
  refine Ok.bind (s_l1Below_c (by assumption) (by decide)) (fun _ _ => ?_)
  refine Ok.bind (s_l1Below_c (by assumption) (by decide)) (fun _ _ => ?_)
  refine Ok.bind (s_l1Below_c (by assumption) (by decide)) (fun y4 hy4 => ?_)
  refine Ok.loop (fun (v : TL1Cur × (TPiece × (TPiece × ((List Int) × (Int × (Int × Unit)))))) => CI v.1 ∧ v.2.2.2.1 = [1, 2, 4, 8, 16, 32] ∧ v.2.2.2.2.1 = 6 ∧ 0 ≤ v.2.2.2.2.2.1) (fun v => (6 - v.2.2.2.2.2.1).toNat) ?_ _ ⟨hy4, rfl, rfl, by simp⟩
  rintro ⟨c, p1, p2, xs, n, i, u⟩ ⟨h1, h2, h3, h4⟩
  dsimp only at h1 h2 h3 h4
  subst h2 h3
  dsimp only
  refine Ok.cond (fun hb => ?_) (fun _ => ?_)
  · have hi : i < 6 := of_decide_eq_true hb
    refine Ok.bind (p := fun (v : TL1Cur × (TPiece × (TPiece × ((List Int) × (Int × (Int × Unit)))))) => CI v.1 ∧ v.2.2.2.1 = [1, 2, 4, 8, 16, 32] ∧ v.2.2.2.2.1 = 6 ∧ v.2.2.2.2.2.1 = i) ?_ ?_
    · refine Ok.bind (p := fun _ => True) (Ok.nth h4 hi (fun _ _ => trivial)) (fun _ _ => ?_)
      refine Ok.bind (p := fun _ => True) (Ok.get (by simp; omega) (fun _ _ => trivial)) (fun _ _ => ?_)
      refine Ok.bind (s_l1Once_c h1 (by decide)) (fun _ hy => ?_)
      exact Ok.cond (fun _ => Ok.some ⟨hy, rfl, rfl, rfl⟩) (fun _ => Ok.some ⟨hy, rfl, rfl, rfl⟩)
    · rintro ⟨c, p1, p2, xs, n, j, u⟩ ⟨k1, k2, k3, k4⟩
      dsimp only at k1 k2 k3 k4
      subst k4
      refine Ok.some ?_
      simp only
      rw [wrap_i64 (by omega) (by omega)]
      exact ⟨⟨k1, k2, k3, by omega⟩, by omega⟩
  · refine Ok.bind (p := C2) ?_ (fun _ hy => Ok.some hy)
    refine Ok.cond (fun _ => Ok.some h1) (fun _ => ?_)
    repeat' with_reducible first
      | assumption
      | exact Ok.some (by assumption)
      | refine Ok.cond (fun _ => ?_) (fun _ => ?_)
      | refine Ok.bind (s_l1Once_c (by assumption) (by decide)) (fun _ _ => ?_)
      | refine Ok.bind (s_l1Below_c (by assumption) (by decide)) (fun _ _ => ?_)
      | refine Ok.bind (s_l1Int_c (by assumption) (by simp)) (fun _ _ => ?_)
      | refine Ok.bind (p := C1) ?_ (fun _ _ => ?_)

/-- a state of the draws: few pieces, two players -/
def SI (s : TState) : Prop := s.1.length ≤ 5 ∧ s.2.1.length = 2

theorem s_StateNew_two : Ok (s_StateNew (2, ())) (fun (y : (TState × Unit) × Unit) => y.1.1 = ([], ([(20, (0, false)), (20, (0, false))], (0, 0)))) := by
  simp only [s_StateNew_eq]
  exact ⟨_, rfl, rfl⟩

theorem s_l5Draw_ok {c : TL1Cur} (h : CI c) : Ok (s_l5Draw (c, ())) (fun (y : (TState × Unit) × (TL1Cur × Unit)) => SI y.1.1 ∧ CI y.2.1) := by
  simp only [s_l5Draw_eq]
  refine Ok.bind s_StateNew_two (fun y0 hy0 => ?_)
  refine Ok.bind (s_l1Below_c h (by decide)) (fun y1 h1 => ?_)
  refine Ok.bind (s_l1Below_c h1 (by decide)) (fun y2 h2 => ?_)
  refine Ok.loop (fun (v : TL1Cur × (TState × (TState × (Int × Unit)))) => CI v.1 ∧ v.2.2.1.1 = [] ∧ v.2.2.1.2.1.length = 2 ∧ 0 ≤ v.2.2.2.1) (fun v => (2 - v.2.2.2.1).toNat) ?_ _ ⟨h2, by rw [hy0], by rw [hy0]; rfl, by simp⟩
  rintro ⟨c, s1, s2, i, u⟩ ⟨k1, k2, k3, k4⟩
  dsimp only at k1 k2 k3 k4
  dsimp only
  refine Ok.cond (fun hb => ?_) (fun _ => ?_)
  · have hi : i < 2 := of_decide_eq_true hb
    refine Ok.bind (s_l1Int_c k1 (by simp)) (fun y4 h4 => ?_)
    refine Ok.bind (p := fun _ => True) (Ok.nth k4 (by omega) (fun _ _ => trivial)) (fun _ _ => ?_)
    refine Ok.bind (p := fun _ => True) (Ok.get (by omega) (fun _ _ => trivial)) (fun _ _ => ?_)
    refine Ok.bind (s_l1Int_c h4 (by simp)) (fun y6 h6 => ?_)
    refine Ok.bind (p := fun _ => True) (Ok.nth k4 (by simp only [List.length_set]; omega) (fun _ _ => trivial)) (fun _ _ => ?_)
    refine Ok.bind (p := fun _ => True) (Ok.get (by simp only [List.length_set]; omega) (fun _ _ => trivial)) (fun _ _ => Ok.some ?_)
    simp only
    rw [wrap_i64 (by omega) (by omega)]
    exact ⟨⟨h6, k2, by simp only [List.length_set]; exact k3, by omega⟩, by omega⟩
  · refine Ok.bind (p := fun (y : (TState × Unit) × (TL1Cur × Unit)) => SI y.1.1 ∧ CI y.2.1) ?_ (fun _ hy => Ok.some hy)
    refine Ok.bind (s_l1Below_ok k1 (n := 5) (by decide)) (fun y8 h8 => ?_)
    obtain ⟨a1, a2, a3⟩ := h8
    have hw : IntKind.i64.wrap (1 + y8.1.1) = 1 + y8.1.1 := wrap_i64 (by omega) (by omega)
    rw [hw]
    refine Ok.loop (fun (v : TL1Cur × (TState × (TState × (Int × (Int × Unit))))) => CI v.1 ∧ v.2.2.1.2.1.length = 2 ∧ v.2.2.2.2.1 ≤ 5 ∧ (v.2.2.1.1.length : Int) + v.2.2.2.2.1 ≤ 5 ∧ 0 ≤ v.2.2.2.2.1) (fun v => (v.2.2.2.2.1).toNat) ?_ _ ⟨a3, k3, by simp only; omega, by simp only [k2]; simp; omega, by simp only; omega⟩
    rintro ⟨c, s1, s2, m, j, u⟩ ⟨b1, b2, b3, b4, b5⟩
    dsimp only at b1 b2 b3 b4 b5
    dsimp only
    refine Ok.cond (fun hb => ?_) (fun _ => Ok.some ⟨⟨by dsimp only; omega, b2⟩, b1⟩)
    have hj : j > 0 := of_decide_eq_true hb
    refine Ok.bind (s_l1Below_c b1 (by decide)) (fun y10 h10 => ?_)
    refine Ok.bind (s_l4Draw_c h10) (fun y11 h11 => ?_)
    refine Ok.cond (fun _ => Ok.some ?_) (fun hb => ?_)
    · simp only
      rw [wrap_i64 (n := j - 1) (by omega) (by omega)]
      refine ⟨⟨h11, b2, by omega, ?_, by omega⟩, by omega⟩
      simp only [List.length_append, List.length_singleton]
      omega
    · exfalso
      have : ¬ (s2.1.length + [y11.1.1].length ≤ LIM) := fun h => by rw [Nat.ble_eq_true_of_le h] at hb; cases hb
      simp only [List.length_singleton, LIM] at this
      omega

theorem s_l7Draw_c {c : TL1Cur} {s : TState} (h : CI c) : Ok (s_l7Draw (c, (s, ()))) C2 := by
  simp only [s_l7Draw_eq]
  repeat' with_reducible first
    | assumption
    | exact Ok.some (by assumption)
    | refine Ok.cond (fun _ => ?_) (fun _ => ?_)
    | refine Ok.bind (s_l1Once_c (by assumption) (by decide)) (fun _ _ => ?_)
    | refine Ok.bind (s_l1Below_c (by assumption) (by decide)) (fun _ _ => ?_)
    | refine Ok.bind (s_l1Int_c (by assumption) (by simp)) (fun _ _ => ?_)
    | refine Ok.bind (s_l6Id_c (by assumption)) (fun _ _ => ?_)
    | refine Ok.bind (p := C1) ?_ (fun _ _ => ?_)

theorem s_l8Draw_c {c : TL1Cur} (h : CI c) : Ok (s_l8Draw (c, ())) C2 := by
  simp only [s_l8Draw_eq]
  repeat' with_reducible first
    | assumption
    | exact Ok.some (by assumption)
    | refine Ok.cond (fun _ => ?_) (fun _ => ?_)
    | refine Ok.bind (s_l1Once_c (by assumption) (by decide)) (fun _ _ => ?_)
    | refine Ok.bind (s_l1Below_c (by assumption) (by decide)) (fun _ _ => ?_)
    | refine Ok.bind (s_l1Int_c (by assumption) (by simp)) (fun _ _ => ?_)
    | refine Ok.bind (p := C1) ?_ (fun _ _ => ?_)

theorem s_l6Draw_c {c : TL1Cur} {s : TState} (h : CI c) : Ok (s_l6Draw (c, (s, ()))) C2 := by
  simp only [s_l6Draw_eq]
  repeat' with_reducible first
    | assumption
    | exact Ok.some (by assumption)
    | refine Ok.cond (fun _ => ?_) (fun _ => ?_)
    | refine Ok.bind (s_l1Once_c (by assumption) (by decide)) (fun _ _ => ?_)
    | refine Ok.bind (s_l1Below_c (by assumption) (by decide)) (fun _ _ => ?_)
    | refine Ok.bind (s_l1Int_c (by assumption) (by simp)) (fun _ _ => ?_)
    | refine Ok.bind (s_l6Id_c (by assumption)) (fun _ _ => ?_)
    | refine Ok.bind (p := C1) ?_ (fun _ _ => ?_)

theorem s_l1Odd_c {c : TL1Cur} (h : CI c) : Ok (s_l1Odd (c, ())) C2 := by
  simp only [s_l1Odd_eq]
  repeat' with_reducible first
    | assumption
    | exact Ok.some (by assumption)
    | refine Ok.cond (fun _ => ?_) (fun _ => ?_)
    | refine Ok.bind (s_l1Once_c (by assumption) (by decide)) (fun _ _ => ?_)
    | refine Ok.bind (s_l1Below_c (by assumption) (by decide)) (fun _ _ => ?_)
    | refine Ok.bind (s_l1Int_c (by assumption) (by simp)) (fun _ _ => ?_)
    | refine Ok.bind (p := C1) ?_ (fun _ _ => ?_)

theorem s_l1Raw_c {c : TL1Cur} (h : CI c) : Ok (s_l1Raw (c, ())) C2 := by
  simp only [s_l1Raw_eq]
  repeat' with_reducible first
    | assumption
    | exact Ok.some (by assumption)
    | refine Ok.cond (fun _ => ?_) (fun _ => ?_)
    | refine Ok.bind (s_l1Once_c (by assumption) (by decide)) (fun _ _ => ?_)
    | refine Ok.bind (s_l1Below_c (by assumption) (by decide)) (fun _ _ => ?_)
    | refine Ok.bind (s_l1Int_c (by assumption) (by simp)) (fun _ _ => ?_)
    | refine Ok.bind (s_l1Odd_c (by assumption)) (fun _ _ => ?_)
    | refine Ok.bind (p := C1) ?_ (fun _ _ => ?_)

theorem s_l7Any_c {c : TL1Cur} {s : TState} (h : CI c) : Ok (s_l7Any (c, (s, ()))) C2 := by
  simp only [s_l7Any_eq]
  repeat' with_reducible first
    | assumption
    | exact Ok.some (by assumption)
    | refine Ok.cond (fun _ => ?_) (fun _ => ?_)
    | refine Ok.bind (s_l1Once_c (by assumption) (by decide)) (fun _ _ => ?_)
    | refine Ok.bind (s_l1Below_c (by assumption) (by decide)) (fun _ _ => ?_)
    | refine Ok.bind (s_l1Int_c (by assumption) (by simp)) (fun _ _ => ?_)
    | refine Ok.bind (s_l7Draw_c (by assumption)) (fun _ _ => ?_)
    | refine Ok.bind (s_l1Raw_c (by assumption)) (fun _ _ => ?_)
    | refine Ok.bind (p := C1) ?_ (fun _ _ => ?_)

theorem s_l8Any_c {c : TL1Cur} (h : CI c) : Ok (s_l8Any (c, ())) C2 := by
  simp only [s_l8Any_eq]
  repeat' with_reducible first
    | assumption
    | exact Ok.some (by assumption)
    | refine Ok.cond (fun _ => ?_) (fun _ => ?_)
    | refine Ok.bind (s_l1Once_c (by assumption) (by decide)) (fun _ _ => ?_)
    | refine Ok.bind (s_l1Below_c (by assumption) (by decide)) (fun _ _ => ?_)
    | refine Ok.bind (s_l1Int_c (by assumption) (by simp)) (fun _ _ => ?_)
    | refine Ok.bind (s_l8Draw_c (by assumption)) (fun _ _ => ?_)
    | refine Ok.bind (s_l1Raw_c (by assumption)) (fun _ _ => ?_)
    | refine Ok.bind (p := C1) ?_ (fun _ _ => ?_)

theorem s_l6Any_c {c : TL1Cur} {s : TState} (h : CI c) : Ok (s_l6Any (c, (s, ()))) C2 := by
  simp only [s_l6Any_eq]
  repeat' with_reducible first
    | assumption
    | exact Ok.some (by assumption)
    | refine Ok.cond (fun _ => ?_) (fun _ => ?_)
    | refine Ok.bind (s_l1Once_c (by assumption) (by decide)) (fun _ _ => ?_)
    | refine Ok.bind (s_l1Below_c (by assumption) (by decide)) (fun _ _ => ?_)
    | refine Ok.bind (s_l1Int_c (by assumption) (by simp)) (fun _ _ => ?_)
    | refine Ok.bind (s_l6Draw_c (by assumption)) (fun _ _ => ?_)
    | refine Ok.bind (s_l1Raw_c (by assumption)) (fun _ _ => ?_)
    | refine Ok.bind (p := C1) ?_ (fun _ _ => ?_)

end Go.Fw

namespace Go.Fw
open Go Go.Proofs
set_option maxRecDepth 100000

theorem s_ActFits_t {a : TAct} {n : Int} : Ok (s_ActFits (a, (n, ()))) (fun _ => True) := by
  simp only [s_ActFits_eq, s_l1In_eq]
  repeat' with_reducible first
    | exact Ok.some trivial
    | refine Ok.cond (fun _ => ?_) (fun _ => ?_)
    | refine Ok.bind (p := fun _ => True) ?_ (fun _ _ => ?_)

theorem ble_lim {n : Nat} (h : n ≤ 1000000) : Nat.ble n LIM = true := Nat.ble_eq_true_of_le (by unfold LIM; omega)

abbrev TVA : Type := TL1Cur × (TState × (TAct × (TAct × Unit)))
theorem s_l9Draw_ok {c : TL1Cur} {s : TState} {n : Int} (h : CI c) : Ok (s_l9Draw (c, (s, (n, ())))) (fun (y : (TAct × Unit) × (TL1Cur × Unit)) => y.1.1.2.2.2.2.2.2.length ≤ 2 ∧ CI y.2.1) := by
  simp only [s_l9Draw_eq]
  refine Ok.bind (s_l1Int_c h (by simp)) (fun y0 h0 => ?_)
  refine Ok.loop (fun (v : TL1Cur × (Int × (TState × (TAct × (TAct × (Int × Unit)))))) => CI v.1 ∧ v.2.2.2.2.1.2.2.2.2.2.2 = [] ∧ 0 ≤ v.2.2.2.2.2.1) (fun v => (6 - v.2.2.2.2.2.1).toNat) ?_ _ ⟨h0, rfl, by simp⟩
  rintro v1 ⟨a1, a2, a3⟩
  refine Ok.bind (p := fun (v : TL1Cur × (Int × (TState × (TAct × (TAct × (Int × (Bool × Unit))))))) => CI v.1 ∧ v.2.2.2.2.1.2.2.2.2.2.2 = [] ∧ v.2.2.2.2.2.1 = v1.2.2.2.2.2.1 ∧ (v.2.2.2.2.2.2.1 = true → v1.2.2.2.2.2.1 < 6)) ?_ ?_
  · refine Ok.cond (fun hb => Ok.bind s_ActFits_t (fun _ _ => Ok.some ⟨a1, a2, rfl, fun _ => of_decide_eq_true hb⟩)) (fun _ => Ok.some ⟨a1, a2, rfl, nofun⟩)
  rintro v3 ⟨b1, b2, b3, b4⟩
  refine Ok.cond (fun hb => ?_) (fun _ => ?_)
  · have hlt := b4 hb
    refine Ok.bind (s_l1Below_c b1 (by decide)) (fun y4 h4 => Ok.some ?_)
    simp only
    rw [b3, wrap_i64 (n := v1.2.2.2.2.2.1 + 1) (by omega) (by omega)]
    exact ⟨⟨h4, b2, by omega⟩, by omega⟩
  · refine Ok.bind (p := fun (y : (TAct × Unit) × (TL1Cur × Unit)) => y.1.1.2.2.2.2.2.2.length ≤ 2 ∧ CI y.2.1) ?_ (fun _ hy => Ok.some hy)
    refine Ok.bind (p := fun (v : TVA) => CI v.1 ∧ v.2.2.2.1.2.2.2.2.2.2 = []) ?_ ?_
    · refine Ok.bind s_ActFits_t (fun _ _ => ?_)
      exact Ok.cond (fun _ => Ok.some ⟨b1, b2⟩) (fun _ => Ok.some ⟨b1, b2⟩)
    rintro v6 ⟨d1, d2⟩
    refine Ok.bind (p := fun (v : TL1Cur × (TAct × (TAct × Unit))) => CI v.1 ∧ v.2.2.1.2.2.2.2.2.2.length ≤ 2) ?_ (fun _ hv => Ok.some ⟨hv.2, hv.1⟩)
    have d3 : v6.2.2.2.1.2.2.2.2.2.2.length ≤ 2 := by rw [d2]; exact Nat.zero_le _
    refine Ok.cond (fun _ => Ok.bind (s_l1Int_c d1 (by simp)) (fun _ h => Ok.some ⟨h, d3⟩)) (fun _ => ?_)
    refine Ok.cond (fun _ => Ok.bind (s_l1Once_c d1 (by decide)) (fun _ h => Ok.cond (fun _ => Ok.bind (s_l1Below_c h (by decide)) (fun _ h => Ok.some ⟨h, d3⟩)) (fun _ => Ok.bind (s_l6Id_c h) (fun _ h => Ok.some ⟨h, d3⟩)))) (fun _ => ?_)
    refine Ok.cond (fun _ => Ok.bind (s_l1Int_c d1 (by simp)) (fun _ h => Ok.some ⟨h, d3⟩)) (fun _ => ?_)
    refine Ok.cond (fun _ => Ok.bind (s_l1Below_c d1 (by decide)) (fun _ h => Ok.bind (s_l1Once_c h (by decide)) (fun _ h => Ok.some ⟨h, d3⟩))) (fun _ => ?_)
    refine Ok.cond (fun _ => Ok.bind (s_l1Below_ok d1 (n := 2) (by decide)) (fun y14 h14 => ?_)) (fun _ => Ok.some ⟨d1, d3⟩)
    obtain ⟨e1, e2, e3⟩ := h14
    have hw : IntKind.i64.wrap (1 + y14.1.1) = 1 + y14.1.1 := wrap_i64 (by omega) (by omega)
    rw [hw]
    refine Ok.loop (fun (v : TL1Cur × (TState × (TAct × (TAct × (Int × Unit))))) => CI v.1 ∧ 0 ≤ v.2.2.2.2.1 ∧ v.2.2.2.2.1 ≤ 2 ∧ (v.2.2.2.1.2.2.2.2.2.2.length : Int) + v.2.2.2.2.1 ≤ 2) (fun v => (v.2.2.2.2.1).toNat) ?_ _ ⟨e3, by simp only; omega, by simp only; omega, by simp only [d2]; simp; omega⟩
    rintro v15 ⟨k1, k2, k3, k4⟩
    refine Ok.cond (fun hb => ?_) (fun _ => Ok.some ⟨k1, by simp only; omega⟩)
    have hj : v15.2.2.2.2.1 > 0 := of_decide_eq_true hb
    refine Ok.bind (s_l6Draw_c k1) (fun y16 h16 => ?_)
    refine Ok.bind (p := fun (v : TL1Cur × (TState × (TAct × (TAct × (Int × (TEvent × Unit)))))) => CI v.1 ∧ v.2.2.2.1 = v15.2.2.2.1 ∧ v.2.2.2.2.1 = v15.2.2.2.2.1) ?_ ?_
    · refine Ok.bind (p := fun (v : TL1Cur × (TState × (TAct × (TAct × (Int × (TEvent × (Bool × Unit))))))) => CI v.1 ∧ v.2.2.2.1 = v15.2.2.2.1 ∧ v.2.2.2.2.1 = v15.2.2.2.2.1) ?_ ?_
      · exact Ok.cond (fun _ => Ok.bind (s_l1Once_c h16 (by decide)) (fun _ h => Ok.some ⟨h, rfl, rfl⟩)) (fun _ => Ok.some ⟨h16, rfl, rfl⟩)
      · rintro v18 hv
        exact Ok.cond (fun _ => Ok.some hv) (fun _ => Ok.some hv)
    rintro v19 ⟨m1, m2, m3⟩
    refine Ok.cond (fun _ => Ok.some ?_) (fun hb => ?_)
    · simp only
      rw [m2, m3, wrap_i64 (n := v15.2.2.2.2.1 - 1) (by omega) (by omega)]
      refine ⟨⟨m1, by omega, by omega, ?_⟩, by omega⟩
      simp only [List.length_append, List.length_singleton]
      omega
    · rw [m2, ble_lim (by simp only [List.length_singleton]; omega)] at hb
      cases hb

/-- an effect of the draws: its replacement has few events -/
def EI (e : TEffect) : Prop := e.2.2.2.2.2.2.1.2.2.2.2.2.2.length ≤ 5

theorem s_l10Draw_ok {c : TL1Cur} {s : TState} {n : Int} (h : CI c) : Ok (s_l10Draw (c, (s, (n, ())))) (fun (y : (TEffect × Unit) × (TL1Cur × Unit)) => EI y.1.1 ∧ CI y.2.1) := by
  simp only [s_l10Draw_eq]
  refine Ok.bind (s_l1Below_c h (by decide)) (fun y0 h0 => ?_)
  refine Ok.bind (s_l1Int_c h0 (by simp)) (fun y1 h1 => ?_)
  refine Ok.bind (p := C1) ?_ (fun v5 h5 => ?_)
  · repeat' with_reducible first
      | assumption
      | exact Ok.some (by assumption)
      | refine Ok.cond (fun _ => ?_) (fun _ => ?_)
      | refine Ok.bind (s_l1Once_c (by assumption) (by decide)) (fun _ _ => ?_)
      | refine Ok.bind (s_l6Id_c (by assumption)) (fun _ _ => ?_)
      | refine Ok.bind (p := C1) ?_ (fun _ _ => ?_)
  refine Ok.bind (s_l7Draw_c h5) (fun y6 h6 => ?_)
  refine Ok.bind (s_l8Draw_c h6) (fun y7 h7 => ?_)
  refine Ok.bind (s_l9Draw_ok h7) (fun y8 h8 => ?_)
  have h8' : y8.1.1.2.2.2.2.2.2.length ≤ 5 := Nat.le_trans h8.1 (by decide)
  refine Ok.bind (p := fun (v : TL1Cur × (TEffect × (TEffect × Unit))) => CI v.1 ∧ EI v.2.2.1) ?_ (fun v11 h11 => ?_)
  · refine Ok.bind (s_l1Once_c h8.2 (by decide)) (fun y9 h9 => ?_)
    exact Ok.cond (fun _ => Ok.bind (s_l1Below_c h9 (by decide)) (fun _ h => Ok.some ⟨h, h8'⟩)) (fun _ => Ok.some ⟨h9, h8'⟩)
  refine Ok.bind (p := fun (v : TL1Cur × (TEffect × (TEffect × Unit))) => CI v.1 ∧ EI v.2.2.1) ?_ (fun _ h => Ok.some ⟨h.2, h.1⟩)
  refine Ok.cond (fun _ => Ok.bind (s_l1Int_c h11.1 (by simp)) (fun _ h => Ok.some ⟨h, h11.2⟩)) (fun _ => ?_)
  refine Ok.bind (s_l1Once_c h11.1 (by decide)) (fun y9 h9 => ?_)
  exact Ok.cond (fun _ => Ok.bind (s_l1Below_c h9 (by decide)) (fun _ h => Ok.some ⟨h, h11.2⟩)) (fun _ => Ok.some ⟨h9, h11.2⟩)

/-- a table of the draws -/
def TI' (k : Nat) (t : List TEffect) : Prop := t.length ≤ k ∧ ∀ e ∈ t, EI e

theorem s_l11Draw_ok {c : TL1Cur} {s : TState} (h : CI c) : Ok (s_l11Draw (c, (s, ()))) (fun (y : ((List TEffect) × Unit) × (TL1Cur × Unit)) => TI' 4 y.1.1 ∧ CI y.2.1) := by
  simp only [s_l11Draw_eq]
  refine Ok.bind (s_l1Below_ok h (n := 5) (by decide)) (fun y0 h0 => ?_)
  obtain ⟨e1, e2, e3⟩ := h0
  refine Ok.loop (fun (v : TL1Cur × (TState × ((List TEffect) × (Int × (Int × Unit))))) => CI v.1 ∧ 0 ≤ v.2.2.2.2.1 ∧ v.2.2.2.2.1 ≤ 4 ∧ (v.2.2.1.length : Int) + v.2.2.2.2.1 ≤ 4 ∧ ∀ e ∈ v.2.2.1, EI e) (fun v => (v.2.2.2.2.1).toNat) ?_ _ ⟨e3, e1, by simp only; omega, by simp; omega, by simp⟩
  rintro v15 ⟨k1, k2, k3, k4, k5⟩
  refine Ok.cond (fun hb => ?_) (fun _ => Ok.some ⟨⟨by simp only; omega, k5⟩, k1⟩)
  have hj : v15.2.2.2.2.1 > 0 := of_decide_eq_true hb
  refine Ok.bind (s_l1Below_c k1 (by decide)) (fun y2 h2 => ?_)
  refine Ok.bind (s_l10Draw_ok h2) (fun y3 h3 => ?_)
  refine Ok.cond (fun _ => Ok.some ?_) (fun hb => ?_)
  · simp only
    rw [wrap_i64 (n := v15.2.2.2.2.1 - 1) (by omega) (by omega)]
    refine ⟨⟨h3.2, by omega, by omega, ?_, ?_⟩, by omega⟩
    · simp only [List.length_append, List.length_singleton]
      omega
    · intro e he
      rcases List.mem_append.1 he with he | he
      · exact k5 e he
      · rw [List.mem_singleton.1 he]; exact h3.1
  · rw [ble_lim (by simp only [List.length_singleton]; omega)] at hb
    cases hb

theorem s_l9Any_ok {c : TL1Cur} {s : TState} (h : CI c) : Ok (s_l9Any (c, (s, ()))) (fun (y : (TAct × Unit) × (TL1Cur × Unit)) => y.1.1.2.2.2.2.2.2.length ≤ 5 ∧ CI y.2.1) := by
  simp only [s_l9Any_eq]
  refine Ok.bind (s_l1Below_c h (by decide)) (fun y0 h0 => ?_)
  refine Ok.bind (s_l9Draw_ok h0) (fun y1 h1 => ?_)
  have h1' : y1.1.1.2.2.2.2.2.2.length ≤ 5 := Nat.le_trans h1.1 (by decide)
  refine Ok.bind (p := fun (v : TL1Cur × (TAct × (TAct × Unit))) => CI v.1 ∧ v.2.2.1.2.2.2.2.2.2.length ≤ 5) ?_ (fun _ h => Ok.some ⟨h.2, h.1⟩)
  refine Ok.bind (s_l1Below_c h1.2 (by decide)) (fun y2 h2 => ?_)
  repeat' with_reducible first
    | assumption
    | exact Ok.some ⟨by assumption, by assumption⟩
    | refine Ok.cond (fun _ => ?_) (fun _ => ?_)
    | refine Ok.bind (s_l1Int_c (by assumption) (by simp)) (fun _ _ => ?_)
    | refine Ok.bind (s_l1Raw_c (by assumption)) (fun _ _ => ?_)
    | refine Ok.bind (s_l6Draw_c (by assumption)) (fun _ _ => ?_)
    | refine Ok.bind (s_l6Any_c (by assumption)) (fun _ _ => ?_)
  · rename_i y8 h8 _
    exact Ok.some ⟨h8, by simp only [List.length_append, List.length_singleton]; omega⟩
  · rename_i hb
    rw [ble_lim (by simp only [List.length_singleton]; omega)] at hb
    cases hb
  · rename_i y8 h8 _
    exact Ok.some ⟨h8, by simp only [List.length_append, List.length_cons, List.length_nil]; omega⟩
  · rename_i hb
    rw [ble_lim (by simp only [List.length_cons, List.length_nil]; omega)] at hb
    cases hb

theorem s_l10Any_ok {c : TL1Cur} {s : TState} (h : CI c) : Ok (s_l10Any (c, (s, ()))) (fun (y : (TEffect × Unit) × (TL1Cur × Unit)) => EI y.1.1 ∧ CI y.2.1) := by
  simp only [s_l10Any_eq]
  refine Ok.bind (s_l1Below_c h (by decide)) (fun y0 h0 => ?_)
  refine Ok.bind (s_l10Draw_ok h0) (fun y1 h1 => ?_)
  refine Ok.bind (p := fun (v : TL1Cur × (TEffect × (TEffect × Unit))) => CI v.1 ∧ EI v.2.2.1) ?_ (fun _ h => Ok.some ⟨h.2, h.1⟩)
  refine Ok.bind (s_l1Below_c h1.2 (by decide)) (fun y2 h2 => ?_)
  have h3 := h1.1
  unfold EI at h3 ⊢
  repeat' with_reducible first
    | assumption
    | exact Ok.some ⟨by assumption, by assumption⟩
    | refine Ok.cond (fun _ => ?_) (fun _ => ?_)
    | refine Ok.bind (s_l1Int_c (by assumption) (by simp)) (fun _ _ => ?_)
    | refine Ok.bind (s_l7Any_c (by assumption)) (fun _ _ => ?_)
    | refine Ok.bind (s_l8Any_c (by assumption)) (fun _ _ => ?_)
    | refine Ok.bind (s_l9Any_ok (by assumption)) (fun _ h => Ok.some ⟨h.2, h.1⟩)

theorem s_l11Any_ok {c : TL1Cur} {s : TState} (h : CI c) : Ok (s_l11Any (c, (s, ()))) (fun (y : ((List TEffect) × Unit) × (TL1Cur × Unit)) => TI' 7 y.1.1 ∧ CI y.2.1) := by
  simp only [s_l11Any_eq]
  refine Ok.bind (s_l11Draw_ok h) (fun y0 h0 => ?_)
  obtain ⟨⟨h00, h01⟩, h02⟩ := h0
  refine Ok.bind (p := fun (v : TL1Cur × ((List TEffect) × Unit)) => CI v.1 ∧ TI' 7 v.2.1) ?_ (fun _ h => Ok.some ⟨h.2, h.1⟩)
  refine Ok.bind (s_l1Below_c h02 (by decide)) (fun y1 h1 => ?_)
  have hs : TI' 7 y0.1.1 := ⟨Nat.le_trans h00 (by decide), h01⟩
  refine Ok.cond (fun _ => ?_) (fun _ => Ok.cond (fun _ => ?_) (fun _ => Ok.cond (fun _ => Ok.cond (fun hl => ?_) (fun _ => Ok.some ⟨h1, hs⟩)) (fun _ => Ok.some ⟨h1, hs⟩)))
  · refine Ok.bind (s_l10Any_ok h1) (fun y2 h2 => Ok.cond (fun _ => Ok.some ⟨h2.2, ?_, ?_⟩) (fun hb => ?_))
    · simp only [List.length_append, List.length_singleton]; omega
    · intro e he
      rcases List.mem_append.1 he with he | he
      · exact h01 e he
      · rw [List.mem_singleton.1 he]; exact h2.1
    · rw [ble_lim (by simp only [List.length_singleton]; omega)] at hb
      cases hb
  · refine Ok.bind (s_l10Draw_ok h1) (fun y3 h3 => Ok.bind (s_l10Draw_ok h3.2) (fun y4 h4 => Ok.bind (s_l10Draw_ok h4.2) (fun y5 h5 => Ok.cond (fun _ => Ok.some ⟨h5.2, ?_, ?_⟩) (fun hb => ?_))))
    · simp only [List.length_append, List.length_cons, List.length_nil]; omega
    · intro e he
      rcases List.mem_append.1 he with he | he
      · exact h01 e he
      · simp only [List.mem_cons, List.not_mem_nil, or_false] at he
        rcases he with rfl | rfl | rfl
        · exact h3.1
        · exact h4.1
        · exact h5.1
    · rw [ble_lim (by simp only [List.length_cons, List.length_nil]; omega)] at hb
      cases hb
  · have hl := of_decide_eq_true hl
    refine Ok.bind (s_l10Any_ok h1) (fun y6 h6 => ?_)
    refine Ok.bind (p := fun _ => True) (Ok.nth (by decide) hl (fun _ _ => trivial)) (fun _ _ => ?_)
    refine Ok.bind (p := fun _ => True) (Ok.get (by simp; omega) (fun _ _ => trivial)) (fun _ _ => Ok.some ⟨h6.2, ?_, ?_⟩)
    · simp only [List.length_set]; omega
    · intro e he
      rcases List.mem_or_eq_of_mem_set he with he | he
      · exact h01 e he
      · rw [he]; exact h6.1

theorem s_DrawMostTurns_ok {b : List Int} (h : b.length ≤ 1048576) : Ok (s_DrawMostTurns (b, ())) (fun (y : ((List TEffect) × Unit) × Unit) => TI' 7 y.1.1) := by
  simp only [s_DrawMostTurns_eq]
  exact Ok.bind (s_l1New_ok h) (fun y0 h0 => Ok.bind (s_l5Draw_ok h0) (fun y1 h1 => Ok.bind (s_l11Any_ok h1.2) (fun y2 h2 => Ok.some h2.1)))
theorem s_DrawMostLeft_ok {b : List Int} (h : b.length ≤ 1048576) : Ok (s_DrawMostLeft (b, ())) (fun (y : ((List TEffect) × Unit) × Unit) => TI' 7 y.1.1) := by
  simp only [s_DrawMostLeft_eq]
  exact Ok.bind (s_l1New_ok h) (fun y0 h0 => Ok.bind (s_l5Draw_ok h0) (fun y1 h1 => Ok.bind (s_l11Any_ok h1.2) (fun y2 h2 => Ok.some h2.1)))

theorem s_DrawSums_ok {b : List Int} (h : b.length ≤ 1048576) : Ok (s_DrawSums (b, ())) (fun (y : (Int × (Int × Unit)) × Unit) => y.1.2.1 ∈ ([0, 1, 2, 5, 10, 31, 40, 100, -1] : List Int)) := by
  simp only [s_DrawSums_eq]
  exact Ok.bind (s_l1New_ok h) (fun y0 h0 => Ok.bind (s_l1Int_ok h0 (by simp)) (fun y1 h1 => Ok.bind (s_l1Int_ok h1.2 (by simp)) (fun y2 h2 => Ok.some h2.1)))

end Go.Fw

namespace Go.Fw
open Go Go.Proofs
set_option maxRecDepth 100000

/-- how many effects are left to use -/
def us (t : List TEffect) : Int := ((t.countP fun e => e.2.2.2.2.2.2.2.2 != (0 : Int) : Nat) : Int)

theorem us_range (t : List TEffect) : 0 ≤ us t ∧ us t ≤ t.length := ⟨Int.natCast_nonneg _, Int.ofNat_le.2 List.countP_le_length⟩

theorem nth_at {α : Type} (xs : List α) {k : Nat} (h : k < xs.length) : nth xs (k : Int) = some xs[k] := by
  unfold nth
  rw [decide_eq_true (Int.natCast_nonneg k), cond_true]
  exact List.getElem?_eq_getElem h

theorem us_take (t : List TEffect) {k : Nat} (h : k < t.length) : us (t.take (k + 1)) = us (t.take k) + (if t[k].2.2.2.2.2.2.2.2 != (0 : Int) then 1 else 0) := by
  unfold us
  rw [List.take_succ_eq_append_getElem h, List.countP_append, List.countP_singleton]
  split <;> simp

theorem i_Usable_us {t : List TEffect} (h : t.length ≤ 4294967296) : i_Usable (t, ()) = some ((us t, ()), ()) := by
  simp only [i_Usable_eq]
  suffices hh : ∀ (d k : Nat), k + d = t.length → loopC (fun (v0 : Int × ((List TEffect) × (Int × (Int × Unit)))) =>
      cond (decide (v0.2.2.2.1 < v0.2.2.1))
      (Option.bind (Option.bind (nth v0.2.1 v0.2.2.2.1) fun (x1 : TEffect) =>
      cond (x1.2.2.2.2.2.2.2.2 != (0 : Int))
      (some ((IntKind.i64.wrap (v0.1 + (1 : Int))), (v0.2.1, (v0.2.2.1, (v0.2.2.2.1, ())))))
      (some (v0.1, (v0.2.1, (v0.2.2.1, (v0.2.2.2.1, ())))))) fun (v2 : Int × ((List TEffect) × (Int × (Int × Unit)))) =>
      some (.inl (v2.1, (v2.2.1, (v2.2.2.1, ((IntKind.i64.wrap (v2.2.2.2.1 + (1 : Int))), ()))))))
      (some (.inr ((v0.1, ()), ())))) (us (t.take k), (t, (((t.length : Nat) : Int), ((k : Int), ())))) = some ((us t, ()), ()) by
    have := hh t.length 0 (by omega)
    simpa [us] using this
  intro d
  induction d with
  | zero =>
    intro k hk
    apply loopC_end
    have : ¬ ((k : Int) < (t.length : Int)) := by omega
    simp only [this, decide_false, cond_false]
    rw [List.take_of_length_le (by omega)]
  | succ d ih =>
    intro k hk
    have hlt : k < t.length := by omega
    have hi : (k : Int) < (t.length : Int) := by omega
    have hr := us_range (t.take k)
    have hlen : (t.take k).length = k := by rw [List.length_take]; omega
    have hw : IntKind.i64.wrap (us (t.take k) + 1) = us (t.take k) + 1 := wrap_i64 (by omega) (by omega)
    have hw2 : IntKind.i64.wrap ((k : Int) + 1) = ((k + 1 : Nat) : Int) := by rw [wrap_i64 (by omega) (by omega)]; rfl
    rw [loopC_step (v' := (us (t.take (k + 1)), (t, (((t.length : Nat) : Int), (((k + 1 : Nat) : Int), ())))))]
    · exact ih (k + 1) (by omega)
    · simp only [hi, decide_true, cond_true, nth_at t hlt, Option.bind_some]
      rw [us_take t hlt]
      by_cases h0 : (t[k].2.2.2.2.2.2.2.2 != (0 : Int)) = true
      · simp only [h0, cond_true, Option.bind_some, if_true, hw, hw2]
      · have h0 : (t[k].2.2.2.2.2.2.2.2 != (0 : Int)) = false := by simpa using h0
        simp [h0, hw2]

theorem s_Usable_us {t : List TEffect} (h : t.length ≤ 4294967296) : s_Usable (t, ()) = some ((us t, ()), ()) := by
  simp only [s_Usable_eq]
  suffices hh : ∀ (d k : Nat), k + d = t.length → loopC (fun (v0 : (List TEffect) × (Int × (Int × Unit))) =>
      cond (decide (v0.2.2.1 < ((v0.1.length : Nat) : Int)))
      (Option.bind (Option.bind (nth v0.1 v0.2.2.1) fun (x1 : TEffect) =>
      cond (x1.2.2.2.2.2.2.2.2 != (0 : Int))
      (some (v0.1, ((IntKind.i64.wrap (v0.2.1 + (1 : Int))), (v0.2.2.1, ()))))
      (some (v0.1, (v0.2.1, (v0.2.2.1, ()))))) fun (v2 : (List TEffect) × (Int × (Int × Unit))) =>
      some (.inl (v2.1, (v2.2.1, ((IntKind.i64.wrap (v2.2.2.1 + (1 : Int))), ())))))
      (some (.inr ((v0.2.1, ()), ())))) (t, (us (t.take k), ((k : Int), ()))) = some ((us t, ()), ()) by
    have := hh t.length 0 (by omega)
    simpa [us] using this
  intro d
  induction d with
  | zero =>
    intro k hk
    apply loopC_end
    have : ¬ ((k : Int) < (t.length : Int)) := by omega
    simp only [this, decide_false, cond_false]
    rw [List.take_of_length_le (by omega)]
  | succ d ih =>
    intro k hk
    have hlt : k < t.length := by omega
    have hi : (k : Int) < (t.length : Int) := by omega
    have hr := us_range (t.take k)
    have hlen : (t.take k).length = k := by rw [List.length_take]; omega
    have hw : IntKind.i64.wrap (us (t.take k) + 1) = us (t.take k) + 1 := wrap_i64 (by omega) (by omega)
    have hw2 : IntKind.i64.wrap ((k : Int) + 1) = ((k + 1 : Nat) : Int) := by rw [wrap_i64 (by omega) (by omega)]; rfl
    rw [loopC_step (v' := (t, (us (t.take (k + 1)), (((k + 1 : Nat) : Int), ()))))]
    · exact ih (k + 1) (by omega)
    · simp only [hi, decide_true, cond_true, nth_at t hlt, Option.bind_some]
      rw [us_take t hlt]
      by_cases h0 : (t[k].2.2.2.2.2.2.2.2 != (0 : Int)) = true
      · simp only [h0, cond_true, Option.bind_some, if_true, hw, hw2]
      · have h0 : (t[k].2.2.2.2.2.2.2.2 != (0 : Int)) = false := by simpa using h0
        simp [h0, hw2]

theorem w_at_ok {b : List Int} {i : Int} (hb : ∀ x ∈ b, 0 ≤ x ∧ x ≤ 255) (hl : b.length ≤ 1048576) (h0 : 0 ≤ i) (h1 : i ≤ 100) : Ok (w_at (b, (i, ()))) (fun (y : (Int × Unit) × Unit) => 0 ≤ y.1.1 ∧ y.1.1 ≤ 255) := by
  simp only [w_at_eq]
  refine Ok.cond (fun hc => ?_) (fun _ => Ok.some ?_)
  · refine Ok.bind (Ok.nth h0 (of_decide_eq_true hc) hb) (fun x hx => Ok.some ?_)
    dsimp only
    rw [wrap_i64 (by omega) (by omega)]
    exact hx
  · dsimp only
    rw [wrap_i64 (n := i * 31) (by omega) (by omega), wrap_i64 (n := (b.length : Int) * 7) (by omega) (by omega), wrap_i64 (by omega) (by omega)]
    have := tmod_range (a := i * 31 + (b.length : Int) * 7) (n := 256) (by omega) (by decide)
    omega

theorem pw_pos {c : Int} (hc : 1 ≤ c) (n : Int) : 1 ≤ pw c n := by
  unfold pw
  generalize n.toNat = k
  suffices ∀ (k : Nat) (r : Int), 1 ≤ r → 1 ≤ itM c k r from this k 1 (by decide)
  intro k
  induction k with
  | zero => exact fun r h => h
  | succ k ih =>
    intro r h
    refine ih _ ?_
    unfold gM
    have : 1 * 1 ≤ r * c := Int.mul_le_mul h hc (by decide) (by omega)
    split <;> omega

theorem small_pow : ∀ b : Fin 4, ∀ k : Fin 9, pw (cl (b.val : Int)) ((k.val : Int) + 1) = (b.val : Int) * pw (cl (b.val : Int)) (k.val : Int) ∧ pw (cl (b.val : Int)) (k.val : Int) ≤ 10000 := by decide
theorem small_sum : ∀ b : Fin 4, ∀ k : Fin 9, ss (cl (b.val : Int)) ((k.val : Int) + 1) = ss (cl (b.val : Int)) (k.val : Int) + pw (cl (b.val : Int)) (k.val : Int) := by decide
theorem small_three : ∀ k : Fin 9, ss (cl 3) (k.val : Int) * 2 + 1 = pw (cl 3) (k.val : Int) ∧ ss (cl 3) (k.val : Int) ≤ 100000 := by decide

theorem ss_range {c n : Int} (hc : 0 ≤ c) : 0 ≤ ss c n ∧ ss c n ≤ 2147483647 := by
  unfold ss
  repeat' split
  · decide
  · decide
  · exact cl_range n
  · exact sm_range hc _

theorem bne_self {a : Int} : (a != a) = false := by simp

theorem w_FnPowers_true {b : List Int} (hb : ∀ x ∈ b, 0 ≤ x ∧ x ≤ 255) : w_FnPowers (b, ()) = some ((true, ()), ()) := by
  simp only [w_FnPowers_eq, w_big_eq, Option.bind_some]
  by_cases hl : ((b.length : Nat) : Int) > 1048576
  · rw [decide_eq_true hl, cond_true]
  have hlen : b.length ≤ 1048576 := by omega
  rw [decide_eq_false hl, cond_false]
  obtain ⟨⟨⟨b1, n1, _⟩, _⟩, e1, -, h1⟩ := s_DrawPower_ok hlen
  obtain ⟨⟨⟨b2, n2, _⟩, _⟩, e2, h2⟩ := s_DrawSums_ok hlen
  obtain ⟨⟨⟨t1, _⟩, _⟩, e3, h3⟩ := s_DrawMostTurns_ok hlen
  obtain ⟨⟨⟨t2, _⟩, _⟩, e4, h4⟩ := s_DrawMostLeft_ok hlen
  obtain ⟨⟨⟨a2, _⟩, _⟩, e5, g1, g2⟩ := w_at_ok hb hlen (i := 2) (by decide) (by decide)
  obtain ⟨⟨⟨a3, _⟩, _⟩, e6, g3, g4⟩ := w_at_ok hb hlen (i := 3) (by decide) (by decide)
  dsimp only at h1 h2 h3 h4 g1 g2 g3 g4
  have r1 : -9223372036854775808 ≤ n1 ∧ n1 ≤ 9223372036854775807 := by
    simp only [List.mem_cons, List.not_mem_nil, or_false] at h1; omega
  have r2 : -9223372036854775808 ≤ n2 ∧ n2 ≤ 9223372036854775807 := by
    simp only [List.mem_cons, List.not_mem_nil, or_false] at h2; omega
  have u1 := us_range t1
  have u2 := us_range t2
  have l1 := h3.1
  have l2 := h4.1
  have q1 : 0 ≤ Int.tmod a2 4 ∧ Int.tmod a2 4 < 4 := tmod_range g1 (by decide)
  have q2 : 0 ≤ Int.tmod a3 9 ∧ Int.tmod a3 9 < 9 := tmod_range g3 (by decide)
  simp only [e1, e2, e3, e4, e5, e6, Option.bind_some, i_Power_pw r1, s_Power_pw, i_Sums_ss r2, s_Sums_ss r2, i_MostTurns_eq, s_MostTurns_eq, i_MostLeft_eq, s_MostLeft_eq,
    i_Usable_us (t := t1) (by omega), s_Usable_us (t := t1) (by omega), i_Usable_us (t := t2) (by omega), s_Usable_us (t := t2) (by omega),
    i_Sums_ss (b := 3) (n := us t1) ⟨by omega, by omega⟩, s_Sums_ss (b := 3) (n := us t1) ⟨by omega, by omega⟩,
    i_Power_pw (b := 3) (n := us t2) ⟨by omega, by omega⟩, i_Power_pw (b := 3) (n := us t1) ⟨by omega, by omega⟩, bne_self, cond_false]
  have p1 := pw_range (cl_range b1).1 n1
  have z1 : ¬ pw (cl b1) n1 < 0 := by omega
  have z2 : ¬ pw (cl b1) n1 > 2147483647 := by omega
  simp only [z1, z2, decide_false, cond_false, Option.bind_some, e5, e6, i_Usable_us (t := t1) (by omega), i_Power_pw (b := 3) (n := us t1) ⟨by omega, by omega⟩]
  generalize Int.tmod a2 4 = c at q1
  generalize Int.tmod a3 9 = k at q2
  have w1 : IntKind.i64.wrap (k + 1) = k + 1 := wrap_i64 (by omega) (by omega)
  have s1 := small_pow ⟨c.toNat, by omega⟩ ⟨k.toNat, by omega⟩
  have s2 := small_sum ⟨c.toNat, by omega⟩ ⟨k.toNat, by omega⟩
  have s3 := small_three ⟨k.toNat, by omega⟩
  have ec : ((c.toNat : Nat) : Int) = c := by omega
  have ek : ((k.toNat : Nat) : Int) = k := by omega
  simp only [ec, ek] at s1 s2 s3
  have rk : -9223372036854775808 ≤ k ∧ k ≤ 9223372036854775807 := by omega
  have rk1 : -9223372036854775808 ≤ k + 1 ∧ k + 1 ≤ 9223372036854775807 := by omega
  simp only [w1, i_Power_pw rk, i_Power_pw rk1, i_Sums_ss rk, i_Sums_ss rk1, Option.bind_some]
  have p2 := pw_range (cl_range c).1 k
  have p3 := pw_range (cl_range c).1 (k + 1)
  have p4 := ss_range (n := k) (cl_range c).1
  have p5 := ss_range (n := k) (cl_range 3).1
  rw [s1.1] at p3
  rw [wrap_i64 (n := c * pw (cl c) k) (by omega) (by omega), wrap_i64 (n := ss (cl c) k + pw (cl c) k) (by omega) (by omega), wrap_i64 (n := ss (cl 3) k * 2) (by omega) (by omega), wrap_i64 (n := ss (cl 3) k * 2 + 1) (by omega) (by omega)]
  have z3 : pw (cl 3) (us t1) ≥ 1 := pw_pos (by decide) _
  simp only [s1.1, s2, s3.1, z3, beq_self_eq_true, decide_true, cond_true, Option.bind_some]

end Go.Fw

/- For every input, laws.FnPowers returns true, and its argument reads as it did. No condition. -/
import Derived.Test.YtfllidjfcolkeaaRows
import Derived.Test.YtfllidjfcolkeaaL1
import Derived.Test.YtfllidjfcolkeaaF5
namespace Go.Proofs.Ytfllidjfcolkeaa
open Go Go.Fw Go.ChangeShapes Go.WideShapes Go.ChangeAt Go.RowKit

theorem Try.own : ownKnob Try.prog.godebug = none := by kernel_rfl
theorem Try.laidOut : laidOutB Try.prog = true := by kernel_rfl

set_option maxRecDepth 100000 in
theorem fnPowers_lifted (os : Os) (started : os.Started) (H : Type) (enc : TypeId × Value → H) :
    ReturnsInHanded {} Try.checked os 3 .any (Rows.fnPowersSpec.pre6 enc Try.prog Try.f3 Rows.fnPowersRow.domain false) (Rows.fnPowersSpec.post enc Try.prog Try.f3 false true false false) := by
  refine returnsInHanded_of_change (C := Try.checked) Try.own started (by kernel_rfl) Try.func3
    (ChangeSpec.witness6 (enc := enc) (C := Try.checked) false ⟨#[], #[.slice none 0 0], []⟩ 8 (by kernel_rfl) (by kernel_rfl) (by kernel_rfl) (by kernel_rfl)) ?_
  intro W base args ds gs before hval hW _ _
  refine law_post (P := Try.prog) (ps := sg_w_FnPowers.args) (n := 10) (base := base) Try.laidOut (by kernel_rfl) (by kernel_rfl) rfl (by kernel_rfl) rfl ?_ hval hW ?_
  · intro h1 h2
    subst h2
    match ds, h1 with
    | [d], _ => exact ⟨rfl, rfl, rfl⟩
  · rintro ⟨b, u⟩ ⟨hf, -⟩
    refine ⟨(), E_w_FnPowers.ok (b, ()) ((true, ()), ()) ?_⟩
    refine w_FnPowers_true (b := b) (fun x hx => ?_)
    have := hf.2 x hx
    simp only [Fit, Lit.wf, Bool.and_eq_true, decide_eq_true_eq] at this
    exact this

theorem fnPowers_holds : Rows.FnPowersSaid :=
  OpenClaim.holds_of_wide 3 Try.f3 rfl rfl rfl rfl rfl rfl rfl ⟨rfl, rfl, rfl, rfl, rfl⟩ rfl rfl rfl rfl rfl (by kernel_rfl) Try.func3 (by kernel_rfl)
    (of_decide_eq_true (by kernel_rfl)) (by unfold Func.isWrapper; rw [if_neg (of_decide_eq_false (by kernel_rfl))]; exact ⟨rfl, rfl⟩)
    (fun os started H enc _ => fnPowers_lifted os started H enc)


end Go.Proofs.Ytfllidjfcolkeaa

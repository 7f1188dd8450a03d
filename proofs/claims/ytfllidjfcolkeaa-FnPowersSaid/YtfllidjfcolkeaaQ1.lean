/- Q1: the pure functions that the code of this law computes, each with its contract. -/
import Derived.Test.YtfllidjfcolkeaaProg
import Derived.Test.YtfllidjfcolkeaaF4
namespace Go.Fw
open Go Go.Proofs
set_option maxRecDepth 100000
abbrev ShGuard : Sh := (.pair (.int .i64) (.int .i64))
abbrev TGuard : Type := Int × Int
abbrev ShSide : Sh := (.pair (.int .i64) (.pair (.int .i64) .bool))
abbrev TSide : Type := Int × (Int × Bool)
abbrev ShL1Cur : Sh := (.pair (.sl (.int .u8)) ShGuard)
abbrev TL1Cur : Type := (List Int) × TGuard
abbrev ShEvent : Sh := (.pair (.int .i64) (.pair (.int .i64) (.pair (.int .i64) (.pair (.int .i64) ShSide))))
abbrev TEvent : Type := Int × (Int × (Int × (Int × TSide)))
abbrev ShPat : Sh := (.pair (.int .i64) (.pair (.int .i64) (.pair (.int .i64) (.pair (.int .i64) (.pair (.int .i64) ShGuard)))))
abbrev TPat : Type := Int × (Int × (Int × (Int × (Int × TGuard))))
abbrev ShPiece : Sh := (.pair (.int .i64) (.pair (.int .i64) (.pair (.int .i64) (.pair (.int .i64) (.pair (.int .i64) (.pair (.int .i64) (.pair (.int .i64) (.pair (.int .i64) (.pair (.int .i64) (.pair (.int .i64) (.pair (.int .i64) (.pair .bool .bool))))))))))))
abbrev TPiece : Type := Int × (Int × (Int × (Int × (Int × (Int × (Int × (Int × (Int × (Int × (Int × (Bool × Bool)))))))))))
abbrev ShAct : Sh := (.pair (.int .i64) (.pair (.int .i64) (.pair (.int .i64) (.pair (.int .i64) (.pair (.int .i64) (.pair .bool (.sl ShEvent)))))))
abbrev TAct : Type := Int × (Int × (Int × (Int × (Int × (Bool × (List TEvent))))))
abbrev ShState : Sh := (.pair (.sl ShPiece) (.pair (.sl ShSide) ShGuard))
abbrev TState : Type := (List TPiece) × ((List TSide) × TGuard)
abbrev ShEffect : Sh := (.pair (.int .i64) (.pair (.int .i64) (.pair (.int .i64) (.pair (.int .i64) (.pair ShPat (.pair ShGuard (.pair ShAct ShGuard)))))))
abbrev TEffect : Type := Int × (Int × (Int × (Int × (TPat × (TGuard × (TAct × TGuard))))))
def ti3 : TI := ⟨(.int .i64), [.int .i64 0], 8, (.int .i64)⟩
def ti4 : TI := ⟨.bool, [.bool false], 1, .bool⟩
def ti5 : TI := ⟨(.int .u8), [.int .u8 0], 1, (.int .u8)⟩
def ti22 : TI := ⟨(.slice 5), [.nils], 24, (.sl (.int .u8))⟩
def ti27 : TI := ⟨(.slice 94), [.nils], 24, (.sl ShEffect)⟩
def ti38 : TI := ⟨(.slice 3), [.nils], 24, (.sl (.int .i64))⟩
def ti40 : TI := ⟨(.slice 65), [.nils], 24, (.sl ShPiece)⟩
def ti41 : TI := ⟨(.slice 99), [.nils], 24, (.sl ShSide)⟩
def ti43 : TI := ⟨(.struct [(0, 40), (1, 41), (2, 3), (3, 3)]), [.nils, .nils, .int .i64 0, .int .i64 0], 64, ShState⟩
def ti54 : TI := ⟨.other, [.lit (.pointer none)], 8, .unit⟩
def ti63 : TI := ⟨(.struct [(0, 3), (1, 3), (2, 3), (3, 3), (4, 3), (5, 3), (6, 4)]), [.int .i64 0, .int .i64 0, .int .i64 0, .int .i64 0, .int .i64 0, .int .i64 0, .bool false], 56, ShEvent⟩
def ti65 : TI := ⟨(.struct [(0, 3), (1, 3), (2, 3), (3, 3), (4, 3), (5, 3), (6, 3), (7, 3), (8, 3), (9, 3), (10, 3), (11, 4), (12, 4)]), [.int .i64 0, .int .i64 0, .int .i64 0, .int .i64 0, .int .i64 0, .int .i64 0, .int .i64 0, .int .i64 0, .int .i64 0, .int .i64 0, .int .i64 0, .bool false, .bool false], 96, ShPiece⟩
def ti84 : TI := ⟨(.struct [(0, 22), (1, 3), (2, 3)]), [.nils, .int .i64 0, .int .i64 0], 40, ShL1Cur⟩
def ti87 : TI := ⟨(.struct [(0, 3), (1, 3), (2, 3), (3, 3), (4, 3), (5, 3), (6, 3)]), [.int .i64 0, .int .i64 0, .int .i64 0, .int .i64 0, .int .i64 0, .int .i64 0, .int .i64 0], 56, ShPat⟩
def ti89 : TI := ⟨(.struct [(0, 3), (1, 3)]), [.int .i64 0, .int .i64 0], 16, ShGuard⟩
def ti90 : TI := ⟨(.slice 63), [.nils], 24, (.sl ShEvent)⟩
def ti92 : TI := ⟨(.struct [(0, 3), (1, 3), (2, 3), (3, 3), (4, 3), (5, 4), (6, 90)]), [.int .i64 0, .int .i64 0, .int .i64 0, .int .i64 0, .int .i64 0, .bool false, .nils], 72, ShAct⟩
def ti94 : TI := ⟨(.struct [(0, 3), (1, 3), (2, 3), (3, 3), (4, 87), (11, 89), (13, 92), (20, 3), (21, 3)]), [.int .i64 0, .int .i64 0, .int .i64 0, .int .i64 0, .int .i64 0, .int .i64 0, .int .i64 0, .int .i64 0, .int .i64 0, .int .i64 0, .int .i64 0, .int .i64 0, .int .i64 0, .int .i64 0, .int .i64 0, .int .i64 0, .int .i64 0, .int .i64 0, .bool false, .nils, .int .i64 0, .int .i64 0], 192, ShEffect⟩
def ti99 : TI := ⟨(.struct [(0, 3), (1, 3), (2, 4)]), [.int .i64 0, .int .i64 0, .bool false], 24, ShSide⟩
def ti121 : TI := ⟨(.int .u64), [.int .u64 0], 8, (.int .u64)⟩
def T : Tys := [(3, ti3), (4, ti4), (5, ti5), (22, ti22), (27, ti27), (38, ti38), (40, ti40), (41, ti41), (43, ti43), (54, ti54), (63, ti63), (65, ti65), (84, ti84), (87, ti87), (89, ti89), (90, ti90), (92, ti92), (94, ti94), (99, ti99), (121, ti121)]
theorem ti3_ok : TOk1 Try.prog 3 ti3 := ⟨Try.t3, _, _, _, rfl, rfl, rfl, rfl, rfl, rfl, rfl, rfl⟩
theorem ti3_st : StOk1 Try.prog 3 ti3 := trivial
theorem ti4_ok : TOk1 Try.prog 4 ti4 := ⟨Try.t4, _, _, _, rfl, rfl, rfl, rfl, rfl, rfl, rfl, rfl⟩
theorem ti4_st : StOk1 Try.prog 4 ti4 := trivial
theorem ti5_ok : TOk1 Try.prog 5 ti5 := ⟨Try.t5, _, _, _, rfl, rfl, rfl, rfl, rfl, rfl, rfl, rfl⟩
theorem ti5_st : StOk1 Try.prog 5 ti5 := trivial
theorem ti22_ok : TOk1 Try.prog 22 ti22 := ⟨Try.t22, _, _, _, rfl, rfl, rfl, rfl, rfl, rfl, rfl, rfl⟩
theorem ti22_st : StOk1 Try.prog 22 ti22 := trivial
theorem ti27_ok : TOk1 Try.prog 27 ti27 := ⟨Try.t27, _, _, _, rfl, rfl, rfl, rfl, rfl, rfl, rfl, rfl⟩
theorem ti27_st : StOk1 Try.prog 27 ti27 := trivial
theorem ti38_ok : TOk1 Try.prog 38 ti38 := ⟨Try.t38, _, _, _, rfl, rfl, rfl, rfl, rfl, rfl, rfl, rfl⟩
theorem ti38_st : StOk1 Try.prog 38 ti38 := trivial
theorem ti40_ok : TOk1 Try.prog 40 ti40 := ⟨Try.t40, _, _, _, rfl, rfl, rfl, rfl, rfl, rfl, rfl, rfl⟩
theorem ti40_st : StOk1 Try.prog 40 ti40 := trivial
theorem ti41_ok : TOk1 Try.prog 41 ti41 := ⟨Try.t41, _, _, _, rfl, rfl, rfl, rfl, rfl, rfl, rfl, rfl⟩
theorem ti41_st : StOk1 Try.prog 41 ti41 := trivial
theorem ti43_ok : TOk1 Try.prog 43 ti43 := ⟨Try.t43, _, _, _, rfl, rfl, rfl, rfl, rfl, rfl, rfl, ⟨_, rfl, rfl⟩⟩
theorem ti43_st : StOk1 Try.prog 43 ti43 := ⟨by kernel_rfl, by kernel_rfl, by kernel_rfl⟩
theorem ti54_ok : TOk1 Try.prog 54 ti54 := ⟨Try.t54, _, _, _, rfl, rfl, rfl, rfl, rfl, rfl, rfl, trivial⟩
theorem ti54_st : StOk1 Try.prog 54 ti54 := trivial
theorem ti63_ok : TOk1 Try.prog 63 ti63 := ⟨Try.t63, _, _, _, rfl, rfl, rfl, rfl, rfl, rfl, rfl, ⟨_, rfl, rfl⟩⟩
theorem ti63_st : StOk1 Try.prog 63 ti63 := ⟨by kernel_rfl, by kernel_rfl, by kernel_rfl⟩
theorem ti65_ok : TOk1 Try.prog 65 ti65 := ⟨Try.t65, _, _, _, rfl, rfl, rfl, rfl, rfl, rfl, rfl, ⟨_, rfl, rfl⟩⟩
theorem ti65_st : StOk1 Try.prog 65 ti65 := ⟨by kernel_rfl, by kernel_rfl, by kernel_rfl⟩
theorem ti84_ok : TOk1 Try.prog 84 ti84 := ⟨Try.t84, _, _, _, rfl, rfl, rfl, rfl, rfl, rfl, rfl, ⟨_, rfl, rfl⟩⟩
theorem ti84_st : StOk1 Try.prog 84 ti84 := ⟨by kernel_rfl, by kernel_rfl, by kernel_rfl⟩
theorem ti87_ok : TOk1 Try.prog 87 ti87 := ⟨Try.t87, _, _, _, rfl, rfl, rfl, rfl, rfl, rfl, rfl, ⟨_, rfl, rfl⟩⟩
theorem ti87_st : StOk1 Try.prog 87 ti87 := ⟨by kernel_rfl, by kernel_rfl, by kernel_rfl⟩
theorem ti89_ok : TOk1 Try.prog 89 ti89 := ⟨Try.t89, _, _, _, rfl, rfl, rfl, rfl, rfl, rfl, rfl, ⟨_, rfl, rfl⟩⟩
theorem ti89_st : StOk1 Try.prog 89 ti89 := ⟨by kernel_rfl, by kernel_rfl, by kernel_rfl⟩
theorem ti90_ok : TOk1 Try.prog 90 ti90 := ⟨Try.t90, _, _, _, rfl, rfl, rfl, rfl, rfl, rfl, rfl, rfl⟩
theorem ti90_st : StOk1 Try.prog 90 ti90 := trivial
theorem ti92_ok : TOk1 Try.prog 92 ti92 := ⟨Try.t92, _, _, _, rfl, rfl, rfl, rfl, rfl, rfl, rfl, ⟨_, rfl, rfl⟩⟩
theorem ti92_st : StOk1 Try.prog 92 ti92 := ⟨by kernel_rfl, by kernel_rfl, by kernel_rfl⟩
theorem ti94_ok : TOk1 Try.prog 94 ti94 := ⟨Try.t94, _, _, _, rfl, rfl, rfl, rfl, rfl, rfl, rfl, ⟨_, rfl, rfl⟩⟩
theorem ti94_st : StOk1 Try.prog 94 ti94 := ⟨by kernel_rfl, by kernel_rfl, by kernel_rfl⟩
theorem ti99_ok : TOk1 Try.prog 99 ti99 := ⟨Try.t99, _, _, _, rfl, rfl, rfl, rfl, rfl, rfl, rfl, ⟨_, rfl, rfl⟩⟩
theorem ti99_st : StOk1 Try.prog 99 ti99 := ⟨by kernel_rfl, by kernel_rfl, by kernel_rfl⟩
theorem ti121_ok : TOk1 Try.prog 121 ti121 := ⟨Try.t121, _, _, _, rfl, rfl, rfl, rfl, rfl, rfl, rfl, rfl⟩
theorem ti121_st : StOk1 Try.prog 121 ti121 := trivial
theorem T_ok : TOk Try.prog T :=
   .cons ti3_ok ti3_st (.cons ti4_ok ti4_st (.cons ti5_ok ti5_st (.cons ti22_ok ti22_st (.cons ti27_ok ti27_st (.cons ti38_ok ti38_st (.cons ti40_ok ti40_st (.cons ti41_ok ti41_st (.cons ti43_ok ti43_st (.cons ti54_ok ti54_st (.cons ti63_ok ti63_st (.cons ti65_ok ti65_st (.cons ti84_ok ti84_st (.cons ti87_ok ti87_st (.cons ti89_ok ti89_st (.cons ti90_ok ti90_st (.cons ti92_ok ti92_st (.cons ti94_ok ti94_st (.cons ti99_ok ti99_st (.cons ti121_ok ti121_st (.nil _))))))))))))))))))))
def bodyOf (f : Func) : Code := f.body.getD .skip
/-- deeper than any call goes -/
abbrev FUEL : Nat := 64

/-- loop.example/g00486/laws.big -/
abbrev sg_w_big : Sig := ⟨[.val false (.sl (.int .u8))], [.val false .bool]⟩
def ct_w_big : Cert := .d
noncomputable def F_w_big (x : ElL sg_w_big.args) : Option (ElL sg_w_big.res × ElL (posts sg_w_big.args)) := evFun (P := Try.prog) T [] sg_w_big 6 Try.f5.results.toList (bodyOf Try.f5) ct_w_big x
noncomputable def E_w_big : Ent Try.prog := ⟨5, sg_w_big, F_w_big, Try.call5, fun _ _ h => con_ok T_ok rfl rfl Try.func5 rfl h⟩
noncomputable def w_big (x : (List Int) × Unit) : Option ((Bool × Unit) × Unit) := F_w_big x
theorem w_big_eq (x : (List Int) × Unit) : w_big x = (
 some (((decide (((x.1.length : Nat) : Int) > (1048576 : Int))), ()), ())) := by kernel_rfl

/-- loop.example/g00486/spec.l1New -/
abbrev sg_s_l1New : Sig := ⟨[.val false (.sl (.int .u8))], [.ptr ShL1Cur]⟩
def ct_s_l1New : Cert := (.seq .d (.seq .d (.seq (.seq .d (.block (.loop [(0, .val false (.sl (.int .u8))), (3, .val false (.int .i64)), (4, .val false (.int .i64))] (.seq (.bind [(0, .val false (.sl (.int .u8))), (3, .val false (.int .i64)), (4, .val false (.int .i64)), (15, .val false .bool)] .d .d) .d)))) .d)))
noncomputable def F_s_l1New (x : ElL sg_s_l1New.args) : Option (ElL sg_s_l1New.res × ElL (posts sg_s_l1New.args)) := evFun (P := Try.prog) T [] sg_s_l1New 32 Try.f32.results.toList (bodyOf Try.f32) ct_s_l1New x
noncomputable def E_s_l1New : Ent Try.prog := ⟨32, sg_s_l1New, F_s_l1New, Try.call32, fun _ _ h => con_ok T_ok rfl rfl Try.func32 rfl h⟩
noncomputable def s_l1New (x : (List Int) × Unit) : Option ((TL1Cur × Unit) × Unit) := F_s_l1New x
theorem s_l1New_eq (x : (List Int) × Unit) : s_l1New x = (
 loopC (fun (v0 : (List Int) × (Int × (Int × Unit))) =>
 Option.bind (cond (decide (v0.2.2.1 < ((v0.1.length : Nat) : Int)))
 (some (v0.1, (v0.2.1, (v0.2.2.1, ((decide (v0.2.2.1 < (4000 : Int))), ())))))
 (some (v0.1, (v0.2.1, (v0.2.2.1, (false, ())))))) fun (v1 : (List Int) × (Int × (Int × (Bool × Unit)))) =>
 cond v1.2.2.2.1
 (Option.bind (nth v1.1 v1.2.2.1) fun (x2 : Int) =>
 some (.inl (v1.1, ((bitsV .and .i64 (IntKind.i64.wrap ((IntKind.i64.wrap ((IntKind.i64.wrap (v1.2.1 * (137 : Int))) + (IntKind.i64.wrap x2))) + (11 : Int))) (1073741823 : Int)), ((IntKind.i64.wrap (v1.2.2.1 + (1 : Int))), ())))))
 (some (.inr (((v1.1, ((0 : Int), v1.2.1)), ()), ())))) (x.1, ((IntKind.i64.wrap ((139871 : Int) + ((x.1.length : Nat) : Int))), ((0 : Int), ())))) := by kernel_rfl

/-- loop.example/g00486/spec.l1Byte -/
abbrev sg_s_l1Byte : Sig := ⟨[.ptr ShL1Cur], [.val false (.int .i64)]⟩
def ct_s_l1Byte : Cert := (.seq .d (.seq .d (.seq .d (.bind [(0, .ptr ShL1Cur), (3, .val false (.int .i64))] .d .d))))
noncomputable def F_s_l1Byte (x : ElL sg_s_l1Byte.args) : Option (ElL sg_s_l1Byte.res × ElL (posts sg_s_l1Byte.args)) := evFun (P := Try.prog) T [] sg_s_l1Byte 58 Try.f76.results.toList (bodyOf Try.f76) ct_s_l1Byte x
noncomputable def E_s_l1Byte : Ent Try.prog := ⟨76, sg_s_l1Byte, F_s_l1Byte, Try.call76, fun _ _ h => con_ok T_ok rfl rfl Try.func76 rfl h⟩
noncomputable def s_l1Byte (x : TL1Cur × Unit) : Option ((Int × Unit) × (TL1Cur × Unit)) := F_s_l1Byte x
theorem s_l1Byte_eq (x : TL1Cur × Unit) : s_l1Byte x = (
 Option.bind (cond (decide (x.1.2.1 < ((x.1.1.length : Nat) : Int)))
 (Option.bind (nth x.1.1 x.1.2.1) fun (x0 : Int) =>
 some ((x.1.1, ((IntKind.i64.wrap (x.1.2.1 + (1 : Int))), (IntKind.i64.wrap ((IntKind.i64.wrap (x.1.2.2 * (6364136223846793005 : Int))) + (1442695040888963407 : Int))))), ((bitsV .and .i64 (IntKind.i64.wrap ((bitsV .and .i64 (bitsV .xor .i64 (shrV .i64 (IntKind.i64.wrap ((IntKind.i64.wrap (x.1.2.2 * (6364136223846793005 : Int))) + (1442695040888963407 : Int))) (33 : Int)) (shrV .i64 (IntKind.i64.wrap ((IntKind.i64.wrap (x.1.2.2 * (6364136223846793005 : Int))) + (1442695040888963407 : Int))) (47 : Int))) (255 : Int)) + (IntKind.i64.wrap x0))) (255 : Int)), ())))
 (some ((x.1.1, (x.1.2.1, (IntKind.i64.wrap ((IntKind.i64.wrap (x.1.2.2 * (6364136223846793005 : Int))) + (1442695040888963407 : Int))))), ((bitsV .and .i64 (bitsV .xor .i64 (shrV .i64 (IntKind.i64.wrap ((IntKind.i64.wrap (x.1.2.2 * (6364136223846793005 : Int))) + (1442695040888963407 : Int))) (33 : Int)) (shrV .i64 (IntKind.i64.wrap ((IntKind.i64.wrap (x.1.2.2 * (6364136223846793005 : Int))) + (1442695040888963407 : Int))) (47 : Int))) (255 : Int)), ())))) fun (v1 : TL1Cur × (Int × Unit)) =>
 some ((v1.2.1, ()), (v1.1, ()))) := by kernel_rfl

/-- loop.example/g00486/spec.l1Below -/
abbrev sg_s_l1Below : Sig := ⟨[.ptr ShL1Cur, .val false (.int .i64)], [.val false (.int .i64)]⟩
def ct_s_l1Below : Cert := .d
noncomputable def F_s_l1Below (x : ElL sg_s_l1Below.args) : Option (ElL sg_s_l1Below.res × ElL (posts sg_s_l1Below.args)) := evFun (P := Try.prog) T [E_s_l1Byte] sg_s_l1Below 31 Try.f58.results.toList (bodyOf Try.f58) ct_s_l1Below x
noncomputable def E_s_l1Below : Ent Try.prog := ⟨58, sg_s_l1Below, F_s_l1Below, Try.call58, fun _ _ h => con_ok T_ok rfl rfl Try.func58 rfl h⟩
noncomputable def s_l1Below (x : TL1Cur × (Int × Unit)) : Option ((Int × Unit) × (TL1Cur × Unit)) := F_s_l1Below x
theorem s_l1Below_eq (x : TL1Cur × (Int × Unit)) : s_l1Below x = (
 cond (decide (x.2.1 ≤ (0 : Int)))
 (some (((0 : Int), ()), (x.1, ())))
 (cond (decide (x.2.1 ≤ (256 : Int)))
 (Option.bind (s_l1Byte (x.1, ())) fun (y0 : (Int × Unit) × (TL1Cur × Unit)) =>
 cond (x.2.1 == 0)
 (none)
 (some (((Int.tmod y0.1.1 x.2.1), ()), (y0.2.1, ()))))
 (Option.bind (s_l1Byte (x.1, ())) fun (y1 : (Int × Unit) × (TL1Cur × Unit)) =>
 Option.bind (s_l1Byte (y1.2.1, ())) fun (y2 : (Int × Unit) × (TL1Cur × Unit)) =>
 Option.bind (s_l1Byte (y2.2.1, ())) fun (y3 : (Int × Unit) × (TL1Cur × Unit)) =>
 cond (x.2.1 == 0)
 (none)
 (some (((Int.tmod (IntKind.i64.wrap ((IntKind.i64.wrap ((IntKind.i64.wrap (y1.1.1 * (65536 : Int))) + (IntKind.i64.wrap (y2.1.1 * (256 : Int))))) + y3.1.1)) x.2.1), ()), (y3.2.1, ())))))) := by kernel_rfl

/-- loop.example/g00486/spec.l1Int -/
abbrev sg_s_l1Int : Sig := ⟨[.ptr ShL1Cur, .val false (.sl (.int .i64))], [.val false (.int .i64)]⟩
def ct_s_l1Int : Cert := .d
noncomputable def F_s_l1Int (x : ElL sg_s_l1Int.args) : Option (ElL sg_s_l1Int.res × ElL (posts sg_s_l1Int.args)) := evFun (P := Try.prog) T [E_s_l1Below] sg_s_l1Int 12 Try.f33.results.toList (bodyOf Try.f33) ct_s_l1Int x
noncomputable def E_s_l1Int : Ent Try.prog := ⟨33, sg_s_l1Int, F_s_l1Int, Try.call33, fun _ _ h => con_ok T_ok rfl rfl Try.func33 rfl h⟩
noncomputable def s_l1Int (x : TL1Cur × ((List Int) × Unit)) : Option ((Int × Unit) × (TL1Cur × Unit)) := F_s_l1Int x
theorem s_l1Int_eq (x : TL1Cur × ((List Int) × Unit)) : s_l1Int x = (
 Option.bind (s_l1Below (x.1, (((x.2.1.length : Nat) : Int), ()))) fun (y0 : (Int × Unit) × (TL1Cur × Unit)) =>
 Option.bind (nth x.2.1 y0.1.1) fun (x1 : Int) =>
 some ((x1, ()), (y0.2.1, ()))) := by kernel_rfl

/-- loop.example/g00486/spec.DrawPower -/
abbrev sg_s_DrawPower : Sig := ⟨[.val false (.sl (.int .u8))], [.val false (.int .i64), .val false (.int .i64)]⟩
def ct_s_DrawPower : Cert := .d
noncomputable def F_s_DrawPower (x : ElL sg_s_DrawPower.args) : Option (ElL sg_s_DrawPower.res × ElL (posts sg_s_DrawPower.args)) := evFun (P := Try.prog) T [E_s_l1New, E_s_l1Int] sg_s_DrawPower 15 Try.f6.results.toList (bodyOf Try.f6) ct_s_DrawPower x
noncomputable def E_s_DrawPower : Ent Try.prog := ⟨6, sg_s_DrawPower, F_s_DrawPower, Try.call6, fun _ _ h => con_ok T_ok rfl rfl Try.func6 rfl h⟩
noncomputable def s_DrawPower (x : (List Int) × Unit) : Option ((Int × (Int × Unit)) × Unit) := F_s_DrawPower x
theorem s_DrawPower_eq (x : (List Int) × Unit) : s_DrawPower x = (
 Option.bind (s_l1New (x.1, ())) fun (y0 : (TL1Cur × Unit) × Unit) =>
 Option.bind (s_l1Int (y0.1.1, (([(0 : Int), (1 : Int), (2 : Int), (3 : Int), (10 : Int), (2147483647 : Int), (-1 : Int), (9223372036854775807 : Int)] : List Int), ()))) fun (y1 : (Int × Unit) × (TL1Cur × Unit)) =>
 Option.bind (s_l1Int (y1.2.1, (([(0 : Int), (1 : Int), (2 : Int), (5 : Int), (10 : Int), (31 : Int), (40 : Int), (100 : Int), (-1 : Int)] : List Int), ()))) fun (y2 : (Int × Unit) × (TL1Cur × Unit)) =>
 some ((y1.1.1, (y2.1.1, ())), ())) := by kernel_rfl

/-- loop.example/g00486/impl.Upto -/
abbrev sg_i_Upto : Sig := ⟨[.val false (.int .i64), .val false (.int .i64)], [.val false (.int .i64)]⟩
def ct_i_Upto : Cert := .d
noncomputable def F_i_Upto (x : ElL sg_i_Upto.args) : Option (ElL sg_i_Upto.res × ElL (posts sg_i_Upto.args)) := evFun (P := Try.prog) T [] sg_i_Upto 9 Try.f34.results.toList (bodyOf Try.f34) ct_i_Upto x
noncomputable def E_i_Upto : Ent Try.prog := ⟨34, sg_i_Upto, F_i_Upto, Try.call34, fun _ _ h => con_ok T_ok rfl rfl Try.func34 rfl h⟩
noncomputable def i_Upto (x : Int × (Int × Unit)) : Option ((Int × Unit) × Unit) := F_i_Upto x
theorem i_Upto_eq (x : Int × (Int × Unit)) : i_Upto x = (
 some (((if (if x.2.1 < x.1 then x.2.1 else x.1) > (0 : Int) then (if x.2.1 < x.1 then x.2.1 else x.1) else (0 : Int)), ()), ())) := by kernel_rfl

/-- loop.example/g00486/impl.Power -/
abbrev sg_i_Power : Sig := ⟨[.val false (.int .i64), .val false (.int .i64)], [.val false (.int .i64)]⟩
def ct_i_Power : Cert := (.seq .d (.seq .d (.seq .d (.seq (.seq .d (.cond (.bind [(5, .val false (.int .i64))] .d .d) .d)) (.seq (.block (.loop [(0, .val false (.int .i64)), (1, .val false (.int .i64)), (5, .val false (.int .i64))] (.seq (.bind [(0, .val false (.int .i64)), (1, .val false (.int .i64)), (5, .val false (.int .i64)), (19, .val false .bool)] .d .d) .d))) .d)))))
noncomputable def F_i_Power (x : ElL sg_i_Power.args) : Option (ElL sg_i_Power.res × ElL (posts sg_i_Power.args)) := evFun (P := Try.prog) T [E_i_Upto] sg_i_Power 27 Try.f7.results.toList (bodyOf Try.f7) ct_i_Power x
noncomputable def E_i_Power : Ent Try.prog := ⟨7, sg_i_Power, F_i_Power, Try.call7, fun _ _ h => con_ok T_ok rfl rfl Try.func7 rfl h⟩
noncomputable def i_Power (x : Int × (Int × Unit)) : Option ((Int × Unit) × Unit) := F_i_Power x
theorem i_Power_eq (x : Int × (Int × Unit)) : i_Power x = (
 Option.bind (i_Upto (x.1, ((2147483647 : Int), ()))) fun (y0 : (Int × Unit) × Unit) =>
 cond (decide (y0.1.1 < (2 : Int)))
 (Option.bind (cond (decide (x.2.1 > (0 : Int)))
 (some (y0.1.1, ()))
 (some ((1 : Int), ()))) fun (v1 : Int × Unit) =>
 some ((v1.1, ()), ()))
 (loopC (fun (v2 : Int × (Int × (Int × Unit))) =>
 Option.bind (cond (decide (v2.2.1 > (0 : Int)))
 (some (v2.1, (v2.2.1, (v2.2.2.1, ((decide (v2.2.2.1 < (2147483647 : Int))), ())))))
 (some (v2.1, (v2.2.1, (v2.2.2.1, (false, ())))))) fun (v3 : Int × (Int × (Int × (Bool × Unit)))) =>
 cond v3.2.2.2.1
 (some (.inl (v3.1, ((IntKind.i64.wrap (v3.2.1 - (1 : Int))), ((if (2147483647 : Int) < (IntKind.i64.wrap (v3.2.2.1 * v3.1)) then (2147483647 : Int) else (IntKind.i64.wrap (v3.2.2.1 * v3.1))), ())))))
 (some (.inr ((v3.2.2.1, ()), ())))) (y0.1.1, (x.2.1, ((1 : Int), ()))))) := by kernel_rfl

/-- loop.example/g00486/spec.DrawSums -/
abbrev sg_s_DrawSums : Sig := ⟨[.val false (.sl (.int .u8))], [.val false (.int .i64), .val false (.int .i64)]⟩
def ct_s_DrawSums : Cert := .d
noncomputable def F_s_DrawSums (x : ElL sg_s_DrawSums.args) : Option (ElL sg_s_DrawSums.res × ElL (posts sg_s_DrawSums.args)) := evFun (P := Try.prog) T [E_s_l1New, E_s_l1Int] sg_s_DrawSums 15 Try.f8.results.toList (bodyOf Try.f8) ct_s_DrawSums x
noncomputable def E_s_DrawSums : Ent Try.prog := ⟨8, sg_s_DrawSums, F_s_DrawSums, Try.call8, fun _ _ h => con_ok T_ok rfl rfl Try.func8 rfl h⟩
noncomputable def s_DrawSums (x : (List Int) × Unit) : Option ((Int × (Int × Unit)) × Unit) := F_s_DrawSums x
theorem s_DrawSums_eq (x : (List Int) × Unit) : s_DrawSums x = (
 Option.bind (s_l1New (x.1, ())) fun (y0 : (TL1Cur × Unit) × Unit) =>
 Option.bind (s_l1Int (y0.1.1, (([(0 : Int), (1 : Int), (2 : Int), (3 : Int), (10 : Int), (2147483647 : Int), (-1 : Int), (9223372036854775807 : Int)] : List Int), ()))) fun (y1 : (Int × Unit) × (TL1Cur × Unit)) =>
 Option.bind (s_l1Int (y1.2.1, (([(0 : Int), (1 : Int), (2 : Int), (5 : Int), (10 : Int), (31 : Int), (40 : Int), (100 : Int), (-1 : Int)] : List Int), ()))) fun (y2 : (Int × Unit) × (TL1Cur × Unit)) =>
 some ((y1.1.1, (y2.1.1, ())), ())) := by kernel_rfl

/-- loop.example/g00486/impl.Sums -/
abbrev sg_i_Sums : Sig := ⟨[.val false (.int .i64), .val false (.int .i64)], [.val false (.int .i64)]⟩
def ct_i_Sums : Cert := (.seq .d (.seq .d (.seq .d (.seq .d (.seq (.seq .d (.block (.loop [(0, .val false (.int .i64)), (1, .val false (.int .i64)), (5, .val false (.int .i64)), (6, .val false (.int .i64))] (.seq (.bind [(0, .val false (.int .i64)), (1, .val false (.int .i64)), (5, .val false (.int .i64)), (6, .val false (.int .i64)), (26, .val false .bool)] .d .d) .d)))) .d)))))
noncomputable def F_i_Sums (x : ElL sg_i_Sums.args) : Option (ElL sg_i_Sums.res × ElL (posts sg_i_Sums.args)) := evFun (P := Try.prog) T [E_i_Upto, E_i_Power] sg_i_Sums 36 Try.f9.results.toList (bodyOf Try.f9) ct_i_Sums x
noncomputable def E_i_Sums : Ent Try.prog := ⟨9, sg_i_Sums, F_i_Sums, Try.call9, fun _ _ h => con_ok T_ok rfl rfl Try.func9 rfl h⟩
noncomputable def i_Sums (x : Int × (Int × Unit)) : Option ((Int × Unit) × Unit) := F_i_Sums x
theorem i_Sums_eq (x : Int × (Int × Unit)) : i_Sums x = (
 Option.bind (i_Upto (x.1, ((2147483647 : Int), ()))) fun (y0 : (Int × Unit) × Unit) =>
 cond (decide (x.2.1 ≤ (0 : Int)))
 (some (((0 : Int), ()), ()))
 (cond (y0.1.1 == (0 : Int))
 (some (((1 : Int), ()), ()))
 (cond (y0.1.1 == (1 : Int))
 (some (((if (2147483647 : Int) < x.2.1 then (2147483647 : Int) else x.2.1), ()), ()))
 (loopC (fun (v1 : Int × (Int × (Int × (Int × Unit)))) =>
 Option.bind (cond (decide (v1.2.2.2.1 < v1.2.1))
 (some (v1.1, (v1.2.1, (v1.2.2.1, (v1.2.2.2.1, ((decide (v1.2.2.1 < (2147483647 : Int))), ()))))))
 (some (v1.1, (v1.2.1, (v1.2.2.1, (v1.2.2.2.1, (false, ()))))))) fun (v2 : Int × (Int × (Int × (Int × (Bool × Unit))))) =>
 cond v2.2.2.2.2.1
 (Option.bind (i_Power (v2.1, (v2.2.2.2.1, ()))) fun (y3 : (Int × Unit) × Unit) =>
 some (.inl (v2.1, (v2.2.1, ((if (2147483647 : Int) < (IntKind.i64.wrap (v2.2.2.1 + y3.1.1)) then (2147483647 : Int) else (IntKind.i64.wrap (v2.2.2.1 + y3.1.1))), ((IntKind.i64.wrap (v2.2.2.2.1 + (1 : Int))), ()))))))
 (some (.inr ((v2.2.2.1, ()), ())))) (y0.1.1, (x.2.1, ((0 : Int), ((0 : Int), ())))))))) := by kernel_rfl

/-- loop.example/g00486/spec.StateNew -/
abbrev sg_s_StateNew : Sig := ⟨[.val false (.int .i64)], [.val true (.pair (.own ShPiece) (.pair (.own ShSide) ShGuard))]⟩
def ct_s_StateNew : Cert := (.seq .d (.seq .d (.bind [(2, .ptr (.pair (.own ShPiece) (.pair (.own ShSide) ShGuard))), (3, .ptr (.pair (.own ShPiece) (.pair (.own ShSide) ShGuard)))] .d .d)))
noncomputable def F_s_StateNew (x : ElL sg_s_StateNew.args) : Option (ElL sg_s_StateNew.res × ElL (posts sg_s_StateNew.args)) := evFun (P := Try.prog) T [] sg_s_StateNew 17 Try.f62.results.toList (bodyOf Try.f62) ct_s_StateNew x
noncomputable def E_s_StateNew : Ent Try.prog := ⟨62, sg_s_StateNew, F_s_StateNew, Try.call62, fun _ _ h => con_ok T_ok rfl rfl Try.func62 rfl h⟩
noncomputable def s_StateNew (x : Int × Unit) : Option ((TState × Unit) × Unit) := F_s_StateNew x
theorem s_StateNew_eq (x : Int × Unit) : s_StateNew x = (
 Option.bind (cond (x.1 == (3 : Int))
 (cond (Nat.ble (([((20 : Int), ((0 : Int), false)), ((20 : Int), ((0 : Int), false))] : List TSide).length + ([((20 : Int), ((0 : Int), false))] : List TSide).length) LIM)
 (some ((([] : List TPiece), (([] : List TSide), ((0 : Int), (0 : Int)))), ((([] : List TPiece), ((([((20 : Int), ((0 : Int), false)), ((20 : Int), ((0 : Int), false))] : List TSide) ++ ([((20 : Int), ((0 : Int), false))] : List TSide)), ((0 : Int), (0 : Int)))), ())))
 (none))
 (some ((([] : List TPiece), (([] : List TSide), ((0 : Int), (0 : Int)))), ((([] : List TPiece), (([((20 : Int), ((0 : Int), false)), ((20 : Int), ((0 : Int), false))] : List TSide), ((0 : Int), (0 : Int)))), ())))) fun (v0 : TState × (TState × Unit)) =>
 some ((v0.2.1, ()), ())) := by kernel_rfl

/-- loop.example/g00486/spec.l1Once -/
abbrev sg_s_l1Once : Sig := ⟨[.ptr ShL1Cur, .val false (.int .i64)], [.val false .bool]⟩
def ct_s_l1Once : Cert := .d
noncomputable def F_s_l1Once (x : ElL sg_s_l1Once.args) : Option (ElL sg_s_l1Once.res × ElL (posts sg_s_l1Once.args)) := evFun (P := Try.prog) T [E_s_l1Below] sg_s_l1Once 9 Try.f80.results.toList (bodyOf Try.f80) ct_s_l1Once x
noncomputable def E_s_l1Once : Ent Try.prog := ⟨80, sg_s_l1Once, F_s_l1Once, Try.call80, fun _ _ h => con_ok T_ok rfl rfl Try.func80 rfl h⟩
noncomputable def s_l1Once (x : TL1Cur × (Int × Unit)) : Option ((Bool × Unit) × (TL1Cur × Unit)) := F_s_l1Once x
theorem s_l1Once_eq (x : TL1Cur × (Int × Unit)) : s_l1Once x = (
 Option.bind (s_l1Below (x.1, (x.2.1, ()))) fun (y0 : (Int × Unit) × (TL1Cur × Unit)) =>
 some (((y0.1.1 == (0 : Int)), ()), (y0.2.1, ()))) := by kernel_rfl

/-- loop.example/g00486/spec.l4Draw -/
abbrev sg_s_l4Draw : Sig := ⟨[.ptr ShL1Cur, .val false (.int .i64)], [.val true ShPiece]⟩
def ct_s_l4Draw : Cert := (.seq .d (.seq .d (.seq .d (.seq (.seq .d (.block (.loop [(0, .ptr ShL1Cur), (4, .ptr ShPiece), (5, .ptr ShPiece), (25, .val false (.own (.int .i64))), (26, .val false (.int .i64)), (27, .val false (.int .i64))] (.seq .d (.seq .d (.bind [(0, .ptr ShL1Cur), (4, .ptr ShPiece), (5, .ptr ShPiece), (25, .val false (.own (.int .i64))), (26, .val false (.int .i64)), (27, .val false (.int .i64))] .d .d)))))) (.seq .d (.bind [(0, .ptr ShL1Cur), (4, .ptr ShPiece), (5, .ptr ShPiece)] .d .d))))))
noncomputable def F_s_l4Draw (x : ElL sg_s_l4Draw.args) : Option (ElL sg_s_l4Draw.res × ElL (posts sg_s_l4Draw.args)) := evFun (P := Try.prog) T [E_s_l1Below, E_s_l1Int, E_s_l1Once] sg_s_l4Draw 65 Try.f63.results.toList (bodyOf Try.f63) ct_s_l4Draw x
noncomputable def E_s_l4Draw : Ent Try.prog := ⟨63, sg_s_l4Draw, F_s_l4Draw, Try.call63, fun _ _ h => con_ok T_ok rfl rfl Try.func63 rfl h⟩
noncomputable def s_l4Draw (x : TL1Cur × (Int × Unit)) : Option ((TPiece × Unit) × (TL1Cur × Unit)) := F_s_l4Draw x
theorem s_l4Draw_eq (x : TL1Cur × (Int × Unit)) : s_l4Draw x = (
 Option.bind (s_l1Below (x.1, ((2 : Int), ()))) fun (y0 : (Int × Unit) × (TL1Cur × Unit)) =>
 Option.bind (s_l1Int (y0.2.1, (([(2 : Int), (2 : Int), (2 : Int), (1 : Int), (3 : Int)] : List Int), ()))) fun (y1 : (Int × Unit) × (TL1Cur × Unit)) =>
 Option.bind (s_l1Below (y1.2.1, ((3 : Int), ()))) fun (y2 : (Int × Unit) × (TL1Cur × Unit)) =>
 Option.bind (s_l1Below (y2.2.1, ((5 : Int), ()))) fun (y3 : (Int × Unit) × (TL1Cur × Unit)) =>
 Option.bind (s_l1Below (y3.2.1, ((5 : Int), ()))) fun (y4 : (Int × Unit) × (TL1Cur × Unit)) =>
 loopC (fun (v5 : TL1Cur × (TPiece × (TPiece × ((List Int) × (Int × (Int × Unit)))))) =>
 cond (decide (v5.2.2.2.2.2.1 < v5.2.2.2.2.1))
 (Option.bind (Option.bind (nth v5.2.2.2.1 v5.2.2.2.2.2.1) fun (_ : Int) =>
 Option.bind v5.2.2.2.1[(v5.2.2.2.2.2.1).toNat]? fun (x6 : Int) =>
 Option.bind (s_l1Once (v5.1, ((3 : Int), ()))) fun (y7 : (Bool × Unit) × (TL1Cur × Unit)) =>
 cond y7.1.1
 (some (y7.2.1, (v5.2.1, ((v5.2.2.1.1, (v5.2.2.1.2.1, (v5.2.2.1.2.2.1, (v5.2.2.1.2.2.2.1, (v5.2.2.1.2.2.2.2.1, (v5.2.2.1.2.2.2.2.2.1, (v5.2.2.1.2.2.2.2.2.2.1, ((IntKind.i64.wrap (v5.2.2.1.2.2.2.2.2.2.2.1 + x6)), v5.2.2.1.2.2.2.2.2.2.2.2)))))))), (v5.2.2.2.1, (v5.2.2.2.2.1, (v5.2.2.2.2.2.1, ())))))))
 (some (y7.2.1, (v5.2.1, (v5.2.2.1, (v5.2.2.2.1, (v5.2.2.2.2.1, (v5.2.2.2.2.2.1, ())))))))) fun (v8 : TL1Cur × (TPiece × (TPiece × ((List Int) × (Int × (Int × Unit)))))) =>
 some (.inl (v8.1, (v8.2.1, (v8.2.2.1, (v8.2.2.2.1, (v8.2.2.2.2.1, ((IntKind.i64.wrap (v8.2.2.2.2.2.1 + (1 : Int))), ()))))))))
 (Option.bind (cond (v5.2.2.1.2.2.2.1 != (2 : Int))
 (some ((v5.2.2.1, ()), (v5.1, ())))
 (Option.bind (Option.bind (s_l1Once (v5.1, ((4 : Int), ()))) fun (y9 : (Bool × Unit) × (TL1Cur × Unit)) =>
 cond y9.1.1
 (some (y9.2.1, (v5.2.1, ((v5.2.2.1.1, (v5.2.2.1.2.1, ((IntKind.i64.wrap ((1 : Int) - v5.2.2.1.2.1)), v5.2.2.1.2.2.2))), ()))))
 (some (y9.2.1, (v5.2.1, (v5.2.2.1, ()))))) fun (v10 : TL1Cur × (TPiece × (TPiece × Unit))) =>
 Option.bind (s_l1Int (v10.1, (([(0 : Int), (0 : Int), (1 : Int), (2 : Int)] : List Int), ()))) fun (y11 : (Int × Unit) × (TL1Cur × Unit)) =>
 Option.bind (s_l1Int (y11.2.1, (([(0 : Int), (0 : Int), (0 : Int), (1 : Int)] : List Int), ()))) fun (y12 : (Int × Unit) × (TL1Cur × Unit)) =>
 Option.bind (s_l1Int (y12.2.1, (([(0 : Int), (0 : Int), (1 : Int)] : List Int), ()))) fun (y13 : (Int × Unit) × (TL1Cur × Unit)) =>
 Option.bind (s_l1Once (y13.2.1, ((4 : Int), ()))) fun (y14 : (Bool × Unit) × (TL1Cur × Unit)) =>
 some (((v10.2.2.1.1, (v10.2.2.1.2.1, (v10.2.2.1.2.2.1, (v10.2.2.1.2.2.2.1, (v10.2.2.1.2.2.2.2.1, (v10.2.2.1.2.2.2.2.2.1, (v10.2.2.1.2.2.2.2.2.2.1, (v10.2.2.1.2.2.2.2.2.2.2.1, (y11.1.1, (y12.1.1, (y13.1.1, (v10.2.2.1.2.2.2.2.2.2.2.2.2.2.2.1, y14.1.1)))))))))))), ()), (y14.2.1, ())))) fun b => some (.inr b))) (y4.2.1, (((0 : Int), ((0 : Int), ((0 : Int), ((0 : Int), ((0 : Int), ((0 : Int), ((0 : Int), ((0 : Int), ((0 : Int), ((0 : Int), ((0 : Int), (false, false)))))))))))), ((x.2.1, (y0.1.1, (y0.1.1, (y1.1.1, (y2.1.1, (y3.1.1, ((IntKind.i64.wrap ((1 : Int) + y4.1.1)), ((0 : Int), ((0 : Int), ((0 : Int), ((0 : Int), (false, false)))))))))))), (([(1 : Int), (2 : Int), (4 : Int), (8 : Int), (16 : Int), (32 : Int)] : List Int), (((([(1 : Int), (2 : Int), (4 : Int), (8 : Int), (16 : Int), (32 : Int)] : List Int).length : Nat) : Int), ((0 : Int), ()))))))) := by kernel_rfl

/-- loop.example/g00486/spec.l5Draw -/
abbrev sg_s_l5Draw : Sig := ⟨[.ptr ShL1Cur], [.val true (.pair (.own ShPiece) (.pair (.own ShSide) ShGuard))]⟩
def ct_s_l5Draw : Cert := (.seq .d (.seq .d (.seq .d (.seq .d (.seq (.seq .d (.block (.loop [(0, .ptr ShL1Cur), (2, .ptr (.pair (.own ShPiece) (.pair (.own ShSide) ShGuard))), (3, .ptr (.pair (.own ShPiece) (.pair (.own ShSide) ShGuard))), (4, .val false (.int .i64))] .d))) (.seq .d (.seq (.seq .d (.block (.loop [(0, .ptr ShL1Cur), (2, .ptr (.pair (.own ShPiece) (.pair (.own ShSide) ShGuard))), (3, .ptr (.pair (.own ShPiece) (.pair (.own ShSide) ShGuard))), (5, .val false (.int .i64)), (6, .val false (.int .i64))] .d))) .d)))))))
noncomputable def F_s_l5Draw (x : ElL sg_s_l5Draw.args) : Option (ElL sg_s_l5Draw.res × ElL (posts sg_s_l5Draw.args)) := evFun (P := Try.prog) T [E_s_l1Below, E_s_l1Int, E_s_StateNew, E_s_l4Draw] sg_s_l5Draw 58 Try.f36.results.toList (bodyOf Try.f36) ct_s_l5Draw x
noncomputable def E_s_l5Draw : Ent Try.prog := ⟨36, sg_s_l5Draw, F_s_l5Draw, Try.call36, fun _ _ h => con_ok T_ok rfl rfl Try.func36 rfl h⟩
noncomputable def s_l5Draw (x : TL1Cur × Unit) : Option ((TState × Unit) × (TL1Cur × Unit)) := F_s_l5Draw x
theorem s_l5Draw_eq (x : TL1Cur × Unit) : s_l5Draw x = (
 Option.bind (s_StateNew ((2 : Int), ())) fun (y0 : (TState × Unit) × Unit) =>
 Option.bind (s_l1Below (x.1, ((3 : Int), ()))) fun (y1 : (Int × Unit) × (TL1Cur × Unit)) =>
 Option.bind (s_l1Below (y1.2.1, ((2 : Int), ()))) fun (y2 : (Int × Unit) × (TL1Cur × Unit)) =>
 loopC (fun (v3 : TL1Cur × (TState × (TState × (Int × Unit)))) =>
 cond (decide (v3.2.2.2.1 < (2 : Int)))
 (Option.bind (s_l1Int (v3.1, (([(20 : Int), (20 : Int), (3 : Int), (1 : Int), (10 : Int)] : List Int), ()))) fun (y4 : (Int × Unit) × (TL1Cur × Unit)) =>
 Option.bind (nth v3.2.2.1.2.1 v3.2.2.2.1) fun (_ : TSide) =>
 Option.bind v3.2.2.1.2.1[(v3.2.2.2.1).toNat]? fun (x5 : TSide) =>
 Option.bind (s_l1Int (y4.2.1, (([(0 : Int), (0 : Int), (8 : Int), (1 : Int)] : List Int), ()))) fun (y6 : (Int × Unit) × (TL1Cur × Unit)) =>
 Option.bind (nth (v3.2.2.1.2.1.set (v3.2.2.2.1).toNat (y4.1.1, x5.2)) v3.2.2.2.1) fun (_ : TSide) =>
 Option.bind ((v3.2.2.1.2.1.set (v3.2.2.2.1).toNat (y4.1.1, x5.2))[(v3.2.2.2.1).toNat]?) fun (x7 : TSide) =>
 some (.inl (y6.2.1, (v3.2.1, ((v3.2.2.1.1, (((v3.2.2.1.2.1.set (v3.2.2.2.1).toNat (y4.1.1, x5.2)).set (v3.2.2.2.1).toNat (x7.1, (y6.1.1, x7.2.2))), v3.2.2.1.2.2)), ((IntKind.i64.wrap (v3.2.2.2.1 + (1 : Int))), ()))))))
 (Option.bind (Option.bind (s_l1Below (v3.1, ((5 : Int), ()))) fun (y8 : (Int × Unit) × (TL1Cur × Unit)) =>
 loopC (fun (v9 : TL1Cur × (TState × (TState × (Int × (Int × Unit))))) =>
 cond (decide (v9.2.2.2.2.1 > (0 : Int)))
 (Option.bind (s_l1Below (v9.1, ((2 : Int), ()))) fun (y10 : (Int × Unit) × (TL1Cur × Unit)) =>
 Option.bind (s_l4Draw (y10.2.1, ((IntKind.i64.wrap ((IntKind.i64.wrap (v9.2.2.2.1 + (1 : Int))) + y10.1.1)), ()))) fun (y11 : (TPiece × Unit) × (TL1Cur × Unit)) =>
 cond (Nat.ble (v9.2.2.1.1.length + ([y11.1.1] : List TPiece).length) LIM)
 (some (.inl (y11.2.1, (v9.2.1, (((v9.2.2.1.1 ++ ([y11.1.1] : List TPiece)), v9.2.2.1.2), ((IntKind.i64.wrap ((IntKind.i64.wrap (v9.2.2.2.1 + (1 : Int))) + y10.1.1)), ((IntKind.i64.wrap (v9.2.2.2.2.1 - (1 : Int))), ())))))))
 (none))
 (some (.inr ((v9.2.2.1, ()), (v9.1, ()))))) (y8.2.1, (v3.2.1, (v3.2.2.1, ((0 : Int), ((IntKind.i64.wrap ((1 : Int) + y8.1.1)), ())))))) fun b => some (.inr b))) (y2.2.1, ((([] : List TPiece), (([] : List TSide), ((0 : Int), (0 : Int)))), ((y0.1.1.1, (y0.1.1.2.1, (y2.1.1, (IntKind.i64.wrap ((2 : Int) + y1.1.1))))), ((0 : Int), ()))))) := by kernel_rfl

/-- loop.example/g00486/spec.l6Id -/
abbrev sg_s_l6Id : Sig := ⟨[.ptr ShL1Cur, .val true ShState], [.val false (.int .i64)]⟩
def ct_s_l6Id : Cert := (.seq .d (.seq (.bind [(0, .ptr ShL1Cur), (3, .ptr ShState), (12, .val false .bool)] .d .d) .d))
noncomputable def F_s_l6Id (x : ElL sg_s_l6Id.args) : Option (ElL sg_s_l6Id.res × ElL (posts sg_s_l6Id.args)) := evFun (P := Try.prog) T [E_s_l1Below, E_s_l1Once] sg_s_l6Id 26 Try.f81.results.toList (bodyOf Try.f81) ct_s_l6Id x
noncomputable def E_s_l6Id : Ent Try.prog := ⟨81, sg_s_l6Id, F_s_l6Id, Try.call81, fun _ _ h => con_ok T_ok rfl rfl Try.func81 rfl h⟩
noncomputable def s_l6Id (x : TL1Cur × (TState × Unit)) : Option ((Int × Unit) × (TL1Cur × Unit)) := F_s_l6Id x
theorem s_l6Id_eq (x : TL1Cur × (TState × Unit)) : s_l6Id x = (
 Option.bind (cond (((x.2.1.1.length : Nat) : Int) == (0 : Int))
 (some (x.1, (x.2.1, (true, ()))))
 (Option.bind (s_l1Once (x.1, ((8 : Int), ()))) fun (y0 : (Bool × Unit) × (TL1Cur × Unit)) =>
 some (y0.2.1, (x.2.1, (y0.1.1, ()))))) fun (v1 : TL1Cur × (TState × (Bool × Unit))) =>
 cond v1.2.2.1
 (Option.bind (s_l1Below (v1.1, ((9 : Int), ()))) fun (y2 : (Int × Unit) × (TL1Cur × Unit)) =>
 some (((IntKind.i64.wrap ((1 : Int) + y2.1.1)), ()), (y2.2.1, ())))
 (Option.bind (s_l1Below (v1.1, (((v1.2.1.1.length : Nat) : Int), ()))) fun (y3 : (Int × Unit) × (TL1Cur × Unit)) =>
 Option.bind (nth v1.2.1.1 y3.1.1) fun (x4 : TPiece) =>
 some ((x4.1, ()), (y3.2.1, ())))) := by kernel_rfl

/-- loop.example/g00486/spec.l7Draw -/
abbrev sg_s_l7Draw : Sig := ⟨[.ptr ShL1Cur, .val true ShState], [.val true ShPat]⟩
def ct_s_l7Draw : Cert := (.seq .d (.seq .d (.bind [(0, .ptr ShL1Cur), (3, .ptr ShState), (4, .ptr ShPat), (5, .ptr ShPat)] .d (.bind [(0, .ptr ShL1Cur), (3, .ptr ShState), (4, .ptr ShPat), (5, .ptr ShPat)] (.seq .d (.block (.seq .d (.cond (.bind [(0, .ptr ShL1Cur), (3, .ptr ShState), (4, .ptr ShPat), (5, .ptr ShPat)] .d .d) .d)))) (.bind [(0, .ptr ShL1Cur), (4, .ptr ShPat), (5, .ptr ShPat)] (.bind [(0, .ptr ShL1Cur), (3, .ptr ShState), (4, .ptr ShPat), (5, .ptr ShPat), (53, .val false .bool)] .d .d) .d)))))
noncomputable def F_s_l7Draw (x : ElL sg_s_l7Draw.args) : Option (ElL sg_s_l7Draw.res × ElL (posts sg_s_l7Draw.args)) := evFun (P := Try.prog) T [E_s_l1Int, E_s_l1Once, E_s_l6Id] sg_s_l7Draw 59 Try.f82.results.toList (bodyOf Try.f82) ct_s_l7Draw x
noncomputable def E_s_l7Draw : Ent Try.prog := ⟨82, sg_s_l7Draw, F_s_l7Draw, Try.call82, fun _ _ h => con_ok T_ok rfl rfl Try.func82 rfl h⟩
noncomputable def s_l7Draw (x : TL1Cur × (TState × Unit)) : Option ((TPat × Unit) × (TL1Cur × Unit)) := F_s_l7Draw x
theorem s_l7Draw_eq (x : TL1Cur × (TState × Unit)) : s_l7Draw x = (
 Option.bind (s_l1Int (x.1, (([(1 : Int), (1 : Int), (1 : Int), (1 : Int), (2 : Int), (2 : Int), (3 : Int), (4 : Int), (5 : Int), (6 : Int)] : List Int), ()))) fun (y0 : (Int × Unit) × (TL1Cur × Unit)) =>
 Option.bind (s_l1Int (y0.2.1, (([(0 : Int), (0 : Int), (1 : Int), (2 : Int)] : List Int), ()))) fun (y1 : (Int × Unit) × (TL1Cur × Unit)) =>
 Option.bind (Option.bind (s_l1Once (y1.2.1, ((4 : Int), ()))) fun (y2 : (Bool × Unit) × (TL1Cur × Unit)) =>
 cond y2.1.1
 (Option.bind (s_l1Int (y2.2.1, (([(1 : Int), (2 : Int), (3 : Int)] : List Int), ()))) fun (y3 : (Int × Unit) × (TL1Cur × Unit)) =>
 some (y3.2.1, (x.2.1, (((0 : Int), ((0 : Int), ((0 : Int), ((0 : Int), ((0 : Int), ((0 : Int), (0 : Int))))))), ((y0.1.1, (y1.1.1, ((0 : Int), ((0 : Int), ((0 : Int), (y3.1.1, (0 : Int))))))), ())))))
 (some (y2.2.1, (x.2.1, (((0 : Int), ((0 : Int), ((0 : Int), ((0 : Int), ((0 : Int), ((0 : Int), (0 : Int))))))), ((y0.1.1, (y1.1.1, ((0 : Int), ((0 : Int), ((0 : Int), ((0 : Int), (0 : Int))))))), ())))))) fun (v4 : TL1Cur × (TState × (TPat × (TPat × Unit)))) =>
 Option.bind (cond (v4.2.2.2.1.1 == (1 : Int))
 (Option.bind (Option.bind (s_l1Once (v4.1, ((5 : Int), ()))) fun (y5 : (Bool × Unit) × (TL1Cur × Unit)) =>
 cond y5.1.1
 (Option.bind (s_l6Id (y5.2.1, (v4.2.1, ()))) fun (y6 : (Int × Unit) × (TL1Cur × Unit)) =>
 some (y6.2.1, (v4.2.1, (v4.2.2.1, ((v4.2.2.2.1.1, (v4.2.2.2.1.2.1, (y6.1.1, v4.2.2.2.1.2.2.2))), ())))))
 (some (y5.2.1, (v4.2.1, (v4.2.2.1, (v4.2.2.2.1, ())))))) fun (v7 : TL1Cur × (TState × (TPat × (TPat × Unit)))) =>
 Option.bind (s_l1Once (v7.1, ((5 : Int), ()))) fun (y8 : (Bool × Unit) × (TL1Cur × Unit)) =>
 cond y8.1.1
 (Option.bind (s_l1Int (y8.2.1, (([(1 : Int), (2 : Int), (4 : Int), (3 : Int)] : List Int), ()))) fun (y9 : (Int × Unit) × (TL1Cur × Unit)) =>
 some (y9.2.1, (v7.2.1, (v7.2.2.1, ((v7.2.2.2.1.1, (v7.2.2.2.1.2.1, (v7.2.2.2.1.2.2.1, (y9.1.1, v7.2.2.2.1.2.2.2.2)))), ())))))
 (some (y8.2.1, (v7.2.1, (v7.2.2.1, (v7.2.2.2.1, ()))))))
 (cond (v4.2.2.2.1.1 == (2 : Int))
 (Option.bind (s_l1Int (v4.1, (([(0 : Int), (3 : Int), (2 : Int)] : List Int), ()))) fun (y10 : (Int × Unit) × (TL1Cur × Unit)) =>
 some (y10.2.1, (v4.2.1, (v4.2.2.1, ((v4.2.2.2.1.1, (v4.2.2.2.1.2.1, (v4.2.2.2.1.2.2.1, (v4.2.2.2.1.2.2.2.1, (v4.2.2.2.1.2.2.2.2.1, ((0 : Int), y10.1.1)))))), ())))))
 (some (v4.1, (v4.2.1, (v4.2.2.1, (v4.2.2.2.1, ()))))))) fun (v11 : TL1Cur × (TState × (TPat × (TPat × Unit)))) =>
 Option.bind (Option.bind (cond (v11.2.2.2.1.1 != (3 : Int))
 (cond (v11.2.2.2.1.1 != (4 : Int))
 (Option.bind (s_l1Once (v11.1, ((5 : Int), ()))) fun (y12 : (Bool × Unit) × (TL1Cur × Unit)) =>
 some (y12.2.1, (v11.2.1, (v11.2.2.1, (v11.2.2.2.1, (y12.1.1, ()))))))
 (some (v11.1, (v11.2.1, (v11.2.2.1, (v11.2.2.2.1, (false, ())))))))
 (some (v11.1, (v11.2.1, (v11.2.2.1, (v11.2.2.2.1, (false, ()))))))) fun (v13 : TL1Cur × (TState × (TPat × (TPat × (Bool × Unit))))) =>
 cond v13.2.2.2.2.1
 (Option.bind (s_l6Id (v13.1, (v13.2.1, ()))) fun (y14 : (Int × Unit) × (TL1Cur × Unit)) =>
 some (y14.2.1, (v13.2.2.1, ((v13.2.2.2.1.1, (v13.2.2.2.1.2.1, (v13.2.2.2.1.2.2.1, (v13.2.2.2.1.2.2.2.1, (y14.1.1, v13.2.2.2.1.2.2.2.2.2))))), ()))))
 (some (v13.1, (v13.2.2.1, (v13.2.2.2.1, ()))))) fun (v15 : TL1Cur × (TPat × (TPat × Unit))) =>
 some ((v15.2.2.1, ()), (v15.1, ()))) := by kernel_rfl

/-- loop.example/g00486/spec.l8Draw -/
abbrev sg_s_l8Draw : Sig := ⟨[.ptr ShL1Cur], [.val true ShGuard]⟩
def ct_s_l8Draw : Cert := (.seq .d (.seq .d (.seq .d (.bind [(0, .ptr ShL1Cur), (2, .ptr ShGuard), (3, .ptr ShGuard)] (.seq .d (.block (.seq .d (.cond .d (.bind [(0, .ptr ShL1Cur), (2, .ptr ShGuard), (3, .ptr ShGuard), (20, .val false .bool)] .d .d))))) .d))))
noncomputable def F_s_l8Draw (x : ElL sg_s_l8Draw.args) : Option (ElL sg_s_l8Draw.res × ElL (posts sg_s_l8Draw.args)) := evFun (P := Try.prog) T [E_s_l1Below, E_s_l1Int, E_s_l1Once] sg_s_l8Draw 28 Try.f83.results.toList (bodyOf Try.f83) ct_s_l8Draw x
noncomputable def E_s_l8Draw : Ent Try.prog := ⟨83, sg_s_l8Draw, F_s_l8Draw, Try.call83, fun _ _ h => con_ok T_ok rfl rfl Try.func83 rfl h⟩
noncomputable def s_l8Draw (x : TL1Cur × Unit) : Option ((TGuard × Unit) × (TL1Cur × Unit)) := F_s_l8Draw x
theorem s_l8Draw_eq (x : TL1Cur × Unit) : s_l8Draw x = (
 Option.bind (s_l1Once (x.1, ((3 : Int), ()))) fun (y0 : (Bool × Unit) × (TL1Cur × Unit)) =>
 cond (!y0.1.1)
 (some ((((0 : Int), (0 : Int)), ()), (y0.2.1, ())))
 (Option.bind (s_l1Below (y0.2.1, ((4 : Int), ()))) fun (y1 : (Int × Unit) × (TL1Cur × Unit)) =>
 Option.bind (cond ((IntKind.i64.wrap ((1 : Int) + y1.1.1)) == (1 : Int))
 (Option.bind (s_l1Int (y1.2.1, (([(3 : Int), (10 : Int), (20 : Int), (1 : Int)] : List Int), ()))) fun (y2 : (Int × Unit) × (TL1Cur × Unit)) =>
 some (y2.2.1, (((0 : Int), (0 : Int)), (((IntKind.i64.wrap ((1 : Int) + y1.1.1)), y2.1.1), ()))))
 (Option.bind (cond ((IntKind.i64.wrap ((1 : Int) + y1.1.1)) == (2 : Int))
 (some (y1.2.1, (((0 : Int), (0 : Int)), (((IntKind.i64.wrap ((1 : Int) + y1.1.1)), (0 : Int)), (((IntKind.i64.wrap ((1 : Int) + y1.1.1)) == (2 : Int)), ())))))
 (some (y1.2.1, (((0 : Int), (0 : Int)), (((IntKind.i64.wrap ((1 : Int) + y1.1.1)), (0 : Int)), (((IntKind.i64.wrap ((1 : Int) + y1.1.1)) == (4 : Int)), ())))))) fun (v3 : TL1Cur × (TGuard × (TGuard × (Bool × Unit)))) =>
 cond v3.2.2.2.1
 (Option.bind (s_l1Int (v3.1, (([(0 : Int), (1 : Int), (2 : Int)] : List Int), ()))) fun (y4 : (Int × Unit) × (TL1Cur × Unit)) =>
 some (y4.2.1, (v3.2.1, ((v3.2.2.1.1, y4.1.1), ()))))
 (some (v3.1, (v3.2.1, (v3.2.2.1, ())))))) fun (v5 : TL1Cur × (TGuard × (TGuard × Unit))) =>
 some ((v5.2.2.1, ()), (v5.1, ())))) := by kernel_rfl

/-- loop.example/g00486/spec.l1In -/
abbrev sg_s_l1In : Sig := ⟨[.val false (.int .i64), .val false (.int .i64), .val false (.int .i64)], [.val false .bool]⟩
def ct_s_l1In : Cert := (.seq .d (.bind [(6, .val false .bool)] .d .d))
noncomputable def F_s_l1In (x : ElL sg_s_l1In.args) : Option (ElL sg_s_l1In.res × ElL (posts sg_s_l1In.args)) := evFun (P := Try.prog) T [] sg_s_l1In 15 Try.f105.results.toList (bodyOf Try.f105) ct_s_l1In x
noncomputable def E_s_l1In : Ent Try.prog := ⟨105, sg_s_l1In, F_s_l1In, Try.call105, fun _ _ h => con_ok T_ok rfl rfl Try.func105 rfl h⟩
noncomputable def s_l1In (x : Int × (Int × (Int × Unit))) : Option ((Bool × Unit) × Unit) := F_s_l1In x
theorem s_l1In_eq (x : Int × (Int × (Int × Unit))) : s_l1In x = (
 Option.bind (cond (decide (x.1 ≥ x.2.1))
 (some ((decide (x.1 ≤ x.2.2.1)), ()))
 (some (false, ()))) fun (v0 : Bool × Unit) =>
 some ((v0.1, ()), ())) := by kernel_rfl

/-- loop.example/g00486/spec.ActFits -/
abbrev sg_s_ActFits : Sig := ⟨[.val true ShAct, .val false (.int .i64)], [.val false .bool]⟩
def ct_s_ActFits : Cert := (.seq .d (.seq .d (.seq (.seq .d (.block (.bind [(1, .val false (.int .i64)), (2, .ptr ShAct), (9, .val false (.int .i64)), (10, .val false .bool)] .d (.cond .d (.bind [(1, .val false (.int .i64)), (2, .ptr ShAct), (9, .val false (.int .i64)), (15, .val false .bool)] .d (.cond .d (.bind [(1, .val false (.int .i64)), (2, .ptr ShAct), (21, .val false .bool)] .d .d))))))) (.bind [(4, .val false .bool)] .d .d))))
noncomputable def F_s_ActFits (x : ElL sg_s_ActFits.args) : Option (ElL sg_s_ActFits.res × ElL (posts sg_s_ActFits.args)) := evFun (P := Try.prog) T [E_s_l1In] sg_s_ActFits 34 Try.f92.results.toList (bodyOf Try.f92) ct_s_ActFits x
noncomputable def E_s_ActFits : Ent Try.prog := ⟨92, sg_s_ActFits, F_s_ActFits, Try.call92, fun _ _ h => con_ok T_ok rfl rfl Try.func92 rfl h⟩
noncomputable def s_ActFits (x : TAct × (Int × Unit)) : Option ((Bool × Unit) × Unit) := F_s_ActFits x
theorem s_ActFits_eq (x : TAct × (Int × Unit)) : s_ActFits x = (
 Option.bind (s_l1In (x.2.1, ((1 : Int), ((6 : Int), ())))) fun (y0 : (Bool × Unit) × Unit) =>
 cond (!y0.1.1)
 (some ((false, ()), ()))
 (Option.bind (cond (x.1.1 == (2 : Int))
 (some (x.2.1, (x.1, (x.1.1, ((x.1.1 == (2 : Int)), ())))))
 (some (x.2.1, (x.1, (x.1.1, ((x.1.1 == (6 : Int)), ())))))) fun (v1 : Int × (TAct × (Int × (Bool × Unit)))) =>
 cond v1.2.2.2.1
 (some (((v1.1 == (1 : Int)), ()), ()))
 (Option.bind (cond (v1.2.2.1 == (3 : Int))
 (some (v1.1, (v1.2.1, (v1.2.2.1, ((v1.2.2.1 == (3 : Int)), ())))))
 (cond (v1.2.2.1 == (4 : Int))
 (some (v1.1, (v1.2.1, (v1.2.2.1, ((v1.2.2.1 == (4 : Int)), ())))))
 (some (v1.1, (v1.2.1, (v1.2.2.1, ((v1.2.2.1 == (5 : Int)), ()))))))) fun (v2 : Int × (TAct × (Int × (Bool × Unit)))) =>
 cond v2.2.2.2.1
 (some (((v2.1 != (2 : Int)), ()), ()))
 (Option.bind (cond (v2.2.2.1 == (7 : Int))
 (some (v2.1, (v2.2.1, ((v2.2.2.1 == (7 : Int)), ()))))
 (some (v2.1, (v2.2.1, ((v2.2.2.1 == (8 : Int)), ()))))) fun (v3 : Int × (TAct × (Bool × Unit))) =>
 cond v3.2.2.1
 (some (((v3.1 == (2 : Int)), ()), ()))
 (Option.bind (cond (v3.2.1.1 == (1 : Int))
 (some (true, ()))
 (some ((v3.2.1.1 == (9 : Int)), ()))) fun (v4 : Bool × Unit) =>
 some ((v4.1, ()), ())))))) := by kernel_rfl

/-- loop.example/g00486/spec.l6Draw -/
abbrev sg_s_l6Draw : Sig := ⟨[.ptr ShL1Cur, .val true ShState], [.val true ShEvent]⟩
def ct_s_l6Draw : Cert := (.seq .d (.seq .d (.seq .d (.bind [(0, .ptr ShL1Cur), (4, .ptr ShEvent), (5, .ptr ShEvent)] (.seq .d (.block (.seq .d (.cond .d (.seq .d (.cond .d (.bind [(0, .ptr ShL1Cur), (3, .ptr ShState), (4, .ptr ShEvent), (5, .ptr ShEvent), (56, .val false .bool)] .d .d))))))) .d))))
noncomputable def F_s_l6Draw (x : ElL sg_s_l6Draw.args) : Option (ElL sg_s_l6Draw.res × ElL (posts sg_s_l6Draw.args)) := evFun (P := Try.prog) T [E_s_l1Below, E_s_l1Int, E_s_l1Once, E_s_l6Id] sg_s_l6Draw 63 Try.f91.results.toList (bodyOf Try.f91) ct_s_l6Draw x
noncomputable def E_s_l6Draw : Ent Try.prog := ⟨91, sg_s_l6Draw, F_s_l6Draw, Try.call91, fun _ _ h => con_ok T_ok rfl rfl Try.func91 rfl h⟩
noncomputable def s_l6Draw (x : TL1Cur × (TState × Unit)) : Option ((TEvent × Unit) × (TL1Cur × Unit)) := F_s_l6Draw x
theorem s_l6Draw_eq (x : TL1Cur × (TState × Unit)) : s_l6Draw x = (
 Option.bind (s_l1Int (x.1, (([(1 : Int), (1 : Int), (1 : Int), (2 : Int), (2 : Int), (3 : Int), (4 : Int), (5 : Int), (6 : Int)] : List Int), ()))) fun (y0 : (Int × Unit) × (TL1Cur × Unit)) =>
 Option.bind (s_l1Int (y0.2.1, (([(1 : Int), (2 : Int), (3 : Int), (5 : Int), (0 : Int), (8 : Int), (2147483647 : Int)] : List Int), ()))) fun (y1 : (Int × Unit) × (TL1Cur × Unit)) =>
 Option.bind (cond (y0.1.1 == (1 : Int))
 (Option.bind (s_l6Id (y1.2.1, (x.2.1, ()))) fun (y2 : (Int × Unit) × (TL1Cur × Unit)) =>
 Option.bind (s_l1Once (y2.2.1, ((2 : Int), ()))) fun (y3 : (Bool × Unit) × (TL1Cur × Unit)) =>
 cond y3.1.1
 (Option.bind (s_l1Below (y3.2.1, ((2 : Int), ()))) fun (y4 : (Int × Unit) × (TL1Cur × Unit)) =>
 some (y4.2.1, (((0 : Int), ((0 : Int), ((0 : Int), ((0 : Int), ((0 : Int), ((0 : Int), false)))))), ((y0.1.1, (y2.1.1, ((0 : Int), (y4.1.1, (y1.1.1, ((0 : Int), false)))))), ()))))
 (Option.bind (s_l6Id (y3.2.1, (x.2.1, ()))) fun (y5 : (Int × Unit) × (TL1Cur × Unit)) =>
 some (y5.2.1, (((0 : Int), ((0 : Int), ((0 : Int), ((0 : Int), ((0 : Int), ((0 : Int), false)))))), ((y0.1.1, (y2.1.1, (y5.1.1, ((-1 : Int), (y1.1.1, ((0 : Int), false)))))), ())))))
 (cond (y0.1.1 == (2 : Int))
 (Option.bind (s_l6Id (y1.2.1, (x.2.1, ()))) fun (y6 : (Int × Unit) × (TL1Cur × Unit)) =>
 Option.bind (s_l1Int (y6.2.1, (([(3 : Int), (3 : Int), (1 : Int), (2 : Int), (4 : Int)] : List Int), ()))) fun (y7 : (Int × Unit) × (TL1Cur × Unit)) =>
 cond (y7.1.1 == (2 : Int))
 (Option.bind (s_l1Int (y7.2.1, (([(0 : Int), (0 : Int), (1 : Int), (2 : Int)] : List Int), ()))) fun (y8 : (Int × Unit) × (TL1Cur × Unit)) =>
 Option.bind (s_l1Once (y8.2.1, ((3 : Int), ()))) fun (y9 : (Bool × Unit) × (TL1Cur × Unit)) =>
 some (y9.2.1, (((0 : Int), ((0 : Int), ((0 : Int), ((0 : Int), ((0 : Int), ((0 : Int), false)))))), ((y0.1.1, ((0 : Int), (y6.1.1, ((-1 : Int), (y8.1.1, (y7.1.1, y9.1.1)))))), ()))))
 (some (y7.2.1, (((0 : Int), ((0 : Int), ((0 : Int), ((0 : Int), ((0 : Int), ((0 : Int), false)))))), ((y0.1.1, ((0 : Int), (y6.1.1, ((-1 : Int), ((0 : Int), (y7.1.1, false)))))), ())))))
 (Option.bind (cond (y0.1.1 == (3 : Int))
 (some (y1.2.1, (x.2.1, (((0 : Int), ((0 : Int), ((0 : Int), ((0 : Int), ((0 : Int), ((0 : Int), false)))))), ((y0.1.1, ((0 : Int), ((0 : Int), ((-1 : Int), (y1.1.1, ((0 : Int), false)))))), ((y0.1.1 == (3 : Int)), ()))))))
 (some (y1.2.1, (x.2.1, (((0 : Int), ((0 : Int), ((0 : Int), ((0 : Int), ((0 : Int), ((0 : Int), false)))))), ((y0.1.1, ((0 : Int), ((0 : Int), ((-1 : Int), (y1.1.1, ((0 : Int), false)))))), ((y0.1.1 == (4 : Int)), ()))))))) fun (v10 : TL1Cur × (TState × (TEvent × (TEvent × (Bool × Unit))))) =>
 cond v10.2.2.2.2.1
 (Option.bind (s_l1Below (v10.1, ((2 : Int), ()))) fun (y11 : (Int × Unit) × (TL1Cur × Unit)) =>
 some (y11.2.1, (v10.2.2.1, ((v10.2.2.2.1.1, (v10.2.2.2.1.2.1, (v10.2.2.2.1.2.2.1, (y11.1.1, v10.2.2.2.1.2.2.2.2)))), ()))))
 (Option.bind (s_l6Id (v10.1, (v10.2.1, ()))) fun (y12 : (Int × Unit) × (TL1Cur × Unit)) =>
 some (y12.2.1, (v10.2.2.1, ((v10.2.2.2.1.1, (v10.2.2.2.1.2.1, (y12.1.1, v10.2.2.2.1.2.2.2))), ()))))))) fun (v13 : TL1Cur × (TEvent × (TEvent × Unit))) =>
 some ((v13.2.2.1, ()), (v13.1, ()))) := by kernel_rfl

/-- loop.example/g00486/spec.l9Draw -/
abbrev sg_s_l9Draw : Sig := ⟨[.ptr ShL1Cur, .val true ShState, .val false (.int .i64)], [.val true (.pair (.int .i64) (.pair (.int .i64) (.pair (.int .i64) (.pair (.int .i64) (.pair (.int .i64) (.pair .bool (.own ShEvent)))))))]⟩
def ct_s_l9Draw : Cert := (.seq .d (.seq .d (.seq (.seq .d (.block (.loop [(0, .ptr ShL1Cur), (2, .val false (.int .i64)), (4, .ptr ShState), (6, .ptr (.pair (.int .i64) (.pair (.int .i64) (.pair (.int .i64) (.pair (.int .i64) (.pair (.int .i64) (.pair .bool (.own ShEvent)))))))), (7, .ptr (.pair (.int .i64) (.pair (.int .i64) (.pair (.int .i64) (.pair (.int .i64) (.pair (.int .i64) (.pair .bool (.own ShEvent)))))))), (8, .val false (.int .i64))] (.seq (.bind [(0, .ptr ShL1Cur), (2, .val false (.int .i64)), (4, .ptr ShState), (6, .ptr (.pair (.int .i64) (.pair (.int .i64) (.pair (.int .i64) (.pair (.int .i64) (.pair (.int .i64) (.pair .bool (.own ShEvent)))))))), (7, .ptr (.pair (.int .i64) (.pair (.int .i64) (.pair (.int .i64) (.pair (.int .i64) (.pair (.int .i64) (.pair .bool (.own ShEvent)))))))), (8, .val false (.int .i64)), (22, .val false .bool)] .d .d) .d)))) (.bind [(0, .ptr ShL1Cur), (4, .ptr ShState), (6, .ptr (.pair (.int .i64) (.pair (.int .i64) (.pair (.int .i64) (.pair (.int .i64) (.pair (.int .i64) (.pair .bool (.own ShEvent)))))))), (7, .ptr (.pair (.int .i64) (.pair (.int .i64) (.pair (.int .i64) (.pair (.int .i64) (.pair (.int .i64) (.pair .bool (.own ShEvent))))))))] .d (.bind [(0, .ptr ShL1Cur), (6, .ptr (.pair (.int .i64) (.pair (.int .i64) (.pair (.int .i64) (.pair (.int .i64) (.pair (.int .i64) (.pair .bool (.own ShEvent)))))))), (7, .ptr (.pair (.int .i64) (.pair (.int .i64) (.pair (.int .i64) (.pair (.int .i64) (.pair (.int .i64) (.pair .bool (.own ShEvent))))))))] (.seq .d (.block (.seq .d (.cond .d (.seq .d (.cond .d (.seq .d (.cond .d (.seq .d (.cond .d (.seq .d (.cond (.seq .d (.block (.loop [(0, .ptr ShL1Cur), (4, .ptr ShState), (6, .ptr (.pair (.int .i64) (.pair (.int .i64) (.pair (.int .i64) (.pair (.int .i64) (.pair (.int .i64) (.pair .bool (.own ShEvent)))))))), (7, .ptr (.pair (.int .i64) (.pair (.int .i64) (.pair (.int .i64) (.pair (.int .i64) (.pair (.int .i64) (.pair .bool (.own ShEvent)))))))), (9, .val false (.int .i64))] (.seq .d (.seq (.block (.seq .d (.bind [(0, .ptr ShL1Cur), (4, .ptr ShState), (6, .ptr (.pair (.int .i64) (.pair (.int .i64) (.pair (.int .i64) (.pair (.int .i64) (.pair (.int .i64) (.pair .bool (.own ShEvent)))))))), (7, .ptr (.pair (.int .i64) (.pair (.int .i64) (.pair (.int .i64) (.pair (.int .i64) (.pair (.int .i64) (.pair .bool (.own ShEvent)))))))), (9, .val false (.int .i64)), (10, .ptr ShEvent)] (.bind [(0, .ptr ShL1Cur), (4, .ptr ShState), (6, .ptr (.pair (.int .i64) (.pair (.int .i64) (.pair (.int .i64) (.pair (.int .i64) (.pair (.int .i64) (.pair .bool (.own ShEvent)))))))), (7, .ptr (.pair (.int .i64) (.pair (.int .i64) (.pair (.int .i64) (.pair (.int .i64) (.pair (.int .i64) (.pair .bool (.own ShEvent)))))))), (9, .val false (.int .i64)), (10, .ptr ShEvent), (85, .val false .bool)] .d .d) .d))) .d))))) .d)))))))))))) .d)))))
noncomputable def F_s_l9Draw (x : ElL sg_s_l9Draw.args) : Option (ElL sg_s_l9Draw.res × ElL (posts sg_s_l9Draw.args)) := evFun (P := Try.prog) T [E_s_l1Below, E_s_l1Int, E_s_l1Once, E_s_l6Id, E_s_ActFits, E_s_l6Draw] sg_s_l9Draw 94 Try.f84.results.toList (bodyOf Try.f84) ct_s_l9Draw x
noncomputable def E_s_l9Draw : Ent Try.prog := ⟨84, sg_s_l9Draw, F_s_l9Draw, Try.call84, fun _ _ h => con_ok T_ok rfl rfl Try.func84 rfl h⟩
noncomputable def s_l9Draw (x : TL1Cur × (TState × (Int × Unit))) : Option ((TAct × Unit) × (TL1Cur × Unit)) := F_s_l9Draw x
theorem s_l9Draw_eq (x : TL1Cur × (TState × (Int × Unit))) : s_l9Draw x = (
 Option.bind (s_l1Int (x.1, (([(1 : Int), (2 : Int), (2 : Int), (3 : Int), (3 : Int), (4 : Int), (5 : Int), (6 : Int), (6 : Int), (7 : Int), (8 : Int), (8 : Int), (9 : Int), (9 : Int)] : List Int), ()))) fun (y0 : (Int × Unit) × (TL1Cur × Unit)) =>
 loopC (fun (v1 : TL1Cur × (Int × (TState × (TAct × (TAct × (Int × Unit)))))) =>
 Option.bind (cond (decide (v1.2.2.2.2.2.1 < (6 : Int)))
 (Option.bind (s_ActFits (v1.2.2.2.2.1, (v1.2.1, ()))) fun (y2 : (Bool × Unit) × Unit) =>
 some (v1.1, (v1.2.1, (v1.2.2.1, (v1.2.2.2.1, (v1.2.2.2.2.1, (v1.2.2.2.2.2.1, ((!y2.1.1), ()))))))))
 (some (v1.1, (v1.2.1, (v1.2.2.1, (v1.2.2.2.1, (v1.2.2.2.2.1, (v1.2.2.2.2.2.1, (false, ()))))))))) fun (v3 : TL1Cur × (Int × (TState × (TAct × (TAct × (Int × (Bool × Unit))))))) =>
 cond v3.2.2.2.2.2.2.1
 (Option.bind (s_l1Below (v3.1, ((9 : Int), ()))) fun (y4 : (Int × Unit) × (TL1Cur × Unit)) =>
 some (.inl (y4.2.1, (v3.2.1, (v3.2.2.1, (v3.2.2.2.1, (((IntKind.i64.wrap ((1 : Int) + y4.1.1)), v3.2.2.2.2.1.2), ((IntKind.i64.wrap (v3.2.2.2.2.2.1 + (1 : Int))), ()))))))))
 (Option.bind (Option.bind (Option.bind (s_ActFits (v3.2.2.2.2.1, (v3.2.1, ()))) fun (y5 : (Bool × Unit) × Unit) =>
 cond (!y5.1.1)
 (some (v3.1, (v3.2.2.1, (v3.2.2.2.1, (((1 : Int), v3.2.2.2.2.1.2), ())))))
 (some (v3.1, (v3.2.2.1, (v3.2.2.2.1, (v3.2.2.2.2.1, ())))))) fun (v6 : TL1Cur × (TState × (TAct × (TAct × Unit)))) =>
 Option.bind (cond (v6.2.2.2.1.1 == (3 : Int))
 (Option.bind (s_l1Int (v6.1, (([(1 : Int), (2 : Int), (5 : Int), (2147483647 : Int)] : List Int), ()))) fun (y7 : (Int × Unit) × (TL1Cur × Unit)) =>
 some (y7.2.1, (v6.2.2.1, ((v6.2.2.2.1.1, (y7.1.1, v6.2.2.2.1.2.2)), ()))))
 (cond (v6.2.2.2.1.1 == (6 : Int))
 (Option.bind (s_l1Once (v6.1, ((2 : Int), ()))) fun (y8 : (Bool × Unit) × (TL1Cur × Unit)) =>
 cond y8.1.1
 (Option.bind (s_l1Below (y8.2.1, ((2 : Int), ()))) fun (y9 : (Int × Unit) × (TL1Cur × Unit)) =>
 some (y9.2.1, (v6.2.2.1, ((v6.2.2.2.1.1, (v6.2.2.2.1.2.1, (v6.2.2.2.1.2.2.1, (y9.1.1, v6.2.2.2.1.2.2.2.2)))), ()))))
 (Option.bind (s_l6Id (y8.2.1, (v6.2.1, ()))) fun (y10 : (Int × Unit) × (TL1Cur × Unit)) =>
 some (y10.2.1, (v6.2.2.1, ((v6.2.2.2.1.1, (v6.2.2.2.1.2.1, (y10.1.1, v6.2.2.2.1.2.2.2))), ())))))
 (cond (v6.2.2.2.1.1 == (7 : Int))
 (Option.bind (s_l1Int (v6.1, (([(1 : Int), (4 : Int), (3 : Int), (2 : Int)] : List Int), ()))) fun (y11 : (Int × Unit) × (TL1Cur × Unit)) =>
 some (y11.2.1, (v6.2.2.1, ((v6.2.2.2.1.1, (v6.2.2.2.1.2.1, (v6.2.2.2.1.2.2.1, (v6.2.2.2.1.2.2.2.1, (y11.1.1, v6.2.2.2.1.2.2.2.2.2))))), ()))))
 (cond (v6.2.2.2.1.1 == (8 : Int))
 (Option.bind (s_l1Below (v6.1, ((3 : Int), ()))) fun (y12 : (Int × Unit) × (TL1Cur × Unit)) =>
 Option.bind (s_l1Once (y12.2.1, ((3 : Int), ()))) fun (y13 : (Bool × Unit) × (TL1Cur × Unit)) =>
 some (y13.2.1, (v6.2.2.1, ((v6.2.2.2.1.1, (y12.1.1, (v6.2.2.2.1.2.2.1, (v6.2.2.2.1.2.2.2.1, (v6.2.2.2.1.2.2.2.2.1, (y13.1.1, v6.2.2.2.1.2.2.2.2.2.2)))))), ()))))
 (cond (v6.2.2.2.1.1 == (9 : Int))
 (Option.bind (s_l1Below (v6.1, ((2 : Int), ()))) fun (y14 : (Int × Unit) × (TL1Cur × Unit)) =>
 loopC (fun (v15 : TL1Cur × (TState × (TAct × (TAct × (Int × Unit))))) =>
 cond (decide (v15.2.2.2.2.1 > (0 : Int)))
 (Option.bind (s_l6Draw (v15.1, (v15.2.1, ()))) fun (y16 : (TEvent × Unit) × (TL1Cur × Unit)) =>
 Option.bind (Option.bind (cond (y16.1.1.1 != (2 : Int))
 (Option.bind (s_l1Once (y16.2.1, ((2 : Int), ()))) fun (y17 : (Bool × Unit) × (TL1Cur × Unit)) =>
 some (y17.2.1, (v15.2.1, (v15.2.2.1, (v15.2.2.2.1, (v15.2.2.2.2.1, (y16.1.1, (y17.1.1, ()))))))))
 (some (y16.2.1, (v15.2.1, (v15.2.2.1, (v15.2.2.2.1, (v15.2.2.2.2.1, (y16.1.1, (false, ()))))))))) fun (v18 : TL1Cur × (TState × (TAct × (TAct × (Int × (TEvent × (Bool × Unit))))))) =>
 cond v18.2.2.2.2.2.2.1
 (some (v18.1, (v18.2.1, (v18.2.2.1, (v18.2.2.2.1, (v18.2.2.2.2.1, ((v18.2.2.2.2.2.1.1, (v18.2.2.2.2.2.1.2.1, (v18.2.2.2.2.2.1.2.2.1, (v18.2.2.2.2.2.1.2.2.2.1, ((-1 : Int), v18.2.2.2.2.2.1.2.2.2.2.2))))), ())))))))
 (some (v18.1, (v18.2.1, (v18.2.2.1, (v18.2.2.2.1, (v18.2.2.2.2.1, (v18.2.2.2.2.2.1, ())))))))) fun (v19 : TL1Cur × (TState × (TAct × (TAct × (Int × (TEvent × Unit)))))) =>
 cond (Nat.ble (v19.2.2.2.1.2.2.2.2.2.2.length + ([v19.2.2.2.2.2.1] : List TEvent).length) LIM)
 (some (.inl (v19.1, (v19.2.1, (v19.2.2.1, ((v19.2.2.2.1.1, (v19.2.2.2.1.2.1, (v19.2.2.2.1.2.2.1, (v19.2.2.2.1.2.2.2.1, (v19.2.2.2.1.2.2.2.2.1, (v19.2.2.2.1.2.2.2.2.2.1, (v19.2.2.2.1.2.2.2.2.2.2 ++ ([v19.2.2.2.2.2.1] : List TEvent)))))))), ((IntKind.i64.wrap (v19.2.2.2.2.1 - (1 : Int))), ())))))))
 (none))
 (some (.inr (v15.1, (v15.2.2.1, (v15.2.2.2.1, ())))))) (y14.2.1, (v6.2.1, (v6.2.2.1, (v6.2.2.2.1, ((IntKind.i64.wrap ((1 : Int) + y14.1.1)), ()))))))
 (some (v6.1, (v6.2.2.1, (v6.2.2.2.1, ()))))))))) fun (v20 : TL1Cur × (TAct × (TAct × Unit))) =>
 some ((v20.2.2.1, ()), (v20.1, ()))) fun b => some (.inr b))) (y0.2.1, (x.2.2.1, (x.2.1, (((0 : Int), ((0 : Int), ((0 : Int), ((0 : Int), ((0 : Int), (false, ([] : List TEvent))))))), ((y0.1.1, ((0 : Int), ((0 : Int), ((-1 : Int), ((0 : Int), (false, ([] : List TEvent))))))), ((0 : Int), ()))))))) := by kernel_rfl

/-- loop.example/g00486/spec.l10Draw -/
abbrev sg_s_l10Draw : Sig := ⟨[.ptr ShL1Cur, .val true ShState, .val false (.int .i64)], [.val true (.pair (.int .i64) (.pair (.int .i64) (.pair (.int .i64) (.pair (.int .i64) (.pair ShPat (.pair ShGuard (.pair (.pair (.int .i64) (.pair (.int .i64) (.pair (.int .i64) (.pair (.int .i64) (.pair (.int .i64) (.pair .bool (.own ShEvent))))))) ShGuard)))))))]⟩
def ct_s_l10Draw : Cert := (.seq .d (.seq .d (.bind [(0, .ptr ShL1Cur), (4, .ptr ShState), (6, .ptr (.pair (.int .i64) (.pair (.int .i64) (.pair (.int .i64) (.pair (.int .i64) (.pair ShPat (.pair ShGuard (.pair (.pair (.int .i64) (.pair (.int .i64) (.pair (.int .i64) (.pair (.int .i64) (.pair (.int .i64) (.pair .bool (.own ShEvent))))))) ShGuard)))))))), (7, .ptr (.pair (.int .i64) (.pair (.int .i64) (.pair (.int .i64) (.pair (.int .i64) (.pair ShPat (.pair ShGuard (.pair (.pair (.int .i64) (.pair (.int .i64) (.pair (.int .i64) (.pair (.int .i64) (.pair (.int .i64) (.pair .bool (.own ShEvent))))))) ShGuard))))))))] (.bind [(0, .ptr ShL1Cur), (4, .ptr ShState), (6, .ptr (.pair (.int .i64) (.pair (.int .i64) (.pair (.int .i64) (.pair (.int .i64) (.pair ShPat (.pair ShGuard (.pair (.pair (.int .i64) (.pair (.int .i64) (.pair (.int .i64) (.pair (.int .i64) (.pair (.int .i64) (.pair .bool (.own ShEvent))))))) ShGuard)))))))), (7, .ptr (.pair (.int .i64) (.pair (.int .i64) (.pair (.int .i64) (.pair (.int .i64) (.pair ShPat (.pair ShGuard (.pair (.pair (.int .i64) (.pair (.int .i64) (.pair (.int .i64) (.pair (.int .i64) (.pair (.int .i64) (.pair .bool (.own ShEvent))))))) ShGuard)))))))), (21, .val false .bool)] .d .d) (.seq .d (.seq .d (.seq .d (.bind [(0, .ptr ShL1Cur), (6, .ptr (.pair (.int .i64) (.pair (.int .i64) (.pair (.int .i64) (.pair (.int .i64) (.pair ShPat (.pair ShGuard (.pair (.pair (.int .i64) (.pair (.int .i64) (.pair (.int .i64) (.pair (.int .i64) (.pair (.int .i64) (.pair .bool (.own ShEvent))))))) ShGuard)))))))), (7, .ptr (.pair (.int .i64) (.pair (.int .i64) (.pair (.int .i64) (.pair (.int .i64) (.pair ShPat (.pair ShGuard (.pair (.pair (.int .i64) (.pair (.int .i64) (.pair (.int .i64) (.pair (.int .i64) (.pair (.int .i64) (.pair .bool (.own ShEvent))))))) ShGuard))))))))] .d (.bind [(0, .ptr ShL1Cur), (6, .ptr (.pair (.int .i64) (.pair (.int .i64) (.pair (.int .i64) (.pair (.int .i64) (.pair ShPat (.pair ShGuard (.pair (.pair (.int .i64) (.pair (.int .i64) (.pair (.int .i64) (.pair (.int .i64) (.pair (.int .i64) (.pair .bool (.own ShEvent))))))) ShGuard)))))))), (7, .ptr (.pair (.int .i64) (.pair (.int .i64) (.pair (.int .i64) (.pair (.int .i64) (.pair ShPat (.pair ShGuard (.pair (.pair (.int .i64) (.pair (.int .i64) (.pair (.int .i64) (.pair (.int .i64) (.pair (.int .i64) (.pair .bool (.own ShEvent))))))) ShGuard))))))))] .d .d))))))))
noncomputable def F_s_l10Draw (x : ElL sg_s_l10Draw.args) : Option (ElL sg_s_l10Draw.res × ElL (posts sg_s_l10Draw.args)) := evFun (P := Try.prog) T [E_s_l1Below, E_s_l1Int, E_s_l1Once, E_s_l6Id, E_s_l7Draw, E_s_l8Draw, E_s_l9Draw] sg_s_l10Draw 64 Try.f61.results.toList (bodyOf Try.f61) ct_s_l10Draw x
noncomputable def E_s_l10Draw : Ent Try.prog := ⟨61, sg_s_l10Draw, F_s_l10Draw, Try.call61, fun _ _ h => con_ok T_ok rfl rfl Try.func61 rfl h⟩
noncomputable def s_l10Draw (x : TL1Cur × (TState × (Int × Unit))) : Option ((TEffect × Unit) × (TL1Cur × Unit)) := F_s_l10Draw x
theorem s_l10Draw_eq (x : TL1Cur × (TState × (Int × Unit))) : s_l10Draw x = (
 Option.bind (s_l1Below (x.1, ((2 : Int), ()))) fun (y0 : (Int × Unit) × (TL1Cur × Unit)) =>
 Option.bind (s_l1Int (y0.2.1, (([(4 : Int), (4 : Int), (4 : Int), (1 : Int), (2 : Int), (3 : Int), (0 : Int)] : List Int), ()))) fun (y1 : (Int × Unit) × (TL1Cur × Unit)) =>
 Option.bind (Option.bind (cond (y1.1.1 == (0 : Int))
 (some (y1.2.1, (x.2.1, (((0 : Int), ((0 : Int), ((0 : Int), ((0 : Int), (((0 : Int), ((0 : Int), ((0 : Int), ((0 : Int), ((0 : Int), ((0 : Int), (0 : Int))))))), (((0 : Int), (0 : Int)), (((0 : Int), ((0 : Int), ((0 : Int), ((0 : Int), ((0 : Int), (false, ([] : List TEvent))))))), ((0 : Int), (0 : Int))))))))), ((x.2.2.1, (y0.1.1, ((0 : Int), (y1.1.1, (((0 : Int), ((0 : Int), ((0 : Int), ((0 : Int), ((0 : Int), ((0 : Int), (0 : Int))))))), (((0 : Int), (0 : Int)), (((0 : Int), ((0 : Int), ((0 : Int), ((0 : Int), ((0 : Int), (false, ([] : List TEvent))))))), ((-1 : Int), (-1 : Int))))))))), (true, ()))))))
 (Option.bind (s_l1Once (y1.2.1, ((3 : Int), ()))) fun (y2 : (Bool × Unit) × (TL1Cur × Unit)) =>
 some (y2.2.1, (x.2.1, (((0 : Int), ((0 : Int), ((0 : Int), ((0 : Int), (((0 : Int), ((0 : Int), ((0 : Int), ((0 : Int), ((0 : Int), ((0 : Int), (0 : Int))))))), (((0 : Int), (0 : Int)), (((0 : Int), ((0 : Int), ((0 : Int), ((0 : Int), ((0 : Int), (false, ([] : List TEvent))))))), ((0 : Int), (0 : Int))))))))), ((x.2.2.1, (y0.1.1, ((0 : Int), (y1.1.1, (((0 : Int), ((0 : Int), ((0 : Int), ((0 : Int), ((0 : Int), ((0 : Int), (0 : Int))))))), (((0 : Int), (0 : Int)), (((0 : Int), ((0 : Int), ((0 : Int), ((0 : Int), ((0 : Int), (false, ([] : List TEvent))))))), ((-1 : Int), (-1 : Int))))))))), (y2.1.1, ()))))))) fun (v3 : TL1Cur × (TState × (TEffect × (TEffect × (Bool × Unit))))) =>
 cond v3.2.2.2.2.1
 (Option.bind (s_l6Id (v3.1, (v3.2.1, ()))) fun (y4 : (Int × Unit) × (TL1Cur × Unit)) =>
 some (y4.2.1, (v3.2.1, (v3.2.2.1, ((v3.2.2.2.1.1, (v3.2.2.2.1.2.1, (y4.1.1, v3.2.2.2.1.2.2.2))), ())))))
 (some (v3.1, (v3.2.1, (v3.2.2.1, (v3.2.2.2.1, ())))))) fun (v5 : TL1Cur × (TState × (TEffect × (TEffect × Unit)))) =>
 Option.bind (s_l7Draw (v5.1, (v5.2.1, ()))) fun (y6 : (TPat × Unit) × (TL1Cur × Unit)) =>
 Option.bind (s_l8Draw (y6.2.1, ())) fun (y7 : (TGuard × Unit) × (TL1Cur × Unit)) =>
 Option.bind (s_l9Draw (y7.2.1, (v5.2.1, (y6.1.1.1, ())))) fun (y8 : (TAct × Unit) × (TL1Cur × Unit)) =>
 Option.bind (Option.bind (s_l1Once (y8.2.1, ((4 : Int), ()))) fun (y9 : (Bool × Unit) × (TL1Cur × Unit)) =>
 cond y9.1.1
 (Option.bind (s_l1Below (y9.2.1, ((3 : Int), ()))) fun (y10 : (Int × Unit) × (TL1Cur × Unit)) =>
 some (y10.2.1, (v5.2.2.1, ((v5.2.2.2.1.1, (v5.2.2.2.1.2.1, (v5.2.2.2.1.2.2.1, (v5.2.2.2.1.2.2.2.1, (y6.1.1, (y7.1.1, (y8.1.1, ((IntKind.i64.wrap ((IntKind.i64.wrap (v5.2.1.2.2.2 + y10.1.1)) - (1 : Int))), v5.2.2.2.1.2.2.2.2.2.2.2.2)))))))), ()))))
 (some (y9.2.1, (v5.2.2.1, ((v5.2.2.2.1.1, (v5.2.2.2.1.2.1, (v5.2.2.2.1.2.2.1, (v5.2.2.2.1.2.2.2.1, (y6.1.1, (y7.1.1, (y8.1.1, v5.2.2.2.1.2.2.2.2.2.2.2))))))), ()))))) fun (v11 : TL1Cur × (TEffect × (TEffect × Unit))) =>
 Option.bind (cond (v11.2.2.1.2.2.2.2.2.2.1.1 == (2 : Int))
 (Option.bind (s_l1Int (v11.1, (([(1 : Int), (2 : Int), (3 : Int), (5 : Int)] : List Int), ()))) fun (y12 : (Int × Unit) × (TL1Cur × Unit)) =>
 some (y12.2.1, (v11.2.1, ((v11.2.2.1.1, (v11.2.2.1.2.1, (v11.2.2.1.2.2.1, (v11.2.2.1.2.2.2.1, (v11.2.2.1.2.2.2.2.1, (v11.2.2.1.2.2.2.2.2.1, (v11.2.2.1.2.2.2.2.2.2.1, (v11.2.2.1.2.2.2.2.2.2.2.1, y12.1.1)))))))), ()))))
 (Option.bind (s_l1Once (v11.1, ((3 : Int), ()))) fun (y13 : (Bool × Unit) × (TL1Cur × Unit)) =>
 cond y13.1.1
 (Option.bind (s_l1Below (y13.2.1, ((3 : Int), ()))) fun (y14 : (Int × Unit) × (TL1Cur × Unit)) =>
 some (y14.2.1, (v11.2.1, ((v11.2.2.1.1, (v11.2.2.1.2.1, (v11.2.2.1.2.2.1, (v11.2.2.1.2.2.2.1, (v11.2.2.1.2.2.2.2.1, (v11.2.2.1.2.2.2.2.2.1, (v11.2.2.1.2.2.2.2.2.2.1, (v11.2.2.1.2.2.2.2.2.2.2.1, (IntKind.i64.wrap ((1 : Int) + y14.1.1)))))))))), ()))))
 (some (y13.2.1, (v11.2.1, (v11.2.2.1, ())))))) fun (v15 : TL1Cur × (TEffect × (TEffect × Unit))) =>
 some ((v15.2.2.1, ()), (v15.1, ()))) := by kernel_rfl

/-- loop.example/g00486/spec.l11Draw -/
abbrev sg_s_l11Draw : Sig := ⟨[.ptr ShL1Cur, .val true ShState], [.val false (.own ShEffect)]⟩
def ct_s_l11Draw : Cert := (.seq .d (.seq .d (.seq .d (.seq (.seq .d (.block (.loop [(0, .ptr ShL1Cur), (3, .ptr ShState), (5, .val false (.own ShEffect)), (6, .val false (.int .i64)), (7, .val false (.int .i64))] .d))) .d))))
noncomputable def F_s_l11Draw (x : ElL sg_s_l11Draw.args) : Option (ElL sg_s_l11Draw.res × ElL (posts sg_s_l11Draw.args)) := evFun (P := Try.prog) T [E_s_l1Below, E_s_l10Draw] sg_s_l11Draw 28 Try.f59.results.toList (bodyOf Try.f59) ct_s_l11Draw x
noncomputable def E_s_l11Draw : Ent Try.prog := ⟨59, sg_s_l11Draw, F_s_l11Draw, Try.call59, fun _ _ h => con_ok T_ok rfl rfl Try.func59 rfl h⟩
noncomputable def s_l11Draw (x : TL1Cur × (TState × Unit)) : Option (((List TEffect) × Unit) × (TL1Cur × Unit)) := F_s_l11Draw x
theorem s_l11Draw_eq (x : TL1Cur × (TState × Unit)) : s_l11Draw x = (
 Option.bind (s_l1Below (x.1, ((5 : Int), ()))) fun (y0 : (Int × Unit) × (TL1Cur × Unit)) =>
 loopC (fun (v1 : TL1Cur × (TState × ((List TEffect) × (Int × (Int × Unit))))) =>
 cond (decide (v1.2.2.2.2.1 > (0 : Int)))
 (Option.bind (s_l1Below (v1.1, ((2 : Int), ()))) fun (y2 : (Int × Unit) × (TL1Cur × Unit)) =>
 Option.bind (s_l10Draw (y2.2.1, (v1.2.1, ((IntKind.i64.wrap ((IntKind.i64.wrap (v1.2.2.2.1 + (1 : Int))) + y2.1.1)), ())))) fun (y3 : (TEffect × Unit) × (TL1Cur × Unit)) =>
 cond (Nat.ble (v1.2.2.1.length + ([y3.1.1] : List TEffect).length) LIM)
 (some (.inl (y3.2.1, (v1.2.1, ((v1.2.2.1 ++ ([y3.1.1] : List TEffect)), ((IntKind.i64.wrap ((IntKind.i64.wrap (v1.2.2.2.1 + (1 : Int))) + y2.1.1)), ((IntKind.i64.wrap (v1.2.2.2.2.1 - (1 : Int))), ())))))))
 (none))
 (some (.inr ((v1.2.2.1, ()), (v1.1, ()))))) (y0.2.1, (x.2.1, (([] : List TEffect), ((0 : Int), (y0.1.1, ())))))) := by kernel_rfl

/-- loop.example/g00486/spec.l1Odd -/
abbrev sg_s_l1Odd : Sig := ⟨[.ptr ShL1Cur], [.val false (.int .i64)]⟩
def ct_s_l1Odd : Cert := .d
noncomputable def F_s_l1Odd (x : ElL sg_s_l1Odd.args) : Option (ElL sg_s_l1Odd.res × ElL (posts sg_s_l1Odd.args)) := evFun (P := Try.prog) T [E_s_l1Int] sg_s_l1Odd 6 Try.f104.results.toList (bodyOf Try.f104) ct_s_l1Odd x
noncomputable def E_s_l1Odd : Ent Try.prog := ⟨104, sg_s_l1Odd, F_s_l1Odd, Try.call104, fun _ _ h => con_ok T_ok rfl rfl Try.func104 rfl h⟩
noncomputable def s_l1Odd (x : TL1Cur × Unit) : Option ((Int × Unit) × (TL1Cur × Unit)) := F_s_l1Odd x
theorem s_l1Odd_eq (x : TL1Cur × Unit) : s_l1Odd x = (
 Option.bind (s_l1Int (x.1, (([(-1 : Int), (0 : Int), (1 : Int), (2 : Int), (255 : Int), (256 : Int), (65535 : Int), (2147483647 : Int), (2147483648 : Int), (4294967295 : Int), (4294967296 : Int), (-2147483648 : Int), (9223372036854775807 : Int), (-9223372036854775808 : Int)] : List Int), ()))) fun (y0 : (Int × Unit) × (TL1Cur × Unit)) =>
 some ((y0.1.1, ()), (y0.2.1, ()))) := by kernel_rfl

/-- loop.example/g00486/spec.l1Raw -/
abbrev sg_s_l1Raw : Sig := ⟨[.ptr ShL1Cur], [.val false (.int .i64)]⟩
def ct_s_l1Raw : Cert := .d
noncomputable def F_s_l1Raw (x : ElL sg_s_l1Raw.args) : Option (ElL sg_s_l1Raw.res × ElL (posts sg_s_l1Raw.args)) := evFun (P := Try.prog) T [E_s_l1Int, E_s_l1Once, E_s_l1Odd] sg_s_l1Raw 10 Try.f89.results.toList (bodyOf Try.f89) ct_s_l1Raw x
noncomputable def E_s_l1Raw : Ent Try.prog := ⟨89, sg_s_l1Raw, F_s_l1Raw, Try.call89, fun _ _ h => con_ok T_ok rfl rfl Try.func89 rfl h⟩
noncomputable def s_l1Raw (x : TL1Cur × Unit) : Option ((Int × Unit) × (TL1Cur × Unit)) := F_s_l1Raw x
theorem s_l1Raw_eq (x : TL1Cur × Unit) : s_l1Raw x = (
 Option.bind (s_l1Once (x.1, ((2 : Int), ()))) fun (y0 : (Bool × Unit) × (TL1Cur × Unit)) =>
 cond y0.1.1
 (Option.bind (s_l1Odd (y0.2.1, ())) fun (y1 : (Int × Unit) × (TL1Cur × Unit)) =>
 some ((y1.1.1, ()), (y1.2.1, ())))
 (Option.bind (s_l1Int (y0.2.1, (([(-2147483648 : Int), (-2147483647 : Int), (-3 : Int), (-1 : Int), (0 : Int), (1 : Int), (3 : Int), (7 : Int), (2147483647 : Int), (2147483648 : Int)] : List Int), ()))) fun (y2 : (Int × Unit) × (TL1Cur × Unit)) =>
 some ((y2.1.1, ()), (y2.2.1, ())))) := by kernel_rfl

/-- loop.example/g00486/spec.l7Any -/
abbrev sg_s_l7Any : Sig := ⟨[.ptr ShL1Cur, .val true ShState], [.val true ShPat]⟩
def ct_s_l7Any : Cert := (.seq .d (.seq .d (.bind [(0, .ptr ShL1Cur), (4, .ptr ShPat), (5, .ptr ShPat)] .d .d)))
noncomputable def F_s_l7Any (x : ElL sg_s_l7Any.args) : Option (ElL sg_s_l7Any.res × ElL (posts sg_s_l7Any.args)) := evFun (P := Try.prog) T [E_s_l1Below, E_s_l1Int, E_s_l7Draw, E_s_l1Raw] sg_s_l7Any 53 Try.f77.results.toList (bodyOf Try.f77) ct_s_l7Any x
noncomputable def E_s_l7Any : Ent Try.prog := ⟨77, sg_s_l7Any, F_s_l7Any, Try.call77, fun _ _ h => con_ok T_ok rfl rfl Try.func77 rfl h⟩
noncomputable def s_l7Any (x : TL1Cur × (TState × Unit)) : Option ((TPat × Unit) × (TL1Cur × Unit)) := F_s_l7Any x
theorem s_l7Any_eq (x : TL1Cur × (TState × Unit)) : s_l7Any x = (
 Option.bind (s_l7Draw (x.1, (x.2.1, ()))) fun (y0 : (TPat × Unit) × (TL1Cur × Unit)) =>
 Option.bind (Option.bind (s_l1Below (y0.2.1, ((16 : Int), ()))) fun (y1 : (Int × Unit) × (TL1Cur × Unit)) =>
 cond (y1.1.1 == (0 : Int))
 (Option.bind (s_l1Int (y1.2.1, (([(0 : Int), (1 : Int), (2 : Int), (3 : Int), (7 : Int)] : List Int), ()))) fun (y2 : (Int × Unit) × (TL1Cur × Unit)) =>
 some (y2.2.1, (((0 : Int), ((0 : Int), ((0 : Int), ((0 : Int), ((0 : Int), ((0 : Int), (0 : Int))))))), ((y2.1.1, y0.1.1.2), ()))))
 (cond (y1.1.1 == (1 : Int))
 (Option.bind (s_l1Int (y1.2.1, (([(-1 : Int), (3 : Int)] : List Int), ()))) fun (y3 : (Int × Unit) × (TL1Cur × Unit)) =>
 some (y3.2.1, (((0 : Int), ((0 : Int), ((0 : Int), ((0 : Int), ((0 : Int), ((0 : Int), (0 : Int))))))), ((y0.1.1.1, (y3.1.1, y0.1.1.2.2)), ()))))
 (cond (y1.1.1 == (2 : Int))
 (Option.bind (s_l1Int (y1.2.1, (([(-1 : Int), (1 : Int), (99 : Int), (100 : Int)] : List Int), ()))) fun (y4 : (Int × Unit) × (TL1Cur × Unit)) =>
 some (y4.2.1, (((0 : Int), ((0 : Int), ((0 : Int), ((0 : Int), ((0 : Int), ((0 : Int), (0 : Int))))))), ((y0.1.1.1, (y0.1.1.2.1, (y4.1.1, y0.1.1.2.2.2))), ()))))
 (cond (y1.1.1 == (3 : Int))
 (Option.bind (s_l1Int (y1.2.1, (([(-1 : Int), (1 : Int), (63 : Int), (64 : Int)] : List Int), ()))) fun (y5 : (Int × Unit) × (TL1Cur × Unit)) =>
 some (y5.2.1, (((0 : Int), ((0 : Int), ((0 : Int), ((0 : Int), ((0 : Int), ((0 : Int), (0 : Int))))))), ((y0.1.1.1, (y0.1.1.2.1, (y0.1.1.2.2.1, (y5.1.1, y0.1.1.2.2.2.2)))), ()))))
 (cond (y1.1.1 == (4 : Int))
 (Option.bind (s_l1Int (y1.2.1, (([(-1 : Int), (1 : Int), (100 : Int)] : List Int), ()))) fun (y6 : (Int × Unit) × (TL1Cur × Unit)) =>
 some (y6.2.1, (((0 : Int), ((0 : Int), ((0 : Int), ((0 : Int), ((0 : Int), ((0 : Int), (0 : Int))))))), ((y0.1.1.1, (y0.1.1.2.1, (y0.1.1.2.2.1, (y0.1.1.2.2.2.1, (y6.1.1, y0.1.1.2.2.2.2.2))))), ()))))
 (cond (y1.1.1 == (5 : Int))
 (Option.bind (s_l1Raw (y1.2.1, ())) fun (y7 : (Int × Unit) × (TL1Cur × Unit)) =>
 some (y7.2.1, (((0 : Int), ((0 : Int), ((0 : Int), ((0 : Int), ((0 : Int), ((0 : Int), (0 : Int))))))), ((y0.1.1.1, (y0.1.1.2.1, (y0.1.1.2.2.1, (y0.1.1.2.2.2.1, (y0.1.1.2.2.2.2.1, (y7.1.1, y0.1.1.2.2.2.2.2.2)))))), ()))))
 (cond (y1.1.1 == (6 : Int))
 (Option.bind (s_l1Int (y1.2.1, (([(-1 : Int), (2 : Int), (5 : Int)] : List Int), ()))) fun (y8 : (Int × Unit) × (TL1Cur × Unit)) =>
 some (y8.2.1, (((0 : Int), ((0 : Int), ((0 : Int), ((0 : Int), ((0 : Int), ((0 : Int), (0 : Int))))))), ((y0.1.1.1, (y0.1.1.2.1, (y0.1.1.2.2.1, (y0.1.1.2.2.2.1, (y0.1.1.2.2.2.2.1, (y0.1.1.2.2.2.2.2.1, y8.1.1)))))), ()))))
 (some (y1.2.1, (((0 : Int), ((0 : Int), ((0 : Int), ((0 : Int), ((0 : Int), ((0 : Int), (0 : Int))))))), (y0.1.1, ()))))))))))) fun (v9 : TL1Cur × (TPat × (TPat × Unit))) =>
 some ((v9.2.2.1, ()), (v9.1, ()))) := by kernel_rfl

/-- loop.example/g00486/spec.l8Any -/
abbrev sg_s_l8Any : Sig := ⟨[.ptr ShL1Cur], [.val true ShGuard]⟩
def ct_s_l8Any : Cert := (.seq .d (.seq .d (.bind [(0, .ptr ShL1Cur), (2, .ptr ShGuard), (3, .ptr ShGuard)] .d .d)))
noncomputable def F_s_l8Any (x : ElL sg_s_l8Any.args) : Option (ElL sg_s_l8Any.res × ElL (posts sg_s_l8Any.args)) := evFun (P := Try.prog) T [E_s_l1Below, E_s_l1Int, E_s_l8Draw, E_s_l1Raw] sg_s_l8Any 26 Try.f78.results.toList (bodyOf Try.f78) ct_s_l8Any x
noncomputable def E_s_l8Any : Ent Try.prog := ⟨78, sg_s_l8Any, F_s_l8Any, Try.call78, fun _ _ h => con_ok T_ok rfl rfl Try.func78 rfl h⟩
noncomputable def s_l8Any (x : TL1Cur × Unit) : Option ((TGuard × Unit) × (TL1Cur × Unit)) := F_s_l8Any x
theorem s_l8Any_eq (x : TL1Cur × Unit) : s_l8Any x = (
 Option.bind (s_l8Draw (x.1, ())) fun (y0 : (TGuard × Unit) × (TL1Cur × Unit)) =>
 Option.bind (Option.bind (s_l1Below (y0.2.1, ((8 : Int), ()))) fun (y1 : (Int × Unit) × (TL1Cur × Unit)) =>
 cond (y1.1.1 == (0 : Int))
 (Option.bind (s_l1Int (y1.2.1, (([(-1 : Int), (1 : Int), (2 : Int), (3 : Int), (4 : Int), (5 : Int)] : List Int), ()))) fun (y2 : (Int × Unit) × (TL1Cur × Unit)) =>
 some (y2.2.1, (((0 : Int), (0 : Int)), ((y2.1.1, y0.1.1.2), ()))))
 (cond (y1.1.1 == (1 : Int))
 (Option.bind (s_l1Raw (y1.2.1, ())) fun (y3 : (Int × Unit) × (TL1Cur × Unit)) =>
 some (y3.2.1, (((0 : Int), (0 : Int)), ((y0.1.1.1, y3.1.1), ()))))
 (cond (y1.1.1 == (2 : Int))
 (Option.bind (s_l1Int (y1.2.1, (([(1 : Int), (8 : Int), (9 : Int), (-1 : Int)] : List Int), ()))) fun (y4 : (Int × Unit) × (TL1Cur × Unit)) =>
 some (y4.2.1, (((0 : Int), (0 : Int)), ((y0.1.1.1, y4.1.1), ()))))
 (some (y1.2.1, (((0 : Int), (0 : Int)), (y0.1.1, ()))))))) fun (v5 : TL1Cur × (TGuard × (TGuard × Unit))) =>
 some ((v5.2.2.1, ()), (v5.1, ()))) := by kernel_rfl

/-- loop.example/g00486/spec.l6Any -/
abbrev sg_s_l6Any : Sig := ⟨[.ptr ShL1Cur, .val true ShState], [.val true ShEvent]⟩
def ct_s_l6Any : Cert := (.seq .d (.seq .d (.bind [(0, .ptr ShL1Cur), (4, .ptr ShEvent), (5, .ptr ShEvent)] .d .d)))
noncomputable def F_s_l6Any (x : ElL sg_s_l6Any.args) : Option (ElL sg_s_l6Any.res × ElL (posts sg_s_l6Any.args)) := evFun (P := Try.prog) T [E_s_l1Below, E_s_l1Int, E_s_l6Draw, E_s_l1Raw] sg_s_l6Any 53 Try.f90.results.toList (bodyOf Try.f90) ct_s_l6Any x
noncomputable def E_s_l6Any : Ent Try.prog := ⟨90, sg_s_l6Any, F_s_l6Any, Try.call90, fun _ _ h => con_ok T_ok rfl rfl Try.func90 rfl h⟩
noncomputable def s_l6Any (x : TL1Cur × (TState × Unit)) : Option ((TEvent × Unit) × (TL1Cur × Unit)) := F_s_l6Any x
theorem s_l6Any_eq (x : TL1Cur × (TState × Unit)) : s_l6Any x = (
 Option.bind (s_l6Draw (x.1, (x.2.1, ()))) fun (y0 : (TEvent × Unit) × (TL1Cur × Unit)) =>
 Option.bind (Option.bind (s_l1Below (y0.2.1, ((16 : Int), ()))) fun (y1 : (Int × Unit) × (TL1Cur × Unit)) =>
 cond (y1.1.1 == (0 : Int))
 (Option.bind (s_l1Int (y1.2.1, (([(0 : Int), (1 : Int), (2 : Int), (3 : Int), (5 : Int), (7 : Int)] : List Int), ()))) fun (y2 : (Int × Unit) × (TL1Cur × Unit)) =>
 some (y2.2.1, (((0 : Int), ((0 : Int), ((0 : Int), ((0 : Int), ((0 : Int), ((0 : Int), false)))))), ((y2.1.1, y0.1.1.2), ()))))
 (cond (y1.1.1 == (1 : Int))
 (Option.bind (s_l1Int (y1.2.1, (([(0 : Int), (1 : Int), (99 : Int), (100 : Int)] : List Int), ()))) fun (y3 : (Int × Unit) × (TL1Cur × Unit)) =>
 some (y3.2.1, (((0 : Int), ((0 : Int), ((0 : Int), ((0 : Int), ((0 : Int), ((0 : Int), false)))))), ((y0.1.1.1, (y3.1.1, y0.1.1.2.2)), ()))))
 (cond (y1.1.1 == (2 : Int))
 (Option.bind (s_l1Int (y1.2.1, (([(0 : Int), (99 : Int), (100 : Int), (-1 : Int)] : List Int), ()))) fun (y4 : (Int × Unit) × (TL1Cur × Unit)) =>
 some (y4.2.1, (((0 : Int), ((0 : Int), ((0 : Int), ((0 : Int), ((0 : Int), ((0 : Int), false)))))), ((y0.1.1.1, (y0.1.1.2.1, (y4.1.1, y0.1.1.2.2.2))), ()))))
 (cond (y1.1.1 == (3 : Int))
 (Option.bind (s_l1Int (y1.2.1, (([(-2 : Int), (-1 : Int), (0 : Int), (2 : Int), (3 : Int)] : List Int), ()))) fun (y5 : (Int × Unit) × (TL1Cur × Unit)) =>
 some (y5.2.1, (((0 : Int), ((0 : Int), ((0 : Int), ((0 : Int), ((0 : Int), ((0 : Int), false)))))), ((y0.1.1.1, (y0.1.1.2.1, (y0.1.1.2.2.1, (y5.1.1, y0.1.1.2.2.2.2)))), ()))))
 (cond (y1.1.1 == (4 : Int))
 (Option.bind (s_l1Raw (y1.2.1, ())) fun (y6 : (Int × Unit) × (TL1Cur × Unit)) =>
 some (y6.2.1, (((0 : Int), ((0 : Int), ((0 : Int), ((0 : Int), ((0 : Int), ((0 : Int), false)))))), ((y0.1.1.1, (y0.1.1.2.1, (y0.1.1.2.2.1, (y0.1.1.2.2.2.1, (y6.1.1, y0.1.1.2.2.2.2.2))))), ()))))
 (cond (y1.1.1 == (5 : Int))
 (Option.bind (s_l1Int (y1.2.1, (([(0 : Int), (2 : Int), (4 : Int), (5 : Int)] : List Int), ()))) fun (y7 : (Int × Unit) × (TL1Cur × Unit)) =>
 some (y7.2.1, (((0 : Int), ((0 : Int), ((0 : Int), ((0 : Int), ((0 : Int), ((0 : Int), false)))))), ((y0.1.1.1, (y0.1.1.2.1, (y0.1.1.2.2.1, (y0.1.1.2.2.2.1, (y0.1.1.2.2.2.2.1, (y7.1.1, y0.1.1.2.2.2.2.2.2)))))), ()))))
 (cond (y1.1.1 == (6 : Int))
 (some (y1.2.1, (((0 : Int), ((0 : Int), ((0 : Int), ((0 : Int), ((0 : Int), ((0 : Int), false)))))), ((y0.1.1.1, (y0.1.1.2.1, (y0.1.1.2.2.1, (y0.1.1.2.2.2.1, (y0.1.1.2.2.2.2.1, (y0.1.1.2.2.2.2.2.1, (!y0.1.1.2.2.2.2.2.2))))))), ()))))
 (some (y1.2.1, (((0 : Int), ((0 : Int), ((0 : Int), ((0 : Int), ((0 : Int), ((0 : Int), false)))))), (y0.1.1, ()))))))))))) fun (v8 : TL1Cur × (TEvent × (TEvent × Unit))) =>
 some ((v8.2.2.1, ()), (v8.1, ()))) := by kernel_rfl

/-- loop.example/g00486/spec.l9Any -/
abbrev sg_s_l9Any : Sig := ⟨[.ptr ShL1Cur, .val true ShState], [.val true (.pair (.int .i64) (.pair (.int .i64) (.pair (.int .i64) (.pair (.int .i64) (.pair (.int .i64) (.pair .bool (.own ShEvent)))))))]⟩
def ct_s_l9Any : Cert := (.seq .d (.seq .d (.bind [(0, .ptr ShL1Cur), (4, .ptr (.pair (.int .i64) (.pair (.int .i64) (.pair (.int .i64) (.pair (.int .i64) (.pair (.int .i64) (.pair .bool (.own ShEvent)))))))), (5, .ptr (.pair (.int .i64) (.pair (.int .i64) (.pair (.int .i64) (.pair (.int .i64) (.pair (.int .i64) (.pair .bool (.own ShEvent))))))))] .d .d)))
noncomputable def F_s_l9Any (x : ElL sg_s_l9Any.args) : Option (ElL sg_s_l9Any.res × ElL (posts sg_s_l9Any.args)) := evFun (P := Try.prog) T [E_s_l1Below, E_s_l1Int, E_s_l6Draw, E_s_l9Draw, E_s_l1Raw, E_s_l6Any] sg_s_l9Any 76 Try.f79.results.toList (bodyOf Try.f79) ct_s_l9Any x
noncomputable def E_s_l9Any : Ent Try.prog := ⟨79, sg_s_l9Any, F_s_l9Any, Try.call79, fun _ _ h => con_ok T_ok rfl rfl Try.func79 rfl h⟩
noncomputable def s_l9Any (x : TL1Cur × (TState × Unit)) : Option ((TAct × Unit) × (TL1Cur × Unit)) := F_s_l9Any x
theorem s_l9Any_eq (x : TL1Cur × (TState × Unit)) : s_l9Any x = (
 Option.bind (s_l1Below (x.1, ((6 : Int), ()))) fun (y0 : (Int × Unit) × (TL1Cur × Unit)) =>
 Option.bind (s_l9Draw (y0.2.1, (x.2.1, ((IntKind.i64.wrap ((1 : Int) + y0.1.1)), ())))) fun (y1 : (TAct × Unit) × (TL1Cur × Unit)) =>
 Option.bind (Option.bind (s_l1Below (y1.2.1, ((18 : Int), ()))) fun (y2 : (Int × Unit) × (TL1Cur × Unit)) =>
 cond (y2.1.1 == (0 : Int))
 (Option.bind (s_l1Int (y2.2.1, (([(0 : Int), (1 : Int), (3 : Int), (6 : Int), (7 : Int), (8 : Int), (9 : Int), (10 : Int)] : List Int), ()))) fun (y3 : (Int × Unit) × (TL1Cur × Unit)) =>
 some (y3.2.1, (((0 : Int), ((0 : Int), ((0 : Int), ((0 : Int), ((0 : Int), (false, ([] : List TEvent))))))), ((y3.1.1, y1.1.1.2), ()))))
 (cond (y2.1.1 == (1 : Int))
 (Option.bind (s_l1Raw (y2.2.1, ())) fun (y4 : (Int × Unit) × (TL1Cur × Unit)) =>
 some (y4.2.1, (((0 : Int), ((0 : Int), ((0 : Int), ((0 : Int), ((0 : Int), (false, ([] : List TEvent))))))), ((y1.1.1.1, (y4.1.1, y1.1.1.2.2)), ()))))
 (cond (y2.1.1 == (2 : Int))
 (Option.bind (s_l1Int (y2.2.1, (([(0 : Int), (1 : Int), (99 : Int), (100 : Int)] : List Int), ()))) fun (y5 : (Int × Unit) × (TL1Cur × Unit)) =>
 some (y5.2.1, (((0 : Int), ((0 : Int), ((0 : Int), ((0 : Int), ((0 : Int), (false, ([] : List TEvent))))))), ((y1.1.1.1, (y1.1.1.2.1, (y5.1.1, y1.1.1.2.2.2))), ()))))
 (cond (y2.1.1 == (3 : Int))
 (Option.bind (s_l1Int (y2.2.1, (([(-2 : Int), (0 : Int), (2 : Int), (3 : Int)] : List Int), ()))) fun (y6 : (Int × Unit) × (TL1Cur × Unit)) =>
 some (y6.2.1, (((0 : Int), ((0 : Int), ((0 : Int), ((0 : Int), ((0 : Int), (false, ([] : List TEvent))))))), ((y1.1.1.1, (y1.1.1.2.1, (y1.1.1.2.2.1, (y6.1.1, y1.1.1.2.2.2.2)))), ()))))
 (cond (y2.1.1 == (4 : Int))
 (Option.bind (s_l1Int (y2.2.1, (([(0 : Int), (4 : Int), (5 : Int)] : List Int), ()))) fun (y7 : (Int × Unit) × (TL1Cur × Unit)) =>
 some (y7.2.1, (((0 : Int), ((0 : Int), ((0 : Int), ((0 : Int), ((0 : Int), (false, ([] : List TEvent))))))), ((y1.1.1.1, (y1.1.1.2.1, (y1.1.1.2.2.1, (y1.1.1.2.2.2.1, (y7.1.1, y1.1.1.2.2.2.2.2))))), ()))))
 (cond (y2.1.1 == (5 : Int))
 (some (y2.2.1, (((0 : Int), ((0 : Int), ((0 : Int), ((0 : Int), ((0 : Int), (false, ([] : List TEvent))))))), ((y1.1.1.1, (y1.1.1.2.1, (y1.1.1.2.2.1, (y1.1.1.2.2.2.1, (y1.1.1.2.2.2.2.1, ((!y1.1.1.2.2.2.2.2.1), y1.1.1.2.2.2.2.2.2)))))), ()))))
 (cond (y2.1.1 == (6 : Int))
 (Option.bind (s_l6Any (y2.2.1, (x.2.1, ()))) fun (y8 : (TEvent × Unit) × (TL1Cur × Unit)) =>
 cond (Nat.ble (y1.1.1.2.2.2.2.2.2.length + ([y8.1.1] : List TEvent).length) LIM)
 (some (y8.2.1, (((0 : Int), ((0 : Int), ((0 : Int), ((0 : Int), ((0 : Int), (false, ([] : List TEvent))))))), ((y1.1.1.1, (y1.1.1.2.1, (y1.1.1.2.2.1, (y1.1.1.2.2.2.1, (y1.1.1.2.2.2.2.1, (y1.1.1.2.2.2.2.2.1, (y1.1.1.2.2.2.2.2.2 ++ ([y8.1.1] : List TEvent)))))))), ()))))
 (none))
 (cond (y2.1.1 == (7 : Int))
 (Option.bind (s_l6Draw (y2.2.1, (x.2.1, ()))) fun (y9 : (TEvent × Unit) × (TL1Cur × Unit)) =>
 Option.bind (s_l6Draw (y9.2.1, (x.2.1, ()))) fun (y10 : (TEvent × Unit) × (TL1Cur × Unit)) =>
 Option.bind (s_l6Draw (y10.2.1, (x.2.1, ()))) fun (y11 : (TEvent × Unit) × (TL1Cur × Unit)) =>
 cond (Nat.ble (y1.1.1.2.2.2.2.2.2.length + ([y9.1.1, y10.1.1, y11.1.1] : List TEvent).length) LIM)
 (some (y11.2.1, (((0 : Int), ((0 : Int), ((0 : Int), ((0 : Int), ((0 : Int), (false, ([] : List TEvent))))))), ((y1.1.1.1, (y1.1.1.2.1, (y1.1.1.2.2.1, (y1.1.1.2.2.2.1, (y1.1.1.2.2.2.2.1, (y1.1.1.2.2.2.2.2.1, (y1.1.1.2.2.2.2.2.2 ++ ([y9.1.1, y10.1.1, y11.1.1] : List TEvent)))))))), ()))))
 (none))
 (some (y2.2.1, (((0 : Int), ((0 : Int), ((0 : Int), ((0 : Int), ((0 : Int), (false, ([] : List TEvent))))))), (y1.1.1, ())))))))))))) fun (v12 : TL1Cur × (TAct × (TAct × Unit))) =>
 some ((v12.2.2.1, ()), (v12.1, ()))) := by kernel_rfl

/-- loop.example/g00486/spec.l10Any -/
abbrev sg_s_l10Any : Sig := ⟨[.ptr ShL1Cur, .val true ShState], [.val true (.pair (.int .i64) (.pair (.int .i64) (.pair (.int .i64) (.pair (.int .i64) (.pair ShPat (.pair ShGuard (.pair (.pair (.int .i64) (.pair (.int .i64) (.pair (.int .i64) (.pair (.int .i64) (.pair (.int .i64) (.pair .bool (.own ShEvent))))))) ShGuard)))))))]⟩
def ct_s_l10Any : Cert := (.seq .d (.seq .d (.bind [(0, .ptr ShL1Cur), (4, .ptr (.pair (.int .i64) (.pair (.int .i64) (.pair (.int .i64) (.pair (.int .i64) (.pair ShPat (.pair ShGuard (.pair (.pair (.int .i64) (.pair (.int .i64) (.pair (.int .i64) (.pair (.int .i64) (.pair (.int .i64) (.pair .bool (.own ShEvent))))))) ShGuard)))))))), (5, .ptr (.pair (.int .i64) (.pair (.int .i64) (.pair (.int .i64) (.pair (.int .i64) (.pair ShPat (.pair ShGuard (.pair (.pair (.int .i64) (.pair (.int .i64) (.pair (.int .i64) (.pair (.int .i64) (.pair (.int .i64) (.pair .bool (.own ShEvent))))))) ShGuard))))))))] .d .d)))
noncomputable def F_s_l10Any (x : ElL sg_s_l10Any.args) : Option (ElL sg_s_l10Any.res × ElL (posts sg_s_l10Any.args)) := evFun (P := Try.prog) T [E_s_l1Below, E_s_l1Int, E_s_l10Draw, E_s_l7Any, E_s_l8Any, E_s_l9Any] sg_s_l10Any 68 Try.f60.results.toList (bodyOf Try.f60) ct_s_l10Any x
noncomputable def E_s_l10Any : Ent Try.prog := ⟨60, sg_s_l10Any, F_s_l10Any, Try.call60, fun _ _ h => con_ok T_ok rfl rfl Try.func60 rfl h⟩
noncomputable def s_l10Any (x : TL1Cur × (TState × Unit)) : Option ((TEffect × Unit) × (TL1Cur × Unit)) := F_s_l10Any x
theorem s_l10Any_eq (x : TL1Cur × (TState × Unit)) : s_l10Any x = (
 Option.bind (s_l1Below (x.1, ((9 : Int), ()))) fun (y0 : (Int × Unit) × (TL1Cur × Unit)) =>
 Option.bind (s_l10Draw (y0.2.1, (x.2.1, ((IntKind.i64.wrap ((1 : Int) + y0.1.1)), ())))) fun (y1 : (TEffect × Unit) × (TL1Cur × Unit)) =>
 Option.bind (Option.bind (s_l1Below (y1.2.1, ((20 : Int), ()))) fun (y2 : (Int × Unit) × (TL1Cur × Unit)) =>
 cond (y2.1.1 == (0 : Int))
 (Option.bind (s_l1Int (y2.2.1, (([(0 : Int), (99 : Int), (100 : Int)] : List Int), ()))) fun (y3 : (Int × Unit) × (TL1Cur × Unit)) =>
 some (y3.2.1, (((0 : Int), ((0 : Int), ((0 : Int), ((0 : Int), (((0 : Int), ((0 : Int), ((0 : Int), ((0 : Int), ((0 : Int), ((0 : Int), (0 : Int))))))), (((0 : Int), (0 : Int)), (((0 : Int), ((0 : Int), ((0 : Int), ((0 : Int), ((0 : Int), (false, ([] : List TEvent))))))), ((0 : Int), (0 : Int))))))))), ((y3.1.1, y1.1.1.2), ()))))
 (cond (y2.1.1 == (1 : Int))
 (Option.bind (s_l1Int (y2.2.1, (([(-1 : Int), (2 : Int), (3 : Int)] : List Int), ()))) fun (y4 : (Int × Unit) × (TL1Cur × Unit)) =>
 some (y4.2.1, (((0 : Int), ((0 : Int), ((0 : Int), ((0 : Int), (((0 : Int), ((0 : Int), ((0 : Int), ((0 : Int), ((0 : Int), ((0 : Int), (0 : Int))))))), (((0 : Int), (0 : Int)), (((0 : Int), ((0 : Int), ((0 : Int), ((0 : Int), ((0 : Int), (false, ([] : List TEvent))))))), ((0 : Int), (0 : Int))))))))), ((y1.1.1.1, (y4.1.1, y1.1.1.2.2)), ()))))
 (cond (y2.1.1 == (2 : Int))
 (Option.bind (s_l1Int (y2.2.1, (([(-1 : Int), (0 : Int), (99 : Int), (100 : Int)] : List Int), ()))) fun (y5 : (Int × Unit) × (TL1Cur × Unit)) =>
 some (y5.2.1, (((0 : Int), ((0 : Int), ((0 : Int), ((0 : Int), (((0 : Int), ((0 : Int), ((0 : Int), ((0 : Int), ((0 : Int), ((0 : Int), (0 : Int))))))), (((0 : Int), (0 : Int)), (((0 : Int), ((0 : Int), ((0 : Int), ((0 : Int), ((0 : Int), (false, ([] : List TEvent))))))), ((0 : Int), (0 : Int))))))))), ((y1.1.1.1, (y1.1.1.2.1, (y5.1.1, y1.1.1.2.2.2))), ()))))
 (cond (y2.1.1 == (3 : Int))
 (Option.bind (s_l1Int (y2.2.1, (([(-1 : Int), (0 : Int), (5 : Int)] : List Int), ()))) fun (y6 : (Int × Unit) × (TL1Cur × Unit)) =>
 some (y6.2.1, (((0 : Int), ((0 : Int), ((0 : Int), ((0 : Int), (((0 : Int), ((0 : Int), ((0 : Int), ((0 : Int), ((0 : Int), ((0 : Int), (0 : Int))))))), (((0 : Int), (0 : Int)), (((0 : Int), ((0 : Int), ((0 : Int), ((0 : Int), ((0 : Int), (false, ([] : List TEvent))))))), ((0 : Int), (0 : Int))))))))), ((y1.1.1.1, (y1.1.1.2.1, (y1.1.1.2.2.1, (y6.1.1, y1.1.1.2.2.2.2)))), ()))))
 (cond (y2.1.1 == (4 : Int))
 (Option.bind (s_l7Any (y2.2.1, (x.2.1, ()))) fun (y7 : (TPat × Unit) × (TL1Cur × Unit)) =>
 some (y7.2.1, (((0 : Int), ((0 : Int), ((0 : Int), ((0 : Int), (((0 : Int), ((0 : Int), ((0 : Int), ((0 : Int), ((0 : Int), ((0 : Int), (0 : Int))))))), (((0 : Int), (0 : Int)), (((0 : Int), ((0 : Int), ((0 : Int), ((0 : Int), ((0 : Int), (false, ([] : List TEvent))))))), ((0 : Int), (0 : Int))))))))), ((y1.1.1.1, (y1.1.1.2.1, (y1.1.1.2.2.1, (y1.1.1.2.2.2.1, (y7.1.1, y1.1.1.2.2.2.2.2))))), ()))))
 (cond (y2.1.1 == (5 : Int))
 (Option.bind (s_l8Any (y2.2.1, ())) fun (y8 : (TGuard × Unit) × (TL1Cur × Unit)) =>
 some (y8.2.1, (((0 : Int), ((0 : Int), ((0 : Int), ((0 : Int), (((0 : Int), ((0 : Int), ((0 : Int), ((0 : Int), ((0 : Int), ((0 : Int), (0 : Int))))))), (((0 : Int), (0 : Int)), (((0 : Int), ((0 : Int), ((0 : Int), ((0 : Int), ((0 : Int), (false, ([] : List TEvent))))))), ((0 : Int), (0 : Int))))))))), ((y1.1.1.1, (y1.1.1.2.1, (y1.1.1.2.2.1, (y1.1.1.2.2.2.1, (y1.1.1.2.2.2.2.1, (y8.1.1, y1.1.1.2.2.2.2.2.2)))))), ()))))
 (cond (y2.1.1 == (6 : Int))
 (Option.bind (s_l9Any (y2.2.1, (x.2.1, ()))) fun (y9 : (TAct × Unit) × (TL1Cur × Unit)) =>
 some (y9.2.1, (((0 : Int), ((0 : Int), ((0 : Int), ((0 : Int), (((0 : Int), ((0 : Int), ((0 : Int), ((0 : Int), ((0 : Int), ((0 : Int), (0 : Int))))))), (((0 : Int), (0 : Int)), (((0 : Int), ((0 : Int), ((0 : Int), ((0 : Int), ((0 : Int), (false, ([] : List TEvent))))))), ((0 : Int), (0 : Int))))))))), ((y1.1.1.1, (y1.1.1.2.1, (y1.1.1.2.2.1, (y1.1.1.2.2.2.1, (y1.1.1.2.2.2.2.1, (y1.1.1.2.2.2.2.2.1, (y9.1.1, y1.1.1.2.2.2.2.2.2.2))))))), ()))))
 (cond (y2.1.1 == (7 : Int))
 (Option.bind (s_l1Int (y2.2.1, (([(-2 : Int), (0 : Int), (9999 : Int), (10000 : Int)] : List Int), ()))) fun (y10 : (Int × Unit) × (TL1Cur × Unit)) =>
 some (y10.2.1, (((0 : Int), ((0 : Int), ((0 : Int), ((0 : Int), (((0 : Int), ((0 : Int), ((0 : Int), ((0 : Int), ((0 : Int), ((0 : Int), (0 : Int))))))), (((0 : Int), (0 : Int)), (((0 : Int), ((0 : Int), ((0 : Int), ((0 : Int), ((0 : Int), (false, ([] : List TEvent))))))), ((0 : Int), (0 : Int))))))))), ((y1.1.1.1, (y1.1.1.2.1, (y1.1.1.2.2.1, (y1.1.1.2.2.2.1, (y1.1.1.2.2.2.2.1, (y1.1.1.2.2.2.2.2.1, (y1.1.1.2.2.2.2.2.2.1, (y10.1.1, y1.1.1.2.2.2.2.2.2.2.2)))))))), ()))))
 (cond (y2.1.1 == (8 : Int))
 (Option.bind (s_l1Int (y2.2.1, (([(-2 : Int), (-1 : Int), (0 : Int), (1 : Int), (2147483648 : Int)] : List Int), ()))) fun (y11 : (Int × Unit) × (TL1Cur × Unit)) =>
 some (y11.2.1, (((0 : Int), ((0 : Int), ((0 : Int), ((0 : Int), (((0 : Int), ((0 : Int), ((0 : Int), ((0 : Int), ((0 : Int), ((0 : Int), (0 : Int))))))), (((0 : Int), (0 : Int)), (((0 : Int), ((0 : Int), ((0 : Int), ((0 : Int), ((0 : Int), (false, ([] : List TEvent))))))), ((0 : Int), (0 : Int))))))))), ((y1.1.1.1, (y1.1.1.2.1, (y1.1.1.2.2.1, (y1.1.1.2.2.2.1, (y1.1.1.2.2.2.2.1, (y1.1.1.2.2.2.2.2.1, (y1.1.1.2.2.2.2.2.2.1, (y1.1.1.2.2.2.2.2.2.2.1, y11.1.1)))))))), ()))))
 (some (y2.2.1, (((0 : Int), ((0 : Int), ((0 : Int), ((0 : Int), (((0 : Int), ((0 : Int), ((0 : Int), ((0 : Int), ((0 : Int), ((0 : Int), (0 : Int))))))), (((0 : Int), (0 : Int)), (((0 : Int), ((0 : Int), ((0 : Int), ((0 : Int), ((0 : Int), (false, ([] : List TEvent))))))), ((0 : Int), (0 : Int))))))))), (y1.1.1, ()))))))))))))) fun (v12 : TL1Cur × (TEffect × (TEffect × Unit))) =>
 some ((v12.2.2.1, ()), (v12.1, ()))) := by kernel_rfl

/-- loop.example/g00486/spec.l11Any -/
abbrev sg_s_l11Any : Sig := ⟨[.ptr ShL1Cur, .val true ShState], [.val false (.own ShEffect)]⟩
def ct_s_l11Any : Cert := (.seq .d (.seq .d (.bind [(0, .ptr ShL1Cur), (5, .val false (.own ShEffect))] .d .d)))
noncomputable def F_s_l11Any (x : ElL sg_s_l11Any.args) : Option (ElL sg_s_l11Any.res × ElL (posts sg_s_l11Any.args)) := evFun (P := Try.prog) T [E_s_l1Below, E_s_l10Draw, E_s_l11Draw, E_s_l10Any] sg_s_l11Any 44 Try.f35.results.toList (bodyOf Try.f35) ct_s_l11Any x
noncomputable def E_s_l11Any : Ent Try.prog := ⟨35, sg_s_l11Any, F_s_l11Any, Try.call35, fun _ _ h => con_ok T_ok rfl rfl Try.func35 rfl h⟩
noncomputable def s_l11Any (x : TL1Cur × (TState × Unit)) : Option (((List TEffect) × Unit) × (TL1Cur × Unit)) := F_s_l11Any x
theorem s_l11Any_eq (x : TL1Cur × (TState × Unit)) : s_l11Any x = (
 Option.bind (s_l11Draw (x.1, (x.2.1, ()))) fun (y0 : ((List TEffect) × Unit) × (TL1Cur × Unit)) =>
 Option.bind (Option.bind (s_l1Below (y0.2.1, ((12 : Int), ()))) fun (y1 : (Int × Unit) × (TL1Cur × Unit)) =>
 cond (y1.1.1 == (0 : Int))
 (Option.bind (s_l10Any (y1.2.1, (x.2.1, ()))) fun (y2 : (TEffect × Unit) × (TL1Cur × Unit)) =>
 cond (Nat.ble (y0.1.1.length + ([y2.1.1] : List TEffect).length) LIM)
 (some (y2.2.1, ((y0.1.1 ++ ([y2.1.1] : List TEffect)), ())))
 (none))
 (cond (y1.1.1 == (1 : Int))
 (Option.bind (s_l10Draw (y1.2.1, (x.2.1, ((50 : Int), ())))) fun (y3 : (TEffect × Unit) × (TL1Cur × Unit)) =>
 Option.bind (s_l10Draw (y3.2.1, (x.2.1, ((51 : Int), ())))) fun (y4 : (TEffect × Unit) × (TL1Cur × Unit)) =>
 Option.bind (s_l10Draw (y4.2.1, (x.2.1, ((52 : Int), ())))) fun (y5 : (TEffect × Unit) × (TL1Cur × Unit)) =>
 cond (Nat.ble (y0.1.1.length + ([y3.1.1, y4.1.1, y5.1.1] : List TEffect).length) LIM)
 (some (y5.2.1, ((y0.1.1 ++ ([y3.1.1, y4.1.1, y5.1.1] : List TEffect)), ())))
 (none))
 (cond (y1.1.1 == (2 : Int))
 (cond (decide (((y0.1.1.length : Nat) : Int) > (0 : Int)))
 (Option.bind (s_l10Any (y1.2.1, (x.2.1, ()))) fun (y6 : (TEffect × Unit) × (TL1Cur × Unit)) =>
 Option.bind (nth y0.1.1 (0 : Int)) fun (_ : TEffect) =>
 Option.bind (y0.1.1[((0 : Int)).toNat]?) fun (x7 : TEffect) =>
 some (y6.2.1, ((y0.1.1.set (((0 : Int)).toNat) y6.1.1), ())))
 (some (y1.2.1, (y0.1.1, ()))))
 (some (y1.2.1, (y0.1.1, ())))))) fun (v8 : TL1Cur × ((List TEffect) × Unit)) =>
 some ((v8.2.1, ()), (v8.1, ()))) := by kernel_rfl

/-- loop.example/g00486/spec.DrawMostTurns -/
abbrev sg_s_DrawMostTurns : Sig := ⟨[.val false (.sl (.int .u8))], [.val false (.own ShEffect)]⟩
def ct_s_DrawMostTurns : Cert := .d
noncomputable def F_s_DrawMostTurns (x : ElL sg_s_DrawMostTurns.args) : Option (ElL sg_s_DrawMostTurns.res × ElL (posts sg_s_DrawMostTurns.args)) := evFun (P := Try.prog) T [E_s_l1New, E_s_l5Draw, E_s_l11Any] sg_s_DrawMostTurns 10 Try.f10.results.toList (bodyOf Try.f10) ct_s_DrawMostTurns x
noncomputable def E_s_DrawMostTurns : Ent Try.prog := ⟨10, sg_s_DrawMostTurns, F_s_DrawMostTurns, Try.call10, fun _ _ h => con_ok T_ok rfl rfl Try.func10 rfl h⟩
noncomputable def s_DrawMostTurns (x : (List Int) × Unit) : Option (((List TEffect) × Unit) × Unit) := F_s_DrawMostTurns x
theorem s_DrawMostTurns_eq (x : (List Int) × Unit) : s_DrawMostTurns x = (
 Option.bind (s_l1New (x.1, ())) fun (y0 : (TL1Cur × Unit) × Unit) =>
 Option.bind (s_l5Draw (y0.1.1, ())) fun (y1 : (TState × Unit) × (TL1Cur × Unit)) =>
 Option.bind (s_l11Any (y1.2.1, (y1.1.1, ()))) fun (y2 : ((List TEffect) × Unit) × (TL1Cur × Unit)) =>
 some ((y2.1.1, ()), ())) := by kernel_rfl

/-- loop.example/g00486/spec.DrawMostLeft -/
abbrev sg_s_DrawMostLeft : Sig := ⟨[.val false (.sl (.int .u8))], [.val false (.own ShEffect)]⟩
def ct_s_DrawMostLeft : Cert := .d
noncomputable def F_s_DrawMostLeft (x : ElL sg_s_DrawMostLeft.args) : Option (ElL sg_s_DrawMostLeft.res × ElL (posts sg_s_DrawMostLeft.args)) := evFun (P := Try.prog) T [E_s_l1New, E_s_l5Draw, E_s_l11Any] sg_s_DrawMostLeft 10 Try.f11.results.toList (bodyOf Try.f11) ct_s_DrawMostLeft x
noncomputable def E_s_DrawMostLeft : Ent Try.prog := ⟨11, sg_s_DrawMostLeft, F_s_DrawMostLeft, Try.call11, fun _ _ h => con_ok T_ok rfl rfl Try.func11 rfl h⟩
noncomputable def s_DrawMostLeft (x : (List Int) × Unit) : Option (((List TEffect) × Unit) × Unit) := F_s_DrawMostLeft x
theorem s_DrawMostLeft_eq (x : (List Int) × Unit) : s_DrawMostLeft x = (
 Option.bind (s_l1New (x.1, ())) fun (y0 : (TL1Cur × Unit) × Unit) =>
 Option.bind (s_l5Draw (y0.1.1, ())) fun (y1 : (TState × Unit) × (TL1Cur × Unit)) =>
 Option.bind (s_l11Any (y1.2.1, (y1.1.1, ()))) fun (y2 : ((List TEffect) × Unit) × (TL1Cur × Unit)) =>
 some ((y2.1.1, ()), ())) := by kernel_rfl

/-- loop.example/g00486/spec.Upto -/
abbrev sg_s_Upto : Sig := ⟨[.val false (.int .i64), .val false (.int .i64)], [.val false (.int .i64)]⟩
def ct_s_Upto : Cert := (.seq .d (.seq .d (.bind [(5, .val false (.int .i64))] .d .d)))
noncomputable def F_s_Upto (x : ElL sg_s_Upto.args) : Option (ElL sg_s_Upto.res × ElL (posts sg_s_Upto.args)) := evFun (P := Try.prog) T [] sg_s_Upto 14 Try.f37.results.toList (bodyOf Try.f37) ct_s_Upto x
noncomputable def E_s_Upto : Ent Try.prog := ⟨37, sg_s_Upto, F_s_Upto, Try.call37, fun _ _ h => con_ok T_ok rfl rfl Try.func37 rfl h⟩
noncomputable def s_Upto (x : Int × (Int × Unit)) : Option ((Int × Unit) × Unit) := F_s_Upto x
theorem s_Upto_eq (x : Int × (Int × Unit)) : s_Upto x = (
 Option.bind (cond (decide (x.2.1 < x.1))
 (some (x.2.1, ()))
 (some (x.1, ()))) fun (v0 : Int × Unit) =>
 cond (decide (v0.1 < (0 : Int)))
 (some (((0 : Int), ()), ()))
 (some ((v0.1, ()), ()))) := by kernel_rfl

/-- loop.example/g00486/spec.Bound -/
abbrev sg_s_Bound : Sig := ⟨[.val false (.int .i64)], [.val false (.int .i64)]⟩
def ct_s_Bound : Cert := .d
noncomputable def F_s_Bound (x : ElL sg_s_Bound.args) : Option (ElL sg_s_Bound.res × ElL (posts sg_s_Bound.args)) := evFun (P := Try.prog) T [] sg_s_Bound 8 Try.f38.results.toList (bodyOf Try.f38) ct_s_Bound x
noncomputable def E_s_Bound : Ent Try.prog := ⟨38, sg_s_Bound, F_s_Bound, Try.call38, fun _ _ h => con_ok T_ok rfl rfl Try.func38 rfl h⟩
noncomputable def s_Bound (x : Int × Unit) : Option ((Int × Unit) × Unit) := F_s_Bound x
theorem s_Bound_eq (x : Int × Unit) : s_Bound x = (
 cond (decide (x.1 > (2147483647 : Int)))
 (some (((2147483647 : Int), ()), ()))
 (cond (decide (x.1 < (-2147483647 : Int)))
 (some (((-2147483647 : Int), ()), ()))
 (some ((x.1, ()), ())))) := by kernel_rfl

/-- loop.example/g00486/spec.Power -/
abbrev sg_s_Power : Sig := ⟨[.val false (.int .i64), .val false (.int .i64)], [.val false (.int .i64)]⟩
def ct_s_Power : Cert := (.seq .d (.seq .d (.seq .d (.seq (.seq .d (.block (.loop [(1, .val false (.int .i64)), (5, .val false (.int .i64)), (6, .val false (.int .i64)), (7, .val false (.int .i64))] (.seq (.bind [(1, .val false (.int .i64)), (5, .val false (.int .i64)), (6, .val false (.int .i64)), (7, .val false (.int .i64)), (16, .val false .bool)] .d .d) .d)))) .d))))
noncomputable def F_s_Power (x : ElL sg_s_Power.args) : Option (ElL sg_s_Power.res × ElL (posts sg_s_Power.args)) := evFun (P := Try.prog) T [E_s_Upto, E_s_Bound] sg_s_Power 24 Try.f12.results.toList (bodyOf Try.f12) ct_s_Power x
noncomputable def E_s_Power : Ent Try.prog := ⟨12, sg_s_Power, F_s_Power, Try.call12, fun _ _ h => con_ok T_ok rfl rfl Try.func12 rfl h⟩
noncomputable def s_Power (x : Int × (Int × Unit)) : Option ((Int × Unit) × Unit) := F_s_Power x
theorem s_Power_eq (x : Int × (Int × Unit)) : s_Power x = (
 Option.bind (s_Upto (x.1, ((2147483647 : Int), ()))) fun (y0 : (Int × Unit) × Unit) =>
 loopC (fun (v1 : Int × (Int × (Int × (Int × Unit)))) =>
 Option.bind (cond (decide (v1.2.2.2.1 < v1.1))
 (some (v1.1, (v1.2.1, (v1.2.2.1, (v1.2.2.2.1, ((decide (v1.2.2.2.1 < (64 : Int))), ()))))))
 (some (v1.1, (v1.2.1, (v1.2.2.1, (v1.2.2.2.1, (false, ()))))))) fun (v2 : Int × (Int × (Int × (Int × (Bool × Unit))))) =>
 cond v2.2.2.2.2.1
 (Option.bind (s_Bound ((IntKind.i64.wrap (v2.2.2.1 * v2.2.1)), ())) fun (y3 : (Int × Unit) × Unit) =>
 some (.inl (v2.1, (v2.2.1, (y3.1.1, ((IntKind.i64.wrap (v2.2.2.2.1 + (1 : Int))), ()))))))
 (some (.inr ((v2.2.2.1, ()), ())))) (x.2.1, (y0.1.1, ((1 : Int), ((0 : Int), ()))))) := by kernel_rfl

/-- loop.example/g00486/spec.Plus -/
abbrev sg_s_Plus : Sig := ⟨[.val false (.int .i64), .val false (.int .i64)], [.val false (.int .i64)]⟩
def ct_s_Plus : Cert := .d
noncomputable def F_s_Plus (x : ElL sg_s_Plus.args) : Option (ElL sg_s_Plus.res × ElL (posts sg_s_Plus.args)) := evFun (P := Try.prog) T [E_s_Bound] sg_s_Plus 11 Try.f39.results.toList (bodyOf Try.f39) ct_s_Plus x
noncomputable def E_s_Plus : Ent Try.prog := ⟨39, sg_s_Plus, F_s_Plus, Try.call39, fun _ _ h => con_ok T_ok rfl rfl Try.func39 rfl h⟩
noncomputable def s_Plus (x : Int × (Int × Unit)) : Option ((Int × Unit) × Unit) := F_s_Plus x
theorem s_Plus_eq (x : Int × (Int × Unit)) : s_Plus x = (
 Option.bind (s_Bound (x.1, ())) fun (y0 : (Int × Unit) × Unit) =>
 Option.bind (s_Bound (x.2.1, ())) fun (y1 : (Int × Unit) × Unit) =>
 Option.bind (s_Bound ((IntKind.i64.wrap (y0.1.1 + y1.1.1)), ())) fun (y2 : (Int × Unit) × Unit) =>
 some ((y2.1.1, ()), ())) := by kernel_rfl

/-- loop.example/g00486/spec.Sums -/
abbrev sg_s_Sums : Sig := ⟨[.val false (.int .i64), .val false (.int .i64)], [.val false (.int .i64)]⟩
def ct_s_Sums : Cert := (.seq .d (.seq .d (.seq (.seq .d (.block (.loop [(0, .val false (.int .i64)), (1, .val false (.int .i64)), (5, .val false (.int .i64)), (6, .val false (.int .i64))] (.seq (.bind [(0, .val false (.int .i64)), (1, .val false (.int .i64)), (5, .val false (.int .i64)), (6, .val false (.int .i64)), (17, .val false .bool)] .d .d) .d)))) (.seq (.bind [(1, .val false (.int .i64)), (5, .val false (.int .i64)), (31, .val false .bool)] .d .d) .d))))
noncomputable def F_s_Sums (x : ElL sg_s_Sums.args) : Option (ElL sg_s_Sums.res × ElL (posts sg_s_Sums.args)) := evFun (P := Try.prog) T [E_s_Upto, E_s_Power, E_s_Plus] sg_s_Sums 35 Try.f13.results.toList (bodyOf Try.f13) ct_s_Sums x
noncomputable def E_s_Sums : Ent Try.prog := ⟨13, sg_s_Sums, F_s_Sums, Try.call13, fun _ _ h => con_ok T_ok rfl rfl Try.func13 rfl h⟩
noncomputable def s_Sums (x : Int × (Int × Unit)) : Option ((Int × Unit) × Unit) := F_s_Sums x
theorem s_Sums_eq (x : Int × (Int × Unit)) : s_Sums x = (
 loopC (fun (v0 : Int × (Int × (Int × (Int × Unit)))) =>
 Option.bind (cond (decide (v0.2.2.2.1 < v0.2.1))
 (cond (decide (v0.2.2.1 < (2147483647 : Int)))
 (some (v0.1, (v0.2.1, (v0.2.2.1, (v0.2.2.2.1, ((decide (v0.2.2.2.1 < (64 : Int))), ()))))))
 (some (v0.1, (v0.2.1, (v0.2.2.1, (v0.2.2.2.1, (false, ())))))))
 (some (v0.1, (v0.2.1, (v0.2.2.1, (v0.2.2.2.1, (false, ()))))))) fun (v1 : Int × (Int × (Int × (Int × (Bool × Unit))))) =>
 cond v1.2.2.2.2.1
 (Option.bind (s_Power (v1.1, (v1.2.2.2.1, ()))) fun (y2 : (Int × Unit) × Unit) =>
 Option.bind (s_Plus (v1.2.2.1, (y2.1.1, ()))) fun (y3 : (Int × Unit) × Unit) =>
 some (.inl (v1.1, (v1.2.1, (y3.1.1, ((IntKind.i64.wrap (v1.2.2.2.1 + (1 : Int))), ()))))))
 (Option.bind (Option.bind (cond (decide (v1.2.1 > (64 : Int)))
 (Option.bind (s_Upto (v1.1, ((2 : Int), ()))) fun (y4 : (Int × Unit) × Unit) =>
 some (v1.2.1, (v1.2.2.1, ((y4.1.1 == (1 : Int)), ()))))
 (some (v1.2.1, (v1.2.2.1, (false, ()))))) fun (v5 : Int × (Int × (Bool × Unit))) =>
 cond v5.2.2.1
 (Option.bind (s_Upto (v5.1, ((2147483647 : Int), ()))) fun (y6 : (Int × Unit) × Unit) =>
 some ((y6.1.1, ()), ()))
 (some ((v5.2.1, ()), ()))) fun b => some (.inr b))) (x.1, (x.2.1, ((0 : Int), ((0 : Int), ()))))) := by kernel_rfl

/-- loop.example/g00486/impl.Usable -/
abbrev sg_i_Usable : Sig := ⟨[.val false (.sl ShEffect)], [.val false (.int .i64)]⟩
def ct_i_Usable : Cert := (.seq .d (.seq .d (.seq (.seq .d (.block (.loop [(3, .val false (.int .i64)), (6, .val false (.sl ShEffect)), (7, .val false (.int .i64)), (8, .val false (.int .i64))] (.seq .d (.seq .d (.bind [(3, .val false (.int .i64)), (6, .val false (.sl ShEffect)), (7, .val false (.int .i64)), (8, .val false (.int .i64))] .d .d)))))) .d)))
noncomputable def F_i_Usable (x : ElL sg_i_Usable.args) : Option (ElL sg_i_Usable.res × ElL (posts sg_i_Usable.args)) := evFun (P := Try.prog) T [] sg_i_Usable 19 Try.f40.results.toList (bodyOf Try.f40) ct_i_Usable x
noncomputable def E_i_Usable : Ent Try.prog := ⟨40, sg_i_Usable, F_i_Usable, Try.call40, fun _ _ h => con_ok T_ok rfl rfl Try.func40 rfl h⟩
noncomputable def i_Usable (x : (List TEffect) × Unit) : Option ((Int × Unit) × Unit) := F_i_Usable x
theorem i_Usable_eq (x : (List TEffect) × Unit) : i_Usable x = (
 loopC (fun (v0 : Int × ((List TEffect) × (Int × (Int × Unit)))) =>
 cond (decide (v0.2.2.2.1 < v0.2.2.1))
 (Option.bind (Option.bind (nth v0.2.1 v0.2.2.2.1) fun (x1 : TEffect) =>
 cond (x1.2.2.2.2.2.2.2.2 != (0 : Int))
 (some ((IntKind.i64.wrap (v0.1 + (1 : Int))), (v0.2.1, (v0.2.2.1, (v0.2.2.2.1, ())))))
 (some (v0.1, (v0.2.1, (v0.2.2.1, (v0.2.2.2.1, ())))))) fun (v2 : Int × ((List TEffect) × (Int × (Int × Unit)))) =>
 some (.inl (v2.1, (v2.2.1, (v2.2.2.1, ((IntKind.i64.wrap (v2.2.2.2.1 + (1 : Int))), ()))))))
 (some (.inr ((v0.1, ()), ())))) ((0 : Int), (x.1, (((x.1.length : Nat) : Int), ((0 : Int), ()))))) := by kernel_rfl

/-- loop.example/g00486/impl.MostTurns -/
abbrev sg_i_MostTurns : Sig := ⟨[.val false (.sl ShEffect)], [.val false (.int .i64)]⟩
def ct_i_MostTurns : Cert := .d
noncomputable def F_i_MostTurns (x : ElL sg_i_MostTurns.args) : Option (ElL sg_i_MostTurns.res × ElL (posts sg_i_MostTurns.args)) := evFun (P := Try.prog) T [E_i_Sums, E_i_Usable] sg_i_MostTurns 6 Try.f14.results.toList (bodyOf Try.f14) ct_i_MostTurns x
noncomputable def E_i_MostTurns : Ent Try.prog := ⟨14, sg_i_MostTurns, F_i_MostTurns, Try.call14, fun _ _ h => con_ok T_ok rfl rfl Try.func14 rfl h⟩
noncomputable def i_MostTurns (x : (List TEffect) × Unit) : Option ((Int × Unit) × Unit) := F_i_MostTurns x
theorem i_MostTurns_eq (x : (List TEffect) × Unit) : i_MostTurns x = (
 Option.bind (i_Usable (x.1, ())) fun (y0 : (Int × Unit) × Unit) =>
 Option.bind (i_Sums ((3 : Int), (y0.1.1, ()))) fun (y1 : (Int × Unit) × Unit) =>
 some ((y1.1.1, ()), ())) := by kernel_rfl

/-- loop.example/g00486/spec.Usable -/
abbrev sg_s_Usable : Sig := ⟨[.val false (.sl ShEffect)], [.val false (.int .i64)]⟩
def ct_s_Usable : Cert := (.seq .d (.seq .d (.seq (.seq .d (.block (.loop [(0, .val false (.sl ShEffect)), (3, .val false (.int .i64)), (4, .val false (.int .i64))] (.seq .d (.bind [(0, .val false (.sl ShEffect)), (3, .val false (.int .i64)), (4, .val false (.int .i64))] .d .d))))) .d)))
noncomputable def F_s_Usable (x : ElL sg_s_Usable.args) : Option (ElL sg_s_Usable.res × ElL (posts sg_s_Usable.args)) := evFun (P := Try.prog) T [] sg_s_Usable 20 Try.f41.results.toList (bodyOf Try.f41) ct_s_Usable x
noncomputable def E_s_Usable : Ent Try.prog := ⟨41, sg_s_Usable, F_s_Usable, Try.call41, fun _ _ h => con_ok T_ok rfl rfl Try.func41 rfl h⟩
noncomputable def s_Usable (x : (List TEffect) × Unit) : Option ((Int × Unit) × Unit) := F_s_Usable x
theorem s_Usable_eq (x : (List TEffect) × Unit) : s_Usable x = (
 loopC (fun (v0 : (List TEffect) × (Int × (Int × Unit))) =>
 cond (decide (v0.2.2.1 < ((v0.1.length : Nat) : Int)))
 (Option.bind (Option.bind (nth v0.1 v0.2.2.1) fun (x1 : TEffect) =>
 cond (x1.2.2.2.2.2.2.2.2 != (0 : Int))
 (some (v0.1, ((IntKind.i64.wrap (v0.2.1 + (1 : Int))), (v0.2.2.1, ()))))
 (some (v0.1, (v0.2.1, (v0.2.2.1, ()))))) fun (v2 : (List TEffect) × (Int × (Int × Unit))) =>
 some (.inl (v2.1, (v2.2.1, ((IntKind.i64.wrap (v2.2.2.1 + (1 : Int))), ())))))
 (some (.inr ((v0.2.1, ()), ())))) (x.1, ((0 : Int), ((0 : Int), ())))) := by kernel_rfl

/-- loop.example/g00486/spec.MostTurns -/
abbrev sg_s_MostTurns : Sig := ⟨[.val false (.sl ShEffect)], [.val false (.int .i64)]⟩
def ct_s_MostTurns : Cert := .d
noncomputable def F_s_MostTurns (x : ElL sg_s_MostTurns.args) : Option (ElL sg_s_MostTurns.res × ElL (posts sg_s_MostTurns.args)) := evFun (P := Try.prog) T [E_s_Sums, E_s_Usable] sg_s_MostTurns 6 Try.f15.results.toList (bodyOf Try.f15) ct_s_MostTurns x
noncomputable def E_s_MostTurns : Ent Try.prog := ⟨15, sg_s_MostTurns, F_s_MostTurns, Try.call15, fun _ _ h => con_ok T_ok rfl rfl Try.func15 rfl h⟩
noncomputable def s_MostTurns (x : (List TEffect) × Unit) : Option ((Int × Unit) × Unit) := F_s_MostTurns x
theorem s_MostTurns_eq (x : (List TEffect) × Unit) : s_MostTurns x = (
 Option.bind (s_Usable (x.1, ())) fun (y0 : (Int × Unit) × Unit) =>
 Option.bind (s_Sums ((3 : Int), (y0.1.1, ()))) fun (y1 : (Int × Unit) × Unit) =>
 some ((y1.1.1, ()), ())) := by kernel_rfl

/-- loop.example/g00486/impl.MostLeft -/
abbrev sg_i_MostLeft : Sig := ⟨[.val false (.sl ShEffect)], [.val false (.int .i64)]⟩
def ct_i_MostLeft : Cert := .d
noncomputable def F_i_MostLeft (x : ElL sg_i_MostLeft.args) : Option (ElL sg_i_MostLeft.res × ElL (posts sg_i_MostLeft.args)) := evFun (P := Try.prog) T [E_i_Power, E_i_Usable] sg_i_MostLeft 6 Try.f16.results.toList (bodyOf Try.f16) ct_i_MostLeft x
noncomputable def E_i_MostLeft : Ent Try.prog := ⟨16, sg_i_MostLeft, F_i_MostLeft, Try.call16, fun _ _ h => con_ok T_ok rfl rfl Try.func16 rfl h⟩
noncomputable def i_MostLeft (x : (List TEffect) × Unit) : Option ((Int × Unit) × Unit) := F_i_MostLeft x
theorem i_MostLeft_eq (x : (List TEffect) × Unit) : i_MostLeft x = (
 Option.bind (i_Usable (x.1, ())) fun (y0 : (Int × Unit) × Unit) =>
 Option.bind (i_Power ((3 : Int), (y0.1.1, ()))) fun (y1 : (Int × Unit) × Unit) =>
 some ((y1.1.1, ()), ())) := by kernel_rfl

/-- loop.example/g00486/spec.MostLeft -/
abbrev sg_s_MostLeft : Sig := ⟨[.val false (.sl ShEffect)], [.val false (.int .i64)]⟩
def ct_s_MostLeft : Cert := .d
noncomputable def F_s_MostLeft (x : ElL sg_s_MostLeft.args) : Option (ElL sg_s_MostLeft.res × ElL (posts sg_s_MostLeft.args)) := evFun (P := Try.prog) T [E_s_Power, E_s_Usable] sg_s_MostLeft 6 Try.f17.results.toList (bodyOf Try.f17) ct_s_MostLeft x
noncomputable def E_s_MostLeft : Ent Try.prog := ⟨17, sg_s_MostLeft, F_s_MostLeft, Try.call17, fun _ _ h => con_ok T_ok rfl rfl Try.func17 rfl h⟩
noncomputable def s_MostLeft (x : (List TEffect) × Unit) : Option ((Int × Unit) × Unit) := F_s_MostLeft x
theorem s_MostLeft_eq (x : (List TEffect) × Unit) : s_MostLeft x = (
 Option.bind (s_Usable (x.1, ())) fun (y0 : (Int × Unit) × Unit) =>
 Option.bind (s_Power ((3 : Int), (y0.1.1, ()))) fun (y1 : (Int × Unit) × Unit) =>
 some ((y1.1.1, ()), ())) := by kernel_rfl

/-- loop.example/g00486/laws.at -/
abbrev sg_w_at : Sig := ⟨[.val false (.sl (.int .u8)), .val false (.int .i64)], [.val false (.int .i64)]⟩
def ct_w_at : Cert := .d
noncomputable def F_w_at (x : ElL sg_w_at.args) : Option (ElL sg_w_at.res × ElL (posts sg_w_at.args)) := evFun (P := Try.prog) T [] sg_w_at 21 Try.f18.results.toList (bodyOf Try.f18) ct_w_at x
noncomputable def E_w_at : Ent Try.prog := ⟨18, sg_w_at, F_w_at, Try.call18, fun _ _ h => con_ok T_ok rfl rfl Try.func18 rfl h⟩
noncomputable def w_at (x : (List Int) × (Int × Unit)) : Option ((Int × Unit) × Unit) := F_w_at x
theorem w_at_eq (x : (List Int) × (Int × Unit)) : w_at x = (
 cond (decide (x.2.1 < ((x.1.length : Nat) : Int)))
 (Option.bind (nth x.1 x.2.1) fun (x0 : Int) =>
 some (((IntKind.i64.wrap x0), ()), ()))
 (some (((Int.tmod (IntKind.i64.wrap ((IntKind.i64.wrap (x.2.1 * (31 : Int))) + (IntKind.i64.wrap (((x.1.length : Nat) : Int) * (7 : Int))))) (256 : Int)), ()), ()))) := by kernel_rfl

/-- loop.example/g00486/laws.FnPowers -/
abbrev sg_w_FnPowers : Sig := ⟨[.val false (.sl (.int .u8))], [.val false .bool]⟩
def ct_w_FnPowers : Cert := (.seq .d (.seq .d (.seq .d (.seq .d (.seq .d (.seq .d (.seq .d (.seq .d (.seq (.bind [(0, .val false (.sl (.int .u8))), (9, .val false (.own ShEffect)), (68, .val false .bool)] .d .d) (.seq .d (.seq .d (.bind [(2, .val false .bool)] .d .d))))))))))))
noncomputable def F_w_FnPowers (x : ElL sg_w_FnPowers.args) : Option (ElL sg_w_FnPowers.res × ElL (posts sg_w_FnPowers.args)) := evFun (P := Try.prog) T [E_w_big, E_s_DrawPower, E_i_Power, E_s_DrawSums, E_i_Sums, E_s_DrawMostTurns, E_s_DrawMostLeft, E_s_Power, E_s_Sums, E_i_MostTurns, E_s_MostTurns, E_i_MostLeft, E_s_MostLeft, E_w_at] sg_w_FnPowers 113 Try.f3.results.toList (bodyOf Try.f3) ct_w_FnPowers x
noncomputable def E_w_FnPowers : Ent Try.prog := ⟨3, sg_w_FnPowers, F_w_FnPowers, Try.call3, fun _ _ h => con_ok T_ok rfl rfl Try.func3 rfl h⟩
noncomputable def w_FnPowers (x : (List Int) × Unit) : Option ((Bool × Unit) × Unit) := F_w_FnPowers x
theorem w_FnPowers_eq (x : (List Int) × Unit) : w_FnPowers x = (
 Option.bind (w_big (x.1, ())) fun (y0 : (Bool × Unit) × Unit) =>
 cond y0.1.1
 (some ((true, ()), ()))
 (Option.bind (s_DrawPower (x.1, ())) fun (y1 : (Int × (Int × Unit)) × Unit) =>
 Option.bind (i_Power (y1.1.1, (y1.1.2.1, ()))) fun (y2 : (Int × Unit) × Unit) =>
 Option.bind (s_DrawSums (x.1, ())) fun (y3 : (Int × (Int × Unit)) × Unit) =>
 Option.bind (i_Sums (y3.1.1, (y3.1.2.1, ()))) fun (y4 : (Int × Unit) × Unit) =>
 Option.bind (s_DrawMostTurns (x.1, ())) fun (y5 : ((List TEffect) × Unit) × Unit) =>
 Option.bind (s_DrawMostLeft (x.1, ())) fun (y6 : ((List TEffect) × Unit) × Unit) =>
 Option.bind (Option.bind (s_Power (y1.1.1, (y1.1.2.1, ()))) fun (y7 : (Int × Unit) × Unit) =>
 cond (y2.1.1 != y7.1.1)
 (some (x.1, (y5.1.1, (true, ()))))
 (Option.bind (s_Sums (y3.1.1, (y3.1.2.1, ()))) fun (y8 : (Int × Unit) × Unit) =>
 cond (y4.1.1 != y8.1.1)
 (some (x.1, (y5.1.1, (true, ()))))
 (Option.bind (i_MostTurns (y5.1.1, ())) fun (y9 : (Int × Unit) × Unit) =>
 Option.bind (s_MostTurns (y5.1.1, ())) fun (y10 : (Int × Unit) × Unit) =>
 cond (y9.1.1 != y10.1.1)
 (some (x.1, (y5.1.1, (true, ()))))
 (Option.bind (i_MostLeft (y6.1.1, ())) fun (y11 : (Int × Unit) × Unit) =>
 Option.bind (s_MostLeft (y6.1.1, ())) fun (y12 : (Int × Unit) × Unit) =>
 cond (y11.1.1 != y12.1.1)
 (some (x.1, (y5.1.1, (true, ()))))
 (cond (decide (y2.1.1 < (0 : Int)))
 (some (x.1, (y5.1.1, (true, ()))))
 (some (x.1, (y5.1.1, ((decide (y2.1.1 > (2147483647 : Int))), ()))))))))) fun (v13 : (List Int) × ((List TEffect) × (Bool × Unit))) =>
 cond v13.2.2.1
 (some ((false, ()), ()))
 (Option.bind (w_at (v13.1, ((2 : Int), ()))) fun (y14 : (Int × Unit) × Unit) =>
 Option.bind (w_at (v13.1, ((3 : Int), ()))) fun (y15 : (Int × Unit) × Unit) =>
 Option.bind (Option.bind (i_Power ((Int.tmod y14.1.1 (4 : Int)), ((IntKind.i64.wrap ((Int.tmod y15.1.1 (9 : Int)) + (1 : Int))), ()))) fun (y16 : (Int × Unit) × Unit) =>
 Option.bind (i_Power ((Int.tmod y14.1.1 (4 : Int)), ((Int.tmod y15.1.1 (9 : Int)), ()))) fun (y17 : (Int × Unit) × Unit) =>
 cond (y16.1.1 == (IntKind.i64.wrap ((Int.tmod y14.1.1 (4 : Int)) * y17.1.1)))
 (Option.bind (i_Sums ((Int.tmod y14.1.1 (4 : Int)), ((IntKind.i64.wrap ((Int.tmod y15.1.1 (9 : Int)) + (1 : Int))), ()))) fun (y18 : (Int × Unit) × Unit) =>
 Option.bind (i_Sums ((Int.tmod y14.1.1 (4 : Int)), ((Int.tmod y15.1.1 (9 : Int)), ()))) fun (y19 : (Int × Unit) × Unit) =>
 Option.bind (i_Power ((Int.tmod y14.1.1 (4 : Int)), ((Int.tmod y15.1.1 (9 : Int)), ()))) fun (y20 : (Int × Unit) × Unit) =>
 cond (y18.1.1 == (IntKind.i64.wrap (y19.1.1 + y20.1.1)))
 (Option.bind (i_MostLeft (v13.2.1, ())) fun (y21 : (Int × Unit) × Unit) =>
 cond (decide (y21.1.1 ≥ (1 : Int)))
 (Option.bind (i_Sums ((3 : Int), ((Int.tmod y15.1.1 (9 : Int)), ()))) fun (y22 : (Int × Unit) × Unit) =>
 Option.bind (i_Power ((3 : Int), ((Int.tmod y15.1.1 (9 : Int)), ()))) fun (y23 : (Int × Unit) × Unit) =>
 some (((IntKind.i64.wrap ((IntKind.i64.wrap (y22.1.1 * (2 : Int))) + (1 : Int))) == y23.1.1), ()))
 (some (false, ())))
 (some (false, ())))
 (some (false, ()))) fun (v24 : Bool × Unit) =>
 some ((v24.1, ()), ())))) := by kernel_rfl

end Go.Fw

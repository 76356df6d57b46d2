/-
  Printed by a program of ours: the functions as they are run.
-/
import Derived.Test.YtjioijajmkdefaaGreatDoorCF
import Derived.Test.YtjioijajmkdefaaGreatDoorChecked
import Derived.KernelRfl
namespace Go.Proofs.YtjioijajmkdefaaGreatDoor.S
open Go Go.B Go.Proofs
set_option maxRecDepth 100000
set_option maxHeartbeats 4000000
noncomputable abbrev Ev (base : Nat) (G : Nat → Nat → Option Value) : Env := ⟨Tryz.prog, base, G⟩

/-! 4: plover/ploverlaw23.fixed -/
def law23_fixed_1 (E : Env) (call : CallF) (_fuel : Nat) (x1 : Value) (σ : St) : R :=
 bnd (bls 1 1 ⟨[(sv [])]⟩ [(0, (sv [102, 111, 120]))]) fun u0 => nws 9 1 1 u0 σ fun t19_1 s2 =>
 bnd (bld (plc [(0, 1), (1, 1)]) ⟨[(.int .u32 0), (.slice none 0 0)]⟩ [(0, (.int .u32 7)), (1, t19_1)]) fun t20_3 =>
 bnd (bld (plc [(0, 1), (1, 2), (3, 1), (4, 1)]) ⟨[(.int .i64 0), (.int .u32 0), (.slice none 0 0), (.int .u32 0), (sv [])]⟩ [(0, (.int .i64 1)), (1, t20_3)]) fun t21_4 =>
 nw 27 [(.int .i64 0), (.int .u32 0), (.slice none 0 0), (.int .u32 0), (sv [])] s2 fun t3_5 s6 =>
 bnd (stn E 5 s6 t3_5 t21_4) fun s7 =>
 bnd (ldn E 5 s7 t3_5) fun t23_8 =>
 callR (call 5 [x1, (.int .i64 0), t23_8] s7) fun t24_9 s10 =>
 bnd (ldn E 5 s10 t3_5) fun t26_11 =>
 callR (call 15 [x1, (.int .i64 0), t26_11] s10) fun t27_12 s13 =>
 callR (call 9 [x1] s13) fun t29_14 s15 =>
 bnd (bin E .eql 30 false true t24_9 (.int .i64 0)) fun t31_16 =>
 cnd t31_16 (cnd t27_12 (callB (call 12 [x1] s15) (fun t37_17 s18 =>
 bnd (bin E .eql 22 false true t37_17 (.int .u32 1)) fun t38_19 =>
 cnd t38_19 (bnd (lns t29_14) fun t42_20 =>
 bnd (bin E .eql 3 false true t42_20 (.int .i64 1)) fun t43_21 =>
 cnd t43_21 (bnd (ixs 13 t29_14 (.int .i64 0)) fun t47_22 =>
 bnd (fld 9 t47_22) fun t48_23 =>
 bnd (ld1 E s18 t48_23) fun t49_24 =>
 bnd (ixs 13 t29_14 (.int .i64 0)) fun t51_25 =>
 bnd (fld 10 t51_25) fun t52_26 =>
 bnd (ld1 E s18 t52_26) fun t53_27 =>
 bnd (bin E .eql 3 false false t49_24 t53_27) fun t54_28 =>
 cnd t54_28 (bnd (ixs 13 t29_14 (.int .i64 0)) fun t58_29 =>
 bnd (fld 11 t58_29) fun t59_30 =>
 bnd (ld1 E s18 t59_30) fun t60_31 =>
 bnd (bin E .eql 22 false true t60_31 (.int .u32 1)) fun t61_32 =>
 cnd t61_32 (bnd (ixs 13 t29_14 (.int .i64 0)) fun t65_33 =>
 bnd (fld 1 t65_33) fun t66_34 =>
 bnd (fld 1 t66_34) fun t67_35 =>
 bnd (fld 0 t67_35) fun t68_36 =>
 bnd (ld1 E s18 t68_36) fun t69_37 =>
 bnd (bin E .eql 22 false true t69_37 (.int .u32 7)) fun t70_38 =>
 cnd t70_38 (callB (call 6 [x1, (.int .i64 5)] s18) (fun t74_39 s40 =>
 bnd (notV t74_39) fun t75_41 =>
 cnd t75_41 (bnd (bld (plc [(0, 1), (1, 2), (3, 1), (4, 1)]) ⟨[(.int .i64 0), (.int .u32 0), (.slice none 0 0), (.int .u32 0), (sv [])]⟩ [(0, (.int .i64 4))]) fun t79_42 =>
 callB (call 5 [x1, (.int .i64 0), t79_42] s40) (fun t80_43 s44 =>
 bnd (bin E .eql 30 false true t80_43 (.int .i64 1)) fun t81_45 =>
 cnd t81_45 (callB (call 13 [x1] s44) (fun t85_46 s47 =>
 bnd (bin E .eql 3 false true t85_46 (.int .i64 1)) fun t86_48 =>
 some (.ret t86_48, s47)) (fun _ _ => none)) (some (.ret (.bool false), s44))) (fun _ _ => none)) (some (.ret (.bool false), s40))) (fun _ _ => none)) (some (.ret (.bool false), s18))) (some (.ret (.bool false), s18))) (some (.ret (.bool false), s18))) (some (.ret (.bool false), s18))) (some (.ret (.bool false), s18))) (fun _ _ => none)) (some (.ret (.bool false), s15))) (some (.ret (.bool false), s15))

def law23_fixed_2 (E : Env) (call : CallF) (fuel : Nat) (x1 x18 : Value) (σ : St) : R :=
 cnd x18
 (some (.ret (.bool false), σ))
 (law23_fixed_1 E call fuel x1 σ)

def law23_fixed_0 (E : Env) (call : CallF) (fuel : Nat) (σ : St) : R :=
 bnd (bld (pla 1) ⟨[(.int .i64 0), (.int .i64 0), (.int .i64 0), (.int .i64 0)]⟩ [(0, (.int .i64 1)), (1, (.int .i64 0)), (2, (.int .i64 0)), (3, (.int .i64 0))]) fun t8_49 =>
 bnd (bld (plc [(0, 1), (1, 1), (2, 4), (6, 1), (7, 1), (8, 1), (9, 1)]) ⟨[(.int .i64 0), (.int .i64 0), (.int .i64 0), (.int .i64 0), (.int .i64 0), (.int .i64 0), (.int .i64 0), (.int .i64 0), (.float .f64 0), (.float .f64 0)]⟩ [(0, (.int .i64 1)), (1, (.int .i64 64)), (2, t8_49), (3, (.int .i64 9)), (4, (.int .i64 200))]) fun t9_50 =>
 callR (call 14 [t9_50] σ) fun t10_51 s52 =>
 bnd (xtr 0 t10_51) fun t11_53 =>
 bnd (xtr 1 t10_51) fun t12_54 =>
 bnd (bin E .eql 28 false true t11_53 (.pointer none)) fun t14_55 =>
 cnd t14_55 (law23_fixed_2 E call fuel t11_53 (.bool true) s52) (bnd (bin E .neq 30 false true t12_54 (.int .i64 0)) fun t17_56 =>
 law23_fixed_2 E call fuel t11_53 t17_56 s52)

def law23_fixed (E : Env) (call : CallF) (fuel : Nat) (σ : St) : R := law23_fixed_0 E call fuel σ

/-! 5: (*plover/engine.Engine).Begin -/
def engine_Engine_Begin_2 (E : Env) (_call : CallF) (_fuel : Nat) (x1 x3 x7 : Value) (σ : St) : R :=
 bnd (ld1 E σ x3) fun t67_0 =>
 bnd (nck t67_0) fun t68_1 =>
 bnd (fld 20 t68_1) fun t69_2 =>
 bnd (ld1 E σ t69_2) fun t70_3 =>
 bnd (ld1 E σ x7) fun t72_4 =>
 bn2 (upm E 59 σ t70_3 x1 t72_4) fun _ s6 =>
 some (.ret (.int .i64 0), s6)

def engine_Engine_Begin_1 (E : Env) (call : CallF) (fuel : Nat) (x1 x3 x5 : Value) (σ : St) : R :=
 nw 54 [(.pointer none)] σ fun t7_7 s8 =>
 bnd (ldn E 5 s8 x5) fun t26_9 =>
 callB (call 17 [t26_9] s8) (fun t27_10 s11 =>
 bnd (ld1 E s11 x3) fun t28_12 =>
 bnd (nck t28_12) fun t29_13 =>
 bnd (fld 10 t29_13) fun t30_14 =>
 bnd (ld1 E s11 t30_14) fun t31_15 =>
 callB (call 18 [t31_15] s11) (fun t32_16 s17 =>
 bnd (ld1 E s17 x3) fun t33_18 =>
 bnd (nck t33_18) fun t34_19 =>
 bnd (fld 21 t34_19) fun t35_20 =>
 bnd (ld1 E s17 t35_20) fun t36_21 =>
 bnd (bld (plc [(0, 5), (5, 1), (6, 1), (7, 9), (16, 2), (18, 1), (19, 1), (20, 1), (21, 1)]) ⟨[(.int .i64 0), (.int .u32 0), (.slice none 0 0), (.int .u32 0), (sv []), (.pointer none), .nilFunc, (.slice none 0 0), (.int .i64 0), (.int .u32 0), (.int .i64 0), (.int .i64 0), (.int .i64 0), (.int .i64 0), (.int .i64 0), (.int .i64 0), (.int .i64 0), (.slice none 0 0), (.int .u32 0), (.int .i64 0), (.int .i64 0), (.int .i64 0)]⟩ [(0, t27_10), (1, t32_16), (6, t36_21)]) fun t37_22 =>
 nw 67 t37_22.cells.toList s17 fun t38_23 s24 =>
 bnd (st1 E s24 t7_7 t38_23) fun s25 =>
 bnd (ld1 E s8 t35_20) fun u26 =>
 smK u26 t36_21 (bnd (ld1 E s11 t35_20) fun u27 =>
 smK u27 t36_21 (bnd (ld1 E s8 x3) fun u28 =>
 smK u28 t33_18 (bnd (ld1 E s11 x3) fun u29 =>
 smK u29 t33_18 (bnd (ld1 E s8 t30_14) fun u30 =>
 smK u30 t31_15 (bnd (ld1 E s8 x3) fun u31 =>
 smK u31 t28_12 (bnd (ld1 E s25 x3) fun t39_32 =>
 bnd (nck t39_32) fun t40_33 =>
 bnd (fld 11 t40_33) fun t41_34 =>
 bnd (ldn E 9 s25 t41_34) fun t42_35 =>
 nw 58 [(.slice none 0 0), (.int .i64 0), (.int .u32 0), (.int .i64 0), (.int .i64 0), (.int .i64 0), (.int .i64 0), (.int .i64 0), (.int .i64 0)] s25 fun t8_36 s37 =>
 bnd (stn E 9 s37 t8_36 t42_35) fun s38 =>
 bnd (fld 0 x5) fun t43_39 =>
 bnd (ld1 E s38 t43_39) fun t44_40 =>
 bnd (bin E .eql 3 false true t44_40 (.int .i64 1)) fun t50_41 =>
 cnd t50_41
 (bnd (ld1 E s38 t7_7) fun t51_42 =>
 bnd (nck t51_42) fun t53_43 =>
 bnd (fld 6 t53_43) fun t54_44 =>
 bnd (st1 E s38 t54_44 (.func (.func 19) ⟨[]⟩ ⟨[x3, t8_36, t7_7]⟩)) fun s45 =>
 engine_Engine_Begin_2 E call fuel x1 x3 t7_7 s45)
 (bnd (bin E .eql 3 false true t44_40 (.int .i64 2)) fun t56_46 =>
 cnd t56_46
 (bnd (ld1 E s38 t7_7) fun t57_47 =>
 bnd (nck t57_47) fun t59_48 =>
 bnd (fld 6 t59_48) fun t60_49 =>
 bnd (st1 E s38 t60_49 (.func (.func 21) ⟨[]⟩ ⟨[x3, t8_36, t7_7]⟩)) fun s50 =>
 engine_Engine_Begin_2 E call fuel x1 x3 t7_7 s50)
 (bnd (bin E .eql 3 false true t44_40 (.int .i64 3)) fun t62_51 =>
 cnd t62_51
 (bnd (ld1 E s38 t7_7) fun t63_52 =>
 bnd (nck t63_52) fun t65_53 =>
 bnd (fld 6 t65_53) fun t66_54 =>
 bnd (st1 E s38 t66_54 (.func (.func 23) ⟨[]⟩ ⟨[x3, t8_36, t7_7]⟩)) fun s55 =>
 engine_Engine_Begin_2 E call fuel x1 x3 t7_7 s55)
 (bnd (ld1 E s38 t7_7) fun t45_56 =>
 bnd (nck t45_56) fun t47_57 =>
 bnd (fld 6 t47_57) fun t48_58 =>
 bnd (st1 E s38 t48_58 (.func (.func 25) ⟨[]⟩ ⟨[x3, t7_7]⟩)) fun s59 =>
 engine_Engine_Begin_2 E call fuel x1 x3 t7_7 s59)))))))))) (fun _ _ => none)) (fun _ _ => none)

def engine_Engine_Begin_3 (E : Env) (call : CallF) (fuel : Nat) (x1 x3 x5 x9 : Value) (σ : St) : R :=
 cnd x9
 (some (.ret (.int .i64 1), σ))
 (bnd (ld1 E σ x3) fun t19_60 =>
 bnd (nck t19_60) fun t20_61 =>
 bnd (fld 20 t20_61) fun t21_62 =>
 bnd (ld1 E σ t21_62) fun t22_63 =>
 bnd (lkp E 59 false σ t22_63 x1) fun t24_64 =>
 bnd (bin E .neq 54 false true t24_64 (.pointer none)) fun t25_65 =>
 cnd t25_65
 (some (.ret (.int .i64 10), σ))
 (engine_Engine_Begin_1 E call fuel x1 x3 x5 σ))

def engine_Engine_Begin_0 (E : Env) (call : CallF) (fuel : Nat) (x0 x1 x2 : Value) (σ : St) : R :=
 nw 28 x0.cells.toList σ fun t3_66 s67 =>
 nw 27 x2.cells.toList s67 fun t5_68 s69 =>
 bnd (ld1 E s69 t3_66) fun t10_70 =>
 bnd (bin E .eql 28 false true t10_70 (.pointer none)) fun t11_71 =>
 cnd t11_71 (engine_Engine_Begin_3 E call fuel x1 t3_66 t5_68 (.bool true) s69) (bnd (ldn E 5 s69 t5_68) fun t14_72 =>
 callR (call 16 [x1, t14_72] s69) fun t15_73 s74 =>
 bnd (notV t15_73) fun t16_75 =>
 engine_Engine_Begin_3 E call fuel x1 t3_66 t5_68 t16_75 s74)

def engine_Engine_Begin (E : Env) (call : CallF) (fuel : Nat) (x0 x1 x2 : Value) (σ : St) : R := engine_Engine_Begin_0 E call fuel x0 x1 x2 σ

/-! 6: (*plover/engine.Engine).Pick -/
def engine_Engine_Pick_2 (E : Env) (_call : CallF) (_fuel : Nat) (x0 x6 : Value) (σ : St) : R :=
 bnd (nck x0) fun t121_0 =>
 bnd (fld 22 t121_0) fun t122_1 =>
 bnd (ld1 E σ t122_1) fun t123_2 =>
 bnd (ldn E 13 σ x6) fun t124_3 =>
 bnd (bls 1 13 ⟨[(.int .i64 0), (.int .i64 0), (.int .u32 0), (.slice none 0 0), (.int .u32 0), (sv []), (.int .i64 0), (.slice none 0 0), (.int .i64 0), (.int .i64 0), (.int .i64 0), (.int .u32 0), (.int .i64 0)]⟩ [(0, t124_3)]) fun u4 => nws 53 1 1 u4 σ fun t125_5 s6 =>
 bn2 (app E 34 34 s6 t123_2 t125_5) fun t126_7 s8 =>
 bnd (nck x0) fun t127_9 =>
 bnd (fld 22 t127_9) fun t128_10 =>
 bnd (st1 E s8 t128_10 t126_7) fun s11 =>
 bnd (ld1 E s6 t122_1) fun u12 =>
 smK u12 t123_2 (some (.ret (.bool true), s11))

def engine_Engine_Pick_1 (E : Env) (call : CallF) (fuel : Nat) (x0 x1 x5 : Value) (σ : St) : R :=
 bnd (nck x5) fun t44_13 =>
 bnd (fld 5 t44_13) fun t45_14 =>
 bnd (ld1 E σ t45_14) fun t46_15 =>
 bnd (nck x5) fun t48_16 =>
 bnd (fld 6 t48_16) fun t49_17 =>
 bnd (ld1 E σ t49_17) fun t50_18 =>
 callB (call 27 [t46_15, t50_18] σ) (fun t51_19 s20 =>
 bnd (notV t51_19) fun t52_21 =>
 cnd t52_21
 (some (.ret (.bool true), s20))
 (bnd (nck x0) fun t54_22 =>
 bnd (fld 20 t54_22) fun t55_23 =>
 bnd (ld1 E s20 t55_23) fun t56_24 =>
 bn2 (dlt E 59 s20 t56_24 x1) fun _ s26 =>
 nw 53 [(.int .i64 0), (.int .i64 0), (.int .u32 0), (.slice none 0 0), (.int .u32 0), (sv []), (.int .i64 0), (.slice none 0 0), (.int .i64 0), (.int .i64 0), (.int .i64 0), (.int .u32 0), (.int .i64 0)] s26 fun t6_27 s28 =>
 bnd (nck x5) fun t60_29 =>
 bnd (fld 0 t60_29) fun t61_30 =>
 bnd (ldn E 5 s28 t61_30) fun t62_31 =>
 bnd (nck x5) fun t64_32 =>
 bnd (fld 16 t64_32) fun t65_33 =>
 bnd (ldn E 2 s28 t65_33) fun t66_34 =>
 bnd (nck x5) fun t68_35 =>
 bnd (fld 19 t68_35) fun t69_36 =>
 bnd (ld1 E s28 t69_36) fun t70_37 =>
 bnd (nck x0) fun t72_38 =>
 bnd (fld 21 t72_38) fun t73_39 =>
 bnd (ld1 E s28 t73_39) fun t74_40 =>
 bnd (nck x0) fun t76_41 =>
 bnd (fld 21 t76_41) fun t77_42 =>
 bnd (ld1 E s28 t77_42) fun t78_43 =>
 bnd (nck x5) fun t80_44 =>
 bnd (fld 18 t80_44) fun t81_45 =>
 bnd (ld1 E s28 t81_45) fun t82_46 =>
 bnd (nck x5) fun t84_47 =>
 bnd (fld 21 t84_47) fun t85_48 =>
 bnd (ld1 E s28 t85_48) fun t86_49 =>
 bnd (bld (plc [(0, 1), (1, 5), (6, 2), (8, 1), (9, 1), (10, 1), (11, 1), (12, 1)]) ⟨[(.int .i64 0), (.int .i64 0), (.int .u32 0), (.slice none 0 0), (.int .u32 0), (sv []), (.int .i64 0), (.slice none 0 0), (.int .i64 0), (.int .i64 0), (.int .i64 0), (.int .u32 0), (.int .i64 0)]⟩ [(0, x1), (1, t62_31), (2, t66_34), (3, t70_37), (4, t74_40), (5, t78_43), (6, t82_46), (7, t86_49)]) fun t87_50 =>
 bnd (stn E 13 s28 t6_27 t87_50) fun s51 =>
 bnd (nck x5) fun t95_52 =>
 bnd (fld 16 t95_52) fun t96_53 =>
 bnd (fld 0 t96_53) fun t97_54 =>
 bnd (ld1 E s51 t97_54) fun t98_55 =>
 bnd (bin E .neq 30 false true t98_55 (.int .i64 0)) fun t99_56 =>
 cnd t99_56
 (bnd (fld 11 t6_27) fun t100_57 =>
 bnd (st1 E s51 t100_57 (.int .u32 0)) fun s58 =>
 bnd (fld 6 t6_27) fun t101_59 =>
 bnd (fld 1 t101_59) fun t102_60 =>
 bnd (st1 E s58 t102_60 (.slice none 0 0)) fun s61 =>
 engine_Engine_Pick_2 E call fuel x0 t6_27 s61)
 (bnd (bin E .eql 3 false true x1 (.int .i64 0)) fun t105_62 =>
 cnd t105_62
 (bnd (nck x5) fun t108_63 =>
 bnd (fld 7 t108_63) fun t109_64 =>
 bnd (ldn E 9 s51 t109_64) fun t110_65 =>
 bnd (nck x0) fun t111_66 =>
 bnd (fld 11 t111_66) fun t112_67 =>
 bnd (stn E 9 s51 t112_67 t110_65) fun s68 =>
 bnd (nck x0) fun t114_69 =>
 bnd (fld 11 t114_69) fun t115_70 =>
 bnd (fld 2 t115_70) fun t116_71 =>
 bnd (ld1 E s68 t116_71) fun t117_72 =>
 bnd (fld 11 t6_27) fun t118_73 =>
 bnd (st1 E s68 t118_73 t117_72) fun s74 =>
 engine_Engine_Pick_2 E call fuel x0 t6_27 s74)
 (bnd (nck x5) fun t89_75 =>
 bnd (fld 20 t89_75) fun t90_76 =>
 bnd (ld1 E s51 t90_76) fun t91_77 =>
 bnd (fld 9 t6_27) fun t92_78 =>
 bnd (st1 E s51 t92_78 t91_77) fun s79 =>
 engine_Engine_Pick_2 E call fuel x0 t6_27 s79)))) (fun _ _ => none)

def engine_Engine_Pick_0 (E : Env) (call : CallF) (fuel : Nat) (x0 x1 : Value) (σ : St) : R :=
 callR (call 7 [x0, x1] σ) fun t9_80 s81 =>
 bnd (notV t9_80) fun t10_82 =>
 cnd t10_82
 (some (.ret (.bool false), s81))
 (bnd (nck x0) fun t12_83 =>
 bnd (fld 20 t12_83) fun t13_84 =>
 bnd (ld1 E s81 t13_84) fun t14_85 =>
 bnd (lkp E 59 false s81 t14_85 x1) fun t16_86 =>
 bnd (nck x0) fun t18_87 =>
 bnd (fld 21 t18_87) fun t19_88 =>
 bnd (ld1 E s81 t19_88) fun t20_89 =>
 bnd (bin E .add 3 false true t20_89 (.int .i64 1)) fun t21_90 =>
 bnd (nck x0) fun t22_91 =>
 bnd (fld 21 t22_91) fun t23_92 =>
 bnd (st1 E s81 t23_92 t21_90) fun s93 =>
 bnd (nck t16_86) fun t25_94 =>
 bnd (fld 21 t25_94) fun t26_95 =>
 bnd (ld1 E s93 t26_95) fun t27_96 =>
 bnd (bin E .add 3 false true t27_96 (.int .i64 1)) fun t28_97 =>
 bnd (nck t16_86) fun t29_98 =>
 bnd (fld 21 t29_98) fun t30_99 =>
 bnd (st1 E s93 t30_99 t28_97) fun s100 =>
 bnd (nck t16_86) fun t32_101 =>
 bnd (fld 20 t32_101) fun t33_102 =>
 bnd (ld1 E s100 t33_102) fun t34_103 =>
 bnd (bin E .eql 3 false true t34_103 (.int .i64 0)) fun t35_104 =>
 cnd t35_104
 (bnd (nck x0) fun t38_105 =>
 bnd (fld 21 t38_105) fun t39_106 =>
 bnd (ld1 E s100 t39_106) fun t40_107 =>
 bnd (nck t16_86) fun t41_108 =>
 bnd (fld 20 t41_108) fun t42_109 =>
 bnd (st1 E s100 t42_109 t40_107) fun s110 =>
 engine_Engine_Pick_1 E call fuel x0 x1 t16_86 s110)
 (engine_Engine_Pick_1 E call fuel x0 x1 t16_86 s100))

def engine_Engine_Pick (E : Env) (call : CallF) (fuel : Nat) (x0 x1 : Value) (σ : St) : R := engine_Engine_Pick_0 E call fuel x0 x1 σ

/-! 7: (*plover/engine.Engine).Busy -/
def engine_Engine_Busy_0 (E : Env) (_call : CallF) (_fuel : Nat) (x0 x1 : Value) (σ : St) : R :=
 bnd (bin E .neq 28 false true x0 (.pointer none)) fun t6_0 =>
 cnd t6_0 (bnd (nck x0) fun t9_1 =>
 bnd (fld 20 t9_1) fun t10_2 =>
 bnd (ld1 E σ t10_2) fun t11_3 =>
 bnd (lkp E 59 false σ t11_3 x1) fun t13_4 =>
 bnd (bin E .neq 54 false true t13_4 (.pointer none)) fun t14_5 =>
 some (.ret t14_5, σ)) (some (.ret (.bool false), σ))

def engine_Engine_Busy (E : Env) (call : CallF) (fuel : Nat) (x0 x1 : Value) (σ : St) : R := engine_Engine_Busy_0 E call fuel x0 x1 σ

/-! 8: (*plover/engine.Engine).Steps -/
def engine_Engine_Steps_0 (E : Env) (_call : CallF) (_fuel : Nat) (x0 : Value) (σ : St) : R :=
 bnd (bin E .eql 28 false true x0 (.pointer none)) fun t4_0 =>
 cnd t4_0
 (some (.ret (.int .i64 0), σ))
 (bnd (nck x0) fun t6_1 =>
 bnd (fld 21 t6_1) fun t7_2 =>
 bnd (ld1 E σ t7_2) fun t8_3 =>
 some (.ret t8_3, σ))

def engine_Engine_Steps (E : Env) (call : CallF) (fuel : Nat) (x0 : Value) (σ : St) : R := engine_Engine_Steps_0 E call fuel x0 σ

/-! 9: (*plover/engine.Engine).History -/
def engine_Engine_History_2 (E : Env) (call : CallF) (_fuel : Nat) (r2 : Value → Value → Value → St → R) (x3 x13 x14 : Value) (σ : St) : R :=
 bnd (bin E .lss 3 false false x14 x13) fun t15_0 =>
 cnd t15_0
 (bnd (ixs 13 x3 x14) fun t21_1 =>
 bnd (fld 1 t21_1) fun t22_2 =>
 bnd (ldn E 5 σ t22_2) fun t23_3 =>
 callR (call 17 [t23_3] σ) fun t24_4 s5 =>
 bnd (ixs 13 x3 x14) fun t25_6 =>
 bnd (fld 1 t25_6) fun t26_7 =>
 bnd (stn E 5 s5 t26_7 t24_4) fun s8 =>
 bnd (ixs 13 x3 x14) fun t31_9 =>
 bnd (fld 6 t31_9) fun t32_10 =>
 bnd (fld 1 t32_10) fun t33_11 =>
 bnd (ld1 E s8 t33_11) fun t34_12 =>
 callR (call 29 [t34_12] s8) fun t35_13 s14 =>
 bnd (ixs 13 x3 x14) fun t36_15 =>
 bnd (fld 6 t36_15) fun t37_16 =>
 bnd (fld 1 t37_16) fun t38_17 =>
 bnd (st1 E s14 t38_17 t35_13) fun s18 =>
 bnd (bin E .add 3 false true x14 (.int .i64 1)) fun t39_19 =>
 r2 x3 x13 t39_19 s18)
 (some (.ret x3, σ))

def engine_Engine_History_1 (E : Env) (call : CallF) (fuel : Nat) : Nat → Value → Value → Value → St → R
  | 0, _, _, _, _ => none
  | n + 1, x3, x13, x14, σ => engine_Engine_History_2 E call fuel (engine_Engine_History_1 E call fuel n) x3 x13 x14 σ

def engine_Engine_History_0 (E : Env) (call : CallF) (fuel : Nat) (x0 : Value) (σ : St) : R :=
 bnd (bin E .eql 28 false true x0 (.pointer none)) fun t6_20 =>
 cnd t6_20
 (some (.ret (.slice none 0 0), σ))
 (bnd (nck x0) fun t8_21 =>
 bnd (fld 22 t8_21) fun t9_22 =>
 bnd (ld1 E σ t9_22) fun t10_23 =>
 callR (call 28 [t10_23] σ) fun t11_24 s25 =>
 bnd (lns t11_24) fun t13_26 =>
 engine_Engine_History_1 E call fuel fuel t11_24 t13_26 (.int .i64 0) s25)

def engine_Engine_History (E : Env) (call : CallF) (fuel : Nat) (x0 : Value) (σ : St) : R := engine_Engine_History_0 E call fuel x0 σ

/-! 10: (*plover/engine.Engine).Cells -/
def engine_Engine_Cells_0 (E : Env) (call : CallF) (_fuel : Nat) (x0 : Value) (σ : St) : R :=
 bnd (bin E .eql 28 false true x0 (.pointer none)) fun t4_0 =>
 cnd t4_0
 (some (.ret (.slice none 0 0), σ))
 (bnd (nck x0) fun t6_1 =>
 bnd (fld 10 t6_1) fun t7_2 =>
 bnd (ld1 E σ t7_2) fun t8_3 =>
 callR (call 30 [t8_3] σ) fun t9_4 s5 =>
 some (.ret t9_4, s5))

def engine_Engine_Cells (E : Env) (call : CallF) (fuel : Nat) (x0 : Value) (σ : St) : R := engine_Engine_Cells_0 E call fuel x0 σ

/-! 11: (*plover/engine.Engine).Used -/
def engine_Engine_Used_0 (E : Env) (_call : CallF) (_fuel : Nat) (x0 : Value) (σ : St) : R :=
 nw 3 [(.int .i64 0), (.int .i64 0), (.int .i64 0), (.int .i64 0), (.int .i64 0), (.int .i64 0)] σ fun t2_0 s1 =>
 bnd (bin E .eql 28 false true x0 (.pointer none)) fun t4_2 =>
 cnd t4_2
 (bnd (bld (pla 1) ⟨[(.int .i64 0), (.int .i64 0), (.int .i64 0), (.int .i64 0), (.int .i64 0), (.int .i64 0)]⟩ []) fun t5_3 =>
 bnd (stn E 6 s1 t2_0 t5_3) fun s4 =>
 bnd (ldn E 6 s4 t2_0) fun r5 =>
 some (.ret r5, s4))
 (bnd (nck x0) fun t7_6 =>
 bnd (fld 11 t7_6) fun t8_7 =>
 bnd (fld 3 t8_7) fun t9_8 =>
 bnd (ldn E 6 s1 t9_8) fun t10_9 =>
 bnd (stn E 6 s1 t2_0 t10_9) fun s10 =>
 bnd (ldn E 6 s10 t2_0) fun r11 =>
 some (.ret r11, s10))

def engine_Engine_Used (E : Env) (call : CallF) (fuel : Nat) (x0 : Value) (σ : St) : R := engine_Engine_Used_0 E call fuel x0 σ

/-! 12: (*plover/engine.Engine).Version -/
def engine_Engine_Version_0 (E : Env) (_call : CallF) (_fuel : Nat) (x0 : Value) (σ : St) : R :=
 bnd (bin E .eql 28 false true x0 (.pointer none)) fun t4_0 =>
 cnd t4_0
 (some (.ret (.int .u32 0), σ))
 (bnd (nck x0) fun t6_1 =>
 bnd (fld 11 t6_1) fun t7_2 =>
 bnd (fld 2 t7_2) fun t8_3 =>
 bnd (ld1 E σ t8_3) fun t9_4 =>
 some (.ret t9_4, σ))

def engine_Engine_Version (E : Env) (call : CallF) (fuel : Nat) (x0 : Value) (σ : St) : R := engine_Engine_Version_0 E call fuel x0 σ

/-! 13: (*plover/engine.Engine).Segments -/
def engine_Engine_Segments_0 (E : Env) (_call : CallF) (_fuel : Nat) (x0 : Value) (σ : St) : R :=
 bnd (bin E .eql 28 false true x0 (.pointer none)) fun t4_0 =>
 cnd t4_0
 (some (.ret (.int .i64 0), σ))
 (bnd (nck x0) fun t6_1 =>
 bnd (fld 11 t6_1) fun t7_2 =>
 bnd (fld 0 t7_2) fun t8_3 =>
 bnd (ld1 E σ t8_3) fun t9_4 =>
 bnd (lns t9_4) fun t10_5 =>
 some (.ret t10_5, σ))

def engine_Engine_Segments (E : Env) (call : CallF) (fuel : Nat) (x0 : Value) (σ : St) : R := engine_Engine_Segments_0 E call fuel x0 σ

/-! 14: plover/engine.New -/
def engine_New_0 (E : Env) (call : CallF) (_fuel : Nat) (x0 : Value) (σ : St) : R :=
 nw 47 x0.cells.toList σ fun t1_0 s1 =>
 bnd (ldn E 10 s1 t1_0) fun t9_2 =>
 callR (call 31 [t9_2] s1) fun t10_3 s4 =>
 bnd (xtr 0 t10_3) fun t11_5 =>
 bnd (xtr 1 t10_3) fun t12_6 =>
 nw 80 [(.int .i64 0), (.int .i64 0), (.int .i64 0), (.int .i64 0), (.int .i64 0), (.int .i64 0), (.int .i64 0), (.int .i64 0), (.int .i64 0), (.int .i64 0), (.int .i64 0), (.int .i64 0), (.int .i64 0), (.int .i64 0), (.int .i64 0)] s4 fun t4_7 s8 =>
 bnd (stn E 15 s8 t4_7 t11_5) fun s9 =>
 bnd (bin E .neq 30 false true t12_6 (.int .i64 0)) fun t14_10 =>
 cnd t14_10
 (some (.ret (.tuple ⟨[(.pointer none), t12_6]⟩), s9))
 (bnd (fld 12 t4_7) fun t17_11 =>
 bnd (ld1 E s9 t17_11) fun t18_12 =>
 callR (call 32 [t18_12] s9) fun t19_13 s14 =>
 bnd (xtr 0 t19_13) fun t20_15 =>
 bnd (xtr 1 t19_13) fun t21_16 =>
 bnd (bin E .neq 30 false true t21_16 (.int .i64 0)) fun t23_17 =>
 cnd t23_17
 (some (.ret (.tuple ⟨[(.pointer none), t21_16]⟩), s14))
 (bnd (ldn E 10 s14 t1_0) fun t27_18 =>
 callR (call 33 [t20_15, t27_18] s14) fun t28_19 s20 =>
 bnd (xtr 0 t28_19) fun t29_21 =>
 bnd (xtr 1 t28_19) fun t30_22 =>
 nw 58 [(.slice none 0 0), (.int .i64 0), (.int .u32 0), (.int .i64 0), (.int .i64 0), (.int .i64 0), (.int .i64 0), (.int .i64 0), (.int .i64 0)] s20 fun t7_23 s24 =>
 bnd (stn E 9 s24 t7_23 t29_21) fun s25 =>
 bnd (bin E .neq 30 false true t30_22 (.int .i64 0)) fun t32_26 =>
 cnd t32_26
 (some (.ret (.tuple ⟨[(.pointer none), t30_22]⟩), s25))
 (bnd (ldn E 10 s25 t1_0) fun t34_27 =>
 bnd (ldn E 9 s25 t7_23) fun t36_28 =>
 bnd (bld (plc [(0, 10), (10, 1), (11, 9), (20, 1), (21, 1), (22, 1)]) ⟨[(.int .i64 0), (.int .i64 0), (.int .i64 0), (.int .i64 0), (.int .i64 0), (.int .i64 0), (.int .i64 0), (.int .i64 0), (.float .f64 0), (.float .f64 0), (.pointer none), (.slice none 0 0), (.int .i64 0), (.int .u32 0), (.int .i64 0), (.int .i64 0), (.int .i64 0), (.int .i64 0), (.int .i64 0), (.int .i64 0), (.map none), (.int .i64 0), (.slice none 0 0)]⟩ [(0, t34_27), (1, t20_15), (2, t36_28), (3, (.map (some s25.nx)))]) fun t38_29 =>
 nw 61 t38_29.cells.toList (s25.new (.map [] 0)) fun t39_30 s31 =>
 some (.ret (.tuple ⟨[t39_30, (.int .i64 0)]⟩), s31))))

def engine_New (E : Env) (call : CallF) (fuel : Nat) (x0 : Value) (σ : St) : R := engine_New_0 E call fuel x0 σ

/-! 15: plover/ploverlaw23.rest -/
def law23_rest_3 (_E : Env) (_call : CallF) (_fuel : Nat) (r2 : Value → Value → Value → St → R) (x0 x1 x7 x25 : Value) (σ : St) : R :=
 cnd x25
 (some (.ret (.bool false), σ))
 (r2 x0 x1 x7 σ)

def law23_rest_2 (E : Env) (call : CallF) (fuel : Nat) (r2 : Value → Value → Value → St → R) (x0 x1 x7 : Value) (σ : St) : R :=
 callR (call 7 [x0, x1] σ) fun t15_0 s1 =>
 cnd t15_0
 (bnd (bin E .sub 3 false true x7 (.int .i64 1)) fun t17_2 =>
 bnd (bin E .lss 3 false true t17_2 (.int .i64 0)) fun t19_3 =>
 cnd t19_3 (law23_rest_3 E call fuel r2 x0 x1 t17_2 (.bool true) s1) (callR (call 6 [x0, x1] s1) fun t23_4 s5 =>
 bnd (notV t23_4) fun t24_6 =>
 law23_rest_3 E call fuel r2 x0 x1 t17_2 t24_6 s5))
 (some (.ret (.bool true), s1))

def law23_rest_1 (E : Env) (call : CallF) (fuel : Nat) : Nat → Value → Value → Value → St → R
  | 0, _, _, _, _ => none
  | n + 1, x0, x1, x7, σ => law23_rest_2 E call fuel (law23_rest_1 E call fuel n) x0 x1 x7 σ

def law23_rest_0 (E : Env) (call : CallF) (fuel : Nat) (x0 x1 x2 : Value) (σ : St) : R :=
 nw 27 x2.cells.toList σ fun t5_7 s8 =>
 callB (call 10 [x0] s8) (fun t9_9 s10 =>
 bnd (lns t9_9) fun t10_11 =>
 bnd (ldn E 5 s10 t5_7) fun t11_12 =>
 callB (call 34 [t10_11, t11_12] s10) (fun t12_13 s14 =>
 bnd (ldn E 5 s8 t5_7) fun u15 =>
 smK u15 t11_12 (law23_rest_1 E call fuel fuel x0 x1 t12_13 s14)) (fun _ _ => none)) (fun _ _ => none)

def law23_rest (E : Env) (call : CallF) (fuel : Nat) (x0 x1 x2 : Value) (σ : St) : R := law23_rest_0 E call fuel x0 x1 x2 σ

/-! 16: plover/engine.fits -/
def engine_fits_1 (E : Env) (_call : CallF) (_fuel : Nat) (x0 x6 x7 : Value) (σ : St) : R :=
 cnd x7
 (bnd (bin E .eql 3 false true x0 (.int .i64 0)) fun t12_0 =>
 some (.ret t12_0, σ))
 (bnd (bin E .eql 3 false true x6 (.int .i64 4)) fun t14_1 =>
 cnd t14_1
 (bnd (bin E .geq 3 false true x0 (.int .i64 1)) fun t16_2 =>
 cnd t16_2 (bnd (bin E .leq 3 false true x0 (.int .i64 64)) fun t19_3 =>
 some (.ret t19_3, σ)) (some (.ret (.bool false), σ)))
 (some (.ret (.bool false), σ)))

def engine_fits_0 (E : Env) (call : CallF) (fuel : Nat) (x0 x1 : Value) (σ : St) : R :=
 nw 27 x1.cells.toList σ fun t3_4 s5 =>
 bnd (fld 0 t3_4) fun t5_6 =>
 bnd (ld1 E s5 t5_6) fun t6_7 =>
 bnd (bin E .eql 3 false true t6_7 (.int .i64 1)) fun t8_8 =>
 cnd t8_8
 (engine_fits_1 E call fuel x0 t6_7 t8_8 s5)
 (bnd (bin E .eql 3 false true t6_7 (.int .i64 2)) fun t9_9 =>
 cnd t9_9
 (engine_fits_1 E call fuel x0 t6_7 t9_9 s5)
 (bnd (bin E .eql 3 false true t6_7 (.int .i64 3)) fun t10_10 =>
 engine_fits_1 E call fuel x0 t6_7 t10_10 s5))

def engine_fits (E : Env) (call : CallF) (fuel : Nat) (x0 x1 : Value) (σ : St) : R := engine_fits_0 E call fuel x0 x1 σ

/-! 17: plover/engine.clone -/
def engine_clone_0 (E : Env) (call : CallF) (_fuel : Nat) (x0 : Value) (σ : St) : R :=
 nw 27 x0.cells.toList σ fun t1_0 s1 =>
 nw 27 [(.int .i64 0), (.int .u32 0), (.slice none 0 0), (.int .u32 0), (sv [])] s1 fun t2_2 s3 =>
 bnd (fld 1 t1_0) fun t3_4 =>
 bnd (fld 1 t3_4) fun t4_5 =>
 bnd (ld1 E s3 t4_5) fun t5_6 =>
 callR (call 35 [t5_6] s3) fun t6_7 s8 =>
 bnd (fld 1 t1_0) fun t7_9 =>
 bnd (fld 1 t7_9) fun t8_10 =>
 bnd (st1 E s8 t8_10 t6_7) fun s11 =>
 bnd (ldn E 5 s11 t1_0) fun t9_12 =>
 bnd (stn E 5 s11 t2_2 t9_12) fun s13 =>
 bnd (ldn E 5 s13 t2_2) fun r14 =>
 some (.ret r14, s13)

def engine_clone (E : Env) (call : CallF) (fuel : Nat) (x0 : Value) (σ : St) : R := engine_clone_0 E call fuel x0 σ

/-! 18: plover/step.New -/
def step_New_0 (E : Env) (_call : CallF) (_fuel : Nat) (x0 : Value) (σ : St) : R :=
 bnd (bld (plc [(0, 1), (1, 1), (2, 1), (3, 1), (4, 1), (5, 1), (6, 1), (7, 1)]) ⟨[(.pointer none), (.slice none 0 0), (.int .i64 0), (.bool false), (.bool false), (.bool false), (.bool false), (.int .i64 0)]⟩ [(0, x0)]) fun t5_0 =>
 nw 89 t5_0.cells.toList σ fun t6_1 s2 =>
 bnd (bin E .eql 55 false true x0 (.pointer none)) fun t8_3 =>
 cnd t8_3
 (bnd (nck t6_1) fun t11_4 =>
 bnd (fld 6 t11_4) fun t12_5 =>
 bnd (st1 E s2 t12_5 (.bool true)) fun s6 =>
 bnd (nck t6_1) fun t13_7 =>
 bnd (fld 7 t13_7) fun t14_8 =>
 bnd (st1 E s6 t14_8 (.int .i64 1)) fun s9 =>
 some (.ret t6_1, s9))
 (some (.ret t6_1, s2))

def step_New (E : Env) (call : CallF) (fuel : Nat) (x0 : Value) (σ : St) : R := step_New_0 E call fuel x0 σ

/-! 19: (*plover/engine.Engine).Begin$1 -/
def engine_Engine_Begin_c1_0 (E : Env) (call : CallF) (_fuel : Nat) (x0 x1 x2 x3 : Value) (σ : St) : R :=
 bnd (ld1 E σ x3) fun t6_0 =>
 bnd (ld1 E σ x3) fun t7_1 =>
 bnd (ld1 E σ x1) fun t9_2 =>
 bnd (nck t9_2) fun t10_3 =>
 bnd (fld 0 t10_3) fun t11_4 =>
 bnd (ldn E 10 σ t11_4) fun t12_5 =>
 bnd (ldn E 9 σ x2) fun t13_6 =>
 bnd (ld1 E σ x3) fun t14_7 =>
 bnd (nck t14_7) fun t15_8 =>
 bnd (fld 0 t15_8) fun t16_9 =>
 bnd (fld 1 t16_9) fun t17_10 =>
 bnd (ldn E 2 σ t17_10) fun t18_11 =>
 callB (call 20 [x0, t12_5, t13_6, t18_11] σ) (fun t19_12 s13 =>
 bnd (xtr 0 t19_12) fun t20_14 =>
 bnd (xtr 1 t19_12) fun t21_15 =>
 bnd (nck t6_0) fun t22_16 =>
 bnd (fld 7 t22_16) fun t23_17 =>
 bnd (stn E 9 s13 t23_17 t20_14) fun s18 =>
 bnd (nck t7_1) fun t24_19 =>
 bnd (fld 16 t24_19) fun t25_20 =>
 bnd (fld 0 t25_20) fun t26_21 =>
 bnd (st1 E s18 t26_21 t21_15) fun s22 =>
 bnd (ld1 E s13 x3) fun u23 =>
 smK u23 t7_1 (bnd (ld1 E s18 x3) fun u24 =>
 smK u24 t7_1 (bnd (ld1 E s13 x3) fun u25 =>
 smK u25 t6_0 (some (.ret (.tuple ⟨[]⟩), s22))))) (fun _ _ => none)

def engine_Engine_Begin_c1 (E : Env) (call : CallF) (fuel : Nat) (x0 x1 x2 x3 : Value) (σ : St) : R := engine_Engine_Begin_c1_0 E call fuel x0 x1 x2 x3 σ

/-! 20: plover/write.Add -/
def write_Add_2 (E : Env) (call : CallF) (_fuel : Nat) (x0 x6 x7 x8 x10 x17 x20 : Value) (σ : St) : R :=
 bnd (fld 2 x6) fun t141_0 =>
 bnd (ld1 E σ t141_0) fun t142_1 =>
 bnd (bin E .add 22 false true t142_1 (.int .u32 1)) fun t143_2 =>
 bnd (fld 2 x6) fun t144_3 =>
 bnd (st1 E σ t144_3 t143_2) fun s4 =>
 bnd (nck x17) fun t147_5 =>
 bnd (ldn E 3 s4 t147_5) fun t148_6 =>
 callB (call 38 [t148_6] s4) (fun t149_7 s8 =>
 bnd (nck x17) fun t151_9 =>
 bnd (fld 1 t151_9) fun t152_10 =>
 bnd (ld1 E s8 t152_10) fun t153_11 =>
 bnd (fld 0 x7) fun t154_12 =>
 bnd (ld1 E s8 t154_12) fun t155_13 =>
 bnd (lns x10) fun t157_14 =>
 bnd (cvi .u32 t157_14) fun t158_15 =>
 bnd (fld 2 x6) fun t159_16 =>
 bnd (ld1 E s8 t159_16) fun t160_17 =>
 callB (call 45 [x0, t149_7, t153_11, t155_13, t158_15, t160_17] s8) (fun _ s19 =>
 bnd (ld1 E s4 t159_16) fun u20 =>
 smK u20 t160_17 (bnd (cvi .u32 t157_14) fun u21 =>
 smK u21 t158_15 (bnd (lns x10) fun u22 =>
 smK u22 t157_14 (bnd (ld1 E s4 t154_12) fun u23 =>
 smK u23 t155_13 (bnd (ld1 E s4 t152_10) fun u24 =>
 smK u24 t153_11 (bnd (fld 2 x6) fun t163_25 =>
 bnd (ld1 E s19 t163_25) fun t164_26 =>
 callR (call 46 [x0, (.int .i64 1), t164_26] s19) fun _ s28 =>
 bnd (nck x17) fun t167_29 =>
 bnd (fld 1 t167_29) fun t168_30 =>
 bnd (ld1 E s28 t168_30) fun t169_31 =>
 bnd (bin E .add 3 false true t169_31 (.int .i64 1)) fun t170_32 =>
 bnd (nck x17) fun t171_33 =>
 bnd (fld 1 t171_33) fun t172_34 =>
 bnd (st1 E s28 t172_34 t170_32) fun s35 =>
 bnd (fld 1 x6) fun t173_36 =>
 bnd (ld1 E s35 t173_36) fun t174_37 =>
 bnd (bin E .add 3 false false t174_37 x20) fun t176_38 =>
 bnd (fld 1 x6) fun t177_39 =>
 bnd (st1 E s35 t177_39 t176_38) fun s40 =>
 bnd (ldn E 9 s40 x6) fun t178_41 =>
 bnd (stn E 9 s40 x8 t178_41) fun s42 =>
 bnd (ldn E 9 s42 x8) fun r43 =>
 some (.ret (.tuple ⟨[r43, (.int .i64 0)]⟩), s42))))))) (fun _ _ => none)) (fun _ _ => none)

def write_Add_4 (E : Env) (call : CallF) (fuel : Nat) (r4 : Value → Value → Value → Value → Value → Value → Value → Value → Value → Value → Value → Value → Value → St → R) (x0 x6 x7 x8 x10 x12 x17 x18 x19 x20 x121 x122 x123 : Value) (σ : St) : R :=
 bnd (bin E .lss 3 false false x123 x122) fun t124_44 =>
 cnd t124_44
 (bnd (ixs 3 x121 x123) fun t125_45 =>
 bnd (ldn E 3 σ t125_45) fun t126_46 =>
 nw 106 [(.int .u8 0), (sv []), (.int .i64 0)] σ fun t23_47 s48 =>
 bnd (stn E 3 s48 t23_47 t126_46) fun s49 =>
 bnd (ldn E 15 s49 x12) fun t128_50 =>
 bnd (fld 3 x6) fun t129_51 =>
 bnd (ldn E 6 s49 t129_51) fun t130_52 =>
 bnd (nck x17) fun t133_53 =>
 bnd (fld 1 t133_53) fun t134_54 =>
 bnd (ld1 E s49 t134_54) fun t135_55 =>
 bnd (ldn E 3 s49 t23_47) fun t136_56 =>
 callB (call 44 [x0, t128_50, t130_52, x18, t135_55, t136_56, x19] s49) (fun t138_57 s58 =>
 bnd (fld 3 x6) fun t139_59 =>
 bnd (stn E 6 s58 t139_59 t138_57) fun s60 =>
 bnd (bin E .add 3 false true x123 (.int .i64 1)) fun t140_61 =>
 r4 x0 x6 x7 x8 x10 x12 x17 x18 x19 x20 x121 x122 t140_61 s60) (fun _ _ => none))
 (write_Add_2 E call fuel x0 x6 x7 x8 x10 x17 x20 σ)

def write_Add_3 (E : Env) (call : CallF) (fuel : Nat) : Nat → Value → Value → Value → Value → Value → Value → Value → Value → Value → Value → Value → Value → Value → St → R
  | 0, _, _, _, _, _, _, _, _, _, _, _, _, _, _ => none
  | n + 1, x0, x6, x7, x8, x10, x12, x17, x18, x19, x20, x121, x122, x123, σ => write_Add_4 E call fuel (write_Add_3 E call fuel n) x0 x6 x7 x8 x10 x12 x17 x18 x19 x20 x121 x122 x123 σ

def write_Add_1 (E : Env) (call : CallF) (fuel : Nat) (x0 x5 x6 x7 x8 x10 x12 x18 : Value) (σ : St) : R :=
 bnd (fld 13 x12) fun t79_62 =>
 bnd (ld1 E σ t79_62) fun t80_63 =>
 callR (call 40 [x0, x18, t80_63, x10] σ) fun t82_64 s65 =>
 bnd (ldn E 15 s65 x12) fun t84_66 =>
 callR (call 41 [t84_66, t82_64] s65) fun t86_67 s68 =>
 bnd (xtr 0 t86_67) fun t87_69 =>
 bnd (xtr 1 t86_67) fun t88_70 =>
 nw 3 [(.int .i64 0), (.int .i64 0), (.int .i64 0), (.int .i64 0), (.int .i64 0), (.int .i64 0)] s68 fun t21_71 s72 =>
 bnd (stn E 6 s72 t21_71 t88_70) fun s73 =>
 callR (call 39 [x0] s73) fun t91_74 s75 =>
 cnd t91_74
 (bnd (ldn E 9 s75 x6) fun t92_76 =>
 bnd (stn E 9 s75 x8 t92_76) fun s77 =>
 bnd (ldn E 9 s77 x8) fun r78 =>
 some (.ret (.tuple ⟨[r78, (.int .i64 0)]⟩), s77))
 (bnd (fld 1 x5) fun t95_79 =>
 bnd (ld1 E s75 t95_79) fun t96_80 =>
 bnd (fld 1 x6) fun t97_81 =>
 bnd (ld1 E s75 t97_81) fun t98_82 =>
 bnd (bin E .sub 3 false false t96_80 t98_82) fun t99_83 =>
 bnd (bin E .gtr 3 false false t87_69 t99_83) fun t100_84 =>
 cnd t100_84
 (bnd (ldn E 9 s75 x6) fun t101_85 =>
 bnd (stn E 9 s75 x8 t101_85) fun s86 =>
 bnd (ldn E 9 s86 x8) fun r87 =>
 some (.ret (.tuple ⟨[r87, (.int .i64 5)]⟩), s86))
 (bnd (ldn E 15 s75 x12) fun t103_88 =>
 bnd (fld 3 x6) fun t104_89 =>
 bnd (ldn E 6 s75 t104_89) fun t105_90 =>
 bnd (ldn E 6 s75 t21_71) fun t106_91 =>
 callR (call 42 [t103_88, t105_90, t106_91] s75) fun t107_92 s93 =>
 bnd (notV t107_92) fun t108_94 =>
 cnd t108_94
 (bnd (ldn E 9 s93 x6) fun t109_95 =>
 bnd (stn E 9 s93 x8 t109_95) fun s96 =>
 bnd (ldn E 9 s96 x8) fun r97 =>
 some (.ret (.tuple ⟨[r97, (.int .i64 3)]⟩), s96))
 (bnd (fld 0 x6) fun t110_98 =>
 bnd (ld1 E s93 t110_98) fun t111_99 =>
 callR (call 43 [t111_99] s93) fun t112_100 s101 =>
 bnd (fld 0 x6) fun t113_102 =>
 bnd (st1 E s101 t113_102 t112_100) fun s103 =>
 bnd (fld 0 x6) fun t114_104 =>
 bnd (ld1 E s103 t114_104) fun t115_105 =>
 bnd (fld 0 x6) fun t116_106 =>
 bnd (ld1 E s103 t116_106) fun t117_107 =>
 bnd (lns t117_107) fun t118_108 =>
 bnd (bin E .sub 3 false true t118_108 (.int .i64 1)) fun t119_109 =>
 bnd (ixs 3 t115_105 t119_109) fun t120_110 =>
 bnd (lns x10) fun t122_111 =>
 write_Add_3 E call fuel fuel x0 x6 x7 x8 x10 x12 t120_110 x18 t82_64 t87_69 x10 t122_111 (.int .i64 0) s103)))

def write_Add_5 (E : Env) (call : CallF) (fuel : Nat) (x0 x5 x6 x7 x8 x10 x12 x18 x75 : Value) (σ : St) : R :=
 cnd x75
 (bnd (ldn E 9 σ x6) fun t76_112 =>
 bnd (stn E 9 σ x8 t76_112) fun s113 =>
 bnd (ldn E 9 s113 x8) fun r114 =>
 some (.ret (.tuple ⟨[r114, (.int .i64 5)]⟩), s113))
 (write_Add_1 E call fuel x0 x5 x6 x7 x8 x10 x12 x18 σ)

def write_Add_0 (E : Env) (call : CallF) (fuel : Nat) (x0 x1 x2 x3 : Value) (σ : St) : R :=
 nw 47 x1.cells.toList σ fun t5_115 s116 =>
 nw 58 x2.cells.toList s116 fun t6_117 s118 =>
 nw 25 x3.cells.toList s118 fun t7_119 s120 =>
 nw 58 [(.slice none 0 0), (.int .i64 0), (.int .u32 0), (.int .i64 0), (.int .i64 0), (.int .i64 0), (.int .i64 0), (.int .i64 0), (.int .i64 0)] s120 fun t8_121 s122 =>
 bnd (fld 1 t7_119) fun t25_123 =>
 bnd (ld1 E s122 t25_123) fun t26_124 =>
 callR (call 36 [t26_124] s122) fun t27_125 s126 =>
 bnd (xtr 0 t27_125) fun t28_127 =>
 bnd (xtr 1 t27_125) fun t29_128 =>
 bnd (bin E .neq 30 false true t29_128 (.int .i64 0)) fun t31_129 =>
 cnd t31_129
 (bnd (ldn E 9 s126 t6_117) fun t32_130 =>
 bnd (stn E 9 s126 t8_121 t32_130) fun s131 =>
 bnd (ldn E 9 s131 t8_121) fun r132 =>
 some (.ret (.tuple ⟨[r132, t29_128]⟩), s131))
 (bnd (ldn E 10 s126 t5_115) fun t35_133 =>
 callR (call 31 [t35_133] s126) fun t36_134 s135 =>
 bnd (xtr 0 t36_134) fun t37_136 =>
 bnd (xtr 1 t36_134) fun _ =>
 nw 80 [(.int .i64 0), (.int .i64 0), (.int .i64 0), (.int .i64 0), (.int .i64 0), (.int .i64 0), (.int .i64 0), (.int .i64 0), (.int .i64 0), (.int .i64 0), (.int .i64 0), (.int .i64 0), (.int .i64 0), (.int .i64 0), (.int .i64 0)] s135 fun t12_138 s139 =>
 bnd (stn E 15 s139 t12_138 t37_136) fun s140 =>
 bnd (ldn E 9 s140 t6_117) fun t41_141 =>
 bnd (fld 0 t7_119) fun t42_142 =>
 bnd (ld1 E s140 t42_142) fun t43_143 =>
 callR (call 37 [x0, t41_141, t43_143] s140) fun t44_144 s145 =>
 bnd (xtr 0 t44_144) fun _ =>
 bnd (xtr 1 t44_144) fun _ =>
 bnd (xtr 2 t44_144) fun t47_148 =>
 cnd t47_148
 (bnd (ldn E 9 s145 t6_117) fun t49_149 =>
 bnd (stn E 9 s145 t8_121 t49_149) fun s150 =>
 bnd (ldn E 9 s150 t8_121) fun r151 =>
 some (.ret (.tuple ⟨[r151, (.int .i64 6)]⟩), s150))
 (bnd (fld 0 t6_117) fun t50_152 =>
 bnd (ld1 E s145 t50_152) fun t51_153 =>
 bnd (fld 0 t6_117) fun t52_154 =>
 bnd (ld1 E s145 t52_154) fun t53_155 =>
 bnd (lns t53_155) fun t54_156 =>
 bnd (bin E .sub 3 false true t54_156 (.int .i64 1)) fun t55_157 =>
 bnd (ixs 3 t51_153 t55_157) fun t56_158 =>
 bnd (nck t56_158) fun t58_159 =>
 bnd (ldn E 3 s145 t58_159) fun t59_160 =>
 callB (call 38 [t59_160] s145) (fun t60_161 s162 =>
 bnd (fld 0 t5_115) fun t61_163 =>
 bnd (ld1 E s162 t61_163) fun t62_164 =>
 bnd (bin E .mul 3 true false (.int .i64 4) t62_164) fun t63_165 =>
 bnd (bin E .add 3 false false t60_161 t63_165) fun t64_166 =>
 bnd (ld1 E s145 t61_163) fun u167 =>
 smK u167 t62_164 (callB (call 39 [x0] s162) (fun t66_168 s169 =>
 cnd t66_168 (write_Add_5 E call fuel x0 t5_115 t6_117 t7_119 t8_121 t28_127 t12_138 t64_166 (.bool true) s169) (bnd (nck t56_158) fun t69_170 =>
 bnd (fld 1 t69_170) fun t70_171 =>
 bnd (ld1 E s169 t70_171) fun t71_172 =>
 bnd (fld 0 t5_115) fun t72_173 =>
 bnd (ld1 E s169 t72_173) fun t73_174 =>
 bnd (bin E .geq 3 false false t71_172 t73_174) fun t74_175 =>
 write_Add_5 E call fuel x0 t5_115 t6_117 t7_119 t8_121 t28_127 t12_138 t64_166 t74_175 s169)) (fun _ _ => none))) (fun _ _ => none)))

def write_Add (E : Env) (call : CallF) (fuel : Nat) (x0 x1 x2 x3 : Value) (σ : St) : R := write_Add_0 E call fuel x0 x1 x2 x3 σ

/-! 27: (*plover/step.Run).Step -/
def step_Run_Step_2 (E : Env) (_call : CallF) (_fuel : Nat) (x0 : Value) (σ : St) : R :=
 bnd (nck x0) fun t57_0 =>
 bnd (fld 6 t57_0) fun t58_1 =>
 bnd (ld1 E σ t58_1) fun t59_2 =>
 some (.ret t59_2, σ)

def step_Run_Step_1 (E : Env) (call : CallF) (fuel : Nat) (x0 x1 : Value) (σ : St) : R :=
 bnd (nck x0) fun t27_3 =>
 bnd (fld 2 t27_3) fun t28_4 =>
 bnd (st1 E σ t28_4 (.int .i64 0)) fun s5 =>
 bnd (nck x0) fun t29_6 =>
 bnd (fld 3 t29_6) fun t30_7 =>
 bnd (st1 E s5 t30_7 (.bool true)) fun s8 =>
 bnd (nck x0) fun t31_9 =>
 bnd (fld 4 t31_9) fun t32_10 =>
 bnd (st1 E s8 t32_10 (.bool true)) fun s11 =>
 bnd (nck x0) fun t33_12 =>
 bnd (fld 5 t33_12) fun t34_13 =>
 bnd (st1 E s11 t34_13 (.bool false)) fun s14 =>
 clo x1 fun g15 l16 c17 => bif E.bare g15 then none else callR (call g15 (l16 ++ ([x0] ++ c17)) s14) fun _ s19 =>
 bnd (nck x0) fun t39_20 =>
 bnd (fld 3 t39_20) fun t40_21 =>
 bnd (st1 E s19 t40_21 (.bool false)) fun s22 =>
 bnd (nck x0) fun t43_23 =>
 bnd (fld 5 t43_23) fun t44_24 =>
 bnd (ld1 E s22 t44_24) fun t45_25 =>
 bnd (notV t45_25) fun t46_26 =>
 cnd t46_26 (bnd (nck x0) fun t54_27 =>
 bnd (fld 6 t54_27) fun t55_28 =>
 bnd (st1 E s22 t55_28 (.bool true)) fun s29 =>
 step_Run_Step_2 E call fuel x0 s29) (bnd (nck x0) fun t49_30 =>
 bnd (fld 7 t49_30) fun t50_31 =>
 bnd (ld1 E s22 t50_31) fun t51_32 =>
 bnd (bin E .neq 30 false true t51_32 (.int .i64 0)) fun t52_33 =>
 bnd (nck x0) fun t54_34 =>
 bnd (fld 6 t54_34) fun t55_35 =>
 bnd (st1 E s22 t55_35 t52_33) fun s36 =>
 step_Run_Step_2 E call fuel x0 s36)

def step_Run_Step_3 (E : Env) (call : CallF) (fuel : Nat) (x0 x1 x5 : Value) (σ : St) : R :=
 cnd x5
 (some (.ret (.bool true), σ))
 (bnd (bin E .eql 65 false true x1 .nilFunc) fun t16_37 =>
 cnd t16_37
 (bnd (nck x0) fun t19_38 =>
 bnd (fld 6 t19_38) fun t20_39 =>
 bnd (st1 E σ t20_39 (.bool true)) fun s40 =>
 bnd (nck x0) fun t21_41 =>
 bnd (fld 7 t21_41) fun t22_42 =>
 bnd (st1 E s40 t22_42 (.int .i64 1)) fun s43 =>
 some (.ret (.bool true), s43))
 (step_Run_Step_1 E call fuel x0 x1 σ))

def step_Run_Step_0 (E : Env) (call : CallF) (fuel : Nat) (x0 x1 : Value) (σ : St) : R :=
 bnd (bin E .eql 63 false true x0 (.pointer none)) fun t7_44 =>
 cnd t7_44 (step_Run_Step_3 E call fuel x0 x1 (.bool true) σ) (bnd (nck x0) fun t10_45 =>
 bnd (fld 6 t10_45) fun t11_46 =>
 bnd (ld1 E σ t11_46) fun t12_47 =>
 step_Run_Step_3 E call fuel x0 x1 t12_47 σ)

def step_Run_Step (E : Env) (call : CallF) (fuel : Nat) (x0 x1 : Value) (σ : St) : R := step_Run_Step_0 E call fuel x0 x1 σ

/-! 28: slices.Clone[[]plover/api.Done,plover/api.Done] -/
def slices_Clone_api_Done_0 (E : Env) (_call : CallF) (_fuel : Nat) (x0 : Value) (σ : St) : R :=
 bnd (bin E .eql 34 false true x0 (.slice none 0 0)) fun t4_0 =>
 cnd t4_0
 (some (.ret (.slice none 0 0), σ))
 (bnd (bls 0 13 ⟨[]⟩ []) fun u1 => nws 53 0 0 u1 σ fun t5_2 s3 =>
 bn2 (app E 34 34 s3 t5_2 x0) fun t7_4 s5 =>
 some (.ret t7_4, s5))

def slices_Clone_api_Done (E : Env) (call : CallF) (fuel : Nat) (x0 : Value) (σ : St) : R := slices_Clone_api_Done_0 E call fuel x0 σ

/-! 29: slices.Clone[[]plover/api.Hit,plover/api.Hit] -/
def slices_Clone_api_Hit_0 (E : Env) (_call : CallF) (_fuel : Nat) (x0 : Value) (σ : St) : R :=
 bnd (bin E .eql 49 false true x0 (.slice none 0 0)) fun t4_0 =>
 cnd t4_0
 (some (.ret (.slice none 0 0), σ))
 (bnd (bls 0 2 ⟨[]⟩ []) fun u1 => nws 78 0 0 u1 σ fun t5_2 s3 =>
 bn2 (app E 49 49 s3 t5_2 x0) fun t7_4 s5 =>
 some (.ret t7_4, s5))

def slices_Clone_api_Hit (E : Env) (call : CallF) (fuel : Nat) (x0 : Value) (σ : St) : R := slices_Clone_api_Hit_0 E call fuel x0 σ

/-! 30: (*plover/mem.Mem).Cells -/
def mem_Mem_Cells_0 (E : Env) (_call : CallF) (_fuel : Nat) (x0 : Value) (σ : St) : R :=
 bnd (bin E .eql 55 false true x0 (.pointer none)) fun t5_0 =>
 cnd t5_0
 (some (.ret (.slice none 0 0), σ))
 (bnd (nck x0) fun t7_1 =>
 bnd (fld 0 t7_1) fun t8_2 =>
 bnd (ld1 E σ t8_2) fun t9_3 =>
 bnd (lns t9_3) fun t10_4 =>
 bn2 (mks E 36 σ t10_4 t10_4) fun t11_5 s6 =>
 bnd (nck x0) fun t14_7 =>
 bnd (fld 0 t14_7) fun t15_8 =>
 bnd (ld1 E s6 t15_8) fun t16_9 =>
 bn2 (cpy E 36 s6 t11_5 t16_9) fun _ s11 =>
 some (.ret t11_5, s11))

def mem_Mem_Cells (E : Env) (call : CallF) (fuel : Nat) (x0 : Value) (σ : St) : R := mem_Mem_Cells_0 E call fuel x0 σ

/-! 31: plover/pool.Lay -/
def pool_Lay_3 (E : Env) (_call : CallF) (_fuel : Nat) (x1 x2 x4 : Value) (σ : St) : R :=
 bnd (fld 0 x1) fun t92_0 =>
 bnd (ld1 E σ t92_0) fun t93_1 =>
 bnd (bin E .mul 3 true false (.int .i64 4) t93_1) fun t94_2 =>
 bnd (bin E .add 3 true false (.int .i64 1) t94_2) fun t95_3 =>
 bnd (fld 13 x4) fun t96_4 =>
 bnd (ld1 E σ t96_4) fun t97_5 =>
 bnd (bin E .add 3 false false t95_3 t97_5) fun t98_6 =>
 bnd (fld 14 x4) fun t99_7 =>
 bnd (st1 E σ t99_7 t98_6) fun s8 =>
 bnd (ldn E 15 s8 x4) fun t100_9 =>
 bnd (stn E 15 s8 x2 t100_9) fun s10 =>
 bnd (ldn E 15 s10 x2) fun r11 =>
 some (.ret (.tuple ⟨[r11, (.int .i64 0)]⟩), s10)

def pool_Lay_5 (E : Env) (call : CallF) (fuel : Nat) (r5 : Value → Value → Value → St → R) (x1 x2 x4 : Value) (σ : St) : R :=
 bnd (fld 13 x4) fun t83_12 =>
 bnd (ld1 E σ t83_12) fun t84_13 =>
 bnd (fld 1 x1) fun t85_14 =>
 bnd (ld1 E σ t85_14) fun t86_15 =>
 bnd (bin E .leq 3 false false t84_13 t86_15) fun t87_16 =>
 cnd t87_16
 (bnd (fld 13 x4) fun t88_17 =>
 bnd (ld1 E σ t88_17) fun t89_18 =>
 bnd (bin E .mul 3 false true t89_18 (.int .i64 2)) fun t90_19 =>
 bnd (fld 13 x4) fun t91_20 =>
 bnd (st1 E σ t91_20 t90_19) fun s21 =>
 r5 x1 x2 x4 s21)
 (pool_Lay_3 E call fuel x1 x2 x4 σ)

def pool_Lay_4 (E : Env) (call : CallF) (fuel : Nat) : Nat → Value → Value → Value → St → R
  | 0, _, _, _, _ => none
  | n + 1, x1, x2, x4, σ => pool_Lay_5 E call fuel (pool_Lay_4 E call fuel n) x1 x2 x4 σ

def pool_Lay_2 (E : Env) (call : CallF) (fuel : Nat) (x1 x2 x4 : Value) (σ : St) : R :=
 bnd (fld 12 x4) fun t79_22 =>
 bnd (ld1 E σ t79_22) fun t80_23 =>
 bnd (bin E .gtr 3 false true t80_23 (.int .i64 65536)) fun t81_24 =>
 cnd t81_24
 (bnd (bld (plc [(0, 6), (6, 6), (12, 1), (13, 1), (14, 1)]) ⟨[(.int .i64 0), (.int .i64 0), (.int .i64 0), (.int .i64 0), (.int .i64 0), (.int .i64 0), (.int .i64 0), (.int .i64 0), (.int .i64 0), (.int .i64 0), (.int .i64 0), (.int .i64 0), (.int .i64 0), (.int .i64 0), (.int .i64 0)]⟩ []) fun t82_25 =>
 bnd (stn E 15 σ x2 t82_25) fun s26 =>
 bnd (ldn E 15 s26 x2) fun r27 =>
 some (.ret (.tuple ⟨[r27, (.int .i64 1)]⟩), s26))
 (pool_Lay_4 E call fuel fuel x1 x2 x4 σ)

def pool_Lay_8 (E : Env) (_call : CallF) (_fuel : Nat) (r7 : Value → Value → Value → Value → St → R) (x1 x2 x4 x31 : Value) (σ : St) : R :=
 bnd (bin E .add 3 false true x31 (.int .i64 1)) fun t78_28 =>
 r7 x1 x2 x4 t78_28 σ

def pool_Lay_9 (E : Env) (call : CallF) (fuel : Nat) (r7 : Value → Value → Value → Value → St → R) (x1 x2 x4 x5 x6 x31 : Value) (σ : St) : R :=
 bnd (fld 12 x4) fun t66_29 =>
 bnd (ld1 E σ t66_29) fun t67_30 =>
 bnd (fld 0 x4) fun t69_31 =>
 bnd (ixa 6 1 t69_31 x5) fun t70_32 =>
 bnd (st1 E σ t70_32 t67_30) fun s33 =>
 bnd (fld 6 x4) fun t71_34 =>
 bnd (ixa 6 1 t71_34 x5) fun t72_35 =>
 bnd (st1 E s33 t72_35 x6) fun s36 =>
 bnd (fld 12 x4) fun t73_37 =>
 bnd (ld1 E s36 t73_37) fun t74_38 =>
 bnd (bin E .add 3 false false t74_38 x6) fun t76_39 =>
 bnd (fld 12 x4) fun t77_40 =>
 bnd (st1 E s36 t77_40 t76_39) fun s41 =>
 pool_Lay_8 E call fuel r7 x1 x2 x4 x31 s41

def pool_Lay_10 (E : Env) (call : CallF) (fuel : Nat) (r7 : Value → Value → Value → Value → St → R) (x1 x2 x4 x5 x6 x31 x36 : Value) (σ : St) : R :=
 cnd x36
 (bnd (bld (plc [(0, 6), (6, 6), (12, 1), (13, 1), (14, 1)]) ⟨[(.int .i64 0), (.int .i64 0), (.int .i64 0), (.int .i64 0), (.int .i64 0), (.int .i64 0), (.int .i64 0), (.int .i64 0), (.int .i64 0), (.int .i64 0), (.int .i64 0), (.int .i64 0), (.int .i64 0), (.int .i64 0), (.int .i64 0)]⟩ []) fun t47_42 =>
 bnd (stn E 15 σ x2 t47_42) fun s43 =>
 bnd (ldn E 15 s43 x2) fun r44 =>
 some (.ret (.tuple ⟨[r44, (.int .i64 1)]⟩), s43))
 (bnd (bin E .lss 3 false true x5 (.int .i64 4)) fun t50_45 =>
 cnd t50_45
 (bnd (fld 2 x1) fun t52_46 =>
 bnd (ixa 4 1 t52_46 x5) fun t53_47 =>
 bnd (ld1 E σ t53_47) fun t54_48 =>
 bnd (ixa 4 1 (gptr E.base 0) x5) fun t56_49 =>
 bnd (ld1 E σ t56_49) fun t57_50 =>
 bnd (bin E .mul 3 false false t54_48 t57_50) fun t58_51 =>
 pool_Lay_9 E call fuel r7 x1 x2 x4 x5 t58_51 x31 σ)
 (bnd (bin E .eql 3 false true x5 (.int .i64 4)) fun t61_52 =>
 cnd t61_52
 (bnd (fld 6 x1) fun t62_53 =>
 bnd (ld1 E σ t62_53) fun t63_54 =>
 pool_Lay_9 E call fuel r7 x1 x2 x4 x5 t63_54 x31 σ)
 (pool_Lay_9 E call fuel r7 x1 x2 x4 x5 x6 x31 σ)))

def pool_Lay_7 (E : Env) (call : CallF) (fuel : Nat) (r7 : Value → Value → Value → Value → St → R) (x1 x2 x4 x31 : Value) (σ : St) : R :=
 bnd (bin E .lss 3 false true x31 (.int .i64 6)) fun t32_55 =>
 cnd t32_55
 (bnd (fld 7 x1) fun t34_56 =>
 bnd (ld1 E σ t34_56) fun t35_57 =>
 bnd (bin E .lss 3 false true x31 (.int .i64 4)) fun t38_58 =>
 cnd t38_58 (bnd (fld 2 x1) fun t41_59 =>
 bnd (ixa 4 1 t41_59 x31) fun t42_60 =>
 bnd (ld1 E σ t42_60) fun t43_61 =>
 callR (call 59 [t43_61, (.int .i64 0), (.int .i64 512)] σ) fun t44_62 s63 =>
 bnd (notV t44_62) fun t45_64 =>
 pool_Lay_10 E call fuel r7 x1 x2 x4 x31 t35_57 x31 t45_64 s63) (pool_Lay_10 E call fuel r7 x1 x2 x4 x31 t35_57 x31 (.bool false) σ))
 (pool_Lay_2 E call fuel x1 x2 x4 σ)

def pool_Lay_6 (E : Env) (call : CallF) (fuel : Nat) : Nat → Value → Value → Value → Value → St → R
  | 0, _, _, _, _, _ => none
  | n + 1, x1, x2, x4, x31, σ => pool_Lay_7 E call fuel (pool_Lay_6 E call fuel n) x1 x2 x4 x31 σ

def pool_Lay_1 (E : Env) (call : CallF) (fuel : Nat) (x1 x2 : Value) (σ : St) : R :=
 bnd (bld (plc [(0, 6), (6, 6), (12, 1), (13, 1), (14, 1)]) ⟨[(.int .i64 0), (.int .i64 0), (.int .i64 0), (.int .i64 0), (.int .i64 0), (.int .i64 0), (.int .i64 0), (.int .i64 0), (.int .i64 0), (.int .i64 0), (.int .i64 0), (.int .i64 0), (.int .i64 0), (.int .i64 0), (.int .i64 0)]⟩ [(2, (.int .i64 3)), (3, (.int .i64 1))]) fun t30_65 =>
 nw 80 [(.int .i64 0), (.int .i64 0), (.int .i64 0), (.int .i64 0), (.int .i64 0), (.int .i64 0), (.int .i64 0), (.int .i64 0), (.int .i64 0), (.int .i64 0), (.int .i64 0), (.int .i64 0), (.int .i64 0), (.int .i64 0), (.int .i64 0)] σ fun t4_66 s67 =>
 bnd (stn E 15 s67 t4_66 t30_65) fun s68 =>
 pool_Lay_6 E call fuel fuel x1 x2 t4_66 (.int .i64 0) s68

def pool_Lay_11 (E : Env) (call : CallF) (fuel : Nat) (x1 x2 x28 : Value) (σ : St) : R :=
 cnd x28
 (bnd (bld (plc [(0, 6), (6, 6), (12, 1), (13, 1), (14, 1)]) ⟨[(.int .i64 0), (.int .i64 0), (.int .i64 0), (.int .i64 0), (.int .i64 0), (.int .i64 0), (.int .i64 0), (.int .i64 0), (.int .i64 0), (.int .i64 0), (.int .i64 0), (.int .i64 0), (.int .i64 0), (.int .i64 0), (.int .i64 0)]⟩ []) fun t29_69 =>
 bnd (stn E 15 σ x2 t29_69) fun s70 =>
 bnd (ldn E 15 s70 x2) fun r71 =>
 some (.ret (.tuple ⟨[r71, (.int .i64 1)]⟩), s70))
 (pool_Lay_1 E call fuel x1 x2 σ)

def pool_Lay_0 (E : Env) (call : CallF) (fuel : Nat) (x0 : Value) (σ : St) : R :=
 nw 47 x0.cells.toList σ fun t1_72 s73 =>
 nw 80 [(.int .i64 0), (.int .i64 0), (.int .i64 0), (.int .i64 0), (.int .i64 0), (.int .i64 0), (.int .i64 0), (.int .i64 0), (.int .i64 0), (.int .i64 0), (.int .i64 0), (.int .i64 0), (.int .i64 0), (.int .i64 0), (.int .i64 0)] s73 fun t2_74 s75 =>
 bnd (fld 0 t1_72) fun t7_76 =>
 bnd (ld1 E s75 t7_76) fun t8_77 =>
 callR (call 59 [t8_77, (.int .i64 1), (.int .i64 64)] s75) fun t9_78 s79 =>
 bnd (notV t9_78) fun t10_80 =>
 cnd t10_80 (pool_Lay_11 E call fuel t1_72 t2_74 (.bool true) s79) (bnd (fld 1 t1_72) fun t12_81 =>
 bnd (ld1 E s79 t12_81) fun t13_82 =>
 callR (call 59 [t13_82, (.int .i64 64), (.int .i64 256)] s79) fun t14_83 s84 =>
 bnd (notV t14_83) fun t15_85 =>
 cnd t15_85 (pool_Lay_11 E call fuel t1_72 t2_74 (.bool true) s84) (bnd (fld 6 t1_72) fun t18_86 =>
 bnd (ld1 E s84 t18_86) fun t19_87 =>
 callR (call 59 [t19_87, (.int .i64 0), (.int .i64 65536)] s84) fun t20_88 s89 =>
 bnd (notV t20_88) fun t21_90 =>
 cnd t21_90 (pool_Lay_11 E call fuel t1_72 t2_74 (.bool true) s89) (bnd (fld 7 t1_72) fun t24_91 =>
 bnd (ld1 E s89 t24_91) fun t25_92 =>
 callR (call 59 [t25_92, (.int .i64 0), (.int .i64 65536)] s89) fun t26_93 s94 =>
 bnd (notV t26_93) fun t27_95 =>
 pool_Lay_11 E call fuel t1_72 t2_74 t27_95 s94)))

def pool_Lay (E : Env) (call : CallF) (fuel : Nat) (x0 : Value) (σ : St) : R := pool_Lay_0 E call fuel x0 σ

/-! 32: plover/mem.New -/
def mem_New_1 (E : Env) (_call : CallF) (_fuel : Nat) (x0 : Value) (σ : St) : R :=
 bn2 (mks E 36 σ x0 x0) fun t11_0 s1 =>
 bnd (bld (plc [(0, 1), (1, 1), (2, 1)]) ⟨[(.slice none 0 0), (.int .i64 0), (.int .i64 0)]⟩ [(0, t11_0)]) fun t12_2 =>
 nw 144 t12_2.cells.toList s1 fun t13_3 s4 =>
 some (.ret (.tuple ⟨[t13_3, (.int .i64 0)]⟩), s4)

def mem_New_2 (E : Env) (call : CallF) (fuel : Nat) (x0 x9 : Value) (σ : St) : R :=
 cnd x9
 (some (.ret (.tuple ⟨[(.pointer none), (.int .i64 1)]⟩), σ))
 (mem_New_1 E call fuel x0 σ)

def mem_New_0 (E : Env) (call : CallF) (fuel : Nat) (x0 : Value) (σ : St) : R :=
 bnd (bin E .lss 3 false true x0 (.int .i64 1)) fun t5_5 =>
 cnd t5_5 (mem_New_2 E call fuel x0 (.bool true) σ) (bnd (bin E .gtr 3 false true x0 (.int .i64 65536)) fun t8_6 =>
 mem_New_2 E call fuel x0 t8_6 σ)

def mem_New (E : Env) (call : CallF) (fuel : Nat) (x0 : Value) (σ : St) : R := mem_New_0 E call fuel x0 σ

/-! 33: plover/write.New -/
def write_New_0 (E : Env) (call : CallF) (_fuel : Nat) (x0 x1 : Value) (σ : St) : R :=
 nw 47 x1.cells.toList σ fun t3_0 s1 =>
 nw 58 [(.slice none 0 0), (.int .i64 0), (.int .u32 0), (.int .i64 0), (.int .i64 0), (.int .i64 0), (.int .i64 0), (.int .i64 0), (.int .i64 0)] s1 fun t4_2 s3 =>
 bnd (ldn E 10 s3 t3_0) fun t15_4 =>
 callR (call 31 [t15_4] s3) fun t16_5 s6 =>
 bnd (xtr 0 t16_5) fun t17_7 =>
 bnd (xtr 1 t16_5) fun t18_8 =>
 nw 80 [(.int .i64 0), (.int .i64 0), (.int .i64 0), (.int .i64 0), (.int .i64 0), (.int .i64 0), (.int .i64 0), (.int .i64 0), (.int .i64 0), (.int .i64 0), (.int .i64 0), (.int .i64 0), (.int .i64 0), (.int .i64 0), (.int .i64 0)] s6 fun t6_9 s10 =>
 bnd (stn E 15 s10 t6_9 t17_7) fun s11 =>
 bnd (bin E .neq 30 false true t18_8 (.int .i64 0)) fun t21_12 =>
 cnd t21_12
 (bnd (bld (plc [(0, 1), (1, 1), (2, 1), (3, 6)]) ⟨[(.slice none 0 0), (.int .i64 0), (.int .u32 0), (.int .i64 0), (.int .i64 0), (.int .i64 0), (.int .i64 0), (.int .i64 0), (.int .i64 0)]⟩ []) fun t22_13 =>
 bnd (stn E 9 s11 t4_2 t22_13) fun s14 =>
 bnd (ldn E 9 s14 t4_2) fun r15 =>
 some (.ret (.tuple ⟨[r15, t18_8]⟩), s14))
 (callB (call 60 [x0] s11) (fun t26_16 s17 =>
 bnd (fld 12 t6_9) fun t27_18 =>
 bnd (ld1 E s17 t27_18) fun t28_19 =>
 bnd (bin E .neq 3 false false t26_16 t28_19) fun t29_20 =>
 bnd (ld1 E s11 t27_18) fun u21 =>
 smK u21 t28_19 (cnd t29_20
 (bnd (bld (plc [(0, 1), (1, 1), (2, 1), (3, 6)]) ⟨[(.slice none 0 0), (.int .i64 0), (.int .u32 0), (.int .i64 0), (.int .i64 0), (.int .i64 0), (.int .i64 0), (.int .i64 0), (.int .i64 0)]⟩ []) fun t30_22 =>
 bnd (stn E 9 s17 t4_2 t30_22) fun s23 =>
 bnd (ldn E 9 s23 t4_2) fun r24 =>
 some (.ret (.tuple ⟨[r24, (.int .i64 1)]⟩), s23))
 (bnd (fld 6 t6_9) fun t32_25 =>
 bnd (ixa 6 1 t32_25 (.int .i64 5)) fun t33_26 =>
 bnd (ld1 E s17 t33_26) fun t34_27 =>
 bnd (fld 14 t6_9) fun t35_28 =>
 bnd (ld1 E s17 t35_28) fun t36_29 =>
 bnd (bin E .add 3 false true t36_29 (.int .i64 2)) fun t37_30 =>
 bnd (bin E .lss 3 false false t34_27 t37_30) fun t38_31 =>
 cnd t38_31
 (bnd (bld (plc [(0, 1), (1, 1), (2, 1), (3, 6)]) ⟨[(.slice none 0 0), (.int .i64 0), (.int .u32 0), (.int .i64 0), (.int .i64 0), (.int .i64 0), (.int .i64 0), (.int .i64 0), (.int .i64 0)]⟩ []) fun t39_32 =>
 bnd (stn E 9 s17 t4_2 t39_32) fun s33 =>
 bnd (ldn E 9 s33 t4_2) fun r34 =>
 some (.ret (.tuple ⟨[r34, (.int .i64 3)]⟩), s33))
 (bnd (bld (plc [(0, 1), (1, 1), (2, 1), (3, 6)]) ⟨[(.slice none 0 0), (.int .i64 0), (.int .u32 0), (.int .i64 0), (.int .i64 0), (.int .i64 0), (.int .i64 0), (.int .i64 0), (.int .i64 0)]⟩ []) fun t40_35 =>
 nw 58 [(.slice none 0 0), (.int .i64 0), (.int .u32 0), (.int .i64 0), (.int .i64 0), (.int .i64 0), (.int .i64 0), (.int .i64 0), (.int .i64 0)] s17 fun t8_36 s37 =>
 bnd (stn E 9 s37 t8_36 t40_35) fun s38 =>
 bnd (ldn E 15 s38 t6_9) fun t42_39 =>
 bnd (fld 3 t8_36) fun t43_40 =>
 bnd (ldn E 6 s38 t43_40) fun t44_41 =>
 bnd (fld 14 t6_9) fun t45_42 =>
 bnd (ld1 E s38 t45_42) fun t46_43 =>
 callR (call 51 [t42_39, t44_41, (.int .i64 5), t46_43] s38) fun t47_44 s45 =>
 bnd (xtr 0 t47_44) fun t48_46 =>
 bnd (xtr 1 t47_44) fun t49_47 =>
 bnd (xtr 2 t47_44) fun _ =>
 nw 3 [(.int .i64 0), (.int .i64 0), (.int .i64 0), (.int .i64 0), (.int .i64 0), (.int .i64 0)] s45 fun t10_49 s50 =>
 bnd (stn E 6 s50 t10_49 t49_47) fun s51 =>
 bnd (ldn E 15 s51 t6_9) fun t52_52 =>
 bnd (ldn E 6 s51 t10_49) fun t53_53 =>
 callR (call 51 [t52_52, t53_53, (.int .i64 5), (.int .i64 2)] s51) fun t54_54 s55 =>
 bnd (xtr 0 t54_54) fun t55_56 =>
 bnd (xtr 1 t54_54) fun t56_57 =>
 bnd (xtr 2 t54_54) fun _ =>
 bnd (stn E 6 s55 t10_49 t56_57) fun s59 =>
 bnd (ldn E 6 s59 t10_49) fun t58_60 =>
 bnd (bld (plc [(0, 1), (1, 1), (2, 1)]) ⟨[(.int .i64 0), (.int .i64 0), (.bool false)]⟩ [(0, t48_46)]) fun t60_61 =>
 bnd (bls 1 3 ⟨[(.int .i64 0), (.int .i64 0), (.bool false)]⟩ [(0, t60_61)]) fun u62 => nws 97 1 1 u62 s59 fun t61_63 s64 =>
 bnd (fld 3 t8_36) fun t62_65 =>
 bnd (stn E 6 s64 t62_65 t58_60) fun s66 =>
 bnd (fld 0 t8_36) fun t63_67 =>
 bnd (st1 E s66 t63_67 t61_63) fun s68 =>
 callR (call 61 [x0, t55_56, (.int .u32 1)] s68) fun _ s70 =>
 bnd (bin E .add 3 false true t55_56 (.int .i64 1)) fun t69_71 =>
 bnd (cvi .u32 t48_46) fun t71_72 =>
 callR (call 61 [x0, t69_71, t71_72] s70) fun _ s74 =>
 bnd (cvi .u32 t55_56) fun t75_75 =>
 callR (call 61 [x0, (.int .i64 2), t75_75] s74) fun _ s77 =>
 bnd (ldn E 9 s77 t8_36) fun t77_78 =>
 bnd (stn E 9 s77 t4_2 t77_78) fun s79 =>
 bnd (ldn E 9 s79 t4_2) fun r80 =>
 some (.ret (.tuple ⟨[r80, (.int .i64 0)]⟩), s79))))) (fun _ _ => none))

def write_New (E : Env) (call : CallF) (fuel : Nat) (x0 x1 : Value) (σ : St) : R := write_New_0 E call fuel x0 x1 σ

/-! 34: plover/ploverref23.Bound -/
def ref23_Bound_2 (E : Env) (_call : CallF) (_fuel : Nat) (x0 x5 : Value) (σ : St) : R :=
 bnd (bin E .add 3 false true x0 (.int .i64 16)) fun t34_0 =>
 bnd (bin E .mul 3 true false (.int .i64 60) t34_0) fun t35_1 =>
 bnd (bin E .add 3 false true x5 (.int .i64 16)) fun t37_2 =>
 bnd (bin E .mul 3 false false t35_1 t37_2) fun t38_3 =>
 some (.ret t38_3, σ)

def ref23_Bound_4 (E : Env) (call : CallF) (fuel : Nat) (r4 : Value → Value → Value → Value → Value → St → R) (x0 x3 x5 x19 x20 : Value) (σ : St) : R :=
 bnd (bin E .lss 3 false false x20 x19) fun t21_4 =>
 cnd t21_4
 (bnd (fld 1 x3) fun t24_5 =>
 bnd (fld 1 t24_5) fun t25_6 =>
 bnd (ld1 E σ t25_6) fun t26_7 =>
 bnd (ixs 1 t26_7 x20) fun t28_8 =>
 bnd (ld1 E σ t28_8) fun t29_9 =>
 bnd (lnt t29_9) fun t30_10 =>
 bnd (bin E .add 3 false false x5 t30_10) fun t31_11 =>
 bnd (bin E .add 3 false true x20 (.int .i64 1)) fun t32_12 =>
 r4 x0 x3 t31_11 x19 t32_12 σ)
 (ref23_Bound_2 E call fuel x0 x5 σ)

def ref23_Bound_3 (E : Env) (call : CallF) (fuel : Nat) : Nat → Value → Value → Value → Value → Value → St → R
  | 0, _, _, _, _, _, _ => none
  | n + 1, x0, x3, x5, x19, x20, σ => ref23_Bound_4 E call fuel (ref23_Bound_3 E call fuel n) x0 x3 x5 x19 x20 σ

def ref23_Bound_1 (E : Env) (call : CallF) (fuel : Nat) (x0 x3 x5 : Value) (σ : St) : R :=
 bnd (fld 0 x3) fun t13_13 =>
 bnd (ld1 E σ t13_13) fun t14_14 =>
 bnd (bin E .eql 3 false true t14_14 (.int .i64 1)) fun t15_15 =>
 cnd t15_15
 (bnd (fld 1 x3) fun t16_16 =>
 bnd (fld 1 t16_16) fun t17_17 =>
 bnd (ld1 E σ t17_17) fun t18_18 =>
 bnd (lns t18_18) fun t19_19 =>
 ref23_Bound_3 E call fuel fuel x0 x3 x5 t19_19 (.int .i64 0) σ)
 (ref23_Bound_2 E call fuel x0 x5 σ)

def ref23_Bound_0 (E : Env) (call : CallF) (fuel : Nat) (x0 x1 : Value) (σ : St) : R :=
 nw 27 x1.cells.toList σ fun t3_20 s21 =>
 bnd (fld 0 t3_20) fun t7_22 =>
 bnd (ld1 E s21 t7_22) fun t8_23 =>
 bnd (bin E .eql 3 false true t8_23 (.int .i64 4)) fun t9_24 =>
 cnd t9_24
 (bnd (fld 4 t3_20) fun t10_25 =>
 bnd (ld1 E s21 t10_25) fun t11_26 =>
 bnd (lnt t11_26) fun t12_27 =>
 ref23_Bound_1 E call fuel x0 t3_20 t12_27 s21)
 (ref23_Bound_1 E call fuel x0 t3_20 (.int .i64 0) s21)

def ref23_Bound (E : Env) (call : CallF) (fuel : Nat) (x0 x1 : Value) (σ : St) : R := ref23_Bound_0 E call fuel x0 x1 σ

/-! 35: slices.Clone[[]string,string] -/
def slices_Clone_string_0 (E : Env) (_call : CallF) (_fuel : Nat) (x0 : Value) (σ : St) : R :=
 bnd (bin E .eql 23 false true x0 (.slice none 0 0)) fun t4_0 =>
 cnd t4_0
 (some (.ret (.slice none 0 0), σ))
 (bnd (bls 0 1 ⟨[]⟩ []) fun u1 => nws 9 0 0 u1 σ fun t5_2 s3 =>
 bn2 (app E 23 23 s3 t5_2 x0) fun t7_4 s5 =>
 some (.ret t7_4, s5))

def slices_Clone_string (E : Env) (call : CallF) (fuel : Nat) (x0 : Value) (σ : St) : R := slices_Clone_string_0 E call fuel x0 σ

/-! 36: plover/token.Tokens -/
def token_Tokens_2 (E : Env) (_call : CallF) (_fuel : Nat) (x6 : Value) (σ : St) : R :=
 bnd (lns x6) fun t48_0 =>
 bnd (bin E .gtr 3 false true t48_0 (.int .i64 64)) fun t49_1 =>
 cnd t49_1
 (some (.ret (.tuple ⟨[(.slice none 0 0), (.int .i64 4)]⟩), σ))
 (some (.ret (.tuple ⟨[x6, (.int .i64 0)]⟩), σ))

def token_Tokens_5 (E : Env) (_call : CallF) (_fuel : Nat) (r4 : Value → Value → Value → Value → St → R) (x6 x24 x25 x26 : Value) (σ : St) : R :=
 bnd (bin E .add 3 false true x26 (.int .i64 1)) fun t46_2 =>
 r4 x6 x24 x25 t46_2 σ

def token_Tokens_7 (E : Env) (call : CallF) (fuel : Nat) (r4 : Value → Value → Value → Value → St → R) (r7 : Value → Value → Value → Value → Value → Value → Value → Value → St → R) (x6 x7 x24 x25 x26 x32 x33 x34 : Value) (σ : St) : R :=
 bnd (bin E .lss 3 false false x34 x33) fun t35_3 =>
 cnd t35_3
 (bnd (ixs 3 x32 x34) fun t36_4 =>
 bnd (ldn E 3 σ t36_4) fun t37_5 =>
 nw 106 [(.int .u8 0), (sv []), (.int .i64 0)] σ fun t10_6 s7 =>
 bnd (stn E 3 s7 t10_6 t37_5) fun s8 =>
 bnd (cvi .u8 x7) fun t39_9 =>
 bnd (fld 0 t10_6) fun t40_10 =>
 bnd (st1 E s8 t40_10 t39_9) fun s11 =>
 bnd (ldn E 3 s11 t10_6) fun t42_12 =>
 bnd (bls 1 3 ⟨[(.int .u8 0), (sv []), (.int .i64 0)]⟩ [(0, t42_12)]) fun u13 => nws 106 1 1 u13 s11 fun t43_14 s15 =>
 bn2 (app E 90 90 s15 x6 t43_14) fun t44_16 s17 =>
 bnd (bin E .add 3 false true x34 (.int .i64 1)) fun t45_18 =>
 r7 t44_16 x7 x24 x25 x26 x32 x33 t45_18 s17)
 (token_Tokens_5 E call fuel r4 x6 x24 x25 x26 σ)

def token_Tokens_6 (E : Env) (call : CallF) (fuel : Nat) (r4 : Value → Value → Value → Value → St → R) : Nat → Value → Value → Value → Value → Value → Value → Value → Value → St → R
  | 0, _, _, _, _, _, _, _, _, _ => none
  | n + 1, x6, x7, x24, x25, x26, x32, x33, x34, σ => token_Tokens_7 E call fuel r4 (token_Tokens_6 E call fuel r4 n) x6 x7 x24 x25 x26 x32 x33 x34 σ

def token_Tokens_4 (E : Env) (call : CallF) (fuel : Nat) (r4 : Value → Value → Value → Value → St → R) (x6 x24 x25 x26 : Value) (σ : St) : R :=
 bnd (bin E .lss 3 false false x26 x25) fun t27_19 =>
 cnd t27_19
 (bnd (ixs 1 x24 x26) fun t29_20 =>
 bnd (ld1 E σ t29_20) fun t30_21 =>
 callR (call 62 [t30_21] σ) fun t32_22 s23 =>
 bnd (lns t32_22) fun t33_24 =>
 token_Tokens_6 E call fuel r4 fuel x6 x26 x24 x25 x26 t32_22 t33_24 (.int .i64 0) s23)
 (token_Tokens_2 E call fuel x6 σ)

def token_Tokens_3 (E : Env) (call : CallF) (fuel : Nat) : Nat → Value → Value → Value → Value → St → R
  | 0, _, _, _, _, _ => none
  | n + 1, x6, x24, x25, x26, σ => token_Tokens_4 E call fuel (token_Tokens_3 E call fuel n) x6 x24 x25 x26 σ

def token_Tokens_1 (E : Env) (call : CallF) (fuel : Nat) (x0 : Value) (σ : St) : R :=
 bnd (lns x0) fun t25_25 =>
 token_Tokens_3 E call fuel fuel (.slice none 0 0) x0 t25_25 (.int .i64 0) σ

def token_Tokens_9 (E : Env) (call : CallF) (fuel : Nat) (r9 : Value → Value → Value → Value → St → R) (x0 x14 x15 x16 : Value) (σ : St) : R :=
 bnd (bin E .lss 3 false false x16 x15) fun t17_26 =>
 cnd t17_26
 (bnd (ixs 1 x14 x16) fun t18_27 =>
 bnd (ld1 E σ t18_27) fun t19_28 =>
 bnd (lnt t19_28) fun t21_29 =>
 bnd (bin E .gtr 3 false true t21_29 (.int .i64 512)) fun t22_30 =>
 cnd t22_30
 (some (.ret (.tuple ⟨[(.slice none 0 0), (.int .i64 4)]⟩), σ))
 (bnd (bin E .add 3 false true x16 (.int .i64 1)) fun t23_31 =>
 r9 x0 x14 x15 t23_31 σ))
 (token_Tokens_1 E call fuel x0 σ)

def token_Tokens_8 (E : Env) (call : CallF) (fuel : Nat) : Nat → Value → Value → Value → Value → St → R
  | 0, _, _, _, _, _ => none
  | n + 1, x0, x14, x15, x16, σ => token_Tokens_9 E call fuel (token_Tokens_8 E call fuel n) x0 x14 x15 x16 σ

def token_Tokens_0 (E : Env) (call : CallF) (fuel : Nat) (x0 : Value) (σ : St) : R :=
 bnd (lns x0) fun t12_32 =>
 bnd (bin E .gtr 3 false true t12_32 (.int .i64 4)) fun t13_33 =>
 cnd t13_33
 (some (.ret (.tuple ⟨[(.slice none 0 0), (.int .i64 4)]⟩), σ))
 (bnd (lns x0) fun t15_34 =>
 token_Tokens_8 E call fuel fuel x0 x0 t15_34 (.int .i64 0) σ)

def token_Tokens (E : Env) (call : CallF) (fuel : Nat) (x0 : Value) (σ : St) : R := token_Tokens_0 E call fuel x0 σ

/-! 37: plover/write.place -/
def write_place_2 (E : Env) (call : CallF) (_fuel : Nat) (r2 : Value → Value → Value → Value → Value → St → R) (x0 x2 x13 x14 x15 : Value) (σ : St) : R :=
 bnd (bin E .lss 3 false false x15 x14) fun t16_0 =>
 cnd t16_0
 (bnd (ixs 3 x13 x15) fun t18_1 =>
 bnd (ldn E 3 σ t18_1) fun t19_2 =>
 nw 97 [(.int .i64 0), (.int .i64 0), (.bool false)] σ fun t10_3 s4 =>
 bnd (stn E 3 s4 t10_3 t19_2) fun s5 =>
 bnd (ldn E 3 s5 t10_3) fun t21_6 =>
 callB (call 38 [t21_6] s5) (fun t22_7 s8 =>
 bnd (fld 1 t10_3) fun t23_9 =>
 bnd (ld1 E s8 t23_9) fun t24_10 =>
 callB (call 63 [x0, t22_7, t24_10, x2] s8) (fun t26_11 s12 =>
 bnd (ld1 E s5 t23_9) fun u13 =>
 smK u13 t24_10 (bnd (bin E .geq 3 false true t26_11 (.int .i64 0)) fun t28_14 =>
 cnd t28_14
 (some (.ret (.tuple ⟨[x15, t26_11, (.bool true)]⟩), s12))
 (bnd (bin E .add 3 false true x15 (.int .i64 1)) fun t31_15 =>
 r2 x0 x2 x13 x14 t31_15 s12))) (fun _ _ => none)) (fun _ _ => none))
 (some (.ret (.tuple ⟨[(.int .i64 0), (.int .i64 0), (.bool false)]⟩), σ))

def write_place_1 (E : Env) (call : CallF) (fuel : Nat) : Nat → Value → Value → Value → Value → Value → St → R
  | 0, _, _, _, _, _, _ => none
  | n + 1, x0, x2, x13, x14, x15, σ => write_place_2 E call fuel (write_place_1 E call fuel n) x0 x2 x13 x14 x15 σ

def write_place_0 (E : Env) (call : CallF) (fuel : Nat) (x0 x1 x2 : Value) (σ : St) : R :=
 nw 58 x1.cells.toList σ fun t4_16 s17 =>
 bnd (fld 0 t4_16) fun t12_18 =>
 bnd (ld1 E s17 t12_18) fun t13_19 =>
 bnd (lns t13_19) fun t14_20 =>
 write_place_1 E call fuel fuel x0 x2 t13_19 t14_20 (.int .i64 0) s17

def write_place (E : Env) (call : CallF) (fuel : Nat) (x0 x1 x2 : Value) (σ : St) : R := write_place_0 E call fuel x0 x1 x2 σ

/-! 38: plover/write.Base -/
def write_Base_0 (E : Env) (_call : CallF) (_fuel : Nat) (x0 : Value) (σ : St) : R :=
 nw 97 x0.cells.toList σ fun t1_0 s1 =>
 bnd (fld 2 t1_0) fun t3_2 =>
 bnd (ld1 E s1 t3_2) fun t4_3 =>
 cnd t4_3
 (bnd (fld 0 t1_0) fun t5_4 =>
 bnd (ld1 E s1 t5_4) fun t6_5 =>
 bnd (bin E .add 3 false true t6_5 (.int .i64 2)) fun t7_6 =>
 some (.ret t7_6, s1))
 (bnd (fld 0 t1_0) fun t8_7 =>
 bnd (ld1 E s1 t8_7) fun t9_8 =>
 bnd (bin E .add 3 false true t9_8 (.int .i64 1)) fun t10_9 =>
 some (.ret t10_9, s1))

def write_Base (E : Env) (call : CallF) (fuel : Nat) (x0 : Value) (σ : St) : R := write_Base_0 E call fuel x0 σ

/-! 39: (*plover/step.Run).Off -/
def step_Run_Off_0 (E : Env) (_call : CallF) (_fuel : Nat) (x0 : Value) (σ : St) : R :=
 bnd (bin E .eql 63 false true x0 (.pointer none)) fun t4_0 =>
 cnd t4_0 (some (.ret (.bool true), σ)) (bnd (nck x0) fun t7_1 =>
 bnd (fld 5 t7_1) fun t8_2 =>
 bnd (ld1 E σ t8_2) fun t9_3 =>
 cnd t9_3 (some (.ret (.bool true), σ)) (bnd (nck x0) fun t13_4 =>
 bnd (fld 3 t13_4) fun t14_5 =>
 bnd (ld1 E σ t14_5) fun t15_6 =>
 bnd (notV t15_6) fun t16_7 =>
 some (.ret t16_7, σ)))

def step_Run_Off (E : Env) (call : CallF) (fuel : Nat) (x0 : Value) (σ : St) : R := step_Run_Off_0 E call fuel x0 σ

/-! 40: plover/write.terms -/
def write_terms_3 (E : Env) (_call : CallF) (_fuel : Nat) (r2 : Value → Value → Value → Value → Value → Value → Value → St → R) (x0 x1 x2 x9 x15 x16 x17 : Value) (σ : St) : R :=
 bnd (bin E .add 3 false true x17 (.int .i64 1)) fun t70_0 =>
 r2 x0 x1 x2 x9 x15 x16 t70_0 σ

def write_terms_5 (E : Env) (call : CallF) (fuel : Nat) (r2 : Value → Value → Value → Value → Value → Value → Value → St → R) (x0 x1 x2 x9 x14 x15 x16 x17 : Value) (σ : St) : R :=
 bnd (ldn E 4 σ x14) fun t67_1 =>
 bnd (bls 1 4 ⟨[(sv []), (.int .i64 0), (.int .i64 0), (.int .i64 0)]⟩ [(0, t67_1)]) fun u2 => nws 151 1 1 u2 σ fun t68_3 s4 =>
 bn2 (app E 99 99 s4 x9 t68_3) fun t69_5 s6 =>
 write_terms_3 E call fuel r2 x0 x1 x2 t69_5 x15 x16 x17 s6

def write_terms_4 (E : Env) (call : CallF) (fuel : Nat) (r2 : Value → Value → Value → Value → Value → Value → Value → St → R) (x0 x1 x2 x9 x12 x15 x16 x17 : Value) (σ : St) : R :=
 bnd (bld (plc [(0, 1), (1, 1), (2, 1), (3, 1)]) ⟨[(sv []), (.int .i64 0), (.int .i64 0), (.int .i64 0)]⟩ [(0, x12), (3, (.int .i64 1))]) fun t48_7 =>
 nw 151 [(sv []), (.int .i64 0), (.int .i64 0), (.int .i64 0)] σ fun t14_8 s9 =>
 bnd (stn E 4 s9 t14_8 t48_7) fun s10 =>
 callR (call 65 [x0, x1, x2, x12] s10) fun t54_11 s12 =>
 bnd (xtr 0 t54_11) fun t55_13 =>
 bnd (xtr 1 t54_11) fun _ =>
 bnd (fld 1 t14_8) fun t57_15 =>
 bnd (st1 E s12 t57_15 t55_13) fun s16 =>
 bnd (fld 1 t14_8) fun t58_17 =>
 bnd (ld1 E s16 t58_17) fun t59_18 =>
 bnd (bin E .neq 3 false true t59_18 (.int .i64 0)) fun t60_19 =>
 cnd t60_19
 (bnd (fld 1 t14_8) fun t62_20 =>
 bnd (ld1 E s16 t62_20) fun t63_21 =>
 callR (call 66 [x0, t63_21] s16) fun t64_22 s23 =>
 bnd (fld 2 t14_8) fun t65_24 =>
 bnd (st1 E s23 t65_24 t64_22) fun s25 =>
 write_terms_5 E call fuel r2 x0 x1 x2 x9 t14_8 x15 x16 x17 s25)
 (write_terms_5 E call fuel r2 x0 x1 x2 x9 t14_8 x15 x16 x17 s16)

def write_terms_7 (E : Env) (call : CallF) (fuel : Nat) (r2 : Value → Value → Value → Value → Value → Value → Value → St → R) (r7 : Value → Value → Value → Value → Value → Value → Value → Value → Value → Value → St → R) (x0 x1 x2 x9 x12 x15 x16 x17 x27 x28 : Value) (σ : St) : R :=
 bnd (bin E .lss 3 false false x28 x27) fun t29_26 =>
 cnd t29_26
 (bnd (ixs 4 x9 x28) fun t33_27 =>
 bnd (fld 0 t33_27) fun t34_28 =>
 bnd (ld1 E σ t34_28) fun t35_29 =>
 bnd (bin E .eql 9 false false t35_29 x12) fun t37_30 =>
 cnd t37_30
 (bnd (ixs 4 x9 x28) fun t40_31 =>
 bnd (fld 3 t40_31) fun t41_32 =>
 bnd (ld1 E σ t41_32) fun t42_33 =>
 bnd (bin E .add 3 false true t42_33 (.int .i64 1)) fun t43_34 =>
 bnd (ixs 4 x9 x28) fun t44_35 =>
 bnd (fld 3 t44_35) fun t45_36 =>
 bnd (st1 E σ t45_36 t43_34) fun s37 =>
 write_terms_3 E call fuel r2 x0 x1 x2 x9 x15 x16 x17 s37)
 (bnd (bin E .add 3 false true x28 (.int .i64 1)) fun t46_38 =>
 r7 x0 x1 x2 x9 x12 x15 x16 x17 x27 t46_38 σ))
 (write_terms_4 E call fuel r2 x0 x1 x2 x9 x12 x15 x16 x17 σ)

def write_terms_6 (E : Env) (call : CallF) (fuel : Nat) (r2 : Value → Value → Value → Value → Value → Value → Value → St → R) : Nat → Value → Value → Value → Value → Value → Value → Value → Value → Value → Value → St → R
  | 0, _, _, _, _, _, _, _, _, _, _, _ => none
  | n + 1, x0, x1, x2, x9, x12, x15, x16, x17, x27, x28, σ => write_terms_7 E call fuel r2 (write_terms_6 E call fuel r2 n) x0 x1 x2 x9 x12 x15 x16 x17 x27 x28 σ

def write_terms_2 (E : Env) (call : CallF) (fuel : Nat) (r2 : Value → Value → Value → Value → Value → Value → Value → St → R) (x0 x1 x2 x9 x15 x16 x17 : Value) (σ : St) : R :=
 bnd (bin E .lss 3 false false x17 x16) fun t18_39 =>
 cnd t18_39
 (bnd (ixs 3 x15 x17) fun t19_40 =>
 bnd (ldn E 3 σ t19_40) fun t20_41 =>
 nw 106 [(.int .u8 0), (sv []), (.int .i64 0)] σ fun t11_42 s43 =>
 bnd (stn E 3 s43 t11_42 t20_41) fun s44 =>
 bnd (fld 0 t11_42) fun t21_45 =>
 bnd (ld1 E s44 t21_45) fun t22_46 =>
 bnd (fld 1 t11_42) fun t23_47 =>
 bnd (ld1 E s44 t23_47) fun t24_48 =>
 callR (call 64 [t22_46, t24_48] s44) fun t25_49 s50 =>
 bnd (lns x9) fun t27_51 =>
 write_terms_6 E call fuel r2 fuel x0 x1 x2 x9 t25_49 x15 x16 x17 t27_51 (.int .i64 0) s50)
 (some (.ret x9, σ))

def write_terms_1 (E : Env) (call : CallF) (fuel : Nat) : Nat → Value → Value → Value → Value → Value → Value → Value → St → R
  | 0, _, _, _, _, _, _, _, _ => none
  | n + 1, x0, x1, x2, x9, x15, x16, x17, σ => write_terms_2 E call fuel (write_terms_1 E call fuel n) x0 x1 x2 x9 x15 x16 x17 σ

def write_terms_0 (E : Env) (call : CallF) (fuel : Nat) (x0 x1 x2 x3 : Value) (σ : St) : R :=
 bnd (lns x3) fun t16_52 =>
 write_terms_1 E call fuel fuel x0 x1 x2 (.slice none 0 0) x3 t16_52 (.int .i64 0) σ

def write_terms (E : Env) (call : CallF) (fuel : Nat) (x0 x1 x2 x3 : Value) (σ : St) : R := write_terms_0 E call fuel x0 x1 x2 x3 σ

/-! 41: plover/write.needs -/
def write_needs_1 (E : Env) (_call : CallF) (_fuel : Nat) (x5 x6 x7 : Value) (σ : St) : R :=
 bnd (ldn E 6 σ x7) fun t51_0 =>
 bnd (stn E 6 σ x5 t51_0) fun s1 =>
 bnd (ldn E 6 s1 x5) fun r2 =>
 some (.ret (.tuple ⟨[x6, r2]⟩), s1)

def write_needs_4 (E : Env) (_call : CallF) (_fuel : Nat) (r3 : Value → Value → Value → Value → Value → Value → Value → St → R) (x2 x5 x6 x7 x12 x13 x14 : Value) (σ : St) : R :=
 bnd (bin E .add 3 false true x14 (.int .i64 1)) fun t49_3 =>
 r3 x2 x5 x6 x7 x12 x13 t49_3 σ

def write_needs_7 (E : Env) (call : CallF) (fuel : Nat) (r3 : Value → Value → Value → Value → Value → Value → Value → St → R) (r7 : Value → Value → Value → Value → Value → Value → Value → Value → Value → St → R) (x2 x5 x6 x7 x12 x13 x14 x37 x38 : Value) (σ : St) : R :=
 bnd (bin E .lss 3 false true x38 (.int .i64 6)) fun t39_4 =>
 cnd t39_4
 (bnd (at1 6 1 x37 x38) fun t41_5 =>
 bnd (ixa 6 1 x7 x38) fun t43_6 =>
 bnd (ld1 E σ t43_6) fun t44_7 =>
 bnd (bin E .add 3 false false t44_7 t41_5) fun t46_8 =>
 bnd (ixa 6 1 x7 x38) fun t47_9 =>
 bnd (st1 E σ t47_9 t46_8) fun s10 =>
 bnd (bin E .add 3 false true x38 (.int .i64 1)) fun t48_11 =>
 r7 x2 x5 x6 x7 x12 x13 x14 x37 t48_11 s10)
 (write_needs_4 E call fuel r3 x2 x5 x6 x7 x12 x13 x14 σ)

def write_needs_6 (E : Env) (call : CallF) (fuel : Nat) (r3 : Value → Value → Value → Value → Value → Value → Value → St → R) : Nat → Value → Value → Value → Value → Value → Value → Value → Value → Value → St → R
  | 0, _, _, _, _, _, _, _, _, _, _ => none
  | n + 1, x2, x5, x6, x7, x12, x13, x14, x37, x38, σ => write_needs_7 E call fuel r3 (write_needs_6 E call fuel r3 n) x2 x5 x6 x7 x12 x13 x14 x37 x38 σ

def write_needs_5 (E : Env) (call : CallF) (fuel : Nat) (r3 : Value → Value → Value → Value → Value → Value → Value → St → R) (x2 x5 x6 x7 x9 x12 x13 x14 : Value) (σ : St) : R :=
 bnd (ldn E 15 σ x2) fun t32_12 =>
 bnd (fld 2 x9) fun t33_13 =>
 bnd (ld1 E σ t33_13) fun t34_14 =>
 bnd (fld 3 x9) fun t35_15 =>
 bnd (ld1 E σ t35_15) fun t36_16 =>
 callR (call 68 [t32_12, t34_14, t36_16] σ) fun t37_17 s18 =>
 write_needs_6 E call fuel r3 fuel x2 x5 x6 x7 x12 x13 x14 t37_17 (.int .i64 0) s18

def write_needs_3 (E : Env) (call : CallF) (fuel : Nat) (r3 : Value → Value → Value → Value → Value → Value → Value → St → R) (x2 x5 x6 x7 x12 x13 x14 : Value) (σ : St) : R :=
 bnd (bin E .lss 3 false false x14 x13) fun t15_19 =>
 cnd t15_19
 (bnd (ixs 4 x12 x14) fun t16_20 =>
 bnd (ldn E 4 σ t16_20) fun t17_21 =>
 nw 151 [(sv []), (.int .i64 0), (.int .i64 0), (.int .i64 0)] σ fun t9_22 s23 =>
 bnd (stn E 4 s23 t9_22 t17_21) fun s24 =>
 bnd (fld 1 t9_22) fun t18_25 =>
 bnd (ld1 E s24 t18_25) fun t19_26 =>
 bnd (bin E .eql 3 false true t19_26 (.int .i64 0)) fun t20_27 =>
 cnd t20_27
 (bnd (bin E .add 3 false true x6 (.int .i64 1)) fun t22_28 =>
 bnd (ixa 6 1 x7 (.int .i64 4)) fun t23_29 =>
 bnd (ld1 E s24 t23_29) fun t24_30 =>
 bnd (fld 0 t9_22) fun t25_31 =>
 bnd (ld1 E s24 t25_31) fun t26_32 =>
 callB (call 67 [t26_32] s24) (fun t27_33 s34 =>
 bnd (lns t27_33) fun t28_35 =>
 bnd (bin E .add 3 true false (.int .i64 2) t28_35) fun t29_36 =>
 bnd (bin E .add 3 false false t24_30 t29_36) fun t30_37 =>
 bnd (ixa 6 1 x7 (.int .i64 4)) fun t31_38 =>
 bnd (st1 E s34 t31_38 t30_37) fun s39 =>
 bnd (ld1 E s34 t23_29) fun u40 =>
 smK u40 t24_30 (write_needs_5 E call fuel r3 x2 x5 t22_28 x7 t9_22 x12 x13 x14 s39)) (fun _ _ => none))
 (write_needs_5 E call fuel r3 x2 x5 x6 x7 t9_22 x12 x13 x14 s24))
 (write_needs_1 E call fuel x5 x6 x7 σ)

def write_needs_2 (E : Env) (call : CallF) (fuel : Nat) : Nat → Value → Value → Value → Value → Value → Value → Value → St → R
  | 0, _, _, _, _, _, _, _, _ => none
  | n + 1, x2, x5, x6, x7, x12, x13, x14, σ => write_needs_3 E call fuel (write_needs_2 E call fuel n) x2 x5 x6 x7 x12 x13 x14 σ

def write_needs_0 (E : Env) (call : CallF) (fuel : Nat) (x0 x1 : Value) (σ : St) : R :=
 nw 80 x0.cells.toList σ fun t2_41 s42 =>
 nw 3 [(.int .i64 0), (.int .i64 0), (.int .i64 0), (.int .i64 0), (.int .i64 0), (.int .i64 0)] s42 fun t5_43 s44 =>
 nw 3 [(.int .i64 0), (.int .i64 0), (.int .i64 0), (.int .i64 0), (.int .i64 0), (.int .i64 0)] s44 fun t7_45 s46 =>
 bnd (lns x1) fun t13_47 =>
 write_needs_2 E call fuel fuel t2_41 t5_43 (.int .i64 0) t7_45 x1 t13_47 (.int .i64 0) s46

def write_needs (E : Env) (call : CallF) (fuel : Nat) (x0 x1 : Value) (σ : St) : R := write_needs_0 E call fuel x0 x1 σ

/-! 42: plover/pool.Fits -/
def pool_Fits_3 (E : Env) (_call : CallF) (_fuel : Nat) (r2 : Value → Value → Value → Value → St → R) (x4 x5 x10 x11 : Value) (σ : St) : R :=
 bnd (bin E .add 3 false true x11 (.int .i64 1)) fun t43_0 =>
 r2 x4 x5 x10 t43_0 σ

def pool_Fits_4 (E : Env) (call : CallF) (fuel : Nat) (r2 : Value → Value → Value → Value → St → R) (x4 x5 x10 x11 x42 : Value) (σ : St) : R :=
 cnd x42
 (some (.ret (.bool false), σ))
 (pool_Fits_3 E call fuel r2 x4 x5 x10 x11 σ)

def pool_Fits_2 (E : Env) (call : CallF) (fuel : Nat) (r2 : Value → Value → Value → Value → St → R) (x4 x5 x10 x11 : Value) (σ : St) : R :=
 bnd (bin E .lss 3 false true x11 (.int .i64 6)) fun t12_1 =>
 cnd t12_1
 (bnd (at1 6 1 x10 x11) fun t14_2 =>
 bnd (ixa 6 1 x4 x11) fun t16_3 =>
 bnd (ld1 E σ t16_3) fun t17_4 =>
 bnd (bin E .lss 3 false true t17_4 (.int .i64 0)) fun t18_5 =>
 cnd t18_5 (pool_Fits_4 E call fuel r2 x4 x5 x10 x11 (.bool true) σ) (bnd (ixa 6 1 x5 x11) fun t21_6 =>
 bnd (ld1 E σ t21_6) fun t22_7 =>
 bnd (bin E .lss 3 false true t22_7 (.int .i64 0)) fun t23_8 =>
 cnd t23_8 (pool_Fits_4 E call fuel r2 x4 x5 x10 x11 (.bool true) σ) (bnd (ixa 6 1 x4 x11) fun t27_9 =>
 bnd (ld1 E σ t27_9) fun t28_10 =>
 bnd (bin E .gtr 3 false false t28_10 t14_2) fun t30_11 =>
 cnd t30_11 (pool_Fits_4 E call fuel r2 x4 x5 x10 x11 (.bool true) σ) (bnd (ixa 6 1 x5 x11) fun t34_12 =>
 bnd (ld1 E σ t34_12) fun t35_13 =>
 bnd (ixa 6 1 x4 x11) fun t38_14 =>
 bnd (ld1 E σ t38_14) fun t39_15 =>
 bnd (bin E .sub 3 false false t14_2 t39_15) fun t40_16 =>
 bnd (bin E .gtr 3 false false t35_13 t40_16) fun t41_17 =>
 pool_Fits_4 E call fuel r2 x4 x5 x10 x11 t41_17 σ))))
 (some (.ret (.bool true), σ))

def pool_Fits_1 (E : Env) (call : CallF) (fuel : Nat) : Nat → Value → Value → Value → Value → St → R
  | 0, _, _, _, _, _ => none
  | n + 1, x4, x5, x10, x11, σ => pool_Fits_2 E call fuel (pool_Fits_1 E call fuel n) x4 x5 x10 x11 σ

def pool_Fits_0 (E : Env) (call : CallF) (fuel : Nat) (x0 x1 x2 : Value) (σ : St) : R :=
 nw 80 x0.cells.toList σ fun t3_18 s19 =>
 nw 38 x1.cells.toList s19 fun t4_20 s21 =>
 nw 38 x2.cells.toList s21 fun t5_22 s23 =>
 bnd (fld 6 t3_18) fun t9_24 =>
 bnd (ldn E 6 s23 t9_24) fun t10_25 =>
 pool_Fits_1 E call fuel fuel t4_20 t5_22 t10_25 (.int .i64 0) s23

def pool_Fits (E : Env) (call : CallF) (fuel : Nat) (x0 x1 x2 : Value) (σ : St) : R := pool_Fits_0 E call fuel x0 x1 x2 σ

/-! 43: slices.Clone[[]plover/api.Seg,plover/api.Seg] -/
def slices_Clone_api_Seg_0 (E : Env) (_call : CallF) (_fuel : Nat) (x0 : Value) (σ : St) : R :=
 bnd (bin E .eql 56 false true x0 (.slice none 0 0)) fun t4_0 =>
 cnd t4_0
 (some (.ret (.slice none 0 0), σ))
 (bnd (bls 0 3 ⟨[]⟩ []) fun u1 => nws 97 0 0 u1 σ fun t5_2 s3 =>
 bn2 (app E 56 56 s3 t5_2 x0) fun t7_4 s5 =>
 some (.ret t7_4, s5))

def slices_Clone_api_Seg (E : Env) (call : CallF) (fuel : Nat) (x0 : Value) (σ : St) : R := slices_Clone_api_Seg_0 E call fuel x0 σ

/-! 44: plover/write.place1 -/
def write_place1_1 (E : Env) (call : CallF) (_fuel : Nat) (x0 x4 x8 x9 x12 x14 x16 : Value) (σ : St) : R :=
 bnd (fld 2 x12) fun t61_0 =>
 bnd (ld1 E σ t61_0) fun t62_1 =>
 callR (call 72 [x4, t62_1] σ) fun t63_2 s3 =>
 bnd (xtr 0 t63_2) fun t64_4 =>
 bnd (xtr 1 t63_2) fun _ =>
 bnd (ldn E 15 s3 x8) fun t69_6 =>
 bnd (ldn E 6 s3 x9) fun t70_7 =>
 bnd (nck x16) fun t72_8 =>
 bnd (fld 2 t72_8) fun t73_9 =>
 bnd (ld1 E s3 t73_9) fun t74_10 =>
 callB (call 73 [x0, t69_6, t70_7, t74_10, t64_4] s3) (fun t76_11 s12 =>
 bnd (xtr 0 t76_11) fun t77_13 =>
 bnd (xtr 1 t76_11) fun t78_14 =>
 bnd (xtr 2 t76_11) fun _ =>
 bnd (nck x16) fun t80_16 =>
 bnd (fld 2 t80_16) fun t81_17 =>
 bnd (st1 E s12 t81_17 t77_13) fun s18 =>
 bnd (stn E 6 s18 x9 t78_14) fun s19 =>
 bnd (nck x16) fun t84_20 =>
 bnd (fld 1 t84_20) fun t85_21 =>
 bnd (ld1 E s19 t85_21) fun t86_22 =>
 bnd (nck x16) fun t88_23 =>
 bnd (fld 2 t88_23) fun t89_24 =>
 bnd (ld1 E s19 t89_24) fun t90_25 =>
 callB (call 74 [x0, t86_22, t90_25] s19) (fun _ s27 =>
 bnd (ldn E 6 s27 x9) fun t92_28 =>
 bnd (stn E 6 s27 x14 t92_28) fun s29 =>
 bnd (ldn E 6 s29 x14) fun r30 =>
 some (.ret r30, s29)) (fun _ _ => none)) (fun _ _ => none)

def write_place1_0 (E : Env) (call : CallF) (fuel : Nat) (x0 x1 x2 x3 x4 x5 x6 : Value) (σ : St) : R :=
 nw 80 x1.cells.toList σ fun t8_31 s32 =>
 nw 38 x2.cells.toList s32 fun t9_33 s34 =>
 nw 106 x5.cells.toList s34 fun t12_35 s36 =>
 nw 3 [(.int .i64 0), (.int .i64 0), (.int .i64 0), (.int .i64 0), (.int .i64 0), (.int .i64 0)] s36 fun t14_37 s38 =>
 bnd (fld 0 t12_35) fun t21_39 =>
 bnd (ld1 E s38 t21_39) fun t22_40 =>
 bnd (fld 1 t12_35) fun t23_41 =>
 bnd (ld1 E s38 t23_41) fun t24_42 =>
 callR (call 64 [t22_40, t24_42] s38) fun t25_43 s44 =>
 nw 9 [(sv [])] s44 fun t15_45 s46 =>
 bnd (st1 E s46 t15_45 t25_43) fun s47 =>
 callR (call 69 [x6, (.func (.func 70) ⟨[]⟩ ⟨[t15_45]⟩)] s47) fun t29_48 s49 =>
 bnd (ixs 4 x6 t29_48) fun t30_50 =>
 bnd (nck t30_50) fun t32_51 =>
 bnd (fld 1 t32_51) fun t33_52 =>
 bnd (ld1 E s49 t33_52) fun t34_53 =>
 bnd (bin E .eql 3 false true t34_53 (.int .i64 0)) fun t35_54 =>
 cnd t35_54
 (bnd (fld 13 t8_31) fun t39_55 =>
 bnd (ld1 E s49 t39_55) fun t40_56 =>
 bnd (ld1 E s49 t15_45) fun t41_57 =>
 callR (call 65 [x0, x3, t40_56, t41_57] s49) fun t42_58 s59 =>
 bnd (xtr 0 t42_58) fun _ =>
 bnd (xtr 1 t42_58) fun t44_61 =>
 bnd (ldn E 15 s59 t8_31) fun t48_62 =>
 bnd (ldn E 6 s59 t9_33) fun t49_63 =>
 bnd (ld1 E s59 t15_45) fun t52_64 =>
 callR (call 71 [x0, t48_62, t49_63, x3, t44_61, t52_64] s59) fun t53_65 s66 =>
 bnd (xtr 0 t53_65) fun t54_67 =>
 bnd (xtr 1 t53_65) fun t55_68 =>
 bnd (xtr 2 t53_65) fun _ =>
 bnd (nck t30_50) fun t57_70 =>
 bnd (fld 1 t57_70) fun t58_71 =>
 bnd (st1 E s66 t58_71 t54_67) fun s72 =>
 bnd (stn E 6 s72 t9_33 t55_68) fun s73 =>
 write_place1_1 E call fuel x0 x4 t8_31 t9_33 t12_35 t14_37 t30_50 s73)
 (write_place1_1 E call fuel x0 x4 t8_31 t9_33 t12_35 t14_37 t30_50 s49)

def write_place1 (E : Env) (call : CallF) (fuel : Nat) (x0 x1 x2 x3 x4 x5 x6 : Value) (σ : St) : R := write_place1_0 E call fuel x0 x1 x2 x3 x4 x5 x6 σ

/-! 45: plover/table.Lay -/
def table_Lay_0 (E : Env) (call : CallF) (_fuel : Nat) (x0 x1 x2 x3 x4 x5 : Value) (σ : St) : R :=
 bnd (bin E .mul 3 true false (.int .i64 4) x2) fun t15_0 =>
 bnd (bin E .add 3 false false x1 t15_0) fun t16_1 =>
 bnd (bin E .add 3 false true t16_1 (.int .i64 1)) fun t19_2 =>
 callR (call 46 [x0, t19_2, x3] σ) fun _ s4 =>
 bnd (bin E .add 3 false true t16_1 (.int .i64 2)) fun t24_5 =>
 callR (call 46 [x0, t24_5, x4] s4) fun _ s7 =>
 bnd (bin E .add 3 false true t16_1 (.int .i64 0)) fun t29_8 =>
 callR (call 46 [x0, t29_8, x5] s7) fun _ s10 =>
 some (.ret (.tuple ⟨[]⟩), s10)

def table_Lay (E : Env) (call : CallF) (fuel : Nat) (x0 x1 x2 x3 x4 x5 : Value) (σ : St) : R := table_Lay_0 E call fuel x0 x1 x2 x3 x4 x5 σ

/-! 46: (*plover/step.Run).Store -/
def step_Run_Store_0 (E : Env) (call : CallF) (_fuel : Nat) (x0 x1 x2 : Value) (σ : St) : R :=
 callR (call 75 [x0] σ) fun t10_0 s1 =>
 bnd (xtr 0 t10_0) fun t11_2 =>
 bnd (xtr 1 t10_0) fun _ =>
 cnd t11_2
 (bnd (nck x0) fun t16_4 =>
 bnd (fld 0 t16_4) fun t17_5 =>
 bnd (ld1 E s1 t17_5) fun t18_6 =>
 callR (call 61 [t18_6, x1, x2] s1) fun t21_7 s8 =>
 callR (call 76 [x0, (.int .u32 0), t21_7] s8) fun _ s10 =>
 some (.ret (.tuple ⟨[]⟩), s10))
 (some (.ret (.tuple ⟨[]⟩), s1))

def step_Run_Store (E : Env) (call : CallF) (fuel : Nat) (x0 x1 x2 : Value) (σ : St) : R := step_Run_Store_0 E call fuel x0 x1 x2 σ

/-! 51: plover/pool.Take -/
def pool_Take_1 (E : Env) (_call : CallF) (_fuel : Nat) (x2 x3 x4 x5 x9 : Value) (σ : St) : R :=
 bnd (fld 0 x4) fun t45_0 =>
 bnd (ixa 6 1 t45_0 x2) fun t46_1 =>
 bnd (ld1 E σ t46_1) fun t47_2 =>
 bnd (ixa 6 1 x5 x2) fun t49_3 =>
 bnd (ld1 E σ t49_3) fun t50_4 =>
 bnd (bin E .add 3 false false t47_2 t50_4) fun t51_5 =>
 bnd (ixa 6 1 x5 x2) fun t53_6 =>
 bnd (ld1 E σ t53_6) fun t54_7 =>
 bnd (bin E .add 3 false false t54_7 x3) fun t56_8 =>
 bnd (ixa 6 1 x5 x2) fun t57_9 =>
 bnd (st1 E σ t57_9 t56_8) fun s10 =>
 bnd (ldn E 6 s10 x5) fun t59_11 =>
 bnd (stn E 6 s10 x9 t59_11) fun s12 =>
 bnd (ldn E 6 s12 x9) fun r13 =>
 some (.ret (.tuple ⟨[t51_5, r13, (.int .i64 0)]⟩), s12)

def pool_Take_2 (E : Env) (call : CallF) (fuel : Nat) (x2 x3 x4 x5 x9 x12 : Value) (σ : St) : R :=
 cnd x12
 (bnd (bld (pla 1) ⟨[(.int .i64 0), (.int .i64 0), (.int .i64 0), (.int .i64 0), (.int .i64 0), (.int .i64 0)]⟩ []) fun t31_14 =>
 bnd (stn E 6 σ x9 t31_14) fun s15 =>
 bnd (ldn E 6 s15 x9) fun r16 =>
 some (.ret (.tuple ⟨[(.int .i64 0), r16, (.int .i64 1)]⟩), s15))
 (bnd (fld 6 x4) fun t35_17 =>
 bnd (ixa 6 1 t35_17 x2) fun t36_18 =>
 bnd (ld1 E σ t36_18) fun t37_19 =>
 bnd (ixa 6 1 x5 x2) fun t39_20 =>
 bnd (ld1 E σ t39_20) fun t40_21 =>
 bnd (bin E .sub 3 false false t37_19 t40_21) fun t41_22 =>
 bnd (bin E .gtr 3 false false x3 t41_22) fun t42_23 =>
 cnd t42_23
 (bnd (bld (pla 1) ⟨[(.int .i64 0), (.int .i64 0), (.int .i64 0), (.int .i64 0), (.int .i64 0), (.int .i64 0)]⟩ []) fun t43_24 =>
 bnd (stn E 6 σ x9 t43_24) fun s25 =>
 bnd (ldn E 6 s25 x9) fun r26 =>
 some (.ret (.tuple ⟨[(.int .i64 0), r26, (.int .i64 3)]⟩), s25))
 (pool_Take_1 E call fuel x2 x3 x4 x5 x9 σ))

def pool_Take_0 (E : Env) (call : CallF) (fuel : Nat) (x0 x1 x2 x3 : Value) (σ : St) : R :=
 nw 80 x0.cells.toList σ fun t4_27 s28 =>
 nw 38 x1.cells.toList s28 fun t5_29 s30 =>
 nw 3 [(.int .i64 0), (.int .i64 0), (.int .i64 0), (.int .i64 0), (.int .i64 0), (.int .i64 0)] s30 fun t9_31 s32 =>
 callB (call 59 [x2, (.int .i64 0), (.int .i64 5)] s32) (fun t14_33 s34 =>
 bnd (notV t14_33) fun t15_35 =>
 cnd t15_35 (pool_Take_2 E call fuel x2 x3 t4_27 t5_29 t9_31 (.bool true) s34) (bnd (bin E .lss 3 false true x3 (.int .i64 1)) fun t18_36 =>
 cnd t18_36 (pool_Take_2 E call fuel x2 x3 t4_27 t5_29 t9_31 (.bool true) s34) (bnd (ixa 6 1 t5_29 x2) fun t22_37 =>
 bnd (ld1 E s34 t22_37) fun t23_38 =>
 bnd (fld 6 t4_27) fun t25_39 =>
 bnd (ixa 6 1 t25_39 x2) fun t26_40 =>
 bnd (ld1 E s34 t26_40) fun t27_41 =>
 callB (call 59 [t23_38, (.int .i64 0), t27_41] s34) (fun t28_42 s43 =>
 bnd (notV t28_42) fun t29_44 =>
 pool_Take_2 E call fuel x2 x3 t4_27 t5_29 t9_31 t29_44 s43) (fun _ _ => none)))) (fun _ _ => none)

def pool_Take (E : Env) (call : CallF) (fuel : Nat) (x0 x1 x2 x3 : Value) (σ : St) : R := pool_Take_0 E call fuel x0 x1 x2 x3 σ

/-! 54: (*plover/step.Run).Load -/
def step_Run_Load_0 (E : Env) (call : CallF) (_fuel : Nat) (x0 x1 : Value) (σ : St) : R :=
 callR (call 75 [x0] σ) fun t11_0 s1 =>
 bnd (xtr 0 t11_0) fun t12_2 =>
 bnd (xtr 1 t11_0) fun t13_3 =>
 cnd t12_2
 (bnd (nck x0) fun t17_4 =>
 bnd (fld 0 t17_4) fun t18_5 =>
 bnd (ld1 E s1 t18_5) fun t19_6 =>
 callR (call 91 [t19_6, x1] s1) fun t21_7 s8 =>
 bnd (xtr 0 t21_7) fun t22_9 =>
 bnd (xtr 1 t21_7) fun t23_10 =>
 callR (call 76 [x0, t22_9, t23_10] s8) fun _ s12 =>
 some (.ret t22_9, s12))
 (cnd t13_3
 (bnd (nck x0) fun t31_13 =>
 bnd (fld 1 t31_13) fun t32_14 =>
 bnd (ld1 E s1 t32_14) fun t33_15 =>
 bnd (nck x0) fun t35_16 =>
 bnd (fld 2 t35_16) fun t36_17 =>
 bnd (ld1 E s1 t36_17) fun t37_18 =>
 bnd (bin E .sub 3 false true t37_18 (.int .i64 1)) fun t38_19 =>
 bnd (ixs 1 t33_15 t38_19) fun t39_20 =>
 bnd (ld1 E s1 t39_20) fun t40_21 =>
 some (.ret t40_21, s1))
 (some (.ret (.int .u32 0), s1)))

def step_Run_Load (E : Env) (call : CallF) (fuel : Nat) (x0 x1 : Value) (σ : St) : R := step_Run_Load_0 E call fuel x0 x1 σ

/-! 59: plover/pool.between -/
def pool_between_0 (E : Env) (_call : CallF) (_fuel : Nat) (x0 x1 x2 : Value) (σ : St) : R :=
 bnd (bin E .geq 3 false false x0 x1) fun t9_0 =>
 cnd t9_0 (bnd (bin E .leq 3 false false x0 x2) fun t13_1 =>
 some (.ret t13_1, σ)) (some (.ret (.bool false), σ))

def pool_between (E : Env) (call : CallF) (fuel : Nat) (x0 x1 x2 : Value) (σ : St) : R := pool_between_0 E call fuel x0 x1 x2 σ

/-! 60: (*plover/mem.Mem).Len -/
def mem_Mem_Len_0 (E : Env) (_call : CallF) (_fuel : Nat) (x0 : Value) (σ : St) : R :=
 bnd (bin E .eql 55 false true x0 (.pointer none)) fun t4_0 =>
 cnd t4_0
 (some (.ret (.int .i64 0), σ))
 (bnd (nck x0) fun t6_1 =>
 bnd (fld 0 t6_1) fun t7_2 =>
 bnd (ld1 E σ t7_2) fun t8_3 =>
 bnd (lns t8_3) fun t9_4 =>
 some (.ret t9_4, σ))

def mem_Mem_Len (E : Env) (call : CallF) (fuel : Nat) (x0 : Value) (σ : St) : R := mem_Mem_Len_0 E call fuel x0 σ

/-! 61: (*plover/mem.Mem).Store -/
def mem_Mem_Store_1 (E : Env) (_call : CallF) (_fuel : Nat) (x0 x1 x2 : Value) (σ : St) : R :=
 bnd (nck x0) fun t23_0 =>
 bnd (fld 2 t23_0) fun t24_1 =>
 bnd (ld1 E σ t24_1) fun t25_2 =>
 bnd (bin E .add 3 false true t25_2 (.int .i64 1)) fun t26_3 =>
 bnd (nck x0) fun t27_4 =>
 bnd (fld 2 t27_4) fun t28_5 =>
 bnd (st1 E σ t28_5 t26_3) fun s6 =>
 bnd (nck x0) fun t30_7 =>
 bnd (fld 0 t30_7) fun t31_8 =>
 bnd (ld1 E s6 t31_8) fun t32_9 =>
 bnd (ixs 1 t32_9 x1) fun t35_10 =>
 bnd (st1 E s6 t35_10 x2) fun s11 =>
 some (.ret (.int .i64 0), s11)

def mem_Mem_Store_2 (E : Env) (call : CallF) (fuel : Nat) (x0 x1 x2 x21 : Value) (σ : St) : R :=
 cnd x21
 (some (.ret (.int .i64 2), σ))
 (mem_Mem_Store_1 E call fuel x0 x1 x2 σ)

def mem_Mem_Store_0 (E : Env) (call : CallF) (fuel : Nat) (x0 x1 x2 : Value) (σ : St) : R :=
 bnd (bin E .eql 55 false true x0 (.pointer none)) fun t8_12 =>
 cnd t8_12 (mem_Mem_Store_2 E call fuel x0 x1 x2 (.bool true) σ) (bnd (bin E .lss 3 false true x1 (.int .i64 0)) fun t11_13 =>
 cnd t11_13 (mem_Mem_Store_2 E call fuel x0 x1 x2 (.bool true) σ) (bnd (nck x0) fun t16_14 =>
 bnd (fld 0 t16_14) fun t17_15 =>
 bnd (ld1 E σ t17_15) fun t18_16 =>
 bnd (lns t18_16) fun t19_17 =>
 bnd (bin E .geq 3 false false x1 t19_17) fun t20_18 =>
 mem_Mem_Store_2 E call fuel x0 x1 x2 t20_18 σ))

def mem_Mem_Store (E : Env) (call : CallF) (fuel : Nat) (x0 x1 x2 : Value) (σ : St) : R := mem_Mem_Store_0 E call fuel x0 x1 x2 σ

/-! 62: plover/token.Words -/
def token_Words_3 (E : Env) (_call : CallF) (_fuel : Nat) (r2 : Value → Value → Value → Value → St → R) (x3 x4 x5 x6 : Value) (σ : St) : R :=
 bnd (bin E .add 3 false true x6 (.int .i64 1)) fun t16_0 =>
 r2 x3 x4 x5 t16_0 σ

def token_Words_4 (E : Env) (call : CallF) (fuel : Nat) (r2 : Value → Value → Value → Value → St → R) (x3 x4 x5 x6 x7 : Value) (σ : St) : R :=
 callR (call 103 [x7] σ) fun t46_1 s2 =>
 callR (call 102 [t46_1, (.int .i64 16)] s2) fun t47_3 s4 =>
 bnd (bin E .add 3 false true x5 (.int .i64 1)) fun t49_5 =>
 callR (call 104 [t47_3] s4) fun t51_6 s7 =>
 cnd t51_6
 (token_Words_3 E call fuel r2 x3 x4 t49_5 x6 s7)
 (bnd (bin E .sub 3 false true t49_5 (.int .i64 1)) fun t55_8 =>
 bnd (bld (plc [(0, 1), (1, 1), (2, 1)]) ⟨[(.int .u8 0), (sv []), (.int .i64 0)]⟩ [(1, t47_3), (2, t55_8)]) fun t56_9 =>
 bnd (bls 1 3 ⟨[(.int .u8 0), (sv []), (.int .i64 0)]⟩ [(0, t56_9)]) fun u10 => nws 106 1 1 u10 s7 fun t57_11 s12 =>
 bn2 (app E 90 90 s12 x4 t57_11) fun t58_13 s14 =>
 token_Words_3 E call fuel r2 x3 t58_13 t49_5 x6 s14)

def token_Words_7 (E : Env) (call : CallF) (_fuel : Nat) (_r2 : Value → Value → Value → Value → St → R) (r6 : Value → Value → Value → Value → Value → St → R) (x3 x4 x5 x6 x7 : Value) (σ : St) : R :=
 bnd (ixs 1 x3 x6) fun t40_15 =>
 bnd (ld1 E σ t40_15) fun t41_16 =>
 callR (call 101 [t41_16] σ) fun t42_17 s18 =>
 bnd (bls 1 1 ⟨[(.int .i32 0)]⟩ [(0, t42_17)]) fun u19 => nws 21 1 1 u19 s18 fun t43_20 s21 =>
 bn2 (app E 182 182 s21 x7 t43_20) fun t44_22 s23 =>
 bnd (bin E .add 3 false true x6 (.int .i64 1)) fun t36_24 =>
 r6 x3 x4 x5 t36_24 t44_22 s23

def token_Words_8 (E : Env) (call : CallF) (fuel : Nat) (r2 : Value → Value → Value → Value → St → R) (r6 : Value → Value → Value → Value → Value → St → R) (x3 x4 x5 x6 x7 x34 : Value) (σ : St) : R :=
 cnd x34
 (token_Words_7 E call fuel r2 r6 x3 x4 x5 x6 x7 σ)
 (token_Words_4 E call fuel r2 x3 x4 x5 x6 x7 σ)

def token_Words_6 (E : Env) (call : CallF) (fuel : Nat) (r2 : Value → Value → Value → Value → St → R) (r6 : Value → Value → Value → Value → Value → St → R) (x3 x4 x5 x6 x7 : Value) (σ : St) : R :=
 bnd (lns x3) fun t25_25 =>
 bnd (bin E .lss 3 false false x6 t25_25) fun t26_26 =>
 cnd t26_26 (bnd (ixs 1 x3 x6) fun t30_27 =>
 bnd (ld1 E σ t30_27) fun t31_28 =>
 callR (call 100 [t31_28] σ) fun t32_29 s30 =>
 bnd (bin E .neq 3 false true t32_29 (.int .i64 0)) fun t33_31 =>
 token_Words_8 E call fuel r2 r6 x3 x4 x5 x6 x7 t33_31 s30) (token_Words_8 E call fuel r2 r6 x3 x4 x5 x6 x7 (.bool false) σ)

def token_Words_5 (E : Env) (call : CallF) (fuel : Nat) (r2 : Value → Value → Value → Value → St → R) : Nat → Value → Value → Value → Value → Value → St → R
  | 0, _, _, _, _, _, _ => none
  | n + 1, x3, x4, x5, x6, x7, σ => token_Words_6 E call fuel r2 (token_Words_5 E call fuel r2 n) x3 x4 x5 x6 x7 σ

def token_Words_2 (E : Env) (call : CallF) (fuel : Nat) (r2 : Value → Value → Value → Value → St → R) (x3 x4 x5 x6 : Value) (σ : St) : R :=
 bnd (lns x3) fun t13_32 =>
 bnd (bin E .lss 3 false false x6 t13_32) fun t14_33 =>
 cnd t14_33
 (bnd (ixs 1 x3 x6) fun t19_34 =>
 bnd (ld1 E σ t19_34) fun t20_35 =>
 callR (call 100 [t20_35] σ) fun t21_36 s37 =>
 bnd (bin E .eql 3 false true t21_36 (.int .i64 0)) fun t22_38 =>
 cnd t22_38
 (token_Words_3 E call fuel r2 x3 x4 x5 x6 s37)
 (token_Words_5 E call fuel r2 fuel x3 x4 x5 x6 (.slice none 0 0) s37))
 (some (.ret x4, σ))

def token_Words_1 (E : Env) (call : CallF) (fuel : Nat) : Nat → Value → Value → Value → Value → St → R
  | 0, _, _, _, _, _ => none
  | n + 1, x3, x4, x5, x6, σ => token_Words_2 E call fuel (token_Words_1 E call fuel n) x3 x4 x5 x6 σ

def token_Words_0 (E : Env) (call : CallF) (fuel : Nat) (x0 : Value) (σ : St) : R :=
 callR (call 85 [x0] σ) fun t10_39 s40 =>
 token_Words_1 E call fuel fuel t10_39 (.slice none 0 0) (.int .i64 0) (.int .i64 0) s40

def token_Words (E : Env) (call : CallF) (fuel : Nat) (x0 : Value) (σ : St) : R := token_Words_0 E call fuel x0 σ

/-! 63: plover/table.Find -/
def table_Find_2 (E : Env) (call : CallF) (_fuel : Nat) (r2 : Value → Value → Value → Value → Value → St → R) (x0 x1 x3 x11 x12 : Value) (σ : St) : R :=
 bnd (bin E .lss 3 false false x12 x11) fun t13_0 =>
 cnd t13_0
 (bnd (bin E .mul 3 true false (.int .i64 4) x12) fun t18_1 =>
 bnd (bin E .add 3 false false x1 t18_1) fun t19_2 =>
 bnd (bin E .add 3 false true t19_2 (.int .i64 1)) fun t20_3 =>
 callR (call 54 [x0, t20_3] σ) fun t21_4 s5 =>
 callR (call 39 [x0] s5) fun t23_6 s7 =>
 cnd t23_6
 (some (.ret (.int .i64 (-1)), s7))
 (bnd (bin E .eql 22 false false t21_4 x3) fun t26_8 =>
 cnd t26_8
 (some (.ret x12, s7))
 (bnd (bin E .add 3 false true x12 (.int .i64 1)) fun t28_9 =>
 r2 x0 x1 x3 x11 t28_9 s7)))
 (some (.ret (.int .i64 (-1)), σ))

def table_Find_1 (E : Env) (call : CallF) (fuel : Nat) : Nat → Value → Value → Value → Value → Value → St → R
  | 0, _, _, _, _, _, _ => none
  | n + 1, x0, x1, x3, x11, x12, σ => table_Find_2 E call fuel (table_Find_1 E call fuel n) x0 x1 x3 x11 x12 σ

def table_Find_0 (E : Env) (call : CallF) (fuel : Nat) (x0 x1 x2 x3 : Value) (σ : St) : R :=
 table_Find_1 E call fuel fuel x0 x1 x3 x2 (.int .i64 0) σ

def table_Find (E : Env) (call : CallF) (fuel : Nat) (x0 x1 x2 x3 : Value) (σ : St) : R := table_Find_0 E call fuel x0 x1 x2 x3 σ

/-! 64: plover/pack.Key -/
def pack_Key_0 (E : Env) (_call : CallF) (_fuel : Nat) (x0 x1 : Value) (σ : St) : R :=
 bnd (bls 1 1 ⟨[(.int .u8 0)]⟩ [(0, x0)]) fun u0 => nws 5 1 1 u0 σ fun t6_1 s2 =>
 bnd (str E 209 9 s2 t6_1) fun t7_3 =>
 bnd (bin E .add 9 false false t7_3 x1) fun t9_4 =>
 some (.ret t9_4, s2)

def pack_Key (E : Env) (call : CallF) (fuel : Nat) (x0 x1 : Value) (σ : St) : R := pack_Key_0 E call fuel x0 x1 σ

/-! 65: plover/dict.Find -/
def dict_Find_3 (E : Env) (_call : CallF) (_fuel : Nat) (r2 : Value → Value → Value → Value → Value → Value → Value → Value → St → R) (x0 x1 x2 x3 x10 x11 x28 x29 : Value) (σ : St) : R :=
 bnd (bin E .add 3 false true x29 (.int .i64 1)) fun t81_0 =>
 r2 x0 x1 x2 x3 x10 x11 x28 t81_0 σ

def dict_Find_6 (E : Env) (_call : CallF) (_fuel : Nat) (_r2 : Value → Value → Value → Value → Value → Value → Value → Value → St → R) (r5 : Value → Value → Value → Value → Value → Value → Value → Value → Value → Value → Value → Value → Value → St → R) (x0 x1 x2 x3 x10 x11 x13 x14 x28 x29 x59 x60 x61 : Value) (σ : St) : R :=
 bnd (bin E .add 3 false true x61 (.int .i64 1)) fun t78_1 =>
 r5 x0 x1 x2 x3 x10 x11 x13 x14 x28 x29 x59 x60 t78_1 σ

def dict_Find_7 (E : Env) (call : CallF) (fuel : Nat) (r2 : Value → Value → Value → Value → Value → Value → Value → Value → St → R) (r5 : Value → Value → Value → Value → Value → Value → Value → Value → Value → Value → Value → Value → Value → St → R) (x0 x1 x2 x3 x10 x11 x13 x14 x28 x29 x59 x60 x61 x77 : Value) (σ : St) : R :=
 cnd x77
 (dict_Find_3 E call fuel r2 x0 x1 x2 x3 x10 x11 x28 x29 σ)
 (dict_Find_6 E call fuel r2 r5 x0 x1 x2 x3 x10 x11 x13 x14 x28 x29 x59 x60 x61 σ)

def dict_Find_5 (E : Env) (call : CallF) (fuel : Nat) (r2 : Value → Value → Value → Value → Value → Value → Value → Value → St → R) (r5 : Value → Value → Value → Value → Value → Value → Value → Value → Value → Value → Value → Value → Value → St → R) (x0 x1 x2 x3 x10 x11 x13 x14 x28 x29 x59 x60 x61 : Value) (σ : St) : R :=
 bnd (bin E .lss 3 false false x61 x60) fun t62_2 =>
 cnd t62_2
 (bnd (ixs 1 x59 x61) fun t64_3 =>
 bnd (ld1 E σ t64_3) fun t65_4 =>
 bnd (bin E .add 3 false true x14 (.int .i64 2)) fun t68_5 =>
 bnd (bin E .add 3 false false t68_5 x61) fun t70_6 =>
 callR (call 54 [x0, t70_6] σ) fun t71_7 s8 =>
 bnd (bin E .neq 22 false false t71_7 t65_4) fun t73_9 =>
 cnd t73_9 (dict_Find_7 E call fuel r2 r5 x0 x1 x2 x3 x10 x11 x13 x14 x28 x29 x59 x60 x61 (.bool true) s8) (callR (call 39 [x0] s8) fun t76_10 s11 =>
 dict_Find_7 E call fuel r2 r5 x0 x1 x2 x3 x10 x11 x13 x14 x28 x29 x59 x60 x61 t76_10 s11))
 (some (.ret (.tuple ⟨[x14, x13]⟩), σ))

def dict_Find_4 (E : Env) (call : CallF) (fuel : Nat) (r2 : Value → Value → Value → Value → Value → Value → Value → Value → St → R) : Nat → Value → Value → Value → Value → Value → Value → Value → Value → Value → Value → Value → Value → Value → St → R
  | 0, _, _, _, _, _, _, _, _, _, _, _, _, _, _ => none
  | n + 1, x0, x1, x2, x3, x10, x11, x13, x14, x28, x29, x59, x60, x61, σ => dict_Find_5 E call fuel r2 (dict_Find_4 E call fuel r2 n) x0 x1 x2 x3 x10 x11 x13 x14 x28 x29 x59 x60 x61 σ

def dict_Find_2 (E : Env) (call : CallF) (fuel : Nat) (r2 : Value → Value → Value → Value → Value → Value → Value → Value → St → R) (x0 x1 x2 x3 x10 x11 x28 x29 : Value) (σ : St) : R :=
 bnd (bin E .lss 3 false false x29 x28) fun t30_12 =>
 cnd t30_12
 (bnd (bin E .add 3 false false x11 x29) fun t34_13 =>
 bnd (bin E .rem 3 false false t34_13 x2) fun t36_14 =>
 bnd (bin E .add 3 false false x1 t36_14) fun t40_15 =>
 callR (call 54 [x0, t40_15] σ) fun t41_16 s17 =>
 bnd (cvi .i64 t41_16) fun t42_18 =>
 callR (call 39 [x0] s17) fun t45_19 s20 =>
 cnd t45_19
 (some (.ret (.tuple ⟨[(.int .i64 0), (.int .i64 (-1))]⟩), s20))
 (bnd (bin E .eql 3 false true t42_18 (.int .i64 0)) fun t48_21 =>
 cnd t48_21
 (some (.ret (.tuple ⟨[(.int .i64 0), t36_14]⟩), s20))
 (bnd (bin E .add 3 false true t42_18 (.int .i64 1)) fun t53_22 =>
 callR (call 54 [x0, t53_22] s20) fun t54_23 s24 =>
 bnd (cvi .i64 t54_23) fun t55_25 =>
 bnd (lnt x3) fun t57_26 =>
 bnd (bin E .neq 3 false false t55_25 t57_26) fun t58_27 =>
 cnd t58_27
 (dict_Find_3 E call fuel r2 x0 x1 x2 x3 x10 x11 x28 x29 s24)
 (bnd (lns x10) fun t60_28 =>
 dict_Find_4 E call fuel r2 fuel x0 x1 x2 x3 x10 x11 t36_14 t42_18 x28 x29 x10 t60_28 (.int .i64 0) s24))))
 (some (.ret (.tuple ⟨[(.int .i64 0), (.int .i64 (-1))]⟩), σ))

def dict_Find_1 (E : Env) (call : CallF) (fuel : Nat) : Nat → Value → Value → Value → Value → Value → Value → Value → Value → St → R
  | 0, _, _, _, _, _, _, _, _, _ => none
  | n + 1, x0, x1, x2, x3, x10, x11, x28, x29, σ => dict_Find_2 E call fuel (dict_Find_1 E call fuel n) x0 x1 x2 x3 x10 x11 x28 x29 σ

def dict_Find_0 (E : Env) (call : CallF) (fuel : Nat) (x0 x1 x2 x3 : Value) (σ : St) : R :=
 bnd (bin E .lss 3 false true x2 (.int .i64 1)) fun t18_29 =>
 cnd t18_29
 (some (.ret (.tuple ⟨[(.int .i64 0), (.int .i64 (-1))]⟩), σ))
 (callR (call 67 [x3] σ) fun t20_30 s31 =>
 callR (call 105 [x3] s31) fun t22_32 s33 =>
 bnd (cvi .u64 t22_32) fun t23_34 =>
 bnd (cvi .u64 x2) fun t25_35 =>
 bnd (bin E .rem 210 false false t23_34 t25_35) fun t26_36 =>
 bnd (cvi .i64 t26_36) fun t27_37 =>
 dict_Find_1 E call fuel fuel x0 x1 x2 x3 t20_30 t27_37 x2 (.int .i64 0) s33)

def dict_Find (E : Env) (call : CallF) (fuel : Nat) (x0 x1 x2 x3 : Value) (σ : St) : R := dict_Find_0 E call fuel x0 x1 x2 x3 σ

/-! 67: plover/pack.Cells -/
def pack_Cells_2 (E : Env) (_call : CallF) (_fuel : Nat) (r2 : Value → Value → Value → Value → St → R) (x0 x3 x11 x12 : Value) (σ : St) : R :=
 bnd (bin E .lss 3 false false x12 x11) fun t13_0 =>
 cnd t13_0
 (bnd (bin E .quo 3 false true x12 (.int .i64 4)) fun t17_1 =>
 bnd (ixs 1 x3 t17_1) fun t18_2 =>
 bnd (ld1 E σ t18_2) fun t19_3 =>
 bnd (sat E 9 x0 x12) fun t22_4 =>
 bnd (cvi .u32 t22_4) fun t23_5 =>
 bnd (bin E .rem 3 false true x12 (.int .i64 4)) fun t25_6 =>
 bnd (bin E .mul 3 true false (.int .i64 8) t25_6) fun t26_7 =>
 bnd (bin E .shl 22 false false t23_5 t26_7) fun t27_8 =>
 bnd (bin E .or 22 false false t19_3 t27_8) fun t28_9 =>
 bnd (ixs 1 x3 t17_1) fun t29_10 =>
 bnd (st1 E σ t29_10 t28_9) fun s11 =>
 bnd (bin E .add 3 false true x12 (.int .i64 1)) fun t30_12 =>
 r2 x0 x3 x11 t30_12 s11)
 (some (.ret x3, σ))

def pack_Cells_1 (E : Env) (call : CallF) (fuel : Nat) : Nat → Value → Value → Value → Value → St → R
  | 0, _, _, _, _, _ => none
  | n + 1, x0, x3, x11, x12, σ => pack_Cells_2 E call fuel (pack_Cells_1 E call fuel n) x0 x3 x11 x12 σ

def pack_Cells_0 (E : Env) (call : CallF) (fuel : Nat) (x0 : Value) (σ : St) : R :=
 bnd (lnt x0) fun t6_13 =>
 bnd (bin E .add 3 false true t6_13 (.int .i64 3)) fun t7_14 =>
 bnd (bin E .quo 3 false true t7_14 (.int .i64 4)) fun t8_15 =>
 bn2 (mks E 36 σ t8_15 t8_15) fun t9_16 s17 =>
 bnd (lnt x0) fun t11_18 =>
 pack_Cells_1 E call fuel fuel x0 t9_16 t11_18 (.int .i64 0) s17

def pack_Cells (E : Env) (call : CallF) (fuel : Nat) (x0 : Value) (σ : St) : R := pack_Cells_0 E call fuel x0 σ

/-! 68: plover/post.Need -/
def post_Need_2 (E : Env) (_call : CallF) (_fuel : Nat) (x6 x7 : Value) (σ : St) : R :=
 bnd (ldn E 6 σ x7) fun t59_0 =>
 bnd (stn E 6 σ x6 t59_0) fun s1 =>
 bnd (ldn E 6 s1 x6) fun r2 =>
 some (.ret r2, s1)

def post_Need_4 (E : Env) (call : CallF) (fuel : Nat) (r4 : Value → Value → Value → Value → Value → St → R) (x2 x6 x7 x8 x10 : Value) (σ : St) : R :=
 bnd (bin E .gtr 3 false false x2 x10) fun t42_3 =>
 cnd t42_3
 (bnd (bin E .sub 3 false false x2 x10) fun t45_4 =>
 bnd (ixa 6 1 x7 x8) fun t47_5 =>
 bnd (ld1 E σ t47_5) fun t48_6 =>
 callB (call 108 [x8] σ) (fun t50_7 s8 =>
 bnd (bin E .add 3 false false t48_6 t50_7) fun t51_9 =>
 bnd (ixa 6 1 x7 x8) fun t52_10 =>
 bnd (st1 E s8 t52_10 t51_9) fun s11 =>
 bnd (ld1 E s8 t47_5) fun u12 =>
 smK u12 t48_6 (callR (call 108 [x8] s11) fun t54_13 s14 =>
 bnd (bin E .sub 3 false true t54_13 (.int .i64 1)) fun t55_15 =>
 bnd (bin E .add 3 false true x8 (.int .i64 1)) fun t57_16 =>
 bnd (mnx E .min #[3, 3] t57_16 (.int .i64 3)) fun t58_17 =>
 r4 t45_4 x6 x7 t58_17 t55_15 s14)) (fun _ _ => none))
 (post_Need_2 E call fuel x6 x7 σ)

def post_Need_3 (E : Env) (call : CallF) (fuel : Nat) : Nat → Value → Value → Value → Value → Value → St → R
  | 0, _, _, _, _, _, _ => none
  | n + 1, x2, x6, x7, x8, x10, σ => post_Need_4 E call fuel (post_Need_3 E call fuel n) x2 x6 x7 x8 x10 σ

def post_Need_1 (E : Env) (call : CallF) (fuel : Nat) (x2 x6 x7 x8 x10 : Value) (σ : St) : R :=
 post_Need_3 E call fuel fuel x2 x6 x7 x8 x10 σ

def post_Need_0 (E : Env) (call : CallF) (fuel : Nat) (x0 x1 x2 : Value) (σ : St) : R :=
 nw 80 x0.cells.toList σ fun t3_18 s19 =>
 nw 3 [(.int .i64 0), (.int .i64 0), (.int .i64 0), (.int .i64 0), (.int .i64 0), (.int .i64 0)] s19 fun t6_20 s21 =>
 nw 3 [(.int .i64 0), (.int .i64 0), (.int .i64 0), (.int .i64 0), (.int .i64 0), (.int .i64 0)] s21 fun t7_22 s23 =>
 bnd (ldn E 15 s23 t3_18) fun t14_24 =>
 callR (call 106 [t14_24, x1] s23) fun t16_25 s26 =>
 bnd (xtr 0 t16_25) fun t17_27 =>
 bnd (xtr 1 t16_25) fun t18_28 =>
 bnd (notV t18_28) fun t20_29 =>
 cnd t20_29
 (bnd (ldn E 6 s26 t7_22) fun t21_30 =>
 bnd (stn E 6 s26 t6_20 t21_30) fun s31 =>
 bnd (ldn E 6 s31 t6_20) fun r32 =>
 some (.ret r32, s31))
 (bnd (mnx E .min #[3, 3] x2 (.int .i64 1000000)) fun t23_33 =>
 bnd (bin E .lss 3 false true t17_27 (.int .i64 0)) fun t25_34 =>
 cnd t25_34
 (bnd (ldn E 15 s26 t3_18) fun t27_35 =>
 callR (call 107 [t27_35, x1] s26) fun t29_36 s37 =>
 bnd (xtr 0 t29_36) fun t30_38 =>
 bnd (xtr 1 t29_36) fun t31_39 =>
 callR (call 108 [t30_38] s37) fun t33_40 s41 =>
 bnd (bin E .sub 3 false true t33_40 (.int .i64 1)) fun t34_42 =>
 bnd (bin E .sub 3 false false t34_42 t31_39) fun t36_43 =>
 bnd (bin E .add 3 false true t30_38 (.int .i64 1)) fun t38_44 =>
 bnd (mnx E .min #[3, 3] t38_44 (.int .i64 3)) fun t39_45 =>
 post_Need_1 E call fuel t23_33 t6_20 t7_22 t39_45 t36_43 s41)
 (post_Need_1 E call fuel t23_33 t6_20 t7_22 t17_27 (.int .i64 0) s26))

def post_Need (E : Env) (call : CallF) (fuel : Nat) (x0 x1 x2 : Value) (σ : St) : R := post_Need_0 E call fuel x0 x1 x2 σ

/-! 69: slices.IndexFunc[[]plover/write.term,plover/write.term] -/
def slices_IndexFunc_write_term_2 (E : Env) (call : CallF) (_fuel : Nat) (r2 : Value → Value → Value → Value → St → R) (x0 x1 x7 x8 : Value) (σ : St) : R :=
 bnd (bin E .lss 3 false false x8 x7) fun t9_0 =>
 cnd t9_0
 (bnd (ixs 4 x0 x8) fun t14_1 =>
 bnd (ldn E 4 σ t14_1) fun t15_2 =>
 clo x1 fun g3 l4 c5 => bif E.bare g3 then none else callR (call g3 (l4 ++ ([t15_2] ++ c5)) σ) fun t16_6 s7 =>
 cnd t16_6
 (some (.ret x8, s7))
 (bnd (bin E .add 3 false true x8 (.int .i64 1)) fun t18_8 =>
 r2 x0 x1 x7 t18_8 s7))
 (some (.ret (.int .i64 (-1)), σ))

def slices_IndexFunc_write_term_1 (E : Env) (call : CallF) (fuel : Nat) : Nat → Value → Value → Value → Value → St → R
  | 0, _, _, _, _, _ => none
  | n + 1, x0, x1, x7, x8, σ => slices_IndexFunc_write_term_2 E call fuel (slices_IndexFunc_write_term_1 E call fuel n) x0 x1 x7 x8 σ

def slices_IndexFunc_write_term_0 (E : Env) (call : CallF) (fuel : Nat) (x0 x1 : Value) (σ : St) : R :=
 bnd (lns x0) fun t7_9 =>
 slices_IndexFunc_write_term_1 E call fuel fuel x0 x1 t7_9 (.int .i64 0) σ

def slices_IndexFunc_write_term (E : Env) (call : CallF) (fuel : Nat) (x0 x1 : Value) (σ : St) : R := slices_IndexFunc_write_term_0 E call fuel x0 x1 σ

/-! 70: plover/write.place1$1 -/
def write_place1_c1_0 (E : Env) (_call : CallF) (_fuel : Nat) (x0 x1 : Value) (σ : St) : R :=
 nw 151 x0.cells.toList σ fun t2_0 s1 =>
 bnd (fld 0 t2_0) fun t4_2 =>
 bnd (ld1 E s1 t4_2) fun t5_3 =>
 bnd (ld1 E s1 x1) fun t6_4 =>
 bnd (bin E .eql 9 false false t5_3 t6_4) fun t7_5 =>
 some (.ret t7_5, s1)

def write_place1_c1 (E : Env) (call : CallF) (fuel : Nat) (x0 x1 : Value) (σ : St) : R := write_place1_c1_0 E call fuel x0 x1 σ

/-! 71: plover/dict.Put -/
def dict_Put_1 (E : Env) (call : CallF) (_fuel : Nat) (x0 x3 x4 x8 x13 x16 : Value) (σ : St) : R :=
 bnd (bin E .add 3 false false x3 x4) fun t61_0 =>
 bnd (cvi .u32 x16) fun t63_1 =>
 callR (call 46 [x0, t61_0, t63_1] σ) fun _ s3 =>
 bnd (ldn E 6 s3 x8) fun t66_4 =>
 bnd (stn E 6 s3 x13 t66_4) fun s5 =>
 bnd (ldn E 6 s5 x13) fun r6 =>
 some (.ret (.tuple ⟨[x16, r6, (.int .i64 0)]⟩), s5)

def dict_Put_3 (E : Env) (call : CallF) (fuel : Nat) (r3 : Value → Value → Value → Value → Value → Value → Value → Value → Value → St → R) (x0 x3 x4 x8 x13 x16 x43 x44 x45 : Value) (σ : St) : R :=
 bnd (bin E .lss 3 false false x45 x44) fun t46_7 =>
 cnd t46_7
 (bnd (ixs 1 x43 x45) fun t48_8 =>
 bnd (ld1 E σ t48_8) fun t49_9 =>
 bnd (bin E .add 3 false true x16 (.int .i64 2)) fun t52_10 =>
 bnd (bin E .add 3 false false t52_10 x45) fun t54_11 =>
 callR (call 46 [x0, t54_11, t49_9] σ) fun _ s13 =>
 bnd (bin E .add 3 false true x45 (.int .i64 1)) fun t57_14 =>
 r3 x0 x3 x4 x8 x13 x16 x43 x44 t57_14 s13)
 (dict_Put_1 E call fuel x0 x3 x4 x8 x13 x16 σ)

def dict_Put_2 (E : Env) (call : CallF) (fuel : Nat) : Nat → Value → Value → Value → Value → Value → Value → Value → Value → Value → St → R
  | 0, _, _, _, _, _, _, _, _, _, _ => none
  | n + 1, x0, x3, x4, x8, x13, x16, x43, x44, x45, σ => dict_Put_3 E call fuel (dict_Put_2 E call fuel n) x0 x3 x4 x8 x13 x16 x43 x44 x45 σ

def dict_Put_0 (E : Env) (call : CallF) (fuel : Nat) (x0 x1 x2 x3 x4 x5 : Value) (σ : St) : R :=
 nw 80 x1.cells.toList σ fun t7_15 s16 =>
 nw 38 x2.cells.toList s16 fun t8_17 s18 =>
 nw 3 [(.int .i64 0), (.int .i64 0), (.int .i64 0), (.int .i64 0), (.int .i64 0), (.int .i64 0)] s18 fun t13_19 s20 =>
 callR (call 67 [x5] s20) fun t21_21 s22 =>
 bnd (ldn E 15 s22 t7_15) fun t23_23 =>
 bnd (ldn E 6 s22 t8_17) fun t24_24 =>
 bnd (lns t21_21) fun t26_25 =>
 bnd (bin E .add 3 true false (.int .i64 2) t26_25) fun t27_26 =>
 callR (call 51 [t23_23, t24_24, (.int .i64 4), t27_26] s22) fun t28_27 s28 =>
 bnd (xtr 0 t28_27) fun t29_29 =>
 bnd (xtr 1 t28_27) fun t30_30 =>
 bnd (xtr 2 t28_27) fun t31_31 =>
 bnd (stn E 6 s28 t8_17 t30_30) fun s32 =>
 bnd (bin E .neq 30 false true t31_31 (.int .i64 0)) fun t33_33 =>
 cnd t33_33
 (bnd (ldn E 6 s32 t8_17) fun t34_34 =>
 bnd (stn E 6 s32 t13_19 t34_34) fun s35 =>
 bnd (ldn E 6 s35 t13_19) fun r36 =>
 some (.ret (.tuple ⟨[(.int .i64 0), r36, t31_31]⟩), s35))
 (bnd (bin E .add 3 false true t29_29 (.int .i64 1)) fun t38_37 =>
 bnd (lnt x5) fun t40_38 =>
 bnd (cvi .u32 t40_38) fun t41_39 =>
 callR (call 46 [x0, t38_37, t41_39] s32) fun _ s41 =>
 bnd (lns t21_21) fun t44_42 =>
 dict_Put_2 E call fuel fuel x0 x3 x4 t8_17 t13_19 t29_29 t21_21 t44_42 (.int .i64 0) s41)

def dict_Put (E : Env) (call : CallF) (fuel : Nat) (x0 x1 x2 x3 x4 x5 : Value) (σ : St) : R := dict_Put_0 E call fuel x0 x1 x2 x3 x4 x5 σ

/-! 72: plover/pack.Word -/
def pack_Word_1 (E : Env) (_call : CallF) (_fuel : Nat) (x0 x1 : Value) (σ : St) : R :=
 bnd (cvi .u32 x0) fun t21_0 =>
 bnd (bin E .shl 22 false true t21_0 (.int .u64 16)) fun t22_1 =>
 bnd (cvi .u32 x1) fun t24_2 =>
 bnd (bin E .or 22 false false t22_1 t24_2) fun t25_3 =>
 some (.ret (.tuple ⟨[t25_3, (.int .i64 0)]⟩), σ)

def pack_Word_2 (E : Env) (call : CallF) (fuel : Nat) (x0 x1 x19 : Value) (σ : St) : R :=
 cnd x19
 (some (.ret (.tuple ⟨[(.int .u32 0), (.int .i64 1)]⟩), σ))
 (pack_Word_1 E call fuel x0 x1 σ)

def pack_Word_0 (E : Env) (call : CallF) (fuel : Nat) (x0 x1 : Value) (σ : St) : R :=
 bnd (bin E .lss 3 false true x0 (.int .i64 0)) fun t7_4 =>
 cnd t7_4 (pack_Word_2 E call fuel x0 x1 (.bool true) σ) (bnd (bin E .gtr 3 false true x0 (.int .i64 65535)) fun t10_5 =>
 cnd t10_5 (pack_Word_2 E call fuel x0 x1 (.bool true) σ) (bnd (bin E .lss 3 false true x1 (.int .i64 0)) fun t14_6 =>
 cnd t14_6 (pack_Word_2 E call fuel x0 x1 (.bool true) σ) (bnd (bin E .gtr 3 false true x1 (.int .i64 65535)) fun t18_7 =>
 pack_Word_2 E call fuel x0 x1 t18_7 σ)))

def pack_Word (E : Env) (call : CallF) (fuel : Nat) (x0 x1 : Value) (σ : St) : R := pack_Word_0 E call fuel x0 x1 σ

/-! 73: plover/post.Put -/
def post_Put_1 (E : Env) (call : CallF) (_fuel : Nat) (x0 x3 x4 x7 x11 : Value) (σ : St) : R :=
 bnd (bin E .add 3 false true x3 (.int .i64 1)) fun t54_0 =>
 callR (call 46 [x0, t54_0, x4] σ) fun _ s2 =>
 bnd (bin E .add 3 false true x3 (.int .i64 1)) fun t58_3 =>
 bnd (ldn E 6 s2 x7) fun t59_4 =>
 bnd (stn E 6 s2 x11 t59_4) fun s5 =>
 bnd (ldn E 6 s5 x11) fun r6 =>
 some (.ret (.tuple ⟨[t58_3, r6, (.int .i64 0)]⟩), s5)

def post_Put_2 (E : Env) (call : CallF) (fuel : Nat) (x0 x4 x7 x11 x15 x16 : Value) (σ : St) : R :=
 bnd (ldn E 6 σ x16) fun t50_7 =>
 bnd (stn E 6 σ x7 t50_7) fun s8 =>
 post_Put_1 E call fuel x0 x15 x4 x7 x11 s8

def post_Put_0 (E : Env) (call : CallF) (fuel : Nat) (x0 x1 x2 x3 x4 : Value) (σ : St) : R :=
 nw 80 x1.cells.toList σ fun t6_9 s10 =>
 nw 38 x2.cells.toList s10 fun t7_11 s12 =>
 nw 3 [(.int .i64 0), (.int .i64 0), (.int .i64 0), (.int .i64 0), (.int .i64 0), (.int .i64 0)] s12 fun t11_13 s14 =>
 bnd (ldn E 15 s14 t6_9) fun t19_15 =>
 callR (call 106 [t19_15, x3] s14) fun t21_16 s17 =>
 bnd (xtr 0 t21_16) fun t22_18 =>
 bnd (xtr 1 t21_16) fun t23_19 =>
 bnd (notV t23_19) fun t25_20 =>
 cnd t25_20
 (bnd (bld (pla 1) ⟨[(.int .i64 0), (.int .i64 0), (.int .i64 0), (.int .i64 0), (.int .i64 0), (.int .i64 0)]⟩ []) fun t26_21 =>
 bnd (stn E 6 s17 t11_13 t26_21) fun s22 =>
 bnd (ldn E 6 s22 t11_13) fun r23 =>
 some (.ret (.tuple ⟨[(.int .i64 0), r23, (.int .i64 1)]⟩), s22))
 (bnd (bin E .geq 3 false true t22_18 (.int .i64 0)) fun t28_24 =>
 cnd t28_24
 (nw 3 [(.int .i64 0), (.int .i64 0), (.int .i64 0), (.int .i64 0), (.int .i64 0), (.int .i64 0)] s17 fun t16_25 s26 =>
 bnd (ldn E 15 s26 t6_9) fun t30_27 =>
 bnd (ldn E 6 s26 t7_11) fun t31_28 =>
 callB (call 108 [t22_18] s26) (fun t34_29 s30 =>
 callB (call 51 [t30_27, t31_28, t22_18, t34_29] s30) (fun t35_31 s32 =>
 bnd (xtr 0 t35_31) fun t36_33 =>
 bnd (xtr 1 t35_31) fun t37_34 =>
 bnd (xtr 2 t35_31) fun t38_35 =>
 bnd (stn E 6 s32 t16_25 t37_34) fun s36 =>
 bnd (ldn E 6 s30 t7_11) fun u37 =>
 smK u37 t31_28 (bnd (ldn E 15 s30 t6_9) fun u38 =>
 smK u38 t30_27 (bnd (bin E .neq 30 false true t38_35 (.int .i64 0)) fun t40_39 =>
 cnd t40_39
 (bnd (bld (pla 1) ⟨[(.int .i64 0), (.int .i64 0), (.int .i64 0), (.int .i64 0), (.int .i64 0), (.int .i64 0)]⟩ []) fun t41_40 =>
 bnd (stn E 6 s36 t11_13 t41_40) fun s41 =>
 bnd (ldn E 6 s41 t11_13) fun r42 =>
 some (.ret (.tuple ⟨[(.int .i64 0), r42, t38_35]⟩), s41))
 (bnd (bin E .neq 3 false true x3 (.int .i64 0)) fun t44_43 =>
 cnd t44_43
 (bnd (cvi .u32 x3) fun t48_44 =>
 callR (call 46 [x0, t36_33, t48_44] s36) fun _ s46 =>
 post_Put_2 E call fuel x0 x4 t7_11 t11_13 t36_33 t16_25 s46)
 (post_Put_2 E call fuel x0 x4 t7_11 t11_13 t36_33 t16_25 s36))))) (fun _ _ => none)) (fun _ _ => none))
 (post_Put_1 E call fuel x0 x3 x4 t7_11 t11_13 s17))

def post_Put (E : Env) (call : CallF) (fuel : Nat) (x0 x1 x2 x3 x4 : Value) (σ : St) : R := post_Put_0 E call fuel x0 x1 x2 x3 x4 σ

/-! 74: plover/dict.SetTail -/
def dict_SetTail_0 (_E : Env) (call : CallF) (_fuel : Nat) (x0 x1 x2 : Value) (σ : St) : R :=
 bnd (cvi .u32 x2) fun t9_0 =>
 callR (call 46 [x0, x1, t9_0] σ) fun _ s2 =>
 some (.ret (.tuple ⟨[]⟩), s2)

def dict_SetTail (E : Env) (call : CallF) (fuel : Nat) (x0 x1 x2 : Value) (σ : St) : R := dict_SetTail_0 E call fuel x0 x1 x2 σ

/-! 75: (*plover/step.Run).turn -/
def step_Run_turn_1 (E : Env) (_call : CallF) (_fuel : Nat) (x0 : Value) (σ : St) : R :=
 bnd (nck x0) fun t48_0 =>
 bnd (fld 4 t48_0) fun t49_1 =>
 bnd (st1 E σ t49_1 (.bool false)) fun s2 =>
 some (.ret (.tuple ⟨[(.bool true), (.bool false)]⟩), s2)

def step_Run_turn_2 (E : Env) (call : CallF) (fuel : Nat) (x0 x4 : Value) (σ : St) : R :=
 cnd x4
 (some (.ret (.tuple ⟨[(.bool false), (.bool false)]⟩), σ))
 (bnd (nck x0) fun t22_3 =>
 bnd (fld 2 t22_3) fun t23_4 =>
 bnd (ld1 E σ t23_4) fun t24_5 =>
 bnd (nck x0) fun t26_6 =>
 bnd (fld 1 t26_6) fun t27_7 =>
 bnd (ld1 E σ t27_7) fun t28_8 =>
 bnd (lns t28_8) fun t29_9 =>
 bnd (bin E .lss 3 false false t24_5 t29_9) fun t30_10 =>
 cnd t30_10
 (bnd (nck x0) fun t32_11 =>
 bnd (fld 2 t32_11) fun t33_12 =>
 bnd (ld1 E σ t33_12) fun t34_13 =>
 bnd (bin E .add 3 false true t34_13 (.int .i64 1)) fun t35_14 =>
 bnd (nck x0) fun t36_15 =>
 bnd (fld 2 t36_15) fun t37_16 =>
 bnd (st1 E σ t37_16 t35_14) fun s17 =>
 some (.ret (.tuple ⟨[(.bool false), (.bool true)]⟩), s17))
 (bnd (nck x0) fun t40_18 =>
 bnd (fld 4 t40_18) fun t41_19 =>
 bnd (ld1 E σ t41_19) fun t42_20 =>
 bnd (notV t42_20) fun t43_21 =>
 cnd t43_21
 (bnd (nck x0) fun t45_22 =>
 bnd (fld 5 t45_22) fun t46_23 =>
 bnd (st1 E σ t46_23 (.bool true)) fun s24 =>
 some (.ret (.tuple ⟨[(.bool false), (.bool false)]⟩), s24))
 (step_Run_turn_1 E call fuel x0 σ)))

def step_Run_turn_0 (E : Env) (call : CallF) (fuel : Nat) (x0 : Value) (σ : St) : R :=
 bnd (bin E .eql 63 false true x0 (.pointer none)) fun t6_25 =>
 cnd t6_25 (step_Run_turn_2 E call fuel x0 (.bool true) σ) (bnd (nck x0) fun t9_26 =>
 bnd (fld 3 t9_26) fun t10_27 =>
 bnd (ld1 E σ t10_27) fun t11_28 =>
 bnd (notV t11_28) fun t12_29 =>
 cnd t12_29 (step_Run_turn_2 E call fuel x0 (.bool true) σ) (bnd (nck x0) fun t16_30 =>
 bnd (fld 5 t16_30) fun t17_31 =>
 bnd (ld1 E σ t17_31) fun t18_32 =>
 step_Run_turn_2 E call fuel x0 t18_32 σ))

def step_Run_turn (E : Env) (call : CallF) (fuel : Nat) (x0 : Value) (σ : St) : R := step_Run_turn_0 E call fuel x0 σ

/-! 76: (*plover/step.Run).made -/
def step_Run_made_0 (E : Env) (_call : CallF) (_fuel : Nat) (x0 x1 x2 : Value) (σ : St) : R :=
 bnd (bin E .neq 30 false true x2 (.int .i64 0)) fun t7_0 =>
 cnd t7_0
 (bnd (nck x0) fun t11_1 =>
 bnd (fld 7 t11_1) fun t12_2 =>
 bnd (st1 E σ t12_2 x2) fun s3 =>
 bnd (nck x0) fun t13_4 =>
 bnd (fld 5 t13_4) fun t14_5 =>
 bnd (st1 E s3 t14_5 (.bool true)) fun s6 =>
 some (.ret (.tuple ⟨[]⟩), s6))
 (bnd (nck x0) fun t17_7 =>
 bnd (fld 1 t17_7) fun t18_8 =>
 bnd (ld1 E σ t18_8) fun t19_9 =>
 bnd (bls 1 1 ⟨[(.int .u32 0)]⟩ [(0, x1)]) fun u10 => nws 22 1 1 u10 σ fun t21_11 s12 =>
 bn2 (app E 36 36 s12 t19_9 t21_11) fun t22_13 s14 =>
 bnd (nck x0) fun t23_15 =>
 bnd (fld 1 t23_15) fun t24_16 =>
 bnd (st1 E s14 t24_16 t22_13) fun s17 =>
 bnd (nck x0) fun t26_18 =>
 bnd (fld 2 t26_18) fun t27_19 =>
 bnd (ld1 E s17 t27_19) fun t28_20 =>
 bnd (bin E .add 3 false true t28_20 (.int .i64 1)) fun t29_21 =>
 bnd (nck x0) fun t30_22 =>
 bnd (fld 2 t30_22) fun t31_23 =>
 bnd (st1 E s17 t31_23 t29_21) fun s24 =>
 some (.ret (.tuple ⟨[]⟩), s24))

def step_Run_made (E : Env) (call : CallF) (fuel : Nat) (x0 x1 x2 : Value) (σ : St) : R := step_Run_made_0 E call fuel x0 x1 x2 σ

/-! 85: plover/utf.Runes -/
def utf_Runes_2 (E : Env) (_call : CallF) (_fuel : Nat) (r2 : Value → Value → St → R) (x3 x7 : Value) (σ : St) : R :=
 bn2 (nxt E true σ x7) fun t8_0 s1 =>
 bnd (xtr 0 t8_0) fun t9_2 =>
 cnd t9_2
 (bnd (xtr 2 t8_0) fun t10_3 =>
 bnd (bls 1 1 ⟨[(.int .i32 0)]⟩ [(0, t10_3)]) fun u4 => nws 21 1 1 u4 s1 fun t13_5 s6 =>
 bn2 (app E 182 182 s6 x3 t13_5) fun t14_7 s8 =>
 r2 t14_7 x7 s8)
 (some (.ret x3, s1))

def utf_Runes_1 (E : Env) (call : CallF) (fuel : Nat) : Nat → Value → Value → St → R
  | 0, _, _, _ => none
  | n + 1, x3, x7, σ => utf_Runes_2 E call fuel (utf_Runes_1 E call fuel n) x3 x7 σ

def utf_Runes_0 (E : Env) (call : CallF) (fuel : Nat) (x0 : Value) (σ : St) : R :=
 bn2 (rng E 9 σ x0) fun t7_9 s10 =>
 utf_Runes_1 E call fuel fuel (.slice none 0 0) t7_9 s10

def utf_Runes (E : Env) (call : CallF) (fuel : Nat) (x0 : Value) (σ : St) : R := utf_Runes_0 E call fuel x0 σ

/-! 91: (*plover/mem.Mem).Load -/
def mem_Mem_Load_1 (E : Env) (_call : CallF) (_fuel : Nat) (x0 x1 : Value) (σ : St) : R :=
 bnd (nck x0) fun t22_0 =>
 bnd (fld 1 t22_0) fun t23_1 =>
 bnd (ld1 E σ t23_1) fun t24_2 =>
 bnd (bin E .add 3 false true t24_2 (.int .i64 1)) fun t25_3 =>
 bnd (nck x0) fun t26_4 =>
 bnd (fld 1 t26_4) fun t27_5 =>
 bnd (st1 E σ t27_5 t25_3) fun s6 =>
 bnd (nck x0) fun t29_7 =>
 bnd (fld 0 t29_7) fun t30_8 =>
 bnd (ld1 E s6 t30_8) fun t31_9 =>
 bnd (ixs 1 t31_9 x1) fun t33_10 =>
 bnd (ld1 E s6 t33_10) fun t34_11 =>
 some (.ret (.tuple ⟨[t34_11, (.int .i64 0)]⟩), s6)

def mem_Mem_Load_2 (E : Env) (call : CallF) (fuel : Nat) (x0 x1 x20 : Value) (σ : St) : R :=
 cnd x20
 (some (.ret (.tuple ⟨[(.int .u32 0), (.int .i64 2)]⟩), σ))
 (mem_Mem_Load_1 E call fuel x0 x1 σ)

def mem_Mem_Load_0 (E : Env) (call : CallF) (fuel : Nat) (x0 x1 : Value) (σ : St) : R :=
 bnd (bin E .eql 55 false true x0 (.pointer none)) fun t7_12 =>
 cnd t7_12 (mem_Mem_Load_2 E call fuel x0 x1 (.bool true) σ) (bnd (bin E .lss 3 false true x1 (.int .i64 0)) fun t10_13 =>
 cnd t10_13 (mem_Mem_Load_2 E call fuel x0 x1 (.bool true) σ) (bnd (nck x0) fun t15_14 =>
 bnd (fld 0 t15_14) fun t16_15 =>
 bnd (ld1 E σ t16_15) fun t17_16 =>
 bnd (lns t17_16) fun t18_17 =>
 bnd (bin E .geq 3 false false x1 t18_17) fun t19_18 =>
 mem_Mem_Load_2 E call fuel x0 x1 t19_18 σ))

def mem_Mem_Load (E : Env) (call : CallF) (fuel : Nat) (x0 x1 : Value) (σ : St) : R := mem_Mem_Load_0 E call fuel x0 x1 σ

/-! 100: plover/fold.Class -/
def fold_Class_3 (E : Env) (_call : CallF) (_fuel : Nat) (r3 : Value → Value → Value → Value → St → R) (x0 x3 x44 x45 : Value) (σ : St) : R :=
 bnd (bin E .lss 3 false true x45 (.int .i64 13)) fun t46_0 =>
 cnd t46_0
 (bnd (atn 13 2 x44 x45) fun t47_1 =>
 nw 243 [(.int .i32 0), (.int .i32 0)] σ fun t5_2 s3 =>
 bnd (stn E 2 s3 t5_2 t47_1) fun s4 =>
 bnd (fld 0 t5_2) fun t50_5 =>
 bnd (ld1 E s4 t50_5) fun t51_6 =>
 bnd (bin E .lss 21 false false x0 t51_6) fun t52_7 =>
 cnd t52_7
 (some (.ret x3, s4))
 (bnd (fld 1 t5_2) fun t55_8 =>
 bnd (ld1 E s4 t55_8) fun t56_9 =>
 bnd (bin E .leq 21 false false x0 t56_9) fun t57_10 =>
 cnd t57_10
 (some (.ret (.int .i64 1), s4))
 (bnd (bin E .add 3 false true x45 (.int .i64 1)) fun t58_11 =>
 r3 x0 x3 x44 t58_11 s4)))
 (some (.ret x3, σ))

def fold_Class_2 (E : Env) (call : CallF) (fuel : Nat) : Nat → Value → Value → Value → Value → St → R
  | 0, _, _, _, _, _ => none
  | n + 1, x0, x3, x44, x45, σ => fold_Class_3 E call fuel (fold_Class_2 E call fuel n) x0 x3 x44 x45 σ

def fold_Class_1 (E : Env) (call : CallF) (fuel : Nat) (x0 x3 : Value) (σ : St) : R :=
 bnd (ldn E 26 σ (gptr E.base 2)) fun t44_12 =>
 fold_Class_2 E call fuel fuel x0 x3 t44_12 (.int .i64 0) σ

def fold_Class_5 (E : Env) (call : CallF) (fuel : Nat) (x0 x3 x19 : Value) (σ : St) : R :=
 cnd x19
 (some (.ret (.int .i64 1), σ))
 (fold_Class_1 E call fuel x0 x3 σ)

def fold_Class_6 (E : Env) (call : CallF) (fuel : Nat) (x0 x3 x19 : Value) (σ : St) : R :=
 cnd x19
 (fold_Class_5 E call fuel x0 x3 x19 σ)
 (bnd (ixa 2 2 (gptr E.base 1) (.int .i64 1)) fun t33_13 =>
 bnd (fld 0 t33_13) fun t34_14 =>
 bnd (ld1 E σ t34_14) fun t35_15 =>
 bnd (bin E .geq 21 false false x0 t35_15) fun t36_16 =>
 cnd t36_16 (bnd (ixa 2 2 (gptr E.base 1) (.int .i64 1)) fun t39_17 =>
 bnd (fld 1 t39_17) fun t40_18 =>
 bnd (ld1 E σ t40_18) fun t41_19 =>
 bnd (bin E .leq 21 false false x0 t41_19) fun t42_20 =>
 fold_Class_5 E call fuel x0 x3 t42_20 σ) (fold_Class_5 E call fuel x0 x3 (.bool false) σ))

def fold_Class_4 (E : Env) (call : CallF) (fuel : Nat) (x0 x3 x6 : Value) (σ : St) : R :=
 cnd x6
 (some (.ret (.int .i64 2), σ))
 (bnd (ixa 2 2 (gptr E.base 1) (.int .i64 0)) fun t21_21 =>
 bnd (fld 0 t21_21) fun t22_22 =>
 bnd (ld1 E σ t22_22) fun t23_23 =>
 bnd (bin E .geq 21 false false x0 t23_23) fun t24_24 =>
 cnd t24_24 (bnd (ixa 2 2 (gptr E.base 1) (.int .i64 0)) fun t27_25 =>
 bnd (fld 1 t27_25) fun t28_26 =>
 bnd (ld1 E σ t28_26) fun t29_27 =>
 bnd (bin E .leq 21 false false x0 t29_27) fun t30_28 =>
 fold_Class_6 E call fuel x0 x3 t30_28 σ) (fold_Class_6 E call fuel x0 x3 (.bool false) σ))

def fold_Class_7 (E : Env) (call : CallF) (fuel : Nat) (x0 x3 x6 : Value) (σ : St) : R :=
 cnd x6
 (fold_Class_4 E call fuel x0 x3 x6 σ)
 (bnd (bin E .geq 21 false true x0 (.int .i32 1632)) fun t14_29 =>
 cnd t14_29 (bnd (bin E .leq 21 false true x0 (.int .i32 1641)) fun t17_30 =>
 fold_Class_4 E call fuel x0 x3 t17_30 σ) (fold_Class_4 E call fuel x0 x3 (.bool false) σ))

def fold_Class_0 (E : Env) (call : CallF) (fuel : Nat) (x0 : Value) (σ : St) : R :=
 bnd (bin E .geq 21 false true x0 (.int .i32 48)) fun t8_31 =>
 cnd t8_31 (bnd (bin E .leq 21 false true x0 (.int .i32 57)) fun t11_32 =>
 fold_Class_7 E call fuel x0 (.int .i64 0) t11_32 σ) (fold_Class_7 E call fuel x0 (.int .i64 0) (.bool false) σ)

def fold_Class (E : Env) (call : CallF) (fuel : Nat) (x0 : Value) (σ : St) : R := fold_Class_0 E call fuel x0 σ

/-! 101: plover/fold.Fold -/
def fold_Fold_3 (E : Env) (_call : CallF) (_fuel : Nat) (r2 : Value → Value → Value → Value → St → R) (x0 x3 x7 x8 : Value) (σ : St) : R :=
 bnd (bin E .add 3 false true x8 (.int .i64 1)) fun t52_0 =>
 r2 x0 x3 x7 t52_0 σ

def fold_Fold_5 (E : Env) (_call : CallF) (_fuel : Nat) (_r2 : Value → Value → Value → Value → St → R) (x0 x3 x5 x28 : Value) (σ : St) : R :=
 cnd x28
 (bnd (fld 3 x5) fun t49_1 =>
 bnd (ld1 E σ t49_1) fun t50_2 =>
 bnd (bin E .add 21 false false x0 t50_2) fun t51_3 =>
 some (.ret t51_3, σ))
 (some (.ret x3, σ))

def fold_Fold_6 (E : Env) (call : CallF) (fuel : Nat) (r2 : Value → Value → Value → Value → St → R) (x0 x3 x5 x28 : Value) (σ : St) : R :=
 cnd x28
 (fold_Fold_5 E call fuel r2 x0 x3 x5 x28 σ)
 (bnd (fld 2 x5) fun t40_4 =>
 bnd (ld1 E σ t40_4) fun t41_5 =>
 bnd (bin E .eql 3 false true t41_5 (.int .i64 3)) fun t42_6 =>
 cnd t42_6 (bnd (bin E .rem 21 false true x0 (.int .i32 2)) fun t45_7 =>
 bnd (bin E .eql 21 false true t45_7 (.int .i32 1)) fun t46_8 =>
 fold_Fold_5 E call fuel r2 x0 x3 x5 t46_8 σ) (fold_Fold_5 E call fuel r2 x0 x3 x5 (.bool false) σ))

def fold_Fold_4 (E : Env) (call : CallF) (fuel : Nat) (r2 : Value → Value → Value → Value → St → R) (x0 x3 x5 x7 x8 x11 : Value) (σ : St) : R :=
 cnd x11
 (some (.ret x3, σ))
 (bnd (fld 0 x5) fun t24_9 =>
 bnd (fld 1 t24_9) fun t25_10 =>
 bnd (ld1 E σ t25_10) fun t26_11 =>
 bnd (bin E .gtr 21 false false x0 t26_11) fun t27_12 =>
 cnd t27_12
 (fold_Fold_3 E call fuel r2 x0 x3 x7 x8 σ)
 (bnd (fld 2 x5) fun t29_13 =>
 bnd (ld1 E σ t29_13) fun t30_14 =>
 bnd (bin E .eql 3 false true t30_14 (.int .i64 1)) fun t31_15 =>
 cnd t31_15
 (fold_Fold_5 E call fuel r2 x0 x3 x5 t31_15 σ)
 (bnd (fld 2 x5) fun t32_16 =>
 bnd (ld1 E σ t32_16) fun t33_17 =>
 bnd (bin E .eql 3 false true t33_17 (.int .i64 2)) fun t34_18 =>
 cnd t34_18 (bnd (bin E .rem 21 false true x0 (.int .i32 2)) fun t37_19 =>
 bnd (bin E .eql 21 false true t37_19 (.int .i32 0)) fun t38_20 =>
 fold_Fold_6 E call fuel r2 x0 x3 x5 t38_20 σ) (fold_Fold_6 E call fuel r2 x0 x3 x5 (.bool false) σ))))

def fold_Fold_2 (E : Env) (call : CallF) (fuel : Nat) (r2 : Value → Value → Value → Value → St → R) (x0 x3 x7 x8 : Value) (σ : St) : R :=
 bnd (bin E .lss 3 false true x8 (.int .i64 24)) fun t9_21 =>
 cnd t9_21
 (bnd (atn 24 4 x7 x8) fun t10_22 =>
 nw 247 [(.int .i32 0), (.int .i32 0), (.int .i64 0), (.int .i32 0)] σ fun t5_23 s24 =>
 bnd (stn E 4 s24 t5_23 t10_22) fun s25 =>
 bnd (fld 2 t5_23) fun t12_26 =>
 bnd (ld1 E s25 t12_26) fun t13_27 =>
 bnd (bin E .eql 3 false true t13_27 (.int .i64 0)) fun t14_28 =>
 cnd t14_28 (fold_Fold_4 E call fuel r2 x0 x3 t5_23 x7 x8 (.bool true) s25) (bnd (fld 0 t5_23) fun t17_29 =>
 bnd (fld 0 t17_29) fun t18_30 =>
 bnd (ld1 E s25 t18_30) fun t19_31 =>
 bnd (bin E .lss 21 false false x0 t19_31) fun t20_32 =>
 fold_Fold_4 E call fuel r2 x0 x3 t5_23 x7 x8 t20_32 s25))
 (some (.ret x3, σ))

def fold_Fold_1 (E : Env) (call : CallF) (fuel : Nat) : Nat → Value → Value → Value → Value → St → R
  | 0, _, _, _, _, _ => none
  | n + 1, x0, x3, x7, x8, σ => fold_Fold_2 E call fuel (fold_Fold_1 E call fuel n) x0 x3 x7 x8 σ

def fold_Fold_0 (E : Env) (call : CallF) (fuel : Nat) (x0 : Value) (σ : St) : R :=
 bnd (ldn E 96 σ (gptr E.base 3)) fun t7_33 =>
 fold_Fold_1 E call fuel fuel x0 x0 t7_33 (.int .i64 0) σ

def fold_Fold (E : Env) (call : CallF) (fuel : Nat) (x0 : Value) (σ : St) : R := fold_Fold_0 E call fuel x0 σ

/-! 102: plover/utf.Fit -/
def utf_Fit_1 (E : Env) (_call : CallF) (_fuel : Nat) (x5 : Value) (σ : St) : R :=
 bnd (str E 209 9 σ x5) fun t31_0 =>
 some (.ret t31_0, σ)

def utf_Fit_4 (E : Env) (_call : CallF) (_fuel : Nat) (r3 : Value → Value → Value → St → R) (x1 x5 x8 x10 : Value) (σ : St) : R :=
 bn2 (app E 209 9 σ x5 x8) fun t29_1 s2 =>
 r3 x1 t29_1 x10 s2

def utf_Fit_5 (E : Env) (call : CallF) (fuel : Nat) (r3 : Value → Value → Value → St → R) (x1 x5 x8 x10 x26 : Value) (σ : St) : R :=
 cnd x26
 (utf_Fit_1 E call fuel x5 σ)
 (utf_Fit_4 E call fuel r3 x1 x5 x8 x10 σ)

def utf_Fit_3 (E : Env) (call : CallF) (fuel : Nat) (r3 : Value → Value → Value → St → R) (x1 x5 x10 : Value) (σ : St) : R :=
 bn2 (nxt E true σ x10) fun t11_3 s4 =>
 bnd (xtr 0 t11_3) fun t12_5 =>
 cnd t12_5
 (bnd (xtr 2 t11_3) fun t13_6 =>
 bnd (str E 21 9 s4 t13_6) fun t15_7 =>
 bnd (bin E .lss 3 false true x1 (.int .i64 0)) fun t17_8 =>
 cnd t17_8 (utf_Fit_5 E call fuel r3 x1 x5 t15_7 x10 (.bool true) s4) (bnd (lnt t15_7) fun t20_9 =>
 bnd (lns x5) fun t23_10 =>
 bnd (bin E .sub 3 false false x1 t23_10) fun t24_11 =>
 bnd (bin E .gtr 3 false false t20_9 t24_11) fun t25_12 =>
 utf_Fit_5 E call fuel r3 x1 x5 t15_7 x10 t25_12 s4))
 (utf_Fit_1 E call fuel x5 s4)

def utf_Fit_2 (E : Env) (call : CallF) (fuel : Nat) : Nat → Value → Value → Value → St → R
  | 0, _, _, _, _ => none
  | n + 1, x1, x5, x10, σ => utf_Fit_3 E call fuel (utf_Fit_2 E call fuel n) x1 x5 x10 σ

def utf_Fit_0 (E : Env) (call : CallF) (fuel : Nat) (x0 x1 : Value) (σ : St) : R :=
 bn2 (rng E 9 σ x0) fun t10_13 s14 =>
 utf_Fit_2 E call fuel fuel x1 (.slice none 0 0) t10_13 s14

def utf_Fit (E : Env) (call : CallF) (fuel : Nat) (x0 x1 : Value) (σ : St) : R := utf_Fit_0 E call fuel x0 x1 σ

/-! 103: plover/utf.Text -/
def utf_Text_1 (E : Env) (_call : CallF) (_fuel : Nat) (x3 : Value) (σ : St) : R :=
 bnd (str E 209 9 σ x3) fun t18_0 =>
 some (.ret t18_0, σ)

def utf_Text_3 (E : Env) (call : CallF) (fuel : Nat) (r3 : Value → Value → Value → Value → St → R) (x3 x6 x7 x8 : Value) (σ : St) : R :=
 bnd (bin E .lss 3 false false x8 x7) fun t9_1 =>
 cnd t9_1
 (bnd (ixs 1 x6 x8) fun t10_2 =>
 bnd (ld1 E σ t10_2) fun t11_3 =>
 bnd (str E 21 9 σ t11_3) fun t14_4 =>
 bn2 (app E 209 9 σ x3 t14_4) fun t15_5 s6 =>
 bnd (bin E .add 3 false true x8 (.int .i64 1)) fun t16_7 =>
 r3 t15_5 x6 x7 t16_7 s6)
 (utf_Text_1 E call fuel x3 σ)

def utf_Text_2 (E : Env) (call : CallF) (fuel : Nat) : Nat → Value → Value → Value → Value → St → R
  | 0, _, _, _, _, _ => none
  | n + 1, x3, x6, x7, x8, σ => utf_Text_3 E call fuel (utf_Text_2 E call fuel n) x3 x6 x7 x8 σ

def utf_Text_0 (E : Env) (call : CallF) (fuel : Nat) (x0 : Value) (σ : St) : R :=
 bnd (lns x0) fun t7_8 =>
 utf_Text_2 E call fuel fuel (.slice none 0 0) x0 t7_8 (.int .i64 0) σ

def utf_Text (E : Env) (call : CallF) (fuel : Nat) (x0 : Value) (σ : St) : R := utf_Text_0 E call fuel x0 σ

/-! 104: plover/token.Stop -/
def token_Stop_1 (_E : Env) (_call : CallF) (_fuel : Nat) (x4 : Value) (σ : St) : R :=
 cnd x4
 (some (.ret (.bool true), σ))
 (some (.ret (.bool false), σ))

def token_Stop_0 (E : Env) (call : CallF) (fuel : Nat) (x0 : Value) (σ : St) : R :=
 bnd (bin E .eql 9 false true x0 (sv [97])) fun t5_0 =>
 cnd t5_0
 (token_Stop_1 E call fuel t5_0 σ)
 (bnd (bin E .eql 9 false true x0 (sv [97, 110])) fun t6_1 =>
 cnd t6_1
 (token_Stop_1 E call fuel t6_1 σ)
 (bnd (bin E .eql 9 false true x0 (sv [97, 110, 100])) fun t7_2 =>
 cnd t7_2
 (token_Stop_1 E call fuel t7_2 σ)
 (bnd (bin E .eql 9 false true x0 (sv [97, 114, 101])) fun t8_3 =>
 cnd t8_3
 (token_Stop_1 E call fuel t8_3 σ)
 (bnd (bin E .eql 9 false true x0 (sv [97, 115])) fun t9_4 =>
 cnd t9_4
 (token_Stop_1 E call fuel t9_4 σ)
 (bnd (bin E .eql 9 false true x0 (sv [97, 116])) fun t10_5 =>
 cnd t10_5
 (token_Stop_1 E call fuel t10_5 σ)
 (bnd (bin E .eql 9 false true x0 (sv [98, 101])) fun t11_6 =>
 cnd t11_6
 (token_Stop_1 E call fuel t11_6 σ)
 (bnd (bin E .eql 9 false true x0 (sv [98, 121])) fun t12_7 =>
 cnd t12_7
 (token_Stop_1 E call fuel t12_7 σ)
 (bnd (bin E .eql 9 false true x0 (sv [102, 111, 114])) fun t13_8 =>
 cnd t13_8
 (token_Stop_1 E call fuel t13_8 σ)
 (bnd (bin E .eql 9 false true x0 (sv [105, 110])) fun t14_9 =>
 cnd t14_9
 (token_Stop_1 E call fuel t14_9 σ)
 (bnd (bin E .eql 9 false true x0 (sv [105, 115])) fun t15_10 =>
 cnd t15_10
 (token_Stop_1 E call fuel t15_10 σ)
 (bnd (bin E .eql 9 false true x0 (sv [105, 116])) fun t16_11 =>
 cnd t16_11
 (token_Stop_1 E call fuel t16_11 σ)
 (bnd (bin E .eql 9 false true x0 (sv [111, 102])) fun t17_12 =>
 cnd t17_12
 (token_Stop_1 E call fuel t17_12 σ)
 (bnd (bin E .eql 9 false true x0 (sv [111, 110])) fun t18_13 =>
 cnd t18_13
 (token_Stop_1 E call fuel t18_13 σ)
 (bnd (bin E .eql 9 false true x0 (sv [111, 114])) fun t19_14 =>
 cnd t19_14
 (token_Stop_1 E call fuel t19_14 σ)
 (bnd (bin E .eql 9 false true x0 (sv [116, 104, 101])) fun t20_15 =>
 cnd t20_15
 (token_Stop_1 E call fuel t20_15 σ)
 (bnd (bin E .eql 9 false true x0 (sv [116, 111])) fun t21_16 =>
 token_Stop_1 E call fuel t21_16 σ))))))))))))))))

def token_Stop (E : Env) (call : CallF) (fuel : Nat) (x0 : Value) (σ : St) : R := token_Stop_0 E call fuel x0 σ

/-! 105: plover/pack.Hash -/
def pack_Hash_2 (E : Env) (_call : CallF) (_fuel : Nat) (r2 : Value → Value → Value → Value → St → R) (x0 x3 x6 x7 : Value) (σ : St) : R :=
 bnd (bin E .lss 3 false false x7 x6) fun t8_0 =>
 cnd t8_0
 (bnd (sat E 9 x0 x7) fun t13_1 =>
 bnd (cvi .u32 t13_1) fun t14_2 =>
 bnd (bin E .xor 22 false false x3 t14_2) fun t15_3 =>
 bnd (bin E .mul 22 false true t15_3 (.int .u32 16777619)) fun t16_4 =>
 bnd (bin E .add 3 false true x7 (.int .i64 1)) fun t17_5 =>
 r2 x0 t16_4 x6 t17_5 σ)
 (some (.ret x3, σ))

def pack_Hash_1 (E : Env) (call : CallF) (fuel : Nat) : Nat → Value → Value → Value → Value → St → R
  | 0, _, _, _, _, _ => none
  | n + 1, x0, x3, x6, x7, σ => pack_Hash_2 E call fuel (pack_Hash_1 E call fuel n) x0 x3 x6 x7 σ

def pack_Hash_0 (E : Env) (call : CallF) (fuel : Nat) (x0 : Value) (σ : St) : R :=
 bnd (lnt x0) fun t6_6 =>
 pack_Hash_1 E call fuel fuel x0 (.int .u32 2166136261) t6_6 (.int .i64 0) σ

def pack_Hash (E : Env) (call : CallF) (fuel : Nat) (x0 : Value) (σ : St) : R := pack_Hash_0 E call fuel x0 σ

/-! 106: plover/post.next -/
def post_next_1 (E : Env) (call : CallF) (_fuel : Nat) (x6 x7 x16 : Value) (σ : St) : R :=
 cnd x16
 (some (.ret (.tuple ⟨[(.int .i64 0), (.bool false)]⟩), σ))
 (callR (call 108 [x6] σ) fun t26_0 s1 =>
 bnd (bin E .sub 3 false true t26_0 (.int .i64 1)) fun t27_2 =>
 bnd (bin E .eql 3 false false x7 t27_2) fun t28_3 =>
 cnd t28_3
 (bnd (bin E .add 3 false true x6 (.int .i64 1)) fun t30_4 =>
 bnd (mnx E .min #[3, 3] t30_4 (.int .i64 3)) fun t31_5 =>
 some (.ret (.tuple ⟨[t31_5, (.bool true)]⟩), s1))
 (some (.ret (.tuple ⟨[(.int .i64 (-1)), (.bool true)]⟩), s1)))

def post_next_0 (E : Env) (call : CallF) (fuel : Nat) (x0 x1 : Value) (σ : St) : R :=
 nw 80 x0.cells.toList σ fun t2_6 s7 =>
 bnd (bin E .eql 3 false true x1 (.int .i64 0)) fun t9_8 =>
 cnd t9_8
 (some (.ret (.tuple ⟨[(.int .i64 0), (.bool true)]⟩), s7))
 (bnd (ldn E 15 s7 t2_6) fun t11_9 =>
 callR (call 107 [t11_9, x1] s7) fun t13_10 s11 =>
 bnd (xtr 0 t13_10) fun t14_12 =>
 bnd (xtr 1 t13_10) fun t15_13 =>
 bnd (bin E .lss 3 false true t14_12 (.int .i64 0)) fun t18_14 =>
 cnd t18_14 (post_next_1 E call fuel t14_12 t15_13 (.bool true) s11) (bnd (bin E .eql 3 false true t15_13 (.int .i64 0)) fun t21_15 =>
 post_next_1 E call fuel t14_12 t15_13 t21_15 s11))

def post_next (E : Env) (call : CallF) (fuel : Nat) (x0 x1 : Value) (σ : St) : R := post_next_0 E call fuel x0 x1 σ

/-! 108: plover/pool.Slab -/
def pool_Slab_0 (E : Env) (call : CallF) (_fuel : Nat) (x0 : Value) (σ : St) : R :=
 callR (call 59 [x0, (.int .i64 0), (.int .i64 3)] σ) fun t4_0 s1 =>
 bnd (notV t4_0) fun t5_2 =>
 cnd t5_2
 (some (.ret (.int .i64 0), s1))
 (bnd (ixa 4 1 (gptr E.base 0) x0) fun t7_3 =>
 bnd (ld1 E s1 t7_3) fun t8_4 =>
 some (.ret t8_4, s1))

def pool_Slab (E : Env) (call : CallF) (fuel : Nat) (x0 : Value) (σ : St) : R := pool_Slab_0 E call fuel x0 σ

def tbl (E : Env) : DT :=
 (.node 43
 (.node 20
 (.node 12
 (.node 8
 (.node 6
 (.node 5
 (.leaf 4 (fun call fuel l σ => a0 l (law23_fixed E call fuel σ)))
 (.leaf 5 (fun call fuel l σ => a3 l fun x0 x1 x2 => (engine_Engine_Begin E call fuel x0 x1 x2 σ))))
 (.node 7
 (.leaf 6 (fun call fuel l σ => a2 l fun x0 x1 => (engine_Engine_Pick E call fuel x0 x1 σ)))
 (.leaf 7 (fun call fuel l σ => a2 l fun x0 x1 => (engine_Engine_Busy E call fuel x0 x1 σ)))))
 (.node 10
 (.node 9
 (.leaf 8 (fun call fuel l σ => a1 l fun x0 => (engine_Engine_Steps E call fuel x0 σ)))
 (.leaf 9 (fun call fuel l σ => a1 l fun x0 => (engine_Engine_History E call fuel x0 σ))))
 (.node 11
 (.leaf 10 (fun call fuel l σ => a1 l fun x0 => (engine_Engine_Cells E call fuel x0 σ)))
 (.leaf 11 (fun call fuel l σ => a1 l fun x0 => (engine_Engine_Used E call fuel x0 σ))))))
 (.node 16
 (.node 14
 (.node 13
 (.leaf 12 (fun call fuel l σ => a1 l fun x0 => (engine_Engine_Version E call fuel x0 σ)))
 (.leaf 13 (fun call fuel l σ => a1 l fun x0 => (engine_Engine_Segments E call fuel x0 σ))))
 (.node 15
 (.leaf 14 (fun call fuel l σ => a1 l fun x0 => (engine_New E call fuel x0 σ)))
 (.leaf 15 (fun call fuel l σ => a3 l fun x0 x1 x2 => (law23_rest E call fuel x0 x1 x2 σ)))))
 (.node 18
 (.node 17
 (.leaf 16 (fun call fuel l σ => a2 l fun x0 x1 => (engine_fits E call fuel x0 x1 σ)))
 (.leaf 17 (fun call fuel l σ => a1 l fun x0 => (engine_clone E call fuel x0 σ))))
 (.node 19
 (.leaf 18 (fun call fuel l σ => a1 l fun x0 => (step_New E call fuel x0 σ)))
 (.leaf 19 (fun call fuel l σ => a4 l fun x0 x1 x2 x3 => (engine_Engine_Begin_c1 E call fuel x0 x1 x2 x3 σ)))))))
 (.node 34
 (.node 30
 (.node 28
 (.node 27
 (.leaf 20 (fun call fuel l σ => a4 l fun x0 x1 x2 x3 => (write_Add E call fuel x0 x1 x2 x3 σ)))
 (.leaf 27 (fun call fuel l σ => a2 l fun x0 x1 => (step_Run_Step E call fuel x0 x1 σ))))
 (.node 29
 (.leaf 28 (fun call fuel l σ => a1 l fun x0 => (slices_Clone_api_Done E call fuel x0 σ)))
 (.leaf 29 (fun call fuel l σ => a1 l fun x0 => (slices_Clone_api_Hit E call fuel x0 σ)))))
 (.node 32
 (.node 31
 (.leaf 30 (fun call fuel l σ => a1 l fun x0 => (mem_Mem_Cells E call fuel x0 σ)))
 (.leaf 31 (fun call fuel l σ => a1 l fun x0 => (pool_Lay E call fuel x0 σ))))
 (.node 33
 (.leaf 32 (fun call fuel l σ => a1 l fun x0 => (mem_New E call fuel x0 σ)))
 (.leaf 33 (fun call fuel l σ => a2 l fun x0 x1 => (write_New E call fuel x0 x1 σ))))))
 (.node 38
 (.node 36
 (.node 35
 (.leaf 34 (fun call fuel l σ => a2 l fun x0 x1 => (ref23_Bound E call fuel x0 x1 σ)))
 (.leaf 35 (fun call fuel l σ => a1 l fun x0 => (slices_Clone_string E call fuel x0 σ))))
 (.node 37
 (.leaf 36 (fun call fuel l σ => a1 l fun x0 => (token_Tokens E call fuel x0 σ)))
 (.leaf 37 (fun call fuel l σ => a3 l fun x0 x1 x2 => (write_place E call fuel x0 x1 x2 σ)))))
 (.node 40
 (.node 39
 (.leaf 38 (fun call fuel l σ => a1 l fun x0 => (write_Base E call fuel x0 σ)))
 (.leaf 39 (fun call fuel l σ => a1 l fun x0 => (step_Run_Off E call fuel x0 σ))))
 (.node 41
 (.leaf 40 (fun call fuel l σ => a4 l fun x0 x1 x2 x3 => (write_terms E call fuel x0 x1 x2 x3 σ)))
 (.node 42
 (.leaf 41 (fun call fuel l σ => a2 l fun x0 x1 => (write_needs E call fuel x0 x1 σ)))
 (.leaf 42 (fun call fuel l σ => a3 l fun x0 x1 x2 => (pool_Fits E call fuel x0 x1 x2 σ)))))))))
 (.node 70
 (.node 61
 (.node 51
 (.node 45
 (.node 44
 (.leaf 43 (fun call fuel l σ => a1 l fun x0 => (slices_Clone_api_Seg E call fuel x0 σ)))
 (.leaf 44 (fun call fuel l σ => a7 l fun x0 x1 x2 x3 x4 x5 x6 => (write_place1 E call fuel x0 x1 x2 x3 x4 x5 x6 σ))))
 (.node 46
 (.leaf 45 (fun call fuel l σ => a6 l fun x0 x1 x2 x3 x4 x5 => (table_Lay E call fuel x0 x1 x2 x3 x4 x5 σ)))
 (.leaf 46 (fun call fuel l σ => a3 l fun x0 x1 x2 => (step_Run_Store E call fuel x0 x1 x2 σ)))))
 (.node 59
 (.node 54
 (.leaf 51 (fun call fuel l σ => a4 l fun x0 x1 x2 x3 => (pool_Take E call fuel x0 x1 x2 x3 σ)))
 (.leaf 54 (fun call fuel l σ => a2 l fun x0 x1 => (step_Run_Load E call fuel x0 x1 σ))))
 (.node 60
 (.leaf 59 (fun call fuel l σ => a3 l fun x0 x1 x2 => (pool_between E call fuel x0 x1 x2 σ)))
 (.leaf 60 (fun call fuel l σ => a1 l fun x0 => (mem_Mem_Len E call fuel x0 σ))))))
 (.node 65
 (.node 63
 (.node 62
 (.leaf 61 (fun call fuel l σ => a3 l fun x0 x1 x2 => (mem_Mem_Store E call fuel x0 x1 x2 σ)))
 (.leaf 62 (fun call fuel l σ => a1 l fun x0 => (token_Words E call fuel x0 σ))))
 (.node 64
 (.leaf 63 (fun call fuel l σ => a4 l fun x0 x1 x2 x3 => (table_Find E call fuel x0 x1 x2 x3 σ)))
 (.leaf 64 (fun call fuel l σ => a2 l fun x0 x1 => (pack_Key E call fuel x0 x1 σ)))))
 (.node 68
 (.node 67
 (.leaf 65 (fun call fuel l σ => a4 l fun x0 x1 x2 x3 => (dict_Find E call fuel x0 x1 x2 x3 σ)))
 (.leaf 67 (fun call fuel l σ => a1 l fun x0 => (pack_Cells E call fuel x0 σ))))
 (.node 69
 (.leaf 68 (fun call fuel l σ => a3 l fun x0 x1 x2 => (post_Need E call fuel x0 x1 x2 σ)))
 (.leaf 69 (fun call fuel l σ => a2 l fun x0 x1 => (slices_IndexFunc_write_term E call fuel x0 x1 σ)))))))
 (.node 91
 (.node 74
 (.node 72
 (.node 71
 (.leaf 70 (fun call fuel l σ => a2 l fun x0 x1 => (write_place1_c1 E call fuel x0 x1 σ)))
 (.leaf 71 (fun call fuel l σ => a6 l fun x0 x1 x2 x3 x4 x5 => (dict_Put E call fuel x0 x1 x2 x3 x4 x5 σ))))
 (.node 73
 (.leaf 72 (fun call fuel l σ => a2 l fun x0 x1 => (pack_Word E call fuel x0 x1 σ)))
 (.leaf 73 (fun call fuel l σ => a5 l fun x0 x1 x2 x3 x4 => (post_Put E call fuel x0 x1 x2 x3 x4 σ)))))
 (.node 76
 (.node 75
 (.leaf 74 (fun call fuel l σ => a3 l fun x0 x1 x2 => (dict_SetTail E call fuel x0 x1 x2 σ)))
 (.leaf 75 (fun call fuel l σ => a1 l fun x0 => (step_Run_turn E call fuel x0 σ))))
 (.node 85
 (.leaf 76 (fun call fuel l σ => a3 l fun x0 x1 x2 => (step_Run_made E call fuel x0 x1 x2 σ)))
 (.leaf 85 (fun call fuel l σ => a1 l fun x0 => (utf_Runes E call fuel x0 σ))))))
 (.node 103
 (.node 101
 (.node 100
 (.leaf 91 (fun call fuel l σ => a2 l fun x0 x1 => (mem_Mem_Load E call fuel x0 x1 σ)))
 (.leaf 100 (fun call fuel l σ => a1 l fun x0 => (fold_Class E call fuel x0 σ))))
 (.node 102
 (.leaf 101 (fun call fuel l σ => a1 l fun x0 => (fold_Fold E call fuel x0 σ)))
 (.leaf 102 (fun call fuel l σ => a2 l fun x0 x1 => (utf_Fit E call fuel x0 x1 σ)))))
 (.node 105
 (.node 104
 (.leaf 103 (fun call fuel l σ => a1 l fun x0 => (utf_Text E call fuel x0 σ)))
 (.leaf 104 (fun call fuel l σ => a1 l fun x0 => (token_Stop E call fuel x0 σ))))
 (.node 106
 (.leaf 105 (fun call fuel l σ => a1 l fun x0 => (pack_Hash E call fuel x0 σ)))
 (.node 108
 (.leaf 106 (fun call fuel l σ => a2 l fun x0 x1 => (post_next E call fuel x0 x1 σ)))
 (.leaf 108 (fun call fuel l σ => a1 l fun x0 => (pool_Slab E call fuel x0 σ))))))))))

end Go.Proofs.YtjioijajmkdefaaGreatDoor.S

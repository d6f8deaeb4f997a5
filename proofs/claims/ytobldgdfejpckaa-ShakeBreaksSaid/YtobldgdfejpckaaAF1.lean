/-
  What functions of the program come to, read off their code. No condition.
-/
import Derived.Test.YtobldgdfejpckaaASh
set_option linter.all false
set_option linter.unusedVariables false
set_option maxRecDepth 100000
namespace Go.Vc.SA
open Go.Proofs
/-- flume/flumeref08.Hash -/
def sf19 (m : SlV) (w0 : World) (R : (List Int) → World → Prop) : Prop :=
 newP w0 (.cells ((arrV .u8) (List.replicate 32 0)).cells 25) fun b_1 w_1 =>
 newP w_1 (.cells #[] 5) fun b_2 w_2 =>
 runP P (Builtin.append_ #[22, 22] 22 #[(SlV.val (SlV.mk (some (⟨b_2, 0, none⟩ : Addr)) 0 0)), (SlV.val m)]) w_2 SlV.val fun r_3 w_3 =>
 newP w_3 (.cells #[(.int .u8 (128 : Int))] 5) fun b_4 w_4 =>
 runP P (Builtin.append_ #[22, 22] 22 #[(SlV.val r_3), (SlV.val (SlV.mk (some (⟨b_4, 0, none⟩ : Addr)) 1 1))]) w_4 SlV.val fun r_5 w_5 =>
 loopP (SlV) r_5 w_5 fun next__6 _ s_7 w_6 =>
 cond' ((Int.tmod (s_7.len : Int) (64 : Int)) != (56 : Int)) (
 newP w_6 (.cells #[(.int .u8 (0 : Int))] 5) fun b_8 w_7 =>
 runP P (Builtin.append_ #[22, 22] 22 #[(SlV.val s_7), (SlV.val (SlV.mk (some (⟨b_8, 0, none⟩ : Addr)) 1 1))]) w_7 SlV.val fun r_9 w_8 =>
 next__6 r_9 w_8) (
 loopP (SlV × Int) (s_7, (7 : Int)) w_6 fun next__10 _ s_11 w_9 =>
 cond' (decide (s_11.2 ≥ (0 : Int))) (
 chkP (decide (0 ≤ (IntKind.u64.wrap (IntKind.i64.wrap ((8 : Int) * s_11.2))))) <|
 newP w_9 (.cells #[(.int .u8 (IntKind.u8.wrap (Int.fdiv (IntKind.u64.wrap (IntKind.i64.wrap ((8 : Int) * (m.len : Int)))) (2 ^ (min (Int.toNat (IntKind.u64.wrap (IntKind.i64.wrap ((8 : Int) * s_11.2)))) IntKind.u64.bits)))))] 5) fun b_12 w_10 =>
 runP P (Builtin.append_ #[22, 22] 22 #[(SlV.val s_11.1), (SlV.val (SlV.mk (some (⟨b_12, 0, none⟩ : Addr)) 1 1))]) w_10 SlV.val fun r_13 w_11 =>
 next__10 (r_13, (IntKind.i64.wrap (s_11.2 - (1 : Int)))) w_11) (
 newP w_9 (.cells ((arrV .u32) (List.replicate 8 0)).cells 91) fun b_14 w_12 =>
 storeP w_12 (⟨b_14, 0, none⟩ : Addr) 8 ((arrV .u32) ([(1779033703 : Int), (3144134277 : Int), (1013904242 : Int), (2773480762 : Int), (1359893119 : Int), (2600822924 : Int), (528734635 : Int), (1541459225 : Int)])) fun w_13 =>
 loopP (Int) (0 : Int) w_13 fun next__15 _ s_16 w_14 =>
 cond' (decide (s_16 < (s_11.1.len : Int))) (
 newP w_14 (.cells ((arrV .u32) (List.replicate 64 0)).cells 98) fun b_17 w_15 =>
 loopP (Int) (0 : Int) w_15 fun next__18 _ s_19 w_16 =>
 cond' (decide (s_19 < (64 : Int))) (
 cond' (decide (s_19 < (16 : Int))) (
 loopP (Int) (0 : Int) w_16 fun next__20 _ s_21 w_17 =>
 cond' (decide (s_21 < (4 : Int))) (
 chkP (inR s_19 64) <|
 loadP w_17.drew ((⟨b_17, 0, none⟩ : Addr).add (Int.toNat s_19 * 1)) 1 (Value.int .u32) fun v_22 =>
 chkP (inR (IntKind.i64.wrap ((IntKind.i64.wrap (s_16 + (IntKind.i64.wrap ((4 : Int) * s_19)))) + s_21)) s_11.1.len) <|
 nilP s_11.1.a fun a_23 =>
 loadP w_17.drew (a_23.add (Int.toNat (IntKind.i64.wrap ((IntKind.i64.wrap (s_16 + (IntKind.i64.wrap ((4 : Int) * s_19)))) + s_21)) * 1)) 1 (Value.int .u8) fun v_24 =>
 chkP (inR s_19 64) <|
 storeP w_17.drew ((⟨b_17, 0, none⟩ : Addr).add (Int.toNat s_19 * 1)) 1 (.int .u32 (IntKind.u32.wrap ((IntKind.u32.wrap ((256 : Int) * v_22)) + (IntKind.u32.wrap v_24)))) fun w_18 =>
 next__20 (IntKind.i64.wrap (s_21 + (1 : Int))) w_18) (
 next__18 (IntKind.i64.wrap (s_19 + (1 : Int))) w_17)) (
 chkP (inR (IntKind.i64.wrap (s_19 - (15 : Int))) 64) <|
 loadP w_16.drew ((⟨b_17, 0, none⟩ : Addr).add (Int.toNat (IntKind.i64.wrap (s_19 - (15 : Int))) * 1)) 1 (Value.int .u32) fun v_25 =>
 chkP (inR (IntKind.i64.wrap (s_19 - (15 : Int))) 64) <|
 loadP w_16.drew ((⟨b_17, 0, none⟩ : Addr).add (Int.toNat (IntKind.i64.wrap (s_19 - (15 : Int))) * 1)) 1 (Value.int .u32) fun v_26 =>
 chkP (inR (IntKind.i64.wrap (s_19 - (15 : Int))) 64) <|
 loadP w_16.drew ((⟨b_17, 0, none⟩ : Addr).add (Int.toNat (IntKind.i64.wrap (s_19 - (15 : Int))) * 1)) 1 (Value.int .u32) fun v_27 =>
 callP P 45 #[(.int .u32 v_25), (.int .u64 (7 : Int))] w_16.drew (Value.int .u32) fun r_28 w_19 =>
 Holds w_19 ((⟨b_17, 0, none⟩ : Addr).add (Int.toNat (IntKind.i64.wrap (s_19 - (15 : Int))) * 1)) 1 (.int .u32 v_27) ∧ (
 Holds w_19 ((⟨b_17, 0, none⟩ : Addr).add (Int.toNat (IntKind.i64.wrap (s_19 - (15 : Int))) * 1)) 1 (.int .u32 v_26) ∧ (
 callP P 45 #[(.int .u32 v_26), (.int .u64 (18 : Int))] w_19 (Value.int .u32) fun r_29 w_20 =>
 Holds w_20 ((⟨b_17, 0, none⟩ : Addr).add (Int.toNat (IntKind.i64.wrap (s_19 - (15 : Int))) * 1)) 1 (.int .u32 v_27) ∧ (
 chkP (inR (IntKind.i64.wrap (s_19 - (2 : Int))) 64) <|
 loadP w_20.drew ((⟨b_17, 0, none⟩ : Addr).add (Int.toNat (IntKind.i64.wrap (s_19 - (2 : Int))) * 1)) 1 (Value.int .u32) fun v_30 =>
 chkP (inR (IntKind.i64.wrap (s_19 - (2 : Int))) 64) <|
 loadP w_20.drew ((⟨b_17, 0, none⟩ : Addr).add (Int.toNat (IntKind.i64.wrap (s_19 - (2 : Int))) * 1)) 1 (Value.int .u32) fun v_31 =>
 chkP (inR (IntKind.i64.wrap (s_19 - (2 : Int))) 64) <|
 loadP w_20.drew ((⟨b_17, 0, none⟩ : Addr).add (Int.toNat (IntKind.i64.wrap (s_19 - (2 : Int))) * 1)) 1 (Value.int .u32) fun v_32 =>
 callP P 45 #[(.int .u32 v_30), (.int .u64 (17 : Int))] w_20.drew (Value.int .u32) fun r_33 w_21 =>
 Holds w_21 ((⟨b_17, 0, none⟩ : Addr).add (Int.toNat (IntKind.i64.wrap (s_19 - (2 : Int))) * 1)) 1 (.int .u32 v_32) ∧ (
 Holds w_21 ((⟨b_17, 0, none⟩ : Addr).add (Int.toNat (IntKind.i64.wrap (s_19 - (2 : Int))) * 1)) 1 (.int .u32 v_31) ∧ (
 callP P 45 #[(.int .u32 v_31), (.int .u64 (19 : Int))] w_21 (Value.int .u32) fun r_34 w_22 =>
 Holds w_22 ((⟨b_17, 0, none⟩ : Addr).add (Int.toNat (IntKind.i64.wrap (s_19 - (2 : Int))) * 1)) 1 (.int .u32 v_32) ∧ (
 chkP (inR (IntKind.i64.wrap (s_19 - (7 : Int))) 64) <|
 loadP w_22.drew ((⟨b_17, 0, none⟩ : Addr).add (Int.toNat (IntKind.i64.wrap (s_19 - (7 : Int))) * 1)) 1 (Value.int .u32) fun v_35 =>
 chkP (inR (IntKind.i64.wrap (s_19 - (16 : Int))) 64) <|
 loadP w_22.drew ((⟨b_17, 0, none⟩ : Addr).add (Int.toNat (IntKind.i64.wrap (s_19 - (16 : Int))) * 1)) 1 (Value.int .u32) fun v_36 =>
 chkP (inR s_19 64) <|
 storeP w_22.drew ((⟨b_17, 0, none⟩ : Addr).add (Int.toNat s_19 * 1)) 1 (.int .u32 (IntKind.u32.wrap ((IntKind.u32.wrap ((IntKind.u32.wrap ((bits .xor .u32 (bits .xor .u32 r_33 r_34) (Int.fdiv v_32 (2 ^ (min (Int.toNat (10 : Int)) IntKind.u32.bits)))) + v_35)) + (bits .xor .u32 (bits .xor .u32 r_28 r_29) (Int.fdiv v_27 (2 ^ (min (Int.toNat (3 : Int)) IntKind.u32.bits)))))) + v_36))) fun w_23 =>
 next__18 (IntKind.i64.wrap (s_19 + (1 : Int))) w_23)))))))) (
 loadP w_16 (⟨b_14, 0, none⟩ : Addr) 8 (arrV .u32) fun v_37 =>
 newP w_16 (.cells ((arrV .u32) (List.replicate 8 0)).cells 91) fun b_38 w_24 =>
 storeP w_24 (⟨b_38, 0, none⟩ : Addr) 8 ((arrV .u32) v_37) fun w_25 =>
 loopP (Int) (0 : Int) w_25 fun next__39 _ s_40 w_26 =>
 cond' (decide (s_40 < (64 : Int))) (
 loadP w_26 ((⟨b_38, 0, none⟩ : Addr).add (Int.toNat (4 : Int) * 1)) 1 (Value.int .u32) fun v_41 =>
 loadP w_26 ((⟨b_38, 0, none⟩ : Addr).add (Int.toNat (5 : Int) * 1)) 1 (Value.int .u32) fun v_42 =>
 loadP w_26 ((⟨b_38, 0, none⟩ : Addr).add (Int.toNat (4 : Int) * 1)) 1 (Value.int .u32) fun v_43 =>
 loadP w_26 ((⟨b_38, 0, none⟩ : Addr).add (Int.toNat (6 : Int) * 1)) 1 (Value.int .u32) fun v_44 =>
 loadP w_26 ((⟨b_38, 0, none⟩ : Addr).add (Int.toNat (0 : Int) * 1)) 1 (Value.int .u32) fun v_45 =>
 loadP w_26 ((⟨b_38, 0, none⟩ : Addr).add (Int.toNat (1 : Int) * 1)) 1 (Value.int .u32) fun v_46 =>
 loadP w_26 ((⟨b_38, 0, none⟩ : Addr).add (Int.toNat (0 : Int) * 1)) 1 (Value.int .u32) fun v_47 =>
 loadP w_26 ((⟨b_38, 0, none⟩ : Addr).add (Int.toNat (2 : Int) * 1)) 1 (Value.int .u32) fun v_48 =>
 loadP w_26 ((⟨b_38, 0, none⟩ : Addr).add (Int.toNat (1 : Int) * 1)) 1 (Value.int .u32) fun v_49 =>
 loadP w_26 ((⟨b_38, 0, none⟩ : Addr).add (Int.toNat (2 : Int) * 1)) 1 (Value.int .u32) fun v_50 =>
 loadP w_26.drew ((⟨b_38, 0, none⟩ : Addr).add (Int.toNat (7 : Int) * 1)) 1 (Value.int .u32) fun v_51 =>
 loadP w_26.drew ((⟨b_38, 0, none⟩ : Addr).add (Int.toNat (4 : Int) * 1)) 1 (Value.int .u32) fun v_52 =>
 loadP w_26.drew ((⟨b_38, 0, none⟩ : Addr).add (Int.toNat (4 : Int) * 1)) 1 (Value.int .u32) fun v_53 =>
 loadP w_26.drew ((⟨b_38, 0, none⟩ : Addr).add (Int.toNat (4 : Int) * 1)) 1 (Value.int .u32) fun v_54 =>
 chkP (inR s_40 64) <|
 loadP w_26.drew ((⟨b_17, 0, none⟩ : Addr).add (Int.toNat s_40 * 1)) 1 (Value.int .u32) fun v_55 =>
 callP P 45 #[(.int .u32 v_52), (.int .u64 (6 : Int))] w_26.drew (Value.int .u32) fun r_56 w_27 =>
 Holds w_27 ((⟨b_17, 0, none⟩ : Addr).add (Int.toNat s_40 * 1)) 1 (.int .u32 v_55) ∧ (
 Holds w_27 ((⟨b_38, 0, none⟩ : Addr).add (Int.toNat (4 : Int) * 1)) 1 (.int .u32 v_54) ∧ (
 Holds w_27 ((⟨b_38, 0, none⟩ : Addr).add (Int.toNat (4 : Int) * 1)) 1 (.int .u32 v_53) ∧ (
 Holds w_27 ((⟨b_38, 0, none⟩ : Addr).add (Int.toNat (7 : Int) * 1)) 1 (.int .u32 v_51) ∧ (
 callP P 45 #[(.int .u32 v_53), (.int .u64 (11 : Int))] w_27 (Value.int .u32) fun r_57 w_28 =>
 Holds w_28 ((⟨b_38, 0, none⟩ : Addr).add (Int.toNat (7 : Int) * 1)) 1 (.int .u32 v_51) ∧ (
 Holds w_28 ((⟨b_38, 0, none⟩ : Addr).add (Int.toNat (4 : Int) * 1)) 1 (.int .u32 v_54) ∧ (
 Holds w_28 ((⟨b_17, 0, none⟩ : Addr).add (Int.toNat s_40 * 1)) 1 (.int .u32 v_55) ∧ (
 callP P 45 #[(.int .u32 v_54), (.int .u64 (25 : Int))] w_28 (Value.int .u32) fun r_58 w_29 =>
 Holds w_29 ((⟨b_17, 0, none⟩ : Addr).add (Int.toNat s_40 * 1)) 1 (.int .u32 v_55) ∧ (
 Holds w_29 ((⟨b_38, 0, none⟩ : Addr).add (Int.toNat (7 : Int) * 1)) 1 (.int .u32 v_51) ∧ (
 callP P 46 #[(.int .i64 s_40)] w_29 (Value.int .u32) fun r_59 w_30 =>
 Holds w_30 ((⟨b_38, 0, none⟩ : Addr).add (Int.toNat (7 : Int) * 1)) 1 (.int .u32 v_51) ∧ (
 Holds w_30 ((⟨b_17, 0, none⟩ : Addr).add (Int.toNat s_40 * 1)) 1 (.int .u32 v_55) ∧ (
 loadP w_30.drew ((⟨b_38, 0, none⟩ : Addr).add (Int.toNat (0 : Int) * 1)) 1 (Value.int .u32) fun v_60 =>
 loadP w_30.drew ((⟨b_38, 0, none⟩ : Addr).add (Int.toNat (0 : Int) * 1)) 1 (Value.int .u32) fun v_61 =>
 loadP w_30.drew ((⟨b_38, 0, none⟩ : Addr).add (Int.toNat (0 : Int) * 1)) 1 (Value.int .u32) fun v_62 =>
 callP P 45 #[(.int .u32 v_60), (.int .u64 (2 : Int))] w_30.drew (Value.int .u32) fun r_63 w_31 =>
 Holds w_31 ((⟨b_38, 0, none⟩ : Addr).add (Int.toNat (0 : Int) * 1)) 1 (.int .u32 v_62) ∧ (
 Holds w_31 ((⟨b_38, 0, none⟩ : Addr).add (Int.toNat (0 : Int) * 1)) 1 (.int .u32 v_61) ∧ (
 callP P 45 #[(.int .u32 v_61), (.int .u64 (13 : Int))] w_31 (Value.int .u32) fun r_64 w_32 =>
 Holds w_32 ((⟨b_38, 0, none⟩ : Addr).add (Int.toNat (0 : Int) * 1)) 1 (.int .u32 v_62) ∧ (
 callP P 45 #[(.int .u32 v_62), (.int .u64 (22 : Int))] w_32 (Value.int .u32) fun r_65 w_33 =>
 loadP w_33 ((⟨b_38, 0, none⟩ : Addr).add (Int.toNat (0 : Int) * 1)) 1 (Value.int .u32) fun v_66 =>
 loadP w_33 ((⟨b_38, 0, none⟩ : Addr).add (Int.toNat (1 : Int) * 1)) 1 (Value.int .u32) fun v_67 =>
 loadP w_33 ((⟨b_38, 0, none⟩ : Addr).add (Int.toNat (2 : Int) * 1)) 1 (Value.int .u32) fun v_68 =>
 loadP w_33 ((⟨b_38, 0, none⟩ : Addr).add (Int.toNat (3 : Int) * 1)) 1 (Value.int .u32) fun v_69 =>
 loadP w_33 ((⟨b_38, 0, none⟩ : Addr).add (Int.toNat (4 : Int) * 1)) 1 (Value.int .u32) fun v_70 =>
 loadP w_33 ((⟨b_38, 0, none⟩ : Addr).add (Int.toNat (5 : Int) * 1)) 1 (Value.int .u32) fun v_71 =>
 loadP w_33 ((⟨b_38, 0, none⟩ : Addr).add (Int.toNat (6 : Int) * 1)) 1 (Value.int .u32) fun v_72 =>
 storeP w_33 (⟨b_38, 0, none⟩ : Addr) 8 ((arrV .u32) ([(IntKind.u32.wrap ((IntKind.u32.wrap ((IntKind.u32.wrap ((IntKind.u32.wrap ((IntKind.u32.wrap (v_51 + (bits .xor .u32 (bits .xor .u32 r_56 r_57) r_58))) + (bits .or .u32 (bits .and .u32 v_41 v_42) (bits .and .u32 (IntKind.u32.wrap ((4294967295 : Int) - v_43)) v_44)))) + r_59)) + v_55)) + (IntKind.u32.wrap ((bits .xor .u32 (bits .xor .u32 r_63 r_64) r_65) + (bits .or .u32 (bits .or .u32 (bits .and .u32 v_45 v_46) (bits .and .u32 v_47 v_48)) (bits .and .u32 v_49 v_50)))))), v_66, v_67, v_68, (IntKind.u32.wrap (v_69 + (IntKind.u32.wrap ((IntKind.u32.wrap ((IntKind.u32.wrap ((IntKind.u32.wrap (v_51 + (bits .xor .u32 (bits .xor .u32 r_56 r_57) r_58))) + (bits .or .u32 (bits .and .u32 v_41 v_42) (bits .and .u32 (IntKind.u32.wrap ((4294967295 : Int) - v_43)) v_44)))) + r_59)) + v_55)))), v_70, v_71, v_72])) fun w_34 =>
 next__39 (IntKind.i64.wrap (s_40 + (1 : Int))) w_34))))))))))))))) (
 loopP (Int) (0 : Int) w_26 fun next__73 _ s_74 w_35 =>
 cond' (decide (s_74 < (8 : Int))) (
 chkP (inR s_74 8) <|
 loadP w_35.drew ((⟨b_14, 0, none⟩ : Addr).add (Int.toNat s_74 * 1)) 1 (Value.int .u32) fun v_75 =>
 chkP (inR s_74 8) <|
 loadP w_35.drew ((⟨b_38, 0, none⟩ : Addr).add (Int.toNat s_74 * 1)) 1 (Value.int .u32) fun v_76 =>
 chkP (inR s_74 8) <|
 storeP w_35.drew ((⟨b_14, 0, none⟩ : Addr).add (Int.toNat s_74 * 1)) 1 (.int .u32 (IntKind.u32.wrap (v_75 + v_76))) fun w_36 =>
 next__73 (IntKind.i64.wrap (s_74 + (1 : Int))) w_36) (
 next__15 (IntKind.i64.wrap (s_16 + (64 : Int))) w_35)))) (
 newP w_14 (.cells ((arrV .u8) (List.replicate 32 0)).cells 25) fun b_77 w_37 =>
 loopP (Int) (0 : Int) w_37 fun next__78 _ s_79 w_38 =>
 cond' (decide (s_79 < (32 : Int))) (
 chkP (inR (IntKind.i64.wrap (Int.tdiv s_79 (4 : Int))) 8) <|
 loadP w_38 ((⟨b_14, 0, none⟩ : Addr).add (Int.toNat (IntKind.i64.wrap (Int.tdiv s_79 (4 : Int))) * 1)) 1 (Value.int .u32) fun v_80 =>
 chkP (decide (0 ≤ (IntKind.u64.wrap (IntKind.i64.wrap ((24 : Int) - (IntKind.i64.wrap ((8 : Int) * (Int.tmod s_79 (4 : Int))))))))) <|
 chkP (inR s_79 32) <|
 storeP w_38 ((⟨b_77, 0, none⟩ : Addr).add (Int.toNat s_79 * 1)) 1 (.int .u8 (IntKind.u8.wrap (Int.fdiv v_80 (2 ^ (min (Int.toNat (IntKind.u64.wrap (IntKind.i64.wrap ((24 : Int) - (IntKind.i64.wrap ((8 : Int) * (Int.tmod s_79 (4 : Int)))))))) IntKind.u32.bits))))) fun w_39 =>
 next__78 (IntKind.i64.wrap (s_79 + (1 : Int))) w_39) (
 loadP w_38 (⟨b_77, 0, none⟩ : Addr) 32 (arrV .u8) fun v_81 =>
 storeP w_38 (⟨b_1, 0, none⟩ : Addr) 32 ((arrV .u8) v_81) fun w_40 =>
 loadP w_40 (⟨b_1, 0, none⟩ : Addr) 32 (arrV .u8) fun v_82 =>
 unArrP .u8 ((arrV .u8) v_82) fun z_83 =>
 R z_83 w_40))))
def an19 : Ann := mkAnn [(3, [(3, shSl)]), (6, [(3, shSl), (4, (shInt .i64))]), (11, [(6, (shInt .i64))]), (15, [(8, (shInt .i64))]), (19, [(9, (shInt .i64))]), (27, [(13, (shInt .i64))]), (35, [(18, (shInt .i64))]), (40, [(20, (shInt .i64))])] []
theorem sf19_eq (m : SlV) (w0 : World) (R : (List Int) → World → Prop) : sf19 m w0 R = vcFn P sh an19 Try.f19 [(SlV.val m)] (shArr .u8) w0 R := by kernel_rfl
theorem nm19 : (Try.f19.name == "runtime.NumGoroutine") = false := by kernel_rfl
theorem sf19_call (m : SlV) (w0 : World) (R : (List Int) → World → Prop) (hsf : sf19 m w0 R) : callP P 19 #[(SlV.val m)] w0 (shArr .u8).val R :=
  vcFn_sound mixed Try.func19 nm19 (Eq.mp (sf19_eq m w0 R) hsf)

/-- flume/mac.Same -/
def sf20 (a : List Int) (b : List Int) (w0 : World) (R : Bool → World → Prop) : Prop :=
 newP w0 (.cells ((arrV .u8) a).cells 25) fun b_1 w_1 =>
 newP w_1 (.cells ((arrV .u8) b).cells 25) fun b_2 w_2 =>
 loadP w_2 (⟨b_1, 0, none⟩ : Addr) 32 (arrV .u8) fun v_3 =>
 loadP w_2 (⟨b_2, 0, none⟩ : Addr) 32 (arrV .u8) fun v_4 =>
 eqArrP 32 .u8 ((arrV .u8) v_3) ((arrV .u8) v_4) fun b_5 =>
 R (negB false b_5) w_2
def an20 : Ann := mkAnn [] []
theorem sf20_eq (a : List Int) (b : List Int) (w0 : World) (R : Bool → World → Prop) : sf20 a b w0 R = vcFn P sh an20 Try.f20 [((arrV .u8) a), ((arrV .u8) b)] shBool w0 R := by kernel_rfl
theorem nm20 : (Try.f20.name == "runtime.NumGoroutine") = false := by kernel_rfl
theorem sf20_call (a : List Int) (b : List Int) (w0 : World) (R : Bool → World → Prop) (hsf : sf20 a b w0 R) : callP P 20 #[((arrV .u8) a), ((arrV .u8) b)] w0 shBool.val R :=
  vcFn_sound mixed Try.func20 nm20 (Eq.mp (sf20_eq a b w0 R) hsf)

/-- flume/flumelaw09.first -/
def sf21 (w0 : World) (R : Bool → World → Prop) : Prop :=
 newP w0 (.cells #[(.int .u8 (107 : Int))] 5) fun b_1 w_1 =>
 runP P (convert 22 22 (SlV.val (SlV.mk (some (⟨b_1, 0, none⟩ : Addr)) 1 1))) w_1 SlV.val fun r_2 w_2 =>
 callP P 22 #[(SlV.val r_2), (CookieV.val ({ Tag := (7 : Int), Peer := 0, Tsn := 0, PeerTsn := 0, Window := 0, Out := 0, In := 0, Features := 0, Made := (100 : Int), TieTag := 0, TiePeer := 0 } : CookieV))] w_2 SlV.val fun r_3 w_3 =>
 newP w_3 (.cells #[(.int .u8 (107 : Int))] 5) fun b_4 w_4 =>
 runP P (convert 22 22 (SlV.val (SlV.mk (some (⟨b_4, 0, none⟩ : Addr)) 1 1))) w_4 SlV.val fun r_5 w_5 =>
 callP P 23 #[(SlV.val r_5), (SlV.val r_3), (.int .u32 (700 : Int))] w_5 (tup2V CookieV.val (Value.int .i64)) fun r_6 w_6 =>
 newP w_6 (.cells (CookieV.val ({ Tag := 0, Peer := 0, Tsn := 0, PeerTsn := 0, Window := 0, Out := 0, In := 0, Features := 0, Made := 0, TieTag := 0, TiePeer := 0 } : CookieV)).cells 36) fun b_7 w_7 =>
 storeP w_7 (⟨b_7, 0, none⟩ : Addr) 11 (CookieV.val r_6.1) fun w_8 =>
 newP w_8 (.cells #[(.int .u8 (107 : Int))] 5) fun b_8 w_9 =>
 runP P (convert 22 22 (SlV.val (SlV.mk (some (⟨b_8, 0, none⟩ : Addr)) 1 1))) w_9 SlV.val fun r_9 w_10 =>
 callP P 23 #[(SlV.val r_9), (SlV.val r_3), (.int .u32 (701 : Int))] w_10 (tup2V CookieV.val (Value.int .i64)) fun r_10 w_11 =>
 newP w_11 (.cells (CookieV.val ({ Tag := 0, Peer := 0, Tsn := 0, PeerTsn := 0, Window := 0, Out := 0, In := 0, Features := 0, Made := 0, TieTag := 0, TiePeer := 0 } : CookieV)).cells 36) fun b_11 w_12 =>
 storeP w_12 (⟨b_11, 0, none⟩ : Addr) 11 (CookieV.val r_10.1) fun w_13 =>
 cond' ((r_3.len : Int) != (70 : Int)) (
 R false w_13) (
 newP w_13 (.cells #[(.int .u8 (107 : Int))] 5) fun b_12 w_14 =>
 runP P (convert 22 22 (SlV.val (SlV.mk (some (⟨b_12, 0, none⟩ : Addr)) 1 1))) w_14 SlV.val fun r_13 w_15 =>
 chkP (leR (r_3.len : Int) (r_3.cap : Int)) <|
 chkP (leR (1 : Int) (r_3.len : Int)) <|
 callP P 23 #[(SlV.val r_13), (SlV.val (SlV.sub r_3 (1) (r_3.len) r_3.cap 1)), (.int .u32 (700 : Int))] w_15 (tup2V CookieV.val (Value.int .i64)) fun r_14 w_16 =>
 newP w_16 (.cells (CookieV.val ({ Tag := 0, Peer := 0, Tsn := 0, PeerTsn := 0, Window := 0, Out := 0, In := 0, Features := 0, Made := 0, TieTag := 0, TiePeer := 0 } : CookieV)).cells 36) fun b_15 w_17 =>
 storeP w_17 (⟨b_15, 0, none⟩ : Addr) 11 (CookieV.val r_14.1) fun w_18 =>
 cond' (r_6.2 == (0 : Int)) (
 loadP w_18 ((⟨b_7, 0, none⟩ : Addr).add 0) 1 (Value.int .u32) fun v_17 =>
 cond' (v_17 == (7 : Int)) (
 cond' (r_10.2 == (91 : Int)) (
 R (r_14.2 == (40 : Int)) w_18) (
 R false w_18)) (
 R false w_18)) (
 R false w_18))
def an21 : Ann := mkAnn [] []
theorem sf21_eq (w0 : World) (R : Bool → World → Prop) : sf21 w0 R = vcFn P sh an21 Try.f21 [] shBool w0 R := by kernel_rfl
theorem nm21 : (Try.f21.name == "runtime.NumGoroutine") = false := by kernel_rfl
theorem sf21_call (w0 : World) (R : Bool → World → Prop) (hsf : sf21 w0 R) : callP P 21 #[] w0 shBool.val R :=
  vcFn_sound mixed Try.func21 nm21 (Eq.mp (sf21_eq w0 R) hsf)

/-- flume/cookie.Make -/
def sf22 (key : SlV) (c : CookieV) (w0 : World) (R : SlV → World → Prop) : Prop :=
 newP w0 (.cells (CookieV.val c).cells 36) fun b_1 w_1 =>
 newP w_1 (.cells (WriterV.val ({ b := SlV.nil } : WriterV)).cells 102) fun b_2 w_2 =>
 loadP w_2 ((⟨b_1, 0, none⟩ : Addr).add 0) 1 (Value.int .u32) fun v_3 =>
 loadP w_2 ((⟨b_1, 0, none⟩ : Addr).add 1) 1 (Value.int .u32) fun v_4 =>
 loadP w_2 ((⟨b_1, 0, none⟩ : Addr).add 2) 1 (Value.int .u32) fun v_5 =>
 loadP w_2 ((⟨b_1, 0, none⟩ : Addr).add 3) 1 (Value.int .u32) fun v_6 =>
 loadP w_2 ((⟨b_1, 0, none⟩ : Addr).add 4) 1 (Value.int .u32) fun v_7 =>
 newP w_2 (.cells #[(.int .u32 v_3), (.int .u32 v_4), (.int .u32 v_5), (.int .u32 v_6), (.int .u32 v_7)] 33) fun b_8 w_3 =>
 loopP (Int) (0 : Int) w_3 fun next__9 _ s_10 w_4 =>
 cond' (decide (s_10 < (5 : Int))) (
 chkP (inR s_10 5) <|
 loadP w_4 ((⟨b_8, 0, none⟩ : Addr).add (Int.toNat s_10 * 1)) 1 (Value.int .u32) fun v_11 =>
 callP P 47 #[(.pointer (some (⟨b_2, 0, none⟩ : Addr))), (.int .u32 v_11)] w_4 unitV fun r_12 w_5 =>
 next__9 (IntKind.i64.wrap (s_10 + (1 : Int))) w_5) (
 loadP w_4 ((⟨b_1, 0, none⟩ : Addr).add 5) 1 (Value.int .u16) fun v_13 =>
 callP P 48 #[(.pointer (some (⟨b_2, 0, none⟩ : Addr))), (.int .u16 v_13)] w_4 unitV fun r_14 w_6 =>
 loadP w_6 ((⟨b_1, 0, none⟩ : Addr).add 6) 1 (Value.int .u16) fun v_15 =>
 callP P 48 #[(.pointer (some (⟨b_2, 0, none⟩ : Addr))), (.int .u16 v_15)] w_6 unitV fun r_16 w_7 =>
 loadP w_7 ((⟨b_1, 0, none⟩ : Addr).add 7) 1 (Value.int .u8) fun v_17 =>
 callP P 49 #[(.pointer (some (⟨b_2, 0, none⟩ : Addr))), (.int .u8 v_17)] w_7 unitV fun r_18 w_8 =>
 callP P 49 #[(.pointer (some (⟨b_2, 0, none⟩ : Addr))), (.int .u8 (0 : Int))] w_8 unitV fun r_19 w_9 =>
 loadP w_9 ((⟨b_1, 0, none⟩ : Addr).add 8) 1 (Value.int .u32) fun v_20 =>
 loadP w_9 ((⟨b_1, 0, none⟩ : Addr).add 9) 1 (Value.int .u32) fun v_21 =>
 loadP w_9 ((⟨b_1, 0, none⟩ : Addr).add 10) 1 (Value.int .u32) fun v_22 =>
 newP w_9 (.cells #[(.int .u32 v_20), (.int .u32 v_21), (.int .u32 v_22)] 33) fun b_23 w_10 =>
 loopP (Int) (0 : Int) w_10 fun next__24 _ s_25 w_11 =>
 cond' (decide (s_25 < (3 : Int))) (
 chkP (inR s_25 3) <|
 loadP w_11 ((⟨b_23, 0, none⟩ : Addr).add (Int.toNat s_25 * 1)) 1 (Value.int .u32) fun v_26 =>
 callP P 47 #[(.pointer (some (⟨b_2, 0, none⟩ : Addr))), (.int .u32 v_26)] w_11 unitV fun r_27 w_12 =>
 next__24 (IntKind.i64.wrap (s_25 + (1 : Int))) w_12) (
 callP P 50 #[(.pointer (some (⟨b_2, 0, none⟩ : Addr)))] w_11 SlV.val fun r_28 w_13 =>
 newP w_13 (.cells #[(SlV.val r_28)] 22) fun b_29 w_14 =>
 callP P 16 #[(SlV.val key), (SlV.val (SlV.mk (some (⟨b_29, 0, none⟩ : Addr)) 1 1))] w_14 (arrV .u8) fun r_30 w_15 =>
 newP w_15 (.cells ((arrV .u8) (List.replicate 32 0)).cells 25) fun b_31 w_16 =>
 storeP w_16 (⟨b_31, 0, none⟩ : Addr) 32 ((arrV .u8) r_30) fun w_17 =>
 callP P 51 #[(.pointer (some (⟨b_2, 0, none⟩ : Addr))), (SlV.val (arrSub (⟨b_31, 0, none⟩ : Addr) 0 32 32 1))] w_17 unitV fun r_32 w_18 =>
 callP P 50 #[(.pointer (some (⟨b_2, 0, none⟩ : Addr)))] w_18 SlV.val fun r_33 w_19 =>
 R r_33 w_19))
def an22 : Ann := mkAnn [(4, [(25, (shInt .i64))]), (13, [(51, (shInt .i64))])] []
theorem sf22_eq (key : SlV) (c : CookieV) (w0 : World) (R : SlV → World → Prop) : sf22 key c w0 R = vcFn P sh an22 Try.f22 [(SlV.val key), (CookieV.val c)] shSl w0 R := by kernel_rfl
theorem nm22 : (Try.f22.name == "runtime.NumGoroutine") = false := by kernel_rfl
theorem sf22_call (key : SlV) (c : CookieV) (w0 : World) (R : SlV → World → Prop) (hsf : sf22 key c w0 R) : callP P 22 #[(SlV.val key), (CookieV.val c)] w0 shSl.val R :=
  vcFn_sound mixed Try.func22 nm22 (Eq.mp (sf22_eq key c w0 R) hsf)

/-- flume/cookie.Open -/
def sf23 (key : SlV) (b : SlV) (now : Int) (w0 : World) (R : (CookieV × Int) → World → Prop) : Prop :=
 newP w0 (.cells (CookieV.val ({ Tag := 0, Peer := 0, Tsn := 0, PeerTsn := 0, Window := 0, Out := 0, In := 0, Features := 0, Made := 0, TieTag := 0, TiePeer := 0 } : CookieV)).cells 36) fun b_1 w_1 =>
 cond' (decide ((b.len : Int) < (70 : Int))) (
 storeP w_1 (⟨b_1, 0, none⟩ : Addr) 11 (CookieV.val ({ Tag := 0, Peer := 0, Tsn := 0, PeerTsn := 0, Window := 0, Out := 0, In := 0, Features := 0, Made := 0, TieTag := 0, TiePeer := 0 } : CookieV)) fun w_2 =>
 loadP w_2 (⟨b_1, 0, none⟩ : Addr) 11 CookieV.val fun v_2 =>
 R (v_2, (40 : Int)) w_2) (
 cond' (decide ((b.len : Int) > (70 : Int))) (
 storeP w_1 (⟨b_1, 0, none⟩ : Addr) 11 (CookieV.val ({ Tag := 0, Peer := 0, Tsn := 0, PeerTsn := 0, Window := 0, Out := 0, In := 0, Features := 0, Made := 0, TieTag := 0, TiePeer := 0 } : CookieV)) fun w_3 =>
 loadP w_3 (⟨b_1, 0, none⟩ : Addr) 11 CookieV.val fun v_3 =>
 R (v_3, (41 : Int)) w_3) (
 chkP (leR (38 : Int) (b.cap : Int)) <|
 chkP (leR (b.len : Int) (b.cap : Int)) <|
 chkP (leR (38 : Int) (b.len : Int)) <|
 chkP (decide (32 ≤ (SlV.sub b (38) (b.len) b.cap 1).len)) <|
 nilP ((SlV.sub b (38) (b.len) b.cap 1).a) fun a_4 =>
 loadP w_1.drew a_4 32 (arrV .u8) fun v_5 =>
 newP w_1.drew (.cells #[(SlV.val (SlV.sub b (0) (38) b.cap 1))] 22) fun b_6 w_4 =>
 Holds w_4 a_4 32 ((arrV .u8) v_5) ∧ (
 callP P 16 #[(SlV.val key), (SlV.val (SlV.mk (some (⟨b_6, 0, none⟩ : Addr)) 1 1))] w_4 (arrV .u8) fun r_7 w_5 =>
 Holds w_5 a_4 32 ((arrV .u8) v_5) ∧ (
 callP P 20 #[((arrV .u8) r_7), ((arrV .u8) v_5)] w_5 Value.bool fun r_8 w_6 =>
 cond' (!r_8) (
 storeP w_6 (⟨b_1, 0, none⟩ : Addr) 11 (CookieV.val ({ Tag := 0, Peer := 0, Tsn := 0, PeerTsn := 0, Window := 0, Out := 0, In := 0, Features := 0, Made := 0, TieTag := 0, TiePeer := 0 } : CookieV)) fun w_7 =>
 loadP w_7 (⟨b_1, 0, none⟩ : Addr) 11 CookieV.val fun v_9 =>
 R (v_9, (90 : Int)) w_7) (
 callP P 52 #[(SlV.val b)] w_6 Value.pointer fun r_10 w_8 =>
 newP w_8 (.cells (CookieV.val ({ Tag := 0, Peer := 0, Tsn := 0, PeerTsn := 0, Window := 0, Out := 0, In := 0, Features := 0, Made := 0, TieTag := 0, TiePeer := 0 } : CookieV)).cells 36) fun b_11 w_9 =>
 newP w_9 (.cells #[(.pointer (some ((⟨b_11, 0, none⟩ : Addr).add 0))), (.pointer (some ((⟨b_11, 0, none⟩ : Addr).add 1))), (.pointer (some ((⟨b_11, 0, none⟩ : Addr).add 2))), (.pointer (some ((⟨b_11, 0, none⟩ : Addr).add 3))), (.pointer (some ((⟨b_11, 0, none⟩ : Addr).add 4)))] 109) fun b_12 w_10 =>
 loopP (Int) (0 : Int) w_10 fun next__13 _ s_14 w_11 =>
 cond' (decide (s_14 < (5 : Int))) (
 chkP (inR s_14 5) <|
 loadP w_11 ((⟨b_12, 0, none⟩ : Addr).add (Int.toNat s_14 * 1)) 1 Value.pointer fun v_15 =>
 callP P 53 #[(.pointer r_10)] w_11 (Value.int .u32) fun r_16 w_12 =>
 nilP v_15 fun a_17 =>
 storeP w_12 a_17 1 (.int .u32 r_16) fun w_13 =>
 next__13 (IntKind.i64.wrap (s_14 + (1 : Int))) w_13) (
 callP P 54 #[(.pointer r_10)] w_11 (Value.int .u16) fun r_18 w_14 =>
 callP P 54 #[(.pointer r_10)] w_14 (Value.int .u16) fun r_19 w_15 =>
 callP P 55 #[(.pointer r_10)] w_15 (Value.int .u8) fun r_20 w_16 =>
 storeP w_16 ((⟨b_11, 0, none⟩ : Addr).add 5) 1 (.int .u16 r_18) fun w_17 =>
 storeP w_17 ((⟨b_11, 0, none⟩ : Addr).add 6) 1 (.int .u16 r_19) fun w_18 =>
 storeP w_18 ((⟨b_11, 0, none⟩ : Addr).add 7) 1 (.int .u8 r_20) fun w_19 =>
 callP P 55 #[(.pointer r_10)] w_19 (Value.int .u8) fun r_21 w_20 =>
 callP P 53 #[(.pointer r_10)] w_20 (Value.int .u32) fun r_22 w_21 =>
 callP P 53 #[(.pointer r_10)] w_21 (Value.int .u32) fun r_23 w_22 =>
 callP P 53 #[(.pointer r_10)] w_22 (Value.int .u32) fun r_24 w_23 =>
 storeP w_23 ((⟨b_11, 0, none⟩ : Addr).add 8) 1 (.int .u32 r_22) fun w_24 =>
 storeP w_24 ((⟨b_11, 0, none⟩ : Addr).add 9) 1 (.int .u32 r_23) fun w_25 =>
 storeP w_25 ((⟨b_11, 0, none⟩ : Addr).add 10) 1 (.int .u32 r_24) fun w_26 =>
 cond' (r_21 != (0 : Int)) (
 storeP w_26 (⟨b_1, 0, none⟩ : Addr) 11 (CookieV.val ({ Tag := 0, Peer := 0, Tsn := 0, PeerTsn := 0, Window := 0, Out := 0, In := 0, Features := 0, Made := 0, TieTag := 0, TiePeer := 0 } : CookieV)) fun w_27 =>
 loadP w_27 (⟨b_1, 0, none⟩ : Addr) 11 CookieV.val fun v_25 =>
 R (v_25, (42 : Int)) w_27) (
 loadP w_26 ((⟨b_11, 0, none⟩ : Addr).add 8) 1 (Value.int .u32) fun v_26 =>
 callP P 56 #[(.int .u32 v_26), (.int .u32 now)] w_26 (Value.int .u32) fun r_27 w_28 =>
 cond' (decide (r_27 > (600 : Int))) (
 storeP w_28 (⟨b_1, 0, none⟩ : Addr) 11 (CookieV.val ({ Tag := 0, Peer := 0, Tsn := 0, PeerTsn := 0, Window := 0, Out := 0, In := 0, Features := 0, Made := 0, TieTag := 0, TiePeer := 0 } : CookieV)) fun w_29 =>
 loadP w_29 (⟨b_1, 0, none⟩ : Addr) 11 CookieV.val fun v_28 =>
 R (v_28, (91 : Int)) w_29) (
 loadP w_28 (⟨b_11, 0, none⟩ : Addr) 11 CookieV.val fun v_29 =>
 storeP w_28 (⟨b_1, 0, none⟩ : Addr) 11 (CookieV.val v_29) fun w_30 =>
 loadP w_30 (⟨b_1, 0, none⟩ : Addr) 11 CookieV.val fun v_30 =>
 R (v_30, (0 : Int)) w_30))))))))
def an23 : Ann := mkAnn [(10, [(45, (shInt .i64))])] []
theorem sf23_eq (key : SlV) (b : SlV) (now : Int) (w0 : World) (R : (CookieV × Int) → World → Prop) : sf23 key b now w0 R = vcFn P sh an23 Try.f23 [(SlV.val key), (SlV.val b), (.int .u32 now)] (shTup2 shCookieV (shInt .i64)) w0 R := by kernel_rfl
theorem nm23 : (Try.f23.name == "runtime.NumGoroutine") = false := by kernel_rfl
theorem sf23_call (key : SlV) (b : SlV) (now : Int) (w0 : World) (R : (CookieV × Int) → World → Prop) (hsf : sf23 key b now w0 R) : callP P 23 #[(SlV.val key), (SlV.val b), (.int .u32 now)] w0 (shTup2 shCookieV (shInt .i64)).val R :=
  vcFn_sound mixed Try.func23 nm23 (Eq.mp (sf23_eq key b now w0 R) hsf)

/-- flume/flumeref09.Seal -/
def sf24 (key : SlV) (b : SlV) (w0 : World) (R : SlV → World → Prop) : Prop :=
 newP w0 (.cells #[] 5) fun b_1 w_1 =>
 runP P (Builtin.append_ #[22, 22] 22 #[(SlV.val (SlV.mk (some (⟨b_1, 0, none⟩ : Addr)) 0 0)), (SlV.val b)]) w_1 SlV.val fun r_2 w_2 =>
 callP P 18 #[(SlV.val key), (SlV.val b)] w_2 (arrV .u8) fun r_3 w_3 =>
 newP w_3 (.cells ((arrV .u8) (List.replicate 32 0)).cells 25) fun b_4 w_4 =>
 storeP w_4 (⟨b_4, 0, none⟩ : Addr) 32 ((arrV .u8) r_3) fun w_5 =>
 loopP (SlV × Int) (r_2, (0 : Int)) w_5 fun next__5 _ s_6 w_6 =>
 cond' (decide (s_6.2 < (32 : Int))) (
 chkP (inR s_6.2 32) <|
 loadP w_6 ((⟨b_4, 0, none⟩ : Addr).add (Int.toNat s_6.2 * 1)) 1 (Value.int .u8) fun v_7 =>
 newP w_6 (.cells #[(.int .u8 v_7)] 5) fun b_8 w_7 =>
 runP P (Builtin.append_ #[22, 22] 22 #[(SlV.val s_6.1), (SlV.val (SlV.mk (some (⟨b_8, 0, none⟩ : Addr)) 1 1))]) w_7 SlV.val fun r_9 w_8 =>
 next__5 (r_9, (IntKind.i64.wrap (s_6.2 + (1 : Int)))) w_8) (
 R s_6.1 w_6)
def an24 : Ann := mkAnn [(4, [(5, shSl), (7, (shInt .i64))])] []
theorem sf24_eq (key : SlV) (b : SlV) (w0 : World) (R : SlV → World → Prop) : sf24 key b w0 R = vcFn P sh an24 Try.f24 [(SlV.val key), (SlV.val b)] shSl w0 R := by kernel_rfl
theorem nm24 : (Try.f24.name == "runtime.NumGoroutine") = false := by kernel_rfl
theorem sf24_call (key : SlV) (b : SlV) (w0 : World) (R : SlV → World → Prop) (hsf : sf24 key b w0 R) : callP P 24 #[(SlV.val key), (SlV.val b)] w0 shSl.val R :=
  vcFn_sound mixed Try.func24 nm24 (Eq.mp (sf24_eq key b w0 R) hsf)

/-- flume/flumeref09.Words -/
def sf25 (c : CookieV) (w0 : World) (R : SlV → World → Prop) : Prop :=
 newP w0 (.cells (CookieV.val c).cells 36) fun b_1 w_1 =>
 loadP w_1 ((⟨b_1, 0, none⟩ : Addr).add 0) 1 (Value.int .u32) fun v_2 =>
 loadP w_1 ((⟨b_1, 0, none⟩ : Addr).add 1) 1 (Value.int .u32) fun v_3 =>
 loadP w_1 ((⟨b_1, 0, none⟩ : Addr).add 2) 1 (Value.int .u32) fun v_4 =>
 loadP w_1 ((⟨b_1, 0, none⟩ : Addr).add 3) 1 (Value.int .u32) fun v_5 =>
 loadP w_1 ((⟨b_1, 0, none⟩ : Addr).add 4) 1 (Value.int .u32) fun v_6 =>
 newP w_1 (.cells #[(.int .u32 v_2), (.int .u32 v_3), (.int .u32 v_4), (.int .u32 v_5), (.int .u32 v_6)] 33) fun b_7 w_2 =>
 loopP (SlV × Int) (SlV.nil, (0 : Int)) w_2 fun next__8 _ s_9 w_3 =>
 cond' (decide (s_9.2 < (5 : Int))) (
 chkP (inR s_9.2 5) <|
 loadP w_3 ((⟨b_7, 0, none⟩ : Addr).add (Int.toNat s_9.2 * 1)) 1 (Value.int .u32) fun v_10 =>
 callP P 57 #[(.int .u64 (IntKind.u64.wrap v_10)), (.int .i64 (4 : Int))] w_3 SlV.val fun r_11 w_4 =>
 runP P (Builtin.append_ #[22, 22] 22 #[(SlV.val s_9.1), (SlV.val r_11)]) w_4 SlV.val fun r_12 w_5 =>
 next__8 (r_12, (IntKind.i64.wrap (s_9.2 + (1 : Int)))) w_5) (
 loadP w_3 ((⟨b_1, 0, none⟩ : Addr).add 5) 1 (Value.int .u16) fun v_13 =>
 callP P 57 #[(.int .u64 (IntKind.u64.wrap v_13)), (.int .i64 (2 : Int))] w_3 SlV.val fun r_14 w_6 =>
 runP P (Builtin.append_ #[22, 22] 22 #[(SlV.val s_9.1), (SlV.val r_14)]) w_6 SlV.val fun r_15 w_7 =>
 loadP w_7 ((⟨b_1, 0, none⟩ : Addr).add 6) 1 (Value.int .u16) fun v_16 =>
 callP P 57 #[(.int .u64 (IntKind.u64.wrap v_16)), (.int .i64 (2 : Int))] w_7 SlV.val fun r_17 w_8 =>
 runP P (Builtin.append_ #[22, 22] 22 #[(SlV.val r_15), (SlV.val r_17)]) w_8 SlV.val fun r_18 w_9 =>
 loadP w_9 ((⟨b_1, 0, none⟩ : Addr).add 7) 1 (Value.int .u8) fun v_19 =>
 newP w_9 (.cells #[(.int .u8 v_19), (.int .u8 (0 : Int))] 5) fun b_20 w_10 =>
 runP P (Builtin.append_ #[22, 22] 22 #[(SlV.val r_18), (SlV.val (SlV.mk (some (⟨b_20, 0, none⟩ : Addr)) 2 2))]) w_10 SlV.val fun r_21 w_11 =>
 loadP w_11 ((⟨b_1, 0, none⟩ : Addr).add 8) 1 (Value.int .u32) fun v_22 =>
 loadP w_11 ((⟨b_1, 0, none⟩ : Addr).add 9) 1 (Value.int .u32) fun v_23 =>
 loadP w_11 ((⟨b_1, 0, none⟩ : Addr).add 10) 1 (Value.int .u32) fun v_24 =>
 newP w_11 (.cells #[(.int .u32 v_22), (.int .u32 v_23), (.int .u32 v_24)] 33) fun b_25 w_12 =>
 loopP (SlV × Int) (r_21, (0 : Int)) w_12 fun next__26 _ s_27 w_13 =>
 cond' (decide (s_27.2 < (3 : Int))) (
 chkP (inR s_27.2 3) <|
 loadP w_13 ((⟨b_25, 0, none⟩ : Addr).add (Int.toNat s_27.2 * 1)) 1 (Value.int .u32) fun v_28 =>
 callP P 57 #[(.int .u64 (IntKind.u64.wrap v_28)), (.int .i64 (4 : Int))] w_13 SlV.val fun r_29 w_14 =>
 runP P (Builtin.append_ #[22, 22] 22 #[(SlV.val s_27.1), (SlV.val r_29)]) w_14 SlV.val fun r_30 w_15 =>
 next__26 (r_30, (IntKind.i64.wrap (s_27.2 + (1 : Int)))) w_15) (
 R s_27.1 w_13))
def an25 : Ann := mkAnn [(3, [(3, shSl), (20, (shInt .i64))]), (11, [(3, shSl), (55, (shInt .i64))])] []
theorem sf25_eq (c : CookieV) (w0 : World) (R : SlV → World → Prop) : sf25 c w0 R = vcFn P sh an25 Try.f25 [(CookieV.val c)] shSl w0 R := by kernel_rfl
theorem nm25 : (Try.f25.name == "runtime.NumGoroutine") = false := by kernel_rfl
theorem sf25_call (c : CookieV) (w0 : World) (R : SlV → World → Prop) (hsf : sf25 c w0 R) : callP P 25 #[(CookieV.val c)] w0 shSl.val R :=
  vcFn_sound mixed Try.func25 nm25 (Eq.mp (sf25_eq c w0 R) hsf)

/-- flume/flumeref09.Open -/
def sf26 (key : SlV) (b : SlV) (now : Int) (w0 : World) (R : (CookieV × Int) → World → Prop) : Prop :=
 newP w0 (.cells (CookieV.val ({ Tag := 0, Peer := 0, Tsn := 0, PeerTsn := 0, Window := 0, Out := 0, In := 0, Features := 0, Made := 0, TieTag := 0, TiePeer := 0 } : CookieV)).cells 36) fun b_1 w_1 =>
 newP w_1 (.cells (CookieV.val ({ Tag := 0, Peer := 0, Tsn := 0, PeerTsn := 0, Window := 0, Out := 0, In := 0, Features := 0, Made := 0, TieTag := 0, TiePeer := 0 } : CookieV)).cells 36) fun b_2 w_2 =>
 cond' (decide ((b.len : Int) < (70 : Int))) (
 loadP w_2 (⟨b_2, 0, none⟩ : Addr) 11 CookieV.val fun v_3 =>
 storeP w_2 (⟨b_1, 0, none⟩ : Addr) 11 (CookieV.val v_3) fun w_3 =>
 loadP w_3 (⟨b_1, 0, none⟩ : Addr) 11 CookieV.val fun v_4 =>
 R (v_4, (40 : Int)) w_3) (
 cond' (decide ((b.len : Int) > (70 : Int))) (
 loadP w_2 (⟨b_2, 0, none⟩ : Addr) 11 CookieV.val fun v_5 =>
 storeP w_2 (⟨b_1, 0, none⟩ : Addr) 11 (CookieV.val v_5) fun w_4 =>
 loadP w_4 (⟨b_1, 0, none⟩ : Addr) 11 CookieV.val fun v_6 =>
 R (v_6, (41 : Int)) w_4) (
 chkP (leR (38 : Int) (b.cap : Int)) <|
 readP P (convert 22 9 (SlV.val b)) w_2.drew Value.string fun v_7 =>
 callP P 24 #[(SlV.val key), (SlV.val (SlV.sub b (0) (38) b.cap 1))] w_2.drew SlV.val fun r_8 w_5 =>
 Still P (convert 22 9 (SlV.val b)) w_5 (.string v_7) ∧ (
 readP P (convert 22 9 (SlV.val r_8)) w_5 Value.string fun v_9 =>
 cond' (!(v_9.toList == v_7.toList)) (
 loadP w_5 (⟨b_2, 0, none⟩ : Addr) 11 CookieV.val fun v_10 =>
 storeP w_5 (⟨b_1, 0, none⟩ : Addr) 11 (CookieV.val v_10) fun w_6 =>
 loadP w_6 (⟨b_1, 0, none⟩ : Addr) 11 CookieV.val fun v_11 =>
 R (v_11, (90 : Int)) w_6) (
 chkP (inR (25 : Int) b.len) <|
 nilP b.a fun a_12 =>
 loadP w_5 (a_12.add (Int.toNat (25 : Int) * 1)) 1 (Value.int .u8) fun v_13 =>
 cond' (v_13 != (0 : Int)) (
 loadP w_5 (⟨b_2, 0, none⟩ : Addr) 11 CookieV.val fun v_14 =>
 storeP w_5 (⟨b_1, 0, none⟩ : Addr) 11 (CookieV.val v_14) fun w_7 =>
 loadP w_7 (⟨b_1, 0, none⟩ : Addr) 11 CookieV.val fun v_15 =>
 R (v_15, (42 : Int)) w_7) (
 newP w_5 (.cells (TapeV.val ({ B := b, At := 0, Bad := false } : TapeV)).cells 118) fun b_16 w_8 =>
 newP w_8 (.cells (CookieV.val ({ Tag := 0, Peer := 0, Tsn := 0, PeerTsn := 0, Window := 0, Out := 0, In := 0, Features := 0, Made := 0, TieTag := 0, TiePeer := 0 } : CookieV)).cells 36) fun b_17 w_9 =>
 storeP w_9 (⟨b_17, 0, none⟩ : Addr) 11 (CookieV.val ({ Tag := 0, Peer := 0, Tsn := 0, PeerTsn := 0, Window := 0, Out := 0, In := 0, Features := 0, Made := 0, TieTag := 0, TiePeer := 0 } : CookieV)) fun w_10 =>
 callP P 58 #[(.pointer (some (⟨b_16, 0, none⟩ : Addr))), (.int .i64 (4 : Int))] w_10 (Value.int .u64) fun r_18 w_11 =>
 storeP w_11 ((⟨b_17, 0, none⟩ : Addr).add 0) 1 (.int .u32 (IntKind.u32.wrap r_18)) fun w_12 =>
 callP P 58 #[(.pointer (some (⟨b_16, 0, none⟩ : Addr))), (.int .i64 (4 : Int))] w_12 (Value.int .u64) fun r_19 w_13 =>
 storeP w_13 ((⟨b_17, 0, none⟩ : Addr).add 1) 1 (.int .u32 (IntKind.u32.wrap r_19)) fun w_14 =>
 callP P 58 #[(.pointer (some (⟨b_16, 0, none⟩ : Addr))), (.int .i64 (4 : Int))] w_14 (Value.int .u64) fun r_20 w_15 =>
 storeP w_15 ((⟨b_17, 0, none⟩ : Addr).add 2) 1 (.int .u32 (IntKind.u32.wrap r_20)) fun w_16 =>
 callP P 58 #[(.pointer (some (⟨b_16, 0, none⟩ : Addr))), (.int .i64 (4 : Int))] w_16 (Value.int .u64) fun r_21 w_17 =>
 storeP w_17 ((⟨b_17, 0, none⟩ : Addr).add 3) 1 (.int .u32 (IntKind.u32.wrap r_21)) fun w_18 =>
 callP P 58 #[(.pointer (some (⟨b_16, 0, none⟩ : Addr))), (.int .i64 (4 : Int))] w_18 (Value.int .u64) fun r_22 w_19 =>
 storeP w_19 ((⟨b_17, 0, none⟩ : Addr).add 4) 1 (.int .u32 (IntKind.u32.wrap r_22)) fun w_20 =>
 callP P 58 #[(.pointer (some (⟨b_16, 0, none⟩ : Addr))), (.int .i64 (2 : Int))] w_20 (Value.int .u64) fun r_23 w_21 =>
 storeP w_21 ((⟨b_17, 0, none⟩ : Addr).add 5) 1 (.int .u16 (IntKind.u16.wrap r_23)) fun w_22 =>
 callP P 58 #[(.pointer (some (⟨b_16, 0, none⟩ : Addr))), (.int .i64 (2 : Int))] w_22 (Value.int .u64) fun r_24 w_23 =>
 storeP w_23 ((⟨b_17, 0, none⟩ : Addr).add 6) 1 (.int .u16 (IntKind.u16.wrap r_24)) fun w_24 =>
 callP P 58 #[(.pointer (some (⟨b_16, 0, none⟩ : Addr))), (.int .i64 (2 : Int))] w_24 (Value.int .u64) fun r_25 w_25 =>
 storeP w_25 ((⟨b_17, 0, none⟩ : Addr).add 7) 1 (.int .u8 (IntKind.u8.wrap (IntKind.u64.wrap (Int.tdiv r_25 (256 : Int))))) fun w_26 =>
 callP P 58 #[(.pointer (some (⟨b_16, 0, none⟩ : Addr))), (.int .i64 (4 : Int))] w_26 (Value.int .u64) fun r_26 w_27 =>
 storeP w_27 ((⟨b_17, 0, none⟩ : Addr).add 8) 1 (.int .u32 (IntKind.u32.wrap r_26)) fun w_28 =>
 callP P 58 #[(.pointer (some (⟨b_16, 0, none⟩ : Addr))), (.int .i64 (4 : Int))] w_28 (Value.int .u64) fun r_27 w_29 =>
 storeP w_29 ((⟨b_17, 0, none⟩ : Addr).add 9) 1 (.int .u32 (IntKind.u32.wrap r_27)) fun w_30 =>
 callP P 58 #[(.pointer (some (⟨b_16, 0, none⟩ : Addr))), (.int .i64 (4 : Int))] w_30 (Value.int .u64) fun r_28 w_31 =>
 storeP w_31 ((⟨b_17, 0, none⟩ : Addr).add 10) 1 (.int .u32 (IntKind.u32.wrap r_28)) fun w_32 =>
 loadP w_32 ((⟨b_17, 0, none⟩ : Addr).add 8) 1 (Value.int .u32) fun v_29 =>
 callP P 59 #[(.int .u32 v_29), (.int .u32 now)] w_32 (Value.int .u64) fun r_30 w_33 =>
 cond' (decide (r_30 > (600 : Int))) (
 loadP w_33 (⟨b_2, 0, none⟩ : Addr) 11 CookieV.val fun v_31 =>
 storeP w_33 (⟨b_1, 0, none⟩ : Addr) 11 (CookieV.val v_31) fun w_34 =>
 loadP w_34 (⟨b_1, 0, none⟩ : Addr) 11 CookieV.val fun v_32 =>
 R (v_32, (91 : Int)) w_34) (
 loadP w_33 (⟨b_17, 0, none⟩ : Addr) 11 CookieV.val fun v_33 =>
 storeP w_33 (⟨b_1, 0, none⟩ : Addr) 11 (CookieV.val v_33) fun w_35 =>
 loadP w_35 (⟨b_1, 0, none⟩ : Addr) 11 CookieV.val fun v_34 =>
 R (v_34, (0 : Int)) w_35))))))
def an26 : Ann := mkAnn [] []
theorem sf26_eq (key : SlV) (b : SlV) (now : Int) (w0 : World) (R : (CookieV × Int) → World → Prop) : sf26 key b now w0 R = vcFn P sh an26 Try.f26 [(SlV.val key), (SlV.val b), (.int .u32 now)] (shTup2 shCookieV (shInt .i64)) w0 R := by kernel_rfl
theorem nm26 : (Try.f26.name == "runtime.NumGoroutine") = false := by kernel_rfl
theorem sf26_call (key : SlV) (b : SlV) (now : Int) (w0 : World) (R : (CookieV × Int) → World → Prop) (hsf : sf26 key b now w0 R) : callP P 26 #[(SlV.val key), (SlV.val b), (.int .u32 now)] w0 (shTup2 shCookieV (shInt .i64)).val R :=
  vcFn_sound mixed Try.func26 nm26 (Eq.mp (sf26_eq key b now w0 R) hsf)

/-- flume/flumelaw19.first -/
def sf27 (w0 : World) (R : Bool → World → Prop) : Prop :=
 callP P 28 #[(EndV.val ({ Tag := (5 : Int), Tsn := (100 : Int), Window := (9 : Int), Inter := true, Key := ({ data := #[107] } : ByteArray) } : EndV))] w0 (tup2V Value.pointer (Value.int .i64)) fun r_1 w_1 =>
 callP P 28 #[(EndV.val ({ Tag := (6 : Int), Tsn := (200 : Int), Window := (8 : Int), Inter := true, Key := ({ data := #[108] } : ByteArray) } : EndV))] w_1 (tup2V Value.pointer (Value.int .i64)) fun r_2 w_2 =>
 callP P 28 #[(EndV.val ({ Tag := 0, Tsn := 0, Window := 0, Inter := false, Key := ByteArray.empty } : EndV))] w_2 (tup2V Value.pointer (Value.int .i64)) fun r_3 w_3 =>
 cutP (Unit) (fun J_4 =>
 cond' (negB false r_1.1.isNone) (
 R false w_3) (
 cond' (negB false r_2.1.isNone) (
 R false w_3) (
 cond' (r_1.2 != (0 : Int)) (
 R false w_3) (
 cond' (r_2.2 != (0 : Int)) (
 R false w_3) (
 cond' (r_3.2 != (2 : Int)) (
 R false w_3) (
 J_4 () w_3)))))) fun _ _ w_4 =>
 callP P 29 #[(.pointer r_1.1)] w_4 SlV.val fun r_10 w_5 =>
 cutP (Unit) (fun J_11 =>
 loopP (SlV × Int) (r_10, (0 : Int)) w_5 fun next__13 _ s_14 w_7 =>
 cutP (Unit) (fun J_15 =>
 cond' (decide (s_14.2 < (4 : Int))) (
 cond' ((s_14.1.len : Int) == (1 : Int)) (
 J_15 () w_7) (
 J_11 () w_7)) (
 J_11 () w_7)) fun _ _ w_8 =>
 cond' ((Int.tmod s_14.2 (2 : Int)) == (0 : Int)) (
 chkP (inR (0 : Int) s_14.1.len) <|
 nilP s_14.1.a fun a_18 =>
 loadP w_8.drew ((a_18.add (Int.toNat (0 : Int) * 20)).add 0) 1 (Value.int .u32) fun v_19 =>
 chkP (inR (0 : Int) s_14.1.len) <|
 nilP s_14.1.a fun a_20 =>
 loadP w_8.drew ((a_20.add (Int.toNat (0 : Int) * 20)).add 1) 19 ChunkV.val fun v_21 =>
 callP P 30 #[(.pointer r_2.1), (.int .u32 v_19), (ChunkV.val v_21), (.int .u64 (0 : Int))] w_8.drew SlV.val fun r_22 w_9 =>
 next__13 (r_22, (IntKind.i64.wrap (s_14.2 + (1 : Int)))) w_9) (
 chkP (inR (0 : Int) s_14.1.len) <|
 nilP s_14.1.a fun a_23 =>
 loadP w_8.drew ((a_23.add (Int.toNat (0 : Int) * 20)).add 0) 1 (Value.int .u32) fun v_24 =>
 chkP (inR (0 : Int) s_14.1.len) <|
 nilP s_14.1.a fun a_25 =>
 loadP w_8.drew ((a_25.add (Int.toNat (0 : Int) * 20)).add 1) 19 ChunkV.val fun v_26 =>
 callP P 30 #[(.pointer r_1.1), (.int .u32 v_24), (ChunkV.val v_26), (.int .u64 (0 : Int))] w_8.drew SlV.val fun r_27 w_10 =>
 next__13 (r_27, (IntKind.i64.wrap (s_14.2 + (1 : Int)))) w_10)) fun _ _ w_6 =>
 callP P 31 #[(.pointer r_1.1)] w_6 (Value.int .i64) fun r_28 w_11 =>
 cond' (r_28 == (3 : Int)) (
 callP P 31 #[(.pointer r_2.1)] w_11 (Value.int .i64) fun r_30 w_12 =>
 cond' (r_30 == (3 : Int)) (
 callP P 36 #[(.pointer r_1.1)] w_12 MetV.val fun r_32 w_13 =>
 cond' (negB false ((r_32.Tag == (6 : Int)) && ((r_32.Tsn == (200 : Int)) && ((r_32.Window == (8 : Int)) && ((r_32.Inter == true) && true))))) (
 callP P 36 #[(.pointer r_2.1)] w_13 MetV.val fun r_34 w_14 =>
 R (r_34.Tag == (5 : Int)) w_14) (
 R false w_13)) (
 R false w_12)) (
 R false w_11)
def an27 : Ann := mkAnn [(8, [(7, shSl), (8, (shInt .i64))])] [(6, []), (10, []), (13, [])]
theorem sf27_eq (w0 : World) (R : Bool → World → Prop) : sf27 w0 R = vcFn P sh an27 Try.f27 [] shBool w0 R := by kernel_rfl
theorem nm27 : (Try.f27.name == "runtime.NumGoroutine") = false := by kernel_rfl
theorem sf27_call (w0 : World) (R : Bool → World → Prop) (hsf : sf27 w0 R) : callP P 27 #[] w0 shBool.val R :=
  vcFn_sound mixed Try.func27 nm27 (Eq.mp (sf27_eq w0 R) hsf)

/-- flume/shake.New -/
def sf28 (e : EndV) (w0 : World) (R : ((Option Addr) × Int) → World → Prop) : Prop :=
 newP w0 (.cells (EndV.val e).cells 50) fun b_1 w_1 =>
 loadP w_1 ((⟨b_1, 0, none⟩ : Addr).add 0) 1 (Value.int .u32) fun v_2 =>
 cond' (v_2 == (0 : Int)) (
 R (none, (2 : Int)) w_1) (
 loadP w_1 (⟨b_1, 0, none⟩ : Addr) 5 EndV.val fun v_3 =>
 newP w_1 (.cells (PartV.val ({ e := v_3, s := 0, met := ({ Tag := 0, Tsn := 0, Window := 0, Inter := false } : MetV), echo := SlV.nil, tries := 0 } : PartV)).cells 122) fun b_4 w_2 =>
 R ((some (⟨b_4, 0, none⟩ : Addr)), (0 : Int)) w_2)
def an28 : Ann := mkAnn [] []
theorem sf28_eq (e : EndV) (w0 : World) (R : ((Option Addr) × Int) → World → Prop) : sf28 e w0 R = vcFn P sh an28 Try.f28 [(EndV.val e)] (shTup2 shPtr (shInt .i64)) w0 R := by kernel_rfl
theorem nm28 : (Try.f28.name == "runtime.NumGoroutine") = false := by kernel_rfl
theorem sf28_call (e : EndV) (w0 : World) (R : ((Option Addr) × Int) → World → Prop) (hsf : sf28 e w0 R) : callP P 28 #[(EndV.val e)] w0 (shTup2 shPtr (shInt .i64)).val R :=
  vcFn_sound mixed Try.func28 nm28 (Eq.mp (sf28_eq e w0 R) hsf)

/-- (*flume/shake.Part).Connect -/
def sf29 (p : Addr) (w0 : World) (R : SlV → World → Prop) : Prop :=
 loadP w0 (p.add 5) 1 (Value.int .i64) fun v_1 =>
 cond' (v_1 != (0 : Int)) (
 R SlV.nil w0) (
 callP P 60 #[(.pointer (some p)), (.int .i64 (1 : Int))] w0 unitV fun r_2 w_1 =>
 callP P 61 #[(.pointer (some p)), (.int .u8 (1 : Int)), (SlV.val SlV.nil)] w_1 ChunkV.val fun r_3 w_2 =>
 newP w_2 (.cells (NoteV.val ({ Tag := 0, Chunk := r_3 } : NoteV)).cells 59) fun b_4 w_3 =>
 R (SlV.mk (some (⟨b_4, 0, none⟩ : Addr)) 1 1) w_3)
def an29 : Ann := mkAnn [] []
theorem sf29_eq (p : Addr) (w0 : World) (R : SlV → World → Prop) : sf29 p w0 R = vcFn P sh an29 Try.f29 [(.pointer (some p))] shSl w0 R := by kernel_rfl
theorem nm29 : (Try.f29.name == "runtime.NumGoroutine") = false := by kernel_rfl
theorem sf29_call (p : Addr) (w0 : World) (R : SlV → World → Prop) (hsf : sf29 p w0 R) : callP P 29 #[(.pointer (some p))] w0 shSl.val R :=
  vcFn_sound mixed Try.func29 nm29 (Eq.mp (sf29_eq p w0 R) hsf)

/-- (*flume/shake.Part).Hear -/
def sf30 (p : Addr) (tag : Int) (c : ChunkV) (now : Int) (w0 : World) (R : SlV → World → Prop) : Prop :=
 newP w0 (.cells (ChunkV.val c).cells 57) fun b_1 w_1 =>
 cutP (Bool) (fun J_2 =>
 loadP w_1 ((⟨b_1, 0, none⟩ : Addr).add 0) 1 (Value.int .u8) fun v_4 =>
 cond' (v_4 == (1 : Int)) (
 J_2 (tag == (0 : Int)) w_1) (
 J_2 false w_1)) fun _ s_3 w_2 =>
 cond' s_3 (
 loadP w_2 (⟨b_1, 0, none⟩ : Addr) 19 ChunkV.val fun v_6 =>
 callP P 62 #[(.pointer (some p)), (ChunkV.val v_6), (.int .u64 now)] w_2 SlV.val fun r_7 w_3 =>
 R r_7 w_3) (
 cutP (Bool) (fun J_8 =>
 loadP w_2 ((⟨b_1, 0, none⟩ : Addr).add 0) 1 (Value.int .u8) fun v_10 =>
 cond' (v_10 == (6 : Int)) (
 callP P 63 #[(.pointer (some p))] w_2 Value.bool fun r_12 w_5 =>
 cond' r_12 (
 loadP w_5 ((p.add 0).add 0) 1 (Value.int .u32) fun v_14 =>
 cond' (tag == v_14) (
 J_8 true w_5) (
 loadP w_5 ((⟨b_1, 0, none⟩ : Addr).add 4) 1 Value.bool fun v_16 =>
 cond' v_16 (
 loadP w_5 ((p.add 6).add 0) 1 (Value.int .u32) fun v_18 =>
 cond' (tag == v_18) (
 J_8 (tag != (0 : Int)) w_5) (
 J_8 false w_5)) (
 J_8 false w_5))) (
 J_8 false w_5)) (
 J_8 false w_2)) fun _ s_9 w_4 =>
 cond' s_9 (
 callP P 60 #[(.pointer (some p)), (.int .i64 (9 : Int))] w_4 unitV fun r_20 w_6 =>
 R SlV.nil w_6) (
 loadP w_4 ((p.add 0).add 0) 1 (Value.int .u32) fun v_21 =>
 cond' (tag != v_21) (
 R SlV.nil w_4) (
 loadP w_4 ((⟨b_1, 0, none⟩ : Addr).add 0) 1 (Value.int .u8) fun v_22 =>
 cond' (v_22 == (2 : Int)) (
 loadP w_4 (⟨b_1, 0, none⟩ : Addr) 19 ChunkV.val fun v_23 =>
 callP P 64 #[(.pointer (some p)), (ChunkV.val v_23)] w_4 SlV.val fun r_24 w_7 =>
 R r_24 w_7) (
 cond' (v_22 == (10 : Int)) (
 loadP w_4 (⟨b_1, 0, none⟩ : Addr) 19 ChunkV.val fun v_25 =>
 callP P 65 #[(.pointer (some p)), (ChunkV.val v_25), (.int .u64 now)] w_4 SlV.val fun r_26 w_8 =>
 R r_26 w_8) (
 cond' (v_22 == (11 : Int)) (
 loadP w_4 (p.add 5) 1 (Value.int .i64) fun v_27 =>
 cond' (v_27 == (2 : Int)) (
 callP P 60 #[(.pointer (some p)), (.int .i64 (3 : Int))] w_4 unitV fun r_28 w_9 =>
 R SlV.nil w_9) (
 R SlV.nil w_4)) (
 cond' (v_22 == (7 : Int)) (
 loadP w_4 (p.add 5) 1 (Value.int .i64) fun v_29 =>
 cutP (Bool) (fun J_30 =>
 cond' (v_29 == (3 : Int)) (
 J_30 (v_29 == (3 : Int)) w_4) (
 J_30 (v_29 == (4 : Int)) w_4)) fun _ s_31 w_10 =>
 cond' s_31 (
 callP P 60 #[(.pointer (some p)), (.int .i64 (6 : Int))] w_10 unitV fun r_32 w_11 =>
 R SlV.nil w_11) (
 cond' (v_29 == (5 : Int)) (
 callP P 60 #[(.pointer (some p)), (.int .i64 (7 : Int))] w_10 unitV fun r_33 w_12 =>
 callP P 66 #[(.pointer (some p)), (ChunkV.val ({ Kind := (8 : Int), Begin := false, End := false, Loose := false, Bare := false, Tsn := 0, Stream := 0, Mid := 0, Ppid := 0, Frag := 0, Tag := 0, Window := 0, Out := 0, In := 0, Gaps := SlV.nil, Dups := SlV.nil, Skips := SlV.nil, Params := SlV.nil, Body := SlV.nil } : ChunkV))] w_12 SlV.val fun r_34 w_13 =>
 R r_34 w_13) (
 R SlV.nil w_10))) (
 cond' (v_22 == (8 : Int)) (
 loadP w_4 (p.add 5) 1 (Value.int .i64) fun v_35 =>
 cond' (v_35 == (5 : Int)) (
 cond' (v_35 == (5 : Int)) (
 callP P 60 #[(.pointer (some p)), (.int .i64 (8 : Int))] w_4 unitV fun r_36 w_14 =>
 callP P 66 #[(.pointer (some p)), (ChunkV.val ({ Kind := (14 : Int), Begin := false, End := false, Loose := false, Bare := false, Tsn := 0, Stream := 0, Mid := 0, Ppid := 0, Frag := 0, Tag := 0, Window := 0, Out := 0, In := 0, Gaps := SlV.nil, Dups := SlV.nil, Skips := SlV.nil, Params := SlV.nil, Body := SlV.nil } : ChunkV))] w_14 SlV.val fun r_37 w_15 =>
 R r_37 w_15) (
 cond' (v_35 == (8 : Int)) (
 callP P 66 #[(.pointer (some p)), (ChunkV.val ({ Kind := (14 : Int), Begin := false, End := false, Loose := false, Bare := false, Tsn := 0, Stream := 0, Mid := 0, Ppid := 0, Frag := 0, Tag := 0, Window := 0, Out := 0, In := 0, Gaps := SlV.nil, Dups := SlV.nil, Skips := SlV.nil, Params := SlV.nil, Body := SlV.nil } : ChunkV))] w_4 SlV.val fun r_38 w_16 =>
 R r_38 w_16) (
 R SlV.nil w_4))) (
 cond' (v_35 == (7 : Int)) (
 callP P 60 #[(.pointer (some p)), (.int .i64 (8 : Int))] w_4 unitV fun r_39 w_17 =>
 callP P 66 #[(.pointer (some p)), (ChunkV.val ({ Kind := (14 : Int), Begin := false, End := false, Loose := false, Bare := false, Tsn := 0, Stream := 0, Mid := 0, Ppid := 0, Frag := 0, Tag := 0, Window := 0, Out := 0, In := 0, Gaps := SlV.nil, Dups := SlV.nil, Skips := SlV.nil, Params := SlV.nil, Body := SlV.nil } : ChunkV))] w_17 SlV.val fun r_40 w_18 =>
 R r_40 w_18) (
 cond' (v_35 == (8 : Int)) (
 callP P 66 #[(.pointer (some p)), (ChunkV.val ({ Kind := (14 : Int), Begin := false, End := false, Loose := false, Bare := false, Tsn := 0, Stream := 0, Mid := 0, Ppid := 0, Frag := 0, Tag := 0, Window := 0, Out := 0, In := 0, Gaps := SlV.nil, Dups := SlV.nil, Skips := SlV.nil, Params := SlV.nil, Body := SlV.nil } : ChunkV))] w_4 SlV.val fun r_41 w_19 =>
 R r_41 w_19) (
 R SlV.nil w_4)))) (
 cond' (v_22 == (14 : Int)) (
 loadP w_4 (p.add 5) 1 (Value.int .i64) fun v_42 =>
 cond' (v_42 == (7 : Int)) (
 callP P 60 #[(.pointer (some p)), (.int .i64 (8 : Int))] w_4 unitV fun r_43 w_20 =>
 R SlV.nil w_20) (
 R SlV.nil w_4)) (
 R SlV.nil w_4)))))))))
def an30 : Ann := mkAnn [] [(2, [(9, shBool)]), (4, [(21, shBool)]), (20, [(93, shBool)])]
theorem sf30_eq (p : Addr) (tag : Int) (c : ChunkV) (now : Int) (w0 : World) (R : SlV → World → Prop) : sf30 p tag c now w0 R = vcFn P sh an30 Try.f30 [(.pointer (some p)), (.int .u32 tag), (ChunkV.val c), (.int .u64 now)] shSl w0 R := by kernel_rfl
theorem nm30 : (Try.f30.name == "runtime.NumGoroutine") = false := by kernel_rfl
theorem sf30_call (p : Addr) (tag : Int) (c : ChunkV) (now : Int) (w0 : World) (R : SlV → World → Prop) (hsf : sf30 p tag c now w0 R) : callP P 30 #[(.pointer (some p)), (.int .u32 tag), (ChunkV.val c), (.int .u64 now)] w0 shSl.val R :=
  vcFn_sound mixed Try.func30 nm30 (Eq.mp (sf30_eq p tag c now w0 R) hsf)

/-- (*flume/shake.Part).Stage -/
def sf31 (p : Addr) (w0 : World) (R : Int → World → Prop) : Prop :=
 loadP w0 (p.add 5) 1 (Value.int .i64) fun v_1 =>
 R v_1 w0
def an31 : Ann := mkAnn [] []
theorem sf31_eq (p : Addr) (w0 : World) (R : Int → World → Prop) : sf31 p w0 R = vcFn P sh an31 Try.f31 [(.pointer (some p))] (shInt .i64) w0 R := by kernel_rfl
theorem nm31 : (Try.f31.name == "runtime.NumGoroutine") = false := by kernel_rfl
theorem sf31_call (p : Addr) (w0 : World) (R : Int → World → Prop) (hsf : sf31 p w0 R) : callP P 31 #[(.pointer (some p))] w0 (shInt .i64).val R :=
  vcFn_sound mixed Try.func31 nm31 (Eq.mp (sf31_eq p w0 R) hsf)

/-- (*flume/shake.Part).Break -/
def sf32 (p : Addr) (w0 : World) (R : SlV → World → Prop) : Prop :=
 callP P 63 #[(.pointer (some p))] w0 Value.bool fun r_1 w_1 =>
 cond' (!r_1) (
 R SlV.nil w_1) (
 callP P 60 #[(.pointer (some p)), (.int .i64 (9 : Int))] w_1 unitV fun r_2 w_2 =>
 loadP w_2 (p.add 6) 4 MetV.val fun v_3 =>
 newP w_2 (.cells (MetV.val ({ Tag := 0, Tsn := 0, Window := 0, Inter := false } : MetV)).cells 73) fun b_4 w_3 =>
 storeP w_3 (⟨b_4, 0, none⟩ : Addr) 4 (MetV.val v_3) fun w_4 =>
 loadP w_4 (⟨b_4, 0, none⟩ : Addr) 4 MetV.val fun v_5 =>
 loadP w_4 ((⟨b_4, 0, none⟩ : Addr).add 1) 1 (Value.int .u32) fun v_6 =>
 loadP w_4 ((⟨b_4, 0, none⟩ : Addr).add 2) 1 (Value.int .u32) fun v_7 =>
 loadP w_4 ((⟨b_4, 0, none⟩ : Addr).add 3) 1 Value.bool fun v_8 =>
 cond' (negB false ((v_5.Tag == 0) && ((v_5.Tsn == v_6) && ((v_5.Window == v_7) && ((v_5.Inter == v_8) && true))))) (
 R SlV.nil w_4) (
 callP P 66 #[(.pointer (some p)), (ChunkV.val ({ Kind := (6 : Int), Begin := false, End := false, Loose := false, Bare := false, Tsn := 0, Stream := 0, Mid := 0, Ppid := 0, Frag := 0, Tag := 0, Window := 0, Out := 0, In := 0, Gaps := SlV.nil, Dups := SlV.nil, Skips := SlV.nil, Params := SlV.nil, Body := SlV.nil } : ChunkV))] w_4 SlV.val fun r_9 w_5 =>
 R r_9 w_5))
def an32 : Ann := mkAnn [] []
theorem sf32_eq (p : Addr) (w0 : World) (R : SlV → World → Prop) : sf32 p w0 R = vcFn P sh an32 Try.f32 [(.pointer (some p))] shSl w0 R := by kernel_rfl
theorem nm32 : (Try.f32.name == "runtime.NumGoroutine") = false := by kernel_rfl
theorem sf32_call (p : Addr) (w0 : World) (R : SlV → World → Prop) (hsf : sf32 p w0 R) : callP P 32 #[(.pointer (some p))] w0 shSl.val R :=
  vcFn_sound mixed Try.func32 nm32 (Eq.mp (sf32_eq p w0 R) hsf)

/-- (*flume/shake.Part).Shut -/
def sf33 (p : Addr) (w0 : World) (R : Bool → World → Prop) : Prop :=
 loadP w0 (p.add 5) 1 (Value.int .i64) fun v_1 =>
 cond' (v_1 != (3 : Int)) (
 R false w0) (
 callP P 60 #[(.pointer (some p)), (.int .i64 (4 : Int))] w0 unitV fun r_2 w_1 =>
 R true w_1)
def an33 : Ann := mkAnn [] []
theorem sf33_eq (p : Addr) (w0 : World) (R : Bool → World → Prop) : sf33 p w0 R = vcFn P sh an33 Try.f33 [(.pointer (some p))] shBool w0 R := by kernel_rfl
theorem nm33 : (Try.f33.name == "runtime.NumGoroutine") = false := by kernel_rfl
theorem sf33_call (p : Addr) (w0 : World) (R : Bool → World → Prop) (hsf : sf33 p w0 R) : callP P 33 #[(.pointer (some p))] w0 shBool.val R :=
  vcFn_sound mixed Try.func33 nm33 (Eq.mp (sf33_eq p w0 R) hsf)

/-- (*flume/shake.Part).Again -/
def sf34 (p : Addr) (mark : Int) (w0 : World) (R : SlV → World → Prop) : Prop :=
 cutP (SlV) (fun J_1 =>
 loadP w0 (p.add 5) 1 (Value.int .i64) fun v_3 =>
 cond' (v_3 == (1 : Int)) (
 callP P 61 #[(.pointer (some p)), (.int .u8 (1 : Int)), (SlV.val SlV.nil)] w0 ChunkV.val fun r_4 w_2 =>
 newP w_2 (.cells (NoteV.val ({ Tag := 0, Chunk := r_4 } : NoteV)).cells 59) fun b_5 w_3 =>
 J_1 (SlV.mk (some (⟨b_5, 0, none⟩ : Addr)) 1 1) w_3) (
 cond' (v_3 == (2 : Int)) (
 loadP w0 (p.add 10) 1 SlV.val fun v_6 =>
 callP P 38 #[(SlV.val v_6)] w0 SlV.val fun r_7 w_4 =>
 callP P 66 #[(.pointer (some p)), (ChunkV.val ({ Kind := (10 : Int), Begin := false, End := false, Loose := false, Bare := false, Tsn := 0, Stream := 0, Mid := 0, Ppid := 0, Frag := 0, Tag := 0, Window := 0, Out := 0, In := 0, Gaps := SlV.nil, Dups := SlV.nil, Skips := SlV.nil, Params := SlV.nil, Body := r_7 } : ChunkV))] w_4 SlV.val fun r_8 w_5 =>
 J_1 r_8 w_5) (
 cond' (v_3 == (5 : Int)) (
 callP P 66 #[(.pointer (some p)), (ChunkV.val ({ Kind := (7 : Int), Begin := false, End := false, Loose := false, Bare := false, Tsn := mark, Stream := 0, Mid := 0, Ppid := 0, Frag := 0, Tag := 0, Window := 0, Out := 0, In := 0, Gaps := SlV.nil, Dups := SlV.nil, Skips := SlV.nil, Params := SlV.nil, Body := SlV.nil } : ChunkV))] w0 SlV.val fun r_9 w_6 =>
 J_1 r_9 w_6) (
 cond' (v_3 == (7 : Int)) (
 callP P 66 #[(.pointer (some p)), (ChunkV.val ({ Kind := (8 : Int), Begin := false, End := false, Loose := false, Bare := false, Tsn := 0, Stream := 0, Mid := 0, Ppid := 0, Frag := 0, Tag := 0, Window := 0, Out := 0, In := 0, Gaps := SlV.nil, Dups := SlV.nil, Skips := SlV.nil, Params := SlV.nil, Body := SlV.nil } : ChunkV))] w0 SlV.val fun r_10 w_7 =>
 J_1 r_10 w_7) (
 R SlV.nil w0))))) fun _ s_2 w_1 =>
 loadP w_1 (p.add 11) 1 (Value.int .i64) fun v_11 =>
 storeP w_1 (p.add 11) 1 (.int .i64 (IntKind.i64.wrap (v_11 + (1 : Int)))) fun w_8 =>
 loadP w_8 (p.add 11) 1 (Value.int .i64) fun v_12 =>
 cond' (decide (v_12 > (8 : Int))) (
 callP P 60 #[(.pointer (some p)), (.int .i64 (9 : Int))] w_8 unitV fun r_13 w_9 =>
 R SlV.nil w_9) (
 R s_2 w_8)
def an34 : Ann := mkAnn [] [(12, [(5, shSl)])]
theorem sf34_eq (p : Addr) (mark : Int) (w0 : World) (R : SlV → World → Prop) : sf34 p mark w0 R = vcFn P sh an34 Try.f34 [(.pointer (some p)), (.int .u32 mark)] shSl w0 R := by kernel_rfl
theorem nm34 : (Try.f34.name == "runtime.NumGoroutine") = false := by kernel_rfl
theorem sf34_call (p : Addr) (mark : Int) (w0 : World) (R : SlV → World → Prop) (hsf : sf34 p mark w0 R) : callP P 34 #[(.pointer (some p)), (.int .u32 mark)] w0 shSl.val R :=
  vcFn_sound mixed Try.func34 nm34 (Eq.mp (sf34_eq p mark w0 R) hsf)

/-- (*flume/shake.Part).Met -/
def sf36 (p : Addr) (w0 : World) (R : MetV → World → Prop) : Prop :=
 newP w0 (.cells (MetV.val ({ Tag := 0, Tsn := 0, Window := 0, Inter := false } : MetV)).cells 73) fun b_1 w_1 =>
 loadP w_1 (p.add 6) 4 MetV.val fun v_2 =>
 storeP w_1 (⟨b_1, 0, none⟩ : Addr) 4 (MetV.val v_2) fun w_2 =>
 loadP w_2 (⟨b_1, 0, none⟩ : Addr) 4 MetV.val fun v_3 =>
 R v_3 w_2
def an36 : Ann := mkAnn [] []
theorem sf36_eq (p : Addr) (w0 : World) (R : MetV → World → Prop) : sf36 p w0 R = vcFn P sh an36 Try.f36 [(.pointer (some p))] shMetV w0 R := by kernel_rfl
theorem nm36 : (Try.f36.name == "runtime.NumGoroutine") = false := by kernel_rfl
theorem sf36_call (p : Addr) (w0 : World) (R : MetV → World → Prop) (hsf : sf36 p w0 R) : callP P 36 #[(.pointer (some p))] w0 shMetV.val R :=
  vcFn_sound mixed Try.func36 nm36 (Eq.mp (sf36_eq p w0 R) hsf)

/-- (*flume/shake.Part).Idle -/
def sf37 (p : Addr) (mark : Int) (w0 : World) (R : SlV → World → Prop) : Prop :=
 loadP w0 (p.add 5) 1 (Value.int .i64) fun v_1 =>
 cond' (v_1 == (4 : Int)) (
 callP P 60 #[(.pointer (some p)), (.int .i64 (5 : Int))] w0 unitV fun r_2 w_1 =>
 callP P 66 #[(.pointer (some p)), (ChunkV.val ({ Kind := (7 : Int), Begin := false, End := false, Loose := false, Bare := false, Tsn := mark, Stream := 0, Mid := 0, Ppid := 0, Frag := 0, Tag := 0, Window := 0, Out := 0, In := 0, Gaps := SlV.nil, Dups := SlV.nil, Skips := SlV.nil, Params := SlV.nil, Body := SlV.nil } : ChunkV))] w_1 SlV.val fun r_3 w_2 =>
 R r_3 w_2) (
 cond' (v_1 == (6 : Int)) (
 callP P 60 #[(.pointer (some p)), (.int .i64 (7 : Int))] w0 unitV fun r_4 w_3 =>
 callP P 66 #[(.pointer (some p)), (ChunkV.val ({ Kind := (8 : Int), Begin := false, End := false, Loose := false, Bare := false, Tsn := 0, Stream := 0, Mid := 0, Ppid := 0, Frag := 0, Tag := 0, Window := 0, Out := 0, In := 0, Gaps := SlV.nil, Dups := SlV.nil, Skips := SlV.nil, Params := SlV.nil, Body := SlV.nil } : ChunkV))] w_3 SlV.val fun r_5 w_4 =>
 R r_5 w_4) (
 R SlV.nil w0))
def an37 : Ann := mkAnn [] []
theorem sf37_eq (p : Addr) (mark : Int) (w0 : World) (R : SlV → World → Prop) : sf37 p mark w0 R = vcFn P sh an37 Try.f37 [(.pointer (some p)), (.int .u32 mark)] shSl w0 R := by kernel_rfl
theorem nm37 : (Try.f37.name == "runtime.NumGoroutine") = false := by kernel_rfl
theorem sf37_call (p : Addr) (mark : Int) (w0 : World) (R : SlV → World → Prop) (hsf : sf37 p mark w0 R) : callP P 37 #[(.pointer (some p)), (.int .u32 mark)] w0 shSl.val R :=
  vcFn_sound mixed Try.func37 nm37 (Eq.mp (sf37_eq p mark w0 R) hsf)

/-- slices.Clone[[]byte,byte] -/
def sf38 (s : SlV) (w0 : World) (R : SlV → World → Prop) : Prop :=
 cond' (negB false s.a.isNone) (
 R SlV.nil w0) (
 newP w0 (.cells #[] 5) fun b_1 w_1 =>
 runP P (Builtin.append_ #[22, 22] 22 #[(SlV.val (SlV.mk (some (⟨b_1, 0, none⟩ : Addr)) 0 0)), (SlV.val s)]) w_1 SlV.val fun r_2 w_2 =>
 R r_2 w_2)
def an38 : Ann := mkAnn [] []
theorem sf38_eq (s : SlV) (w0 : World) (R : SlV → World → Prop) : sf38 s w0 R = vcFn P sh an38 Try.f38 [(SlV.val s)] shSl w0 R := by kernel_rfl
theorem nm38 : (Try.f38.name == "runtime.NumGoroutine") = false := by kernel_rfl
theorem sf38_call (s : SlV) (w0 : World) (R : SlV → World → Prop) (hsf : sf38 s w0 R) : callP P 38 #[(SlV.val s)] w0 shSl.val R :=
  vcFn_sound mixed Try.func38 nm38 (Eq.mp (sf38_eq s w0 R) hsf)

/-- flume/mac.Seal$1 -/
def sf39 (by_ : Int) (c1 : Addr) (w0 : World) (R : SlV → World → Prop) : Prop :=
 loadP w0 c1 1 SlV.val fun v_1 =>
 callP P 38 #[(SlV.val v_1)] w0 SlV.val fun r_2 w_1 =>
 loopP (Int) (0 : Int) w_1 fun next__3 _ s_4 w_2 =>
 cond' (decide (s_4 < (r_2.len : Int))) (
 chkP (inR s_4 r_2.len) <|
 nilP r_2.a fun a_5 =>
 loadP w_2 (a_5.add (Int.toNat s_4 * 1)) 1 (Value.int .u8) fun v_6 =>
 chkP (inR s_4 r_2.len) <|
 nilP r_2.a fun a_7 =>
 storeP w_2 (a_7.add (Int.toNat s_4 * 1)) 1 (.int .u8 (bits .xor .u8 v_6 by_)) fun w_3 =>
 next__3 (IntKind.i64.wrap (s_4 + (1 : Int))) w_3) (
 R r_2 w_2)
def an39 : Ann := mkAnn [(3, [(10, (shInt .i64))])] []
theorem sf39_eq (by_ : Int) (c1 : Addr) (w0 : World) (R : SlV → World → Prop) : sf39 by_ c1 w0 R = vcFn P sh an39 Try.f39 [(.int .u8 by_), (.pointer (some c1))] shSl w0 R := by kernel_rfl
theorem nm39 : (Try.f39.name == "runtime.NumGoroutine") = false := by kernel_rfl
theorem sf39_call (by_ : Int) (c1 : Addr) (w0 : World) (R : SlV → World → Prop) (hsf : sf39 by_ c1 w0 R) : callP P 39 #[(.int .u8 by_), (.pointer (some c1))] w0 shSl.val R :=
  vcFn_sound mixed Try.func39 nm39 (Eq.mp (sf39_eq by_ c1 w0 R) hsf)

/-- slices.Insert[[][]byte,[]byte] -/
def sf40 (s : SlV) (i : Int) (v : SlV) (w0 : World) (R : SlV → World → Prop) : Prop :=
 chkP (leR (s.len : Int) (s.cap : Int)) <|
 chkP (leR i (s.len : Int)) <|
 cond' ((v.len : Int) == (0 : Int)) (
 R s w0) (
 cond' (i == (s.len : Int)) (
 runP P (Builtin.append_ #[85, 85] 85 #[(SlV.val s), (SlV.val v)]) w0 SlV.val fun r_1 w_1 =>
 R r_1 w_1) (
 cond' (decide ((IntKind.i64.wrap ((s.len : Int) + (v.len : Int))) > (s.cap : Int))) (
 chkP (leR i (s.cap : Int)) <|
 chkP (leR 0 i) <|
 runP P (Builtin.append_ #[85, 3] 85 #[(SlV.val (SlV.sub s (0) (Int.toNat i) s.cap 1)), (.int .i64 (IntKind.i64.wrap ((IntKind.i64.wrap ((s.len : Int) + (v.len : Int))) - i)))]) w0 SlV.val fun r_2 w_2 =>
 chkP (leR (r_2.len : Int) (r_2.cap : Int)) <|
 chkP (leR i (r_2.len : Int)) <|
 runP P (Builtin.copy_ #[85, 85] 3 #[(SlV.val (SlV.sub r_2 (Int.toNat i) (r_2.len) r_2.cap 1)), (SlV.val v)]) w_2 (Value.int .i64) fun r_3 w_3 =>
 chkP (leR (r_2.len : Int) (r_2.cap : Int)) <|
 chkP (leR (IntKind.i64.wrap (i + (v.len : Int))) (r_2.len : Int)) <|
 chkP (leR (s.len : Int) (s.cap : Int)) <|
 chkP (leR i (s.len : Int)) <|
 runP P (Builtin.copy_ #[85, 85] 3 #[(SlV.val (SlV.sub r_2 (Int.toNat (IntKind.i64.wrap (i + (v.len : Int)))) (r_2.len) r_2.cap 1)), (SlV.val (SlV.sub s (Int.toNat i) (s.len) s.cap 1))]) w_3.drew (Value.int .i64) fun r_4 w_4 =>
 R r_2 w_4) (
 chkP (leR (IntKind.i64.wrap ((s.len : Int) + (v.len : Int))) (s.cap : Int)) <|
 chkP (leR 0 (IntKind.i64.wrap ((s.len : Int) + (v.len : Int)))) <|
 chkP (leR ((SlV.sub s (0) (Int.toNat (IntKind.i64.wrap ((s.len : Int) + (v.len : Int)))) s.cap 1).len : Int) ((SlV.sub s (0) (Int.toNat (IntKind.i64.wrap ((s.len : Int) + (v.len : Int)))) s.cap 1).cap : Int)) <|
 chkP (leR (IntKind.i64.wrap (i + (v.len : Int))) ((SlV.sub s (0) (Int.toNat (IntKind.i64.wrap ((s.len : Int) + (v.len : Int)))) s.cap 1).len : Int)) <|
 callP P 68 #[(SlV.val v), (SlV.val (SlV.sub (SlV.sub s (0) (Int.toNat (IntKind.i64.wrap ((s.len : Int) + (v.len : Int)))) s.cap 1) (Int.toNat (IntKind.i64.wrap (i + (v.len : Int)))) ((SlV.sub s (0) (Int.toNat (IntKind.i64.wrap ((s.len : Int) + (v.len : Int)))) s.cap 1).len) ((SlV.sub s (0) (Int.toNat (IntKind.i64.wrap ((s.len : Int) + (v.len : Int)))) s.cap 1).cap) 1))] w0 Value.bool fun r_5 w_5 =>
 cond' (!r_5) (
 chkP (leR ((SlV.sub s (0) (Int.toNat (IntKind.i64.wrap ((s.len : Int) + (v.len : Int)))) s.cap 1).len : Int) ((SlV.sub s (0) (Int.toNat (IntKind.i64.wrap ((s.len : Int) + (v.len : Int)))) s.cap 1).cap : Int)) <|
 chkP (leR (IntKind.i64.wrap (i + (v.len : Int))) ((SlV.sub s (0) (Int.toNat (IntKind.i64.wrap ((s.len : Int) + (v.len : Int)))) s.cap 1).len : Int)) <|
 chkP (leR ((SlV.sub s (0) (Int.toNat (IntKind.i64.wrap ((s.len : Int) + (v.len : Int)))) s.cap 1).len : Int) ((SlV.sub s (0) (Int.toNat (IntKind.i64.wrap ((s.len : Int) + (v.len : Int)))) s.cap 1).cap : Int)) <|
 chkP (leR i ((SlV.sub s (0) (Int.toNat (IntKind.i64.wrap ((s.len : Int) + (v.len : Int)))) s.cap 1).len : Int)) <|
 runP P (Builtin.copy_ #[85, 85] 3 #[(SlV.val (SlV.sub (SlV.sub s (0) (Int.toNat (IntKind.i64.wrap ((s.len : Int) + (v.len : Int)))) s.cap 1) (Int.toNat (IntKind.i64.wrap (i + (v.len : Int)))) ((SlV.sub s (0) (Int.toNat (IntKind.i64.wrap ((s.len : Int) + (v.len : Int)))) s.cap 1).len) ((SlV.sub s (0) (Int.toNat (IntKind.i64.wrap ((s.len : Int) + (v.len : Int)))) s.cap 1).cap) 1)), (SlV.val (SlV.sub (SlV.sub s (0) (Int.toNat (IntKind.i64.wrap ((s.len : Int) + (v.len : Int)))) s.cap 1) (Int.toNat i) ((SlV.sub s (0) (Int.toNat (IntKind.i64.wrap ((s.len : Int) + (v.len : Int)))) s.cap 1).len) ((SlV.sub s (0) (Int.toNat (IntKind.i64.wrap ((s.len : Int) + (v.len : Int)))) s.cap 1).cap) 1))]) w_5.drew (Value.int .i64) fun r_6 w_6 =>
 chkP (leR ((SlV.sub s (0) (Int.toNat (IntKind.i64.wrap ((s.len : Int) + (v.len : Int)))) s.cap 1).len : Int) ((SlV.sub s (0) (Int.toNat (IntKind.i64.wrap ((s.len : Int) + (v.len : Int)))) s.cap 1).cap : Int)) <|
 chkP (leR i ((SlV.sub s (0) (Int.toNat (IntKind.i64.wrap ((s.len : Int) + (v.len : Int)))) s.cap 1).len : Int)) <|
 runP P (Builtin.copy_ #[85, 85] 3 #[(SlV.val (SlV.sub (SlV.sub s (0) (Int.toNat (IntKind.i64.wrap ((s.len : Int) + (v.len : Int)))) s.cap 1) (Int.toNat i) ((SlV.sub s (0) (Int.toNat (IntKind.i64.wrap ((s.len : Int) + (v.len : Int)))) s.cap 1).len) ((SlV.sub s (0) (Int.toNat (IntKind.i64.wrap ((s.len : Int) + (v.len : Int)))) s.cap 1).cap) 1)), (SlV.val v)]) w_6 (Value.int .i64) fun r_7 w_7 =>
 R (SlV.sub s (0) (Int.toNat (IntKind.i64.wrap ((s.len : Int) + (v.len : Int)))) s.cap 1) w_7) (
 chkP (leR ((SlV.sub s (0) (Int.toNat (IntKind.i64.wrap ((s.len : Int) + (v.len : Int)))) s.cap 1).len : Int) ((SlV.sub s (0) (Int.toNat (IntKind.i64.wrap ((s.len : Int) + (v.len : Int)))) s.cap 1).cap : Int)) <|
 chkP (leR (s.len : Int) ((SlV.sub s (0) (Int.toNat (IntKind.i64.wrap ((s.len : Int) + (v.len : Int)))) s.cap 1).len : Int)) <|
 runP P (Builtin.copy_ #[85, 85] 3 #[(SlV.val (SlV.sub (SlV.sub s (0) (Int.toNat (IntKind.i64.wrap ((s.len : Int) + (v.len : Int)))) s.cap 1) (Int.toNat (s.len : Int)) ((SlV.sub s (0) (Int.toNat (IntKind.i64.wrap ((s.len : Int) + (v.len : Int)))) s.cap 1).len) ((SlV.sub s (0) (Int.toNat (IntKind.i64.wrap ((s.len : Int) + (v.len : Int)))) s.cap 1).cap) 1)), (SlV.val v)]) w_5 (Value.int .i64) fun r_8 w_8 =>
 chkP (leR ((SlV.sub s (0) (Int.toNat (IntKind.i64.wrap ((s.len : Int) + (v.len : Int)))) s.cap 1).len : Int) ((SlV.sub s (0) (Int.toNat (IntKind.i64.wrap ((s.len : Int) + (v.len : Int)))) s.cap 1).cap : Int)) <|
 chkP (leR i ((SlV.sub s (0) (Int.toNat (IntKind.i64.wrap ((s.len : Int) + (v.len : Int)))) s.cap 1).len : Int)) <|
 callP P 69 #[(SlV.val (SlV.sub (SlV.sub s (0) (Int.toNat (IntKind.i64.wrap ((s.len : Int) + (v.len : Int)))) s.cap 1) (Int.toNat i) ((SlV.sub s (0) (Int.toNat (IntKind.i64.wrap ((s.len : Int) + (v.len : Int)))) s.cap 1).len) ((SlV.sub s (0) (Int.toNat (IntKind.i64.wrap ((s.len : Int) + (v.len : Int)))) s.cap 1).cap) 1)), (.int .i64 (v.len : Int))] w_8 unitV fun r_9 w_9 =>
 R (SlV.sub s (0) (Int.toNat (IntKind.i64.wrap ((s.len : Int) + (v.len : Int)))) s.cap 1) w_9))))
def an40 : Ann := mkAnn [] []
theorem sf40_eq (s : SlV) (i : Int) (v : SlV) (w0 : World) (R : SlV → World → Prop) : sf40 s i v w0 R = vcFn P sh an40 Try.f40 [(SlV.val s), (.int .i64 i), (SlV.val v)] shSl w0 R := by kernel_rfl
theorem nm40 : (Try.f40.name == "runtime.NumGoroutine") = false := by kernel_rfl
theorem sf40_call (s : SlV) (i : Int) (v : SlV) (w0 : World) (R : SlV → World → Prop) (hsf : sf40 s i v w0 R) : callP P 40 #[(SlV.val s), (.int .i64 i), (SlV.val v)] w0 shSl.val R :=
  vcFn_sound mixed Try.func40 nm40 (Eq.mp (sf40_eq s i v w0 R) hsf)

/-- slices.Clone[[][]byte,[]byte] -/
def sf41 (s : SlV) (w0 : World) (R : SlV → World → Prop) : Prop :=
 cond' (negB false s.a.isNone) (
 R SlV.nil w0) (
 newP w0 (.cells #[] 22) fun b_1 w_1 =>
 runP P (Builtin.append_ #[85, 85] 85 #[(SlV.val (SlV.mk (some (⟨b_1, 0, none⟩ : Addr)) 0 0)), (SlV.val s)]) w_1 SlV.val fun r_2 w_2 =>
 R r_2 w_2)
def an41 : Ann := mkAnn [] []
theorem sf41_eq (s : SlV) (w0 : World) (R : SlV → World → Prop) : sf41 s w0 R = vcFn P sh an41 Try.f41 [(SlV.val s)] shSl w0 R := by kernel_rfl
theorem nm41 : (Try.f41.name == "runtime.NumGoroutine") = false := by kernel_rfl
theorem sf41_call (s : SlV) (w0 : World) (R : SlV → World → Prop) (hsf : sf41 s w0 R) : callP P 41 #[(SlV.val s)] w0 shSl.val R :=
  vcFn_sound mixed Try.func41 nm41 (Eq.mp (sf41_eq s w0 R) hsf)

/-- slices.Concat[[]byte,byte] -/
def sf42 (slices : SlV) (w0 : World) (R : SlV → World → Prop) : Prop :=
 loopP (Int × Int) ((0 : Int), (0 : Int)) w0 fun next__1 _ s_2 w_1 =>
 cond' (decide (s_2.2 < (slices.len : Int))) (
 chkP (inR s_2.2 slices.len) <|
 nilP slices.a fun a_3 =>
 loadP w_1 (a_3.add (Int.toNat s_2.2 * 1)) 1 SlV.val fun v_4 =>
 cond' (decide ((IntKind.i64.wrap (s_2.1 + (v_4.len : Int))) < (0 : Int))) (
 False) (
 next__1 ((IntKind.i64.wrap (s_2.1 + (v_4.len : Int))), (IntKind.i64.wrap (s_2.2 + (1 : Int)))) w_1)) (
 callP P 70 #[(SlV.val SlV.nil), (.int .i64 s_2.1)] w_1 SlV.val fun r_5 w_2 =>
 loopP (SlV × Int) (r_5, (0 : Int)) w_2 fun next__6 _ s_7 w_3 =>
 cond' (decide (s_7.2 < (slices.len : Int))) (
 chkP (inR s_7.2 slices.len) <|
 nilP slices.a fun a_8 =>
 loadP w_3 (a_8.add (Int.toNat s_7.2 * 1)) 1 SlV.val fun v_9 =>
 runP P (Builtin.append_ #[22, 22] 22 #[(SlV.val s_7.1), (SlV.val v_9)]) w_3 SlV.val fun r_10 w_4 =>
 next__6 (r_10, (IntKind.i64.wrap (s_7.2 + (1 : Int)))) w_4) (
 R s_7.1 w_3))
def an42 : Ann := mkAnn [(3, [(3, (shInt .i64)), (11, (shInt .i64))]), (11, [(6, shSl), (27, (shInt .i64))])] []
theorem sf42_eq (slices : SlV) (w0 : World) (R : SlV → World → Prop) : sf42 slices w0 R = vcFn P sh an42 Try.f42 [(SlV.val slices)] shSl w0 R := by kernel_rfl
theorem nm42 : (Try.f42.name == "runtime.NumGoroutine") = false := by kernel_rfl
theorem sf42_call (slices : SlV) (w0 : World) (R : SlV → World → Prop) (hsf : sf42 slices w0 R) : callP P 42 #[(SlV.val slices)] w0 shSl.val R :=
  vcFn_sound mixed Try.func42 nm42 (Eq.mp (sf42_eq slices w0 R) hsf)

/-- slices.Chunk[[]byte,byte] -/
def sf43 (s : SlV) (n : Int) (w0 : World) (R : FnV → World → Prop) : Prop :=
 newP w0 (.cells #[(SlV.val s)] 22) fun b_1 w_1 =>
 newP w_1 (.cells #[(.int .i64 n)] 3) fun b_2 w_2 =>
 loadP w_2 (⟨b_2, 0, none⟩ : Addr) 1 (Value.int .i64) fun v_3 =>
 cond' (decide (v_3 < (1 : Int))) (
 False) (
 R (FnV.mk 71 #[] #[(.pointer (some (⟨b_1, 0, none⟩ : Addr))), (.pointer (some (⟨b_2, 0, none⟩ : Addr)))]) w_2)
def an43 : Ann := mkAnn [] []
theorem sf43_eq (s : SlV) (n : Int) (w0 : World) (R : FnV → World → Prop) : sf43 s n w0 R = vcFn P sh an43 Try.f43 [(SlV.val s), (.int .i64 n)] shFn w0 R := by kernel_rfl
theorem nm43 : (Try.f43.name == "runtime.NumGoroutine") = false := by kernel_rfl
theorem sf43_call (s : SlV) (n : Int) (w0 : World) (R : FnV → World → Prop) (hsf : sf43 s n w0 R) : callP P 43 #[(SlV.val s), (.int .i64 n)] w0 shFn.val R :=
  vcFn_sound mixed Try.func43 nm43 (Eq.mp (sf43_eq s n w0 R) hsf)

/-- (*flume/mac.state).block -/
def sf44 (s : Addr) (b : SlV) (w0 : World) (R : Unit → World → Prop) : Prop :=
 newP w0 (.cells ((arrV .u32) (List.replicate 64 0)).cells 98) fun b_1 w_1 =>
 loopP (Int) (0 : Int) w_1 fun next__2 _ s_3 w_2 =>
 cond' (decide (s_3 < (16 : Int))) (
 chkP (inR (IntKind.i64.wrap ((4 : Int) * s_3)) b.len) <|
 nilP b.a fun a_4 =>
 loadP w_2.drew (a_4.add (Int.toNat (IntKind.i64.wrap ((4 : Int) * s_3)) * 1)) 1 (Value.int .u8) fun v_5 =>
 chkP (inR (IntKind.i64.wrap ((IntKind.i64.wrap ((4 : Int) * s_3)) + (1 : Int))) b.len) <|
 nilP b.a fun a_6 =>
 loadP w_2.drew (a_6.add (Int.toNat (IntKind.i64.wrap ((IntKind.i64.wrap ((4 : Int) * s_3)) + (1 : Int))) * 1)) 1 (Value.int .u8) fun v_7 =>
 chkP (inR (IntKind.i64.wrap ((IntKind.i64.wrap ((4 : Int) * s_3)) + (2 : Int))) b.len) <|
 nilP b.a fun a_8 =>
 loadP w_2.drew (a_8.add (Int.toNat (IntKind.i64.wrap ((IntKind.i64.wrap ((4 : Int) * s_3)) + (2 : Int))) * 1)) 1 (Value.int .u8) fun v_9 =>
 chkP (inR (IntKind.i64.wrap ((IntKind.i64.wrap ((4 : Int) * s_3)) + (3 : Int))) b.len) <|
 nilP b.a fun a_10 =>
 loadP w_2.drew (a_10.add (Int.toNat (IntKind.i64.wrap ((IntKind.i64.wrap ((4 : Int) * s_3)) + (3 : Int))) * 1)) 1 (Value.int .u8) fun v_11 =>
 chkP (inR s_3 64) <|
 storeP w_2.drew ((⟨b_1, 0, none⟩ : Addr).add (Int.toNat s_3 * 1)) 1 (.int .u32 (bits .or .u32 (bits .or .u32 (bits .or .u32 (IntKind.u32.wrap ((IntKind.u32.wrap v_5) * 2 ^ (min (Int.toNat (24 : Int)) IntKind.u32.bits))) (IntKind.u32.wrap ((IntKind.u32.wrap v_7) * 2 ^ (min (Int.toNat (16 : Int)) IntKind.u32.bits)))) (IntKind.u32.wrap ((IntKind.u32.wrap v_9) * 2 ^ (min (Int.toNat (8 : Int)) IntKind.u32.bits)))) (IntKind.u32.wrap v_11))) fun w_3 =>
 next__2 (IntKind.i64.wrap (s_3 + (1 : Int))) w_3) (
 loopP (Int) (16 : Int) w_2 fun next__12 _ s_13 w_4 =>
 cond' (decide (s_13 < (64 : Int))) (
 chkP (inR (IntKind.i64.wrap (s_13 - (2 : Int))) 64) <|
 loadP w_4.drew ((⟨b_1, 0, none⟩ : Addr).add (Int.toNat (IntKind.i64.wrap (s_13 - (2 : Int))) * 1)) 1 (Value.int .u32) fun v_14 =>
 chkP (inR (IntKind.i64.wrap (s_13 - (15 : Int))) 64) <|
 loadP w_4.drew ((⟨b_1, 0, none⟩ : Addr).add (Int.toNat (IntKind.i64.wrap (s_13 - (15 : Int))) * 1)) 1 (Value.int .u32) fun v_15 =>
 chkP (inR (IntKind.i64.wrap (s_13 - (7 : Int))) 64) <|
 loadP w_4.drew.drew ((⟨b_1, 0, none⟩ : Addr).add (Int.toNat (IntKind.i64.wrap (s_13 - (7 : Int))) * 1)) 1 (Value.int .u32) fun v_16 =>
 chkP (inR (IntKind.i64.wrap (s_13 - (16 : Int))) 64) <|
 loadP w_4.drew.drew ((⟨b_1, 0, none⟩ : Addr).add (Int.toNat (IntKind.i64.wrap (s_13 - (16 : Int))) * 1)) 1 (Value.int .u32) fun v_17 =>
 callP P 72 #[(.int .u32 v_14), (.int .i64 (17 : Int))] w_4.drew.drew (Value.int .u32) fun r_18 w_5 =>
 Holds w_5 ((⟨b_1, 0, none⟩ : Addr).add (Int.toNat (IntKind.i64.wrap (s_13 - (16 : Int))) * 1)) 1 (.int .u32 v_17) ∧ (
 Holds w_5 ((⟨b_1, 0, none⟩ : Addr).add (Int.toNat (IntKind.i64.wrap (s_13 - (7 : Int))) * 1)) 1 (.int .u32 v_16) ∧ (
 callP P 72 #[(.int .u32 v_14), (.int .i64 (19 : Int))] w_5 (Value.int .u32) fun r_19 w_6 =>
 Holds w_6 ((⟨b_1, 0, none⟩ : Addr).add (Int.toNat (IntKind.i64.wrap (s_13 - (7 : Int))) * 1)) 1 (.int .u32 v_16) ∧ (
 Holds w_6 ((⟨b_1, 0, none⟩ : Addr).add (Int.toNat (IntKind.i64.wrap (s_13 - (16 : Int))) * 1)) 1 (.int .u32 v_17) ∧ (
 callP P 72 #[(.int .u32 v_15), (.int .i64 (7 : Int))] w_6 (Value.int .u32) fun r_20 w_7 =>
 Holds w_7 ((⟨b_1, 0, none⟩ : Addr).add (Int.toNat (IntKind.i64.wrap (s_13 - (16 : Int))) * 1)) 1 (.int .u32 v_17) ∧ (
 Holds w_7 ((⟨b_1, 0, none⟩ : Addr).add (Int.toNat (IntKind.i64.wrap (s_13 - (7 : Int))) * 1)) 1 (.int .u32 v_16) ∧ (
 callP P 72 #[(.int .u32 v_15), (.int .i64 (18 : Int))] w_7 (Value.int .u32) fun r_21 w_8 =>
 Holds w_8 ((⟨b_1, 0, none⟩ : Addr).add (Int.toNat (IntKind.i64.wrap (s_13 - (7 : Int))) * 1)) 1 (.int .u32 v_16) ∧ (
 Holds w_8 ((⟨b_1, 0, none⟩ : Addr).add (Int.toNat (IntKind.i64.wrap (s_13 - (16 : Int))) * 1)) 1 (.int .u32 v_17) ∧ (
 chkP (inR s_13 64) <|
 storeP w_8 ((⟨b_1, 0, none⟩ : Addr).add (Int.toNat s_13 * 1)) 1 (.int .u32 (IntKind.u32.wrap ((IntKind.u32.wrap ((IntKind.u32.wrap ((bits .xor .u32 (bits .xor .u32 r_18 r_19) (Int.fdiv v_14 (2 ^ (min (Int.toNat (10 : Int)) IntKind.u32.bits)))) + v_16)) + (bits .xor .u32 (bits .xor .u32 r_20 r_21) (Int.fdiv v_15 (2 ^ (min (Int.toNat (3 : Int)) IntKind.u32.bits)))))) + v_17))) fun w_9 =>
 next__12 (IntKind.i64.wrap (s_13 + (1 : Int))) w_9))))))))) (
 loadP w_4 s 8 (arrV .u32) fun v_22 =>
 newP w_4 (.cells ((arrV .u32) (List.replicate 8 0)).cells 92) fun b_23 w_10 =>
 storeP w_10 (⟨b_23, 0, none⟩ : Addr) 8 ((arrV .u32) v_22) fun w_11 =>
 callP P 74 #[] w_11 (arrV .u32) fun r_24 w_12 =>
 newP w_12 (.cells ((arrV .u32) (List.replicate 64 0)).cells 98) fun b_25 w_13 =>
 storeP w_13 (⟨b_25, 0, none⟩ : Addr) 64 ((arrV .u32) r_24) fun w_14 =>
 loopP (Int) (0 : Int) w_14 fun next__26 _ s_27 w_15 =>
 cond' (decide (s_27 < (64 : Int))) (
 loadP w_15 ((⟨b_23, 0, none⟩ : Addr).add (Int.toNat (4 : Int) * 1)) 1 (Value.int .u32) fun v_28 =>
 loadP w_15.drew ((⟨b_23, 0, none⟩ : Addr).add (Int.toNat (7 : Int) * 1)) 1 (Value.int .u32) fun v_29 =>
 loadP w_15.drew ((⟨b_23, 0, none⟩ : Addr).add (Int.toNat (5 : Int) * 1)) 1 (Value.int .u32) fun v_30 =>
 loadP w_15.drew ((⟨b_23, 0, none⟩ : Addr).add (Int.toNat (6 : Int) * 1)) 1 (Value.int .u32) fun v_31 =>
 chkP (inR s_27 64) <|
 loadP w_15.drew ((⟨b_25, 0, none⟩ : Addr).add (Int.toNat s_27 * 1)) 1 (Value.int .u32) fun v_32 =>
 chkP (inR s_27 64) <|
 loadP w_15.drew ((⟨b_1, 0, none⟩ : Addr).add (Int.toNat s_27 * 1)) 1 (Value.int .u32) fun v_33 =>
 callP P 72 #[(.int .u32 v_28), (.int .i64 (6 : Int))] w_15.drew (Value.int .u32) fun r_34 w_16 =>
 Holds w_16 ((⟨b_1, 0, none⟩ : Addr).add (Int.toNat s_27 * 1)) 1 (.int .u32 v_33) ∧ (
 Holds w_16 ((⟨b_25, 0, none⟩ : Addr).add (Int.toNat s_27 * 1)) 1 (.int .u32 v_32) ∧ (
 Holds w_16 ((⟨b_23, 0, none⟩ : Addr).add (Int.toNat (6 : Int) * 1)) 1 (.int .u32 v_31) ∧ (
 Holds w_16 ((⟨b_23, 0, none⟩ : Addr).add (Int.toNat (5 : Int) * 1)) 1 (.int .u32 v_30) ∧ (
 Holds w_16 ((⟨b_23, 0, none⟩ : Addr).add (Int.toNat (7 : Int) * 1)) 1 (.int .u32 v_29) ∧ (
 callP P 72 #[(.int .u32 v_28), (.int .i64 (11 : Int))] w_16 (Value.int .u32) fun r_35 w_17 =>
 Holds w_17 ((⟨b_23, 0, none⟩ : Addr).add (Int.toNat (7 : Int) * 1)) 1 (.int .u32 v_29) ∧ (
 Holds w_17 ((⟨b_23, 0, none⟩ : Addr).add (Int.toNat (5 : Int) * 1)) 1 (.int .u32 v_30) ∧ (
 Holds w_17 ((⟨b_23, 0, none⟩ : Addr).add (Int.toNat (6 : Int) * 1)) 1 (.int .u32 v_31) ∧ (
 Holds w_17 ((⟨b_25, 0, none⟩ : Addr).add (Int.toNat s_27 * 1)) 1 (.int .u32 v_32) ∧ (
 Holds w_17 ((⟨b_1, 0, none⟩ : Addr).add (Int.toNat s_27 * 1)) 1 (.int .u32 v_33) ∧ (
 callP P 72 #[(.int .u32 v_28), (.int .i64 (25 : Int))] w_17 (Value.int .u32) fun r_36 w_18 =>
 Holds w_18 ((⟨b_1, 0, none⟩ : Addr).add (Int.toNat s_27 * 1)) 1 (.int .u32 v_33) ∧ (
 Holds w_18 ((⟨b_25, 0, none⟩ : Addr).add (Int.toNat s_27 * 1)) 1 (.int .u32 v_32) ∧ (
 Holds w_18 ((⟨b_23, 0, none⟩ : Addr).add (Int.toNat (6 : Int) * 1)) 1 (.int .u32 v_31) ∧ (
 Holds w_18 ((⟨b_23, 0, none⟩ : Addr).add (Int.toNat (5 : Int) * 1)) 1 (.int .u32 v_30) ∧ (
 Holds w_18 ((⟨b_23, 0, none⟩ : Addr).add (Int.toNat (7 : Int) * 1)) 1 (.int .u32 v_29) ∧ (
 loadP w_18.drew ((⟨b_23, 0, none⟩ : Addr).add (Int.toNat (0 : Int) * 1)) 1 (Value.int .u32) fun v_37 =>
 loadP w_18.drew ((⟨b_23, 0, none⟩ : Addr).add (Int.toNat (0 : Int) * 1)) 1 (Value.int .u32) fun v_38 =>
 loadP w_18.drew ((⟨b_23, 0, none⟩ : Addr).add (Int.toNat (0 : Int) * 1)) 1 (Value.int .u32) fun v_39 =>
 loadP w_18.drew ((⟨b_23, 0, none⟩ : Addr).add (Int.toNat (0 : Int) * 1)) 1 (Value.int .u32) fun v_40 =>
 loadP w_18.drew ((⟨b_23, 0, none⟩ : Addr).add (Int.toNat (1 : Int) * 1)) 1 (Value.int .u32) fun v_41 =>
 loadP w_18.drew ((⟨b_23, 0, none⟩ : Addr).add (Int.toNat (0 : Int) * 1)) 1 (Value.int .u32) fun v_42 =>
 loadP w_18.drew ((⟨b_23, 0, none⟩ : Addr).add (Int.toNat (2 : Int) * 1)) 1 (Value.int .u32) fun v_43 =>
 loadP w_18.drew ((⟨b_23, 0, none⟩ : Addr).add (Int.toNat (1 : Int) * 1)) 1 (Value.int .u32) fun v_44 =>
 loadP w_18.drew ((⟨b_23, 0, none⟩ : Addr).add (Int.toNat (2 : Int) * 1)) 1 (Value.int .u32) fun v_45 =>
 callP P 72 #[(.int .u32 v_37), (.int .i64 (2 : Int))] w_18.drew (Value.int .u32) fun r_46 w_19 =>
 Holds w_19 ((⟨b_23, 0, none⟩ : Addr).add (Int.toNat (2 : Int) * 1)) 1 (.int .u32 v_45) ∧ (
 Holds w_19 ((⟨b_23, 0, none⟩ : Addr).add (Int.toNat (1 : Int) * 1)) 1 (.int .u32 v_44) ∧ (
 Holds w_19 ((⟨b_23, 0, none⟩ : Addr).add (Int.toNat (2 : Int) * 1)) 1 (.int .u32 v_43) ∧ (
 Holds w_19 ((⟨b_23, 0, none⟩ : Addr).add (Int.toNat (0 : Int) * 1)) 1 (.int .u32 v_42) ∧ (
 Holds w_19 ((⟨b_23, 0, none⟩ : Addr).add (Int.toNat (1 : Int) * 1)) 1 (.int .u32 v_41) ∧ (
 Holds w_19 ((⟨b_23, 0, none⟩ : Addr).add (Int.toNat (0 : Int) * 1)) 1 (.int .u32 v_40) ∧ (
 Holds w_19 ((⟨b_23, 0, none⟩ : Addr).add (Int.toNat (0 : Int) * 1)) 1 (.int .u32 v_39) ∧ (
 Holds w_19 ((⟨b_23, 0, none⟩ : Addr).add (Int.toNat (0 : Int) * 1)) 1 (.int .u32 v_38) ∧ (
 callP P 72 #[(.int .u32 v_38), (.int .i64 (13 : Int))] w_19 (Value.int .u32) fun r_47 w_20 =>
 Holds w_20 ((⟨b_23, 0, none⟩ : Addr).add (Int.toNat (0 : Int) * 1)) 1 (.int .u32 v_39) ∧ (
 Holds w_20 ((⟨b_23, 0, none⟩ : Addr).add (Int.toNat (0 : Int) * 1)) 1 (.int .u32 v_40) ∧ (
 Holds w_20 ((⟨b_23, 0, none⟩ : Addr).add (Int.toNat (1 : Int) * 1)) 1 (.int .u32 v_41) ∧ (
 Holds w_20 ((⟨b_23, 0, none⟩ : Addr).add (Int.toNat (0 : Int) * 1)) 1 (.int .u32 v_42) ∧ (
 Holds w_20 ((⟨b_23, 0, none⟩ : Addr).add (Int.toNat (2 : Int) * 1)) 1 (.int .u32 v_43) ∧ (
 Holds w_20 ((⟨b_23, 0, none⟩ : Addr).add (Int.toNat (1 : Int) * 1)) 1 (.int .u32 v_44) ∧ (
 Holds w_20 ((⟨b_23, 0, none⟩ : Addr).add (Int.toNat (2 : Int) * 1)) 1 (.int .u32 v_45) ∧ (
 callP P 72 #[(.int .u32 v_39), (.int .i64 (22 : Int))] w_20 (Value.int .u32) fun r_48 w_21 =>
 Holds w_21 ((⟨b_23, 0, none⟩ : Addr).add (Int.toNat (2 : Int) * 1)) 1 (.int .u32 v_45) ∧ (
 Holds w_21 ((⟨b_23, 0, none⟩ : Addr).add (Int.toNat (1 : Int) * 1)) 1 (.int .u32 v_44) ∧ (
 Holds w_21 ((⟨b_23, 0, none⟩ : Addr).add (Int.toNat (2 : Int) * 1)) 1 (.int .u32 v_43) ∧ (
 Holds w_21 ((⟨b_23, 0, none⟩ : Addr).add (Int.toNat (0 : Int) * 1)) 1 (.int .u32 v_42) ∧ (
 Holds w_21 ((⟨b_23, 0, none⟩ : Addr).add (Int.toNat (1 : Int) * 1)) 1 (.int .u32 v_41) ∧ (
 Holds w_21 ((⟨b_23, 0, none⟩ : Addr).add (Int.toNat (0 : Int) * 1)) 1 (.int .u32 v_40) ∧ (
 runP P (Builtin.copy_ #[53, 53] 3 #[(SlV.val (arrSub (⟨b_23, 0, none⟩ : Addr) 1 8 8 1)), (SlV.val (arrSub (⟨b_23, 0, none⟩ : Addr) 0 7 8 1))]) w_21.drew (Value.int .i64) fun r_49 w_22 =>
 loadP w_22 ((⟨b_23, 0, none⟩ : Addr).add (Int.toNat (4 : Int) * 1)) 1 (Value.int .u32) fun v_50 =>
 storeP w_22 ((⟨b_23, 0, none⟩ : Addr).add (Int.toNat (4 : Int) * 1)) 1 (.int .u32 (IntKind.u32.wrap (v_50 + (IntKind.u32.wrap ((IntKind.u32.wrap ((IntKind.u32.wrap ((IntKind.u32.wrap (v_29 + (bits .xor .u32 (bits .xor .u32 r_34 r_35) r_36))) + (bits .xor .u32 (bits .and .u32 v_28 v_30) (bits .and .u32 (bits .xor .u32 (if IntKind.u32.signed then -1 else IntKind.u32.max) v_28) v_31)))) + v_32)) + v_33))))) fun w_23 =>
 storeP w_23 ((⟨b_23, 0, none⟩ : Addr).add (Int.toNat (0 : Int) * 1)) 1 (.int .u32 (IntKind.u32.wrap ((IntKind.u32.wrap ((IntKind.u32.wrap ((IntKind.u32.wrap ((IntKind.u32.wrap (v_29 + (bits .xor .u32 (bits .xor .u32 r_34 r_35) r_36))) + (bits .xor .u32 (bits .and .u32 v_28 v_30) (bits .and .u32 (bits .xor .u32 (if IntKind.u32.signed then -1 else IntKind.u32.max) v_28) v_31)))) + v_32)) + v_33)) + (IntKind.u32.wrap ((bits .xor .u32 (bits .xor .u32 r_46 r_47) r_48) + (bits .xor .u32 (bits .xor .u32 (bits .and .u32 v_40 v_41) (bits .and .u32 v_42 v_43)) (bits .and .u32 v_44 v_45))))))) fun w_24 =>
 next__26 (IntKind.i64.wrap (s_27 + (1 : Int))) w_24))))))))))))))))))))))))))))))))))))) (
 loopP (Int) (0 : Int) w_15 fun next__51 _ s_52 w_25 =>
 cond' (decide (s_52 < (8 : Int))) (
 chkP (inR s_52 8) <|
 loadP w_25.drew (s.add (Int.toNat s_52 * 1)) 1 (Value.int .u32) fun v_53 =>
 chkP (inR s_52 8) <|
 loadP w_25.drew ((⟨b_23, 0, none⟩ : Addr).add (Int.toNat s_52 * 1)) 1 (Value.int .u32) fun v_54 =>
 chkP (inR s_52 8) <|
 storeP w_25.drew (s.add (Int.toNat s_52 * 1)) 1 (.int .u32 (IntKind.u32.wrap (v_53 + v_54))) fun w_26 =>
 next__51 (IntKind.i64.wrap (s_52 + (1 : Int))) w_26) (
 R () w_25))))
def an44 : Ann := mkAnn [(2, [(17, (shInt .i64))]), (8, [(7, (shInt .i64))]), (15, [(105, (shInt .i64))]), (25, [(188, (shInt .i64))])] []
theorem sf44_eq (s : Addr) (b : SlV) (w0 : World) (R : Unit → World → Prop) : sf44 s b w0 R = vcFn P sh an44 Try.f44 [(.pointer (some s)), (SlV.val b)] shUnit w0 R := by kernel_rfl
theorem nm44 : (Try.f44.name == "runtime.NumGoroutine") = false := by kernel_rfl
theorem sf44_call (s : Addr) (b : SlV) (w0 : World) (R : Unit → World → Prop) (hsf : sf44 s b w0 R) : callP P 44 #[(.pointer (some s)), (SlV.val b)] w0 shUnit.val R :=
  vcFn_sound mixed Try.func44 nm44 (Eq.mp (sf44_eq s b w0 R) hsf)

/-- flume/flumeref08.turn -/
def sf45 (x : Int) (n : Int) (w0 : World) (R : Int → World → Prop) : Prop :=
 chkP (decide (0 ≤ n)) <|
 chkP (decide (0 ≤ (IntKind.u64.wrap ((32 : Int) - n)))) <|
 R (bits .or .u32 (Int.fdiv x (2 ^ (min (Int.toNat n) IntKind.u32.bits))) (IntKind.u32.wrap (x * 2 ^ (min (Int.toNat (IntKind.u64.wrap ((32 : Int) - n))) IntKind.u32.bits)))) w0
def an45 : Ann := mkAnn [] []
theorem sf45_eq (x : Int) (n : Int) (w0 : World) (R : Int → World → Prop) : sf45 x n w0 R = vcFn P sh an45 Try.f45 [(.int .u32 x), (.int .u64 n)] (shInt .u32) w0 R := by kernel_rfl
theorem nm45 : (Try.f45.name == "runtime.NumGoroutine") = false := by kernel_rfl
theorem sf45_call (x : Int) (n : Int) (w0 : World) (R : Int → World → Prop) (hsf : sf45 x n w0 R) : callP P 45 #[(.int .u32 x), (.int .u64 n)] w0 (shInt .u32).val R :=
  vcFn_sound mixed Try.func45 nm45 (Eq.mp (sf45_eq x n w0 R) hsf)

/-- flume/flumeref08.table -/
def sf46 (t : Int) (w0 : World) (R : Int → World → Prop) : Prop :=
 newP w0 (.cells #[(.int .u32 (1116352408 : Int)), (.int .u32 (1899447441 : Int)), (.int .u32 (3049323471 : Int)), (.int .u32 (3921009573 : Int)), (.int .u32 (961987163 : Int)), (.int .u32 (1508970993 : Int)), (.int .u32 (2453635748 : Int)), (.int .u32 (2870763221 : Int)), (.int .u32 (3624381080 : Int)), (.int .u32 (310598401 : Int)), (.int .u32 (607225278 : Int)), (.int .u32 (1426881987 : Int)), (.int .u32 (1925078388 : Int)), (.int .u32 (2162078206 : Int)), (.int .u32 (2614888103 : Int)), (.int .u32 (3248222580 : Int)), (.int .u32 (3835390401 : Int)), (.int .u32 (4022224774 : Int)), (.int .u32 (264347078 : Int)), (.int .u32 (604807628 : Int)), (.int .u32 (770255983 : Int)), (.int .u32 (1249150122 : Int)), (.int .u32 (1555081692 : Int)), (.int .u32 (1996064986 : Int)), (.int .u32 (2554220882 : Int)), (.int .u32 (2821834349 : Int)), (.int .u32 (2952996808 : Int)), (.int .u32 (3210313671 : Int)), (.int .u32 (3336571891 : Int)), (.int .u32 (3584528711 : Int)), (.int .u32 (113926993 : Int)), (.int .u32 (338241895 : Int)), (.int .u32 (666307205 : Int)), (.int .u32 (773529912 : Int)), (.int .u32 (1294757372 : Int)), (.int .u32 (1396182291 : Int)), (.int .u32 (1695183700 : Int)), (.int .u32 (1986661051 : Int)), (.int .u32 (2177026350 : Int)), (.int .u32 (2456956037 : Int)), (.int .u32 (2730485921 : Int)), (.int .u32 (2820302411 : Int)), (.int .u32 (3259730800 : Int)), (.int .u32 (3345764771 : Int)), (.int .u32 (3516065817 : Int)), (.int .u32 (3600352804 : Int)), (.int .u32 (4094571909 : Int)), (.int .u32 (275423344 : Int)), (.int .u32 (430227734 : Int)), (.int .u32 (506948616 : Int)), (.int .u32 (659060556 : Int)), (.int .u32 (883997877 : Int)), (.int .u32 (958139571 : Int)), (.int .u32 (1322822218 : Int)), (.int .u32 (1537002063 : Int)), (.int .u32 (1747873779 : Int)), (.int .u32 (1955562222 : Int)), (.int .u32 (2024104815 : Int)), (.int .u32 (2227730452 : Int)), (.int .u32 (2361852424 : Int)), (.int .u32 (2428436474 : Int)), (.int .u32 (2756734187 : Int)), (.int .u32 (3204031479 : Int)), (.int .u32 (3329325298 : Int))] 33) fun b_1 w_1 =>
 chkP (inR t 64) <|
 loadP w_1 ((⟨b_1, 0, none⟩ : Addr).add (Int.toNat t * 1)) 1 (Value.int .u32) fun v_2 =>
 R v_2 w_1
def an46 : Ann := mkAnn [] []
theorem sf46_eq (t : Int) (w0 : World) (R : Int → World → Prop) : sf46 t w0 R = vcFn P sh an46 Try.f46 [(.int .i64 t)] (shInt .u32) w0 R := by kernel_rfl
theorem nm46 : (Try.f46.name == "runtime.NumGoroutine") = false := by kernel_rfl
theorem sf46_call (t : Int) (w0 : World) (R : Int → World → Prop) (hsf : sf46 t w0 R) : callP P 46 #[(.int .i64 t)] w0 (shInt .u32).val R :=
  vcFn_sound mixed Try.func46 nm46 (Eq.mp (sf46_eq t w0 R) hsf)

/-- (*flume/octet.Writer).U32 -/
def sf47 (w_ : Addr) (v : Int) (w0 : World) (R : Unit → World → Prop) : Prop :=
 callP P 48 #[(.pointer (some w_)), (.int .u16 (IntKind.u16.wrap (Int.fdiv v (2 ^ (min (Int.toNat (16 : Int)) IntKind.u32.bits)))))] w0 unitV fun r_1 w_1 =>
 callP P 48 #[(.pointer (some w_)), (.int .u16 (IntKind.u16.wrap v))] w_1 unitV fun r_2 w_2 =>
 R () w_2
def an47 : Ann := mkAnn [] []
theorem sf47_eq (w_ : Addr) (v : Int) (w0 : World) (R : Unit → World → Prop) : sf47 w_ v w0 R = vcFn P sh an47 Try.f47 [(.pointer (some w_)), (.int .u32 v)] shUnit w0 R := by kernel_rfl
theorem nm47 : (Try.f47.name == "runtime.NumGoroutine") = false := by kernel_rfl
theorem sf47_call (w_ : Addr) (v : Int) (w0 : World) (R : Unit → World → Prop) (hsf : sf47 w_ v w0 R) : callP P 47 #[(.pointer (some w_)), (.int .u32 v)] w0 shUnit.val R :=
  vcFn_sound mixed Try.func47 nm47 (Eq.mp (sf47_eq w_ v w0 R) hsf)

/-- (*flume/octet.Writer).U16 -/
def sf48 (w_ : Addr) (v : Int) (w0 : World) (R : Unit → World → Prop) : Prop :=
 loadP w0 (w_.add 0) 1 SlV.val fun v_1 =>
 newP w0 (.cells #[(.int .u8 (IntKind.u8.wrap (Int.fdiv v (2 ^ (min (Int.toNat (8 : Int)) IntKind.u16.bits))))), (.int .u8 (IntKind.u8.wrap v))] 5) fun b_2 w_1 =>
 runP P (Builtin.append_ #[22, 22] 22 #[(SlV.val v_1), (SlV.val (SlV.mk (some (⟨b_2, 0, none⟩ : Addr)) 2 2))]) w_1 SlV.val fun r_3 w_2 =>
 storeP w_2 (w_.add 0) 1 (SlV.val r_3) fun w_3 =>
 R () w_3
def an48 : Ann := mkAnn [] []
theorem sf48_eq (w_ : Addr) (v : Int) (w0 : World) (R : Unit → World → Prop) : sf48 w_ v w0 R = vcFn P sh an48 Try.f48 [(.pointer (some w_)), (.int .u16 v)] shUnit w0 R := by kernel_rfl
theorem nm48 : (Try.f48.name == "runtime.NumGoroutine") = false := by kernel_rfl
theorem sf48_call (w_ : Addr) (v : Int) (w0 : World) (R : Unit → World → Prop) (hsf : sf48 w_ v w0 R) : callP P 48 #[(.pointer (some w_)), (.int .u16 v)] w0 shUnit.val R :=
  vcFn_sound mixed Try.func48 nm48 (Eq.mp (sf48_eq w_ v w0 R) hsf)

/-- (*flume/octet.Writer).U8 -/
def sf49 (w_ : Addr) (v : Int) (w0 : World) (R : Unit → World → Prop) : Prop :=
 loadP w0 (w_.add 0) 1 SlV.val fun v_1 =>
 newP w0 (.cells #[(.int .u8 v)] 5) fun b_2 w_1 =>
 runP P (Builtin.append_ #[22, 22] 22 #[(SlV.val v_1), (SlV.val (SlV.mk (some (⟨b_2, 0, none⟩ : Addr)) 1 1))]) w_1 SlV.val fun r_3 w_2 =>
 storeP w_2 (w_.add 0) 1 (SlV.val r_3) fun w_3 =>
 R () w_3
def an49 : Ann := mkAnn [] []
theorem sf49_eq (w_ : Addr) (v : Int) (w0 : World) (R : Unit → World → Prop) : sf49 w_ v w0 R = vcFn P sh an49 Try.f49 [(.pointer (some w_)), (.int .u8 v)] shUnit w0 R := by kernel_rfl
theorem nm49 : (Try.f49.name == "runtime.NumGoroutine") = false := by kernel_rfl
theorem sf49_call (w_ : Addr) (v : Int) (w0 : World) (R : Unit → World → Prop) (hsf : sf49 w_ v w0 R) : callP P 49 #[(.pointer (some w_)), (.int .u8 v)] w0 shUnit.val R :=
  vcFn_sound mixed Try.func49 nm49 (Eq.mp (sf49_eq w_ v w0 R) hsf)

/-- (*flume/octet.Writer).Out -/
def sf50 (w_ : Addr) (w0 : World) (R : SlV → World → Prop) : Prop :=
 loadP w0 (w_.add 0) 1 SlV.val fun v_1 =>
 callP P 38 #[(SlV.val v_1)] w0 SlV.val fun r_2 w_1 =>
 R r_2 w_1
def an50 : Ann := mkAnn [] []
theorem sf50_eq (w_ : Addr) (w0 : World) (R : SlV → World → Prop) : sf50 w_ w0 R = vcFn P sh an50 Try.f50 [(.pointer (some w_))] shSl w0 R := by kernel_rfl
theorem nm50 : (Try.f50.name == "runtime.NumGoroutine") = false := by kernel_rfl
theorem sf50_call (w_ : Addr) (w0 : World) (R : SlV → World → Prop) (hsf : sf50 w_ w0 R) : callP P 50 #[(.pointer (some w_))] w0 shSl.val R :=
  vcFn_sound mixed Try.func50 nm50 (Eq.mp (sf50_eq w_ w0 R) hsf)

/-- (*flume/octet.Writer).Put -/
def sf51 (w_ : Addr) (b : SlV) (w0 : World) (R : Unit → World → Prop) : Prop :=
 loadP w0 (w_.add 0) 1 SlV.val fun v_1 =>
 runP P (Builtin.append_ #[22, 22] 22 #[(SlV.val v_1), (SlV.val b)]) w0 SlV.val fun r_2 w_1 =>
 storeP w_1 (w_.add 0) 1 (SlV.val r_2) fun w_2 =>
 R () w_2
def an51 : Ann := mkAnn [] []
theorem sf51_eq (w_ : Addr) (b : SlV) (w0 : World) (R : Unit → World → Prop) : sf51 w_ b w0 R = vcFn P sh an51 Try.f51 [(.pointer (some w_)), (SlV.val b)] shUnit w0 R := by kernel_rfl
theorem nm51 : (Try.f51.name == "runtime.NumGoroutine") = false := by kernel_rfl
theorem sf51_call (w_ : Addr) (b : SlV) (w0 : World) (R : Unit → World → Prop) (hsf : sf51 w_ b w0 R) : callP P 51 #[(.pointer (some w_)), (SlV.val b)] w0 shUnit.val R :=
  vcFn_sound mixed Try.func51 nm51 (Eq.mp (sf51_eq w_ b w0 R) hsf)

/-- flume/octet.NewReader -/
def sf52 (b : SlV) (w0 : World) (R : (Option Addr) → World → Prop) : Prop :=
 callP P 38 #[(SlV.val b)] w0 SlV.val fun r_1 w_1 =>
 newP w_1 (.cells (ReaderV.val ({ b := r_1, bad := false } : ReaderV)).cells 141) fun b_2 w_2 =>
 R (some (⟨b_2, 0, none⟩ : Addr)) w_2
def an52 : Ann := mkAnn [] []
theorem sf52_eq (b : SlV) (w0 : World) (R : (Option Addr) → World → Prop) : sf52 b w0 R = vcFn P sh an52 Try.f52 [(SlV.val b)] shPtr w0 R := by kernel_rfl
theorem nm52 : (Try.f52.name == "runtime.NumGoroutine") = false := by kernel_rfl
theorem sf52_call (b : SlV) (w0 : World) (R : (Option Addr) → World → Prop) (hsf : sf52 b w0 R) : callP P 52 #[(SlV.val b)] w0 shPtr.val R :=
  vcFn_sound mixed Try.func52 nm52 (Eq.mp (sf52_eq b w0 R) hsf)

/-- (*flume/octet.Reader).U32 -/
def sf53 (r : Addr) (w0 : World) (R : Int → World → Prop) : Prop :=
 callP P 75 #[(.pointer (some r)), (.int .i64 (4 : Int))] w0 (Value.int .u32) fun r_1 w_1 =>
 R r_1 w_1
def an53 : Ann := mkAnn [] []
theorem sf53_eq (r : Addr) (w0 : World) (R : Int → World → Prop) : sf53 r w0 R = vcFn P sh an53 Try.f53 [(.pointer (some r))] (shInt .u32) w0 R := by kernel_rfl
theorem nm53 : (Try.f53.name == "runtime.NumGoroutine") = false := by kernel_rfl
theorem sf53_call (r : Addr) (w0 : World) (R : Int → World → Prop) (hsf : sf53 r w0 R) : callP P 53 #[(.pointer (some r))] w0 (shInt .u32).val R :=
  vcFn_sound mixed Try.func53 nm53 (Eq.mp (sf53_eq r w0 R) hsf)

/-- (*flume/octet.Reader).U16 -/
def sf54 (r : Addr) (w0 : World) (R : Int → World → Prop) : Prop :=
 callP P 75 #[(.pointer (some r)), (.int .i64 (2 : Int))] w0 (Value.int .u32) fun r_1 w_1 =>
 R (IntKind.u16.wrap r_1) w_1
def an54 : Ann := mkAnn [] []
theorem sf54_eq (r : Addr) (w0 : World) (R : Int → World → Prop) : sf54 r w0 R = vcFn P sh an54 Try.f54 [(.pointer (some r))] (shInt .u16) w0 R := by kernel_rfl
theorem nm54 : (Try.f54.name == "runtime.NumGoroutine") = false := by kernel_rfl
theorem sf54_call (r : Addr) (w0 : World) (R : Int → World → Prop) (hsf : sf54 r w0 R) : callP P 54 #[(.pointer (some r))] w0 (shInt .u16).val R :=
  vcFn_sound mixed Try.func54 nm54 (Eq.mp (sf54_eq r w0 R) hsf)

/-- (*flume/octet.Reader).U8 -/
def sf55 (r : Addr) (w0 : World) (R : Int → World → Prop) : Prop :=
 callP P 75 #[(.pointer (some r)), (.int .i64 (1 : Int))] w0 (Value.int .u32) fun r_1 w_1 =>
 R (IntKind.u8.wrap r_1) w_1
def an55 : Ann := mkAnn [] []
theorem sf55_eq (r : Addr) (w0 : World) (R : Int → World → Prop) : sf55 r w0 R = vcFn P sh an55 Try.f55 [(.pointer (some r))] (shInt .u8) w0 R := by kernel_rfl
theorem nm55 : (Try.f55.name == "runtime.NumGoroutine") = false := by kernel_rfl
theorem sf55_call (r : Addr) (w0 : World) (R : Int → World → Prop) (hsf : sf55 r w0 R) : callP P 55 #[(.pointer (some r))] w0 (shInt .u8).val R :=
  vcFn_sound mixed Try.func55 nm55 (Eq.mp (sf55_eq r w0 R) hsf)

/-- flume/serial.Dist -/
def sf56 (a : Int) (b : Int) (w0 : World) (R : Int → World → Prop) : Prop :=
 R (IntKind.u32.wrap (b - a)) w0
def an56 : Ann := mkAnn [] []
theorem sf56_eq (a : Int) (b : Int) (w0 : World) (R : Int → World → Prop) : sf56 a b w0 R = vcFn P sh an56 Try.f56 [(.int .u32 a), (.int .u32 b)] (shInt .u32) w0 R := by kernel_rfl
theorem nm56 : (Try.f56.name == "runtime.NumGoroutine") = false := by kernel_rfl
theorem sf56_call (a : Int) (b : Int) (w0 : World) (R : Int → World → Prop) (hsf : sf56 a b w0 R) : callP P 56 #[(.int .u32 a), (.int .u32 b)] w0 (shInt .u32).val R :=
  vcFn_sound mixed Try.func56 nm56 (Eq.mp (sf56_eq a b w0 R) hsf)

/-- flume/flumeref04.Text -/
def sf57 (v : Int) (n : Int) (w0 : World) (R : SlV → World → Prop) : Prop :=
 loopP (SlV × Int) (SlV.nil, (IntKind.i64.wrap (n - (1 : Int)))) w0 fun next__1 _ s_2 w_1 =>
 cond' (decide (s_2.2 ≥ (0 : Int))) (
 chkP (decide (0 ≤ (IntKind.u64.wrap (IntKind.i64.wrap ((8 : Int) * s_2.2))))) <|
 newP w_1 (.cells #[(.int .u8 (IntKind.u8.wrap (Int.fdiv v (2 ^ (min (Int.toNat (IntKind.u64.wrap (IntKind.i64.wrap ((8 : Int) * s_2.2)))) IntKind.u64.bits)))))] 5) fun b_3 w_2 =>
 runP P (Builtin.append_ #[22, 22] 22 #[(SlV.val s_2.1), (SlV.val (SlV.mk (some (⟨b_3, 0, none⟩ : Addr)) 1 1))]) w_2 SlV.val fun r_4 w_3 =>
 next__1 (r_4, (IntKind.i64.wrap (s_2.2 - (1 : Int)))) w_3) (
 R s_2.1 w_1)
def an57 : Ann := mkAnn [(3, [(5, shSl), (6, (shInt .i64))])] []
theorem sf57_eq (v : Int) (n : Int) (w0 : World) (R : SlV → World → Prop) : sf57 v n w0 R = vcFn P sh an57 Try.f57 [(.int .u64 v), (.int .i64 n)] shSl w0 R := by kernel_rfl
theorem nm57 : (Try.f57.name == "runtime.NumGoroutine") = false := by kernel_rfl
theorem sf57_call (v : Int) (n : Int) (w0 : World) (R : SlV → World → Prop) (hsf : sf57 v n w0 R) : callP P 57 #[(.int .u64 v), (.int .i64 n)] w0 shSl.val R :=
  vcFn_sound mixed Try.func57 nm57 (Eq.mp (sf57_eq v n w0 R) hsf)

/-- (*flume/flumeref04.Tape).Num -/
def sf58 (t : Addr) (n : Int) (w0 : World) (R : Int → World → Prop) : Prop :=
 callP P 76 #[(.pointer (some t)), (.int .i64 n)] w0 SlV.val fun r_1 w_1 =>
 loopP (Int × Int) ((0 : Int), (0 : Int)) w_1 fun next__2 _ s_3 w_2 =>
 cond' (decide (s_3.2 < (r_1.len : Int))) (
 chkP (inR s_3.2 r_1.len) <|
 nilP r_1.a fun a_4 =>
 loadP w_2 (a_4.add (Int.toNat s_3.2 * 1)) 1 (Value.int .u8) fun v_5 =>
 next__2 ((IntKind.u64.wrap ((IntKind.u64.wrap ((256 : Int) * s_3.1)) + (IntKind.u64.wrap v_5))), (IntKind.i64.wrap (s_3.2 + (1 : Int)))) w_2) (
 R s_3.1 w_2)
def an58 : Ann := mkAnn [(3, [(5, (shInt .u64)), (12, (shInt .i64))])] []
theorem sf58_eq (t : Addr) (n : Int) (w0 : World) (R : Int → World → Prop) : sf58 t n w0 R = vcFn P sh an58 Try.f58 [(.pointer (some t)), (.int .i64 n)] (shInt .u64) w0 R := by kernel_rfl
theorem nm58 : (Try.f58.name == "runtime.NumGoroutine") = false := by kernel_rfl
theorem sf58_call (t : Addr) (n : Int) (w0 : World) (R : Int → World → Prop) (hsf : sf58 t n w0 R) : callP P 58 #[(.pointer (some t)), (.int .i64 n)] w0 (shInt .u64).val R :=
  vcFn_sound mixed Try.func58 nm58 (Eq.mp (sf58_eq t n w0 R) hsf)

/-- flume/flumeref01.Dist -/
def sf59 (a : Int) (b : Int) (w0 : World) (R : Int → World → Prop) : Prop :=
 cond' (decide ((IntKind.u64.wrap b) < (IntKind.u64.wrap a))) (
 R (IntKind.u64.wrap ((IntKind.u64.wrap ((IntKind.u64.wrap b) + (4294967296 : Int))) - (IntKind.u64.wrap a))) w0) (
 R (IntKind.u64.wrap ((IntKind.u64.wrap b) - (IntKind.u64.wrap a))) w0)
def an59 : Ann := mkAnn [] []
theorem sf59_eq (a : Int) (b : Int) (w0 : World) (R : Int → World → Prop) : sf59 a b w0 R = vcFn P sh an59 Try.f59 [(.int .u32 a), (.int .u32 b)] (shInt .u64) w0 R := by kernel_rfl
theorem nm59 : (Try.f59.name == "runtime.NumGoroutine") = false := by kernel_rfl
theorem sf59_call (a : Int) (b : Int) (w0 : World) (R : Int → World → Prop) (hsf : sf59 a b w0 R) : callP P 59 #[(.int .u32 a), (.int .u32 b)] w0 (shInt .u64).val R :=
  vcFn_sound mixed Try.func59 nm59 (Eq.mp (sf59_eq a b w0 R) hsf)

end Go.Vc.SA

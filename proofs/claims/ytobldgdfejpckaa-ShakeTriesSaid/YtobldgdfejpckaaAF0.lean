/-
  What functions of the program come to, read off their code. No condition.
-/
import Derived.Test.YtobldgdfejpckaaASh
set_option linter.all false
set_option linter.unusedVariables false
set_option maxRecDepth 100000
namespace Go.Vc.SA
open Go.Proofs
/-- flume/flumelaw08.MacSeals -/
def sf3 (key : SlV) (b : SlV) (cut : Int) (w0 : World) (R : Bool → World → Prop) : Prop :=
 callP P 15 #[] w0 Value.bool fun r_1 w_1 =>
 cond' (!r_1) (
 R false w_1) (
 chkP (leR (if (400 : Int) < (key.len : Int) then (400 : Int) else (key.len : Int)) (key.cap : Int)) <|
 chkP (leR 0 (if (400 : Int) < (key.len : Int) then (400 : Int) else (key.len : Int))) <|
 chkP (leR (if (800 : Int) < (b.len : Int) then (800 : Int) else (b.len : Int)) (b.cap : Int)) <|
 chkP (leR 0 (if (800 : Int) < (b.len : Int) then (800 : Int) else (b.len : Int))) <|
 newP w_1.drew (.cells #[] 5) fun b_2 w_2 =>
 runP P (Builtin.append_ #[22, 22] 22 #[(SlV.val (SlV.mk (some (⟨b_2, 0, none⟩ : Addr)) 0 0)), (SlV.val (SlV.sub key (0) (Int.toNat (if (400 : Int) < (key.len : Int) then (400 : Int) else (key.len : Int))) key.cap 1))]) w_2 SlV.val fun r_3 w_3 =>
 chkP (decide ((IntKind.u64.wrap (IntKind.i64.wrap (((SlV.sub b (0) (Int.toNat (if (800 : Int) < (b.len : Int) then (800 : Int) else (b.len : Int))) b.cap 1).len : Int) + (1 : Int)))) ≠ 0)) <|
 chkP (leR (IntKind.i64.wrap (Int.tmod (IntKind.u64.wrap cut) (IntKind.u64.wrap (IntKind.i64.wrap (((SlV.sub b (0) (Int.toNat (if (800 : Int) < (b.len : Int) then (800 : Int) else (b.len : Int))) b.cap 1).len : Int) + (1 : Int)))))) ((SlV.sub b (0) (Int.toNat (if (800 : Int) < (b.len : Int) then (800 : Int) else (b.len : Int))) b.cap 1).cap : Int)) <|
 chkP (leR 0 (IntKind.i64.wrap (Int.tmod (IntKind.u64.wrap cut) (IntKind.u64.wrap (IntKind.i64.wrap (((SlV.sub b (0) (Int.toNat (if (800 : Int) < (b.len : Int) then (800 : Int) else (b.len : Int))) b.cap 1).len : Int) + (1 : Int))))))) <|
 chkP (leR ((SlV.sub b (0) (Int.toNat (if (800 : Int) < (b.len : Int) then (800 : Int) else (b.len : Int))) b.cap 1).len : Int) ((SlV.sub b (0) (Int.toNat (if (800 : Int) < (b.len : Int) then (800 : Int) else (b.len : Int))) b.cap 1).cap : Int)) <|
 chkP (leR (IntKind.i64.wrap (Int.tmod (IntKind.u64.wrap cut) (IntKind.u64.wrap (IntKind.i64.wrap (((SlV.sub b (0) (Int.toNat (if (800 : Int) < (b.len : Int) then (800 : Int) else (b.len : Int))) b.cap 1).len : Int) + (1 : Int)))))) ((SlV.sub b (0) (Int.toNat (if (800 : Int) < (b.len : Int) then (800 : Int) else (b.len : Int))) b.cap 1).len : Int)) <|
 (
 newP w_3.drew (.cells #[(SlV.val (SlV.sub (SlV.sub b (0) (Int.toNat (if (800 : Int) < (b.len : Int) then (800 : Int) else (b.len : Int))) b.cap 1) (0) (Int.toNat (IntKind.i64.wrap (Int.tmod (IntKind.u64.wrap cut) (IntKind.u64.wrap (IntKind.i64.wrap (((SlV.sub b (0) (Int.toNat (if (800 : Int) < (b.len : Int) then (800 : Int) else (b.len : Int))) b.cap 1).len : Int) + (1 : Int))))))) ((SlV.sub b (0) (Int.toNat (if (800 : Int) < (b.len : Int) then (800 : Int) else (b.len : Int))) b.cap 1).cap) 1)), (SlV.val (SlV.sub (SlV.sub b (0) (Int.toNat (if (800 : Int) < (b.len : Int) then (800 : Int) else (b.len : Int))) b.cap 1) (Int.toNat (IntKind.i64.wrap (Int.tmod (IntKind.u64.wrap cut) (IntKind.u64.wrap (IntKind.i64.wrap (((SlV.sub b (0) (Int.toNat (if (800 : Int) < (b.len : Int) then (800 : Int) else (b.len : Int))) b.cap 1).len : Int) + (1 : Int))))))) ((SlV.sub b (0) (Int.toNat (if (800 : Int) < (b.len : Int) then (800 : Int) else (b.len : Int))) b.cap 1).len) ((SlV.sub b (0) (Int.toNat (if (800 : Int) < (b.len : Int) then (800 : Int) else (b.len : Int))) b.cap 1).cap) 1))] 22) fun b_4 w_4 =>
 (
 callP P 16 #[(SlV.val r_3), (SlV.val (SlV.mk (some (⟨b_4, 0, none⟩ : Addr)) 2 2))] w_4 (arrV .u8) fun r_5 w_5 =>
 newP w_5 (.cells ((arrV .u8) (List.replicate 32 0)).cells 25) fun b_6 w_6 =>
 storeP w_6 (⟨b_6, 0, none⟩ : Addr) 32 ((arrV .u8) r_5) fun w_7 =>
 chkP (leR (IntKind.i64.wrap (Int.tmod (IntKind.u64.wrap cut) (IntKind.u64.wrap (IntKind.i64.wrap (((SlV.sub b (0) (Int.toNat (if (800 : Int) < (b.len : Int) then (800 : Int) else (b.len : Int))) b.cap 1).len : Int) + (1 : Int)))))) ((SlV.sub b (0) (Int.toNat (if (800 : Int) < (b.len : Int) then (800 : Int) else (b.len : Int))) b.cap 1).cap : Int)) <|
 chkP (leR 0 (IntKind.i64.wrap (Int.tmod (IntKind.u64.wrap cut) (IntKind.u64.wrap (IntKind.i64.wrap (((SlV.sub b (0) (Int.toNat (if (800 : Int) < (b.len : Int) then (800 : Int) else (b.len : Int))) b.cap 1).len : Int) + (1 : Int))))))) <|
 chkP (leR ((SlV.sub b (0) (Int.toNat (if (800 : Int) < (b.len : Int) then (800 : Int) else (b.len : Int))) b.cap 1).len : Int) ((SlV.sub b (0) (Int.toNat (if (800 : Int) < (b.len : Int) then (800 : Int) else (b.len : Int))) b.cap 1).cap : Int)) <|
 chkP (leR (IntKind.i64.wrap (Int.tmod (IntKind.u64.wrap cut) (IntKind.u64.wrap (IntKind.i64.wrap (((SlV.sub b (0) (Int.toNat (if (800 : Int) < (b.len : Int) then (800 : Int) else (b.len : Int))) b.cap 1).len : Int) + (1 : Int)))))) ((SlV.sub b (0) (Int.toNat (if (800 : Int) < (b.len : Int) then (800 : Int) else (b.len : Int))) b.cap 1).len : Int)) <|
 (
 newP w_7.drew (.cells #[(SlV.val (SlV.sub (SlV.sub b (0) (Int.toNat (if (800 : Int) < (b.len : Int) then (800 : Int) else (b.len : Int))) b.cap 1) (0) (Int.toNat (IntKind.i64.wrap (Int.tmod (IntKind.u64.wrap cut) (IntKind.u64.wrap (IntKind.i64.wrap (((SlV.sub b (0) (Int.toNat (if (800 : Int) < (b.len : Int) then (800 : Int) else (b.len : Int))) b.cap 1).len : Int) + (1 : Int))))))) ((SlV.sub b (0) (Int.toNat (if (800 : Int) < (b.len : Int) then (800 : Int) else (b.len : Int))) b.cap 1).cap) 1)), (SlV.val SlV.nil), (SlV.val (SlV.sub (SlV.sub b (0) (Int.toNat (if (800 : Int) < (b.len : Int) then (800 : Int) else (b.len : Int))) b.cap 1) (Int.toNat (IntKind.i64.wrap (Int.tmod (IntKind.u64.wrap cut) (IntKind.u64.wrap (IntKind.i64.wrap (((SlV.sub b (0) (Int.toNat (if (800 : Int) < (b.len : Int) then (800 : Int) else (b.len : Int))) b.cap 1).len : Int) + (1 : Int))))))) ((SlV.sub b (0) (Int.toNat (if (800 : Int) < (b.len : Int) then (800 : Int) else (b.len : Int))) b.cap 1).len) ((SlV.sub b (0) (Int.toNat (if (800 : Int) < (b.len : Int) then (800 : Int) else (b.len : Int))) b.cap 1).cap) 1))] 22) fun b_7 w_8 =>
 (
 callP P 17 #[(SlV.val (SlV.mk (some (⟨b_7, 0, none⟩ : Addr)) 3 3))] w_8 (arrV .u8) fun r_8 w_9 =>
 newP w_9 (.cells ((arrV .u8) (List.replicate 32 0)).cells 25) fun b_9 w_10 =>
 storeP w_10 (⟨b_9, 0, none⟩ : Addr) 32 ((arrV .u8) r_8) fun w_11 =>
 readP P (convert 22 9 (SlV.val r_3)) w_11.drew Value.string fun v_10 =>
 readP P (convert 22 9 (SlV.val (SlV.sub key (0) (Int.toNat (if (400 : Int) < (key.len : Int) then (400 : Int) else (key.len : Int))) key.cap 1))) w_11.drew Value.string fun v_11 =>
 cond' (v_10.toList == v_11.toList) (
 loadP w_11.drew (⟨b_6, 0, none⟩ : Addr) 32 (arrV .u8) fun v_13 =>
 callP P 18 #[(SlV.val (SlV.sub key (0) (Int.toNat (if (400 : Int) < (key.len : Int) then (400 : Int) else (key.len : Int))) key.cap 1)), (SlV.val (SlV.sub b (0) (Int.toNat (if (800 : Int) < (b.len : Int) then (800 : Int) else (b.len : Int))) b.cap 1))] w_11.drew (arrV .u8) fun r_14 w_12 =>
 Holds w_12 (⟨b_6, 0, none⟩ : Addr) 32 ((arrV .u8) v_13) ∧ (
 eqArrP 32 .u8 ((arrV .u8) v_13) ((arrV .u8) r_14) fun b_15 =>
 cond' (negB false b_15) (
 loadP w_12 (⟨b_9, 0, none⟩ : Addr) 32 (arrV .u8) fun v_17 =>
 callP P 19 #[(SlV.val (SlV.sub b (0) (Int.toNat (if (800 : Int) < (b.len : Int) then (800 : Int) else (b.len : Int))) b.cap 1))] w_12 (arrV .u8) fun r_18 w_13 =>
 Holds w_13 (⟨b_9, 0, none⟩ : Addr) 32 ((arrV .u8) v_17) ∧ (
 eqArrP 32 .u8 ((arrV .u8) v_17) ((arrV .u8) r_18) fun b_19 =>
 cond' (negB false b_19) (
 loadP w_13 (⟨b_6, 0, none⟩ : Addr) 32 (arrV .u8) fun v_21 =>
 callP P 18 #[(SlV.val (SlV.sub key (0) (Int.toNat (if (400 : Int) < (key.len : Int) then (400 : Int) else (key.len : Int))) key.cap 1)), (SlV.val (SlV.sub b (0) (Int.toNat (if (800 : Int) < (b.len : Int) then (800 : Int) else (b.len : Int))) b.cap 1))] w_13 (arrV .u8) fun r_22 w_14 =>
 Holds w_14 (⟨b_6, 0, none⟩ : Addr) 32 ((arrV .u8) v_21) ∧ (
 callP P 20 #[((arrV .u8) v_21), ((arrV .u8) r_22)] w_14 Value.bool fun r_23 w_15 =>
 cond' r_23 (
 loadP w_15 (⟨b_6, 0, none⟩ : Addr) 32 (arrV .u8) fun v_25 =>
 loadP w_15 (⟨b_9, 0, none⟩ : Addr) 32 (arrV .u8) fun v_26 =>
 loadP w_15 (⟨b_6, 0, none⟩ : Addr) 32 (arrV .u8) fun v_27 =>
 loadP w_15 (⟨b_9, 0, none⟩ : Addr) 32 (arrV .u8) fun v_28 =>
 eqArrP 32 .u8 ((arrV .u8) v_27) ((arrV .u8) v_28) fun b_29 =>
 callP P 20 #[((arrV .u8) v_25), ((arrV .u8) v_26)] w_15 Value.bool fun r_30 w_16 =>
 Holds w_16 (⟨b_9, 0, none⟩ : Addr) 32 ((arrV .u8) v_28) ∧ (
 Holds w_16 (⟨b_6, 0, none⟩ : Addr) 32 ((arrV .u8) v_27) ∧ (
 R (negB false (r_30 == (negB false b_29))) w_16))) (
 R false w_15))) (
 R false w_13))) (
 R false w_12))) (
 R false w_11.drew)) ∧ (
 newP w_8 (.cells ((arrV .u8) (List.replicate 32 0)).cells 25) fun b_31 w_17 =>
 callP P 17 #[(SlV.val (SlV.mk (some (⟨b_7, 0, none⟩ : Addr)) 3 3))] w_17 (arrV .u8) fun r_32 w_18 =>
 storeP w_18 (⟨b_31, 0, none⟩ : Addr) 32 ((arrV .u8) r_32) fun w_19 =>
 readP P (convert 22 9 (SlV.val r_3)) w_19.drew Value.string fun v_33 =>
 readP P (convert 22 9 (SlV.val (SlV.sub key (0) (Int.toNat (if (400 : Int) < (key.len : Int) then (400 : Int) else (key.len : Int))) key.cap 1))) w_19.drew Value.string fun v_34 =>
 cond' (v_33.toList == v_34.toList) (
 loadP w_19.drew (⟨b_6, 0, none⟩ : Addr) 32 (arrV .u8) fun v_36 =>
 callP P 18 #[(SlV.val (SlV.sub key (0) (Int.toNat (if (400 : Int) < (key.len : Int) then (400 : Int) else (key.len : Int))) key.cap 1)), (SlV.val (SlV.sub b (0) (Int.toNat (if (800 : Int) < (b.len : Int) then (800 : Int) else (b.len : Int))) b.cap 1))] w_19.drew (arrV .u8) fun r_37 w_20 =>
 Holds w_20 (⟨b_6, 0, none⟩ : Addr) 32 ((arrV .u8) v_36) ∧ (
 eqArrP 32 .u8 ((arrV .u8) v_36) ((arrV .u8) r_37) fun b_38 =>
 cond' (negB false b_38) (
 loadP w_20 (⟨b_31, 0, none⟩ : Addr) 32 (arrV .u8) fun v_40 =>
 callP P 19 #[(SlV.val (SlV.sub b (0) (Int.toNat (if (800 : Int) < (b.len : Int) then (800 : Int) else (b.len : Int))) b.cap 1))] w_20 (arrV .u8) fun r_41 w_21 =>
 Holds w_21 (⟨b_31, 0, none⟩ : Addr) 32 ((arrV .u8) v_40) ∧ (
 eqArrP 32 .u8 ((arrV .u8) v_40) ((arrV .u8) r_41) fun b_42 =>
 cond' (negB false b_42) (
 loadP w_21 (⟨b_6, 0, none⟩ : Addr) 32 (arrV .u8) fun v_44 =>
 callP P 18 #[(SlV.val (SlV.sub key (0) (Int.toNat (if (400 : Int) < (key.len : Int) then (400 : Int) else (key.len : Int))) key.cap 1)), (SlV.val (SlV.sub b (0) (Int.toNat (if (800 : Int) < (b.len : Int) then (800 : Int) else (b.len : Int))) b.cap 1))] w_21 (arrV .u8) fun r_45 w_22 =>
 Holds w_22 (⟨b_6, 0, none⟩ : Addr) 32 ((arrV .u8) v_44) ∧ (
 callP P 20 #[((arrV .u8) v_44), ((arrV .u8) r_45)] w_22 Value.bool fun r_46 w_23 =>
 cond' r_46 (
 loadP w_23 (⟨b_6, 0, none⟩ : Addr) 32 (arrV .u8) fun v_48 =>
 loadP w_23 (⟨b_31, 0, none⟩ : Addr) 32 (arrV .u8) fun v_49 =>
 loadP w_23 (⟨b_6, 0, none⟩ : Addr) 32 (arrV .u8) fun v_50 =>
 loadP w_23 (⟨b_31, 0, none⟩ : Addr) 32 (arrV .u8) fun v_51 =>
 eqArrP 32 .u8 ((arrV .u8) v_50) ((arrV .u8) v_51) fun b_52 =>
 callP P 20 #[((arrV .u8) v_48), ((arrV .u8) v_49)] w_23 Value.bool fun r_53 w_24 =>
 Holds w_24 (⟨b_31, 0, none⟩ : Addr) 32 ((arrV .u8) v_51) ∧ (
 Holds w_24 (⟨b_6, 0, none⟩ : Addr) 32 ((arrV .u8) v_50) ∧ (
 R (negB false (r_53 == (negB false b_52))) w_24))) (
 R false w_23))) (
 R false w_21))) (
 R false w_20))) (
 R false w_19.drew))) ∧ (
 newP w_7.drew (.cells ((arrV .u8) (List.replicate 32 0)).cells 25) fun b_54 w_25 =>
 newP w_25 (.cells #[(SlV.val (SlV.sub (SlV.sub b (0) (Int.toNat (if (800 : Int) < (b.len : Int) then (800 : Int) else (b.len : Int))) b.cap 1) (0) (Int.toNat (IntKind.i64.wrap (Int.tmod (IntKind.u64.wrap cut) (IntKind.u64.wrap (IntKind.i64.wrap (((SlV.sub b (0) (Int.toNat (if (800 : Int) < (b.len : Int) then (800 : Int) else (b.len : Int))) b.cap 1).len : Int) + (1 : Int))))))) ((SlV.sub b (0) (Int.toNat (if (800 : Int) < (b.len : Int) then (800 : Int) else (b.len : Int))) b.cap 1).cap) 1)), (SlV.val SlV.nil), (SlV.val (SlV.sub (SlV.sub b (0) (Int.toNat (if (800 : Int) < (b.len : Int) then (800 : Int) else (b.len : Int))) b.cap 1) (Int.toNat (IntKind.i64.wrap (Int.tmod (IntKind.u64.wrap cut) (IntKind.u64.wrap (IntKind.i64.wrap (((SlV.sub b (0) (Int.toNat (if (800 : Int) < (b.len : Int) then (800 : Int) else (b.len : Int))) b.cap 1).len : Int) + (1 : Int))))))) ((SlV.sub b (0) (Int.toNat (if (800 : Int) < (b.len : Int) then (800 : Int) else (b.len : Int))) b.cap 1).len) ((SlV.sub b (0) (Int.toNat (if (800 : Int) < (b.len : Int) then (800 : Int) else (b.len : Int))) b.cap 1).cap) 1))] 22) fun b_55 w_26 =>
 callP P 17 #[(SlV.val (SlV.mk (some (⟨b_55, 0, none⟩ : Addr)) 3 3))] w_26 (arrV .u8) fun r_56 w_27 =>
 storeP w_27 (⟨b_54, 0, none⟩ : Addr) 32 ((arrV .u8) r_56) fun w_28 =>
 readP P (convert 22 9 (SlV.val r_3)) w_28.drew Value.string fun v_57 =>
 readP P (convert 22 9 (SlV.val (SlV.sub key (0) (Int.toNat (if (400 : Int) < (key.len : Int) then (400 : Int) else (key.len : Int))) key.cap 1))) w_28.drew Value.string fun v_58 =>
 cond' (v_57.toList == v_58.toList) (
 loadP w_28.drew (⟨b_6, 0, none⟩ : Addr) 32 (arrV .u8) fun v_60 =>
 callP P 18 #[(SlV.val (SlV.sub key (0) (Int.toNat (if (400 : Int) < (key.len : Int) then (400 : Int) else (key.len : Int))) key.cap 1)), (SlV.val (SlV.sub b (0) (Int.toNat (if (800 : Int) < (b.len : Int) then (800 : Int) else (b.len : Int))) b.cap 1))] w_28.drew (arrV .u8) fun r_61 w_29 =>
 Holds w_29 (⟨b_6, 0, none⟩ : Addr) 32 ((arrV .u8) v_60) ∧ (
 eqArrP 32 .u8 ((arrV .u8) v_60) ((arrV .u8) r_61) fun b_62 =>
 cond' (negB false b_62) (
 loadP w_29 (⟨b_54, 0, none⟩ : Addr) 32 (arrV .u8) fun v_64 =>
 callP P 19 #[(SlV.val (SlV.sub b (0) (Int.toNat (if (800 : Int) < (b.len : Int) then (800 : Int) else (b.len : Int))) b.cap 1))] w_29 (arrV .u8) fun r_65 w_30 =>
 Holds w_30 (⟨b_54, 0, none⟩ : Addr) 32 ((arrV .u8) v_64) ∧ (
 eqArrP 32 .u8 ((arrV .u8) v_64) ((arrV .u8) r_65) fun b_66 =>
 cond' (negB false b_66) (
 loadP w_30 (⟨b_6, 0, none⟩ : Addr) 32 (arrV .u8) fun v_68 =>
 callP P 18 #[(SlV.val (SlV.sub key (0) (Int.toNat (if (400 : Int) < (key.len : Int) then (400 : Int) else (key.len : Int))) key.cap 1)), (SlV.val (SlV.sub b (0) (Int.toNat (if (800 : Int) < (b.len : Int) then (800 : Int) else (b.len : Int))) b.cap 1))] w_30 (arrV .u8) fun r_69 w_31 =>
 Holds w_31 (⟨b_6, 0, none⟩ : Addr) 32 ((arrV .u8) v_68) ∧ (
 callP P 20 #[((arrV .u8) v_68), ((arrV .u8) r_69)] w_31 Value.bool fun r_70 w_32 =>
 cond' r_70 (
 loadP w_32 (⟨b_6, 0, none⟩ : Addr) 32 (arrV .u8) fun v_72 =>
 loadP w_32 (⟨b_54, 0, none⟩ : Addr) 32 (arrV .u8) fun v_73 =>
 loadP w_32 (⟨b_6, 0, none⟩ : Addr) 32 (arrV .u8) fun v_74 =>
 loadP w_32 (⟨b_54, 0, none⟩ : Addr) 32 (arrV .u8) fun v_75 =>
 eqArrP 32 .u8 ((arrV .u8) v_74) ((arrV .u8) v_75) fun b_76 =>
 callP P 20 #[((arrV .u8) v_72), ((arrV .u8) v_73)] w_32 Value.bool fun r_77 w_33 =>
 Holds w_33 (⟨b_54, 0, none⟩ : Addr) 32 ((arrV .u8) v_75) ∧ (
 Holds w_33 (⟨b_6, 0, none⟩ : Addr) 32 ((arrV .u8) v_74) ∧ (
 R (negB false (r_77 == (negB false b_76))) w_33))) (
 R false w_32))) (
 R false w_30))) (
 R false w_29))) (
 R false w_28.drew))) ∧ (
 newP w_4 (.cells ((arrV .u8) (List.replicate 32 0)).cells 25) fun b_78 w_34 =>
 callP P 16 #[(SlV.val r_3), (SlV.val (SlV.mk (some (⟨b_4, 0, none⟩ : Addr)) 2 2))] w_34 (arrV .u8) fun r_79 w_35 =>
 storeP w_35 (⟨b_78, 0, none⟩ : Addr) 32 ((arrV .u8) r_79) fun w_36 =>
 chkP (leR (IntKind.i64.wrap (Int.tmod (IntKind.u64.wrap cut) (IntKind.u64.wrap (IntKind.i64.wrap (((SlV.sub b (0) (Int.toNat (if (800 : Int) < (b.len : Int) then (800 : Int) else (b.len : Int))) b.cap 1).len : Int) + (1 : Int)))))) ((SlV.sub b (0) (Int.toNat (if (800 : Int) < (b.len : Int) then (800 : Int) else (b.len : Int))) b.cap 1).cap : Int)) <|
 chkP (leR 0 (IntKind.i64.wrap (Int.tmod (IntKind.u64.wrap cut) (IntKind.u64.wrap (IntKind.i64.wrap (((SlV.sub b (0) (Int.toNat (if (800 : Int) < (b.len : Int) then (800 : Int) else (b.len : Int))) b.cap 1).len : Int) + (1 : Int))))))) <|
 chkP (leR ((SlV.sub b (0) (Int.toNat (if (800 : Int) < (b.len : Int) then (800 : Int) else (b.len : Int))) b.cap 1).len : Int) ((SlV.sub b (0) (Int.toNat (if (800 : Int) < (b.len : Int) then (800 : Int) else (b.len : Int))) b.cap 1).cap : Int)) <|
 chkP (leR (IntKind.i64.wrap (Int.tmod (IntKind.u64.wrap cut) (IntKind.u64.wrap (IntKind.i64.wrap (((SlV.sub b (0) (Int.toNat (if (800 : Int) < (b.len : Int) then (800 : Int) else (b.len : Int))) b.cap 1).len : Int) + (1 : Int)))))) ((SlV.sub b (0) (Int.toNat (if (800 : Int) < (b.len : Int) then (800 : Int) else (b.len : Int))) b.cap 1).len : Int)) <|
 (
 newP w_36.drew (.cells #[(SlV.val (SlV.sub (SlV.sub b (0) (Int.toNat (if (800 : Int) < (b.len : Int) then (800 : Int) else (b.len : Int))) b.cap 1) (0) (Int.toNat (IntKind.i64.wrap (Int.tmod (IntKind.u64.wrap cut) (IntKind.u64.wrap (IntKind.i64.wrap (((SlV.sub b (0) (Int.toNat (if (800 : Int) < (b.len : Int) then (800 : Int) else (b.len : Int))) b.cap 1).len : Int) + (1 : Int))))))) ((SlV.sub b (0) (Int.toNat (if (800 : Int) < (b.len : Int) then (800 : Int) else (b.len : Int))) b.cap 1).cap) 1)), (SlV.val SlV.nil), (SlV.val (SlV.sub (SlV.sub b (0) (Int.toNat (if (800 : Int) < (b.len : Int) then (800 : Int) else (b.len : Int))) b.cap 1) (Int.toNat (IntKind.i64.wrap (Int.tmod (IntKind.u64.wrap cut) (IntKind.u64.wrap (IntKind.i64.wrap (((SlV.sub b (0) (Int.toNat (if (800 : Int) < (b.len : Int) then (800 : Int) else (b.len : Int))) b.cap 1).len : Int) + (1 : Int))))))) ((SlV.sub b (0) (Int.toNat (if (800 : Int) < (b.len : Int) then (800 : Int) else (b.len : Int))) b.cap 1).len) ((SlV.sub b (0) (Int.toNat (if (800 : Int) < (b.len : Int) then (800 : Int) else (b.len : Int))) b.cap 1).cap) 1))] 22) fun b_80 w_37 =>
 (
 callP P 17 #[(SlV.val (SlV.mk (some (⟨b_80, 0, none⟩ : Addr)) 3 3))] w_37 (arrV .u8) fun r_81 w_38 =>
 newP w_38 (.cells ((arrV .u8) (List.replicate 32 0)).cells 25) fun b_82 w_39 =>
 storeP w_39 (⟨b_82, 0, none⟩ : Addr) 32 ((arrV .u8) r_81) fun w_40 =>
 readP P (convert 22 9 (SlV.val r_3)) w_40.drew Value.string fun v_83 =>
 readP P (convert 22 9 (SlV.val (SlV.sub key (0) (Int.toNat (if (400 : Int) < (key.len : Int) then (400 : Int) else (key.len : Int))) key.cap 1))) w_40.drew Value.string fun v_84 =>
 cond' (v_83.toList == v_84.toList) (
 loadP w_40.drew (⟨b_78, 0, none⟩ : Addr) 32 (arrV .u8) fun v_86 =>
 callP P 18 #[(SlV.val (SlV.sub key (0) (Int.toNat (if (400 : Int) < (key.len : Int) then (400 : Int) else (key.len : Int))) key.cap 1)), (SlV.val (SlV.sub b (0) (Int.toNat (if (800 : Int) < (b.len : Int) then (800 : Int) else (b.len : Int))) b.cap 1))] w_40.drew (arrV .u8) fun r_87 w_41 =>
 Holds w_41 (⟨b_78, 0, none⟩ : Addr) 32 ((arrV .u8) v_86) ∧ (
 eqArrP 32 .u8 ((arrV .u8) v_86) ((arrV .u8) r_87) fun b_88 =>
 cond' (negB false b_88) (
 loadP w_41 (⟨b_82, 0, none⟩ : Addr) 32 (arrV .u8) fun v_90 =>
 callP P 19 #[(SlV.val (SlV.sub b (0) (Int.toNat (if (800 : Int) < (b.len : Int) then (800 : Int) else (b.len : Int))) b.cap 1))] w_41 (arrV .u8) fun r_91 w_42 =>
 Holds w_42 (⟨b_82, 0, none⟩ : Addr) 32 ((arrV .u8) v_90) ∧ (
 eqArrP 32 .u8 ((arrV .u8) v_90) ((arrV .u8) r_91) fun b_92 =>
 cond' (negB false b_92) (
 loadP w_42 (⟨b_78, 0, none⟩ : Addr) 32 (arrV .u8) fun v_94 =>
 callP P 18 #[(SlV.val (SlV.sub key (0) (Int.toNat (if (400 : Int) < (key.len : Int) then (400 : Int) else (key.len : Int))) key.cap 1)), (SlV.val (SlV.sub b (0) (Int.toNat (if (800 : Int) < (b.len : Int) then (800 : Int) else (b.len : Int))) b.cap 1))] w_42 (arrV .u8) fun r_95 w_43 =>
 Holds w_43 (⟨b_78, 0, none⟩ : Addr) 32 ((arrV .u8) v_94) ∧ (
 callP P 20 #[((arrV .u8) v_94), ((arrV .u8) r_95)] w_43 Value.bool fun r_96 w_44 =>
 cond' r_96 (
 loadP w_44 (⟨b_78, 0, none⟩ : Addr) 32 (arrV .u8) fun v_98 =>
 loadP w_44 (⟨b_82, 0, none⟩ : Addr) 32 (arrV .u8) fun v_99 =>
 loadP w_44 (⟨b_78, 0, none⟩ : Addr) 32 (arrV .u8) fun v_100 =>
 loadP w_44 (⟨b_82, 0, none⟩ : Addr) 32 (arrV .u8) fun v_101 =>
 eqArrP 32 .u8 ((arrV .u8) v_100) ((arrV .u8) v_101) fun b_102 =>
 callP P 20 #[((arrV .u8) v_98), ((arrV .u8) v_99)] w_44 Value.bool fun r_103 w_45 =>
 Holds w_45 (⟨b_82, 0, none⟩ : Addr) 32 ((arrV .u8) v_101) ∧ (
 Holds w_45 (⟨b_78, 0, none⟩ : Addr) 32 ((arrV .u8) v_100) ∧ (
 R (negB false (r_103 == (negB false b_102))) w_45))) (
 R false w_44))) (
 R false w_42))) (
 R false w_41))) (
 R false w_40.drew)) ∧ (
 newP w_37 (.cells ((arrV .u8) (List.replicate 32 0)).cells 25) fun b_104 w_46 =>
 callP P 17 #[(SlV.val (SlV.mk (some (⟨b_80, 0, none⟩ : Addr)) 3 3))] w_46 (arrV .u8) fun r_105 w_47 =>
 storeP w_47 (⟨b_104, 0, none⟩ : Addr) 32 ((arrV .u8) r_105) fun w_48 =>
 readP P (convert 22 9 (SlV.val r_3)) w_48.drew Value.string fun v_106 =>
 readP P (convert 22 9 (SlV.val (SlV.sub key (0) (Int.toNat (if (400 : Int) < (key.len : Int) then (400 : Int) else (key.len : Int))) key.cap 1))) w_48.drew Value.string fun v_107 =>
 cond' (v_106.toList == v_107.toList) (
 loadP w_48.drew (⟨b_78, 0, none⟩ : Addr) 32 (arrV .u8) fun v_109 =>
 callP P 18 #[(SlV.val (SlV.sub key (0) (Int.toNat (if (400 : Int) < (key.len : Int) then (400 : Int) else (key.len : Int))) key.cap 1)), (SlV.val (SlV.sub b (0) (Int.toNat (if (800 : Int) < (b.len : Int) then (800 : Int) else (b.len : Int))) b.cap 1))] w_48.drew (arrV .u8) fun r_110 w_49 =>
 Holds w_49 (⟨b_78, 0, none⟩ : Addr) 32 ((arrV .u8) v_109) ∧ (
 eqArrP 32 .u8 ((arrV .u8) v_109) ((arrV .u8) r_110) fun b_111 =>
 cond' (negB false b_111) (
 loadP w_49 (⟨b_104, 0, none⟩ : Addr) 32 (arrV .u8) fun v_113 =>
 callP P 19 #[(SlV.val (SlV.sub b (0) (Int.toNat (if (800 : Int) < (b.len : Int) then (800 : Int) else (b.len : Int))) b.cap 1))] w_49 (arrV .u8) fun r_114 w_50 =>
 Holds w_50 (⟨b_104, 0, none⟩ : Addr) 32 ((arrV .u8) v_113) ∧ (
 eqArrP 32 .u8 ((arrV .u8) v_113) ((arrV .u8) r_114) fun b_115 =>
 cond' (negB false b_115) (
 loadP w_50 (⟨b_78, 0, none⟩ : Addr) 32 (arrV .u8) fun v_117 =>
 callP P 18 #[(SlV.val (SlV.sub key (0) (Int.toNat (if (400 : Int) < (key.len : Int) then (400 : Int) else (key.len : Int))) key.cap 1)), (SlV.val (SlV.sub b (0) (Int.toNat (if (800 : Int) < (b.len : Int) then (800 : Int) else (b.len : Int))) b.cap 1))] w_50 (arrV .u8) fun r_118 w_51 =>
 Holds w_51 (⟨b_78, 0, none⟩ : Addr) 32 ((arrV .u8) v_117) ∧ (
 callP P 20 #[((arrV .u8) v_117), ((arrV .u8) r_118)] w_51 Value.bool fun r_119 w_52 =>
 cond' r_119 (
 loadP w_52 (⟨b_78, 0, none⟩ : Addr) 32 (arrV .u8) fun v_121 =>
 loadP w_52 (⟨b_104, 0, none⟩ : Addr) 32 (arrV .u8) fun v_122 =>
 loadP w_52 (⟨b_78, 0, none⟩ : Addr) 32 (arrV .u8) fun v_123 =>
 loadP w_52 (⟨b_104, 0, none⟩ : Addr) 32 (arrV .u8) fun v_124 =>
 eqArrP 32 .u8 ((arrV .u8) v_123) ((arrV .u8) v_124) fun b_125 =>
 callP P 20 #[((arrV .u8) v_121), ((arrV .u8) v_122)] w_52 Value.bool fun r_126 w_53 =>
 Holds w_53 (⟨b_104, 0, none⟩ : Addr) 32 ((arrV .u8) v_124) ∧ (
 Holds w_53 (⟨b_78, 0, none⟩ : Addr) 32 ((arrV .u8) v_123) ∧ (
 R (negB false (r_126 == (negB false b_125))) w_53))) (
 R false w_52))) (
 R false w_50))) (
 R false w_49))) (
 R false w_48.drew))) ∧ (
 newP w_36.drew (.cells ((arrV .u8) (List.replicate 32 0)).cells 25) fun b_127 w_54 =>
 newP w_54 (.cells #[(SlV.val (SlV.sub (SlV.sub b (0) (Int.toNat (if (800 : Int) < (b.len : Int) then (800 : Int) else (b.len : Int))) b.cap 1) (0) (Int.toNat (IntKind.i64.wrap (Int.tmod (IntKind.u64.wrap cut) (IntKind.u64.wrap (IntKind.i64.wrap (((SlV.sub b (0) (Int.toNat (if (800 : Int) < (b.len : Int) then (800 : Int) else (b.len : Int))) b.cap 1).len : Int) + (1 : Int))))))) ((SlV.sub b (0) (Int.toNat (if (800 : Int) < (b.len : Int) then (800 : Int) else (b.len : Int))) b.cap 1).cap) 1)), (SlV.val SlV.nil), (SlV.val (SlV.sub (SlV.sub b (0) (Int.toNat (if (800 : Int) < (b.len : Int) then (800 : Int) else (b.len : Int))) b.cap 1) (Int.toNat (IntKind.i64.wrap (Int.tmod (IntKind.u64.wrap cut) (IntKind.u64.wrap (IntKind.i64.wrap (((SlV.sub b (0) (Int.toNat (if (800 : Int) < (b.len : Int) then (800 : Int) else (b.len : Int))) b.cap 1).len : Int) + (1 : Int))))))) ((SlV.sub b (0) (Int.toNat (if (800 : Int) < (b.len : Int) then (800 : Int) else (b.len : Int))) b.cap 1).len) ((SlV.sub b (0) (Int.toNat (if (800 : Int) < (b.len : Int) then (800 : Int) else (b.len : Int))) b.cap 1).cap) 1))] 22) fun b_128 w_55 =>
 callP P 17 #[(SlV.val (SlV.mk (some (⟨b_128, 0, none⟩ : Addr)) 3 3))] w_55 (arrV .u8) fun r_129 w_56 =>
 storeP w_56 (⟨b_127, 0, none⟩ : Addr) 32 ((arrV .u8) r_129) fun w_57 =>
 readP P (convert 22 9 (SlV.val r_3)) w_57.drew Value.string fun v_130 =>
 readP P (convert 22 9 (SlV.val (SlV.sub key (0) (Int.toNat (if (400 : Int) < (key.len : Int) then (400 : Int) else (key.len : Int))) key.cap 1))) w_57.drew Value.string fun v_131 =>
 cond' (v_130.toList == v_131.toList) (
 loadP w_57.drew (⟨b_78, 0, none⟩ : Addr) 32 (arrV .u8) fun v_133 =>
 callP P 18 #[(SlV.val (SlV.sub key (0) (Int.toNat (if (400 : Int) < (key.len : Int) then (400 : Int) else (key.len : Int))) key.cap 1)), (SlV.val (SlV.sub b (0) (Int.toNat (if (800 : Int) < (b.len : Int) then (800 : Int) else (b.len : Int))) b.cap 1))] w_57.drew (arrV .u8) fun r_134 w_58 =>
 Holds w_58 (⟨b_78, 0, none⟩ : Addr) 32 ((arrV .u8) v_133) ∧ (
 eqArrP 32 .u8 ((arrV .u8) v_133) ((arrV .u8) r_134) fun b_135 =>
 cond' (negB false b_135) (
 loadP w_58 (⟨b_127, 0, none⟩ : Addr) 32 (arrV .u8) fun v_137 =>
 callP P 19 #[(SlV.val (SlV.sub b (0) (Int.toNat (if (800 : Int) < (b.len : Int) then (800 : Int) else (b.len : Int))) b.cap 1))] w_58 (arrV .u8) fun r_138 w_59 =>
 Holds w_59 (⟨b_127, 0, none⟩ : Addr) 32 ((arrV .u8) v_137) ∧ (
 eqArrP 32 .u8 ((arrV .u8) v_137) ((arrV .u8) r_138) fun b_139 =>
 cond' (negB false b_139) (
 loadP w_59 (⟨b_78, 0, none⟩ : Addr) 32 (arrV .u8) fun v_141 =>
 callP P 18 #[(SlV.val (SlV.sub key (0) (Int.toNat (if (400 : Int) < (key.len : Int) then (400 : Int) else (key.len : Int))) key.cap 1)), (SlV.val (SlV.sub b (0) (Int.toNat (if (800 : Int) < (b.len : Int) then (800 : Int) else (b.len : Int))) b.cap 1))] w_59 (arrV .u8) fun r_142 w_60 =>
 Holds w_60 (⟨b_78, 0, none⟩ : Addr) 32 ((arrV .u8) v_141) ∧ (
 callP P 20 #[((arrV .u8) v_141), ((arrV .u8) r_142)] w_60 Value.bool fun r_143 w_61 =>
 cond' r_143 (
 loadP w_61 (⟨b_78, 0, none⟩ : Addr) 32 (arrV .u8) fun v_145 =>
 loadP w_61 (⟨b_127, 0, none⟩ : Addr) 32 (arrV .u8) fun v_146 =>
 loadP w_61 (⟨b_78, 0, none⟩ : Addr) 32 (arrV .u8) fun v_147 =>
 loadP w_61 (⟨b_127, 0, none⟩ : Addr) 32 (arrV .u8) fun v_148 =>
 eqArrP 32 .u8 ((arrV .u8) v_147) ((arrV .u8) v_148) fun b_149 =>
 callP P 20 #[((arrV .u8) v_145), ((arrV .u8) v_146)] w_61 Value.bool fun r_150 w_62 =>
 Holds w_62 (⟨b_127, 0, none⟩ : Addr) 32 ((arrV .u8) v_148) ∧ (
 Holds w_62 (⟨b_78, 0, none⟩ : Addr) 32 ((arrV .u8) v_147) ∧ (
 R (negB false (r_150 == (negB false b_149))) w_62))) (
 R false w_61))) (
 R false w_59))) (
 R false w_58))) (
 R false w_57.drew)))) ∧ (
 newP w_3.drew (.cells ((arrV .u8) (List.replicate 32 0)).cells 25) fun b_151 w_63 =>
 newP w_63 (.cells #[(SlV.val (SlV.sub (SlV.sub b (0) (Int.toNat (if (800 : Int) < (b.len : Int) then (800 : Int) else (b.len : Int))) b.cap 1) (0) (Int.toNat (IntKind.i64.wrap (Int.tmod (IntKind.u64.wrap cut) (IntKind.u64.wrap (IntKind.i64.wrap (((SlV.sub b (0) (Int.toNat (if (800 : Int) < (b.len : Int) then (800 : Int) else (b.len : Int))) b.cap 1).len : Int) + (1 : Int))))))) ((SlV.sub b (0) (Int.toNat (if (800 : Int) < (b.len : Int) then (800 : Int) else (b.len : Int))) b.cap 1).cap) 1)), (SlV.val (SlV.sub (SlV.sub b (0) (Int.toNat (if (800 : Int) < (b.len : Int) then (800 : Int) else (b.len : Int))) b.cap 1) (Int.toNat (IntKind.i64.wrap (Int.tmod (IntKind.u64.wrap cut) (IntKind.u64.wrap (IntKind.i64.wrap (((SlV.sub b (0) (Int.toNat (if (800 : Int) < (b.len : Int) then (800 : Int) else (b.len : Int))) b.cap 1).len : Int) + (1 : Int))))))) ((SlV.sub b (0) (Int.toNat (if (800 : Int) < (b.len : Int) then (800 : Int) else (b.len : Int))) b.cap 1).len) ((SlV.sub b (0) (Int.toNat (if (800 : Int) < (b.len : Int) then (800 : Int) else (b.len : Int))) b.cap 1).cap) 1))] 22) fun b_152 w_64 =>
 callP P 16 #[(SlV.val r_3), (SlV.val (SlV.mk (some (⟨b_152, 0, none⟩ : Addr)) 2 2))] w_64 (arrV .u8) fun r_153 w_65 =>
 storeP w_65 (⟨b_151, 0, none⟩ : Addr) 32 ((arrV .u8) r_153) fun w_66 =>
 chkP (leR (IntKind.i64.wrap (Int.tmod (IntKind.u64.wrap cut) (IntKind.u64.wrap (IntKind.i64.wrap (((SlV.sub b (0) (Int.toNat (if (800 : Int) < (b.len : Int) then (800 : Int) else (b.len : Int))) b.cap 1).len : Int) + (1 : Int)))))) ((SlV.sub b (0) (Int.toNat (if (800 : Int) < (b.len : Int) then (800 : Int) else (b.len : Int))) b.cap 1).cap : Int)) <|
 chkP (leR 0 (IntKind.i64.wrap (Int.tmod (IntKind.u64.wrap cut) (IntKind.u64.wrap (IntKind.i64.wrap (((SlV.sub b (0) (Int.toNat (if (800 : Int) < (b.len : Int) then (800 : Int) else (b.len : Int))) b.cap 1).len : Int) + (1 : Int))))))) <|
 chkP (leR ((SlV.sub b (0) (Int.toNat (if (800 : Int) < (b.len : Int) then (800 : Int) else (b.len : Int))) b.cap 1).len : Int) ((SlV.sub b (0) (Int.toNat (if (800 : Int) < (b.len : Int) then (800 : Int) else (b.len : Int))) b.cap 1).cap : Int)) <|
 chkP (leR (IntKind.i64.wrap (Int.tmod (IntKind.u64.wrap cut) (IntKind.u64.wrap (IntKind.i64.wrap (((SlV.sub b (0) (Int.toNat (if (800 : Int) < (b.len : Int) then (800 : Int) else (b.len : Int))) b.cap 1).len : Int) + (1 : Int)))))) ((SlV.sub b (0) (Int.toNat (if (800 : Int) < (b.len : Int) then (800 : Int) else (b.len : Int))) b.cap 1).len : Int)) <|
 (
 newP w_66.drew (.cells #[(SlV.val (SlV.sub (SlV.sub b (0) (Int.toNat (if (800 : Int) < (b.len : Int) then (800 : Int) else (b.len : Int))) b.cap 1) (0) (Int.toNat (IntKind.i64.wrap (Int.tmod (IntKind.u64.wrap cut) (IntKind.u64.wrap (IntKind.i64.wrap (((SlV.sub b (0) (Int.toNat (if (800 : Int) < (b.len : Int) then (800 : Int) else (b.len : Int))) b.cap 1).len : Int) + (1 : Int))))))) ((SlV.sub b (0) (Int.toNat (if (800 : Int) < (b.len : Int) then (800 : Int) else (b.len : Int))) b.cap 1).cap) 1)), (SlV.val SlV.nil), (SlV.val (SlV.sub (SlV.sub b (0) (Int.toNat (if (800 : Int) < (b.len : Int) then (800 : Int) else (b.len : Int))) b.cap 1) (Int.toNat (IntKind.i64.wrap (Int.tmod (IntKind.u64.wrap cut) (IntKind.u64.wrap (IntKind.i64.wrap (((SlV.sub b (0) (Int.toNat (if (800 : Int) < (b.len : Int) then (800 : Int) else (b.len : Int))) b.cap 1).len : Int) + (1 : Int))))))) ((SlV.sub b (0) (Int.toNat (if (800 : Int) < (b.len : Int) then (800 : Int) else (b.len : Int))) b.cap 1).len) ((SlV.sub b (0) (Int.toNat (if (800 : Int) < (b.len : Int) then (800 : Int) else (b.len : Int))) b.cap 1).cap) 1))] 22) fun b_154 w_67 =>
 (
 callP P 17 #[(SlV.val (SlV.mk (some (⟨b_154, 0, none⟩ : Addr)) 3 3))] w_67 (arrV .u8) fun r_155 w_68 =>
 newP w_68 (.cells ((arrV .u8) (List.replicate 32 0)).cells 25) fun b_156 w_69 =>
 storeP w_69 (⟨b_156, 0, none⟩ : Addr) 32 ((arrV .u8) r_155) fun w_70 =>
 readP P (convert 22 9 (SlV.val r_3)) w_70.drew Value.string fun v_157 =>
 readP P (convert 22 9 (SlV.val (SlV.sub key (0) (Int.toNat (if (400 : Int) < (key.len : Int) then (400 : Int) else (key.len : Int))) key.cap 1))) w_70.drew Value.string fun v_158 =>
 cond' (v_157.toList == v_158.toList) (
 loadP w_70.drew (⟨b_151, 0, none⟩ : Addr) 32 (arrV .u8) fun v_160 =>
 callP P 18 #[(SlV.val (SlV.sub key (0) (Int.toNat (if (400 : Int) < (key.len : Int) then (400 : Int) else (key.len : Int))) key.cap 1)), (SlV.val (SlV.sub b (0) (Int.toNat (if (800 : Int) < (b.len : Int) then (800 : Int) else (b.len : Int))) b.cap 1))] w_70.drew (arrV .u8) fun r_161 w_71 =>
 Holds w_71 (⟨b_151, 0, none⟩ : Addr) 32 ((arrV .u8) v_160) ∧ (
 eqArrP 32 .u8 ((arrV .u8) v_160) ((arrV .u8) r_161) fun b_162 =>
 cond' (negB false b_162) (
 loadP w_71 (⟨b_156, 0, none⟩ : Addr) 32 (arrV .u8) fun v_164 =>
 callP P 19 #[(SlV.val (SlV.sub b (0) (Int.toNat (if (800 : Int) < (b.len : Int) then (800 : Int) else (b.len : Int))) b.cap 1))] w_71 (arrV .u8) fun r_165 w_72 =>
 Holds w_72 (⟨b_156, 0, none⟩ : Addr) 32 ((arrV .u8) v_164) ∧ (
 eqArrP 32 .u8 ((arrV .u8) v_164) ((arrV .u8) r_165) fun b_166 =>
 cond' (negB false b_166) (
 loadP w_72 (⟨b_151, 0, none⟩ : Addr) 32 (arrV .u8) fun v_168 =>
 callP P 18 #[(SlV.val (SlV.sub key (0) (Int.toNat (if (400 : Int) < (key.len : Int) then (400 : Int) else (key.len : Int))) key.cap 1)), (SlV.val (SlV.sub b (0) (Int.toNat (if (800 : Int) < (b.len : Int) then (800 : Int) else (b.len : Int))) b.cap 1))] w_72 (arrV .u8) fun r_169 w_73 =>
 Holds w_73 (⟨b_151, 0, none⟩ : Addr) 32 ((arrV .u8) v_168) ∧ (
 callP P 20 #[((arrV .u8) v_168), ((arrV .u8) r_169)] w_73 Value.bool fun r_170 w_74 =>
 cond' r_170 (
 loadP w_74 (⟨b_151, 0, none⟩ : Addr) 32 (arrV .u8) fun v_172 =>
 loadP w_74 (⟨b_156, 0, none⟩ : Addr) 32 (arrV .u8) fun v_173 =>
 loadP w_74 (⟨b_151, 0, none⟩ : Addr) 32 (arrV .u8) fun v_174 =>
 loadP w_74 (⟨b_156, 0, none⟩ : Addr) 32 (arrV .u8) fun v_175 =>
 eqArrP 32 .u8 ((arrV .u8) v_174) ((arrV .u8) v_175) fun b_176 =>
 callP P 20 #[((arrV .u8) v_172), ((arrV .u8) v_173)] w_74 Value.bool fun r_177 w_75 =>
 Holds w_75 (⟨b_156, 0, none⟩ : Addr) 32 ((arrV .u8) v_175) ∧ (
 Holds w_75 (⟨b_151, 0, none⟩ : Addr) 32 ((arrV .u8) v_174) ∧ (
 R (negB false (r_177 == (negB false b_176))) w_75))) (
 R false w_74))) (
 R false w_72))) (
 R false w_71))) (
 R false w_70.drew)) ∧ (
 newP w_67 (.cells ((arrV .u8) (List.replicate 32 0)).cells 25) fun b_178 w_76 =>
 callP P 17 #[(SlV.val (SlV.mk (some (⟨b_154, 0, none⟩ : Addr)) 3 3))] w_76 (arrV .u8) fun r_179 w_77 =>
 storeP w_77 (⟨b_178, 0, none⟩ : Addr) 32 ((arrV .u8) r_179) fun w_78 =>
 readP P (convert 22 9 (SlV.val r_3)) w_78.drew Value.string fun v_180 =>
 readP P (convert 22 9 (SlV.val (SlV.sub key (0) (Int.toNat (if (400 : Int) < (key.len : Int) then (400 : Int) else (key.len : Int))) key.cap 1))) w_78.drew Value.string fun v_181 =>
 cond' (v_180.toList == v_181.toList) (
 loadP w_78.drew (⟨b_151, 0, none⟩ : Addr) 32 (arrV .u8) fun v_183 =>
 callP P 18 #[(SlV.val (SlV.sub key (0) (Int.toNat (if (400 : Int) < (key.len : Int) then (400 : Int) else (key.len : Int))) key.cap 1)), (SlV.val (SlV.sub b (0) (Int.toNat (if (800 : Int) < (b.len : Int) then (800 : Int) else (b.len : Int))) b.cap 1))] w_78.drew (arrV .u8) fun r_184 w_79 =>
 Holds w_79 (⟨b_151, 0, none⟩ : Addr) 32 ((arrV .u8) v_183) ∧ (
 eqArrP 32 .u8 ((arrV .u8) v_183) ((arrV .u8) r_184) fun b_185 =>
 cond' (negB false b_185) (
 loadP w_79 (⟨b_178, 0, none⟩ : Addr) 32 (arrV .u8) fun v_187 =>
 callP P 19 #[(SlV.val (SlV.sub b (0) (Int.toNat (if (800 : Int) < (b.len : Int) then (800 : Int) else (b.len : Int))) b.cap 1))] w_79 (arrV .u8) fun r_188 w_80 =>
 Holds w_80 (⟨b_178, 0, none⟩ : Addr) 32 ((arrV .u8) v_187) ∧ (
 eqArrP 32 .u8 ((arrV .u8) v_187) ((arrV .u8) r_188) fun b_189 =>
 cond' (negB false b_189) (
 loadP w_80 (⟨b_151, 0, none⟩ : Addr) 32 (arrV .u8) fun v_191 =>
 callP P 18 #[(SlV.val (SlV.sub key (0) (Int.toNat (if (400 : Int) < (key.len : Int) then (400 : Int) else (key.len : Int))) key.cap 1)), (SlV.val (SlV.sub b (0) (Int.toNat (if (800 : Int) < (b.len : Int) then (800 : Int) else (b.len : Int))) b.cap 1))] w_80 (arrV .u8) fun r_192 w_81 =>
 Holds w_81 (⟨b_151, 0, none⟩ : Addr) 32 ((arrV .u8) v_191) ∧ (
 callP P 20 #[((arrV .u8) v_191), ((arrV .u8) r_192)] w_81 Value.bool fun r_193 w_82 =>
 cond' r_193 (
 loadP w_82 (⟨b_151, 0, none⟩ : Addr) 32 (arrV .u8) fun v_195 =>
 loadP w_82 (⟨b_178, 0, none⟩ : Addr) 32 (arrV .u8) fun v_196 =>
 loadP w_82 (⟨b_151, 0, none⟩ : Addr) 32 (arrV .u8) fun v_197 =>
 loadP w_82 (⟨b_178, 0, none⟩ : Addr) 32 (arrV .u8) fun v_198 =>
 eqArrP 32 .u8 ((arrV .u8) v_197) ((arrV .u8) v_198) fun b_199 =>
 callP P 20 #[((arrV .u8) v_195), ((arrV .u8) v_196)] w_82 Value.bool fun r_200 w_83 =>
 Holds w_83 (⟨b_178, 0, none⟩ : Addr) 32 ((arrV .u8) v_198) ∧ (
 Holds w_83 (⟨b_151, 0, none⟩ : Addr) 32 ((arrV .u8) v_197) ∧ (
 R (negB false (r_200 == (negB false b_199))) w_83))) (
 R false w_82))) (
 R false w_80))) (
 R false w_79))) (
 R false w_78.drew))) ∧ (
 newP w_66.drew (.cells ((arrV .u8) (List.replicate 32 0)).cells 25) fun b_201 w_84 =>
 newP w_84 (.cells #[(SlV.val (SlV.sub (SlV.sub b (0) (Int.toNat (if (800 : Int) < (b.len : Int) then (800 : Int) else (b.len : Int))) b.cap 1) (0) (Int.toNat (IntKind.i64.wrap (Int.tmod (IntKind.u64.wrap cut) (IntKind.u64.wrap (IntKind.i64.wrap (((SlV.sub b (0) (Int.toNat (if (800 : Int) < (b.len : Int) then (800 : Int) else (b.len : Int))) b.cap 1).len : Int) + (1 : Int))))))) ((SlV.sub b (0) (Int.toNat (if (800 : Int) < (b.len : Int) then (800 : Int) else (b.len : Int))) b.cap 1).cap) 1)), (SlV.val SlV.nil), (SlV.val (SlV.sub (SlV.sub b (0) (Int.toNat (if (800 : Int) < (b.len : Int) then (800 : Int) else (b.len : Int))) b.cap 1) (Int.toNat (IntKind.i64.wrap (Int.tmod (IntKind.u64.wrap cut) (IntKind.u64.wrap (IntKind.i64.wrap (((SlV.sub b (0) (Int.toNat (if (800 : Int) < (b.len : Int) then (800 : Int) else (b.len : Int))) b.cap 1).len : Int) + (1 : Int))))))) ((SlV.sub b (0) (Int.toNat (if (800 : Int) < (b.len : Int) then (800 : Int) else (b.len : Int))) b.cap 1).len) ((SlV.sub b (0) (Int.toNat (if (800 : Int) < (b.len : Int) then (800 : Int) else (b.len : Int))) b.cap 1).cap) 1))] 22) fun b_202 w_85 =>
 callP P 17 #[(SlV.val (SlV.mk (some (⟨b_202, 0, none⟩ : Addr)) 3 3))] w_85 (arrV .u8) fun r_203 w_86 =>
 storeP w_86 (⟨b_201, 0, none⟩ : Addr) 32 ((arrV .u8) r_203) fun w_87 =>
 readP P (convert 22 9 (SlV.val r_3)) w_87.drew Value.string fun v_204 =>
 readP P (convert 22 9 (SlV.val (SlV.sub key (0) (Int.toNat (if (400 : Int) < (key.len : Int) then (400 : Int) else (key.len : Int))) key.cap 1))) w_87.drew Value.string fun v_205 =>
 cond' (v_204.toList == v_205.toList) (
 loadP w_87.drew (⟨b_151, 0, none⟩ : Addr) 32 (arrV .u8) fun v_207 =>
 callP P 18 #[(SlV.val (SlV.sub key (0) (Int.toNat (if (400 : Int) < (key.len : Int) then (400 : Int) else (key.len : Int))) key.cap 1)), (SlV.val (SlV.sub b (0) (Int.toNat (if (800 : Int) < (b.len : Int) then (800 : Int) else (b.len : Int))) b.cap 1))] w_87.drew (arrV .u8) fun r_208 w_88 =>
 Holds w_88 (⟨b_151, 0, none⟩ : Addr) 32 ((arrV .u8) v_207) ∧ (
 eqArrP 32 .u8 ((arrV .u8) v_207) ((arrV .u8) r_208) fun b_209 =>
 cond' (negB false b_209) (
 loadP w_88 (⟨b_201, 0, none⟩ : Addr) 32 (arrV .u8) fun v_211 =>
 callP P 19 #[(SlV.val (SlV.sub b (0) (Int.toNat (if (800 : Int) < (b.len : Int) then (800 : Int) else (b.len : Int))) b.cap 1))] w_88 (arrV .u8) fun r_212 w_89 =>
 Holds w_89 (⟨b_201, 0, none⟩ : Addr) 32 ((arrV .u8) v_211) ∧ (
 eqArrP 32 .u8 ((arrV .u8) v_211) ((arrV .u8) r_212) fun b_213 =>
 cond' (negB false b_213) (
 loadP w_89 (⟨b_151, 0, none⟩ : Addr) 32 (arrV .u8) fun v_215 =>
 callP P 18 #[(SlV.val (SlV.sub key (0) (Int.toNat (if (400 : Int) < (key.len : Int) then (400 : Int) else (key.len : Int))) key.cap 1)), (SlV.val (SlV.sub b (0) (Int.toNat (if (800 : Int) < (b.len : Int) then (800 : Int) else (b.len : Int))) b.cap 1))] w_89 (arrV .u8) fun r_216 w_90 =>
 Holds w_90 (⟨b_151, 0, none⟩ : Addr) 32 ((arrV .u8) v_215) ∧ (
 callP P 20 #[((arrV .u8) v_215), ((arrV .u8) r_216)] w_90 Value.bool fun r_217 w_91 =>
 cond' r_217 (
 loadP w_91 (⟨b_151, 0, none⟩ : Addr) 32 (arrV .u8) fun v_219 =>
 loadP w_91 (⟨b_201, 0, none⟩ : Addr) 32 (arrV .u8) fun v_220 =>
 loadP w_91 (⟨b_151, 0, none⟩ : Addr) 32 (arrV .u8) fun v_221 =>
 loadP w_91 (⟨b_201, 0, none⟩ : Addr) 32 (arrV .u8) fun v_222 =>
 eqArrP 32 .u8 ((arrV .u8) v_221) ((arrV .u8) v_222) fun b_223 =>
 callP P 20 #[((arrV .u8) v_219), ((arrV .u8) v_220)] w_91 Value.bool fun r_224 w_92 =>
 Holds w_92 (⟨b_201, 0, none⟩ : Addr) 32 ((arrV .u8) v_222) ∧ (
 Holds w_92 (⟨b_151, 0, none⟩ : Addr) 32 ((arrV .u8) v_221) ∧ (
 R (negB false (r_224 == (negB false b_223))) w_92))) (
 R false w_91))) (
 R false w_89))) (
 R false w_88))) (
 R false w_87.drew))))
def an3 : Ann := mkAnn [] []
theorem sf3_eq (key : SlV) (b : SlV) (cut : Int) (w0 : World) (R : Bool → World → Prop) : sf3 key b cut w0 R = vcFn P sh an3 Try.f3 [(SlV.val key), (SlV.val b), (.int .i64 cut)] shBool w0 R := by kernel_rfl
theorem nm3 : (Try.f3.name == "runtime.NumGoroutine") = false := by kernel_rfl
theorem sf3_call (key : SlV) (b : SlV) (cut : Int) (w0 : World) (R : Bool → World → Prop) (hsf : sf3 key b cut w0 R) : callP P 3 #[(SlV.val key), (SlV.val b), (.int .i64 cut)] w0 shBool.val R :=
  vcFn_sound mixed Try.func3 nm3 (Eq.mp (sf3_eq key b cut w0 R) hsf)

/-- flume/flumelaw08.MacKeys -/
def sf4 (key : SlV) (b : SlV) (noughts : Int) (w0 : World) (R : Bool → World → Prop) : Prop :=
 callP P 15 #[] w0 Value.bool fun r_1 w_1 =>
 cond' (!r_1) (
 R false w_1) (
 chkP (leR (if (200 : Int) < (key.len : Int) then (200 : Int) else (key.len : Int)) (key.cap : Int)) <|
 chkP (leR 0 (if (200 : Int) < (key.len : Int) then (200 : Int) else (key.len : Int))) <|
 chkP (leR (if (300 : Int) < (b.len : Int) then (300 : Int) else (b.len : Int)) (b.cap : Int)) <|
 chkP (leR 0 (if (300 : Int) < (b.len : Int) then (300 : Int) else (b.len : Int))) <|
 newP w_1.drew (.cells #[(SlV.val (SlV.sub b (0) (Int.toNat (if (300 : Int) < (b.len : Int) then (300 : Int) else (b.len : Int))) b.cap 1))] 22) fun b_2 w_2 =>
 callP P 16 #[(SlV.val (SlV.sub key (0) (Int.toNat (if (200 : Int) < (key.len : Int) then (200 : Int) else (key.len : Int))) key.cap 1)), (SlV.val (SlV.mk (some (⟨b_2, 0, none⟩ : Addr)) 1 1))] w_2 (arrV .u8) fun r_3 w_3 =>
 newP w_3 (.cells ((arrV .u8) (List.replicate 32 0)).cells 25) fun b_4 w_4 =>
 storeP w_4 (⟨b_4, 0, none⟩ : Addr) 32 ((arrV .u8) r_3) fun w_5 =>
 cond' (decide (((SlV.sub key (0) (Int.toNat (if (200 : Int) < (key.len : Int) then (200 : Int) else (key.len : Int))) key.cap 1).len : Int) > (64 : Int))) (
 newP w_5 (.cells #[(SlV.val (SlV.sub key (0) (Int.toNat (if (200 : Int) < (key.len : Int) then (200 : Int) else (key.len : Int))) key.cap 1))] 22) fun b_5 w_6 =>
 callP P 17 #[(SlV.val (SlV.mk (some (⟨b_5, 0, none⟩ : Addr)) 1 1))] w_6 (arrV .u8) fun r_6 w_7 =>
 newP w_7 (.cells ((arrV .u8) (List.replicate 32 0)).cells 25) fun b_7 w_8 =>
 storeP w_8 (⟨b_7, 0, none⟩ : Addr) 32 ((arrV .u8) r_6) fun w_9 =>
 loadP w_9.drew (⟨b_4, 0, none⟩ : Addr) 32 (arrV .u8) fun v_8 =>
 newP w_9.drew (.cells #[(SlV.val (SlV.sub b (0) (Int.toNat (if (300 : Int) < (b.len : Int) then (300 : Int) else (b.len : Int))) b.cap 1))] 22) fun b_9 w_10 =>
 Holds w_10 (⟨b_4, 0, none⟩ : Addr) 32 ((arrV .u8) v_8) ∧ (
 callP P 16 #[(SlV.val (arrSub (⟨b_7, 0, none⟩ : Addr) 0 32 32 1)), (SlV.val (SlV.mk (some (⟨b_9, 0, none⟩ : Addr)) 1 1))] w_10 (arrV .u8) fun r_10 w_11 =>
 Holds w_11 (⟨b_4, 0, none⟩ : Addr) 32 ((arrV .u8) v_8) ∧ (
 eqArrP 32 .u8 ((arrV .u8) r_10) ((arrV .u8) v_8) fun b_11 =>
 R (negB false b_11) w_11))) (
 chkP (decide ((IntKind.u64.wrap (IntKind.i64.wrap ((65 : Int) - ((SlV.sub key (0) (Int.toNat (if (200 : Int) < (key.len : Int) then (200 : Int) else (key.len : Int))) key.cap 1).len : Int)))) ≠ 0)) <|
 loadP w_5.drew (⟨b_4, 0, none⟩ : Addr) 32 (arrV .u8) fun v_12 =>
 (
 newP w_5.drew (.cells #[] 5) fun b_13 w_12 =>
 Holds w_12 (⟨b_4, 0, none⟩ : Addr) 32 ((arrV .u8) v_12) ∧ (
 (
 runP P (Builtin.append_ #[22, 22] 22 #[(SlV.val (SlV.mk (some (⟨b_13, 0, none⟩ : Addr)) 0 0)), (SlV.val (SlV.sub key (0) (Int.toNat (if (200 : Int) < (key.len : Int) then (200 : Int) else (key.len : Int))) key.cap 1))]) w_12 SlV.val fun r_14 w_13 =>
 Holds w_13 (⟨b_4, 0, none⟩ : Addr) 32 ((arrV .u8) v_12) ∧ (
 (
 runP P (Builtin.append_ #[22, 3] 22 #[(SlV.val r_14), (.int .i64 (IntKind.i64.wrap (Int.tmod (IntKind.u64.wrap noughts) (IntKind.u64.wrap (IntKind.i64.wrap ((65 : Int) - ((SlV.sub key (0) (Int.toNat (if (200 : Int) < (key.len : Int) then (200 : Int) else (key.len : Int))) key.cap 1).len : Int)))))))]) w_13 SlV.val fun r_15 w_14 =>
 Holds w_14 (⟨b_4, 0, none⟩ : Addr) 32 ((arrV .u8) v_12) ∧ (
 newP w_14 (.cells #[(SlV.val (SlV.sub b (0) (Int.toNat (if (300 : Int) < (b.len : Int) then (300 : Int) else (b.len : Int))) b.cap 1))] 22) fun b_16 w_15 =>
 Holds w_15 (⟨b_4, 0, none⟩ : Addr) 32 ((arrV .u8) v_12) ∧ (
 callP P 16 #[(SlV.val r_15), (SlV.val (SlV.mk (some (⟨b_16, 0, none⟩ : Addr)) 1 1))] w_15 (arrV .u8) fun r_17 w_16 =>
 Holds w_16 (⟨b_4, 0, none⟩ : Addr) 32 ((arrV .u8) v_12) ∧ (
 eqArrP 32 .u8 ((arrV .u8) r_17) ((arrV .u8) v_12) fun b_18 =>
 R (negB false b_18) w_16)))) ∧ (
 newP w_13 (.cells #[(SlV.val (SlV.sub b (0) (Int.toNat (if (300 : Int) < (b.len : Int) then (300 : Int) else (b.len : Int))) b.cap 1))] 22) fun b_19 w_17 =>
 Holds w_17 (⟨b_4, 0, none⟩ : Addr) 32 ((arrV .u8) v_12) ∧ (
 runP P (Builtin.append_ #[22, 3] 22 #[(SlV.val r_14), (.int .i64 (IntKind.i64.wrap (Int.tmod (IntKind.u64.wrap noughts) (IntKind.u64.wrap (IntKind.i64.wrap ((65 : Int) - ((SlV.sub key (0) (Int.toNat (if (200 : Int) < (key.len : Int) then (200 : Int) else (key.len : Int))) key.cap 1).len : Int)))))))]) w_17 SlV.val fun r_20 w_18 =>
 Holds w_18 (⟨b_4, 0, none⟩ : Addr) 32 ((arrV .u8) v_12) ∧ (
 callP P 16 #[(SlV.val r_20), (SlV.val (SlV.mk (some (⟨b_19, 0, none⟩ : Addr)) 1 1))] w_18 (arrV .u8) fun r_21 w_19 =>
 Holds w_19 (⟨b_4, 0, none⟩ : Addr) 32 ((arrV .u8) v_12) ∧ (
 eqArrP 32 .u8 ((arrV .u8) r_21) ((arrV .u8) v_12) fun b_22 =>
 R (negB false b_22) w_19)))))) ∧ (
 newP w_12 (.cells #[(SlV.val (SlV.sub b (0) (Int.toNat (if (300 : Int) < (b.len : Int) then (300 : Int) else (b.len : Int))) b.cap 1))] 22) fun b_23 w_20 =>
 Holds w_20 (⟨b_4, 0, none⟩ : Addr) 32 ((arrV .u8) v_12) ∧ (
 runP P (Builtin.append_ #[22, 22] 22 #[(SlV.val (SlV.mk (some (⟨b_13, 0, none⟩ : Addr)) 0 0)), (SlV.val (SlV.sub key (0) (Int.toNat (if (200 : Int) < (key.len : Int) then (200 : Int) else (key.len : Int))) key.cap 1))]) w_20 SlV.val fun r_24 w_21 =>
 Holds w_21 (⟨b_4, 0, none⟩ : Addr) 32 ((arrV .u8) v_12) ∧ (
 runP P (Builtin.append_ #[22, 3] 22 #[(SlV.val r_24), (.int .i64 (IntKind.i64.wrap (Int.tmod (IntKind.u64.wrap noughts) (IntKind.u64.wrap (IntKind.i64.wrap ((65 : Int) - ((SlV.sub key (0) (Int.toNat (if (200 : Int) < (key.len : Int) then (200 : Int) else (key.len : Int))) key.cap 1).len : Int)))))))]) w_21 SlV.val fun r_25 w_22 =>
 Holds w_22 (⟨b_4, 0, none⟩ : Addr) 32 ((arrV .u8) v_12) ∧ (
 callP P 16 #[(SlV.val r_25), (SlV.val (SlV.mk (some (⟨b_23, 0, none⟩ : Addr)) 1 1))] w_22 (arrV .u8) fun r_26 w_23 =>
 Holds w_23 (⟨b_4, 0, none⟩ : Addr) 32 ((arrV .u8) v_12) ∧ (
 eqArrP 32 .u8 ((arrV .u8) r_26) ((arrV .u8) v_12) fun b_27 =>
 R (negB false b_27) w_23))))))) ∧ (
 newP w_5.drew (.cells #[(SlV.val (SlV.sub b (0) (Int.toNat (if (300 : Int) < (b.len : Int) then (300 : Int) else (b.len : Int))) b.cap 1))] 22) fun b_28 w_24 =>
 Holds w_24 (⟨b_4, 0, none⟩ : Addr) 32 ((arrV .u8) v_12) ∧ (
 newP w_24 (.cells #[] 5) fun b_29 w_25 =>
 Holds w_25 (⟨b_4, 0, none⟩ : Addr) 32 ((arrV .u8) v_12) ∧ (
 runP P (Builtin.append_ #[22, 22] 22 #[(SlV.val (SlV.mk (some (⟨b_29, 0, none⟩ : Addr)) 0 0)), (SlV.val (SlV.sub key (0) (Int.toNat (if (200 : Int) < (key.len : Int) then (200 : Int) else (key.len : Int))) key.cap 1))]) w_25 SlV.val fun r_30 w_26 =>
 Holds w_26 (⟨b_4, 0, none⟩ : Addr) 32 ((arrV .u8) v_12) ∧ (
 runP P (Builtin.append_ #[22, 3] 22 #[(SlV.val r_30), (.int .i64 (IntKind.i64.wrap (Int.tmod (IntKind.u64.wrap noughts) (IntKind.u64.wrap (IntKind.i64.wrap ((65 : Int) - ((SlV.sub key (0) (Int.toNat (if (200 : Int) < (key.len : Int) then (200 : Int) else (key.len : Int))) key.cap 1).len : Int)))))))]) w_26 SlV.val fun r_31 w_27 =>
 Holds w_27 (⟨b_4, 0, none⟩ : Addr) 32 ((arrV .u8) v_12) ∧ (
 callP P 16 #[(SlV.val r_31), (SlV.val (SlV.mk (some (⟨b_28, 0, none⟩ : Addr)) 1 1))] w_27 (arrV .u8) fun r_32 w_28 =>
 Holds w_28 (⟨b_4, 0, none⟩ : Addr) 32 ((arrV .u8) v_12) ∧ (
 eqArrP 32 .u8 ((arrV .u8) r_32) ((arrV .u8) v_12) fun b_33 =>
 R (negB false b_33) w_28))))))))
def an4 : Ann := mkAnn [] []
theorem sf4_eq (key : SlV) (b : SlV) (noughts : Int) (w0 : World) (R : Bool → World → Prop) : sf4 key b noughts w0 R = vcFn P sh an4 Try.f4 [(SlV.val key), (SlV.val b), (.int .i64 noughts)] shBool w0 R := by kernel_rfl
theorem nm4 : (Try.f4.name == "runtime.NumGoroutine") = false := by kernel_rfl
theorem sf4_call (key : SlV) (b : SlV) (noughts : Int) (w0 : World) (R : Bool → World → Prop) (hsf : sf4 key b noughts w0 R) : callP P 4 #[(SlV.val key), (SlV.val b), (.int .i64 noughts)] w0 shBool.val R :=
  vcFn_sound mixed Try.func4 nm4 (Eq.mp (sf4_eq key b noughts w0 R) hsf)

/-- flume/flumelaw08.MacAgain -/
def sf5 (key : SlV) (a : SlV) (b : SlV) (w0 : World) (R : Bool → World → Prop) : Prop :=
 callP P 15 #[] w0 Value.bool fun r_1 w_1 =>
 cond' (!r_1) (
 R false w_1) (
 cond' (decide ((if (b.len : Int) > (if (a.len : Int) > (key.len : Int) then (a.len : Int) else (key.len : Int)) then (b.len : Int) else (if (a.len : Int) > (key.len : Int) then (a.len : Int) else (key.len : Int))) > (1000 : Int))) (
 R true w_1) (
 newP w_1 (.cells #[] 5) fun b_2 w_2 =>
 runP P (Builtin.append_ #[22, 22] 22 #[(SlV.val (SlV.mk (some (⟨b_2, 0, none⟩ : Addr)) 0 0)), (SlV.val a)]) w_2 SlV.val fun r_3 w_3 =>
 runP P (Builtin.append_ #[22, 22] 22 #[(SlV.val r_3), (SlV.val b)]) w_3 SlV.val fun r_4 w_4 =>
 newP w_4 (.cells #[(SlV.val a), (SlV.val b)] 22) fun b_5 w_5 =>
 callP P 16 #[(SlV.val key), (SlV.val (SlV.mk (some (⟨b_5, 0, none⟩ : Addr)) 2 2))] w_5 (arrV .u8) fun r_6 w_6 =>
 newP w_6 (.cells ((arrV .u8) (List.replicate 32 0)).cells 25) fun b_7 w_7 =>
 storeP w_7 (⟨b_7, 0, none⟩ : Addr) 32 ((arrV .u8) r_6) fun w_8 =>
 newP w_8 (.cells #[(SlV.val key)] 22) fun b_8 w_9 =>
 callP P 16 #[(SlV.val b), (SlV.val (SlV.mk (some (⟨b_8, 0, none⟩ : Addr)) 1 1))] w_9 (arrV .u8) fun r_9 w_10 =>
 newP w_10 (.cells #[(SlV.val a)] 22) fun b_10 w_11 =>
 callP P 17 #[(SlV.val (SlV.mk (some (⟨b_10, 0, none⟩ : Addr)) 1 1))] w_11 (arrV .u8) fun r_11 w_12 =>
 loadP w_12.drew (⟨b_7, 0, none⟩ : Addr) 32 (arrV .u8) fun v_12 =>
 newP w_12.drew (.cells #[(SlV.val r_4)] 22) fun b_13 w_13 =>
 Holds w_13 (⟨b_7, 0, none⟩ : Addr) 32 ((arrV .u8) v_12) ∧ (
 callP P 16 #[(SlV.val key), (SlV.val (SlV.mk (some (⟨b_13, 0, none⟩ : Addr)) 1 1))] w_13 (arrV .u8) fun r_14 w_14 =>
 Holds w_14 (⟨b_7, 0, none⟩ : Addr) 32 ((arrV .u8) v_12) ∧ (
 eqArrP 32 .u8 ((arrV .u8) r_14) ((arrV .u8) v_12) fun b_15 =>
 cond' (negB false b_15) (
 (
 newP w_14 (.cells #[(SlV.val a), (SlV.val b)] 22) fun b_17 w_15 =>
 (
 callP P 17 #[(SlV.val (SlV.mk (some (⟨b_17, 0, none⟩ : Addr)) 2 2))] w_15 (arrV .u8) fun r_18 w_16 =>
 newP w_16 (.cells #[(SlV.val r_4)] 22) fun b_19 w_17 =>
 callP P 17 #[(SlV.val (SlV.mk (some (⟨b_19, 0, none⟩ : Addr)) 1 1))] w_17 (arrV .u8) fun r_20 w_18 =>
 eqArrP 32 .u8 ((arrV .u8) r_18) ((arrV .u8) r_20) fun b_21 =>
 cond' (negB false b_21) (
 loadP w_18 (⟨b_7, 0, none⟩ : Addr) 32 (arrV .u8) fun v_23 =>
 newP w_18 (.cells #[(SlV.val SlV.nil), (SlV.val a), (SlV.val SlV.nil), (SlV.val b)] 22) fun b_24 w_19 =>
 Holds w_19 (⟨b_7, 0, none⟩ : Addr) 32 ((arrV .u8) v_23) ∧ (
 callP P 16 #[(SlV.val key), (SlV.val (SlV.mk (some (⟨b_24, 0, none⟩ : Addr)) 4 4))] w_19 (arrV .u8) fun r_25 w_20 =>
 Holds w_20 (⟨b_7, 0, none⟩ : Addr) 32 ((arrV .u8) v_23) ∧ (
 eqArrP 32 .u8 ((arrV .u8) r_25) ((arrV .u8) v_23) fun b_26 =>
 R (negB false b_26) w_20))) (
 R false w_18)) ∧ (
 newP w_15 (.cells #[(SlV.val r_4)] 22) fun b_27 w_21 =>
 callP P 17 #[(SlV.val (SlV.mk (some (⟨b_17, 0, none⟩ : Addr)) 2 2))] w_21 (arrV .u8) fun r_28 w_22 =>
 callP P 17 #[(SlV.val (SlV.mk (some (⟨b_27, 0, none⟩ : Addr)) 1 1))] w_22 (arrV .u8) fun r_29 w_23 =>
 eqArrP 32 .u8 ((arrV .u8) r_28) ((arrV .u8) r_29) fun b_30 =>
 cond' (negB false b_30) (
 loadP w_23 (⟨b_7, 0, none⟩ : Addr) 32 (arrV .u8) fun v_32 =>
 newP w_23 (.cells #[(SlV.val SlV.nil), (SlV.val a), (SlV.val SlV.nil), (SlV.val b)] 22) fun b_33 w_24 =>
 Holds w_24 (⟨b_7, 0, none⟩ : Addr) 32 ((arrV .u8) v_32) ∧ (
 callP P 16 #[(SlV.val key), (SlV.val (SlV.mk (some (⟨b_33, 0, none⟩ : Addr)) 4 4))] w_24 (arrV .u8) fun r_34 w_25 =>
 Holds w_25 (⟨b_7, 0, none⟩ : Addr) 32 ((arrV .u8) v_32) ∧ (
 eqArrP 32 .u8 ((arrV .u8) r_34) ((arrV .u8) v_32) fun b_35 =>
 R (negB false b_35) w_25))) (
 R false w_23))) ∧ (
 newP w_14 (.cells #[(SlV.val r_4)] 22) fun b_36 w_26 =>
 newP w_26 (.cells #[(SlV.val a), (SlV.val b)] 22) fun b_37 w_27 =>
 callP P 17 #[(SlV.val (SlV.mk (some (⟨b_37, 0, none⟩ : Addr)) 2 2))] w_27 (arrV .u8) fun r_38 w_28 =>
 callP P 17 #[(SlV.val (SlV.mk (some (⟨b_36, 0, none⟩ : Addr)) 1 1))] w_28 (arrV .u8) fun r_39 w_29 =>
 eqArrP 32 .u8 ((arrV .u8) r_38) ((arrV .u8) r_39) fun b_40 =>
 cond' (negB false b_40) (
 loadP w_29 (⟨b_7, 0, none⟩ : Addr) 32 (arrV .u8) fun v_42 =>
 newP w_29 (.cells #[(SlV.val SlV.nil), (SlV.val a), (SlV.val SlV.nil), (SlV.val b)] 22) fun b_43 w_30 =>
 Holds w_30 (⟨b_7, 0, none⟩ : Addr) 32 ((arrV .u8) v_42) ∧ (
 callP P 16 #[(SlV.val key), (SlV.val (SlV.mk (some (⟨b_43, 0, none⟩ : Addr)) 4 4))] w_30 (arrV .u8) fun r_44 w_31 =>
 Holds w_31 (⟨b_7, 0, none⟩ : Addr) 32 ((arrV .u8) v_42) ∧ (
 eqArrP 32 .u8 ((arrV .u8) r_44) ((arrV .u8) v_42) fun b_45 =>
 R (negB false b_45) w_31))) (
 R false w_29))) (
 (
 (
 R false w_14) ∧ (
 R false w_14)) ∧ (
 R false w_14))))))
def an5 : Ann := mkAnn [] []
theorem sf5_eq (key : SlV) (a : SlV) (b : SlV) (w0 : World) (R : Bool → World → Prop) : sf5 key a b w0 R = vcFn P sh an5 Try.f5 [(SlV.val key), (SlV.val a), (SlV.val b)] shBool w0 R := by kernel_rfl
theorem nm5 : (Try.f5.name == "runtime.NumGoroutine") = false := by kernel_rfl
theorem sf5_call (key : SlV) (a : SlV) (b : SlV) (w0 : World) (R : Bool → World → Prop) (hsf : sf5 key a b w0 R) : callP P 5 #[(SlV.val key), (SlV.val a), (SlV.val b)] w0 shBool.val R :=
  vcFn_sound mixed Try.func5 nm5 (Eq.mp (sf5_eq key a b w0 R) hsf)

/-- flume/flumelaw08.MacChains -/
def sf6 (key : SlV) (b : SlV) (n : Int) (w0 : World) (R : Bool → World → Prop) : Prop :=
 callP P 15 #[] w0 Value.bool fun r_1 w_1 =>
 cond' (!r_1) (
 R false w_1) (
 cond' (decide ((if (b.len : Int) > (key.len : Int) then (b.len : Int) else (key.len : Int)) > (500 : Int))) (
 R true w_1) (
 newP w_1 (.cells #[(SlV.val b)] 22) fun b_2 w_2 =>
 callP P 16 #[(SlV.val key), (SlV.val (SlV.mk (some (⟨b_2, 0, none⟩ : Addr)) 1 1))] w_2 (arrV .u8) fun r_3 w_3 =>
 newP w_3 (.cells #[(SlV.val b)] 22) fun b_4 w_4 =>
 callP P 16 #[(SlV.val key), (SlV.val (SlV.mk (some (⟨b_4, 0, none⟩ : Addr)) 1 1))] w_4 (arrV .u8) fun r_5 w_5 =>
 newP w_5 (.cells ((arrV .u8) (List.replicate 32 0)).cells 25) fun b_6 w_6 =>
 newP w_6 (.cells ((arrV .u8) (List.replicate 32 0)).cells 25) fun b_7 w_7 =>
 storeP w_7 (⟨b_6, 0, none⟩ : Addr) 32 ((arrV .u8) r_3) fun w_8 =>
 storeP w_8 (⟨b_7, 0, none⟩ : Addr) 32 ((arrV .u8) r_5) fun w_9 =>
 loopP (Int) (0 : Int) w_9 fun next__8 _ s_9 w_10 =>
 cond' (decide (s_9 < (IntKind.i64.wrap (Int.tmod (IntKind.u64.wrap n) (12 : Int))))) (
 newP w_10 (.cells #[(SlV.val b), (SlV.val key)] 22) fun b_10 w_11 =>
 callP P 16 #[(SlV.val (arrSub (⟨b_6, 0, none⟩ : Addr) 0 32 32 1)), (SlV.val (SlV.mk (some (⟨b_10, 0, none⟩ : Addr)) 2 2))] w_11 (arrV .u8) fun r_11 w_12 =>
 storeP w_12 (⟨b_6, 0, none⟩ : Addr) 32 ((arrV .u8) r_11) fun w_13 =>
 newP w_13.drew (.cells #[] 5) fun b_12 w_14 =>
 runP P (Builtin.append_ #[22, 22] 22 #[(SlV.val (SlV.mk (some (⟨b_12, 0, none⟩ : Addr)) 0 0)), (SlV.val b)]) w_14 SlV.val fun r_13 w_15 =>
 runP P (Builtin.append_ #[22, 22] 22 #[(SlV.val r_13), (SlV.val key)]) w_15 SlV.val fun r_14 w_16 =>
 newP w_16 (.cells #[(SlV.val r_14), (SlV.val SlV.nil)] 22) fun b_15 w_17 =>
 callP P 16 #[(SlV.val (arrSub (⟨b_7, 0, none⟩ : Addr) 0 32 32 1)), (SlV.val (SlV.mk (some (⟨b_15, 0, none⟩ : Addr)) 2 2))] w_17 (arrV .u8) fun r_16 w_18 =>
 storeP w_18 (⟨b_7, 0, none⟩ : Addr) 32 ((arrV .u8) r_16) fun w_19 =>
 next__8 (IntKind.i64.wrap (s_9 + (1 : Int))) w_19) (
 loadP w_10 (⟨b_6, 0, none⟩ : Addr) 32 (arrV .u8) fun v_17 =>
 loadP w_10 (⟨b_7, 0, none⟩ : Addr) 32 (arrV .u8) fun v_18 =>
 callP P 20 #[((arrV .u8) v_17), ((arrV .u8) v_18)] w_10 Value.bool fun r_19 w_20 =>
 R r_19 w_20)))
def an6 : Ann := mkAnn [(7, [(29, (shInt .i64))])] []
theorem sf6_eq (key : SlV) (b : SlV) (n : Int) (w0 : World) (R : Bool → World → Prop) : sf6 key b n w0 R = vcFn P sh an6 Try.f6 [(SlV.val key), (SlV.val b), (.int .i64 n)] shBool w0 R := by kernel_rfl
theorem nm6 : (Try.f6.name == "runtime.NumGoroutine") = false := by kernel_rfl
theorem sf6_call (key : SlV) (b : SlV) (n : Int) (w0 : World) (R : Bool → World → Prop) (hsf : sf6 key b n w0 R) : callP P 6 #[(SlV.val key), (SlV.val b), (.int .i64 n)] w0 shBool.val R :=
  vcFn_sound mixed Try.func6 nm6 (Eq.mp (sf6_eq key b n w0 R) hsf)

/-- flume/flumelaw09.CookieMakes -/
def sf7 (key : SlV) (c : CookieV) (later : Int) (w0 : World) (R : Bool → World → Prop) : Prop :=
 newP w0 (.cells (CookieV.val c).cells 36) fun b_1 w_1 =>
 callP P 21 #[] w_1 Value.bool fun r_2 w_2 =>
 cond' (!r_2) (
 R false w_2) (
 cond' (decide ((key.len : Int) > (500 : Int))) (
 R true w_2) (
 loadP w_2 (⟨b_1, 0, none⟩ : Addr) 11 CookieV.val fun v_3 =>
 callP P 22 #[(SlV.val key), (CookieV.val v_3)] w_2 SlV.val fun r_4 w_3 =>
 loadP w_3 ((⟨b_1, 0, none⟩ : Addr).add 8) 1 (Value.int .u32) fun v_5 =>
 callP P 23 #[(SlV.val key), (SlV.val r_4), (.int .u32 (IntKind.u32.wrap (v_5 + later)))] w_3 (tup2V CookieV.val (Value.int .i64)) fun r_6 w_4 =>
 newP w_4 (.cells (CookieV.val ({ Tag := 0, Peer := 0, Tsn := 0, PeerTsn := 0, Window := 0, Out := 0, In := 0, Features := 0, Made := 0, TieTag := 0, TiePeer := 0 } : CookieV)).cells 36) fun b_7 w_5 =>
 storeP w_5 (⟨b_7, 0, none⟩ : Addr) 11 (CookieV.val r_6.1) fun w_6 =>
 readP P (convert 22 9 (SlV.val r_4)) w_6.drew Value.string fun v_8 =>
 loadP w_6.drew (⟨b_1, 0, none⟩ : Addr) 11 CookieV.val fun v_9 =>
 callP P 25 #[(CookieV.val v_9)] w_6.drew SlV.val fun r_10 w_7 =>
 Still P (convert 22 9 (SlV.val r_4)) w_7 (.string v_8) ∧ (
 callP P 24 #[(SlV.val key), (SlV.val r_10)] w_7 SlV.val fun r_11 w_8 =>
 Still P (convert 22 9 (SlV.val r_4)) w_8 (.string v_8) ∧ (
 readP P (convert 22 9 (SlV.val r_11)) w_8 Value.string fun v_12 =>
 cond' (!(v_8.toList == v_12.toList)) (
 R false w_8) (
 cond' (decide (later > (600 : Int))) (
 cond' (r_6.2 == (91 : Int)) (
 loadP w_8 (⟨b_7, 0, none⟩ : Addr) 11 CookieV.val fun v_14 =>
 R (negB false ((v_14.Tag == 0) && ((v_14.Peer == 0) && ((v_14.Tsn == 0) && ((v_14.PeerTsn == 0) && ((v_14.Window == 0) && ((v_14.Out == 0) && ((v_14.In == 0) && ((v_14.Features == 0) && ((v_14.Made == 0) && ((v_14.TieTag == 0) && ((v_14.TiePeer == 0) && true)))))))))))) w_8) (
 R false w_8)) (
 cond' (r_6.2 == (0 : Int)) (
 loadP w_8 (⟨b_7, 0, none⟩ : Addr) 11 CookieV.val fun v_16 =>
 loadP w_8 (⟨b_1, 0, none⟩ : Addr) 11 CookieV.val fun v_17 =>
 R (negB false ((v_16.Tag == v_17.Tag) && ((v_16.Peer == v_17.Peer) && ((v_16.Tsn == v_17.Tsn) && ((v_16.PeerTsn == v_17.PeerTsn) && ((v_16.Window == v_17.Window) && ((v_16.Out == v_17.Out) && ((v_16.In == v_17.In) && ((v_16.Features == v_17.Features) && ((v_16.Made == v_17.Made) && ((v_16.TieTag == v_17.TieTag) && ((v_16.TiePeer == v_17.TiePeer) && true)))))))))))) w_8) (
 R false w_8)))))))
def an7 : Ann := mkAnn [] []
theorem sf7_eq (key : SlV) (c : CookieV) (later : Int) (w0 : World) (R : Bool → World → Prop) : sf7 key c later w0 R = vcFn P sh an7 Try.f7 [(SlV.val key), (CookieV.val c), (.int .u32 later)] shBool w0 R := by kernel_rfl
theorem nm7 : (Try.f7.name == "runtime.NumGoroutine") = false := by kernel_rfl
theorem sf7_call (key : SlV) (c : CookieV) (later : Int) (w0 : World) (R : Bool → World → Prop) (hsf : sf7 key c later w0 R) : callP P 7 #[(SlV.val key), (CookieV.val c), (.int .u32 later)] w0 shBool.val R :=
  vcFn_sound mixed Try.func7 nm7 (Eq.mp (sf7_eq key c later w0 R) hsf)

/-- flume/flumelaw09.CookieOpens -/
def sf8 (key : SlV) (b : SlV) (now : Int) (w0 : World) (R : Bool → World → Prop) : Prop :=
 callP P 21 #[] w0 Value.bool fun r_1 w_1 =>
 cond' (!r_1) (
 R false w_1) (
 cutP (Unit) (fun J_2 =>
 cond' (decide ((key.len : Int) > (500 : Int))) (
 R true w_1) (
 cond' (decide ((b.len : Int) > (500 : Int))) (
 R true w_1) (
 J_2 () w_1))) fun _ _ w_2 =>
 newP w_2 (.cells #[] 5) fun b_5 w_3 =>
 runP P (Builtin.append_ #[22, 22] 22 #[(SlV.val (SlV.mk (some (⟨b_5, 0, none⟩ : Addr)) 0 0)), (SlV.val b)]) w_3 SlV.val fun r_6 w_4 =>
 callP P 23 #[(SlV.val key), (SlV.val r_6), (.int .u32 now)] w_4 (tup2V CookieV.val (Value.int .i64)) fun r_7 w_5 =>
 newP w_5 (.cells (CookieV.val ({ Tag := 0, Peer := 0, Tsn := 0, PeerTsn := 0, Window := 0, Out := 0, In := 0, Features := 0, Made := 0, TieTag := 0, TiePeer := 0 } : CookieV)).cells 36) fun b_8 w_6 =>
 storeP w_6 (⟨b_8, 0, none⟩ : Addr) 11 (CookieV.val r_7.1) fun w_7 =>
 callP P 26 #[(SlV.val key), (SlV.val b), (.int .u32 now)] w_7 (tup2V CookieV.val (Value.int .i64)) fun r_9 w_8 =>
 newP w_8 (.cells (CookieV.val ({ Tag := 0, Peer := 0, Tsn := 0, PeerTsn := 0, Window := 0, Out := 0, In := 0, Features := 0, Made := 0, TieTag := 0, TiePeer := 0 } : CookieV)).cells 36) fun b_10 w_9 =>
 storeP w_9 (⟨b_10, 0, none⟩ : Addr) 11 (CookieV.val r_9.1) fun w_10 =>
 cutP (Unit) (fun J_11 =>
 cond' (r_7.2 != r_9.2) (
 R false w_10) (
 loadP w_10 (⟨b_8, 0, none⟩ : Addr) 11 CookieV.val fun v_14 =>
 loadP w_10 (⟨b_10, 0, none⟩ : Addr) 11 CookieV.val fun v_15 =>
 cond' (negB true ((v_14.Tag == v_15.Tag) && ((v_14.Peer == v_15.Peer) && ((v_14.Tsn == v_15.Tsn) && ((v_14.PeerTsn == v_15.PeerTsn) && ((v_14.Window == v_15.Window) && ((v_14.Out == v_15.Out) && ((v_14.In == v_15.In) && ((v_14.Features == v_15.Features) && ((v_14.Made == v_15.Made) && ((v_14.TieTag == v_15.TieTag) && ((v_14.TiePeer == v_15.TiePeer) && true)))))))))))) (
 R false w_10) (
 readP P (convert 22 9 (SlV.val r_6)) w_10 Value.string fun v_17 =>
 readP P (convert 22 9 (SlV.val b)) w_10 Value.string fun v_18 =>
 cond' (!(v_17.toList == v_18.toList)) (
 R false w_10) (
 J_11 () w_10)))) fun _ _ w_11 =>
 cond' (decide ((b.len : Int) < (38 : Int))) (
 R true w_11) (
 chkP (leR (38 : Int) (b.cap : Int)) <|
 callP P 24 #[(SlV.val key), (SlV.val (SlV.sub b (0) (38) b.cap 1))] w_11 SlV.val fun r_19 w_12 =>
 callP P 23 #[(SlV.val key), (SlV.val r_19), (.int .u32 now)] w_12 (tup2V CookieV.val (Value.int .i64)) fun r_20 w_13 =>
 storeP w_13 (⟨b_8, 0, none⟩ : Addr) 11 (CookieV.val r_20.1) fun w_14 =>
 callP P 26 #[(SlV.val key), (SlV.val r_19), (.int .u32 now)] w_14 (tup2V CookieV.val (Value.int .i64)) fun r_21 w_15 =>
 storeP w_15 (⟨b_10, 0, none⟩ : Addr) 11 (CookieV.val r_21.1) fun w_16 =>
 cond' (r_20.2 == r_21.2) (
 loadP w_16 (⟨b_8, 0, none⟩ : Addr) 11 CookieV.val fun v_23 =>
 loadP w_16 (⟨b_10, 0, none⟩ : Addr) 11 CookieV.val fun v_24 =>
 R (negB false ((v_23.Tag == v_24.Tag) && ((v_23.Peer == v_24.Peer) && ((v_23.Tsn == v_24.Tsn) && ((v_23.PeerTsn == v_24.PeerTsn) && ((v_23.Window == v_24.Window) && ((v_23.Out == v_24.Out) && ((v_23.In == v_24.In) && ((v_23.Features == v_24.Features) && ((v_23.Made == v_24.Made) && ((v_23.TieTag == v_24.TieTag) && ((v_23.TiePeer == v_24.TiePeer) && true)))))))))))) w_16) (
 R false w_16)))
def an8 : Ann := mkAnn [] [(5, []), (10, [])]
theorem sf8_eq (key : SlV) (b : SlV) (now : Int) (w0 : World) (R : Bool → World → Prop) : sf8 key b now w0 R = vcFn P sh an8 Try.f8 [(SlV.val key), (SlV.val b), (.int .u32 now)] shBool w0 R := by kernel_rfl
theorem nm8 : (Try.f8.name == "runtime.NumGoroutine") = false := by kernel_rfl
theorem sf8_call (key : SlV) (b : SlV) (now : Int) (w0 : World) (R : Bool → World → Prop) (hsf : sf8 key b now w0 R) : callP P 8 #[(SlV.val key), (SlV.val b), (.int .u32 now)] w0 shBool.val R :=
  vcFn_sound mixed Try.func8 nm8 (Eq.mp (sf8_eq key b now w0 R) hsf)

/-- flume/flumelaw09.CookieAges -/
def sf10 (c : CookieV) (now : Int) (w0 : World) (R : Bool → World → Prop) : Prop :=
 newP w0 (.cells (CookieV.val c).cells 36) fun b_1 w_1 =>
 callP P 21 #[] w_1 Value.bool fun r_2 w_2 =>
 cond' (!r_2) (
 R false w_2) (
 newP w_2 (.cells #[(.int .u8 (107 : Int)), (.int .u8 (101 : Int)), (.int .u8 (121 : Int))] 5) fun b_3 w_3 =>
 runP P (convert 22 22 (SlV.val (SlV.mk (some (⟨b_3, 0, none⟩ : Addr)) 3 3))) w_3 SlV.val fun r_4 w_4 =>
 loadP w_4 (⟨b_1, 0, none⟩ : Addr) 11 CookieV.val fun v_5 =>
 callP P 22 #[(SlV.val r_4), (CookieV.val v_5)] w_4 SlV.val fun r_6 w_5 =>
 newP w_5 (.cells #[(.int .u8 (107 : Int)), (.int .u8 (101 : Int)), (.int .u8 (121 : Int))] 5) fun b_7 w_6 =>
 runP P (convert 22 22 (SlV.val (SlV.mk (some (⟨b_7, 0, none⟩ : Addr)) 3 3))) w_6 SlV.val fun r_8 w_7 =>
 callP P 23 #[(SlV.val r_8), (SlV.val r_6), (.int .u32 now)] w_7 (tup2V CookieV.val (Value.int .i64)) fun r_9 w_8 =>
 newP w_8 (.cells (CookieV.val ({ Tag := 0, Peer := 0, Tsn := 0, PeerTsn := 0, Window := 0, Out := 0, In := 0, Features := 0, Made := 0, TieTag := 0, TiePeer := 0 } : CookieV)).cells 36) fun b_10 w_9 =>
 storeP w_9 (⟨b_10, 0, none⟩ : Addr) 11 (CookieV.val r_9.1) fun w_10 =>
 newP w_10 (.cells #[(.int .u8 (107 : Int)), (.int .u8 (101 : Int)), (.int .u8 (121 : Int))] 5) fun b_11 w_11 =>
 runP P (convert 22 22 (SlV.val (SlV.mk (some (⟨b_11, 0, none⟩ : Addr)) 3 3))) w_11 SlV.val fun r_12 w_12 =>
 loadP w_12 ((⟨b_1, 0, none⟩ : Addr).add 8) 1 (Value.int .u32) fun v_13 =>
 callP P 23 #[(SlV.val r_12), (SlV.val r_6), (.int .u32 (IntKind.u32.wrap (v_13 + (600 : Int))))] w_12 (tup2V CookieV.val (Value.int .i64)) fun r_14 w_13 =>
 newP w_13 (.cells (CookieV.val ({ Tag := 0, Peer := 0, Tsn := 0, PeerTsn := 0, Window := 0, Out := 0, In := 0, Features := 0, Made := 0, TieTag := 0, TiePeer := 0 } : CookieV)).cells 36) fun b_15 w_14 =>
 storeP w_14 (⟨b_15, 0, none⟩ : Addr) 11 (CookieV.val r_14.1) fun w_15 =>
 newP w_15 (.cells #[(.int .u8 (107 : Int)), (.int .u8 (101 : Int)), (.int .u8 (121 : Int))] 5) fun b_16 w_16 =>
 runP P (convert 22 22 (SlV.val (SlV.mk (some (⟨b_16, 0, none⟩ : Addr)) 3 3))) w_16 SlV.val fun r_17 w_17 =>
 loadP w_17 ((⟨b_1, 0, none⟩ : Addr).add 8) 1 (Value.int .u32) fun v_18 =>
 callP P 23 #[(SlV.val r_17), (SlV.val r_6), (.int .u32 (IntKind.u32.wrap (v_18 + (601 : Int))))] w_17 (tup2V CookieV.val (Value.int .i64)) fun r_19 w_18 =>
 newP w_18 (.cells (CookieV.val ({ Tag := 0, Peer := 0, Tsn := 0, PeerTsn := 0, Window := 0, Out := 0, In := 0, Features := 0, Made := 0, TieTag := 0, TiePeer := 0 } : CookieV)).cells 36) fun b_20 w_19 =>
 storeP w_19 (⟨b_20, 0, none⟩ : Addr) 11 (CookieV.val r_19.1) fun w_20 =>
 newP w_20 (.cells #[(.int .u8 (107 : Int)), (.int .u8 (101 : Int)), (.int .u8 (121 : Int))] 5) fun b_21 w_21 =>
 runP P (convert 22 22 (SlV.val (SlV.mk (some (⟨b_21, 0, none⟩ : Addr)) 3 3))) w_21 SlV.val fun r_22 w_22 =>
 loadP w_22 ((⟨b_1, 0, none⟩ : Addr).add 8) 1 (Value.int .u32) fun v_23 =>
 callP P 23 #[(SlV.val r_22), (SlV.val r_6), (.int .u32 (IntKind.u32.wrap (v_23 - (1 : Int))))] w_22 (tup2V CookieV.val (Value.int .i64)) fun r_24 w_23 =>
 newP w_23 (.cells (CookieV.val ({ Tag := 0, Peer := 0, Tsn := 0, PeerTsn := 0, Window := 0, Out := 0, In := 0, Features := 0, Made := 0, TieTag := 0, TiePeer := 0 } : CookieV)).cells 36) fun b_25 w_24 =>
 storeP w_24 (⟨b_25, 0, none⟩ : Addr) 11 (CookieV.val r_24.1) fun w_25 =>
 loadP w_25 ((⟨b_1, 0, none⟩ : Addr).add 8) 1 (Value.int .u32) fun v_26 =>
 cond' (negB false ((r_9.2 == (0 : Int)) == (decide ((IntKind.u32.wrap (now - v_26)) ≤ (600 : Int))))) (
 cond' (r_14.2 == (0 : Int)) (
 cond' (r_19.2 == (91 : Int)) (
 R (r_24.2 == (91 : Int)) w_25) (
 R false w_25)) (
 R false w_25)) (
 R false w_25))
def an10 : Ann := mkAnn [] []
theorem sf10_eq (c : CookieV) (now : Int) (w0 : World) (R : Bool → World → Prop) : sf10 c now w0 R = vcFn P sh an10 Try.f10 [(CookieV.val c), (.int .u32 now)] shBool w0 R := by kernel_rfl
theorem nm10 : (Try.f10.name == "runtime.NumGoroutine") = false := by kernel_rfl
theorem sf10_call (c : CookieV) (now : Int) (w0 : World) (R : Bool → World → Prop) (hsf : sf10 c now w0 R) : callP P 10 #[(CookieV.val c), (.int .u32 now)] w0 shBool.val R :=
  vcFn_sound mixed Try.func10 nm10 (Eq.mp (sf10_eq c now w0 R) hsf)

/-- flume/flumelaw19.ShakeBreaks -/
def sf11 (a : EndV) (b : EndV) (c : NoteV) (w0 : World) (R : Bool → World → Prop) : Prop :=
 newP w0 (.cells (EndV.val a).cells 50) fun b_1 w_1 =>
 newP w_1 (.cells (EndV.val b).cells 50) fun b_2 w_2 =>
 newP w_2 (.cells (NoteV.val c).cells 59) fun b_3 w_3 =>
 loadP w_3.drew ((⟨b_3, 0, none⟩ : Addr).add 0) 1 (Value.int .u32) fun v_4 =>
 loadP w_3.drew (((⟨b_3, 0, none⟩ : Addr).add 1).add 4) 1 Value.bool fun v_5 =>
 callP P 27 #[] w_3.drew Value.bool fun r_6 w_4 =>
 cond' (!r_6) (
 R false w_4) (
 cutP (Unit) (fun J_7 =>
 loadP w_4 ((⟨b_1, 0, none⟩ : Addr).add 0) 1 (Value.int .u32) fun v_9 =>
 cond' (v_9 == (0 : Int)) (
 R true w_4) (
 loadP w_4 ((⟨b_2, 0, none⟩ : Addr).add 0) 1 (Value.int .u32) fun v_11 =>
 cond' (v_11 == (0 : Int)) (
 R true w_4) (
 loadP w_4 ((⟨b_1, 0, none⟩ : Addr).add 4) 1 Value.string fun v_13 =>
 loadP w_4 ((⟨b_2, 0, none⟩ : Addr).add 4) 1 Value.string fun v_14 =>
 cond' (decide ((if (v_14.size : Int) > (v_13.size : Int) then (v_14.size : Int) else (v_13.size : Int)) > (100 : Int))) (
 R true w_4) (
 J_7 () w_4)))) fun _ _ w_5 =>
 loadP w_5 (⟨b_1, 0, none⟩ : Addr) 5 EndV.val fun v_15 =>
 callP P 28 #[(EndV.val v_15)] w_5 (tup2V Value.pointer (Value.int .i64)) fun r_16 w_6 =>
 loadP w_6 (⟨b_2, 0, none⟩ : Addr) 5 EndV.val fun v_17 =>
 callP P 28 #[(EndV.val v_17)] w_6 (tup2V Value.pointer (Value.int .i64)) fun r_18 w_7 =>
 callP P 29 #[(.pointer r_16.1)] w_7 SlV.val fun r_19 w_8 =>
 cutP (Unit) (fun J_20 =>
 loopP (SlV × Int) (r_19, (0 : Int)) w_8 fun next__22 _ s_23 w_10 =>
 cutP (Unit) (fun J_24 =>
 cond' (decide (s_23.2 < (4 : Int))) (
 cond' ((s_23.1.len : Int) == (1 : Int)) (
 J_24 () w_10) (
 J_20 () w_10)) (
 J_20 () w_10)) fun _ _ w_11 =>
 cond' ((Int.tmod s_23.2 (2 : Int)) == (0 : Int)) (
 chkP (inR (0 : Int) s_23.1.len) <|
 nilP s_23.1.a fun a_27 =>
 loadP w_11.drew ((a_27.add (Int.toNat (0 : Int) * 20)).add 0) 1 (Value.int .u32) fun v_28 =>
 chkP (inR (0 : Int) s_23.1.len) <|
 nilP s_23.1.a fun a_29 =>
 loadP w_11.drew ((a_29.add (Int.toNat (0 : Int) * 20)).add 1) 19 ChunkV.val fun v_30 =>
 callP P 30 #[(.pointer r_18.1), (.int .u32 v_28), (ChunkV.val v_30), (.int .u64 (5 : Int))] w_11.drew SlV.val fun r_31 w_12 =>
 next__22 (r_31, (IntKind.i64.wrap (s_23.2 + (1 : Int)))) w_12) (
 chkP (inR (0 : Int) s_23.1.len) <|
 nilP s_23.1.a fun a_32 =>
 loadP w_11.drew ((a_32.add (Int.toNat (0 : Int) * 20)).add 0) 1 (Value.int .u32) fun v_33 =>
 chkP (inR (0 : Int) s_23.1.len) <|
 nilP s_23.1.a fun a_34 =>
 loadP w_11.drew ((a_34.add (Int.toNat (0 : Int) * 20)).add 1) 19 ChunkV.val fun v_35 =>
 callP P 30 #[(.pointer r_16.1), (.int .u32 v_33), (ChunkV.val v_35), (.int .u64 (5 : Int))] w_11.drew SlV.val fun r_36 w_13 =>
 next__22 (r_36, (IntKind.i64.wrap (s_23.2 + (1 : Int)))) w_13)) fun _ _ w_9 =>
 cutP (Unit) (fun J_37 =>
 callP P 31 #[(.pointer r_16.1)] w_9 (Value.int .i64) fun r_39 w_15 =>
 cond' (r_39 != (3 : Int)) (
 R false w_15) (
 callP P 31 #[(.pointer r_18.1)] w_15 (Value.int .i64) fun r_41 w_16 =>
 cond' (r_41 != (3 : Int)) (
 R false w_16) (
 J_37 () w_16))) fun _ _ w_14 =>
 cutP (Unit) (fun J_42 =>
 cutP (Bool) (fun J_44 =>
 loadP w_14 ((⟨b_1, 0, none⟩ : Addr).add 0) 1 (Value.int .u32) fun v_46 =>
 cond' (v_4 != v_46) (
 loadP w_14 ((⟨b_2, 0, none⟩ : Addr).add 0) 1 (Value.int .u32) fun v_48 =>
 J_44 (v_4 != v_48) w_14) (
 J_44 false w_14)) fun _ s_45 w_18 =>
 cond' s_45 (
 callP P 30 #[(.pointer r_16.1), (.int .u32 v_4), (ChunkV.val ({ Kind := (6 : Int), Begin := false, End := false, Loose := false, Bare := v_5, Tsn := 0, Stream := 0, Mid := 0, Ppid := 0, Frag := 0, Tag := 0, Window := 0, Out := 0, In := 0, Gaps := SlV.nil, Dups := SlV.nil, Skips := SlV.nil, Params := SlV.nil, Body := SlV.nil } : ChunkV)), (.int .u64 (6 : Int))] w_18 SlV.val fun r_49 w_19 =>
 callP P 31 #[(.pointer r_16.1)] w_19 (Value.int .i64) fun r_50 w_20 =>
 cond' (r_50 != (3 : Int)) (
 R false w_20) (
 J_42 () w_20)) (
 J_42 () w_18)) fun _ _ w_17 =>
 callP P 32 #[(.pointer r_16.1)] w_17 SlV.val fun r_51 w_21 =>
 cutP (Unit) (fun J_52 =>
 callP P 31 #[(.pointer r_16.1)] w_21.drew (Value.int .i64) fun r_54 w_23 =>
 cond' (r_54 != (9 : Int)) (
 R false w_23) (
 cond' ((r_51.len : Int) != (1 : Int)) (
 R false w_23) (
 chkP (inR (0 : Int) r_51.len) <|
 nilP r_51.a fun a_57 =>
 loadP w_23 ((a_57.add (Int.toNat (0 : Int) * 20)).add 0) 1 (Value.int .u32) fun v_58 =>
 loadP w_23 ((⟨b_2, 0, none⟩ : Addr).add 0) 1 (Value.int .u32) fun v_59 =>
 cond' (v_58 != v_59) (
 R false w_23) (
 callP P 32 #[(.pointer r_16.1)] w_23 SlV.val fun r_61 w_24 =>
 cond' ((r_61.len : Int) != (0 : Int)) (
 R false w_24) (
 J_52 () w_24))))) fun _ _ w_22 =>
 chkP (inR (0 : Int) r_51.len) <|
 nilP r_51.a fun a_62 =>
 loadP w_22.drew ((a_62.add (Int.toNat (0 : Int) * 20)).add 0) 1 (Value.int .u32) fun v_63 =>
 chkP (inR (0 : Int) r_51.len) <|
 nilP r_51.a fun a_64 =>
 loadP w_22.drew ((a_64.add (Int.toNat (0 : Int) * 20)).add 1) 19 ChunkV.val fun v_65 =>
 callP P 30 #[(.pointer r_18.1), (.int .u32 v_63), (ChunkV.val v_65), (.int .u64 (7 : Int))] w_22.drew SlV.val fun r_66 w_25 =>
 callP P 31 #[(.pointer r_18.1)] w_25 (Value.int .i64) fun r_67 w_26 =>
 cond' (r_67 == (9 : Int)) (
 loadP w_26 ((⟨b_2, 0, none⟩ : Addr).add 0) 1 (Value.int .u32) fun v_69 =>
 callP P 30 #[(.pointer r_18.1), (.int .u32 v_69), (ChunkV.val ({ Kind := (7 : Int), Begin := false, End := false, Loose := false, Bare := false, Tsn := 0, Stream := 0, Mid := 0, Ppid := 0, Frag := 0, Tag := 0, Window := 0, Out := 0, In := 0, Gaps := SlV.nil, Dups := SlV.nil, Skips := SlV.nil, Params := SlV.nil, Body := SlV.nil } : ChunkV)), (.int .u64 (8 : Int))] w_26 SlV.val fun r_70 w_27 =>
 cond' ((r_70.len : Int) == (0 : Int)) (
 callP P 33 #[(.pointer r_18.1)] w_27 Value.bool fun r_72 w_28 =>
 R (!r_72) w_28) (
 R false w_27)) (
 R false w_26))
def an11 : Ann := mkAnn [(10, [(13, shSl), (14, (shInt .i64))])] [(6, []), (12, []), (15, []), (17, []), (18, [(101, shBool)]), (21, []), (24, [])]
theorem sf11_eq (a : EndV) (b : EndV) (c : NoteV) (w0 : World) (R : Bool → World → Prop) : sf11 a b c w0 R = vcFn P sh an11 Try.f11 [(EndV.val a), (EndV.val b), (NoteV.val c)] shBool w0 R := by kernel_rfl
theorem nm11 : (Try.f11.name == "runtime.NumGoroutine") = false := by kernel_rfl
theorem sf11_call (a : EndV) (b : EndV) (c : NoteV) (w0 : World) (R : Bool → World → Prop) (hsf : sf11 a b c w0 R) : callP P 11 #[(EndV.val a), (EndV.val b), (NoteV.val c)] w0 shBool.val R :=
  vcFn_sound mixed Try.func11 nm11 (Eq.mp (sf11_eq a b c w0 R) hsf)

/-- flume/flumelaw19.ShakeTries -/
def sf12 (a : EndV) (more : Int) (w0 : World) (R : Bool → World → Prop) : Prop :=
 newP w0 (.cells (EndV.val a).cells 50) fun b_1 w_1 =>
 callP P 27 #[] w_1 Value.bool fun r_2 w_2 =>
 cond' (!r_2) (
 R false w_2) (
 cutP (Unit) (fun J_3 =>
 loadP w_2 ((⟨b_1, 0, none⟩ : Addr).add 0) 1 (Value.int .u32) fun v_5 =>
 cond' (v_5 == (0 : Int)) (
 R true w_2) (
 loadP w_2 ((⟨b_1, 0, none⟩ : Addr).add 4) 1 Value.string fun v_7 =>
 cond' (decide ((v_7.size : Int) > (100 : Int))) (
 R true w_2) (
 J_3 () w_2))) fun _ _ w_3 =>
 loadP w_3 (⟨b_1, 0, none⟩ : Addr) 5 EndV.val fun v_8 =>
 callP P 28 #[(EndV.val v_8)] w_3 (tup2V Value.pointer (Value.int .i64)) fun r_9 w_4 =>
 callP P 29 #[(.pointer r_9.1)] w_4 SlV.val fun r_10 w_5 =>
 cond' ((r_10.len : Int) != (1 : Int)) (
 R false w_5) (
 loopP (Int) (0 : Int) w_5 fun next__11 _ s_12 w_6 =>
 cond' (decide (s_12 < (8 : Int))) (
 callP P 34 #[(.pointer r_9.1), (.int .u32 (0 : Int))] w_6 SlV.val fun r_13 w_7 =>
 cond' ((r_13.len : Int) != (1 : Int)) (
 R false w_7.drew) (
 chkP (inR (0 : Int) r_13.len) <|
 nilP r_13.a fun a_15 =>
 loadP w_7.drew ((a_15.add (Int.toNat (0 : Int) * 20)).add 0) 1 (Value.int .u32) fun v_16 =>
 cond' (v_16 != (0 : Int)) (
 R false w_7.drew) (
 chkP (inR (0 : Int) r_13.len) <|
 nilP r_13.a fun a_18 =>
 loadP w_7.drew ((a_18.add (Int.toNat (0 : Int) * 20)).add 1) 19 ChunkV.val fun v_19 =>
 chkP (inR (0 : Int) r_10.len) <|
 nilP r_10.a fun a_20 =>
 loadP w_7.drew ((a_20.add (Int.toNat (0 : Int) * 20)).add 1) 19 ChunkV.val fun v_21 =>
 callP P 35 #[(ChunkV.val v_19), (ChunkV.val v_21)] w_7.drew Value.bool fun r_22 w_8 =>
 cond' (!r_22) (
 R false w_8) (
 callP P 31 #[(.pointer r_9.1)] w_8 (Value.int .i64) fun r_24 w_9 =>
 cond' (r_24 != (1 : Int)) (
 R false w_9) (
 next__11 (IntKind.i64.wrap (s_12 + (1 : Int))) w_9))))) (
 loopP (Int) (0 : Int) w_6 fun next__25 _ s_26 w_10 =>
 cond' (decide (s_26 < (IntKind.i64.wrap ((1 : Int) + (IntKind.i64.wrap (Int.tmod (IntKind.u64.wrap more) (5 : Int))))))) (
 callP P 34 #[(.pointer r_9.1), (.int .u32 (0 : Int))] w_10 SlV.val fun r_27 w_11 =>
 cond' ((r_27.len : Int) != (0 : Int)) (
 R false w_11) (
 callP P 31 #[(.pointer r_9.1)] w_11 (Value.int .i64) fun r_29 w_12 =>
 cond' (r_29 != (9 : Int)) (
 R false w_12) (
 next__25 (IntKind.i64.wrap (s_26 + (1 : Int))) w_12))) (
 callP P 29 #[(.pointer r_9.1)] w_10 SlV.val fun r_30 w_13 =>
 cond' ((r_30.len : Int) == (0 : Int)) (
 chkP (inR (0 : Int) r_10.len) <|
 nilP r_10.a fun a_32 =>
 loadP w_13 ((a_32.add (Int.toNat (0 : Int) * 20)).add 1) 19 ChunkV.val fun v_33 =>
 callP P 30 #[(.pointer r_9.1), (.int .u32 (0 : Int)), (ChunkV.val v_33), (.int .u64 (1 : Int))] w_13 SlV.val fun r_34 w_14 =>
 cond' ((r_34.len : Int) == (0 : Int)) (
 callP P 36 #[(.pointer r_9.1)] w_14 MetV.val fun r_36 w_15 =>
 R (negB false ((r_36.Tag == 0) && ((r_36.Tsn == 0) && ((r_36.Window == 0) && ((r_36.Inter == false) && true))))) w_15) (
 R false w_14)) (
 R false w_13)))))
def an12 : Ann := mkAnn [(10, [(30, (shInt .i64))]), (16, [(67, (shInt .i64))])] [(5, [])]
theorem sf12_eq (a : EndV) (more : Int) (w0 : World) (R : Bool → World → Prop) : sf12 a more w0 R = vcFn P sh an12 Try.f12 [(EndV.val a), (.int .i64 more)] shBool w0 R := by kernel_rfl
theorem nm12 : (Try.f12.name == "runtime.NumGoroutine") = false := by kernel_rfl
theorem sf12_call (a : EndV) (more : Int) (w0 : World) (R : Bool → World → Prop) (hsf : sf12 a more w0 R) : callP P 12 #[(EndV.val a), (.int .i64 more)] w0 shBool.val R :=
  vcFn_sound mixed Try.func12 nm12 (Eq.mp (sf12_eq a more w0 R) hsf)

end Go.Vc.SA

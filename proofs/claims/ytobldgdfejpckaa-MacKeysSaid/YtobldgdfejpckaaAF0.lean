/-
  What functions of the program come to, read off their code. No condition.
-/
import Derived.Test.YtobldgdfejpckaaASh
set_option linter.all false
set_option linter.unusedVariables false
set_option maxRecDepth 100000
namespace Go.Vc.SA
open Go.Proofs
/-- flume/flumelaw08.MacKeys -/
def sf4 (key : SlV) (b : SlV) (noughts : Int) (w0 : World) (R : Bool → World → Prop) : Prop :=
 callP P 15 #[] w0 Value.bool fun r_1 w_1 =>
 cond' (!r_1) (
 R false w_1) (
 chkP (leR (if (200 : Int) < (key.len : Int) then (200 : Int) else (key.len : Int)) (key.cap : Int)) <|
 chkP (leR 0 (if (200 : Int) < (key.len : Int) then (200 : Int) else (key.len : Int))) <|
 chkP (leR (if (300 : Int) < (b.len : Int) then (300 : Int) else (b.len : Int)) (b.cap : Int)) <|
 chkP (leR 0 (if (300 : Int) < (b.len : Int) then (300 : Int) else (b.len : Int))) <|
 newP w_1.drew (.cells #[(SlV.val (SlV.sub b (0) (Int.toNat (if (300 : Int) < (b.len : Int) then (300 : Int) else (b.len : Int))) b.cap 1))] 22) fun b_2 w_2 =>
 callP P 16 #[(SlV.val (SlV.sub key (0) (Int.toNat (if (200 : Int) < (key.len : Int) then (200 : Int) else (key.len : Int))) key.cap 1)), (SlV.val (SlV.mk (some (⟨b_2, 0, none⟩ : Addr)) 1 1))] w_2 (arrV .u8) fun r_3 w_3 =>
 newP w_3 (.cells ((arrV .u8) (List.replicate 32 0)).cells 25) fun b_4 w_4 =>
 storeP w_4 (⟨b_4, 0, none⟩ : Addr) 32 ((arrV .u8) r_3) fun w_5 =>
 cond' (decide (((SlV.sub key (0) (Int.toNat (if (200 : Int) < (key.len : Int) then (200 : Int) else (key.len : Int))) key.cap 1).len : Int) > (64 : Int))) (
 newP w_5 (.cells #[(SlV.val (SlV.sub key (0) (Int.toNat (if (200 : Int) < (key.len : Int) then (200 : Int) else (key.len : Int))) key.cap 1))] 22) fun b_5 w_6 =>
 callP P 17 #[(SlV.val (SlV.mk (some (⟨b_5, 0, none⟩ : Addr)) 1 1))] w_6 (arrV .u8) fun r_6 w_7 =>
 newP w_7 (.cells ((arrV .u8) (List.replicate 32 0)).cells 25) fun b_7 w_8 =>
 storeP w_8 (⟨b_7, 0, none⟩ : Addr) 32 ((arrV .u8) r_6) fun w_9 =>
 loadP w_9.drew (⟨b_4, 0, none⟩ : Addr) 32 (arrV .u8) fun v_8 =>
 newP w_9.drew (.cells #[(SlV.val (SlV.sub b (0) (Int.toNat (if (300 : Int) < (b.len : Int) then (300 : Int) else (b.len : Int))) b.cap 1))] 22) fun b_9 w_10 =>
 Holds w_10 (⟨b_4, 0, none⟩ : Addr) 32 ((arrV .u8) v_8) ∧ (
 callP P 16 #[(SlV.val (arrSub (⟨b_7, 0, none⟩ : Addr) 0 32 32 1)), (SlV.val (SlV.mk (some (⟨b_9, 0, none⟩ : Addr)) 1 1))] w_10 (arrV .u8) fun r_10 w_11 =>
 Holds w_11 (⟨b_4, 0, none⟩ : Addr) 32 ((arrV .u8) v_8) ∧ (
 eqArrP 32 .u8 ((arrV .u8) r_10) ((arrV .u8) v_8) fun b_11 =>
 R (negB false b_11) w_11))) (
 chkP (decide ((IntKind.u64.wrap (IntKind.i64.wrap ((65 : Int) - ((SlV.sub key (0) (Int.toNat (if (200 : Int) < (key.len : Int) then (200 : Int) else (key.len : Int))) key.cap 1).len : Int)))) ≠ 0)) <|
 loadP w_5.drew (⟨b_4, 0, none⟩ : Addr) 32 (arrV .u8) fun v_12 =>
 (
 newP w_5.drew (.cells #[] 5) fun b_13 w_12 =>
 Holds w_12 (⟨b_4, 0, none⟩ : Addr) 32 ((arrV .u8) v_12) ∧ (
 (
 runP P (Builtin.append_ #[22, 22] 22 #[(SlV.val (SlV.mk (some (⟨b_13, 0, none⟩ : Addr)) 0 0)), (SlV.val (SlV.sub key (0) (Int.toNat (if (200 : Int) < (key.len : Int) then (200 : Int) else (key.len : Int))) key.cap 1))]) w_12 SlV.val fun r_14 w_13 =>
 Holds w_13 (⟨b_4, 0, none⟩ : Addr) 32 ((arrV .u8) v_12) ∧ (
 (
 runP P (Builtin.append_ #[22, 3] 22 #[(SlV.val r_14), (.int .i64 (IntKind.i64.wrap (Int.tmod (IntKind.u64.wrap noughts) (IntKind.u64.wrap (IntKind.i64.wrap ((65 : Int) - ((SlV.sub key (0) (Int.toNat (if (200 : Int) < (key.len : Int) then (200 : Int) else (key.len : Int))) key.cap 1).len : Int)))))))]) w_13 SlV.val fun r_15 w_14 =>
 Holds w_14 (⟨b_4, 0, none⟩ : Addr) 32 ((arrV .u8) v_12) ∧ (
 newP w_14 (.cells #[(SlV.val (SlV.sub b (0) (Int.toNat (if (300 : Int) < (b.len : Int) then (300 : Int) else (b.len : Int))) b.cap 1))] 22) fun b_16 w_15 =>
 Holds w_15 (⟨b_4, 0, none⟩ : Addr) 32 ((arrV .u8) v_12) ∧ (
 callP P 16 #[(SlV.val r_15), (SlV.val (SlV.mk (some (⟨b_16, 0, none⟩ : Addr)) 1 1))] w_15 (arrV .u8) fun r_17 w_16 =>
 Holds w_16 (⟨b_4, 0, none⟩ : Addr) 32 ((arrV .u8) v_12) ∧ (
 eqArrP 32 .u8 ((arrV .u8) r_17) ((arrV .u8) v_12) fun b_18 =>
 R (negB false b_18) w_16)))) ∧ (
 newP w_13 (.cells #[(SlV.val (SlV.sub b (0) (Int.toNat (if (300 : Int) < (b.len : Int) then (300 : Int) else (b.len : Int))) b.cap 1))] 22) fun b_19 w_17 =>
 Holds w_17 (⟨b_4, 0, none⟩ : Addr) 32 ((arrV .u8) v_12) ∧ (
 runP P (Builtin.append_ #[22, 3] 22 #[(SlV.val r_14), (.int .i64 (IntKind.i64.wrap (Int.tmod (IntKind.u64.wrap noughts) (IntKind.u64.wrap (IntKind.i64.wrap ((65 : Int) - ((SlV.sub key (0) (Int.toNat (if (200 : Int) < (key.len : Int) then (200 : Int) else (key.len : Int))) key.cap 1).len : Int)))))))]) w_17 SlV.val fun r_20 w_18 =>
 Holds w_18 (⟨b_4, 0, none⟩ : Addr) 32 ((arrV .u8) v_12) ∧ (
 callP P 16 #[(SlV.val r_20), (SlV.val (SlV.mk (some (⟨b_19, 0, none⟩ : Addr)) 1 1))] w_18 (arrV .u8) fun r_21 w_19 =>
 Holds w_19 (⟨b_4, 0, none⟩ : Addr) 32 ((arrV .u8) v_12) ∧ (
 eqArrP 32 .u8 ((arrV .u8) r_21) ((arrV .u8) v_12) fun b_22 =>
 R (negB false b_22) w_19)))))) ∧ (
 newP w_12 (.cells #[(SlV.val (SlV.sub b (0) (Int.toNat (if (300 : Int) < (b.len : Int) then (300 : Int) else (b.len : Int))) b.cap 1))] 22) fun b_23 w_20 =>
 Holds w_20 (⟨b_4, 0, none⟩ : Addr) 32 ((arrV .u8) v_12) ∧ (
 runP P (Builtin.append_ #[22, 22] 22 #[(SlV.val (SlV.mk (some (⟨b_13, 0, none⟩ : Addr)) 0 0)), (SlV.val (SlV.sub key (0) (Int.toNat (if (200 : Int) < (key.len : Int) then (200 : Int) else (key.len : Int))) key.cap 1))]) w_20 SlV.val fun r_24 w_21 =>
 Holds w_21 (⟨b_4, 0, none⟩ : Addr) 32 ((arrV .u8) v_12) ∧ (
 runP P (Builtin.append_ #[22, 3] 22 #[(SlV.val r_24), (.int .i64 (IntKind.i64.wrap (Int.tmod (IntKind.u64.wrap noughts) (IntKind.u64.wrap (IntKind.i64.wrap ((65 : Int) - ((SlV.sub key (0) (Int.toNat (if (200 : Int) < (key.len : Int) then (200 : Int) else (key.len : Int))) key.cap 1).len : Int)))))))]) w_21 SlV.val fun r_25 w_22 =>
 Holds w_22 (⟨b_4, 0, none⟩ : Addr) 32 ((arrV .u8) v_12) ∧ (
 callP P 16 #[(SlV.val r_25), (SlV.val (SlV.mk (some (⟨b_23, 0, none⟩ : Addr)) 1 1))] w_22 (arrV .u8) fun r_26 w_23 =>
 Holds w_23 (⟨b_4, 0, none⟩ : Addr) 32 ((arrV .u8) v_12) ∧ (
 eqArrP 32 .u8 ((arrV .u8) r_26) ((arrV .u8) v_12) fun b_27 =>
 R (negB false b_27) w_23))))))) ∧ (
 newP w_5.drew (.cells #[(SlV.val (SlV.sub b (0) (Int.toNat (if (300 : Int) < (b.len : Int) then (300 : Int) else (b.len : Int))) b.cap 1))] 22) fun b_28 w_24 =>
 Holds w_24 (⟨b_4, 0, none⟩ : Addr) 32 ((arrV .u8) v_12) ∧ (
 newP w_24 (.cells #[] 5) fun b_29 w_25 =>
 Holds w_25 (⟨b_4, 0, none⟩ : Addr) 32 ((arrV .u8) v_12) ∧ (
 runP P (Builtin.append_ #[22, 22] 22 #[(SlV.val (SlV.mk (some (⟨b_29, 0, none⟩ : Addr)) 0 0)), (SlV.val (SlV.sub key (0) (Int.toNat (if (200 : Int) < (key.len : Int) then (200 : Int) else (key.len : Int))) key.cap 1))]) w_25 SlV.val fun r_30 w_26 =>
 Holds w_26 (⟨b_4, 0, none⟩ : Addr) 32 ((arrV .u8) v_12) ∧ (
 runP P (Builtin.append_ #[22, 3] 22 #[(SlV.val r_30), (.int .i64 (IntKind.i64.wrap (Int.tmod (IntKind.u64.wrap noughts) (IntKind.u64.wrap (IntKind.i64.wrap ((65 : Int) - ((SlV.sub key (0) (Int.toNat (if (200 : Int) < (key.len : Int) then (200 : Int) else (key.len : Int))) key.cap 1).len : Int)))))))]) w_26 SlV.val fun r_31 w_27 =>
 Holds w_27 (⟨b_4, 0, none⟩ : Addr) 32 ((arrV .u8) v_12) ∧ (
 callP P 16 #[(SlV.val r_31), (SlV.val (SlV.mk (some (⟨b_28, 0, none⟩ : Addr)) 1 1))] w_27 (arrV .u8) fun r_32 w_28 =>
 Holds w_28 (⟨b_4, 0, none⟩ : Addr) 32 ((arrV .u8) v_12) ∧ (
 eqArrP 32 .u8 ((arrV .u8) r_32) ((arrV .u8) v_12) fun b_33 =>
 R (negB false b_33) w_28))))))))
def an4 : Ann := mkAnn [] []
theorem sf4_eq (key : SlV) (b : SlV) (noughts : Int) (w0 : World) (R : Bool → World → Prop) : sf4 key b noughts w0 R = vcFn P sh an4 Try.f4 [(SlV.val key), (SlV.val b), (.int .i64 noughts)] shBool w0 R := by kernel_rfl
theorem nm4 : (Try.f4.name == "runtime.NumGoroutine") = false := by kernel_rfl
theorem sf4_call (key : SlV) (b : SlV) (noughts : Int) (w0 : World) (R : Bool → World → Prop) (hsf : sf4 key b noughts w0 R) : callP P 4 #[(SlV.val key), (SlV.val b), (.int .i64 noughts)] w0 shBool.val R :=
  vcFn_sound mixed Try.func4 nm4 (Eq.mp (sf4_eq key b noughts w0 R) hsf)

/-- flume/flumelaw08.MacAgain -/
def sf5 (key : SlV) (a : SlV) (b : SlV) (w0 : World) (R : Bool → World → Prop) : Prop :=
 callP P 15 #[] w0 Value.bool fun r_1 w_1 =>
 cond' (!r_1) (
 R false w_1) (
 cond' (decide ((if (b.len : Int) > (if (a.len : Int) > (key.len : Int) then (a.len : Int) else (key.len : Int)) then (b.len : Int) else (if (a.len : Int) > (key.len : Int) then (a.len : Int) else (key.len : Int))) > (1000 : Int))) (
 R true w_1) (
 newP w_1 (.cells #[] 5) fun b_2 w_2 =>
 runP P (Builtin.append_ #[22, 22] 22 #[(SlV.val (SlV.mk (some (⟨b_2, 0, none⟩ : Addr)) 0 0)), (SlV.val a)]) w_2 SlV.val fun r_3 w_3 =>
 runP P (Builtin.append_ #[22, 22] 22 #[(SlV.val r_3), (SlV.val b)]) w_3 SlV.val fun r_4 w_4 =>
 newP w_4 (.cells #[(SlV.val a), (SlV.val b)] 22) fun b_5 w_5 =>
 callP P 16 #[(SlV.val key), (SlV.val (SlV.mk (some (⟨b_5, 0, none⟩ : Addr)) 2 2))] w_5 (arrV .u8) fun r_6 w_6 =>
 newP w_6 (.cells ((arrV .u8) (List.replicate 32 0)).cells 25) fun b_7 w_7 =>
 storeP w_7 (⟨b_7, 0, none⟩ : Addr) 32 ((arrV .u8) r_6) fun w_8 =>
 newP w_8 (.cells #[(SlV.val key)] 22) fun b_8 w_9 =>
 callP P 16 #[(SlV.val b), (SlV.val (SlV.mk (some (⟨b_8, 0, none⟩ : Addr)) 1 1))] w_9 (arrV .u8) fun r_9 w_10 =>
 newP w_10 (.cells #[(SlV.val a)] 22) fun b_10 w_11 =>
 callP P 17 #[(SlV.val (SlV.mk (some (⟨b_10, 0, none⟩ : Addr)) 1 1))] w_11 (arrV .u8) fun r_11 w_12 =>
 loadP w_12.drew (⟨b_7, 0, none⟩ : Addr) 32 (arrV .u8) fun v_12 =>
 newP w_12.drew (.cells #[(SlV.val r_4)] 22) fun b_13 w_13 =>
 Holds w_13 (⟨b_7, 0, none⟩ : Addr) 32 ((arrV .u8) v_12) ∧ (
 callP P 16 #[(SlV.val key), (SlV.val (SlV.mk (some (⟨b_13, 0, none⟩ : Addr)) 1 1))] w_13 (arrV .u8) fun r_14 w_14 =>
 Holds w_14 (⟨b_7, 0, none⟩ : Addr) 32 ((arrV .u8) v_12) ∧ (
 eqArrP 32 .u8 ((arrV .u8) r_14) ((arrV .u8) v_12) fun b_15 =>
 cond' (negB false b_15) (
 (
 newP w_14 (.cells #[(SlV.val a), (SlV.val b)] 22) fun b_17 w_15 =>
 (
 callP P 17 #[(SlV.val (SlV.mk (some (⟨b_17, 0, none⟩ : Addr)) 2 2))] w_15 (arrV .u8) fun r_18 w_16 =>
 newP w_16 (.cells #[(SlV.val r_4)] 22) fun b_19 w_17 =>
 callP P 17 #[(SlV.val (SlV.mk (some (⟨b_19, 0, none⟩ : Addr)) 1 1))] w_17 (arrV .u8) fun r_20 w_18 =>
 eqArrP 32 .u8 ((arrV .u8) r_18) ((arrV .u8) r_20) fun b_21 =>
 cond' (negB false b_21) (
 loadP w_18 (⟨b_7, 0, none⟩ : Addr) 32 (arrV .u8) fun v_23 =>
 newP w_18 (.cells #[(SlV.val SlV.nil), (SlV.val a), (SlV.val SlV.nil), (SlV.val b)] 22) fun b_24 w_19 =>
 Holds w_19 (⟨b_7, 0, none⟩ : Addr) 32 ((arrV .u8) v_23) ∧ (
 callP P 16 #[(SlV.val key), (SlV.val (SlV.mk (some (⟨b_24, 0, none⟩ : Addr)) 4 4))] w_19 (arrV .u8) fun r_25 w_20 =>
 Holds w_20 (⟨b_7, 0, none⟩ : Addr) 32 ((arrV .u8) v_23) ∧ (
 eqArrP 32 .u8 ((arrV .u8) r_25) ((arrV .u8) v_23) fun b_26 =>
 R (negB false b_26) w_20))) (
 R false w_18)) ∧ (
 newP w_15 (.cells #[(SlV.val r_4)] 22) fun b_27 w_21 =>
 callP P 17 #[(SlV.val (SlV.mk (some (⟨b_17, 0, none⟩ : Addr)) 2 2))] w_21 (arrV .u8) fun r_28 w_22 =>
 callP P 17 #[(SlV.val (SlV.mk (some (⟨b_27, 0, none⟩ : Addr)) 1 1))] w_22 (arrV .u8) fun r_29 w_23 =>
 eqArrP 32 .u8 ((arrV .u8) r_28) ((arrV .u8) r_29) fun b_30 =>
 cond' (negB false b_30) (
 loadP w_23 (⟨b_7, 0, none⟩ : Addr) 32 (arrV .u8) fun v_32 =>
 newP w_23 (.cells #[(SlV.val SlV.nil), (SlV.val a), (SlV.val SlV.nil), (SlV.val b)] 22) fun b_33 w_24 =>
 Holds w_24 (⟨b_7, 0, none⟩ : Addr) 32 ((arrV .u8) v_32) ∧ (
 callP P 16 #[(SlV.val key), (SlV.val (SlV.mk (some (⟨b_33, 0, none⟩ : Addr)) 4 4))] w_24 (arrV .u8) fun r_34 w_25 =>
 Holds w_25 (⟨b_7, 0, none⟩ : Addr) 32 ((arrV .u8) v_32) ∧ (
 eqArrP 32 .u8 ((arrV .u8) r_34) ((arrV .u8) v_32) fun b_35 =>
 R (negB false b_35) w_25))) (
 R false w_23))) ∧ (
 newP w_14 (.cells #[(SlV.val r_4)] 22) fun b_36 w_26 =>
 newP w_26 (.cells #[(SlV.val a), (SlV.val b)] 22) fun b_37 w_27 =>
 callP P 17 #[(SlV.val (SlV.mk (some (⟨b_37, 0, none⟩ : Addr)) 2 2))] w_27 (arrV .u8) fun r_38 w_28 =>
 callP P 17 #[(SlV.val (SlV.mk (some (⟨b_36, 0, none⟩ : Addr)) 1 1))] w_28 (arrV .u8) fun r_39 w_29 =>
 eqArrP 32 .u8 ((arrV .u8) r_38) ((arrV .u8) r_39) fun b_40 =>
 cond' (negB false b_40) (
 loadP w_29 (⟨b_7, 0, none⟩ : Addr) 32 (arrV .u8) fun v_42 =>
 newP w_29 (.cells #[(SlV.val SlV.nil), (SlV.val a), (SlV.val SlV.nil), (SlV.val b)] 22) fun b_43 w_30 =>
 Holds w_30 (⟨b_7, 0, none⟩ : Addr) 32 ((arrV .u8) v_42) ∧ (
 callP P 16 #[(SlV.val key), (SlV.val (SlV.mk (some (⟨b_43, 0, none⟩ : Addr)) 4 4))] w_30 (arrV .u8) fun r_44 w_31 =>
 Holds w_31 (⟨b_7, 0, none⟩ : Addr) 32 ((arrV .u8) v_42) ∧ (
 eqArrP 32 .u8 ((arrV .u8) r_44) ((arrV .u8) v_42) fun b_45 =>
 R (negB false b_45) w_31))) (
 R false w_29))) (
 (
 (
 R false w_14) ∧ (
 R false w_14)) ∧ (
 R false w_14))))))
def an5 : Ann := mkAnn [] []
theorem sf5_eq (key : SlV) (a : SlV) (b : SlV) (w0 : World) (R : Bool → World → Prop) : sf5 key a b w0 R = vcFn P sh an5 Try.f5 [(SlV.val key), (SlV.val a), (SlV.val b)] shBool w0 R := by kernel_rfl
theorem nm5 : (Try.f5.name == "runtime.NumGoroutine") = false := by kernel_rfl
theorem sf5_call (key : SlV) (a : SlV) (b : SlV) (w0 : World) (R : Bool → World → Prop) (hsf : sf5 key a b w0 R) : callP P 5 #[(SlV.val key), (SlV.val a), (SlV.val b)] w0 shBool.val R :=
  vcFn_sound mixed Try.func5 nm5 (Eq.mp (sf5_eq key a b w0 R) hsf)

/-- flume/flumelaw08.MacChains -/
def sf6 (key : SlV) (b : SlV) (n : Int) (w0 : World) (R : Bool → World → Prop) : Prop :=
 callP P 15 #[] w0 Value.bool fun r_1 w_1 =>
 cond' (!r_1) (
 R false w_1) (
 cond' (decide ((if (b.len : Int) > (key.len : Int) then (b.len : Int) else (key.len : Int)) > (500 : Int))) (
 R true w_1) (
 newP w_1 (.cells #[(SlV.val b)] 22) fun b_2 w_2 =>
 callP P 16 #[(SlV.val key), (SlV.val (SlV.mk (some (⟨b_2, 0, none⟩ : Addr)) 1 1))] w_2 (arrV .u8) fun r_3 w_3 =>
 newP w_3 (.cells #[(SlV.val b)] 22) fun b_4 w_4 =>
 callP P 16 #[(SlV.val key), (SlV.val (SlV.mk (some (⟨b_4, 0, none⟩ : Addr)) 1 1))] w_4 (arrV .u8) fun r_5 w_5 =>
 newP w_5 (.cells ((arrV .u8) (List.replicate 32 0)).cells 25) fun b_6 w_6 =>
 newP w_6 (.cells ((arrV .u8) (List.replicate 32 0)).cells 25) fun b_7 w_7 =>
 storeP w_7 (⟨b_6, 0, none⟩ : Addr) 32 ((arrV .u8) r_3) fun w_8 =>
 storeP w_8 (⟨b_7, 0, none⟩ : Addr) 32 ((arrV .u8) r_5) fun w_9 =>
 loopP (Int) (0 : Int) w_9 fun next__8 _ s_9 w_10 =>
 cond' (decide (s_9 < (IntKind.i64.wrap (Int.tmod (IntKind.u64.wrap n) (12 : Int))))) (
 newP w_10 (.cells #[(SlV.val b), (SlV.val key)] 22) fun b_10 w_11 =>
 callP P 16 #[(SlV.val (arrSub (⟨b_6, 0, none⟩ : Addr) 0 32 32 1)), (SlV.val (SlV.mk (some (⟨b_10, 0, none⟩ : Addr)) 2 2))] w_11 (arrV .u8) fun r_11 w_12 =>
 storeP w_12 (⟨b_6, 0, none⟩ : Addr) 32 ((arrV .u8) r_11) fun w_13 =>
 newP w_13.drew (.cells #[] 5) fun b_12 w_14 =>
 runP P (Builtin.append_ #[22, 22] 22 #[(SlV.val (SlV.mk (some (⟨b_12, 0, none⟩ : Addr)) 0 0)), (SlV.val b)]) w_14 SlV.val fun r_13 w_15 =>
 runP P (Builtin.append_ #[22, 22] 22 #[(SlV.val r_13), (SlV.val key)]) w_15 SlV.val fun r_14 w_16 =>
 newP w_16 (.cells #[(SlV.val r_14), (SlV.val SlV.nil)] 22) fun b_15 w_17 =>
 callP P 16 #[(SlV.val (arrSub (⟨b_7, 0, none⟩ : Addr) 0 32 32 1)), (SlV.val (SlV.mk (some (⟨b_15, 0, none⟩ : Addr)) 2 2))] w_17 (arrV .u8) fun r_16 w_18 =>
 storeP w_18 (⟨b_7, 0, none⟩ : Addr) 32 ((arrV .u8) r_16) fun w_19 =>
 next__8 (IntKind.i64.wrap (s_9 + (1 : Int))) w_19) (
 loadP w_10 (⟨b_6, 0, none⟩ : Addr) 32 (arrV .u8) fun v_17 =>
 loadP w_10 (⟨b_7, 0, none⟩ : Addr) 32 (arrV .u8) fun v_18 =>
 callP P 20 #[((arrV .u8) v_17), ((arrV .u8) v_18)] w_10 Value.bool fun r_19 w_20 =>
 R r_19 w_20)))
def an6 : Ann := mkAnn [(7, [(29, (shInt .i64))])] []
theorem sf6_eq (key : SlV) (b : SlV) (n : Int) (w0 : World) (R : Bool → World → Prop) : sf6 key b n w0 R = vcFn P sh an6 Try.f6 [(SlV.val key), (SlV.val b), (.int .i64 n)] shBool w0 R := by kernel_rfl
theorem nm6 : (Try.f6.name == "runtime.NumGoroutine") = false := by kernel_rfl
theorem sf6_call (key : SlV) (b : SlV) (n : Int) (w0 : World) (R : Bool → World → Prop) (hsf : sf6 key b n w0 R) : callP P 6 #[(SlV.val key), (SlV.val b), (.int .i64 n)] w0 shBool.val R :=
  vcFn_sound mixed Try.func6 nm6 (Eq.mp (sf6_eq key b n w0 R) hsf)

/-- flume/flumelaw08.first -/
def sf15 (w0 : World) (R : Bool → World → Prop) : Prop :=
 newP w0 (.cells #[(.int .u8 (97 : Int))] 5) fun b_1 w_1 =>
 runP P (convert 22 22 (SlV.val (SlV.mk (some (⟨b_1, 0, none⟩ : Addr)) 1 1))) w_1 SlV.val fun r_2 w_2 =>
 newP w_2 (.cells #[(.int .u8 (98 : Int)), (.int .u8 (99 : Int))] 5) fun b_3 w_3 =>
 runP P (convert 22 22 (SlV.val (SlV.mk (some (⟨b_3, 0, none⟩ : Addr)) 2 2))) w_3 SlV.val fun r_4 w_4 =>
 newP w_4 (.cells #[(SlV.val r_2), (SlV.val r_4)] 22) fun b_5 w_5 =>
 callP P 17 #[(SlV.val (SlV.mk (some (⟨b_5, 0, none⟩ : Addr)) 2 2))] w_5 (arrV .u8) fun r_6 w_6 =>
 newP w_6 (.cells ((arrV .u8) (List.replicate 32 0)).cells 25) fun b_7 w_7 =>
 storeP w_7 (⟨b_7, 0, none⟩ : Addr) 32 ((arrV .u8) r_6) fun w_8 =>
 newP w_8 (.cells #[(.int .u8 (74 : Int)), (.int .u8 (101 : Int)), (.int .u8 (102 : Int)), (.int .u8 (101 : Int))] 5) fun b_8 w_9 =>
 runP P (convert 22 22 (SlV.val (SlV.mk (some (⟨b_8, 0, none⟩ : Addr)) 4 4))) w_9 SlV.val fun r_9 w_10 =>
 newP w_10 (.cells #[(.int .u8 (119 : Int)), (.int .u8 (104 : Int)), (.int .u8 (97 : Int)), (.int .u8 (116 : Int)), (.int .u8 (32 : Int)), (.int .u8 (100 : Int)), (.int .u8 (111 : Int)), (.int .u8 (32 : Int)), (.int .u8 (121 : Int)), (.int .u8 (97 : Int)), (.int .u8 (32 : Int)), (.int .u8 (119 : Int)), (.int .u8 (97 : Int)), (.int .u8 (110 : Int)), (.int .u8 (116 : Int)), (.int .u8 (32 : Int)), (.int .u8 (102 : Int)), (.int .u8 (111 : Int)), (.int .u8 (114 : Int)), (.int .u8 (32 : Int)), (.int .u8 (110 : Int)), (.int .u8 (111 : Int)), (.int .u8 (116 : Int)), (.int .u8 (104 : Int)), (.int .u8 (105 : Int)), (.int .u8 (110 : Int)), (.int .u8 (103 : Int)), (.int .u8 (63 : Int))] 5) fun b_10 w_11 =>
 runP P (convert 22 22 (SlV.val (SlV.mk (some (⟨b_10, 0, none⟩ : Addr)) 28 28))) w_11 SlV.val fun r_11 w_12 =>
 newP w_12 (.cells #[(SlV.val r_11)] 22) fun b_12 w_13 =>
 callP P 16 #[(SlV.val r_9), (SlV.val (SlV.mk (some (⟨b_12, 0, none⟩ : Addr)) 1 1))] w_13 (arrV .u8) fun r_13 w_14 =>
 newP w_14 (.cells ((arrV .u8) (List.replicate 32 0)).cells 25) fun b_14 w_15 =>
 storeP w_15 (⟨b_14, 0, none⟩ : Addr) 32 ((arrV .u8) r_13) fun w_16 =>
 loadP w_16 ((⟨b_7, 0, none⟩ : Addr).add (Int.toNat (0 : Int) * 1)) 1 (Value.int .u8) fun v_15 =>
 cond' (v_15 == (186 : Int)) (
 loadP w_16 ((⟨b_7, 0, none⟩ : Addr).add (Int.toNat (31 : Int) * 1)) 1 (Value.int .u8) fun v_17 =>
 cond' (v_17 == (173 : Int)) (
 loadP w_16 ((⟨b_14, 0, none⟩ : Addr).add (Int.toNat (0 : Int) * 1)) 1 (Value.int .u8) fun v_19 =>
 cond' (v_19 == (91 : Int)) (
 loadP w_16 ((⟨b_14, 0, none⟩ : Addr).add (Int.toNat (31 : Int) * 1)) 1 (Value.int .u8) fun v_21 =>
 cond' (v_21 == (67 : Int)) (
 loadP w_16 (⟨b_7, 0, none⟩ : Addr) 32 (arrV .u8) fun v_23 =>
 loadP w_16 (⟨b_7, 0, none⟩ : Addr) 32 (arrV .u8) fun v_24 =>
 callP P 20 #[((arrV .u8) v_23), ((arrV .u8) v_24)] w_16 Value.bool fun r_25 w_17 =>
 cond' r_25 (
 loadP w_17 (⟨b_7, 0, none⟩ : Addr) 32 (arrV .u8) fun v_27 =>
 loadP w_17 (⟨b_14, 0, none⟩ : Addr) 32 (arrV .u8) fun v_28 =>
 callP P 20 #[((arrV .u8) v_27), ((arrV .u8) v_28)] w_17 Value.bool fun r_29 w_18 =>
 R (!r_29) w_18) (
 R false w_17)) (
 R false w_16)) (
 R false w_16)) (
 R false w_16)) (
 R false w_16)
def an15 : Ann := mkAnn [] []
theorem sf15_eq (w0 : World) (R : Bool → World → Prop) : sf15 w0 R = vcFn P sh an15 Try.f15 [] shBool w0 R := by kernel_rfl
theorem nm15 : (Try.f15.name == "runtime.NumGoroutine") = false := by kernel_rfl
theorem sf15_call (w0 : World) (R : Bool → World → Prop) (hsf : sf15 w0 R) : callP P 15 #[] w0 shBool.val R :=
  vcFn_sound mixed Try.func15 nm15 (Eq.mp (sf15_eq w0 R) hsf)

/-- flume/mac.Seal -/
def sf16 (key : SlV) (parts : SlV) (w0 : World) (R : (List Int) → World → Prop) : Prop :=
 newP w0 (.cells ((arrV .u8) (List.replicate 32 0)).cells 25) fun b_1 w_1 =>
 callP P 38 #[(SlV.val key)] w_1 SlV.val fun r_2 w_2 =>
 newP w_2 (.cells #[(SlV.val SlV.nil)] 22) fun b_3 w_3 =>
 storeP w_3 (⟨b_3, 0, none⟩ : Addr) 1 (SlV.val r_2) fun w_4 =>
 cutP (Unit) (fun J_4 =>
 loadP w_4 (⟨b_3, 0, none⟩ : Addr) 1 SlV.val fun v_6 =>
 cond' (decide ((v_6.len : Int) > (64 : Int))) (
 loadP w_4 (⟨b_3, 0, none⟩ : Addr) 1 SlV.val fun v_7 =>
 newP w_4 (.cells #[(SlV.val v_7)] 22) fun b_8 w_6 =>
 callP P 17 #[(SlV.val (SlV.mk (some (⟨b_8, 0, none⟩ : Addr)) 1 1))] w_6 (arrV .u8) fun r_9 w_7 =>
 newP w_7 (.cells ((arrV .u8) (List.replicate 32 0)).cells 25) fun b_10 w_8 =>
 storeP w_8 (⟨b_10, 0, none⟩ : Addr) 32 ((arrV .u8) r_9) fun w_9 =>
 storeP w_9 (⟨b_3, 0, none⟩ : Addr) 1 (SlV.val (arrSub (⟨b_10, 0, none⟩ : Addr) 0 32 32 1)) fun w_10 =>
 J_4 () w_10) (
 J_4 () w_4)) fun _ _ w_5 =>
 loadP w_5 (⟨b_3, 0, none⟩ : Addr) 1 SlV.val fun v_11 =>
 loadP w_5 (⟨b_3, 0, none⟩ : Addr) 1 SlV.val fun v_12 =>
 runP P (Builtin.append_ #[22, 3] 22 #[(SlV.val v_11), (.int .i64 (IntKind.i64.wrap ((64 : Int) - (v_12.len : Int))))]) w_5 SlV.val fun r_13 w_11 =>
 storeP w_11 (⟨b_3, 0, none⟩ : Addr) 1 (SlV.val r_13) fun w_12 =>
 callP P 41 #[(SlV.val parts)] w_12 SlV.val fun r_14 w_13 =>
 callP P 39 #[(.int .u8 (54 : Int)), (.pointer (some (⟨b_3, 0, none⟩ : Addr)))] w_13 SlV.val fun r_15 w_14 =>
 newP w_14 (.cells #[(SlV.val r_15)] 22) fun b_16 w_15 =>
 callP P 40 #[(SlV.val r_14), (.int .i64 (0 : Int)), (SlV.val (SlV.mk (some (⟨b_16, 0, none⟩ : Addr)) 1 1))] w_15 SlV.val fun r_17 w_16 =>
 callP P 17 #[(SlV.val r_17)] w_16 (arrV .u8) fun r_18 w_17 =>
 newP w_17 (.cells ((arrV .u8) (List.replicate 32 0)).cells 25) fun b_19 w_18 =>
 storeP w_18 (⟨b_19, 0, none⟩ : Addr) 32 ((arrV .u8) r_18) fun w_19 =>
 callP P 39 #[(.int .u8 (92 : Int)), (.pointer (some (⟨b_3, 0, none⟩ : Addr)))] w_19.drew SlV.val fun r_20 w_20 =>
 newP w_20 (.cells #[(SlV.val r_20), (SlV.val (arrSub (⟨b_19, 0, none⟩ : Addr) 0 32 32 1))] 22) fun b_21 w_21 =>
 callP P 17 #[(SlV.val (SlV.mk (some (⟨b_21, 0, none⟩ : Addr)) 2 2))] w_21 (arrV .u8) fun r_22 w_22 =>
 storeP w_22 (⟨b_1, 0, none⟩ : Addr) 32 ((arrV .u8) r_22) fun w_23 =>
 loadP w_23 (⟨b_1, 0, none⟩ : Addr) 32 (arrV .u8) fun v_23 =>
 unArrP .u8 ((arrV .u8) v_23) fun z_24 =>
 R z_24 w_23
def an16 : Ann := mkAnn [] [(5, [])]
theorem sf16_eq (key : SlV) (parts : SlV) (w0 : World) (R : (List Int) → World → Prop) : sf16 key parts w0 R = vcFn P sh an16 Try.f16 [(SlV.val key), (SlV.val parts)] (shArr .u8) w0 R := by kernel_rfl
theorem nm16 : (Try.f16.name == "runtime.NumGoroutine") = false := by kernel_rfl
theorem sf16_call (key : SlV) (parts : SlV) (w0 : World) (R : (List Int) → World → Prop) (hsf : sf16 key parts w0 R) : callP P 16 #[(SlV.val key), (SlV.val parts)] w0 (shArr .u8).val R :=
  vcFn_sound mixed Try.func16 nm16 (Eq.mp (sf16_eq key parts w0 R) hsf)

/-- flume/mac.Hash -/
def sf17 (parts : SlV) (w0 : World) (R : (List Int) → World → Prop) : Prop :=
 newP w0 (.cells ((arrV .u8) (List.replicate 32 0)).cells 25) fun b_1 w_1 =>
 callP P 42 #[(SlV.val parts)] w_1 SlV.val fun r_2 w_2 =>
 newP w_2 (.cells #[(.int .u8 (128 : Int))] 5) fun b_3 w_3 =>
 runP P (Builtin.append_ #[22, 22] 22 #[(SlV.val r_2), (SlV.val (SlV.mk (some (⟨b_3, 0, none⟩ : Addr)) 1 1))]) w_3 SlV.val fun r_4 w_4 =>
 runP P (Builtin.append_ #[22, 3] 22 #[(SlV.val r_4), (.int .i64 (Int.tmod (IntKind.i64.wrap ((120 : Int) - (Int.tmod (r_4.len : Int) (64 : Int)))) (64 : Int)))]) w_4 SlV.val fun r_5 w_5 =>
 loopP (SlV × Int) (r_5, (56 : Int)) w_5 fun next__6 _ s_7 w_6 =>
 cond' (decide (s_7.2 ≥ (0 : Int))) (
 chkP (decide (0 ≤ s_7.2)) <|
 newP w_6 (.cells #[(.int .u8 (IntKind.u8.wrap (Int.fdiv (IntKind.u64.wrap ((IntKind.u64.wrap (r_2.len : Int)) * (8 : Int))) (2 ^ (min (Int.toNat s_7.2) IntKind.u64.bits)))))] 5) fun b_8 w_7 =>
 runP P (Builtin.append_ #[22, 22] 22 #[(SlV.val s_7.1), (SlV.val (SlV.mk (some (⟨b_8, 0, none⟩ : Addr)) 1 1))]) w_7 SlV.val fun r_9 w_8 =>
 next__6 (r_9, (IntKind.i64.wrap (s_7.2 - (8 : Int)))) w_8) (
 newP w_6 (.cells ((arrV .u32) (List.replicate 8 0)).cells 92) fun b_10 w_9 =>
 storeP w_9 (⟨b_10, 0, none⟩ : Addr) 8 ((arrV .u32) ([(1779033703 : Int), (3144134277 : Int), (1013904242 : Int), (2773480762 : Int), (1359893119 : Int), (2600822924 : Int), (528734635 : Int), (1541459225 : Int)])) fun w_10 =>
 callP P 43 #[(SlV.val s_7.1), (.int .i64 (64 : Int))] w_10 FnV.val fun r_11 w_11 =>
 rangeP P (FnV.val r_11) (fun x : SlV => [(SlV.val x)]) (fun L_12 x_13 w_12 J_14 =>
 begP P L_12 w_12 fun w_13 =>
 callP P 44 #[(.pointer (some (⟨b_10, 0, none⟩ : Addr))), (SlV.val x_13)] w_13 unitV fun r_16 w_15 =>
 J_14 w_15) w_11 fun D_15 w_14 =>
 newP w_14 (.cells ((arrV .u8) (List.replicate 32 0)).cells 25) fun b_17 w_16 =>
 loadP w_16 (⟨b_10, 0, none⟩ : Addr) 8 (arrV .u32) fun v_18 =>
 loopP (Int) (0 : Int) w_16 fun next__19 _ s_20 w_17 =>
 cond' (decide (s_20 < (8 : Int))) (
 chkP (inR s_20 8) <|
 nthK .u32 (((arrV .u32) v_18)).cells.toList (Int.toNat s_20 * 1) fun y_21 =>
 loopP (Int) (0 : Int) w_17 fun next__22 _ s_23 w_18 =>
 cond' (decide (s_23 < (4 : Int))) (
 chkP (decide (0 ≤ (IntKind.i64.wrap ((24 : Int) - (IntKind.i64.wrap ((8 : Int) * s_23)))))) <|
 chkP (inR (IntKind.i64.wrap ((IntKind.i64.wrap ((4 : Int) * s_20)) + s_23)) 32) <|
 storeP w_18 ((⟨b_17, 0, none⟩ : Addr).add (Int.toNat (IntKind.i64.wrap ((IntKind.i64.wrap ((4 : Int) * s_20)) + s_23)) * 1)) 1 (.int .u8 (IntKind.u8.wrap (Int.fdiv y_21 (2 ^ (min (Int.toNat (IntKind.i64.wrap ((24 : Int) - (IntKind.i64.wrap ((8 : Int) * s_23))))) IntKind.u32.bits))))) fun w_19 =>
 next__22 (IntKind.i64.wrap (s_23 + (1 : Int))) w_19) (
 next__19 (IntKind.i64.wrap (s_20 + (1 : Int))) w_18)) (
 loadP w_17 (⟨b_17, 0, none⟩ : Addr) 32 (arrV .u8) fun v_24 =>
 storeP w_17 (⟨b_1, 0, none⟩ : Addr) 32 ((arrV .u8) v_24) fun w_20 =>
 leaveP P D_15 w_20 fun w_21 =>
 loadP w_21 (⟨b_1, 0, none⟩ : Addr) 32 (arrV .u8) fun v_25 =>
 unArrP .u8 ((arrV .u8) v_25) fun z_26 =>
 R z_26 w_21))
def an17 : Ann := mkAnn [(6, [(3, shSl), (5, (shInt .i64))]), (12, [(42, shSl)]), (15, [(46, (shInt .i64))]), (18, [(50, (shInt .i64))])] []
theorem sf17_eq (parts : SlV) (w0 : World) (R : (List Int) → World → Prop) : sf17 parts w0 R = vcFn P sh an17 Try.f17 [(SlV.val parts)] (shArr .u8) w0 R := by kernel_rfl
theorem nm17 : (Try.f17.name == "runtime.NumGoroutine") = false := by kernel_rfl
theorem sf17_call (parts : SlV) (w0 : World) (R : (List Int) → World → Prop) (hsf : sf17 parts w0 R) : callP P 17 #[(SlV.val parts)] w0 (shArr .u8).val R :=
  vcFn_sound mixed Try.func17 nm17 (Eq.mp (sf17_eq parts w0 R) hsf)

/-- flume/mac.Same -/
def sf20 (a : List Int) (b : List Int) (w0 : World) (R : Bool → World → Prop) : Prop :=
 newP w0 (.cells ((arrV .u8) a).cells 25) fun b_1 w_1 =>
 newP w_1 (.cells ((arrV .u8) b).cells 25) fun b_2 w_2 =>
 loadP w_2 (⟨b_1, 0, none⟩ : Addr) 32 (arrV .u8) fun v_3 =>
 loadP w_2 (⟨b_2, 0, none⟩ : Addr) 32 (arrV .u8) fun v_4 =>
 eqArrP 32 .u8 ((arrV .u8) v_3) ((arrV .u8) v_4) fun b_5 =>
 R (negB false b_5) w_2
def an20 : Ann := mkAnn [] []
theorem sf20_eq (a : List Int) (b : List Int) (w0 : World) (R : Bool → World → Prop) : sf20 a b w0 R = vcFn P sh an20 Try.f20 [((arrV .u8) a), ((arrV .u8) b)] shBool w0 R := by kernel_rfl
theorem nm20 : (Try.f20.name == "runtime.NumGoroutine") = false := by kernel_rfl
theorem sf20_call (a : List Int) (b : List Int) (w0 : World) (R : Bool → World → Prop) (hsf : sf20 a b w0 R) : callP P 20 #[((arrV .u8) a), ((arrV .u8) b)] w0 shBool.val R :=
  vcFn_sound mixed Try.func20 nm20 (Eq.mp (sf20_eq a b w0 R) hsf)

/-- slices.Clone[[]byte,byte] -/
def sf38 (s : SlV) (w0 : World) (R : SlV → World → Prop) : Prop :=
 cond' (negB false s.a.isNone) (
 R SlV.nil w0) (
 newP w0 (.cells #[] 5) fun b_1 w_1 =>
 runP P (Builtin.append_ #[22, 22] 22 #[(SlV.val (SlV.mk (some (⟨b_1, 0, none⟩ : Addr)) 0 0)), (SlV.val s)]) w_1 SlV.val fun r_2 w_2 =>
 R r_2 w_2)
def an38 : Ann := mkAnn [] []
theorem sf38_eq (s : SlV) (w0 : World) (R : SlV → World → Prop) : sf38 s w0 R = vcFn P sh an38 Try.f38 [(SlV.val s)] shSl w0 R := by kernel_rfl
theorem nm38 : (Try.f38.name == "runtime.NumGoroutine") = false := by kernel_rfl
theorem sf38_call (s : SlV) (w0 : World) (R : SlV → World → Prop) (hsf : sf38 s w0 R) : callP P 38 #[(SlV.val s)] w0 shSl.val R :=
  vcFn_sound mixed Try.func38 nm38 (Eq.mp (sf38_eq s w0 R) hsf)

/-- flume/mac.Seal$1 -/
def sf39 (by_ : Int) (c1 : Addr) (w0 : World) (R : SlV → World → Prop) : Prop :=
 loadP w0 c1 1 SlV.val fun v_1 =>
 callP P 38 #[(SlV.val v_1)] w0 SlV.val fun r_2 w_1 =>
 loopP (Int) (0 : Int) w_1 fun next__3 _ s_4 w_2 =>
 cond' (decide (s_4 < (r_2.len : Int))) (
 chkP (inR s_4 r_2.len) <|
 nilP r_2.a fun a_5 =>
 loadP w_2 (a_5.add (Int.toNat s_4 * 1)) 1 (Value.int .u8) fun v_6 =>
 chkP (inR s_4 r_2.len) <|
 nilP r_2.a fun a_7 =>
 storeP w_2 (a_7.add (Int.toNat s_4 * 1)) 1 (.int .u8 (bits .xor .u8 v_6 by_)) fun w_3 =>
 next__3 (IntKind.i64.wrap (s_4 + (1 : Int))) w_3) (
 R r_2 w_2)
def an39 : Ann := mkAnn [(3, [(10, (shInt .i64))])] []
theorem sf39_eq (by_ : Int) (c1 : Addr) (w0 : World) (R : SlV → World → Prop) : sf39 by_ c1 w0 R = vcFn P sh an39 Try.f39 [(.int .u8 by_), (.pointer (some c1))] shSl w0 R := by kernel_rfl
theorem nm39 : (Try.f39.name == "runtime.NumGoroutine") = false := by kernel_rfl
theorem sf39_call (by_ : Int) (c1 : Addr) (w0 : World) (R : SlV → World → Prop) (hsf : sf39 by_ c1 w0 R) : callP P 39 #[(.int .u8 by_), (.pointer (some c1))] w0 shSl.val R :=
  vcFn_sound mixed Try.func39 nm39 (Eq.mp (sf39_eq by_ c1 w0 R) hsf)

/-- slices.Insert[[][]byte,[]byte] -/
def sf40 (s : SlV) (i : Int) (v : SlV) (w0 : World) (R : SlV → World → Prop) : Prop :=
 chkP (leR (s.len : Int) (s.cap : Int)) <|
 chkP (leR i (s.len : Int)) <|
 cond' ((v.len : Int) == (0 : Int)) (
 R s w0) (
 cond' (i == (s.len : Int)) (
 runP P (Builtin.append_ #[85, 85] 85 #[(SlV.val s), (SlV.val v)]) w0 SlV.val fun r_1 w_1 =>
 R r_1 w_1) (
 cond' (decide ((IntKind.i64.wrap ((s.len : Int) + (v.len : Int))) > (s.cap : Int))) (
 chkP (leR i (s.cap : Int)) <|
 chkP (leR 0 i) <|
 runP P (Builtin.append_ #[85, 3] 85 #[(SlV.val (SlV.sub s (0) (Int.toNat i) s.cap 1)), (.int .i64 (IntKind.i64.wrap ((IntKind.i64.wrap ((s.len : Int) + (v.len : Int))) - i)))]) w0 SlV.val fun r_2 w_2 =>
 chkP (leR (r_2.len : Int) (r_2.cap : Int)) <|
 chkP (leR i (r_2.len : Int)) <|
 runP P (Builtin.copy_ #[85, 85] 3 #[(SlV.val (SlV.sub r_2 (Int.toNat i) (r_2.len) r_2.cap 1)), (SlV.val v)]) w_2 (Value.int .i64) fun r_3 w_3 =>
 chkP (leR (r_2.len : Int) (r_2.cap : Int)) <|
 chkP (leR (IntKind.i64.wrap (i + (v.len : Int))) (r_2.len : Int)) <|
 chkP (leR (s.len : Int) (s.cap : Int)) <|
 chkP (leR i (s.len : Int)) <|
 runP P (Builtin.copy_ #[85, 85] 3 #[(SlV.val (SlV.sub r_2 (Int.toNat (IntKind.i64.wrap (i + (v.len : Int)))) (r_2.len) r_2.cap 1)), (SlV.val (SlV.sub s (Int.toNat i) (s.len) s.cap 1))]) w_3.drew (Value.int .i64) fun r_4 w_4 =>
 R r_2 w_4) (
 chkP (leR (IntKind.i64.wrap ((s.len : Int) + (v.len : Int))) (s.cap : Int)) <|
 chkP (leR 0 (IntKind.i64.wrap ((s.len : Int) + (v.len : Int)))) <|
 chkP (leR ((SlV.sub s (0) (Int.toNat (IntKind.i64.wrap ((s.len : Int) + (v.len : Int)))) s.cap 1).len : Int) ((SlV.sub s (0) (Int.toNat (IntKind.i64.wrap ((s.len : Int) + (v.len : Int)))) s.cap 1).cap : Int)) <|
 chkP (leR (IntKind.i64.wrap (i + (v.len : Int))) ((SlV.sub s (0) (Int.toNat (IntKind.i64.wrap ((s.len : Int) + (v.len : Int)))) s.cap 1).len : Int)) <|
 callP P 68 #[(SlV.val v), (SlV.val (SlV.sub (SlV.sub s (0) (Int.toNat (IntKind.i64.wrap ((s.len : Int) + (v.len : Int)))) s.cap 1) (Int.toNat (IntKind.i64.wrap (i + (v.len : Int)))) ((SlV.sub s (0) (Int.toNat (IntKind.i64.wrap ((s.len : Int) + (v.len : Int)))) s.cap 1).len) ((SlV.sub s (0) (Int.toNat (IntKind.i64.wrap ((s.len : Int) + (v.len : Int)))) s.cap 1).cap) 1))] w0 Value.bool fun r_5 w_5 =>
 cond' (!r_5) (
 chkP (leR ((SlV.sub s (0) (Int.toNat (IntKind.i64.wrap ((s.len : Int) + (v.len : Int)))) s.cap 1).len : Int) ((SlV.sub s (0) (Int.toNat (IntKind.i64.wrap ((s.len : Int) + (v.len : Int)))) s.cap 1).cap : Int)) <|
 chkP (leR (IntKind.i64.wrap (i + (v.len : Int))) ((SlV.sub s (0) (Int.toNat (IntKind.i64.wrap ((s.len : Int) + (v.len : Int)))) s.cap 1).len : Int)) <|
 chkP (leR ((SlV.sub s (0) (Int.toNat (IntKind.i64.wrap ((s.len : Int) + (v.len : Int)))) s.cap 1).len : Int) ((SlV.sub s (0) (Int.toNat (IntKind.i64.wrap ((s.len : Int) + (v.len : Int)))) s.cap 1).cap : Int)) <|
 chkP (leR i ((SlV.sub s (0) (Int.toNat (IntKind.i64.wrap ((s.len : Int) + (v.len : Int)))) s.cap 1).len : Int)) <|
 runP P (Builtin.copy_ #[85, 85] 3 #[(SlV.val (SlV.sub (SlV.sub s (0) (Int.toNat (IntKind.i64.wrap ((s.len : Int) + (v.len : Int)))) s.cap 1) (Int.toNat (IntKind.i64.wrap (i + (v.len : Int)))) ((SlV.sub s (0) (Int.toNat (IntKind.i64.wrap ((s.len : Int) + (v.len : Int)))) s.cap 1).len) ((SlV.sub s (0) (Int.toNat (IntKind.i64.wrap ((s.len : Int) + (v.len : Int)))) s.cap 1).cap) 1)), (SlV.val (SlV.sub (SlV.sub s (0) (Int.toNat (IntKind.i64.wrap ((s.len : Int) + (v.len : Int)))) s.cap 1) (Int.toNat i) ((SlV.sub s (0) (Int.toNat (IntKind.i64.wrap ((s.len : Int) + (v.len : Int)))) s.cap 1).len) ((SlV.sub s (0) (Int.toNat (IntKind.i64.wrap ((s.len : Int) + (v.len : Int)))) s.cap 1).cap) 1))]) w_5.drew (Value.int .i64) fun r_6 w_6 =>
 chkP (leR ((SlV.sub s (0) (Int.toNat (IntKind.i64.wrap ((s.len : Int) + (v.len : Int)))) s.cap 1).len : Int) ((SlV.sub s (0) (Int.toNat (IntKind.i64.wrap ((s.len : Int) + (v.len : Int)))) s.cap 1).cap : Int)) <|
 chkP (leR i ((SlV.sub s (0) (Int.toNat (IntKind.i64.wrap ((s.len : Int) + (v.len : Int)))) s.cap 1).len : Int)) <|
 runP P (Builtin.copy_ #[85, 85] 3 #[(SlV.val (SlV.sub (SlV.sub s (0) (Int.toNat (IntKind.i64.wrap ((s.len : Int) + (v.len : Int)))) s.cap 1) (Int.toNat i) ((SlV.sub s (0) (Int.toNat (IntKind.i64.wrap ((s.len : Int) + (v.len : Int)))) s.cap 1).len) ((SlV.sub s (0) (Int.toNat (IntKind.i64.wrap ((s.len : Int) + (v.len : Int)))) s.cap 1).cap) 1)), (SlV.val v)]) w_6 (Value.int .i64) fun r_7 w_7 =>
 R (SlV.sub s (0) (Int.toNat (IntKind.i64.wrap ((s.len : Int) + (v.len : Int)))) s.cap 1) w_7) (
 chkP (leR ((SlV.sub s (0) (Int.toNat (IntKind.i64.wrap ((s.len : Int) + (v.len : Int)))) s.cap 1).len : Int) ((SlV.sub s (0) (Int.toNat (IntKind.i64.wrap ((s.len : Int) + (v.len : Int)))) s.cap 1).cap : Int)) <|
 chkP (leR (s.len : Int) ((SlV.sub s (0) (Int.toNat (IntKind.i64.wrap ((s.len : Int) + (v.len : Int)))) s.cap 1).len : Int)) <|
 runP P (Builtin.copy_ #[85, 85] 3 #[(SlV.val (SlV.sub (SlV.sub s (0) (Int.toNat (IntKind.i64.wrap ((s.len : Int) + (v.len : Int)))) s.cap 1) (Int.toNat (s.len : Int)) ((SlV.sub s (0) (Int.toNat (IntKind.i64.wrap ((s.len : Int) + (v.len : Int)))) s.cap 1).len) ((SlV.sub s (0) (Int.toNat (IntKind.i64.wrap ((s.len : Int) + (v.len : Int)))) s.cap 1).cap) 1)), (SlV.val v)]) w_5 (Value.int .i64) fun r_8 w_8 =>
 chkP (leR ((SlV.sub s (0) (Int.toNat (IntKind.i64.wrap ((s.len : Int) + (v.len : Int)))) s.cap 1).len : Int) ((SlV.sub s (0) (Int.toNat (IntKind.i64.wrap ((s.len : Int) + (v.len : Int)))) s.cap 1).cap : Int)) <|
 chkP (leR i ((SlV.sub s (0) (Int.toNat (IntKind.i64.wrap ((s.len : Int) + (v.len : Int)))) s.cap 1).len : Int)) <|
 callP P 69 #[(SlV.val (SlV.sub (SlV.sub s (0) (Int.toNat (IntKind.i64.wrap ((s.len : Int) + (v.len : Int)))) s.cap 1) (Int.toNat i) ((SlV.sub s (0) (Int.toNat (IntKind.i64.wrap ((s.len : Int) + (v.len : Int)))) s.cap 1).len) ((SlV.sub s (0) (Int.toNat (IntKind.i64.wrap ((s.len : Int) + (v.len : Int)))) s.cap 1).cap) 1)), (.int .i64 (v.len : Int))] w_8 unitV fun r_9 w_9 =>
 R (SlV.sub s (0) (Int.toNat (IntKind.i64.wrap ((s.len : Int) + (v.len : Int)))) s.cap 1) w_9))))
def an40 : Ann := mkAnn [] []
theorem sf40_eq (s : SlV) (i : Int) (v : SlV) (w0 : World) (R : SlV → World → Prop) : sf40 s i v w0 R = vcFn P sh an40 Try.f40 [(SlV.val s), (.int .i64 i), (SlV.val v)] shSl w0 R := by kernel_rfl
theorem nm40 : (Try.f40.name == "runtime.NumGoroutine") = false := by kernel_rfl
theorem sf40_call (s : SlV) (i : Int) (v : SlV) (w0 : World) (R : SlV → World → Prop) (hsf : sf40 s i v w0 R) : callP P 40 #[(SlV.val s), (.int .i64 i), (SlV.val v)] w0 shSl.val R :=
  vcFn_sound mixed Try.func40 nm40 (Eq.mp (sf40_eq s i v w0 R) hsf)

/-- slices.Clone[[][]byte,[]byte] -/
def sf41 (s : SlV) (w0 : World) (R : SlV → World → Prop) : Prop :=
 cond' (negB false s.a.isNone) (
 R SlV.nil w0) (
 newP w0 (.cells #[] 22) fun b_1 w_1 =>
 runP P (Builtin.append_ #[85, 85] 85 #[(SlV.val (SlV.mk (some (⟨b_1, 0, none⟩ : Addr)) 0 0)), (SlV.val s)]) w_1 SlV.val fun r_2 w_2 =>
 R r_2 w_2)
def an41 : Ann := mkAnn [] []
theorem sf41_eq (s : SlV) (w0 : World) (R : SlV → World → Prop) : sf41 s w0 R = vcFn P sh an41 Try.f41 [(SlV.val s)] shSl w0 R := by kernel_rfl
theorem nm41 : (Try.f41.name == "runtime.NumGoroutine") = false := by kernel_rfl
theorem sf41_call (s : SlV) (w0 : World) (R : SlV → World → Prop) (hsf : sf41 s w0 R) : callP P 41 #[(SlV.val s)] w0 shSl.val R :=
  vcFn_sound mixed Try.func41 nm41 (Eq.mp (sf41_eq s w0 R) hsf)

/-- slices.Concat[[]byte,byte] -/
def sf42 (slices : SlV) (w0 : World) (R : SlV → World → Prop) : Prop :=
 loopP (Int × Int) ((0 : Int), (0 : Int)) w0 fun next__1 _ s_2 w_1 =>
 cond' (decide (s_2.2 < (slices.len : Int))) (
 chkP (inR s_2.2 slices.len) <|
 nilP slices.a fun a_3 =>
 loadP w_1 (a_3.add (Int.toNat s_2.2 * 1)) 1 SlV.val fun v_4 =>
 cond' (decide ((IntKind.i64.wrap (s_2.1 + (v_4.len : Int))) < (0 : Int))) (
 False) (
 next__1 ((IntKind.i64.wrap (s_2.1 + (v_4.len : Int))), (IntKind.i64.wrap (s_2.2 + (1 : Int)))) w_1)) (
 callP P 70 #[(SlV.val SlV.nil), (.int .i64 s_2.1)] w_1 SlV.val fun r_5 w_2 =>
 loopP (SlV × Int) (r_5, (0 : Int)) w_2 fun next__6 _ s_7 w_3 =>
 cond' (decide (s_7.2 < (slices.len : Int))) (
 chkP (inR s_7.2 slices.len) <|
 nilP slices.a fun a_8 =>
 loadP w_3 (a_8.add (Int.toNat s_7.2 * 1)) 1 SlV.val fun v_9 =>
 runP P (Builtin.append_ #[22, 22] 22 #[(SlV.val s_7.1), (SlV.val v_9)]) w_3 SlV.val fun r_10 w_4 =>
 next__6 (r_10, (IntKind.i64.wrap (s_7.2 + (1 : Int)))) w_4) (
 R s_7.1 w_3))
def an42 : Ann := mkAnn [(3, [(3, (shInt .i64)), (11, (shInt .i64))]), (11, [(6, shSl), (27, (shInt .i64))])] []
theorem sf42_eq (slices : SlV) (w0 : World) (R : SlV → World → Prop) : sf42 slices w0 R = vcFn P sh an42 Try.f42 [(SlV.val slices)] shSl w0 R := by kernel_rfl
theorem nm42 : (Try.f42.name == "runtime.NumGoroutine") = false := by kernel_rfl
theorem sf42_call (slices : SlV) (w0 : World) (R : SlV → World → Prop) (hsf : sf42 slices w0 R) : callP P 42 #[(SlV.val slices)] w0 shSl.val R :=
  vcFn_sound mixed Try.func42 nm42 (Eq.mp (sf42_eq slices w0 R) hsf)

/-- slices.Chunk[[]byte,byte] -/
def sf43 (s : SlV) (n : Int) (w0 : World) (R : FnV → World → Prop) : Prop :=
 newP w0 (.cells #[(SlV.val s)] 22) fun b_1 w_1 =>
 newP w_1 (.cells #[(.int .i64 n)] 3) fun b_2 w_2 =>
 loadP w_2 (⟨b_2, 0, none⟩ : Addr) 1 (Value.int .i64) fun v_3 =>
 cond' (decide (v_3 < (1 : Int))) (
 False) (
 R (FnV.mk 71 #[] #[(.pointer (some (⟨b_1, 0, none⟩ : Addr))), (.pointer (some (⟨b_2, 0, none⟩ : Addr)))]) w_2)
def an43 : Ann := mkAnn [] []
theorem sf43_eq (s : SlV) (n : Int) (w0 : World) (R : FnV → World → Prop) : sf43 s n w0 R = vcFn P sh an43 Try.f43 [(SlV.val s), (.int .i64 n)] shFn w0 R := by kernel_rfl
theorem nm43 : (Try.f43.name == "runtime.NumGoroutine") = false := by kernel_rfl
theorem sf43_call (s : SlV) (n : Int) (w0 : World) (R : FnV → World → Prop) (hsf : sf43 s n w0 R) : callP P 43 #[(SlV.val s), (.int .i64 n)] w0 shFn.val R :=
  vcFn_sound mixed Try.func43 nm43 (Eq.mp (sf43_eq s n w0 R) hsf)

/-- (*flume/mac.state).block -/
def sf44 (s : Addr) (b : SlV) (w0 : World) (R : Unit → World → Prop) : Prop :=
 newP w0 (.cells ((arrV .u32) (List.replicate 64 0)).cells 98) fun b_1 w_1 =>
 loopP (Int) (0 : Int) w_1 fun next__2 _ s_3 w_2 =>
 cond' (decide (s_3 < (16 : Int))) (
 chkP (inR (IntKind.i64.wrap ((4 : Int) * s_3)) b.len) <|
 nilP b.a fun a_4 =>
 loadP w_2.drew (a_4.add (Int.toNat (IntKind.i64.wrap ((4 : Int) * s_3)) * 1)) 1 (Value.int .u8) fun v_5 =>
 chkP (inR (IntKind.i64.wrap ((IntKind.i64.wrap ((4 : Int) * s_3)) + (1 : Int))) b.len) <|
 nilP b.a fun a_6 =>
 loadP w_2.drew (a_6.add (Int.toNat (IntKind.i64.wrap ((IntKind.i64.wrap ((4 : Int) * s_3)) + (1 : Int))) * 1)) 1 (Value.int .u8) fun v_7 =>
 chkP (inR (IntKind.i64.wrap ((IntKind.i64.wrap ((4 : Int) * s_3)) + (2 : Int))) b.len) <|
 nilP b.a fun a_8 =>
 loadP w_2.drew (a_8.add (Int.toNat (IntKind.i64.wrap ((IntKind.i64.wrap ((4 : Int) * s_3)) + (2 : Int))) * 1)) 1 (Value.int .u8) fun v_9 =>
 chkP (inR (IntKind.i64.wrap ((IntKind.i64.wrap ((4 : Int) * s_3)) + (3 : Int))) b.len) <|
 nilP b.a fun a_10 =>
 loadP w_2.drew (a_10.add (Int.toNat (IntKind.i64.wrap ((IntKind.i64.wrap ((4 : Int) * s_3)) + (3 : Int))) * 1)) 1 (Value.int .u8) fun v_11 =>
 chkP (inR s_3 64) <|
 storeP w_2.drew ((⟨b_1, 0, none⟩ : Addr).add (Int.toNat s_3 * 1)) 1 (.int .u32 (bits .or .u32 (bits .or .u32 (bits .or .u32 (IntKind.u32.wrap ((IntKind.u32.wrap v_5) * 2 ^ (min (Int.toNat (24 : Int)) IntKind.u32.bits))) (IntKind.u32.wrap ((IntKind.u32.wrap v_7) * 2 ^ (min (Int.toNat (16 : Int)) IntKind.u32.bits)))) (IntKind.u32.wrap ((IntKind.u32.wrap v_9) * 2 ^ (min (Int.toNat (8 : Int)) IntKind.u32.bits)))) (IntKind.u32.wrap v_11))) fun w_3 =>
 next__2 (IntKind.i64.wrap (s_3 + (1 : Int))) w_3) (
 loopP (Int) (16 : Int) w_2 fun next__12 _ s_13 w_4 =>
 cond' (decide (s_13 < (64 : Int))) (
 chkP (inR (IntKind.i64.wrap (s_13 - (2 : Int))) 64) <|
 loadP w_4.drew ((⟨b_1, 0, none⟩ : Addr).add (Int.toNat (IntKind.i64.wrap (s_13 - (2 : Int))) * 1)) 1 (Value.int .u32) fun v_14 =>
 chkP (inR (IntKind.i64.wrap (s_13 - (15 : Int))) 64) <|
 loadP w_4.drew ((⟨b_1, 0, none⟩ : Addr).add (Int.toNat (IntKind.i64.wrap (s_13 - (15 : Int))) * 1)) 1 (Value.int .u32) fun v_15 =>
 chkP (inR (IntKind.i64.wrap (s_13 - (7 : Int))) 64) <|
 loadP w_4.drew.drew ((⟨b_1, 0, none⟩ : Addr).add (Int.toNat (IntKind.i64.wrap (s_13 - (7 : Int))) * 1)) 1 (Value.int .u32) fun v_16 =>
 chkP (inR (IntKind.i64.wrap (s_13 - (16 : Int))) 64) <|
 loadP w_4.drew.drew ((⟨b_1, 0, none⟩ : Addr).add (Int.toNat (IntKind.i64.wrap (s_13 - (16 : Int))) * 1)) 1 (Value.int .u32) fun v_17 =>
 callP P 72 #[(.int .u32 v_14), (.int .i64 (17 : Int))] w_4.drew.drew (Value.int .u32) fun r_18 w_5 =>
 Holds w_5 ((⟨b_1, 0, none⟩ : Addr).add (Int.toNat (IntKind.i64.wrap (s_13 - (16 : Int))) * 1)) 1 (.int .u32 v_17) ∧ (
 Holds w_5 ((⟨b_1, 0, none⟩ : Addr).add (Int.toNat (IntKind.i64.wrap (s_13 - (7 : Int))) * 1)) 1 (.int .u32 v_16) ∧ (
 callP P 72 #[(.int .u32 v_14), (.int .i64 (19 : Int))] w_5 (Value.int .u32) fun r_19 w_6 =>
 Holds w_6 ((⟨b_1, 0, none⟩ : Addr).add (Int.toNat (IntKind.i64.wrap (s_13 - (7 : Int))) * 1)) 1 (.int .u32 v_16) ∧ (
 Holds w_6 ((⟨b_1, 0, none⟩ : Addr).add (Int.toNat (IntKind.i64.wrap (s_13 - (16 : Int))) * 1)) 1 (.int .u32 v_17) ∧ (
 callP P 72 #[(.int .u32 v_15), (.int .i64 (7 : Int))] w_6 (Value.int .u32) fun r_20 w_7 =>
 Holds w_7 ((⟨b_1, 0, none⟩ : Addr).add (Int.toNat (IntKind.i64.wrap (s_13 - (16 : Int))) * 1)) 1 (.int .u32 v_17) ∧ (
 Holds w_7 ((⟨b_1, 0, none⟩ : Addr).add (Int.toNat (IntKind.i64.wrap (s_13 - (7 : Int))) * 1)) 1 (.int .u32 v_16) ∧ (
 callP P 72 #[(.int .u32 v_15), (.int .i64 (18 : Int))] w_7 (Value.int .u32) fun r_21 w_8 =>
 Holds w_8 ((⟨b_1, 0, none⟩ : Addr).add (Int.toNat (IntKind.i64.wrap (s_13 - (7 : Int))) * 1)) 1 (.int .u32 v_16) ∧ (
 Holds w_8 ((⟨b_1, 0, none⟩ : Addr).add (Int.toNat (IntKind.i64.wrap (s_13 - (16 : Int))) * 1)) 1 (.int .u32 v_17) ∧ (
 chkP (inR s_13 64) <|
 storeP w_8 ((⟨b_1, 0, none⟩ : Addr).add (Int.toNat s_13 * 1)) 1 (.int .u32 (IntKind.u32.wrap ((IntKind.u32.wrap ((IntKind.u32.wrap ((bits .xor .u32 (bits .xor .u32 r_18 r_19) (Int.fdiv v_14 (2 ^ (min (Int.toNat (10 : Int)) IntKind.u32.bits)))) + v_16)) + (bits .xor .u32 (bits .xor .u32 r_20 r_21) (Int.fdiv v_15 (2 ^ (min (Int.toNat (3 : Int)) IntKind.u32.bits)))))) + v_17))) fun w_9 =>
 next__12 (IntKind.i64.wrap (s_13 + (1 : Int))) w_9))))))))) (
 loadP w_4 s 8 (arrV .u32) fun v_22 =>
 newP w_4 (.cells ((arrV .u32) (List.replicate 8 0)).cells 92) fun b_23 w_10 =>
 storeP w_10 (⟨b_23, 0, none⟩ : Addr) 8 ((arrV .u32) v_22) fun w_11 =>
 callP P 74 #[] w_11 (arrV .u32) fun r_24 w_12 =>
 newP w_12 (.cells ((arrV .u32) (List.replicate 64 0)).cells 98) fun b_25 w_13 =>
 storeP w_13 (⟨b_25, 0, none⟩ : Addr) 64 ((arrV .u32) r_24) fun w_14 =>
 loopP (Int) (0 : Int) w_14 fun next__26 _ s_27 w_15 =>
 cond' (decide (s_27 < (64 : Int))) (
 loadP w_15 ((⟨b_23, 0, none⟩ : Addr).add (Int.toNat (4 : Int) * 1)) 1 (Value.int .u32) fun v_28 =>
 loadP w_15.drew ((⟨b_23, 0, none⟩ : Addr).add (Int.toNat (7 : Int) * 1)) 1 (Value.int .u32) fun v_29 =>
 loadP w_15.drew ((⟨b_23, 0, none⟩ : Addr).add (Int.toNat (5 : Int) * 1)) 1 (Value.int .u32) fun v_30 =>
 loadP w_15.drew ((⟨b_23, 0, none⟩ : Addr).add (Int.toNat (6 : Int) * 1)) 1 (Value.int .u32) fun v_31 =>
 chkP (inR s_27 64) <|
 loadP w_15.drew ((⟨b_25, 0, none⟩ : Addr).add (Int.toNat s_27 * 1)) 1 (Value.int .u32) fun v_32 =>
 chkP (inR s_27 64) <|
 loadP w_15.drew ((⟨b_1, 0, none⟩ : Addr).add (Int.toNat s_27 * 1)) 1 (Value.int .u32) fun v_33 =>
 callP P 72 #[(.int .u32 v_28), (.int .i64 (6 : Int))] w_15.drew (Value.int .u32) fun r_34 w_16 =>
 Holds w_16 ((⟨b_1, 0, none⟩ : Addr).add (Int.toNat s_27 * 1)) 1 (.int .u32 v_33) ∧ (
 Holds w_16 ((⟨b_25, 0, none⟩ : Addr).add (Int.toNat s_27 * 1)) 1 (.int .u32 v_32) ∧ (
 Holds w_16 ((⟨b_23, 0, none⟩ : Addr).add (Int.toNat (6 : Int) * 1)) 1 (.int .u32 v_31) ∧ (
 Holds w_16 ((⟨b_23, 0, none⟩ : Addr).add (Int.toNat (5 : Int) * 1)) 1 (.int .u32 v_30) ∧ (
 Holds w_16 ((⟨b_23, 0, none⟩ : Addr).add (Int.toNat (7 : Int) * 1)) 1 (.int .u32 v_29) ∧ (
 callP P 72 #[(.int .u32 v_28), (.int .i64 (11 : Int))] w_16 (Value.int .u32) fun r_35 w_17 =>
 Holds w_17 ((⟨b_23, 0, none⟩ : Addr).add (Int.toNat (7 : Int) * 1)) 1 (.int .u32 v_29) ∧ (
 Holds w_17 ((⟨b_23, 0, none⟩ : Addr).add (Int.toNat (5 : Int) * 1)) 1 (.int .u32 v_30) ∧ (
 Holds w_17 ((⟨b_23, 0, none⟩ : Addr).add (Int.toNat (6 : Int) * 1)) 1 (.int .u32 v_31) ∧ (
 Holds w_17 ((⟨b_25, 0, none⟩ : Addr).add (Int.toNat s_27 * 1)) 1 (.int .u32 v_32) ∧ (
 Holds w_17 ((⟨b_1, 0, none⟩ : Addr).add (Int.toNat s_27 * 1)) 1 (.int .u32 v_33) ∧ (
 callP P 72 #[(.int .u32 v_28), (.int .i64 (25 : Int))] w_17 (Value.int .u32) fun r_36 w_18 =>
 Holds w_18 ((⟨b_1, 0, none⟩ : Addr).add (Int.toNat s_27 * 1)) 1 (.int .u32 v_33) ∧ (
 Holds w_18 ((⟨b_25, 0, none⟩ : Addr).add (Int.toNat s_27 * 1)) 1 (.int .u32 v_32) ∧ (
 Holds w_18 ((⟨b_23, 0, none⟩ : Addr).add (Int.toNat (6 : Int) * 1)) 1 (.int .u32 v_31) ∧ (
 Holds w_18 ((⟨b_23, 0, none⟩ : Addr).add (Int.toNat (5 : Int) * 1)) 1 (.int .u32 v_30) ∧ (
 Holds w_18 ((⟨b_23, 0, none⟩ : Addr).add (Int.toNat (7 : Int) * 1)) 1 (.int .u32 v_29) ∧ (
 loadP w_18.drew ((⟨b_23, 0, none⟩ : Addr).add (Int.toNat (0 : Int) * 1)) 1 (Value.int .u32) fun v_37 =>
 loadP w_18.drew ((⟨b_23, 0, none⟩ : Addr).add (Int.toNat (0 : Int) * 1)) 1 (Value.int .u32) fun v_38 =>
 loadP w_18.drew ((⟨b_23, 0, none⟩ : Addr).add (Int.toNat (0 : Int) * 1)) 1 (Value.int .u32) fun v_39 =>
 loadP w_18.drew ((⟨b_23, 0, none⟩ : Addr).add (Int.toNat (0 : Int) * 1)) 1 (Value.int .u32) fun v_40 =>
 loadP w_18.drew ((⟨b_23, 0, none⟩ : Addr).add (Int.toNat (1 : Int) * 1)) 1 (Value.int .u32) fun v_41 =>
 loadP w_18.drew ((⟨b_23, 0, none⟩ : Addr).add (Int.toNat (0 : Int) * 1)) 1 (Value.int .u32) fun v_42 =>
 loadP w_18.drew ((⟨b_23, 0, none⟩ : Addr).add (Int.toNat (2 : Int) * 1)) 1 (Value.int .u32) fun v_43 =>
 loadP w_18.drew ((⟨b_23, 0, none⟩ : Addr).add (Int.toNat (1 : Int) * 1)) 1 (Value.int .u32) fun v_44 =>
 loadP w_18.drew ((⟨b_23, 0, none⟩ : Addr).add (Int.toNat (2 : Int) * 1)) 1 (Value.int .u32) fun v_45 =>
 callP P 72 #[(.int .u32 v_37), (.int .i64 (2 : Int))] w_18.drew (Value.int .u32) fun r_46 w_19 =>
 Holds w_19 ((⟨b_23, 0, none⟩ : Addr).add (Int.toNat (2 : Int) * 1)) 1 (.int .u32 v_45) ∧ (
 Holds w_19 ((⟨b_23, 0, none⟩ : Addr).add (Int.toNat (1 : Int) * 1)) 1 (.int .u32 v_44) ∧ (
 Holds w_19 ((⟨b_23, 0, none⟩ : Addr).add (Int.toNat (2 : Int) * 1)) 1 (.int .u32 v_43) ∧ (
 Holds w_19 ((⟨b_23, 0, none⟩ : Addr).add (Int.toNat (0 : Int) * 1)) 1 (.int .u32 v_42) ∧ (
 Holds w_19 ((⟨b_23, 0, none⟩ : Addr).add (Int.toNat (1 : Int) * 1)) 1 (.int .u32 v_41) ∧ (
 Holds w_19 ((⟨b_23, 0, none⟩ : Addr).add (Int.toNat (0 : Int) * 1)) 1 (.int .u32 v_40) ∧ (
 Holds w_19 ((⟨b_23, 0, none⟩ : Addr).add (Int.toNat (0 : Int) * 1)) 1 (.int .u32 v_39) ∧ (
 Holds w_19 ((⟨b_23, 0, none⟩ : Addr).add (Int.toNat (0 : Int) * 1)) 1 (.int .u32 v_38) ∧ (
 callP P 72 #[(.int .u32 v_38), (.int .i64 (13 : Int))] w_19 (Value.int .u32) fun r_47 w_20 =>
 Holds w_20 ((⟨b_23, 0, none⟩ : Addr).add (Int.toNat (0 : Int) * 1)) 1 (.int .u32 v_39) ∧ (
 Holds w_20 ((⟨b_23, 0, none⟩ : Addr).add (Int.toNat (0 : Int) * 1)) 1 (.int .u32 v_40) ∧ (
 Holds w_20 ((⟨b_23, 0, none⟩ : Addr).add (Int.toNat (1 : Int) * 1)) 1 (.int .u32 v_41) ∧ (
 Holds w_20 ((⟨b_23, 0, none⟩ : Addr).add (Int.toNat (0 : Int) * 1)) 1 (.int .u32 v_42) ∧ (
 Holds w_20 ((⟨b_23, 0, none⟩ : Addr).add (Int.toNat (2 : Int) * 1)) 1 (.int .u32 v_43) ∧ (
 Holds w_20 ((⟨b_23, 0, none⟩ : Addr).add (Int.toNat (1 : Int) * 1)) 1 (.int .u32 v_44) ∧ (
 Holds w_20 ((⟨b_23, 0, none⟩ : Addr).add (Int.toNat (2 : Int) * 1)) 1 (.int .u32 v_45) ∧ (
 callP P 72 #[(.int .u32 v_39), (.int .i64 (22 : Int))] w_20 (Value.int .u32) fun r_48 w_21 =>
 Holds w_21 ((⟨b_23, 0, none⟩ : Addr).add (Int.toNat (2 : Int) * 1)) 1 (.int .u32 v_45) ∧ (
 Holds w_21 ((⟨b_23, 0, none⟩ : Addr).add (Int.toNat (1 : Int) * 1)) 1 (.int .u32 v_44) ∧ (
 Holds w_21 ((⟨b_23, 0, none⟩ : Addr).add (Int.toNat (2 : Int) * 1)) 1 (.int .u32 v_43) ∧ (
 Holds w_21 ((⟨b_23, 0, none⟩ : Addr).add (Int.toNat (0 : Int) * 1)) 1 (.int .u32 v_42) ∧ (
 Holds w_21 ((⟨b_23, 0, none⟩ : Addr).add (Int.toNat (1 : Int) * 1)) 1 (.int .u32 v_41) ∧ (
 Holds w_21 ((⟨b_23, 0, none⟩ : Addr).add (Int.toNat (0 : Int) * 1)) 1 (.int .u32 v_40) ∧ (
 runP P (Builtin.copy_ #[53, 53] 3 #[(SlV.val (arrSub (⟨b_23, 0, none⟩ : Addr) 1 8 8 1)), (SlV.val (arrSub (⟨b_23, 0, none⟩ : Addr) 0 7 8 1))]) w_21.drew (Value.int .i64) fun r_49 w_22 =>
 loadP w_22 ((⟨b_23, 0, none⟩ : Addr).add (Int.toNat (4 : Int) * 1)) 1 (Value.int .u32) fun v_50 =>
 storeP w_22 ((⟨b_23, 0, none⟩ : Addr).add (Int.toNat (4 : Int) * 1)) 1 (.int .u32 (IntKind.u32.wrap (v_50 + (IntKind.u32.wrap ((IntKind.u32.wrap ((IntKind.u32.wrap ((IntKind.u32.wrap (v_29 + (bits .xor .u32 (bits .xor .u32 r_34 r_35) r_36))) + (bits .xor .u32 (bits .and .u32 v_28 v_30) (bits .and .u32 (bits .xor .u32 (if IntKind.u32.signed then -1 else IntKind.u32.max) v_28) v_31)))) + v_32)) + v_33))))) fun w_23 =>
 storeP w_23 ((⟨b_23, 0, none⟩ : Addr).add (Int.toNat (0 : Int) * 1)) 1 (.int .u32 (IntKind.u32.wrap ((IntKind.u32.wrap ((IntKind.u32.wrap ((IntKind.u32.wrap ((IntKind.u32.wrap (v_29 + (bits .xor .u32 (bits .xor .u32 r_34 r_35) r_36))) + (bits .xor .u32 (bits .and .u32 v_28 v_30) (bits .and .u32 (bits .xor .u32 (if IntKind.u32.signed then -1 else IntKind.u32.max) v_28) v_31)))) + v_32)) + v_33)) + (IntKind.u32.wrap ((bits .xor .u32 (bits .xor .u32 r_46 r_47) r_48) + (bits .xor .u32 (bits .xor .u32 (bits .and .u32 v_40 v_41) (bits .and .u32 v_42 v_43)) (bits .and .u32 v_44 v_45))))))) fun w_24 =>
 next__26 (IntKind.i64.wrap (s_27 + (1 : Int))) w_24))))))))))))))))))))))))))))))))))))) (
 loopP (Int) (0 : Int) w_15 fun next__51 _ s_52 w_25 =>
 cond' (decide (s_52 < (8 : Int))) (
 chkP (inR s_52 8) <|
 loadP w_25.drew (s.add (Int.toNat s_52 * 1)) 1 (Value.int .u32) fun v_53 =>
 chkP (inR s_52 8) <|
 loadP w_25.drew ((⟨b_23, 0, none⟩ : Addr).add (Int.toNat s_52 * 1)) 1 (Value.int .u32) fun v_54 =>
 chkP (inR s_52 8) <|
 storeP w_25.drew (s.add (Int.toNat s_52 * 1)) 1 (.int .u32 (IntKind.u32.wrap (v_53 + v_54))) fun w_26 =>
 next__51 (IntKind.i64.wrap (s_52 + (1 : Int))) w_26) (
 R () w_25))))
def an44 : Ann := mkAnn [(2, [(17, (shInt .i64))]), (8, [(7, (shInt .i64))]), (15, [(105, (shInt .i64))]), (25, [(188, (shInt .i64))])] []
theorem sf44_eq (s : Addr) (b : SlV) (w0 : World) (R : Unit → World → Prop) : sf44 s b w0 R = vcFn P sh an44 Try.f44 [(.pointer (some s)), (SlV.val b)] shUnit w0 R := by kernel_rfl
theorem nm44 : (Try.f44.name == "runtime.NumGoroutine") = false := by kernel_rfl
theorem sf44_call (s : Addr) (b : SlV) (w0 : World) (R : Unit → World → Prop) (hsf : sf44 s b w0 R) : callP P 44 #[(.pointer (some s)), (SlV.val b)] w0 shUnit.val R :=
  vcFn_sound mixed Try.func44 nm44 (Eq.mp (sf44_eq s b w0 R) hsf)

/-- slices.Grow[[]byte,byte] -/
def sf70 (s : SlV) (n : Int) (w0 : World) (R : SlV → World → Prop) : Prop :=
 cutP (Unit) (fun J_1 =>
 cond' (decide (n < (0 : Int))) (
 False) (
 J_1 () w0)) fun _ _ w_1 =>
 cond' (decide ((IntKind.i64.wrap (n - (IntKind.i64.wrap ((s.cap : Int) - (s.len : Int))))) > (0 : Int))) (
 chkP (leR (s.cap : Int) (s.cap : Int)) <|
 chkP (leR 0 (s.cap : Int)) <|
 runP P (Builtin.append_ #[22, 3] 22 #[(SlV.val (SlV.sub s (0) (Int.toNat (s.cap : Int)) s.cap 1)), (.int .i64 (IntKind.i64.wrap (n - (IntKind.i64.wrap ((s.cap : Int) - (s.len : Int))))))]) w_1 SlV.val fun r_3 w_2 =>
 chkP (leR (s.len : Int) (r_3.cap : Int)) <|
 chkP (leR 0 (s.len : Int)) <|
 R (SlV.sub r_3 (0) (Int.toNat (s.len : Int)) r_3.cap 1) w_2) (
 R s w_1)
def an70 : Ann := mkAnn [] [(3, [])]
theorem sf70_eq (s : SlV) (n : Int) (w0 : World) (R : SlV → World → Prop) : sf70 s n w0 R = vcFn P sh an70 Try.f70 [(SlV.val s), (.int .i64 n)] shSl w0 R := by kernel_rfl
theorem nm70 : (Try.f70.name == "runtime.NumGoroutine") = false := by kernel_rfl
theorem sf70_call (s : SlV) (n : Int) (w0 : World) (R : SlV → World → Prop) (hsf : sf70 s n w0 R) : callP P 70 #[(SlV.val s), (.int .i64 n)] w0 shSl.val R :=
  vcFn_sound mixed Try.func70 nm70 (Eq.mp (sf70_eq s n w0 R) hsf)

/-- slices.Chunk[[]byte,byte]$1 -/
def sf71 (L : Nat) (c1 : Addr) (c2 : Addr) (w0 : World) (R : Unit → World → Prop) : Prop :=
 loopP (Int) (0 : Int) w0 fun next__1 _ s_2 w_1 =>
 loadP w_1 c1 1 SlV.val fun v_3 =>
 cond' (decide (s_2 < (v_3.len : Int))) (
 loadP w_1.drew c2 1 (Value.int .i64) fun v_4 =>
 loadP w_1.drew c1 1 SlV.val fun v_5 =>
 chkP (leR (v_5.len : Int) (v_5.cap : Int)) <|
 chkP (leR s_2 (v_5.len : Int)) <|
 loadP w_1.drew c1 1 SlV.val fun v_6 =>
 chkP (leR (IntKind.i64.wrap (s_2 + (if ((SlV.sub v_5 (Int.toNat s_2) (v_5.len) v_5.cap 1).len : Int) < v_4 then ((SlV.sub v_5 (Int.toNat s_2) (v_5.len) v_5.cap 1).len : Int) else v_4))) (v_6.cap : Int)) <|
 chkP (leR (IntKind.i64.wrap (s_2 + (if ((SlV.sub v_5 (Int.toNat s_2) (v_5.len) v_5.cap 1).len : Int) < v_4 then ((SlV.sub v_5 (Int.toNat s_2) (v_5.len) v_5.cap 1).len : Int) else v_4))) (IntKind.i64.wrap (s_2 + (if ((SlV.sub v_5 (Int.toNat s_2) (v_5.len) v_5.cap 1).len : Int) < v_4 then ((SlV.sub v_5 (Int.toNat s_2) (v_5.len) v_5.cap 1).len : Int) else v_4)))) <|
 chkP (leR s_2 (IntKind.i64.wrap (s_2 + (if ((SlV.sub v_5 (Int.toNat s_2) (v_5.len) v_5.cap 1).len : Int) < v_4 then ((SlV.sub v_5 (Int.toNat s_2) (v_5.len) v_5.cap 1).len : Int) else v_4)))) <|
 yieldP P L [(SlV.val (SlV.sub v_6 (Int.toNat s_2) (Int.toNat (IntKind.i64.wrap (s_2 + (if ((SlV.sub v_5 (Int.toNat s_2) (v_5.len) v_5.cap 1).len : Int) < v_4 then ((SlV.sub v_5 (Int.toNat s_2) (v_5.len) v_5.cap 1).len : Int) else v_4)))) (Int.toNat (IntKind.i64.wrap (s_2 + (if ((SlV.sub v_5 (Int.toNat s_2) (v_5.len) v_5.cap 1).len : Int) < v_4 then ((SlV.sub v_5 (Int.toNat s_2) (v_5.len) v_5.cap 1).len : Int) else v_4)))) 1))] w_1.drew Value.bool fun r_7 w_2 =>
 cond' (!r_7) (
 R () w_2) (
 loadP w_2 c2 1 (Value.int .i64) fun v_8 =>
 next__1 (IntKind.i64.wrap (s_2 + v_8)) w_2)) (
 R () w_1)
def an71 : Ann := mkAnn [(1, [(4, (shInt .i64))])] []
theorem sf71_eq (L : Nat) (c1 : Addr) (c2 : Addr) (w0 : World) (R : Unit → World → Prop) : sf71 L c1 c2 w0 R = vcFn P sh an71 Try.f71 [(.func (.yield L) #[] #[]), (.pointer (some c1)), (.pointer (some c2))] shUnit w0 R := by kernel_rfl
theorem nm71 : (Try.f71.name == "runtime.NumGoroutine") = false := by kernel_rfl
theorem sf71_call (L : Nat) (c1 : Addr) (c2 : Addr) (w0 : World) (R : Unit → World → Prop) (hsf : sf71 L c1 c2 w0 R) : callP P 71 #[(.func (.yield L) #[] #[]), (.pointer (some c1)), (.pointer (some c2))] w0 shUnit.val R :=
  vcFn_sound mixed Try.func71 nm71 (Eq.mp (sf71_eq L c1 c2 w0 R) hsf)

/-- (*flume/mac.state).block$1 -/
def sf72 (x : Int) (n : Int) (w0 : World) (R : Int → World → Prop) : Prop :=
 callP P 73 #[(.int .u32 x), (.int .i64 (IntKind.i64.wrap (0 - n)))] w0 (Value.int .u32) fun r_1 w_1 =>
 R r_1 w_1
def an72 : Ann := mkAnn [] []
theorem sf72_eq (x : Int) (n : Int) (w0 : World) (R : Int → World → Prop) : sf72 x n w0 R = vcFn P sh an72 Try.f72 [(.int .u32 x), (.int .i64 n)] (shInt .u32) w0 R := by kernel_rfl
theorem nm72 : (Try.f72.name == "runtime.NumGoroutine") = false := by kernel_rfl
theorem sf72_call (x : Int) (n : Int) (w0 : World) (R : Int → World → Prop) (hsf : sf72 x n w0 R) : callP P 72 #[(.int .u32 x), (.int .i64 n)] w0 (shInt .u32).val R :=
  vcFn_sound mixed Try.func72 nm72 (Eq.mp (sf72_eq x n w0 R) hsf)

/-- math/bits.RotateLeft32 -/
def sf73 (x : Int) (k : Int) (w0 : World) (R : Int → World → Prop) : Prop :=
 chkP (decide (0 ≤ (bits .and .u64 (IntKind.u64.wrap k) (31 : Int)))) <|
 chkP (decide (0 ≤ (IntKind.u64.wrap ((32 : Int) - (bits .and .u64 (IntKind.u64.wrap k) (31 : Int)))))) <|
 R (bits .or .u32 (IntKind.u32.wrap (x * 2 ^ (min (Int.toNat (bits .and .u64 (IntKind.u64.wrap k) (31 : Int))) IntKind.u32.bits))) (Int.fdiv x (2 ^ (min (Int.toNat (IntKind.u64.wrap ((32 : Int) - (bits .and .u64 (IntKind.u64.wrap k) (31 : Int))))) IntKind.u32.bits)))) w0
def an73 : Ann := mkAnn [] []
theorem sf73_eq (x : Int) (k : Int) (w0 : World) (R : Int → World → Prop) : sf73 x k w0 R = vcFn P sh an73 Try.f73 [(.int .u32 x), (.int .i64 k)] (shInt .u32) w0 R := by kernel_rfl
theorem nm73 : (Try.f73.name == "runtime.NumGoroutine") = false := by kernel_rfl
theorem sf73_call (x : Int) (k : Int) (w0 : World) (R : Int → World → Prop) (hsf : sf73 x k w0 R) : callP P 73 #[(.int .u32 x), (.int .i64 k)] w0 (shInt .u32).val R :=
  vcFn_sound mixed Try.func73 nm73 (Eq.mp (sf73_eq x k w0 R) hsf)

end Go.Vc.SA

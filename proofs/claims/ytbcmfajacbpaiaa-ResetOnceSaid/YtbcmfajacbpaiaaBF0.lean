/-
  What functions of the program come to, read off their code. No condition.
-/
import Derived.Test.YtbcmfajacbpaiaaBSh
set_option linter.all false
set_option linter.unusedVariables false
set_option maxRecDepth 100000
namespace Go.Vc.SB
open Go.Proofs
/-- flume/flumelaw18.ResetOnce -/
def sf8 (mine : Int) (theirs : Int) (acts : SlV) (w0 : World) (R : Bool → World → Prop) : Prop :=
 callP P 34 #[] w0 Value.bool fun r_1 w_1 =>
 cond' (!r_1) (
 R false w_1) (
 callP P 35 #[(.int .u32 mine), (.int .u32 theirs)] w_1 Value.pointer fun r_2 w_2 =>
 callP P 35 #[(.int .u32 theirs), (.int .u32 mine)] w_2 Value.pointer fun r_3 w_3 =>
 newP w_3 (.cells #[(.pointer r_2), (.pointer r_3)] 75) fun b_4 w_4 =>
 newP w_4 (.cells (Arr2SlV.val (Arr2SlV.mk SlV.nil SlV.nil)).cells 78) fun b_5 w_5 =>
 newP w_5 (.cells ((arrV .i64) (List.replicate 16 0)).cells 80) fun b_6 w_6 =>
 newP w_6 (.cells ((arrV .i64) (List.replicate 16 0)).cells 80) fun b_7 w_7 =>
 loopP (Int) (0 : Int) w_7 fun next__8 _ s_9 w_8 =>
 cond' (decide (s_9 < (acts.len : Int))) (
 chkP (inR s_9 acts.len) <|
 nilP acts.a fun a_10 =>
 loadP w_8 (a_10.add (Int.toNat s_9 * 1)) 1 (Value.int .i64) fun v_11 =>
 cond' (decide (s_9 ≥ (200 : Int))) (
 R true w_8) (
 chkP (inR (IntKind.i64.wrap (Int.tmod (IntKind.u64.wrap v_11) (2 : Int))) 2) <|
 loadP w_8 ((⟨b_4, 0, none⟩ : Addr).add (Int.toNat (IntKind.i64.wrap (Int.tmod (IntKind.u64.wrap v_11) (2 : Int))) * 1)) 1 Value.pointer fun v_12 =>
 cutP (Unit) (fun J_13 =>
 cond' ((Int.tmod (IntKind.u64.wrap (Int.tdiv (IntKind.u64.wrap v_11) (16 : Int))) (4 : Int)) == (0 : Int)) (
 newP w_8 (.cells #[(.int .u16 (IntKind.u16.wrap (Int.tmod (IntKind.u64.wrap (Int.tdiv (IntKind.u64.wrap v_11) (2 : Int))) (8 : Int))))] 38) fun b_15 w_10 =>
 callP P 36 #[(.pointer v_12), (SlV.val (SlV.mk (some (⟨b_15, 0, none⟩ : Addr)) 1 1))] w_10 unitV fun r_16 w_11 =>
 newP w_11 (.cells #[(.int .u16 (IntKind.u16.wrap (Int.tmod (IntKind.u64.wrap (Int.tdiv (IntKind.u64.wrap v_11) (2 : Int))) (8 : Int)))), (.int .u16 (IntKind.u16.wrap (Int.tdiv (IntKind.u16.wrap (Int.tmod (IntKind.u64.wrap (Int.tdiv (IntKind.u64.wrap v_11) (2 : Int))) (8 : Int))) (2 : Int)))), (.int .u16 (7 : Int))] 38) fun b_17 w_12 =>
 callP P 37 #[(.pointer v_12), (.int .u32 (0 : Int)), (SlV.val (SlV.mk (some (⟨b_17, 0, none⟩ : Addr)) 3 3))] w_12 (tup2V ParamV.val Value.bool) fun r_18 w_13 =>
 newP w_13 (.cells (ParamV.val ({ Kind := 0, Value_ := SlV.nil } : ParamV)).cells 83) fun b_19 w_14 =>
 storeP w_14 (⟨b_19, 0, none⟩ : Addr) 2 (ParamV.val r_18.1) fun w_15 =>
 cond' r_18.2 (
 chkP (inR (IntKind.i64.wrap ((1 : Int) - (IntKind.i64.wrap (Int.tmod (IntKind.u64.wrap v_11) (2 : Int))))) 2) <|
 loadP w_15.drew ((⟨b_5, 0, none⟩ : Addr).add (Int.toNat (IntKind.i64.wrap ((1 : Int) - (IntKind.i64.wrap (Int.tmod (IntKind.u64.wrap v_11) (2 : Int))))) * 1)) 1 SlV.val fun v_20 =>
 loadP w_15.drew (⟨b_19, 0, none⟩ : Addr) 2 ParamV.val fun v_21 =>
 newP w_15.drew (.cells (ParamV.val v_21).cells 83) fun b_22 w_16 =>
 Holds w_16 ((⟨b_5, 0, none⟩ : Addr).add (Int.toNat (IntKind.i64.wrap ((1 : Int) - (IntKind.i64.wrap (Int.tmod (IntKind.u64.wrap v_11) (2 : Int))))) * 1)) 1 (SlV.val v_20) ∧ (
 runP P (Builtin.append_ #[46, 46] 46 #[(SlV.val v_20), (SlV.val (SlV.mk (some (⟨b_22, 0, none⟩ : Addr)) 1 1))]) w_16 SlV.val fun r_23 w_17 =>
 chkP (inR (IntKind.i64.wrap ((1 : Int) - (IntKind.i64.wrap (Int.tmod (IntKind.u64.wrap v_11) (2 : Int))))) 2) <|
 storeP w_17 ((⟨b_5, 0, none⟩ : Addr).add (Int.toNat (IntKind.i64.wrap ((1 : Int) - (IntKind.i64.wrap (Int.tmod (IntKind.u64.wrap v_11) (2 : Int))))) * 1)) 1 (SlV.val r_23) fun w_18 =>
 J_13 () w_18)) (
 J_13 () w_15)) (
 cond' ((Int.tmod (IntKind.u64.wrap (Int.tdiv (IntKind.u64.wrap v_11) (16 : Int))) (4 : Int)) == (1 : Int)) (
 callP P 38 #[(.pointer v_12)] w_8 (tup2V ParamV.val Value.bool) fun r_24 w_19 =>
 newP w_19 (.cells (ParamV.val ({ Kind := 0, Value_ := SlV.nil } : ParamV)).cells 83) fun b_25 w_20 =>
 storeP w_20 (⟨b_25, 0, none⟩ : Addr) 2 (ParamV.val r_24.1) fun w_21 =>
 cond' r_24.2 (
 chkP (inR (IntKind.i64.wrap ((1 : Int) - (IntKind.i64.wrap (Int.tmod (IntKind.u64.wrap v_11) (2 : Int))))) 2) <|
 loadP w_21.drew ((⟨b_5, 0, none⟩ : Addr).add (Int.toNat (IntKind.i64.wrap ((1 : Int) - (IntKind.i64.wrap (Int.tmod (IntKind.u64.wrap v_11) (2 : Int))))) * 1)) 1 SlV.val fun v_26 =>
 loadP w_21.drew (⟨b_25, 0, none⟩ : Addr) 2 ParamV.val fun v_27 =>
 newP w_21.drew (.cells (ParamV.val v_27).cells 83) fun b_28 w_22 =>
 Holds w_22 ((⟨b_5, 0, none⟩ : Addr).add (Int.toNat (IntKind.i64.wrap ((1 : Int) - (IntKind.i64.wrap (Int.tmod (IntKind.u64.wrap v_11) (2 : Int))))) * 1)) 1 (SlV.val v_26) ∧ (
 runP P (Builtin.append_ #[46, 46] 46 #[(SlV.val v_26), (SlV.val (SlV.mk (some (⟨b_28, 0, none⟩ : Addr)) 1 1))]) w_22 SlV.val fun r_29 w_23 =>
 chkP (inR (IntKind.i64.wrap ((1 : Int) - (IntKind.i64.wrap (Int.tmod (IntKind.u64.wrap v_11) (2 : Int))))) 2) <|
 storeP w_23 ((⟨b_5, 0, none⟩ : Addr).add (Int.toNat (IntKind.i64.wrap ((1 : Int) - (IntKind.i64.wrap (Int.tmod (IntKind.u64.wrap v_11) (2 : Int))))) * 1)) 1 (SlV.val r_29) fun w_24 =>
 J_13 () w_24)) (
 J_13 () w_21)) (
 chkP (inR (IntKind.i64.wrap (Int.tmod (IntKind.u64.wrap v_11) (2 : Int))) 2) <|
 loadP w_8 ((⟨b_5, 0, none⟩ : Addr).add (Int.toNat (IntKind.i64.wrap (Int.tmod (IntKind.u64.wrap v_11) (2 : Int))) * 1)) 1 SlV.val fun v_30 =>
 cond' ((v_30.len : Int) == (0 : Int)) (
 next__8 (IntKind.i64.wrap (s_9 + (1 : Int))) w_8) (
 chkP (inR (IntKind.i64.wrap (Int.tmod (IntKind.u64.wrap v_11) (2 : Int))) 2) <|
 loadP w_8 ((⟨b_5, 0, none⟩ : Addr).add (Int.toNat (IntKind.i64.wrap (Int.tmod (IntKind.u64.wrap v_11) (2 : Int))) * 1)) 1 SlV.val fun v_31 =>
 chkP (decide ((IntKind.u64.wrap (v_31.len : Int)) ≠ 0)) <|
 chkP (inR (IntKind.i64.wrap (Int.tmod (IntKind.u64.wrap v_11) (2 : Int))) 2) <|
 loadP w_8 ((⟨b_5, 0, none⟩ : Addr).add (Int.toNat (IntKind.i64.wrap (Int.tmod (IntKind.u64.wrap v_11) (2 : Int))) * 1)) 1 SlV.val fun v_32 =>
 chkP (inR (IntKind.i64.wrap (Int.tmod (IntKind.u64.wrap (Int.tdiv (IntKind.u64.wrap v_11) (64 : Int))) (IntKind.u64.wrap (v_31.len : Int)))) v_32.len) <|
 nilP v_32.a fun a_33 =>
 loadP w_8 (a_33.add (Int.toNat (IntKind.i64.wrap (Int.tmod (IntKind.u64.wrap (Int.tdiv (IntKind.u64.wrap v_11) (64 : Int))) (IntKind.u64.wrap (v_31.len : Int)))) * 2)) 2 ParamV.val fun v_34 =>
 callP P 39 #[(.pointer v_12), (ParamV.val v_34), (.int .u32 (0 : Int))] w_8 (tup2V HeardV.val (Value.int .i64)) fun r_35 w_25 =>
 newP w_25 (.cells (HeardV.val ({ Reply := none, In := SlV.nil, All := false, Done := SlV.nil } : HeardV)).cells 90) fun b_36 w_26 =>
 storeP w_26 (⟨b_36, 0, none⟩ : Addr) 4 (HeardV.val r_35.1) fun w_27 =>
 cond' (r_35.2 != (0 : Int)) (
 R false w_27) (
 cutP (Unit) (fun J_37 =>
 loadP w_27 ((⟨b_36, 0, none⟩ : Addr).add 0) 1 Value.pointer fun v_39 =>
 cond' (negB true v_39.isNone) (
 chkP (inR (IntKind.i64.wrap ((1 : Int) - (IntKind.i64.wrap (Int.tmod (IntKind.u64.wrap v_11) (2 : Int))))) 2) <|
 loadP w_27.drew ((⟨b_5, 0, none⟩ : Addr).add (Int.toNat (IntKind.i64.wrap ((1 : Int) - (IntKind.i64.wrap (Int.tmod (IntKind.u64.wrap v_11) (2 : Int))))) * 1)) 1 SlV.val fun v_40 =>
 loadP w_27.drew ((⟨b_36, 0, none⟩ : Addr).add 0) 1 Value.pointer fun v_41 =>
 nilP v_41 fun a_42 =>
 loadP w_27.drew a_42 2 ParamV.val fun v_43 =>
 newP w_27.drew (.cells (ParamV.val v_43).cells 83) fun b_44 w_29 =>
 Holds w_29 ((⟨b_5, 0, none⟩ : Addr).add (Int.toNat (IntKind.i64.wrap ((1 : Int) - (IntKind.i64.wrap (Int.tmod (IntKind.u64.wrap v_11) (2 : Int))))) * 1)) 1 (SlV.val v_40) ∧ (
 runP P (Builtin.append_ #[46, 46] 46 #[(SlV.val v_40), (SlV.val (SlV.mk (some (⟨b_44, 0, none⟩ : Addr)) 1 1))]) w_29 SlV.val fun r_45 w_30 =>
 chkP (inR (IntKind.i64.wrap ((1 : Int) - (IntKind.i64.wrap (Int.tmod (IntKind.u64.wrap v_11) (2 : Int))))) 2) <|
 storeP w_30 ((⟨b_5, 0, none⟩ : Addr).add (Int.toNat (IntKind.i64.wrap ((1 : Int) - (IntKind.i64.wrap (Int.tmod (IntKind.u64.wrap v_11) (2 : Int))))) * 1)) 1 (SlV.val r_45) fun w_31 =>
 J_37 () w_31)) (
 J_37 () w_27)) fun _ _ w_28 =>
 loadP w_28 ((⟨b_36, 0, none⟩ : Addr).add 1) 1 SlV.val fun v_46 =>
 loopP (Int) (0 : Int) w_28 fun next__47 _ s_48 w_32 =>
 cond' (decide (s_48 < (v_46.len : Int))) (
 chkP (inR s_48 v_46.len) <|
 nilP v_46.a fun a_49 =>
 loadP w_32 (a_49.add (Int.toNat s_48 * 1)) 1 (Value.int .u16) fun v_50 =>
 chkP (inR (IntKind.i64.wrap (Int.tmod (IntKind.u64.wrap v_11) (2 : Int))) 2) <|
 chkP (inR (Int.tmod v_50 (8 : Int)) 8) <|
 loadP w_32.drew (((⟨b_7, 0, none⟩ : Addr).add (Int.toNat (IntKind.i64.wrap (Int.tmod (IntKind.u64.wrap v_11) (2 : Int))) * 8)).add (Int.toNat (Int.tmod v_50 (8 : Int)) * 1)) 1 (Value.int .i64) fun v_51 =>
 chkP (inR (IntKind.i64.wrap (Int.tmod (IntKind.u64.wrap v_11) (2 : Int))) 2) <|
 chkP (inR (Int.tmod v_50 (8 : Int)) 8) <|
 storeP w_32.drew (((⟨b_7, 0, none⟩ : Addr).add (Int.toNat (IntKind.i64.wrap (Int.tmod (IntKind.u64.wrap v_11) (2 : Int))) * 8)).add (Int.toNat (Int.tmod v_50 (8 : Int)) * 1)) 1 (.int .i64 (IntKind.i64.wrap (v_51 + (1 : Int)))) fun w_33 =>
 next__47 (IntKind.i64.wrap (s_48 + (1 : Int))) w_33) (
 loadP w_32 ((⟨b_36, 0, none⟩ : Addr).add 3) 1 SlV.val fun v_52 =>
 loopP (Int) (0 : Int) w_32 fun next__53 _ s_54 w_34 =>
 cond' (decide (s_54 < (v_52.len : Int))) (
 chkP (inR s_54 v_52.len) <|
 nilP v_52.a fun a_55 =>
 loadP w_34 (a_55.add (Int.toNat s_54 * 1)) 1 (Value.int .u16) fun v_56 =>
 chkP (inR (IntKind.i64.wrap (Int.tmod (IntKind.u64.wrap v_11) (2 : Int))) 2) <|
 chkP (inR (Int.tmod v_56 (8 : Int)) 8) <|
 loadP w_34.drew (((⟨b_6, 0, none⟩ : Addr).add (Int.toNat (IntKind.i64.wrap (Int.tmod (IntKind.u64.wrap v_11) (2 : Int))) * 8)).add (Int.toNat (Int.tmod v_56 (8 : Int)) * 1)) 1 (Value.int .i64) fun v_57 =>
 chkP (inR (IntKind.i64.wrap (Int.tmod (IntKind.u64.wrap v_11) (2 : Int))) 2) <|
 chkP (inR (Int.tmod v_56 (8 : Int)) 8) <|
 storeP w_34.drew (((⟨b_6, 0, none⟩ : Addr).add (Int.toNat (IntKind.i64.wrap (Int.tmod (IntKind.u64.wrap v_11) (2 : Int))) * 8)).add (Int.toNat (Int.tmod v_56 (8 : Int)) * 1)) 1 (.int .i64 (IntKind.i64.wrap (v_57 + (1 : Int)))) fun w_35 =>
 next__53 (IntKind.i64.wrap (s_54 + (1 : Int))) w_35) (
 chkP (inR (IntKind.i64.wrap (Int.tmod (IntKind.u64.wrap v_11) (2 : Int))) 2) <|
 loadP w_34 ((⟨b_5, 0, none⟩ : Addr).add (Int.toNat (IntKind.i64.wrap (Int.tmod (IntKind.u64.wrap v_11) (2 : Int))) * 1)) 1 SlV.val fun v_58 =>
 cond' (decide ((v_58.len : Int) > (30 : Int))) (
 chkP (inR (IntKind.i64.wrap (Int.tmod (IntKind.u64.wrap v_11) (2 : Int))) 2) <|
 loadP w_34 ((⟨b_5, 0, none⟩ : Addr).add (Int.toNat (IntKind.i64.wrap (Int.tmod (IntKind.u64.wrap v_11) (2 : Int))) * 1)) 1 SlV.val fun v_59 =>
 chkP (leR (v_59.len : Int) (v_59.cap : Int)) <|
 chkP (leR (20 : Int) (v_59.len : Int)) <|
 chkP (inR (IntKind.i64.wrap (Int.tmod (IntKind.u64.wrap v_11) (2 : Int))) 2) <|
 storeP w_34 ((⟨b_5, 0, none⟩ : Addr).add (Int.toNat (IntKind.i64.wrap (Int.tmod (IntKind.u64.wrap v_11) (2 : Int))) * 1)) 1 (SlV.val (SlV.sub v_59 (20) (v_59.len) v_59.cap 2)) fun w_36 =>
 J_13 () w_36) (
 J_13 () w_34)))))))) fun _ _ w_9 =>
 loopP (Int) (0 : Int) w_9 fun next__60 _ s_61 w_37 =>
 cond' (decide (s_61 < (8 : Int))) (
 chkP (inR s_61 8) <|
 loadP w_37.drew (((⟨b_6, 0, none⟩ : Addr).add (Int.toNat (0 : Int) * 8)).add (Int.toNat s_61 * 1)) 1 (Value.int .i64) fun v_62 =>
 chkP (inR s_61 8) <|
 loadP w_37.drew (((⟨b_7, 0, none⟩ : Addr).add (Int.toNat (1 : Int) * 8)).add (Int.toNat s_61 * 1)) 1 (Value.int .i64) fun v_63 =>
 cond' (decide (v_62 > v_63)) (
 R false w_37.drew) (
 chkP (inR s_61 8) <|
 loadP w_37.drew (((⟨b_6, 0, none⟩ : Addr).add (Int.toNat (1 : Int) * 8)).add (Int.toNat s_61 * 1)) 1 (Value.int .i64) fun v_65 =>
 chkP (inR s_61 8) <|
 loadP w_37.drew (((⟨b_7, 0, none⟩ : Addr).add (Int.toNat (0 : Int) * 8)).add (Int.toNat s_61 * 1)) 1 (Value.int .i64) fun v_66 =>
 cond' (decide (v_65 > v_66)) (
 R false w_37.drew) (
 chkP (inR s_61 8) <|
 loadP w_37.drew (((⟨b_7, 0, none⟩ : Addr).add (Int.toNat (1 : Int) * 8)).add (Int.toNat s_61 * 1)) 1 (Value.int .i64) fun v_68 =>
 chkP (inR s_61 8) <|
 loadP w_37.drew (((⟨b_6, 0, none⟩ : Addr).add (Int.toNat (0 : Int) * 8)).add (Int.toNat s_61 * 1)) 1 (Value.int .i64) fun v_69 =>
 cond' (decide (v_68 > (IntKind.i64.wrap (v_69 + (1 : Int))))) (
 R false w_37.drew) (
 chkP (inR s_61 8) <|
 loadP w_37.drew (((⟨b_7, 0, none⟩ : Addr).add (Int.toNat (0 : Int) * 8)).add (Int.toNat s_61 * 1)) 1 (Value.int .i64) fun v_71 =>
 chkP (inR s_61 8) <|
 loadP w_37.drew (((⟨b_6, 0, none⟩ : Addr).add (Int.toNat (1 : Int) * 8)).add (Int.toNat s_61 * 1)) 1 (Value.int .i64) fun v_72 =>
 cond' (decide (v_71 > (IntKind.i64.wrap (v_72 + (1 : Int))))) (
 R false w_37.drew) (
 next__60 (IntKind.i64.wrap (s_61 + (1 : Int))) w_37.drew))))) (
 next__8 (IntKind.i64.wrap (s_9 + (1 : Int))) w_37))) (
 R true w_8))
def an8 : Ann := mkAnn [(7, [(39, (shInt .i64))]), (22, [(110, (shInt .i64))]), (27, [(127, (shInt .i64))]), (43, [(196, (shInt .i64))])] [(21, []), (42, [])]
theorem sf8_eq (mine : Int) (theirs : Int) (acts : SlV) (w0 : World) (R : Bool → World → Prop) : sf8 mine theirs acts w0 R = vcFn P sh an8 Try.f8 [(.int .u32 mine), (.int .u32 theirs), (SlV.val acts)] shBool w0 R := by kernel_rfl
theorem nm8 : (Try.f8.name == "runtime.NumGoroutine") = false := by kernel_rfl
theorem sf8_call (mine : Int) (theirs : Int) (acts : SlV) (w0 : World) (R : Bool → World → Prop) (hsf : sf8 mine theirs acts w0 R) : callP P 8 #[(.int .u32 mine), (.int .u32 theirs), (SlV.val acts)] w0 shBool.val R :=
  vcFn_sound mixed Try.func8 nm8 (Eq.mp (sf8_eq mine theirs acts w0 R) hsf)

/-- flume/flumelaw18.ResetLater -/
def sf10 (mine : Int) (theirs : Int) (last : Int) (w0 : World) (R : Bool → World → Prop) : Prop :=
 callP P 34 #[] w0 Value.bool fun r_1 w_1 =>
 cond' (!r_1) (
 R false w_1) (
 callP P 35 #[(.int .u32 mine), (.int .u32 theirs)] w_1 Value.pointer fun r_2 w_2 =>
 callP P 35 #[(.int .u32 theirs), (.int .u32 mine)] w_2 Value.pointer fun r_3 w_3 =>
 newP w_3 (.cells #[(.int .u16 (5 : Int)), (.int .u16 (2 : Int))] 38) fun b_4 w_4 =>
 callP P 36 #[(.pointer r_2), (SlV.val (SlV.mk (some (⟨b_4, 0, none⟩ : Addr)) 2 2))] w_4 unitV fun r_5 w_5 =>
 newP w_5 (.cells #[(.int .u16 (2 : Int)), (.int .u16 (5 : Int))] 38) fun b_6 w_6 =>
 callP P 37 #[(.pointer r_2), (.int .u32 last), (SlV.val (SlV.mk (some (⟨b_6, 0, none⟩ : Addr)) 2 2))] w_6 (tup2V ParamV.val Value.bool) fun r_7 w_7 =>
 newP w_7 (.cells (ParamV.val ({ Kind := 0, Value_ := SlV.nil } : ParamV)).cells 83) fun b_8 w_8 =>
 storeP w_8 (⟨b_8, 0, none⟩ : Addr) 2 (ParamV.val r_7.1) fun w_9 =>
 cond' (!r_7.2) (
 R false w_9) (
 newP w_9 (.cells #[(.int .u32 (1000 : Int)), (.int .u32 (1 : Int)), (.int .u32 (2 : Int))] 35) fun b_9 w_10 =>
 loopP (Int) (0 : Int) w_10 fun next__10 _ s_11 w_11 =>
 cond' (decide (s_11 < (3 : Int))) (
 chkP (inR s_11 3) <|
 loadP w_11 ((⟨b_9, 0, none⟩ : Addr).add (Int.toNat s_11 * 1)) 1 (Value.int .u32) fun v_12 =>
 loadP w_11 (⟨b_8, 0, none⟩ : Addr) 2 ParamV.val fun v_13 =>
 callP P 39 #[(.pointer r_3), (ParamV.val v_13), (.int .u32 (IntKind.u32.wrap (last - v_12)))] w_11 (tup2V HeardV.val (Value.int .i64)) fun r_14 w_12 =>
 newP w_12 (.cells (HeardV.val ({ Reply := none, In := SlV.nil, All := false, Done := SlV.nil } : HeardV)).cells 90) fun b_15 w_13 =>
 storeP w_13 (⟨b_15, 0, none⟩ : Addr) 4 (HeardV.val r_14.1) fun w_14 =>
 cutP (Unit) (fun J_16 =>
 cond' (r_14.2 != (0 : Int)) (
 R false w_14) (
 loadP w_14 ((⟨b_15, 0, none⟩ : Addr).add 1) 1 SlV.val fun v_19 =>
 cond' ((v_19.len : Int) != (0 : Int)) (
 R false w_14) (
 loadP w_14 ((⟨b_15, 0, none⟩ : Addr).add 0) 1 Value.pointer fun v_21 =>
 cond' (negB false v_21.isNone) (
 R false w_14) (
 J_16 () w_14)))) fun _ _ w_15 =>
 loadP w_15 ((⟨b_15, 0, none⟩ : Addr).add 0) 1 Value.pointer fun v_22 =>
 nilP v_22 fun a_23 =>
 loadP w_15 a_23 2 ParamV.val fun v_24 =>
 callP P 39 #[(.pointer r_2), (ParamV.val v_24), (.int .u32 (0 : Int))] w_15 (tup2V HeardV.val (Value.int .i64)) fun r_25 w_16 =>
 newP w_16 (.cells (HeardV.val ({ Reply := none, In := SlV.nil, All := false, Done := SlV.nil } : HeardV)).cells 90) fun b_26 w_17 =>
 storeP w_17 (⟨b_26, 0, none⟩ : Addr) 4 (HeardV.val r_25.1) fun w_18 =>
 cond' (r_25.2 != (0 : Int)) (
 R false w_18) (
 loadP w_18 ((⟨b_26, 0, none⟩ : Addr).add 3) 1 SlV.val fun v_28 =>
 cond' ((v_28.len : Int) != (0 : Int)) (
 R false w_18) (
 next__10 (IntKind.i64.wrap (s_11 + (1 : Int))) w_18))) (
 loadP w_11 (⟨b_8, 0, none⟩ : Addr) 2 ParamV.val fun v_29 =>
 callP P 39 #[(.pointer r_3), (ParamV.val v_29), (.int .u32 last)] w_11 (tup2V HeardV.val (Value.int .i64)) fun r_30 w_19 =>
 newP w_19 (.cells (HeardV.val ({ Reply := none, In := SlV.nil, All := false, Done := SlV.nil } : HeardV)).cells 90) fun b_31 w_20 =>
 storeP w_20 (⟨b_31, 0, none⟩ : Addr) 4 (HeardV.val r_30.1) fun w_21 =>
 loadP w_21 (⟨b_8, 0, none⟩ : Addr) 2 ParamV.val fun v_32 =>
 callP P 39 #[(.pointer r_3), (ParamV.val v_32), (.int .u32 (IntKind.u32.wrap (last - (5 : Int))))] w_21 (tup2V HeardV.val (Value.int .i64)) fun r_33 w_22 =>
 newP w_22 (.cells (HeardV.val ({ Reply := none, In := SlV.nil, All := false, Done := SlV.nil } : HeardV)).cells 90) fun b_34 w_23 =>
 storeP w_23 (⟨b_34, 0, none⟩ : Addr) 4 (HeardV.val r_33.1) fun w_24 =>
 cutP (Unit) (fun J_35 =>
 cond' (r_30.2 != (0 : Int)) (
 R false w_24) (
 cond' (r_33.2 != (0 : Int)) (
 R false w_24) (
 loadP w_24 ((⟨b_31, 0, none⟩ : Addr).add 1) 1 SlV.val fun v_39 =>
 newP w_24 (.cells #[(.int .u16 (2 : Int)), (.int .u16 (5 : Int))] 38) fun b_40 w_26 =>
 callP P 47 #[(SlV.val v_39), (SlV.val (SlV.mk (some (⟨b_40, 0, none⟩ : Addr)) 2 2))] w_26 Value.bool fun r_41 w_27 =>
 cond' (!r_41) (
 R false w_27) (
 loadP w_27 ((⟨b_34, 0, none⟩ : Addr).add 1) 1 SlV.val fun v_43 =>
 cond' ((v_43.len : Int) != (0 : Int)) (
 R false w_27) (
 loadP w_27 ((⟨b_34, 0, none⟩ : Addr).add 0) 1 Value.pointer fun v_45 =>
 cond' (negB false v_45.isNone) (
 R false w_27) (
 J_35 () w_27)))))) fun _ _ w_25 =>
 loadP w_25 ((⟨b_34, 0, none⟩ : Addr).add 0) 1 Value.pointer fun v_46 =>
 nilP v_46 fun a_47 =>
 loadP w_25 a_47 2 ParamV.val fun v_48 =>
 callP P 39 #[(.pointer r_2), (ParamV.val v_48), (.int .u32 (0 : Int))] w_25 (tup2V HeardV.val (Value.int .i64)) fun r_49 w_28 =>
 newP w_28 (.cells (HeardV.val ({ Reply := none, In := SlV.nil, All := false, Done := SlV.nil } : HeardV)).cells 90) fun b_50 w_29 =>
 storeP w_29 (⟨b_50, 0, none⟩ : Addr) 4 (HeardV.val r_49.1) fun w_30 =>
 cond' (r_49.2 == (0 : Int)) (
 loadP w_30 ((⟨b_50, 0, none⟩ : Addr).add 3) 1 SlV.val fun v_52 =>
 newP w_30 (.cells #[(.int .u16 (2 : Int)), (.int .u16 (5 : Int))] 38) fun b_53 w_31 =>
 callP P 47 #[(SlV.val v_52), (SlV.val (SlV.mk (some (⟨b_53, 0, none⟩ : Addr)) 2 2))] w_31 Value.bool fun r_54 w_32 =>
 cond' r_54 (
 callP P 48 #[(.pointer r_2), (.int .u16 (2 : Int))] w_32 Value.bool fun r_56 w_33 =>
 R (!r_56) w_33) (
 R false w_32)) (
 R false w_30))))
def an10 : Ann := mkAnn [(9, [(44, (shInt .i64))])] [(14, []), (22, [])]
theorem sf10_eq (mine : Int) (theirs : Int) (last : Int) (w0 : World) (R : Bool → World → Prop) : sf10 mine theirs last w0 R = vcFn P sh an10 Try.f10 [(.int .u32 mine), (.int .u32 theirs), (.int .u32 last)] shBool w0 R := by kernel_rfl
theorem nm10 : (Try.f10.name == "runtime.NumGoroutine") = false := by kernel_rfl
theorem sf10_call (mine : Int) (theirs : Int) (last : Int) (w0 : World) (R : Bool → World → Prop) (hsf : sf10 mine theirs last w0 R) : callP P 10 #[(.int .u32 mine), (.int .u32 theirs), (.int .u32 last)] w0 shBool.val R :=
  vcFn_sound mixed Try.func10 nm10 (Eq.mp (sf10_eq mine theirs last w0 R) hsf)

/-- flume/flumelaw18.first -/
def sf34 (w0 : World) (R : Bool → World → Prop) : Prop :=
 callP P 35 #[(.int .u32 (100 : Int)), (.int .u32 (200 : Int))] w0 Value.pointer fun r_1 w_1 =>
 callP P 35 #[(.int .u32 (200 : Int)), (.int .u32 (100 : Int))] w_1 Value.pointer fun r_2 w_2 =>
 cutP (Unit) (fun J_3 =>
 cond' (negB false r_1.isNone) (
 R false w_2) (
 cond' (negB false r_2.isNone) (
 R false w_2) (
 J_3 () w_2))) fun _ _ w_3 =>
 newP w_3 (.cells #[(.int .u16 (3 : Int)), (.int .u16 (1 : Int))] 38) fun b_6 w_4 =>
 callP P 36 #[(.pointer r_1), (SlV.val (SlV.mk (some (⟨b_6, 0, none⟩ : Addr)) 2 2))] w_4 unitV fun r_7 w_5 =>
 newP w_5 (.cells #[(.int .u16 (1 : Int)), (.int .u16 (2 : Int))] 38) fun b_8 w_6 =>
 callP P 37 #[(.pointer r_1), (.int .u32 (50 : Int)), (SlV.val (SlV.mk (some (⟨b_8, 0, none⟩ : Addr)) 2 2))] w_6 (tup2V ParamV.val Value.bool) fun r_9 w_7 =>
 newP w_7 (.cells (ParamV.val ({ Kind := 0, Value_ := SlV.nil } : ParamV)).cells 83) fun b_10 w_8 =>
 storeP w_8 (⟨b_10, 0, none⟩ : Addr) 2 (ParamV.val r_9.1) fun w_9 =>
 loadP w_9 (⟨b_10, 0, none⟩ : Addr) 2 ParamV.val fun v_11 =>
 callP P 39 #[(.pointer r_2), (ParamV.val v_11), (.int .u32 (49 : Int))] w_9 (tup2V HeardV.val (Value.int .i64)) fun r_12 w_10 =>
 newP w_10 (.cells (HeardV.val ({ Reply := none, In := SlV.nil, All := false, Done := SlV.nil } : HeardV)).cells 90) fun b_13 w_11 =>
 storeP w_11 (⟨b_13, 0, none⟩ : Addr) 4 (HeardV.val r_12.1) fun w_12 =>
 loadP w_12 (⟨b_10, 0, none⟩ : Addr) 2 ParamV.val fun v_14 =>
 callP P 39 #[(.pointer r_2), (ParamV.val v_14), (.int .u32 (50 : Int))] w_12 (tup2V HeardV.val (Value.int .i64)) fun r_15 w_13 =>
 newP w_13 (.cells (HeardV.val ({ Reply := none, In := SlV.nil, All := false, Done := SlV.nil } : HeardV)).cells 90) fun b_16 w_14 =>
 storeP w_14 (⟨b_16, 0, none⟩ : Addr) 4 (HeardV.val r_15.1) fun w_15 =>
 cutP (Unit) (fun J_17 =>
 cond' (!r_9.2) (
 R false w_15) (
 cond' (r_12.2 != (0 : Int)) (
 R false w_15) (
 cond' (r_15.2 != (0 : Int)) (
 R false w_15) (
 loadP w_15 ((⟨b_13, 0, none⟩ : Addr).add 0) 1 Value.pointer fun v_22 =>
 cond' (negB false v_22.isNone) (
 R false w_15) (
 loadP w_15 ((⟨b_16, 0, none⟩ : Addr).add 0) 1 Value.pointer fun v_24 =>
 cond' (negB false v_24.isNone) (
 R false w_15) (
 loadP w_15 ((⟨b_13, 0, none⟩ : Addr).add 1) 1 SlV.val fun v_26 =>
 cond' ((v_26.len : Int) != (0 : Int)) (
 R false w_15) (
 loadP w_15 ((⟨b_16, 0, none⟩ : Addr).add 1) 1 SlV.val fun v_28 =>
 newP w_15 (.cells #[(.int .u16 (1 : Int))] 38) fun b_29 w_17 =>
 callP P 47 #[(SlV.val v_28), (SlV.val (SlV.mk (some (⟨b_29, 0, none⟩ : Addr)) 1 1))] w_17 Value.bool fun r_30 w_18 =>
 cond' (!r_30) (
 R false w_18) (
 J_17 () w_18)))))))) fun _ _ w_16 =>
 loadP w_16 ((⟨b_16, 0, none⟩ : Addr).add 0) 1 Value.pointer fun v_31 =>
 nilP v_31 fun a_32 =>
 loadP w_16 a_32 2 ParamV.val fun v_33 =>
 callP P 39 #[(.pointer r_1), (ParamV.val v_33), (.int .u32 (0 : Int))] w_16 (tup2V HeardV.val (Value.int .i64)) fun r_34 w_19 =>
 newP w_19 (.cells (HeardV.val ({ Reply := none, In := SlV.nil, All := false, Done := SlV.nil } : HeardV)).cells 90) fun b_35 w_20 =>
 storeP w_20 (⟨b_35, 0, none⟩ : Addr) 4 (HeardV.val r_34.1) fun w_21 =>
 cond' (r_34.2 == (0 : Int)) (
 loadP w_21 ((⟨b_35, 0, none⟩ : Addr).add 3) 1 SlV.val fun v_37 =>
 newP w_21 (.cells #[(.int .u16 (1 : Int))] 38) fun b_38 w_22 =>
 callP P 47 #[(SlV.val v_37), (SlV.val (SlV.mk (some (⟨b_38, 0, none⟩ : Addr)) 1 1))] w_22 Value.bool fun r_39 w_23 =>
 cond' r_39 (
 callP P 46 #[(.pointer r_1)] w_23 SlV.val fun r_41 w_24 =>
 newP w_24 (.cells #[(.int .u16 (3 : Int))] 38) fun b_42 w_25 =>
 callP P 47 #[(SlV.val r_41), (SlV.val (SlV.mk (some (⟨b_42, 0, none⟩ : Addr)) 1 1))] w_25 Value.bool fun r_43 w_26 =>
 R r_43 w_26) (
 R false w_23)) (
 R false w_21)
def an34 : Ann := mkAnn [] [(4, []), (10, [])]
theorem sf34_eq (w0 : World) (R : Bool → World → Prop) : sf34 w0 R = vcFn P sh an34 Try.f34 [] shBool w0 R := by kernel_rfl
theorem nm34 : (Try.f34.name == "runtime.NumGoroutine") = false := by kernel_rfl
theorem sf34_call (w0 : World) (R : Bool → World → Prop) (hsf : sf34 w0 R) : callP P 34 #[] w0 shBool.val R :=
  vcFn_sound mixed Try.func34 nm34 (Eq.mp (sf34_eq w0 R) hsf)

/-- flume/reset.New -/
def sf35 (mine : Int) (theirs : Int) (w0 : World) (R : (Option Addr) → World → Prop) : Prop :=
 newP w0 (.cells (Reset_EngineV.val ({ mine := mine, theirs := theirs, wanted := SlV.nil, open_ := SlV.nil, request := SlV.nil } : Reset_EngineV)).cells 178) fun b_1 w_1 =>
 R (some (⟨b_1, 0, none⟩ : Addr)) w_1
def an35 : Ann := mkAnn [] []
theorem sf35_eq (mine : Int) (theirs : Int) (w0 : World) (R : (Option Addr) → World → Prop) : sf35 mine theirs w0 R = vcFn P sh an35 Try.f35 [(.int .u32 mine), (.int .u32 theirs)] shPtr w0 R := by kernel_rfl
theorem nm35 : (Try.f35.name == "runtime.NumGoroutine") = false := by kernel_rfl
theorem sf35_call (mine : Int) (theirs : Int) (w0 : World) (R : (Option Addr) → World → Prop) (hsf : sf35 mine theirs w0 R) : callP P 35 #[(.int .u32 mine), (.int .u32 theirs)] w0 shPtr.val R :=
  vcFn_sound mixed Try.func35 nm35 (Eq.mp (sf35_eq mine theirs w0 R) hsf)

/-- (*flume/reset.Engine).Want -/
def sf36 (e : Addr) (streams : SlV) (w0 : World) (R : Unit → World → Prop) : Prop :=
 loopP (Int) (0 : Int) w0 fun next__1 _ s_2 w_1 =>
 cond' (decide (s_2 < (streams.len : Int))) (
 chkP (inR s_2 streams.len) <|
 nilP streams.a fun a_3 =>
 loadP w_1 (a_3.add (Int.toNat s_2 * 1)) 1 (Value.int .u16) fun v_4 =>
 cutP (Bool) (fun J_5 =>
 loadP w_1 (e.add 2) 1 SlV.val fun v_7 =>
 callP P 80 #[(SlV.val v_7), (.int .u16 v_4)] w_1 Value.bool fun r_8 w_3 =>
 cond' (!r_8) (
 loadP w_3 (e.add 3) 1 SlV.val fun v_10 =>
 callP P 80 #[(SlV.val v_10), (.int .u16 v_4)] w_3 Value.bool fun r_11 w_4 =>
 J_5 (!r_11) w_4) (
 J_5 false w_3)) fun _ s_6 w_2 =>
 cond' s_6 (
 loadP w_2 (e.add 2) 1 SlV.val fun v_12 =>
 newP w_2 (.cells #[(.int .u16 v_4)] 38) fun b_13 w_5 =>
 runP P (Builtin.append_ #[86, 86] 86 #[(SlV.val v_12), (SlV.val (SlV.mk (some (⟨b_13, 0, none⟩ : Addr)) 1 1))]) w_5 SlV.val fun r_14 w_6 =>
 storeP w_6 (e.add 2) 1 (SlV.val r_14) fun w_7 =>
 next__1 (IntKind.i64.wrap (s_2 + (1 : Int))) w_7) (
 next__1 (IntKind.i64.wrap (s_2 + (1 : Int))) w_2)) (
 loadP w_1 (e.add 2) 1 SlV.val fun v_15 =>
 callP P 81 #[(SlV.val v_15)] w_1 unitV fun r_16 w_8 =>
 R () w_8)
def an36 : Ann := mkAnn [(1, [(8, (shInt .i64))])] [(4, [(27, shBool)])]
theorem sf36_eq (e : Addr) (streams : SlV) (w0 : World) (R : Unit → World → Prop) : sf36 e streams w0 R = vcFn P sh an36 Try.f36 [(.pointer (some e)), (SlV.val streams)] shUnit w0 R := by kernel_rfl
theorem nm36 : (Try.f36.name == "runtime.NumGoroutine") = false := by kernel_rfl
theorem sf36_call (e : Addr) (streams : SlV) (w0 : World) (R : Unit → World → Prop) (hsf : sf36 e streams w0 R) : callP P 36 #[(.pointer (some e)), (SlV.val streams)] w0 shUnit.val R :=
  vcFn_sound mixed Try.func36 nm36 (Eq.mp (sf36_eq e streams w0 R) hsf)

/-- (*flume/reset.Engine).Open -/
def sf37 (e : Addr) (last : Int) (drained : SlV) (w0 : World) (R : (ParamV × Bool) → World → Prop) : Prop :=
 newP w0 (.cells (ParamV.val ({ Kind := 0, Value_ := SlV.nil } : ParamV)).cells 83) fun b_1 w_1 =>
 loadP w_1 (e.add 3) 1 SlV.val fun v_2 =>
 cond' (decide ((v_2.len : Int) > (0 : Int))) (
 storeP w_1 (⟨b_1, 0, none⟩ : Addr) 2 (ParamV.val ({ Kind := 0, Value_ := SlV.nil } : ParamV)) fun w_2 =>
 loadP w_2 (⟨b_1, 0, none⟩ : Addr) 2 ParamV.val fun v_3 =>
 R (v_3, false) w_2) (
 newP w_1 (.cells (WriterV.val ({ b := SlV.nil } : WriterV)).cells 182) fun b_4 w_3 =>
 loadP w_3 (e.add 0) 1 (Value.int .u32) fun v_5 =>
 callP P 82 #[(.pointer (some (⟨b_4, 0, none⟩ : Addr))), (.int .u32 v_5)] w_3 unitV fun r_6 w_4 =>
 loadP w_4 (e.add 1) 1 (Value.int .u32) fun v_7 =>
 callP P 82 #[(.pointer (some (⟨b_4, 0, none⟩ : Addr))), (.int .u32 (IntKind.u32.wrap (v_7 - (1 : Int))))] w_4 unitV fun r_8 w_5 =>
 callP P 82 #[(.pointer (some (⟨b_4, 0, none⟩ : Addr))), (.int .u32 last)] w_5 unitV fun r_9 w_6 =>
 loadP w_6 (e.add 2) 1 SlV.val fun v_10 =>
 loopP (SlV × Int) (SlV.nil, (0 : Int)) w_6 fun next__11 _ s_12 w_7 =>
 cond' (decide (s_12.2 < (v_10.len : Int))) (
 chkP (inR s_12.2 v_10.len) <|
 nilP v_10.a fun a_13 =>
 loadP w_7 (a_13.add (Int.toNat s_12.2 * 1)) 1 (Value.int .u16) fun v_14 =>
 callP P 80 #[(SlV.val drained), (.int .u16 v_14)] w_7 Value.bool fun r_15 w_8 =>
 cond' r_15 (
 loadP w_8 (e.add 3) 1 SlV.val fun v_16 =>
 newP w_8 (.cells #[(.int .u16 v_14)] 38) fun b_17 w_9 =>
 runP P (Builtin.append_ #[86, 86] 86 #[(SlV.val v_16), (SlV.val (SlV.mk (some (⟨b_17, 0, none⟩ : Addr)) 1 1))]) w_9 SlV.val fun r_18 w_10 =>
 storeP w_10 (e.add 3) 1 (SlV.val r_18) fun w_11 =>
 callP P 83 #[(.pointer (some (⟨b_4, 0, none⟩ : Addr))), (.int .u16 v_14)] w_11 unitV fun r_19 w_12 =>
 next__11 (s_12.1, (IntKind.i64.wrap (s_12.2 + (1 : Int)))) w_12) (
 newP w_8 (.cells #[(.int .u16 v_14)] 38) fun b_20 w_13 =>
 runP P (Builtin.append_ #[86, 86] 86 #[(SlV.val s_12.1), (SlV.val (SlV.mk (some (⟨b_20, 0, none⟩ : Addr)) 1 1))]) w_13 SlV.val fun r_21 w_14 =>
 next__11 (r_21, (IntKind.i64.wrap (s_12.2 + (1 : Int)))) w_14)) (
 storeP w_7 (e.add 2) 1 (SlV.val s_12.1) fun w_15 =>
 loadP w_15 (e.add 3) 1 SlV.val fun v_22 =>
 cond' ((v_22.len : Int) == (0 : Int)) (
 storeP w_15 (⟨b_1, 0, none⟩ : Addr) 2 (ParamV.val ({ Kind := 0, Value_ := SlV.nil } : ParamV)) fun w_16 =>
 loadP w_16 (⟨b_1, 0, none⟩ : Addr) 2 ParamV.val fun v_23 =>
 R (v_23, false) w_16) (
 callP P 84 #[(.pointer (some (⟨b_4, 0, none⟩ : Addr)))] w_15 SlV.val fun r_24 w_17 =>
 storeP w_17 (e.add 4) 1 (SlV.val r_24) fun w_18 =>
 callP P 38 #[(.pointer (some e))] w_18 (tup2V ParamV.val Value.bool) fun r_25 w_19 =>
 storeP w_19 (⟨b_1, 0, none⟩ : Addr) 2 (ParamV.val r_25.1) fun w_20 =>
 loadP w_20 (⟨b_1, 0, none⟩ : Addr) 2 ParamV.val fun v_26 =>
 R (v_26, r_25.2) w_20)))
def an37 : Ann := mkAnn [(9, [(9, shSl), (37, (shInt .i64))])] []
theorem sf37_eq (e : Addr) (last : Int) (drained : SlV) (w0 : World) (R : (ParamV × Bool) → World → Prop) : sf37 e last drained w0 R = vcFn P sh an37 Try.f37 [(.pointer (some e)), (.int .u32 last), (SlV.val drained)] (shTup2 shParamV shBool) w0 R := by kernel_rfl
theorem nm37 : (Try.f37.name == "runtime.NumGoroutine") = false := by kernel_rfl
theorem sf37_call (e : Addr) (last : Int) (drained : SlV) (w0 : World) (R : (ParamV × Bool) → World → Prop) (hsf : sf37 e last drained w0 R) : callP P 37 #[(.pointer (some e)), (.int .u32 last), (SlV.val drained)] w0 (shTup2 shParamV shBool).val R :=
  vcFn_sound mixed Try.func37 nm37 (Eq.mp (sf37_eq e last drained w0 R) hsf)

/-- (*flume/reset.Engine).Again -/
def sf38 (e : Addr) (w0 : World) (R : (ParamV × Bool) → World → Prop) : Prop :=
 newP w0 (.cells (ParamV.val ({ Kind := 0, Value_ := SlV.nil } : ParamV)).cells 83) fun b_1 w_1 =>
 loadP w_1 (e.add 3) 1 SlV.val fun v_2 =>
 cond' ((v_2.len : Int) == (0 : Int)) (
 storeP w_1 (⟨b_1, 0, none⟩ : Addr) 2 (ParamV.val ({ Kind := 0, Value_ := SlV.nil } : ParamV)) fun w_2 =>
 loadP w_2 (⟨b_1, 0, none⟩ : Addr) 2 ParamV.val fun v_3 =>
 R (v_3, false) w_2) (
 loadP w_1 (e.add 4) 1 SlV.val fun v_4 =>
 callP P 52 #[(SlV.val v_4)] w_1 SlV.val fun r_5 w_3 =>
 storeP w_3 (⟨b_1, 0, none⟩ : Addr) 2 (ParamV.val ({ Kind := (13 : Int), Value_ := r_5 } : ParamV)) fun w_4 =>
 loadP w_4 (⟨b_1, 0, none⟩ : Addr) 2 ParamV.val fun v_6 =>
 R (v_6, true) w_4)
def an38 : Ann := mkAnn [] []
theorem sf38_eq (e : Addr) (w0 : World) (R : (ParamV × Bool) → World → Prop) : sf38 e w0 R = vcFn P sh an38 Try.f38 [(.pointer (some e))] (shTup2 shParamV shBool) w0 R := by kernel_rfl
theorem nm38 : (Try.f38.name == "runtime.NumGoroutine") = false := by kernel_rfl
theorem sf38_call (e : Addr) (w0 : World) (R : (ParamV × Bool) → World → Prop) (hsf : sf38 e w0 R) : callP P 38 #[(.pointer (some e))] w0 (shTup2 shParamV shBool).val R :=
  vcFn_sound mixed Try.func38 nm38 (Eq.mp (sf38_eq e w0 R) hsf)

/-- (*flume/reset.Engine).Hear -/
def sf39 (e : Addr) (p : ParamV) (mark : Int) (w0 : World) (R : (HeardV × Int) → World → Prop) : Prop :=
 newP w0 (.cells (ParamV.val p).cells 83) fun b_1 w_1 =>
 newP w_1 (.cells (HeardV.val ({ Reply := none, In := SlV.nil, All := false, Done := SlV.nil } : HeardV)).cells 90) fun b_2 w_2 =>
 loadP w_2 ((⟨b_1, 0, none⟩ : Addr).add 1) 1 SlV.val fun v_3 =>
 callP P 85 #[(SlV.val v_3)] w_2 Value.pointer fun r_4 w_3 =>
 loadP w_3 ((⟨b_1, 0, none⟩ : Addr).add 0) 1 (Value.int .u16) fun v_5 =>
 cond' (v_5 == (13 : Int)) (
 callP P 86 #[(.pointer (some e)), (.pointer r_4), (.int .u32 mark)] w_3 (tup2V HeardV.val (Value.int .i64)) fun r_6 w_4 =>
 storeP w_4 (⟨b_2, 0, none⟩ : Addr) 4 (HeardV.val r_6.1) fun w_5 =>
 loadP w_5 (⟨b_2, 0, none⟩ : Addr) 4 HeardV.val fun v_7 =>
 R (v_7, r_6.2) w_5) (
 cond' (v_5 == (16 : Int)) (
 callP P 87 #[(.pointer (some e)), (.pointer r_4)] w_3 (tup2V HeardV.val (Value.int .i64)) fun r_8 w_6 =>
 storeP w_6 (⟨b_2, 0, none⟩ : Addr) 4 (HeardV.val r_8.1) fun w_7 =>
 loadP w_7 (⟨b_2, 0, none⟩ : Addr) 4 HeardV.val fun v_9 =>
 R (v_9, r_8.2) w_7) (
 storeP w_3 (⟨b_2, 0, none⟩ : Addr) 4 (HeardV.val ({ Reply := none, In := SlV.nil, All := false, Done := SlV.nil } : HeardV)) fun w_8 =>
 loadP w_8 (⟨b_2, 0, none⟩ : Addr) 4 HeardV.val fun v_10 =>
 R (v_10, (60 : Int)) w_8))
def an39 : Ann := mkAnn [] []
theorem sf39_eq (e : Addr) (p : ParamV) (mark : Int) (w0 : World) (R : (HeardV × Int) → World → Prop) : sf39 e p mark w0 R = vcFn P sh an39 Try.f39 [(.pointer (some e)), (ParamV.val p), (.int .u32 mark)] (shTup2 shHeardV (shInt .i64)) w0 R := by kernel_rfl
theorem nm39 : (Try.f39.name == "runtime.NumGoroutine") = false := by kernel_rfl
theorem sf39_call (e : Addr) (p : ParamV) (mark : Int) (w0 : World) (R : (HeardV × Int) → World → Prop) (hsf : sf39 e p mark w0 R) : callP P 39 #[(.pointer (some e)), (ParamV.val p), (.int .u32 mark)] w0 (shTup2 shHeardV (shInt .i64)).val R :=
  vcFn_sound mixed Try.func39 nm39 (Eq.mp (sf39_eq e p mark w0 R) hsf)

/-- (*flume/reset.Engine).Wanted -/
def sf46 (e : Addr) (w0 : World) (R : SlV → World → Prop) : Prop :=
 loadP w0 (e.add 2) 1 SlV.val fun v_1 =>
 callP P 91 #[(SlV.val v_1)] w0 SlV.val fun r_2 w_1 =>
 R r_2 w_1
def an46 : Ann := mkAnn [] []
theorem sf46_eq (e : Addr) (w0 : World) (R : SlV → World → Prop) : sf46 e w0 R = vcFn P sh an46 Try.f46 [(.pointer (some e))] shSl w0 R := by kernel_rfl
theorem nm46 : (Try.f46.name == "runtime.NumGoroutine") = false := by kernel_rfl
theorem sf46_call (e : Addr) (w0 : World) (R : SlV → World → Prop) (hsf : sf46 e w0 R) : callP P 46 #[(.pointer (some e))] w0 shSl.val R :=
  vcFn_sound mixed Try.func46 nm46 (Eq.mp (sf46_eq e w0 R) hsf)

/-- flume/flumeref18.Same -/
def sf47 (a : SlV) (b : SlV) (w0 : World) (R : Bool → World → Prop) : Prop :=
 cond' ((a.len : Int) != (b.len : Int)) (
 R false w0) (
 loopP (Int) (0 : Int) w0 fun next__1 _ s_2 w_1 =>
 cond' (decide (s_2 < (a.len : Int))) (
 chkP (inR s_2 a.len) <|
 nilP a.a fun a_3 =>
 loadP w_1.drew (a_3.add (Int.toNat s_2 * 1)) 1 (Value.int .u16) fun v_4 =>
 chkP (inR s_2 b.len) <|
 nilP b.a fun a_5 =>
 loadP w_1.drew (a_5.add (Int.toNat s_2 * 1)) 1 (Value.int .u16) fun v_6 =>
 cond' (v_4 != v_6) (
 R false w_1.drew) (
 next__1 (IntKind.i64.wrap (s_2 + (1 : Int))) w_1.drew)) (
 R true w_1))
def an47 : Ann := mkAnn [(4, [(13, (shInt .i64))])] []
theorem sf47_eq (a : SlV) (b : SlV) (w0 : World) (R : Bool → World → Prop) : sf47 a b w0 R = vcFn P sh an47 Try.f47 [(SlV.val a), (SlV.val b)] shBool w0 R := by kernel_rfl
theorem nm47 : (Try.f47.name == "runtime.NumGoroutine") = false := by kernel_rfl
theorem sf47_call (a : SlV) (b : SlV) (w0 : World) (R : Bool → World → Prop) (hsf : sf47 a b w0 R) : callP P 47 #[(SlV.val a), (SlV.val b)] w0 shBool.val R :=
  vcFn_sound mixed Try.func47 nm47 (Eq.mp (sf47_eq a b w0 R) hsf)

/-- (*flume/reset.Engine).Busy -/
def sf48 (e : Addr) (stream : Int) (w0 : World) (R : Bool → World → Prop) : Prop :=
 loadP w0 (e.add 2) 1 SlV.val fun v_1 =>
 callP P 80 #[(SlV.val v_1), (.int .u16 stream)] w0 Value.bool fun r_2 w_1 =>
 cond' r_2 (
 R true w_1) (
 loadP w_1 (e.add 3) 1 SlV.val fun v_4 =>
 callP P 80 #[(SlV.val v_4), (.int .u16 stream)] w_1 Value.bool fun r_5 w_2 =>
 R r_5 w_2)
def an48 : Ann := mkAnn [] []
theorem sf48_eq (e : Addr) (stream : Int) (w0 : World) (R : Bool → World → Prop) : sf48 e stream w0 R = vcFn P sh an48 Try.f48 [(.pointer (some e)), (.int .u16 stream)] shBool w0 R := by kernel_rfl
theorem nm48 : (Try.f48.name == "runtime.NumGoroutine") = false := by kernel_rfl
theorem sf48_call (e : Addr) (stream : Int) (w0 : World) (R : Bool → World → Prop) (hsf : sf48 e stream w0 R) : callP P 48 #[(.pointer (some e)), (.int .u16 stream)] w0 shBool.val R :=
  vcFn_sound mixed Try.func48 nm48 (Eq.mp (sf48_eq e stream w0 R) hsf)

/-- slices.Clone[[]byte,byte] -/
def sf52 (s : SlV) (w0 : World) (R : SlV → World → Prop) : Prop :=
 cond' (negB false s.a.isNone) (
 R SlV.nil w0) (
 newP w0 (.cells #[] 5) fun b_1 w_1 =>
 runP P (Builtin.append_ #[31, 31] 31 #[(SlV.val (SlV.mk (some (⟨b_1, 0, none⟩ : Addr)) 0 0)), (SlV.val s)]) w_1 SlV.val fun r_2 w_2 =>
 R r_2 w_2)
def an52 : Ann := mkAnn [] []
theorem sf52_eq (s : SlV) (w0 : World) (R : SlV → World → Prop) : sf52 s w0 R = vcFn P sh an52 Try.f52 [(SlV.val s)] shSl w0 R := by kernel_rfl
theorem nm52 : (Try.f52.name == "runtime.NumGoroutine") = false := by kernel_rfl
theorem sf52_call (s : SlV) (w0 : World) (R : SlV → World → Prop) (hsf : sf52 s w0 R) : callP P 52 #[(SlV.val s)] w0 shSl.val R :=
  vcFn_sound mixed Try.func52 nm52 (Eq.mp (sf52_eq s w0 R) hsf)

/-- flume/serial.Less -/
def sf65 (a : Int) (b : Int) (w0 : World) (R : Bool → World → Prop) : Prop :=
 R (decide ((IntKind.i32.wrap (IntKind.u32.wrap (b - a))) > (0 : Int))) w0
def an65 : Ann := mkAnn [] []
theorem sf65_eq (a : Int) (b : Int) (w0 : World) (R : Bool → World → Prop) : sf65 a b w0 R = vcFn P sh an65 Try.f65 [(.int .u32 a), (.int .u32 b)] shBool w0 R := by kernel_rfl
theorem nm65 : (Try.f65.name == "runtime.NumGoroutine") = false := by kernel_rfl
theorem sf65_call (a : Int) (b : Int) (w0 : World) (R : Bool → World → Prop) (hsf : sf65 a b w0 R) : callP P 65 #[(.int .u32 a), (.int .u32 b)] w0 shBool.val R :=
  vcFn_sound mixed Try.func65 nm65 (Eq.mp (sf65_eq a b w0 R) hsf)

/-- slices.Contains[[]uint16,uint16] -/
def sf80 (s : SlV) (v : Int) (w0 : World) (R : Bool → World → Prop) : Prop :=
 callP P 114 #[(SlV.val s), (.int .u16 v)] w0 (Value.int .i64) fun r_1 w_1 =>
 R (decide (r_1 ≥ (0 : Int))) w_1
def an80 : Ann := mkAnn [] []
theorem sf80_eq (s : SlV) (v : Int) (w0 : World) (R : Bool → World → Prop) : sf80 s v w0 R = vcFn P sh an80 Try.f80 [(SlV.val s), (.int .u16 v)] shBool w0 R := by kernel_rfl
theorem nm80 : (Try.f80.name == "runtime.NumGoroutine") = false := by kernel_rfl
theorem sf80_call (s : SlV) (v : Int) (w0 : World) (R : Bool → World → Prop) (hsf : sf80 s v w0 R) : callP P 80 #[(SlV.val s), (.int .u16 v)] w0 shBool.val R :=
  vcFn_sound mixed Try.func80 nm80 (Eq.mp (sf80_eq s v w0 R) hsf)

/-- slices.Sort[[]uint16,uint16] -/
def sf81 (x : SlV) (w0 : World) (R : Unit → World → Prop) : Prop :=
 callP P 116 #[(.int .u64 (IntKind.u64.wrap (x.len : Int)))] w0 (Value.int .i64) fun r_1 w_1 =>
 callP P 115 #[(SlV.val x), (.int .i64 (0 : Int)), (.int .i64 (x.len : Int)), (.int .i64 r_1)] w_1 unitV fun r_2 w_2 =>
 R () w_2
def an81 : Ann := mkAnn [] []
theorem sf81_eq (x : SlV) (w0 : World) (R : Unit → World → Prop) : sf81 x w0 R = vcFn P sh an81 Try.f81 [(SlV.val x)] shUnit w0 R := by kernel_rfl
theorem nm81 : (Try.f81.name == "runtime.NumGoroutine") = false := by kernel_rfl
theorem sf81_call (x : SlV) (w0 : World) (R : Unit → World → Prop) (hsf : sf81 x w0 R) : callP P 81 #[(SlV.val x)] w0 shUnit.val R :=
  vcFn_sound mixed Try.func81 nm81 (Eq.mp (sf81_eq x w0 R) hsf)

/-- (*flume/octet.Writer).U32 -/
def sf82 (w_ : Addr) (v : Int) (w0 : World) (R : Unit → World → Prop) : Prop :=
 callP P 83 #[(.pointer (some w_)), (.int .u16 (IntKind.u16.wrap (Int.fdiv v (2 ^ (min (Int.toNat (16 : Int)) IntKind.u32.bits)))))] w0 unitV fun r_1 w_1 =>
 callP P 83 #[(.pointer (some w_)), (.int .u16 (IntKind.u16.wrap v))] w_1 unitV fun r_2 w_2 =>
 R () w_2
def an82 : Ann := mkAnn [] []
theorem sf82_eq (w_ : Addr) (v : Int) (w0 : World) (R : Unit → World → Prop) : sf82 w_ v w0 R = vcFn P sh an82 Try.f82 [(.pointer (some w_)), (.int .u32 v)] shUnit w0 R := by kernel_rfl
theorem nm82 : (Try.f82.name == "runtime.NumGoroutine") = false := by kernel_rfl
theorem sf82_call (w_ : Addr) (v : Int) (w0 : World) (R : Unit → World → Prop) (hsf : sf82 w_ v w0 R) : callP P 82 #[(.pointer (some w_)), (.int .u32 v)] w0 shUnit.val R :=
  vcFn_sound mixed Try.func82 nm82 (Eq.mp (sf82_eq w_ v w0 R) hsf)

/-- (*flume/octet.Writer).U16 -/
def sf83 (w_ : Addr) (v : Int) (w0 : World) (R : Unit → World → Prop) : Prop :=
 loadP w0 (w_.add 0) 1 SlV.val fun v_1 =>
 newP w0 (.cells #[(.int .u8 (IntKind.u8.wrap (Int.fdiv v (2 ^ (min (Int.toNat (8 : Int)) IntKind.u16.bits))))), (.int .u8 (IntKind.u8.wrap v))] 5) fun b_2 w_1 =>
 runP P (Builtin.append_ #[31, 31] 31 #[(SlV.val v_1), (SlV.val (SlV.mk (some (⟨b_2, 0, none⟩ : Addr)) 2 2))]) w_1 SlV.val fun r_3 w_2 =>
 storeP w_2 (w_.add 0) 1 (SlV.val r_3) fun w_3 =>
 R () w_3
def an83 : Ann := mkAnn [] []
theorem sf83_eq (w_ : Addr) (v : Int) (w0 : World) (R : Unit → World → Prop) : sf83 w_ v w0 R = vcFn P sh an83 Try.f83 [(.pointer (some w_)), (.int .u16 v)] shUnit w0 R := by kernel_rfl
theorem nm83 : (Try.f83.name == "runtime.NumGoroutine") = false := by kernel_rfl
theorem sf83_call (w_ : Addr) (v : Int) (w0 : World) (R : Unit → World → Prop) (hsf : sf83 w_ v w0 R) : callP P 83 #[(.pointer (some w_)), (.int .u16 v)] w0 shUnit.val R :=
  vcFn_sound mixed Try.func83 nm83 (Eq.mp (sf83_eq w_ v w0 R) hsf)

/-- (*flume/octet.Writer).Out -/
def sf84 (w_ : Addr) (w0 : World) (R : SlV → World → Prop) : Prop :=
 loadP w0 (w_.add 0) 1 SlV.val fun v_1 =>
 callP P 52 #[(SlV.val v_1)] w0 SlV.val fun r_2 w_1 =>
 R r_2 w_1
def an84 : Ann := mkAnn [] []
theorem sf84_eq (w_ : Addr) (w0 : World) (R : SlV → World → Prop) : sf84 w_ w0 R = vcFn P sh an84 Try.f84 [(.pointer (some w_))] shSl w0 R := by kernel_rfl
theorem nm84 : (Try.f84.name == "runtime.NumGoroutine") = false := by kernel_rfl
theorem sf84_call (w_ : Addr) (w0 : World) (R : SlV → World → Prop) (hsf : sf84 w_ w0 R) : callP P 84 #[(.pointer (some w_))] w0 shSl.val R :=
  vcFn_sound mixed Try.func84 nm84 (Eq.mp (sf84_eq w_ w0 R) hsf)

/-- flume/octet.NewReader -/
def sf85 (b : SlV) (w0 : World) (R : (Option Addr) → World → Prop) : Prop :=
 callP P 52 #[(SlV.val b)] w0 SlV.val fun r_1 w_1 =>
 newP w_1 (.cells (ReaderV.val ({ b := r_1, bad := false } : ReaderV)).cells 222) fun b_2 w_2 =>
 R (some (⟨b_2, 0, none⟩ : Addr)) w_2
def an85 : Ann := mkAnn [] []
theorem sf85_eq (b : SlV) (w0 : World) (R : (Option Addr) → World → Prop) : sf85 b w0 R = vcFn P sh an85 Try.f85 [(SlV.val b)] shPtr w0 R := by kernel_rfl
theorem nm85 : (Try.f85.name == "runtime.NumGoroutine") = false := by kernel_rfl
theorem sf85_call (b : SlV) (w0 : World) (R : (Option Addr) → World → Prop) (hsf : sf85 b w0 R) : callP P 85 #[(SlV.val b)] w0 shPtr.val R :=
  vcFn_sound mixed Try.func85 nm85 (Eq.mp (sf85_eq b w0 R) hsf)

/-- (*flume/reset.Engine).asked -/
def sf86 (e : Addr) (r : Addr) (mark : Int) (w0 : World) (R : (HeardV × Int) → World → Prop) : Prop :=
 newP w0 (.cells (HeardV.val ({ Reply := none, In := SlV.nil, All := false, Done := SlV.nil } : HeardV)).cells 90) fun b_1 w_1 =>
 callP P 117 #[(.pointer (some r))] w_1 (Value.int .u32) fun r_2 w_2 =>
 callP P 117 #[(.pointer (some r))] w_2 (Value.int .u32) fun r_3 w_3 =>
 callP P 117 #[(.pointer (some r))] w_3 (Value.int .u32) fun r_4 w_4 =>
 loopP (SlV) SlV.nil w_4 fun next__5 _ s_6 w_5 =>
 callP P 118 #[(.pointer (some r))] w_5 (Value.int .i64) fun r_7 w_6 =>
 cond' (decide (r_7 > (0 : Int))) (
 callP P 119 #[(.pointer (some r))] w_6 (Value.int .u16) fun r_8 w_7 =>
 cutP (Unit) (fun J_9 =>
 cond' (decide ((s_6.len : Int) > (0 : Int))) (
 chkP (inR (IntKind.i64.wrap ((s_6.len : Int) - (1 : Int))) s_6.len) <|
 nilP s_6.a fun a_12 =>
 loadP w_7 (a_12.add (Int.toNat (IntKind.i64.wrap ((s_6.len : Int) - (1 : Int))) * 1)) 1 (Value.int .u16) fun v_13 =>
 cond' (decide (r_8 ≤ v_13)) (
 storeP w_7 (⟨b_1, 0, none⟩ : Addr) 4 (HeardV.val ({ Reply := none, In := SlV.nil, All := false, Done := SlV.nil } : HeardV)) fun w_9 =>
 loadP w_9 (⟨b_1, 0, none⟩ : Addr) 4 HeardV.val fun v_14 =>
 R (v_14, (42 : Int)) w_9) (
 J_9 () w_7)) (
 J_9 () w_7)) fun _ _ w_8 =>
 newP w_8 (.cells #[(.int .u16 r_8)] 38) fun b_15 w_10 =>
 runP P (Builtin.append_ #[86, 86] 86 #[(SlV.val s_6), (SlV.val (SlV.mk (some (⟨b_15, 0, none⟩ : Addr)) 1 1))]) w_10 SlV.val fun r_16 w_11 =>
 next__5 r_16 w_11) (
 callP P 120 #[(.pointer (some r))] w_6 Value.bool fun r_17 w_12 =>
 cond' (!r_17) (
 storeP w_12 (⟨b_1, 0, none⟩ : Addr) 4 (HeardV.val ({ Reply := none, In := SlV.nil, All := false, Done := SlV.nil } : HeardV)) fun w_13 =>
 loadP w_13 (⟨b_1, 0, none⟩ : Addr) 4 HeardV.val fun v_18 =>
 R (v_18, (42 : Int)) w_13) (
 loadP w_12 (e.add 1) 1 (Value.int .u32) fun v_19 =>
 cond' (r_2 == (IntKind.u32.wrap (v_19 - (1 : Int)))) (
 callP P 121 #[(.int .u32 r_2), (.int .u32 (1 : Int))] w_12 Value.pointer fun r_20 w_14 =>
 storeP w_14 (⟨b_1, 0, none⟩ : Addr) 4 (HeardV.val ({ Reply := r_20, In := SlV.nil, All := false, Done := SlV.nil } : HeardV)) fun w_15 =>
 loadP w_15 (⟨b_1, 0, none⟩ : Addr) 4 HeardV.val fun v_21 =>
 R (v_21, (0 : Int)) w_15) (
 loadP w_12 (e.add 1) 1 (Value.int .u32) fun v_22 =>
 cond' (r_2 != v_22) (
 callP P 121 #[(.int .u32 r_2), (.int .u32 (5 : Int))] w_12 Value.pointer fun r_23 w_16 =>
 storeP w_16 (⟨b_1, 0, none⟩ : Addr) 4 (HeardV.val ({ Reply := r_23, In := SlV.nil, All := false, Done := SlV.nil } : HeardV)) fun w_17 =>
 loadP w_17 (⟨b_1, 0, none⟩ : Addr) 4 HeardV.val fun v_24 =>
 R (v_24, (0 : Int)) w_17) (
 callP P 65 #[(.int .u32 mark), (.int .u32 r_4)] w_12 Value.bool fun r_25 w_18 =>
 cond' r_25 (
 callP P 121 #[(.int .u32 r_2), (.int .u32 (6 : Int))] w_18 Value.pointer fun r_26 w_19 =>
 storeP w_19 (⟨b_1, 0, none⟩ : Addr) 4 (HeardV.val ({ Reply := r_26, In := SlV.nil, All := false, Done := SlV.nil } : HeardV)) fun w_20 =>
 loadP w_20 (⟨b_1, 0, none⟩ : Addr) 4 HeardV.val fun v_27 =>
 R (v_27, (0 : Int)) w_20) (
 loadP w_18 (e.add 1) 1 (Value.int .u32) fun v_28 =>
 storeP w_18 (e.add 1) 1 (.int .u32 (IntKind.u32.wrap (v_28 + (1 : Int)))) fun w_21 =>
 callP P 121 #[(.int .u32 r_2), (.int .u32 (1 : Int))] w_21 Value.pointer fun r_29 w_22 =>
 storeP w_22 (⟨b_1, 0, none⟩ : Addr) 4 (HeardV.val ({ Reply := r_29, In := s_6, All := ((s_6.len : Int) == (0 : Int)), Done := SlV.nil } : HeardV)) fun w_23 =>
 loadP w_23 (⟨b_1, 0, none⟩ : Addr) 4 HeardV.val fun v_30 =>
 R (v_30, (0 : Int)) w_23)))))
def an86 : Ann := mkAnn [(5, [(10, shSl)])] [(10, [])]
theorem sf86_eq (e : Addr) (r : Addr) (mark : Int) (w0 : World) (R : (HeardV × Int) → World → Prop) : sf86 e r mark w0 R = vcFn P sh an86 Try.f86 [(.pointer (some e)), (.pointer (some r)), (.int .u32 mark)] (shTup2 shHeardV (shInt .i64)) w0 R := by kernel_rfl
theorem nm86 : (Try.f86.name == "runtime.NumGoroutine") = false := by kernel_rfl
theorem sf86_call (e : Addr) (r : Addr) (mark : Int) (w0 : World) (R : (HeardV × Int) → World → Prop) (hsf : sf86 e r mark w0 R) : callP P 86 #[(.pointer (some e)), (.pointer (some r)), (.int .u32 mark)] w0 (shTup2 shHeardV (shInt .i64)).val R :=
  vcFn_sound mixed Try.func86 nm86 (Eq.mp (sf86_eq e r mark w0 R) hsf)

/-- (*flume/reset.Engine).answered -/
def sf87 (e : Addr) (r : Addr) (w0 : World) (R : (HeardV × Int) → World → Prop) : Prop :=
 newP w0 (.cells (HeardV.val ({ Reply := none, In := SlV.nil, All := false, Done := SlV.nil } : HeardV)).cells 90) fun b_1 w_1 =>
 callP P 117 #[(.pointer (some r))] w_1 (Value.int .u32) fun r_2 w_2 =>
 callP P 117 #[(.pointer (some r))] w_2 (Value.int .u32) fun r_3 w_3 =>
 cutP (Unit) (fun J_4 =>
 cutP (Bool) (fun J_6 =>
 callP P 122 #[(.pointer (some r))] w_3 (Value.int .i64) fun r_8 w_6 =>
 cond' (r_8 != (0 : Int)) (
 J_6 true w_6) (
 cond' (r_3 != (1 : Int)) (
 cond' (r_3 != (5 : Int)) (
 J_6 (r_3 != (6 : Int)) w_6) (
 J_6 false w_6)) (
 J_6 false w_6))) fun _ s_7 w_5 =>
 cond' s_7 (
 storeP w_5 (⟨b_1, 0, none⟩ : Addr) 4 (HeardV.val ({ Reply := none, In := SlV.nil, All := false, Done := SlV.nil } : HeardV)) fun w_7 =>
 loadP w_7 (⟨b_1, 0, none⟩ : Addr) 4 HeardV.val fun v_12 =>
 R (v_12, (42 : Int)) w_7) (
 loadP w_5 (e.add 3) 1 SlV.val fun v_13 =>
 cond' ((v_13.len : Int) == (0 : Int)) (
 storeP w_5 (⟨b_1, 0, none⟩ : Addr) 4 (HeardV.val ({ Reply := none, In := SlV.nil, All := false, Done := SlV.nil } : HeardV)) fun w_8 =>
 loadP w_8 (⟨b_1, 0, none⟩ : Addr) 4 HeardV.val fun v_15 =>
 R (v_15, (0 : Int)) w_8) (
 loadP w_5 (e.add 0) 1 (Value.int .u32) fun v_16 =>
 cond' (r_2 != v_16) (
 storeP w_5 (⟨b_1, 0, none⟩ : Addr) 4 (HeardV.val ({ Reply := none, In := SlV.nil, All := false, Done := SlV.nil } : HeardV)) fun w_9 =>
 loadP w_9 (⟨b_1, 0, none⟩ : Addr) 4 HeardV.val fun v_18 =>
 R (v_18, (0 : Int)) w_9) (
 cond' (r_3 != (1 : Int)) (
 storeP w_5 (⟨b_1, 0, none⟩ : Addr) 4 (HeardV.val ({ Reply := none, In := SlV.nil, All := false, Done := SlV.nil } : HeardV)) fun w_10 =>
 loadP w_10 (⟨b_1, 0, none⟩ : Addr) 4 HeardV.val fun v_19 =>
 R (v_19, (0 : Int)) w_10) (
 J_4 () w_5))))) fun _ _ w_4 =>
 loadP w_4 (e.add 3) 1 SlV.val fun v_20 =>
 newP w_4 (.cells (HeardV.val ({ Reply := none, In := SlV.nil, All := false, Done := SlV.nil } : HeardV)).cells 90) fun b_21 w_11 =>
 storeP w_11 (⟨b_21, 0, none⟩ : Addr) 4 (HeardV.val ({ Reply := none, In := SlV.nil, All := false, Done := v_20 } : HeardV)) fun w_12 =>
 storeP w_12 (e.add 3) 1 (SlV.val SlV.nil) fun w_13 =>
 storeP w_13 (e.add 4) 1 (SlV.val SlV.nil) fun w_14 =>
 loadP w_14 (e.add 0) 1 (Value.int .u32) fun v_22 =>
 storeP w_14 (e.add 0) 1 (.int .u32 (IntKind.u32.wrap (v_22 + (1 : Int)))) fun w_15 =>
 loadP w_15 (⟨b_21, 0, none⟩ : Addr) 4 HeardV.val fun v_23 =>
 storeP w_15 (⟨b_1, 0, none⟩ : Addr) 4 (HeardV.val v_23) fun w_16 =>
 loadP w_16 (⟨b_1, 0, none⟩ : Addr) 4 HeardV.val fun v_24 =>
 R (v_24, (0 : Int)) w_16
def an87 : Ann := mkAnn [] [(3, [(13, shBool)]), (6, [])]
theorem sf87_eq (e : Addr) (r : Addr) (w0 : World) (R : (HeardV × Int) → World → Prop) : sf87 e r w0 R = vcFn P sh an87 Try.f87 [(.pointer (some e)), (.pointer (some r))] (shTup2 shHeardV (shInt .i64)) w0 R := by kernel_rfl
theorem nm87 : (Try.f87.name == "runtime.NumGoroutine") = false := by kernel_rfl
theorem sf87_call (e : Addr) (r : Addr) (w0 : World) (R : (HeardV × Int) → World → Prop) (hsf : sf87 e r w0 R) : callP P 87 #[(.pointer (some e)), (.pointer (some r))] w0 (shTup2 shHeardV (shInt .i64)).val R :=
  vcFn_sound mixed Try.func87 nm87 (Eq.mp (sf87_eq e r w0 R) hsf)

/-- slices.Clone[[]uint16,uint16] -/
def sf91 (s : SlV) (w0 : World) (R : SlV → World → Prop) : Prop :=
 cond' (negB false s.a.isNone) (
 R SlV.nil w0) (
 newP w0 (.cells #[] 38) fun b_1 w_1 =>
 runP P (Builtin.append_ #[86, 86] 86 #[(SlV.val (SlV.mk (some (⟨b_1, 0, none⟩ : Addr)) 0 0)), (SlV.val s)]) w_1 SlV.val fun r_2 w_2 =>
 R r_2 w_2)
def an91 : Ann := mkAnn [] []
theorem sf91_eq (s : SlV) (w0 : World) (R : SlV → World → Prop) : sf91 s w0 R = vcFn P sh an91 Try.f91 [(SlV.val s)] shSl w0 R := by kernel_rfl
theorem nm91 : (Try.f91.name == "runtime.NumGoroutine") = false := by kernel_rfl
theorem sf91_call (s : SlV) (w0 : World) (R : SlV → World → Prop) (hsf : sf91 s w0 R) : callP P 91 #[(SlV.val s)] w0 shSl.val R :=
  vcFn_sound mixed Try.func91 nm91 (Eq.mp (sf91_eq s w0 R) hsf)

/-- slices.Index[[]uint16,uint16] -/
def sf114 (s : SlV) (v : Int) (w0 : World) (R : Int → World → Prop) : Prop :=
 loopP (Int) (0 : Int) w0 fun next__1 _ s_2 w_1 =>
 cond' (decide (s_2 < (s.len : Int))) (
 chkP (inR s_2 s.len) <|
 nilP s.a fun a_3 =>
 loadP w_1 (a_3.add (Int.toNat s_2 * 1)) 1 (Value.int .u16) fun v_4 =>
 cond' (v == v_4) (
 R s_2 w_1) (
 next__1 (IntKind.i64.wrap (s_2 + (1 : Int))) w_1)) (
 R (-1 : Int) w_1)
def an114 : Ann := mkAnn [(2, [(8, (shInt .i64))])] []
theorem sf114_eq (s : SlV) (v : Int) (w0 : World) (R : Int → World → Prop) : sf114 s v w0 R = vcFn P sh an114 Try.f114 [(SlV.val s), (.int .u16 v)] (shInt .i64) w0 R := by kernel_rfl
theorem nm114 : (Try.f114.name == "runtime.NumGoroutine") = false := by kernel_rfl
theorem sf114_call (s : SlV) (v : Int) (w0 : World) (R : Int → World → Prop) (hsf : sf114 s v w0 R) : callP P 114 #[(SlV.val s), (.int .u16 v)] w0 (shInt .i64).val R :=
  vcFn_sound mixed Try.func114 nm114 (Eq.mp (sf114_eq s v w0 R) hsf)

/-- slices.pdqsortOrdered[uint16] -/
def sf115 (data : SlV) (a : Int) (b : Int) (limit : Int) (w0 : World) (R : Unit → World → Prop) : Prop :=
 loopP (Int × Int × Int × Bool × Bool) (a, b, limit, true, true) w0 fun next__1 _ s_2 w_1 =>
 cond' (decide ((IntKind.i64.wrap (s_2.2.1 - s_2.1)) ≤ (12 : Int))) (
 callP P 136 #[(SlV.val data), (.int .i64 s_2.1), (.int .i64 s_2.2.1)] w_1 unitV fun r_3 w_2 =>
 R () w_2) (
 cond' (s_2.2.2.1 == (0 : Int)) (
 callP P 137 #[(SlV.val data), (.int .i64 s_2.1), (.int .i64 s_2.2.1)] w_1 unitV fun r_4 w_3 =>
 R () w_3) (
 cutP (Int) (fun J_5 =>
 cond' (!s_2.2.2.2.1) (
 callP P 138 #[(SlV.val data), (.int .i64 s_2.1), (.int .i64 s_2.2.1)] w_1 unitV fun r_7 w_5 =>
 J_5 (IntKind.i64.wrap (s_2.2.2.1 - (1 : Int))) w_5) (
 J_5 s_2.2.2.1 w_1)) fun _ s_6 w_4 =>
 callP P 139 #[(SlV.val data), (.int .i64 s_2.1), (.int .i64 s_2.2.1)] w_4 (tup2V (Value.int .i64) (Value.int .i64)) fun r_8 w_6 =>
 cutP (Int × Int) (fun J_9 =>
 cond' (r_8.2 == (2 : Int)) (
 callP P 140 #[(SlV.val data), (.int .i64 s_2.1), (.int .i64 s_2.2.1)] w_6 unitV fun r_11 w_8 =>
 J_9 ((IntKind.i64.wrap ((IntKind.i64.wrap (s_2.2.1 - (1 : Int))) - (IntKind.i64.wrap (r_8.1 - s_2.1)))), (1 : Int)) w_8) (
 J_9 (r_8.1, r_8.2) w_6)) fun _ s_10 w_7 =>
 cutP (Unit) (fun J_12 =>
 cond' s_2.2.2.2.1 (
 cond' s_2.2.2.2.2 (
 cond' (s_10.2 == (1 : Int)) (
 callP P 141 #[(SlV.val data), (.int .i64 s_2.1), (.int .i64 s_2.2.1)] w_7 Value.bool fun r_16 w_10 =>
 cond' r_16 (
 R () w_10) (
 J_12 () w_10)) (
 J_12 () w_7)) (
 J_12 () w_7)) (
 J_12 () w_7)) fun _ _ w_9 =>
 cutP (Bool) (fun J_17 =>
 cond' (decide (s_2.1 > (0 : Int))) (
 chkP (inR (IntKind.i64.wrap (s_2.1 - (1 : Int))) data.len) <|
 nilP data.a fun a_20 =>
 loadP w_9.drew (a_20.add (Int.toNat (IntKind.i64.wrap (s_2.1 - (1 : Int))) * 1)) 1 (Value.int .u16) fun v_21 =>
 chkP (inR s_10.1 data.len) <|
 nilP data.a fun a_22 =>
 loadP w_9.drew (a_22.add (Int.toNat s_10.1 * 1)) 1 (Value.int .u16) fun v_23 =>
 callP P 142 #[(.int .u16 v_21), (.int .u16 v_23)] w_9.drew Value.bool fun r_24 w_12 =>
 J_17 (!r_24) w_12) (
 J_17 false w_9.drew)) fun _ s_18 w_11 =>
 cond' s_18 (
 callP P 143 #[(SlV.val data), (.int .i64 s_2.1), (.int .i64 s_2.2.1), (.int .i64 s_10.1)] w_11 (Value.int .i64) fun r_25 w_13 =>
 next__1 (r_25, s_2.2.1, s_6, s_2.2.2.2.1, s_2.2.2.2.2) w_13) (
 callP P 144 #[(SlV.val data), (.int .i64 s_2.1), (.int .i64 s_2.2.1), (.int .i64 s_10.1)] w_11 (tup2V (Value.int .i64) Value.bool) fun r_26 w_14 =>
 cond' (decide ((IntKind.i64.wrap (r_26.1 - s_2.1)) < (IntKind.i64.wrap (s_2.2.1 - r_26.1)))) (
 callP P 115 #[(SlV.val data), (.int .i64 s_2.1), (.int .i64 r_26.1), (.int .i64 s_6)] w_14 unitV fun r_27 w_15 =>
 next__1 ((IntKind.i64.wrap (r_26.1 + (1 : Int))), s_2.2.1, s_6, (decide ((IntKind.i64.wrap (r_26.1 - s_2.1)) ≥ (IntKind.i64.wrap (Int.tdiv (IntKind.i64.wrap (s_2.2.1 - s_2.1)) (8 : Int))))), r_26.2) w_15) (
 callP P 115 #[(SlV.val data), (.int .i64 (IntKind.i64.wrap (r_26.1 + (1 : Int)))), (.int .i64 s_2.2.1), (.int .i64 s_6)] w_14 unitV fun r_28 w_16 =>
 next__1 (s_2.1, r_26.1, s_6, (decide ((IntKind.i64.wrap (s_2.2.1 - r_26.1)) ≥ (IntKind.i64.wrap (Int.tdiv (IntKind.i64.wrap (s_2.2.1 - s_2.1)) (8 : Int))))), r_26.2) w_16))))
def an115 : Ann := mkAnn [(2, [(1, (shInt .i64)), (2, (shInt .i64)), (3, (shInt .i64)), (8, shBool), (9, shBool)])] [(10, [(3, (shInt .i64))]), (15, [(11, (shInt .i64)), (12, (shInt .i64))]), (17, []), (18, [(87, shBool)])]
theorem sf115_eq (data : SlV) (a : Int) (b : Int) (limit : Int) (w0 : World) (R : Unit → World → Prop) : sf115 data a b limit w0 R = vcFn P sh an115 Try.f115 [(SlV.val data), (.int .i64 a), (.int .i64 b), (.int .i64 limit)] shUnit w0 R := by kernel_rfl
theorem nm115 : (Try.f115.name == "runtime.NumGoroutine") = false := by kernel_rfl
theorem sf115_call (data : SlV) (a : Int) (b : Int) (limit : Int) (w0 : World) (R : Unit → World → Prop) (hsf : sf115 data a b limit w0 R) : callP P 115 #[(SlV.val data), (.int .i64 a), (.int .i64 b), (.int .i64 limit)] w0 shUnit.val R :=
  vcFn_sound mixed Try.func115 nm115 (Eq.mp (sf115_eq data a b limit w0 R) hsf)

/-- math/bits.Len -/
def sf116 (x : Int) (w0 : World) (R : Int → World → Prop) : Prop :=
 callP P 146 #[(.int .u64 x)] w0 (Value.int .i64) fun r_1 w_1 =>
 R r_1 w_1
def an116 : Ann := mkAnn [] []
theorem sf116_eq (x : Int) (w0 : World) (R : Int → World → Prop) : sf116 x w0 R = vcFn P sh an116 Try.f116 [(.int .u64 x)] (shInt .i64) w0 R := by kernel_rfl
theorem nm116 : (Try.f116.name == "runtime.NumGoroutine") = false := by kernel_rfl
theorem sf116_call (x : Int) (w0 : World) (R : Int → World → Prop) (hsf : sf116 x w0 R) : callP P 116 #[(.int .u64 x)] w0 (shInt .i64).val R :=
  vcFn_sound mixed Try.func116 nm116 (Eq.mp (sf116_eq x w0 R) hsf)

/-- (*flume/octet.Reader).U32 -/
def sf117 (r : Addr) (w0 : World) (R : Int → World → Prop) : Prop :=
 callP P 147 #[(.pointer (some r)), (.int .i64 (4 : Int))] w0 (Value.int .u32) fun r_1 w_1 =>
 R r_1 w_1
def an117 : Ann := mkAnn [] []
theorem sf117_eq (r : Addr) (w0 : World) (R : Int → World → Prop) : sf117 r w0 R = vcFn P sh an117 Try.f117 [(.pointer (some r))] (shInt .u32) w0 R := by kernel_rfl
theorem nm117 : (Try.f117.name == "runtime.NumGoroutine") = false := by kernel_rfl
theorem sf117_call (r : Addr) (w0 : World) (R : Int → World → Prop) (hsf : sf117 r w0 R) : callP P 117 #[(.pointer (some r))] w0 (shInt .u32).val R :=
  vcFn_sound mixed Try.func117 nm117 (Eq.mp (sf117_eq r w0 R) hsf)

/-- (*flume/octet.Reader).Left -/
def sf118 (r : Addr) (w0 : World) (R : Int → World → Prop) : Prop :=
 loadP w0 (r.add 0) 1 SlV.val fun v_1 =>
 R (v_1.len : Int) w0
def an118 : Ann := mkAnn [] []
theorem sf118_eq (r : Addr) (w0 : World) (R : Int → World → Prop) : sf118 r w0 R = vcFn P sh an118 Try.f118 [(.pointer (some r))] (shInt .i64) w0 R := by kernel_rfl
theorem nm118 : (Try.f118.name == "runtime.NumGoroutine") = false := by kernel_rfl
theorem sf118_call (r : Addr) (w0 : World) (R : Int → World → Prop) (hsf : sf118 r w0 R) : callP P 118 #[(.pointer (some r))] w0 (shInt .i64).val R :=
  vcFn_sound mixed Try.func118 nm118 (Eq.mp (sf118_eq r w0 R) hsf)

/-- (*flume/octet.Reader).U16 -/
def sf119 (r : Addr) (w0 : World) (R : Int → World → Prop) : Prop :=
 callP P 147 #[(.pointer (some r)), (.int .i64 (2 : Int))] w0 (Value.int .u32) fun r_1 w_1 =>
 R (IntKind.u16.wrap r_1) w_1
def an119 : Ann := mkAnn [] []
theorem sf119_eq (r : Addr) (w0 : World) (R : Int → World → Prop) : sf119 r w0 R = vcFn P sh an119 Try.f119 [(.pointer (some r))] (shInt .u16) w0 R := by kernel_rfl
theorem nm119 : (Try.f119.name == "runtime.NumGoroutine") = false := by kernel_rfl
theorem sf119_call (r : Addr) (w0 : World) (R : Int → World → Prop) (hsf : sf119 r w0 R) : callP P 119 #[(.pointer (some r))] w0 (shInt .u16).val R :=
  vcFn_sound mixed Try.func119 nm119 (Eq.mp (sf119_eq r w0 R) hsf)

/-- (*flume/octet.Reader).Good -/
def sf120 (r : Addr) (w0 : World) (R : Bool → World → Prop) : Prop :=
 loadP w0 (r.add 1) 1 Value.bool fun v_1 =>
 R (!v_1) w0
def an120 : Ann := mkAnn [] []
theorem sf120_eq (r : Addr) (w0 : World) (R : Bool → World → Prop) : sf120 r w0 R = vcFn P sh an120 Try.f120 [(.pointer (some r))] shBool w0 R := by kernel_rfl
theorem nm120 : (Try.f120.name == "runtime.NumGoroutine") = false := by kernel_rfl
theorem sf120_call (r : Addr) (w0 : World) (R : Bool → World → Prop) (hsf : sf120 r w0 R) : callP P 120 #[(.pointer (some r))] w0 shBool.val R :=
  vcFn_sound mixed Try.func120 nm120 (Eq.mp (sf120_eq r w0 R) hsf)

end Go.Vc.SB

/-
  What functions of the program come to, read off their code. No condition.
-/
import Derived.Test.YtobldgdfejpckaaASh
set_option linter.all false
set_option linter.unusedVariables false
set_option maxRecDepth 100000
namespace Go.Vc.SA
open Go.Proofs
/-- flume/flumelaw08.first -/
def sf15 (w0 : World) (R : Bool → World → Prop) : Prop :=
 newP w0 (.cells #[(.int .u8 (97 : Int))] 5) fun b_1 w_1 =>
 runP P (convert 22 22 (SlV.val (SlV.mk (some (⟨b_1, 0, none⟩ : Addr)) 1 1))) w_1 SlV.val fun r_2 w_2 =>
 newP w_2 (.cells #[(.int .u8 (98 : Int)), (.int .u8 (99 : Int))] 5) fun b_3 w_3 =>
 runP P (convert 22 22 (SlV.val (SlV.mk (some (⟨b_3, 0, none⟩ : Addr)) 2 2))) w_3 SlV.val fun r_4 w_4 =>
 newP w_4 (.cells #[(SlV.val r_2), (SlV.val r_4)] 22) fun b_5 w_5 =>
 callP P 17 #[(SlV.val (SlV.mk (some (⟨b_5, 0, none⟩ : Addr)) 2 2))] w_5 (arrV .u8) fun r_6 w_6 =>
 newP w_6 (.cells ((arrV .u8) (List.replicate 32 0)).cells 25) fun b_7 w_7 =>
 storeP w_7 (⟨b_7, 0, none⟩ : Addr) 32 ((arrV .u8) r_6) fun w_8 =>
 newP w_8 (.cells #[(.int .u8 (74 : Int)), (.int .u8 (101 : Int)), (.int .u8 (102 : Int)), (.int .u8 (101 : Int))] 5) fun b_8 w_9 =>
 runP P (convert 22 22 (SlV.val (SlV.mk (some (⟨b_8, 0, none⟩ : Addr)) 4 4))) w_9 SlV.val fun r_9 w_10 =>
 newP w_10 (.cells #[(.int .u8 (119 : Int)), (.int .u8 (104 : Int)), (.int .u8 (97 : Int)), (.int .u8 (116 : Int)), (.int .u8 (32 : Int)), (.int .u8 (100 : Int)), (.int .u8 (111 : Int)), (.int .u8 (32 : Int)), (.int .u8 (121 : Int)), (.int .u8 (97 : Int)), (.int .u8 (32 : Int)), (.int .u8 (119 : Int)), (.int .u8 (97 : Int)), (.int .u8 (110 : Int)), (.int .u8 (116 : Int)), (.int .u8 (32 : Int)), (.int .u8 (102 : Int)), (.int .u8 (111 : Int)), (.int .u8 (114 : Int)), (.int .u8 (32 : Int)), (.int .u8 (110 : Int)), (.int .u8 (111 : Int)), (.int .u8 (116 : Int)), (.int .u8 (104 : Int)), (.int .u8 (105 : Int)), (.int .u8 (110 : Int)), (.int .u8 (103 : Int)), (.int .u8 (63 : Int))] 5) fun b_10 w_11 =>
 runP P (convert 22 22 (SlV.val (SlV.mk (some (⟨b_10, 0, none⟩ : Addr)) 28 28))) w_11 SlV.val fun r_11 w_12 =>
 newP w_12 (.cells #[(SlV.val r_11)] 22) fun b_12 w_13 =>
 callP P 16 #[(SlV.val r_9), (SlV.val (SlV.mk (some (⟨b_12, 0, none⟩ : Addr)) 1 1))] w_13 (arrV .u8) fun r_13 w_14 =>
 newP w_14 (.cells ((arrV .u8) (List.replicate 32 0)).cells 25) fun b_14 w_15 =>
 storeP w_15 (⟨b_14, 0, none⟩ : Addr) 32 ((arrV .u8) r_13) fun w_16 =>
 loadP w_16 ((⟨b_7, 0, none⟩ : Addr).add (Int.toNat (0 : Int) * 1)) 1 (Value.int .u8) fun v_15 =>
 cond' (v_15 == (186 : Int)) (
 loadP w_16 ((⟨b_7, 0, none⟩ : Addr).add (Int.toNat (31 : Int) * 1)) 1 (Value.int .u8) fun v_17 =>
 cond' (v_17 == (173 : Int)) (
 loadP w_16 ((⟨b_14, 0, none⟩ : Addr).add (Int.toNat (0 : Int) * 1)) 1 (Value.int .u8) fun v_19 =>
 cond' (v_19 == (91 : Int)) (
 loadP w_16 ((⟨b_14, 0, none⟩ : Addr).add (Int.toNat (31 : Int) * 1)) 1 (Value.int .u8) fun v_21 =>
 cond' (v_21 == (67 : Int)) (
 loadP w_16 (⟨b_7, 0, none⟩ : Addr) 32 (arrV .u8) fun v_23 =>
 loadP w_16 (⟨b_7, 0, none⟩ : Addr) 32 (arrV .u8) fun v_24 =>
 callP P 20 #[((arrV .u8) v_23), ((arrV .u8) v_24)] w_16 Value.bool fun r_25 w_17 =>
 cond' r_25 (
 loadP w_17 (⟨b_7, 0, none⟩ : Addr) 32 (arrV .u8) fun v_27 =>
 loadP w_17 (⟨b_14, 0, none⟩ : Addr) 32 (arrV .u8) fun v_28 =>
 callP P 20 #[((arrV .u8) v_27), ((arrV .u8) v_28)] w_17 Value.bool fun r_29 w_18 =>
 R (!r_29) w_18) (
 R false w_17)) (
 R false w_16)) (
 R false w_16)) (
 R false w_16)) (
 R false w_16)
def an15 : Ann := mkAnn [] []
theorem sf15_eq (w0 : World) (R : Bool → World → Prop) : sf15 w0 R = vcFn P sh an15 Try.f15 [] shBool w0 R := by kernel_rfl
theorem nm15 : (Try.f15.name == "runtime.NumGoroutine") = false := by kernel_rfl
theorem sf15_call (w0 : World) (R : Bool → World → Prop) (hsf : sf15 w0 R) : callP P 15 #[] w0 shBool.val R :=
  vcFn_sound mixed Try.func15 nm15 (Eq.mp (sf15_eq w0 R) hsf)

/-- flume/mac.Seal -/
def sf16 (key : SlV) (parts : SlV) (w0 : World) (R : (List Int) → World → Prop) : Prop :=
 newP w0 (.cells ((arrV .u8) (List.replicate 32 0)).cells 25) fun b_1 w_1 =>
 callP P 38 #[(SlV.val key)] w_1 SlV.val fun r_2 w_2 =>
 newP w_2 (.cells #[(SlV.val SlV.nil)] 22) fun b_3 w_3 =>
 storeP w_3 (⟨b_3, 0, none⟩ : Addr) 1 (SlV.val r_2) fun w_4 =>
 cutP (Unit) (fun J_4 =>
 loadP w_4 (⟨b_3, 0, none⟩ : Addr) 1 SlV.val fun v_6 =>
 cond' (decide ((v_6.len : Int) > (64 : Int))) (
 loadP w_4 (⟨b_3, 0, none⟩ : Addr) 1 SlV.val fun v_7 =>
 newP w_4 (.cells #[(SlV.val v_7)] 22) fun b_8 w_6 =>
 callP P 17 #[(SlV.val (SlV.mk (some (⟨b_8, 0, none⟩ : Addr)) 1 1))] w_6 (arrV .u8) fun r_9 w_7 =>
 newP w_7 (.cells ((arrV .u8) (List.replicate 32 0)).cells 25) fun b_10 w_8 =>
 storeP w_8 (⟨b_10, 0, none⟩ : Addr) 32 ((arrV .u8) r_9) fun w_9 =>
 storeP w_9 (⟨b_3, 0, none⟩ : Addr) 1 (SlV.val (arrSub (⟨b_10, 0, none⟩ : Addr) 0 32 32 1)) fun w_10 =>
 J_4 () w_10) (
 J_4 () w_4)) fun _ _ w_5 =>
 loadP w_5 (⟨b_3, 0, none⟩ : Addr) 1 SlV.val fun v_11 =>
 loadP w_5 (⟨b_3, 0, none⟩ : Addr) 1 SlV.val fun v_12 =>
 runP P (Builtin.append_ #[22, 3] 22 #[(SlV.val v_11), (.int .i64 (IntKind.i64.wrap ((64 : Int) - (v_12.len : Int))))]) w_5 SlV.val fun r_13 w_11 =>
 storeP w_11 (⟨b_3, 0, none⟩ : Addr) 1 (SlV.val r_13) fun w_12 =>
 callP P 41 #[(SlV.val parts)] w_12 SlV.val fun r_14 w_13 =>
 callP P 39 #[(.int .u8 (54 : Int)), (.pointer (some (⟨b_3, 0, none⟩ : Addr)))] w_13 SlV.val fun r_15 w_14 =>
 newP w_14 (.cells #[(SlV.val r_15)] 22) fun b_16 w_15 =>
 callP P 40 #[(SlV.val r_14), (.int .i64 (0 : Int)), (SlV.val (SlV.mk (some (⟨b_16, 0, none⟩ : Addr)) 1 1))] w_15 SlV.val fun r_17 w_16 =>
 callP P 17 #[(SlV.val r_17)] w_16 (arrV .u8) fun r_18 w_17 =>
 newP w_17 (.cells ((arrV .u8) (List.replicate 32 0)).cells 25) fun b_19 w_18 =>
 storeP w_18 (⟨b_19, 0, none⟩ : Addr) 32 ((arrV .u8) r_18) fun w_19 =>
 callP P 39 #[(.int .u8 (92 : Int)), (.pointer (some (⟨b_3, 0, none⟩ : Addr)))] w_19.drew SlV.val fun r_20 w_20 =>
 newP w_20 (.cells #[(SlV.val r_20), (SlV.val (arrSub (⟨b_19, 0, none⟩ : Addr) 0 32 32 1))] 22) fun b_21 w_21 =>
 callP P 17 #[(SlV.val (SlV.mk (some (⟨b_21, 0, none⟩ : Addr)) 2 2))] w_21 (arrV .u8) fun r_22 w_22 =>
 storeP w_22 (⟨b_1, 0, none⟩ : Addr) 32 ((arrV .u8) r_22) fun w_23 =>
 loadP w_23 (⟨b_1, 0, none⟩ : Addr) 32 (arrV .u8) fun v_23 =>
 unArrP .u8 ((arrV .u8) v_23) fun z_24 =>
 R z_24 w_23
def an16 : Ann := mkAnn [] [(5, [])]
theorem sf16_eq (key : SlV) (parts : SlV) (w0 : World) (R : (List Int) → World → Prop) : sf16 key parts w0 R = vcFn P sh an16 Try.f16 [(SlV.val key), (SlV.val parts)] (shArr .u8) w0 R := by kernel_rfl
theorem nm16 : (Try.f16.name == "runtime.NumGoroutine") = false := by kernel_rfl
theorem sf16_call (key : SlV) (parts : SlV) (w0 : World) (R : (List Int) → World → Prop) (hsf : sf16 key parts w0 R) : callP P 16 #[(SlV.val key), (SlV.val parts)] w0 (shArr .u8).val R :=
  vcFn_sound mixed Try.func16 nm16 (Eq.mp (sf16_eq key parts w0 R) hsf)

/-- flume/mac.Hash -/
def sf17 (parts : SlV) (w0 : World) (R : (List Int) → World → Prop) : Prop :=
 newP w0 (.cells ((arrV .u8) (List.replicate 32 0)).cells 25) fun b_1 w_1 =>
 callP P 42 #[(SlV.val parts)] w_1 SlV.val fun r_2 w_2 =>
 newP w_2 (.cells #[(.int .u8 (128 : Int))] 5) fun b_3 w_3 =>
 runP P (Builtin.append_ #[22, 22] 22 #[(SlV.val r_2), (SlV.val (SlV.mk (some (⟨b_3, 0, none⟩ : Addr)) 1 1))]) w_3 SlV.val fun r_4 w_4 =>
 runP P (Builtin.append_ #[22, 3] 22 #[(SlV.val r_4), (.int .i64 (Int.tmod (IntKind.i64.wrap ((120 : Int) - (Int.tmod (r_4.len : Int) (64 : Int)))) (64 : Int)))]) w_4 SlV.val fun r_5 w_5 =>
 loopP (SlV × Int) (r_5, (56 : Int)) w_5 fun next__6 _ s_7 w_6 =>
 cond' (decide (s_7.2 ≥ (0 : Int))) (
 chkP (decide (0 ≤ s_7.2)) <|
 newP w_6 (.cells #[(.int .u8 (IntKind.u8.wrap (Int.fdiv (IntKind.u64.wrap ((IntKind.u64.wrap (r_2.len : Int)) * (8 : Int))) (2 ^ (min (Int.toNat s_7.2) IntKind.u64.bits)))))] 5) fun b_8 w_7 =>
 runP P (Builtin.append_ #[22, 22] 22 #[(SlV.val s_7.1), (SlV.val (SlV.mk (some (⟨b_8, 0, none⟩ : Addr)) 1 1))]) w_7 SlV.val fun r_9 w_8 =>
 next__6 (r_9, (IntKind.i64.wrap (s_7.2 - (8 : Int)))) w_8) (
 newP w_6 (.cells ((arrV .u32) (List.replicate 8 0)).cells 92) fun b_10 w_9 =>
 storeP w_9 (⟨b_10, 0, none⟩ : Addr) 8 ((arrV .u32) ([(1779033703 : Int), (3144134277 : Int), (1013904242 : Int), (2773480762 : Int), (1359893119 : Int), (2600822924 : Int), (528734635 : Int), (1541459225 : Int)])) fun w_10 =>
 callP P 43 #[(SlV.val s_7.1), (.int .i64 (64 : Int))] w_10 FnV.val fun r_11 w_11 =>
 rangeP P (FnV.val r_11) (fun x : SlV => [(SlV.val x)]) (fun L_12 x_13 w_12 J_14 =>
 begP P L_12 w_12 fun w_13 =>
 callP P 44 #[(.pointer (some (⟨b_10, 0, none⟩ : Addr))), (SlV.val x_13)] w_13 unitV fun r_16 w_15 =>
 J_14 w_15) w_11 fun D_15 w_14 =>
 newP w_14 (.cells ((arrV .u8) (List.replicate 32 0)).cells 25) fun b_17 w_16 =>
 loadP w_16 (⟨b_10, 0, none⟩ : Addr) 8 (arrV .u32) fun v_18 =>
 loopP (Int) (0 : Int) w_16 fun next__19 _ s_20 w_17 =>
 cond' (decide (s_20 < (8 : Int))) (
 chkP (inR s_20 8) <|
 nthK .u32 (((arrV .u32) v_18)).cells.toList (Int.toNat s_20 * 1) fun y_21 =>
 loopP (Int) (0 : Int) w_17 fun next__22 _ s_23 w_18 =>
 cond' (decide (s_23 < (4 : Int))) (
 chkP (decide (0 ≤ (IntKind.i64.wrap ((24 : Int) - (IntKind.i64.wrap ((8 : Int) * s_23)))))) <|
 chkP (inR (IntKind.i64.wrap ((IntKind.i64.wrap ((4 : Int) * s_20)) + s_23)) 32) <|
 storeP w_18 ((⟨b_17, 0, none⟩ : Addr).add (Int.toNat (IntKind.i64.wrap ((IntKind.i64.wrap ((4 : Int) * s_20)) + s_23)) * 1)) 1 (.int .u8 (IntKind.u8.wrap (Int.fdiv y_21 (2 ^ (min (Int.toNat (IntKind.i64.wrap ((24 : Int) - (IntKind.i64.wrap ((8 : Int) * s_23))))) IntKind.u32.bits))))) fun w_19 =>
 next__22 (IntKind.i64.wrap (s_23 + (1 : Int))) w_19) (
 next__19 (IntKind.i64.wrap (s_20 + (1 : Int))) w_18)) (
 loadP w_17 (⟨b_17, 0, none⟩ : Addr) 32 (arrV .u8) fun v_24 =>
 storeP w_17 (⟨b_1, 0, none⟩ : Addr) 32 ((arrV .u8) v_24) fun w_20 =>
 leaveP P D_15 w_20 fun w_21 =>
 loadP w_21 (⟨b_1, 0, none⟩ : Addr) 32 (arrV .u8) fun v_25 =>
 unArrP .u8 ((arrV .u8) v_25) fun z_26 =>
 R z_26 w_21))
def an17 : Ann := mkAnn [(6, [(3, shSl), (5, (shInt .i64))]), (12, [(42, shSl)]), (15, [(46, (shInt .i64))]), (18, [(50, (shInt .i64))])] []
theorem sf17_eq (parts : SlV) (w0 : World) (R : (List Int) → World → Prop) : sf17 parts w0 R = vcFn P sh an17 Try.f17 [(SlV.val parts)] (shArr .u8) w0 R := by kernel_rfl
theorem nm17 : (Try.f17.name == "runtime.NumGoroutine") = false := by kernel_rfl
theorem sf17_call (parts : SlV) (w0 : World) (R : (List Int) → World → Prop) (hsf : sf17 parts w0 R) : callP P 17 #[(SlV.val parts)] w0 (shArr .u8).val R :=
  vcFn_sound mixed Try.func17 nm17 (Eq.mp (sf17_eq parts w0 R) hsf)

/-- flume/flumeref08.Seal -/
def sf18 (key : SlV) (m : SlV) (w0 : World) (R : (List Int) → World → Prop) : Prop :=
 newP w0 (.cells ((arrV .u8) (List.replicate 32 0)).cells 25) fun b_1 w_1 =>
 newP w_1 (.cells ((arrV .u8) (List.replicate 64 0)).cells 97) fun b_2 w_2 =>
 cutP (Unit) (fun J_3 =>
 cond' (decide ((key.len : Int) > (64 : Int))) (
 callP P 19 #[(SlV.val key)] w_2 (arrV .u8) fun r_5 w_4 =>
 newP w_4 (.cells ((arrV .u8) (List.replicate 32 0)).cells 25) fun b_6 w_5 =>
 storeP w_5 (⟨b_6, 0, none⟩ : Addr) 32 ((arrV .u8) r_5) fun w_6 =>
 loopP (Int) (0 : Int) w_6 fun next__7 _ s_8 w_7 =>
 cond' (decide (s_8 < (32 : Int))) (
 chkP (inR s_8 32) <|
 loadP w_7 ((⟨b_6, 0, none⟩ : Addr).add (Int.toNat s_8 * 1)) 1 (Value.int .u8) fun v_9 =>
 chkP (inR s_8 64) <|
 storeP w_7 ((⟨b_2, 0, none⟩ : Addr).add (Int.toNat s_8 * 1)) 1 (.int .u8 v_9) fun w_8 =>
 next__7 (IntKind.i64.wrap (s_8 + (1 : Int))) w_8) (
 J_3 () w_7)) (
 loopP (Int) (0 : Int) w_2 fun next__10 _ s_11 w_9 =>
 cond' (decide (s_11 < (key.len : Int))) (
 chkP (inR s_11 key.len) <|
 nilP key.a fun a_12 =>
 loadP w_9 (a_12.add (Int.toNat s_11 * 1)) 1 (Value.int .u8) fun v_13 =>
 chkP (inR s_11 64) <|
 storeP w_9 ((⟨b_2, 0, none⟩ : Addr).add (Int.toNat s_11 * 1)) 1 (.int .u8 v_13) fun w_10 =>
 next__10 (IntKind.i64.wrap (s_11 + (1 : Int))) w_10) (
 J_3 () w_9))) fun _ _ w_3 =>
 loopP (SlV × SlV × Int) (SlV.nil, SlV.nil, (0 : Int)) w_3 fun next__14 _ s_15 w_11 =>
 cond' (decide (s_15.2.2 < (64 : Int))) (
 chkP (inR s_15.2.2 64) <|
 loadP w_11 ((⟨b_2, 0, none⟩ : Addr).add (Int.toNat s_15.2.2 * 1)) 1 (Value.int .u8) fun v_16 =>
 newP w_11 (.cells #[(.int .u8 (bits .xor .u8 v_16 (54 : Int)))] 5) fun b_17 w_12 =>
 runP P (Builtin.append_ #[22, 22] 22 #[(SlV.val s_15.1), (SlV.val (SlV.mk (some (⟨b_17, 0, none⟩ : Addr)) 1 1))]) w_12 SlV.val fun r_18 w_13 =>
 chkP (inR s_15.2.2 64) <|
 loadP w_13 ((⟨b_2, 0, none⟩ : Addr).add (Int.toNat s_15.2.2 * 1)) 1 (Value.int .u8) fun v_19 =>
 newP w_13 (.cells #[(.int .u8 (bits .xor .u8 v_19 (92 : Int)))] 5) fun b_20 w_14 =>
 runP P (Builtin.append_ #[22, 22] 22 #[(SlV.val s_15.2.1), (SlV.val (SlV.mk (some (⟨b_20, 0, none⟩ : Addr)) 1 1))]) w_14 SlV.val fun r_21 w_15 =>
 next__14 (r_18, r_21, (IntKind.i64.wrap (s_15.2.2 + (1 : Int)))) w_15) (
 runP P (Builtin.append_ #[22, 22] 22 #[(SlV.val s_15.1), (SlV.val m)]) w_11 SlV.val fun r_22 w_16 =>
 callP P 19 #[(SlV.val r_22)] w_16 (arrV .u8) fun r_23 w_17 =>
 newP w_17 (.cells ((arrV .u8) (List.replicate 32 0)).cells 25) fun b_24 w_18 =>
 storeP w_18 (⟨b_24, 0, none⟩ : Addr) 32 ((arrV .u8) r_23) fun w_19 =>
 loopP (SlV × Int) (s_15.2.1, (0 : Int)) w_19 fun next__25 _ s_26 w_20 =>
 cond' (decide (s_26.2 < (32 : Int))) (
 chkP (inR s_26.2 32) <|
 loadP w_20 ((⟨b_24, 0, none⟩ : Addr).add (Int.toNat s_26.2 * 1)) 1 (Value.int .u8) fun v_27 =>
 newP w_20 (.cells #[(.int .u8 v_27)] 5) fun b_28 w_21 =>
 runP P (Builtin.append_ #[22, 22] 22 #[(SlV.val s_26.1), (SlV.val (SlV.mk (some (⟨b_28, 0, none⟩ : Addr)) 1 1))]) w_21 SlV.val fun r_29 w_22 =>
 next__25 (r_29, (IntKind.i64.wrap (s_26.2 + (1 : Int)))) w_22) (
 callP P 19 #[(SlV.val s_26.1)] w_20 (arrV .u8) fun r_30 w_23 =>
 storeP w_23 (⟨b_1, 0, none⟩ : Addr) 32 ((arrV .u8) r_30) fun w_24 =>
 loadP w_24 (⟨b_1, 0, none⟩ : Addr) 32 (arrV .u8) fun v_31 =>
 unArrP .u8 ((arrV .u8) v_31) fun z_32 =>
 R z_32 w_24))
def an18 : Ann := mkAnn [(5, [(7, (shInt .i64))]), (9, [(8, (shInt .i64))]), (14, [(9, shSl), (10, shSl), (11, (shInt .i64))]), (20, [(10, shSl), (13, (shInt .i64))])] [(12, [])]
theorem sf18_eq (key : SlV) (m : SlV) (w0 : World) (R : (List Int) → World → Prop) : sf18 key m w0 R = vcFn P sh an18 Try.f18 [(SlV.val key), (SlV.val m)] (shArr .u8) w0 R := by kernel_rfl
theorem nm18 : (Try.f18.name == "runtime.NumGoroutine") = false := by kernel_rfl
theorem sf18_call (key : SlV) (m : SlV) (w0 : World) (R : (List Int) → World → Prop) (hsf : sf18 key m w0 R) : callP P 18 #[(SlV.val key), (SlV.val m)] w0 (shArr .u8).val R :=
  vcFn_sound mixed Try.func18 nm18 (Eq.mp (sf18_eq key m w0 R) hsf)

/-- flume/flumeref08.Hash -/
def sf19 (m : SlV) (w0 : World) (R : (List Int) → World → Prop) : Prop :=
 newP w0 (.cells ((arrV .u8) (List.replicate 32 0)).cells 25) fun b_1 w_1 =>
 newP w_1 (.cells #[] 5) fun b_2 w_2 =>
 runP P (Builtin.append_ #[22, 22] 22 #[(SlV.val (SlV.mk (some (⟨b_2, 0, none⟩ : Addr)) 0 0)), (SlV.val m)]) w_2 SlV.val fun r_3 w_3 =>
 newP w_3 (.cells #[(.int .u8 (128 : Int))] 5) fun b_4 w_4 =>
 runP P (Builtin.append_ #[22, 22] 22 #[(SlV.val r_3), (SlV.val (SlV.mk (some (⟨b_4, 0, none⟩ : Addr)) 1 1))]) w_4 SlV.val fun r_5 w_5 =>
 loopP (SlV) r_5 w_5 fun next__6 _ s_7 w_6 =>
 cond' ((Int.tmod (s_7.len : Int) (64 : Int)) != (56 : Int)) (
 newP w_6 (.cells #[(.int .u8 (0 : Int))] 5) fun b_8 w_7 =>
 runP P (Builtin.append_ #[22, 22] 22 #[(SlV.val s_7), (SlV.val (SlV.mk (some (⟨b_8, 0, none⟩ : Addr)) 1 1))]) w_7 SlV.val fun r_9 w_8 =>
 next__6 r_9 w_8) (
 loopP (SlV × Int) (s_7, (7 : Int)) w_6 fun next__10 _ s_11 w_9 =>
 cond' (decide (s_11.2 ≥ (0 : Int))) (
 chkP (decide (0 ≤ (IntKind.u64.wrap (IntKind.i64.wrap ((8 : Int) * s_11.2))))) <|
 newP w_9 (.cells #[(.int .u8 (IntKind.u8.wrap (Int.fdiv (IntKind.u64.wrap (IntKind.i64.wrap ((8 : Int) * (m.len : Int)))) (2 ^ (min (Int.toNat (IntKind.u64.wrap (IntKind.i64.wrap ((8 : Int) * s_11.2)))) IntKind.u64.bits)))))] 5) fun b_12 w_10 =>
 runP P (Builtin.append_ #[22, 22] 22 #[(SlV.val s_11.1), (SlV.val (SlV.mk (some (⟨b_12, 0, none⟩ : Addr)) 1 1))]) w_10 SlV.val fun r_13 w_11 =>
 next__10 (r_13, (IntKind.i64.wrap (s_11.2 - (1 : Int)))) w_11) (
 newP w_9 (.cells ((arrV .u32) (List.replicate 8 0)).cells 91) fun b_14 w_12 =>
 storeP w_12 (⟨b_14, 0, none⟩ : Addr) 8 ((arrV .u32) ([(1779033703 : Int), (3144134277 : Int), (1013904242 : Int), (2773480762 : Int), (1359893119 : Int), (2600822924 : Int), (528734635 : Int), (1541459225 : Int)])) fun w_13 =>
 loopP (Int) (0 : Int) w_13 fun next__15 _ s_16 w_14 =>
 cond' (decide (s_16 < (s_11.1.len : Int))) (
 newP w_14 (.cells ((arrV .u32) (List.replicate 64 0)).cells 98) fun b_17 w_15 =>
 loopP (Int) (0 : Int) w_15 fun next__18 _ s_19 w_16 =>
 cond' (decide (s_19 < (64 : Int))) (
 cond' (decide (s_19 < (16 : Int))) (
 loopP (Int) (0 : Int) w_16 fun next__20 _ s_21 w_17 =>
 cond' (decide (s_21 < (4 : Int))) (
 chkP (inR s_19 64) <|
 loadP w_17.drew ((⟨b_17, 0, none⟩ : Addr).add (Int.toNat s_19 * 1)) 1 (Value.int .u32) fun v_22 =>
 chkP (inR (IntKind.i64.wrap ((IntKind.i64.wrap (s_16 + (IntKind.i64.wrap ((4 : Int) * s_19)))) + s_21)) s_11.1.len) <|
 nilP s_11.1.a fun a_23 =>
 loadP w_17.drew (a_23.add (Int.toNat (IntKind.i64.wrap ((IntKind.i64.wrap (s_16 + (IntKind.i64.wrap ((4 : Int) * s_19)))) + s_21)) * 1)) 1 (Value.int .u8) fun v_24 =>
 chkP (inR s_19 64) <|
 storeP w_17.drew ((⟨b_17, 0, none⟩ : Addr).add (Int.toNat s_19 * 1)) 1 (.int .u32 (IntKind.u32.wrap ((IntKind.u32.wrap ((256 : Int) * v_22)) + (IntKind.u32.wrap v_24)))) fun w_18 =>
 next__20 (IntKind.i64.wrap (s_21 + (1 : Int))) w_18) (
 next__18 (IntKind.i64.wrap (s_19 + (1 : Int))) w_17)) (
 chkP (inR (IntKind.i64.wrap (s_19 - (15 : Int))) 64) <|
 loadP w_16.drew ((⟨b_17, 0, none⟩ : Addr).add (Int.toNat (IntKind.i64.wrap (s_19 - (15 : Int))) * 1)) 1 (Value.int .u32) fun v_25 =>
 chkP (inR (IntKind.i64.wrap (s_19 - (15 : Int))) 64) <|
 loadP w_16.drew ((⟨b_17, 0, none⟩ : Addr).add (Int.toNat (IntKind.i64.wrap (s_19 - (15 : Int))) * 1)) 1 (Value.int .u32) fun v_26 =>
 chkP (inR (IntKind.i64.wrap (s_19 - (15 : Int))) 64) <|
 loadP w_16.drew ((⟨b_17, 0, none⟩ : Addr).add (Int.toNat (IntKind.i64.wrap (s_19 - (15 : Int))) * 1)) 1 (Value.int .u32) fun v_27 =>
 callP P 45 #[(.int .u32 v_25), (.int .u64 (7 : Int))] w_16.drew (Value.int .u32) fun r_28 w_19 =>
 Holds w_19 ((⟨b_17, 0, none⟩ : Addr).add (Int.toNat (IntKind.i64.wrap (s_19 - (15 : Int))) * 1)) 1 (.int .u32 v_27) ∧ (
 Holds w_19 ((⟨b_17, 0, none⟩ : Addr).add (Int.toNat (IntKind.i64.wrap (s_19 - (15 : Int))) * 1)) 1 (.int .u32 v_26) ∧ (
 callP P 45 #[(.int .u32 v_26), (.int .u64 (18 : Int))] w_19 (Value.int .u32) fun r_29 w_20 =>
 Holds w_20 ((⟨b_17, 0, none⟩ : Addr).add (Int.toNat (IntKind.i64.wrap (s_19 - (15 : Int))) * 1)) 1 (.int .u32 v_27) ∧ (
 chkP (inR (IntKind.i64.wrap (s_19 - (2 : Int))) 64) <|
 loadP w_20.drew ((⟨b_17, 0, none⟩ : Addr).add (Int.toNat (IntKind.i64.wrap (s_19 - (2 : Int))) * 1)) 1 (Value.int .u32) fun v_30 =>
 chkP (inR (IntKind.i64.wrap (s_19 - (2 : Int))) 64) <|
 loadP w_20.drew ((⟨b_17, 0, none⟩ : Addr).add (Int.toNat (IntKind.i64.wrap (s_19 - (2 : Int))) * 1)) 1 (Value.int .u32) fun v_31 =>
 chkP (inR (IntKind.i64.wrap (s_19 - (2 : Int))) 64) <|
 loadP w_20.drew ((⟨b_17, 0, none⟩ : Addr).add (Int.toNat (IntKind.i64.wrap (s_19 - (2 : Int))) * 1)) 1 (Value.int .u32) fun v_32 =>
 callP P 45 #[(.int .u32 v_30), (.int .u64 (17 : Int))] w_20.drew (Value.int .u32) fun r_33 w_21 =>
 Holds w_21 ((⟨b_17, 0, none⟩ : Addr).add (Int.toNat (IntKind.i64.wrap (s_19 - (2 : Int))) * 1)) 1 (.int .u32 v_32) ∧ (
 Holds w_21 ((⟨b_17, 0, none⟩ : Addr).add (Int.toNat (IntKind.i64.wrap (s_19 - (2 : Int))) * 1)) 1 (.int .u32 v_31) ∧ (
 callP P 45 #[(.int .u32 v_31), (.int .u64 (19 : Int))] w_21 (Value.int .u32) fun r_34 w_22 =>
 Holds w_22 ((⟨b_17, 0, none⟩ : Addr).add (Int.toNat (IntKind.i64.wrap (s_19 - (2 : Int))) * 1)) 1 (.int .u32 v_32) ∧ (
 chkP (inR (IntKind.i64.wrap (s_19 - (7 : Int))) 64) <|
 loadP w_22.drew ((⟨b_17, 0, none⟩ : Addr).add (Int.toNat (IntKind.i64.wrap (s_19 - (7 : Int))) * 1)) 1 (Value.int .u32) fun v_35 =>
 chkP (inR (IntKind.i64.wrap (s_19 - (16 : Int))) 64) <|
 loadP w_22.drew ((⟨b_17, 0, none⟩ : Addr).add (Int.toNat (IntKind.i64.wrap (s_19 - (16 : Int))) * 1)) 1 (Value.int .u32) fun v_36 =>
 chkP (inR s_19 64) <|
 storeP w_22.drew ((⟨b_17, 0, none⟩ : Addr).add (Int.toNat s_19 * 1)) 1 (.int .u32 (IntKind.u32.wrap ((IntKind.u32.wrap ((IntKind.u32.wrap ((bits .xor .u32 (bits .xor .u32 r_33 r_34) (Int.fdiv v_32 (2 ^ (min (Int.toNat (10 : Int)) IntKind.u32.bits)))) + v_35)) + (bits .xor .u32 (bits .xor .u32 r_28 r_29) (Int.fdiv v_27 (2 ^ (min (Int.toNat (3 : Int)) IntKind.u32.bits)))))) + v_36))) fun w_23 =>
 next__18 (IntKind.i64.wrap (s_19 + (1 : Int))) w_23)))))))) (
 loadP w_16 (⟨b_14, 0, none⟩ : Addr) 8 (arrV .u32) fun v_37 =>
 newP w_16 (.cells ((arrV .u32) (List.replicate 8 0)).cells 91) fun b_38 w_24 =>
 storeP w_24 (⟨b_38, 0, none⟩ : Addr) 8 ((arrV .u32) v_37) fun w_25 =>
 loopP (Int) (0 : Int) w_25 fun next__39 _ s_40 w_26 =>
 cond' (decide (s_40 < (64 : Int))) (
 loadP w_26 ((⟨b_38, 0, none⟩ : Addr).add (Int.toNat (4 : Int) * 1)) 1 (Value.int .u32) fun v_41 =>
 loadP w_26 ((⟨b_38, 0, none⟩ : Addr).add (Int.toNat (5 : Int) * 1)) 1 (Value.int .u32) fun v_42 =>
 loadP w_26 ((⟨b_38, 0, none⟩ : Addr).add (Int.toNat (4 : Int) * 1)) 1 (Value.int .u32) fun v_43 =>
 loadP w_26 ((⟨b_38, 0, none⟩ : Addr).add (Int.toNat (6 : Int) * 1)) 1 (Value.int .u32) fun v_44 =>
 loadP w_26 ((⟨b_38, 0, none⟩ : Addr).add (Int.toNat (0 : Int) * 1)) 1 (Value.int .u32) fun v_45 =>
 loadP w_26 ((⟨b_38, 0, none⟩ : Addr).add (Int.toNat (1 : Int) * 1)) 1 (Value.int .u32) fun v_46 =>
 loadP w_26 ((⟨b_38, 0, none⟩ : Addr).add (Int.toNat (0 : Int) * 1)) 1 (Value.int .u32) fun v_47 =>
 loadP w_26 ((⟨b_38, 0, none⟩ : Addr).add (Int.toNat (2 : Int) * 1)) 1 (Value.int .u32) fun v_48 =>
 loadP w_26 ((⟨b_38, 0, none⟩ : Addr).add (Int.toNat (1 : Int) * 1)) 1 (Value.int .u32) fun v_49 =>
 loadP w_26 ((⟨b_38, 0, none⟩ : Addr).add (Int.toNat (2 : Int) * 1)) 1 (Value.int .u32) fun v_50 =>
 loadP w_26.drew ((⟨b_38, 0, none⟩ : Addr).add (Int.toNat (7 : Int) * 1)) 1 (Value.int .u32) fun v_51 =>
 loadP w_26.drew ((⟨b_38, 0, none⟩ : Addr).add (Int.toNat (4 : Int) * 1)) 1 (Value.int .u32) fun v_52 =>
 loadP w_26.drew ((⟨b_38, 0, none⟩ : Addr).add (Int.toNat (4 : Int) * 1)) 1 (Value.int .u32) fun v_53 =>
 loadP w_26.drew ((⟨b_38, 0, none⟩ : Addr).add (Int.toNat (4 : Int) * 1)) 1 (Value.int .u32) fun v_54 =>
 chkP (inR s_40 64) <|
 loadP w_26.drew ((⟨b_17, 0, none⟩ : Addr).add (Int.toNat s_40 * 1)) 1 (Value.int .u32) fun v_55 =>
 callP P 45 #[(.int .u32 v_52), (.int .u64 (6 : Int))] w_26.drew (Value.int .u32) fun r_56 w_27 =>
 Holds w_27 ((⟨b_17, 0, none⟩ : Addr).add (Int.toNat s_40 * 1)) 1 (.int .u32 v_55) ∧ (
 Holds w_27 ((⟨b_38, 0, none⟩ : Addr).add (Int.toNat (4 : Int) * 1)) 1 (.int .u32 v_54) ∧ (
 Holds w_27 ((⟨b_38, 0, none⟩ : Addr).add (Int.toNat (4 : Int) * 1)) 1 (.int .u32 v_53) ∧ (
 Holds w_27 ((⟨b_38, 0, none⟩ : Addr).add (Int.toNat (7 : Int) * 1)) 1 (.int .u32 v_51) ∧ (
 callP P 45 #[(.int .u32 v_53), (.int .u64 (11 : Int))] w_27 (Value.int .u32) fun r_57 w_28 =>
 Holds w_28 ((⟨b_38, 0, none⟩ : Addr).add (Int.toNat (7 : Int) * 1)) 1 (.int .u32 v_51) ∧ (
 Holds w_28 ((⟨b_38, 0, none⟩ : Addr).add (Int.toNat (4 : Int) * 1)) 1 (.int .u32 v_54) ∧ (
 Holds w_28 ((⟨b_17, 0, none⟩ : Addr).add (Int.toNat s_40 * 1)) 1 (.int .u32 v_55) ∧ (
 callP P 45 #[(.int .u32 v_54), (.int .u64 (25 : Int))] w_28 (Value.int .u32) fun r_58 w_29 =>
 Holds w_29 ((⟨b_17, 0, none⟩ : Addr).add (Int.toNat s_40 * 1)) 1 (.int .u32 v_55) ∧ (
 Holds w_29 ((⟨b_38, 0, none⟩ : Addr).add (Int.toNat (7 : Int) * 1)) 1 (.int .u32 v_51) ∧ (
 callP P 46 #[(.int .i64 s_40)] w_29 (Value.int .u32) fun r_59 w_30 =>
 Holds w_30 ((⟨b_38, 0, none⟩ : Addr).add (Int.toNat (7 : Int) * 1)) 1 (.int .u32 v_51) ∧ (
 Holds w_30 ((⟨b_17, 0, none⟩ : Addr).add (Int.toNat s_40 * 1)) 1 (.int .u32 v_55) ∧ (
 loadP w_30.drew ((⟨b_38, 0, none⟩ : Addr).add (Int.toNat (0 : Int) * 1)) 1 (Value.int .u32) fun v_60 =>
 loadP w_30.drew ((⟨b_38, 0, none⟩ : Addr).add (Int.toNat (0 : Int) * 1)) 1 (Value.int .u32) fun v_61 =>
 loadP w_30.drew ((⟨b_38, 0, none⟩ : Addr).add (Int.toNat (0 : Int) * 1)) 1 (Value.int .u32) fun v_62 =>
 callP P 45 #[(.int .u32 v_60), (.int .u64 (2 : Int))] w_30.drew (Value.int .u32) fun r_63 w_31 =>
 Holds w_31 ((⟨b_38, 0, none⟩ : Addr).add (Int.toNat (0 : Int) * 1)) 1 (.int .u32 v_62) ∧ (
 Holds w_31 ((⟨b_38, 0, none⟩ : Addr).add (Int.toNat (0 : Int) * 1)) 1 (.int .u32 v_61) ∧ (
 callP P 45 #[(.int .u32 v_61), (.int .u64 (13 : Int))] w_31 (Value.int .u32) fun r_64 w_32 =>
 Holds w_32 ((⟨b_38, 0, none⟩ : Addr).add (Int.toNat (0 : Int) * 1)) 1 (.int .u32 v_62) ∧ (
 callP P 45 #[(.int .u32 v_62), (.int .u64 (22 : Int))] w_32 (Value.int .u32) fun r_65 w_33 =>
 loadP w_33 ((⟨b_38, 0, none⟩ : Addr).add (Int.toNat (0 : Int) * 1)) 1 (Value.int .u32) fun v_66 =>
 loadP w_33 ((⟨b_38, 0, none⟩ : Addr).add (Int.toNat (1 : Int) * 1)) 1 (Value.int .u32) fun v_67 =>
 loadP w_33 ((⟨b_38, 0, none⟩ : Addr).add (Int.toNat (2 : Int) * 1)) 1 (Value.int .u32) fun v_68 =>
 loadP w_33 ((⟨b_38, 0, none⟩ : Addr).add (Int.toNat (3 : Int) * 1)) 1 (Value.int .u32) fun v_69 =>
 loadP w_33 ((⟨b_38, 0, none⟩ : Addr).add (Int.toNat (4 : Int) * 1)) 1 (Value.int .u32) fun v_70 =>
 loadP w_33 ((⟨b_38, 0, none⟩ : Addr).add (Int.toNat (5 : Int) * 1)) 1 (Value.int .u32) fun v_71 =>
 loadP w_33 ((⟨b_38, 0, none⟩ : Addr).add (Int.toNat (6 : Int) * 1)) 1 (Value.int .u32) fun v_72 =>
 storeP w_33 (⟨b_38, 0, none⟩ : Addr) 8 ((arrV .u32) ([(IntKind.u32.wrap ((IntKind.u32.wrap ((IntKind.u32.wrap ((IntKind.u32.wrap ((IntKind.u32.wrap (v_51 + (bits .xor .u32 (bits .xor .u32 r_56 r_57) r_58))) + (bits .or .u32 (bits .and .u32 v_41 v_42) (bits .and .u32 (IntKind.u32.wrap ((4294967295 : Int) - v_43)) v_44)))) + r_59)) + v_55)) + (IntKind.u32.wrap ((bits .xor .u32 (bits .xor .u32 r_63 r_64) r_65) + (bits .or .u32 (bits .or .u32 (bits .and .u32 v_45 v_46) (bits .and .u32 v_47 v_48)) (bits .and .u32 v_49 v_50)))))), v_66, v_67, v_68, (IntKind.u32.wrap (v_69 + (IntKind.u32.wrap ((IntKind.u32.wrap ((IntKind.u32.wrap ((IntKind.u32.wrap (v_51 + (bits .xor .u32 (bits .xor .u32 r_56 r_57) r_58))) + (bits .or .u32 (bits .and .u32 v_41 v_42) (bits .and .u32 (IntKind.u32.wrap ((4294967295 : Int) - v_43)) v_44)))) + r_59)) + v_55)))), v_70, v_71, v_72])) fun w_34 =>
 next__39 (IntKind.i64.wrap (s_40 + (1 : Int))) w_34))))))))))))))) (
 loopP (Int) (0 : Int) w_26 fun next__73 _ s_74 w_35 =>
 cond' (decide (s_74 < (8 : Int))) (
 chkP (inR s_74 8) <|
 loadP w_35.drew ((⟨b_14, 0, none⟩ : Addr).add (Int.toNat s_74 * 1)) 1 (Value.int .u32) fun v_75 =>
 chkP (inR s_74 8) <|
 loadP w_35.drew ((⟨b_38, 0, none⟩ : Addr).add (Int.toNat s_74 * 1)) 1 (Value.int .u32) fun v_76 =>
 chkP (inR s_74 8) <|
 storeP w_35.drew ((⟨b_14, 0, none⟩ : Addr).add (Int.toNat s_74 * 1)) 1 (.int .u32 (IntKind.u32.wrap (v_75 + v_76))) fun w_36 =>
 next__73 (IntKind.i64.wrap (s_74 + (1 : Int))) w_36) (
 next__15 (IntKind.i64.wrap (s_16 + (64 : Int))) w_35)))) (
 newP w_14 (.cells ((arrV .u8) (List.replicate 32 0)).cells 25) fun b_77 w_37 =>
 loopP (Int) (0 : Int) w_37 fun next__78 _ s_79 w_38 =>
 cond' (decide (s_79 < (32 : Int))) (
 chkP (inR (IntKind.i64.wrap (Int.tdiv s_79 (4 : Int))) 8) <|
 loadP w_38 ((⟨b_14, 0, none⟩ : Addr).add (Int.toNat (IntKind.i64.wrap (Int.tdiv s_79 (4 : Int))) * 1)) 1 (Value.int .u32) fun v_80 =>
 chkP (decide (0 ≤ (IntKind.u64.wrap (IntKind.i64.wrap ((24 : Int) - (IntKind.i64.wrap ((8 : Int) * (Int.tmod s_79 (4 : Int))))))))) <|
 chkP (inR s_79 32) <|
 storeP w_38 ((⟨b_77, 0, none⟩ : Addr).add (Int.toNat s_79 * 1)) 1 (.int .u8 (IntKind.u8.wrap (Int.fdiv v_80 (2 ^ (min (Int.toNat (IntKind.u64.wrap (IntKind.i64.wrap ((24 : Int) - (IntKind.i64.wrap ((8 : Int) * (Int.tmod s_79 (4 : Int)))))))) IntKind.u32.bits))))) fun w_39 =>
 next__78 (IntKind.i64.wrap (s_79 + (1 : Int))) w_39) (
 loadP w_38 (⟨b_77, 0, none⟩ : Addr) 32 (arrV .u8) fun v_81 =>
 storeP w_38 (⟨b_1, 0, none⟩ : Addr) 32 ((arrV .u8) v_81) fun w_40 =>
 loadP w_40 (⟨b_1, 0, none⟩ : Addr) 32 (arrV .u8) fun v_82 =>
 unArrP .u8 ((arrV .u8) v_82) fun z_83 =>
 R z_83 w_40))))
def an19 : Ann := mkAnn [(3, [(3, shSl)]), (6, [(3, shSl), (4, (shInt .i64))]), (11, [(6, (shInt .i64))]), (15, [(8, (shInt .i64))]), (19, [(9, (shInt .i64))]), (27, [(13, (shInt .i64))]), (35, [(18, (shInt .i64))]), (40, [(20, (shInt .i64))])] []
theorem sf19_eq (m : SlV) (w0 : World) (R : (List Int) → World → Prop) : sf19 m w0 R = vcFn P sh an19 Try.f19 [(SlV.val m)] (shArr .u8) w0 R := by kernel_rfl
theorem nm19 : (Try.f19.name == "runtime.NumGoroutine") = false := by kernel_rfl
theorem sf19_call (m : SlV) (w0 : World) (R : (List Int) → World → Prop) (hsf : sf19 m w0 R) : callP P 19 #[(SlV.val m)] w0 (shArr .u8).val R :=
  vcFn_sound mixed Try.func19 nm19 (Eq.mp (sf19_eq m w0 R) hsf)

/-- flume/mac.Same -/
def sf20 (a : List Int) (b : List Int) (w0 : World) (R : Bool → World → Prop) : Prop :=
 newP w0 (.cells ((arrV .u8) a).cells 25) fun b_1 w_1 =>
 newP w_1 (.cells ((arrV .u8) b).cells 25) fun b_2 w_2 =>
 loadP w_2 (⟨b_1, 0, none⟩ : Addr) 32 (arrV .u8) fun v_3 =>
 loadP w_2 (⟨b_2, 0, none⟩ : Addr) 32 (arrV .u8) fun v_4 =>
 eqArrP 32 .u8 ((arrV .u8) v_3) ((arrV .u8) v_4) fun b_5 =>
 R (negB false b_5) w_2
def an20 : Ann := mkAnn [] []
theorem sf20_eq (a : List Int) (b : List Int) (w0 : World) (R : Bool → World → Prop) : sf20 a b w0 R = vcFn P sh an20 Try.f20 [((arrV .u8) a), ((arrV .u8) b)] shBool w0 R := by kernel_rfl
theorem nm20 : (Try.f20.name == "runtime.NumGoroutine") = false := by kernel_rfl
theorem sf20_call (a : List Int) (b : List Int) (w0 : World) (R : Bool → World → Prop) (hsf : sf20 a b w0 R) : callP P 20 #[((arrV .u8) a), ((arrV .u8) b)] w0 shBool.val R :=
  vcFn_sound mixed Try.func20 nm20 (Eq.mp (sf20_eq a b w0 R) hsf)

/-- slices.Clone[[]byte,byte] -/
def sf38 (s : SlV) (w0 : World) (R : SlV → World → Prop) : Prop :=
 cond' (negB false s.a.isNone) (
 R SlV.nil w0) (
 newP w0 (.cells #[] 5) fun b_1 w_1 =>
 runP P (Builtin.append_ #[22, 22] 22 #[(SlV.val (SlV.mk (some (⟨b_1, 0, none⟩ : Addr)) 0 0)), (SlV.val s)]) w_1 SlV.val fun r_2 w_2 =>
 R r_2 w_2)
def an38 : Ann := mkAnn [] []
theorem sf38_eq (s : SlV) (w0 : World) (R : SlV → World → Prop) : sf38 s w0 R = vcFn P sh an38 Try.f38 [(SlV.val s)] shSl w0 R := by kernel_rfl
theorem nm38 : (Try.f38.name == "runtime.NumGoroutine") = false := by kernel_rfl
theorem sf38_call (s : SlV) (w0 : World) (R : SlV → World → Prop) (hsf : sf38 s w0 R) : callP P 38 #[(SlV.val s)] w0 shSl.val R :=
  vcFn_sound mixed Try.func38 nm38 (Eq.mp (sf38_eq s w0 R) hsf)

/-- flume/mac.Seal$1 -/
def sf39 (by_ : Int) (c1 : Addr) (w0 : World) (R : SlV → World → Prop) : Prop :=
 loadP w0 c1 1 SlV.val fun v_1 =>
 callP P 38 #[(SlV.val v_1)] w0 SlV.val fun r_2 w_1 =>
 loopP (Int) (0 : Int) w_1 fun next__3 _ s_4 w_2 =>
 cond' (decide (s_4 < (r_2.len : Int))) (
 chkP (inR s_4 r_2.len) <|
 nilP r_2.a fun a_5 =>
 loadP w_2 (a_5.add (Int.toNat s_4 * 1)) 1 (Value.int .u8) fun v_6 =>
 chkP (inR s_4 r_2.len) <|
 nilP r_2.a fun a_7 =>
 storeP w_2 (a_7.add (Int.toNat s_4 * 1)) 1 (.int .u8 (bits .xor .u8 v_6 by_)) fun w_3 =>
 next__3 (IntKind.i64.wrap (s_4 + (1 : Int))) w_3) (
 R r_2 w_2)
def an39 : Ann := mkAnn [(3, [(10, (shInt .i64))])] []
theorem sf39_eq (by_ : Int) (c1 : Addr) (w0 : World) (R : SlV → World → Prop) : sf39 by_ c1 w0 R = vcFn P sh an39 Try.f39 [(.int .u8 by_), (.pointer (some c1))] shSl w0 R := by kernel_rfl
theorem nm39 : (Try.f39.name == "runtime.NumGoroutine") = false := by kernel_rfl
theorem sf39_call (by_ : Int) (c1 : Addr) (w0 : World) (R : SlV → World → Prop) (hsf : sf39 by_ c1 w0 R) : callP P 39 #[(.int .u8 by_), (.pointer (some c1))] w0 shSl.val R :=
  vcFn_sound mixed Try.func39 nm39 (Eq.mp (sf39_eq by_ c1 w0 R) hsf)

/-- slices.Insert[[][]byte,[]byte] -/
def sf40 (s : SlV) (i : Int) (v : SlV) (w0 : World) (R : SlV → World → Prop) : Prop :=
 chkP (leR (s.len : Int) (s.cap : Int)) <|
 chkP (leR i (s.len : Int)) <|
 cond' ((v.len : Int) == (0 : Int)) (
 R s w0) (
 cond' (i == (s.len : Int)) (
 runP P (Builtin.append_ #[85, 85] 85 #[(SlV.val s), (SlV.val v)]) w0 SlV.val fun r_1 w_1 =>
 R r_1 w_1) (
 cond' (decide ((IntKind.i64.wrap ((s.len : Int) + (v.len : Int))) > (s.cap : Int))) (
 chkP (leR i (s.cap : Int)) <|
 chkP (leR 0 i) <|
 runP P (Builtin.append_ #[85, 3] 85 #[(SlV.val (SlV.sub s (0) (Int.toNat i) s.cap 1)), (.int .i64 (IntKind.i64.wrap ((IntKind.i64.wrap ((s.len : Int) + (v.len : Int))) - i)))]) w0 SlV.val fun r_2 w_2 =>
 chkP (leR (r_2.len : Int) (r_2.cap : Int)) <|
 chkP (leR i (r_2.len : Int)) <|
 runP P (Builtin.copy_ #[85, 85] 3 #[(SlV.val (SlV.sub r_2 (Int.toNat i) (r_2.len) r_2.cap 1)), (SlV.val v)]) w_2 (Value.int .i64) fun r_3 w_3 =>
 chkP (leR (r_2.len : Int) (r_2.cap : Int)) <|
 chkP (leR (IntKind.i64.wrap (i + (v.len : Int))) (r_2.len : Int)) <|
 chkP (leR (s.len : Int) (s.cap : Int)) <|
 chkP (leR i (s.len : Int)) <|
 runP P (Builtin.copy_ #[85, 85] 3 #[(SlV.val (SlV.sub r_2 (Int.toNat (IntKind.i64.wrap (i + (v.len : Int)))) (r_2.len) r_2.cap 1)), (SlV.val (SlV.sub s (Int.toNat i) (s.len) s.cap 1))]) w_3.drew (Value.int .i64) fun r_4 w_4 =>
 R r_2 w_4) (
 chkP (leR (IntKind.i64.wrap ((s.len : Int) + (v.len : Int))) (s.cap : Int)) <|
 chkP (leR 0 (IntKind.i64.wrap ((s.len : Int) + (v.len : Int)))) <|
 chkP (leR ((SlV.sub s (0) (Int.toNat (IntKind.i64.wrap ((s.len : Int) + (v.len : Int)))) s.cap 1).len : Int) ((SlV.sub s (0) (Int.toNat (IntKind.i64.wrap ((s.len : Int) + (v.len : Int)))) s.cap 1).cap : Int)) <|
 chkP (leR (IntKind.i64.wrap (i + (v.len : Int))) ((SlV.sub s (0) (Int.toNat (IntKind.i64.wrap ((s.len : Int) + (v.len : Int)))) s.cap 1).len : Int)) <|
 callP P 68 #[(SlV.val v), (SlV.val (SlV.sub (SlV.sub s (0) (Int.toNat (IntKind.i64.wrap ((s.len : Int) + (v.len : Int)))) s.cap 1) (Int.toNat (IntKind.i64.wrap (i + (v.len : Int)))) ((SlV.sub s (0) (Int.toNat (IntKind.i64.wrap ((s.len : Int) + (v.len : Int)))) s.cap 1).len) ((SlV.sub s (0) (Int.toNat (IntKind.i64.wrap ((s.len : Int) + (v.len : Int)))) s.cap 1).cap) 1))] w0 Value.bool fun r_5 w_5 =>
 cond' (!r_5) (
 chkP (leR ((SlV.sub s (0) (Int.toNat (IntKind.i64.wrap ((s.len : Int) + (v.len : Int)))) s.cap 1).len : Int) ((SlV.sub s (0) (Int.toNat (IntKind.i64.wrap ((s.len : Int) + (v.len : Int)))) s.cap 1).cap : Int)) <|
 chkP (leR (IntKind.i64.wrap (i + (v.len : Int))) ((SlV.sub s (0) (Int.toNat (IntKind.i64.wrap ((s.len : Int) + (v.len : Int)))) s.cap 1).len : Int)) <|
 chkP (leR ((SlV.sub s (0) (Int.toNat (IntKind.i64.wrap ((s.len : Int) + (v.len : Int)))) s.cap 1).len : Int) ((SlV.sub s (0) (Int.toNat (IntKind.i64.wrap ((s.len : Int) + (v.len : Int)))) s.cap 1).cap : Int)) <|
 chkP (leR i ((SlV.sub s (0) (Int.toNat (IntKind.i64.wrap ((s.len : Int) + (v.len : Int)))) s.cap 1).len : Int)) <|
 runP P (Builtin.copy_ #[85, 85] 3 #[(SlV.val (SlV.sub (SlV.sub s (0) (Int.toNat (IntKind.i64.wrap ((s.len : Int) + (v.len : Int)))) s.cap 1) (Int.toNat (IntKind.i64.wrap (i + (v.len : Int)))) ((SlV.sub s (0) (Int.toNat (IntKind.i64.wrap ((s.len : Int) + (v.len : Int)))) s.cap 1).len) ((SlV.sub s (0) (Int.toNat (IntKind.i64.wrap ((s.len : Int) + (v.len : Int)))) s.cap 1).cap) 1)), (SlV.val (SlV.sub (SlV.sub s (0) (Int.toNat (IntKind.i64.wrap ((s.len : Int) + (v.len : Int)))) s.cap 1) (Int.toNat i) ((SlV.sub s (0) (Int.toNat (IntKind.i64.wrap ((s.len : Int) + (v.len : Int)))) s.cap 1).len) ((SlV.sub s (0) (Int.toNat (IntKind.i64.wrap ((s.len : Int) + (v.len : Int)))) s.cap 1).cap) 1))]) w_5.drew (Value.int .i64) fun r_6 w_6 =>
 chkP (leR ((SlV.sub s (0) (Int.toNat (IntKind.i64.wrap ((s.len : Int) + (v.len : Int)))) s.cap 1).len : Int) ((SlV.sub s (0) (Int.toNat (IntKind.i64.wrap ((s.len : Int) + (v.len : Int)))) s.cap 1).cap : Int)) <|
 chkP (leR i ((SlV.sub s (0) (Int.toNat (IntKind.i64.wrap ((s.len : Int) + (v.len : Int)))) s.cap 1).len : Int)) <|
 runP P (Builtin.copy_ #[85, 85] 3 #[(SlV.val (SlV.sub (SlV.sub s (0) (Int.toNat (IntKind.i64.wrap ((s.len : Int) + (v.len : Int)))) s.cap 1) (Int.toNat i) ((SlV.sub s (0) (Int.toNat (IntKind.i64.wrap ((s.len : Int) + (v.len : Int)))) s.cap 1).len) ((SlV.sub s (0) (Int.toNat (IntKind.i64.wrap ((s.len : Int) + (v.len : Int)))) s.cap 1).cap) 1)), (SlV.val v)]) w_6 (Value.int .i64) fun r_7 w_7 =>
 R (SlV.sub s (0) (Int.toNat (IntKind.i64.wrap ((s.len : Int) + (v.len : Int)))) s.cap 1) w_7) (
 chkP (leR ((SlV.sub s (0) (Int.toNat (IntKind.i64.wrap ((s.len : Int) + (v.len : Int)))) s.cap 1).len : Int) ((SlV.sub s (0) (Int.toNat (IntKind.i64.wrap ((s.len : Int) + (v.len : Int)))) s.cap 1).cap : Int)) <|
 chkP (leR (s.len : Int) ((SlV.sub s (0) (Int.toNat (IntKind.i64.wrap ((s.len : Int) + (v.len : Int)))) s.cap 1).len : Int)) <|
 runP P (Builtin.copy_ #[85, 85] 3 #[(SlV.val (SlV.sub (SlV.sub s (0) (Int.toNat (IntKind.i64.wrap ((s.len : Int) + (v.len : Int)))) s.cap 1) (Int.toNat (s.len : Int)) ((SlV.sub s (0) (Int.toNat (IntKind.i64.wrap ((s.len : Int) + (v.len : Int)))) s.cap 1).len) ((SlV.sub s (0) (Int.toNat (IntKind.i64.wrap ((s.len : Int) + (v.len : Int)))) s.cap 1).cap) 1)), (SlV.val v)]) w_5 (Value.int .i64) fun r_8 w_8 =>
 chkP (leR ((SlV.sub s (0) (Int.toNat (IntKind.i64.wrap ((s.len : Int) + (v.len : Int)))) s.cap 1).len : Int) ((SlV.sub s (0) (Int.toNat (IntKind.i64.wrap ((s.len : Int) + (v.len : Int)))) s.cap 1).cap : Int)) <|
 chkP (leR i ((SlV.sub s (0) (Int.toNat (IntKind.i64.wrap ((s.len : Int) + (v.len : Int)))) s.cap 1).len : Int)) <|
 callP P 69 #[(SlV.val (SlV.sub (SlV.sub s (0) (Int.toNat (IntKind.i64.wrap ((s.len : Int) + (v.len : Int)))) s.cap 1) (Int.toNat i) ((SlV.sub s (0) (Int.toNat (IntKind.i64.wrap ((s.len : Int) + (v.len : Int)))) s.cap 1).len) ((SlV.sub s (0) (Int.toNat (IntKind.i64.wrap ((s.len : Int) + (v.len : Int)))) s.cap 1).cap) 1)), (.int .i64 (v.len : Int))] w_8 unitV fun r_9 w_9 =>
 R (SlV.sub s (0) (Int.toNat (IntKind.i64.wrap ((s.len : Int) + (v.len : Int)))) s.cap 1) w_9))))
def an40 : Ann := mkAnn [] []
theorem sf40_eq (s : SlV) (i : Int) (v : SlV) (w0 : World) (R : SlV → World → Prop) : sf40 s i v w0 R = vcFn P sh an40 Try.f40 [(SlV.val s), (.int .i64 i), (SlV.val v)] shSl w0 R := by kernel_rfl
theorem nm40 : (Try.f40.name == "runtime.NumGoroutine") = false := by kernel_rfl
theorem sf40_call (s : SlV) (i : Int) (v : SlV) (w0 : World) (R : SlV → World → Prop) (hsf : sf40 s i v w0 R) : callP P 40 #[(SlV.val s), (.int .i64 i), (SlV.val v)] w0 shSl.val R :=
  vcFn_sound mixed Try.func40 nm40 (Eq.mp (sf40_eq s i v w0 R) hsf)

/-- slices.Clone[[][]byte,[]byte] -/
def sf41 (s : SlV) (w0 : World) (R : SlV → World → Prop) : Prop :=
 cond' (negB false s.a.isNone) (
 R SlV.nil w0) (
 newP w0 (.cells #[] 22) fun b_1 w_1 =>
 runP P (Builtin.append_ #[85, 85] 85 #[(SlV.val (SlV.mk (some (⟨b_1, 0, none⟩ : Addr)) 0 0)), (SlV.val s)]) w_1 SlV.val fun r_2 w_2 =>
 R r_2 w_2)
def an41 : Ann := mkAnn [] []
theorem sf41_eq (s : SlV) (w0 : World) (R : SlV → World → Prop) : sf41 s w0 R = vcFn P sh an41 Try.f41 [(SlV.val s)] shSl w0 R := by kernel_rfl
theorem nm41 : (Try.f41.name == "runtime.NumGoroutine") = false := by kernel_rfl
theorem sf41_call (s : SlV) (w0 : World) (R : SlV → World → Prop) (hsf : sf41 s w0 R) : callP P 41 #[(SlV.val s)] w0 shSl.val R :=
  vcFn_sound mixed Try.func41 nm41 (Eq.mp (sf41_eq s w0 R) hsf)

/-- slices.Concat[[]byte,byte] -/
def sf42 (slices : SlV) (w0 : World) (R : SlV → World → Prop) : Prop :=
 loopP (Int × Int) ((0 : Int), (0 : Int)) w0 fun next__1 _ s_2 w_1 =>
 cond' (decide (s_2.2 < (slices.len : Int))) (
 chkP (inR s_2.2 slices.len) <|
 nilP slices.a fun a_3 =>
 loadP w_1 (a_3.add (Int.toNat s_2.2 * 1)) 1 SlV.val fun v_4 =>
 cond' (decide ((IntKind.i64.wrap (s_2.1 + (v_4.len : Int))) < (0 : Int))) (
 False) (
 next__1 ((IntKind.i64.wrap (s_2.1 + (v_4.len : Int))), (IntKind.i64.wrap (s_2.2 + (1 : Int)))) w_1)) (
 callP P 70 #[(SlV.val SlV.nil), (.int .i64 s_2.1)] w_1 SlV.val fun r_5 w_2 =>
 loopP (SlV × Int) (r_5, (0 : Int)) w_2 fun next__6 _ s_7 w_3 =>
 cond' (decide (s_7.2 < (slices.len : Int))) (
 chkP (inR s_7.2 slices.len) <|
 nilP slices.a fun a_8 =>
 loadP w_3 (a_8.add (Int.toNat s_7.2 * 1)) 1 SlV.val fun v_9 =>
 runP P (Builtin.append_ #[22, 22] 22 #[(SlV.val s_7.1), (SlV.val v_9)]) w_3 SlV.val fun r_10 w_4 =>
 next__6 (r_10, (IntKind.i64.wrap (s_7.2 + (1 : Int)))) w_4) (
 R s_7.1 w_3))
def an42 : Ann := mkAnn [(3, [(3, (shInt .i64)), (11, (shInt .i64))]), (11, [(6, shSl), (27, (shInt .i64))])] []
theorem sf42_eq (slices : SlV) (w0 : World) (R : SlV → World → Prop) : sf42 slices w0 R = vcFn P sh an42 Try.f42 [(SlV.val slices)] shSl w0 R := by kernel_rfl
theorem nm42 : (Try.f42.name == "runtime.NumGoroutine") = false := by kernel_rfl
theorem sf42_call (slices : SlV) (w0 : World) (R : SlV → World → Prop) (hsf : sf42 slices w0 R) : callP P 42 #[(SlV.val slices)] w0 shSl.val R :=
  vcFn_sound mixed Try.func42 nm42 (Eq.mp (sf42_eq slices w0 R) hsf)

/-- slices.Chunk[[]byte,byte] -/
def sf43 (s : SlV) (n : Int) (w0 : World) (R : FnV → World → Prop) : Prop :=
 newP w0 (.cells #[(SlV.val s)] 22) fun b_1 w_1 =>
 newP w_1 (.cells #[(.int .i64 n)] 3) fun b_2 w_2 =>
 loadP w_2 (⟨b_2, 0, none⟩ : Addr) 1 (Value.int .i64) fun v_3 =>
 cond' (decide (v_3 < (1 : Int))) (
 False) (
 R (FnV.mk 71 #[] #[(.pointer (some (⟨b_1, 0, none⟩ : Addr))), (.pointer (some (⟨b_2, 0, none⟩ : Addr)))]) w_2)
def an43 : Ann := mkAnn [] []
theorem sf43_eq (s : SlV) (n : Int) (w0 : World) (R : FnV → World → Prop) : sf43 s n w0 R = vcFn P sh an43 Try.f43 [(SlV.val s), (.int .i64 n)] shFn w0 R := by kernel_rfl
theorem nm43 : (Try.f43.name == "runtime.NumGoroutine") = false := by kernel_rfl
theorem sf43_call (s : SlV) (n : Int) (w0 : World) (R : FnV → World → Prop) (hsf : sf43 s n w0 R) : callP P 43 #[(SlV.val s), (.int .i64 n)] w0 shFn.val R :=
  vcFn_sound mixed Try.func43 nm43 (Eq.mp (sf43_eq s n w0 R) hsf)

/-- (*flume/mac.state).block -/
def sf44 (s : Addr) (b : SlV) (w0 : World) (R : Unit → World → Prop) : Prop :=
 newP w0 (.cells ((arrV .u32) (List.replicate 64 0)).cells 98) fun b_1 w_1 =>
 loopP (Int) (0 : Int) w_1 fun next__2 _ s_3 w_2 =>
 cond' (decide (s_3 < (16 : Int))) (
 chkP (inR (IntKind.i64.wrap ((4 : Int) * s_3)) b.len) <|
 nilP b.a fun a_4 =>
 loadP w_2.drew (a_4.add (Int.toNat (IntKind.i64.wrap ((4 : Int) * s_3)) * 1)) 1 (Value.int .u8) fun v_5 =>
 chkP (inR (IntKind.i64.wrap ((IntKind.i64.wrap ((4 : Int) * s_3)) + (1 : Int))) b.len) <|
 nilP b.a fun a_6 =>
 loadP w_2.drew (a_6.add (Int.toNat (IntKind.i64.wrap ((IntKind.i64.wrap ((4 : Int) * s_3)) + (1 : Int))) * 1)) 1 (Value.int .u8) fun v_7 =>
 chkP (inR (IntKind.i64.wrap ((IntKind.i64.wrap ((4 : Int) * s_3)) + (2 : Int))) b.len) <|
 nilP b.a fun a_8 =>
 loadP w_2.drew (a_8.add (Int.toNat (IntKind.i64.wrap ((IntKind.i64.wrap ((4 : Int) * s_3)) + (2 : Int))) * 1)) 1 (Value.int .u8) fun v_9 =>
 chkP (inR (IntKind.i64.wrap ((IntKind.i64.wrap ((4 : Int) * s_3)) + (3 : Int))) b.len) <|
 nilP b.a fun a_10 =>
 loadP w_2.drew (a_10.add (Int.toNat (IntKind.i64.wrap ((IntKind.i64.wrap ((4 : Int) * s_3)) + (3 : Int))) * 1)) 1 (Value.int .u8) fun v_11 =>
 chkP (inR s_3 64) <|
 storeP w_2.drew ((⟨b_1, 0, none⟩ : Addr).add (Int.toNat s_3 * 1)) 1 (.int .u32 (bits .or .u32 (bits .or .u32 (bits .or .u32 (IntKind.u32.wrap ((IntKind.u32.wrap v_5) * 2 ^ (min (Int.toNat (24 : Int)) IntKind.u32.bits))) (IntKind.u32.wrap ((IntKind.u32.wrap v_7) * 2 ^ (min (Int.toNat (16 : Int)) IntKind.u32.bits)))) (IntKind.u32.wrap ((IntKind.u32.wrap v_9) * 2 ^ (min (Int.toNat (8 : Int)) IntKind.u32.bits)))) (IntKind.u32.wrap v_11))) fun w_3 =>
 next__2 (IntKind.i64.wrap (s_3 + (1 : Int))) w_3) (
 loopP (Int) (16 : Int) w_2 fun next__12 _ s_13 w_4 =>
 cond' (decide (s_13 < (64 : Int))) (
 chkP (inR (IntKind.i64.wrap (s_13 - (2 : Int))) 64) <|
 loadP w_4.drew ((⟨b_1, 0, none⟩ : Addr).add (Int.toNat (IntKind.i64.wrap (s_13 - (2 : Int))) * 1)) 1 (Value.int .u32) fun v_14 =>
 chkP (inR (IntKind.i64.wrap (s_13 - (15 : Int))) 64) <|
 loadP w_4.drew ((⟨b_1, 0, none⟩ : Addr).add (Int.toNat (IntKind.i64.wrap (s_13 - (15 : Int))) * 1)) 1 (Value.int .u32) fun v_15 =>
 chkP (inR (IntKind.i64.wrap (s_13 - (7 : Int))) 64) <|
 loadP w_4.drew.drew ((⟨b_1, 0, none⟩ : Addr).add (Int.toNat (IntKind.i64.wrap (s_13 - (7 : Int))) * 1)) 1 (Value.int .u32) fun v_16 =>
 chkP (inR (IntKind.i64.wrap (s_13 - (16 : Int))) 64) <|
 loadP w_4.drew.drew ((⟨b_1, 0, none⟩ : Addr).add (Int.toNat (IntKind.i64.wrap (s_13 - (16 : Int))) * 1)) 1 (Value.int .u32) fun v_17 =>
 callP P 72 #[(.int .u32 v_14), (.int .i64 (17 : Int))] w_4.drew.drew (Value.int .u32) fun r_18 w_5 =>
 Holds w_5 ((⟨b_1, 0, none⟩ : Addr).add (Int.toNat (IntKind.i64.wrap (s_13 - (16 : Int))) * 1)) 1 (.int .u32 v_17) ∧ (
 Holds w_5 ((⟨b_1, 0, none⟩ : Addr).add (Int.toNat (IntKind.i64.wrap (s_13 - (7 : Int))) * 1)) 1 (.int .u32 v_16) ∧ (
 callP P 72 #[(.int .u32 v_14), (.int .i64 (19 : Int))] w_5 (Value.int .u32) fun r_19 w_6 =>
 Holds w_6 ((⟨b_1, 0, none⟩ : Addr).add (Int.toNat (IntKind.i64.wrap (s_13 - (7 : Int))) * 1)) 1 (.int .u32 v_16) ∧ (
 Holds w_6 ((⟨b_1, 0, none⟩ : Addr).add (Int.toNat (IntKind.i64.wrap (s_13 - (16 : Int))) * 1)) 1 (.int .u32 v_17) ∧ (
 callP P 72 #[(.int .u32 v_15), (.int .i64 (7 : Int))] w_6 (Value.int .u32) fun r_20 w_7 =>
 Holds w_7 ((⟨b_1, 0, none⟩ : Addr).add (Int.toNat (IntKind.i64.wrap (s_13 - (16 : Int))) * 1)) 1 (.int .u32 v_17) ∧ (
 Holds w_7 ((⟨b_1, 0, none⟩ : Addr).add (Int.toNat (IntKind.i64.wrap (s_13 - (7 : Int))) * 1)) 1 (.int .u32 v_16) ∧ (
 callP P 72 #[(.int .u32 v_15), (.int .i64 (18 : Int))] w_7 (Value.int .u32) fun r_21 w_8 =>
 Holds w_8 ((⟨b_1, 0, none⟩ : Addr).add (Int.toNat (IntKind.i64.wrap (s_13 - (7 : Int))) * 1)) 1 (.int .u32 v_16) ∧ (
 Holds w_8 ((⟨b_1, 0, none⟩ : Addr).add (Int.toNat (IntKind.i64.wrap (s_13 - (16 : Int))) * 1)) 1 (.int .u32 v_17) ∧ (
 chkP (inR s_13 64) <|
 storeP w_8 ((⟨b_1, 0, none⟩ : Addr).add (Int.toNat s_13 * 1)) 1 (.int .u32 (IntKind.u32.wrap ((IntKind.u32.wrap ((IntKind.u32.wrap ((bits .xor .u32 (bits .xor .u32 r_18 r_19) (Int.fdiv v_14 (2 ^ (min (Int.toNat (10 : Int)) IntKind.u32.bits)))) + v_16)) + (bits .xor .u32 (bits .xor .u32 r_20 r_21) (Int.fdiv v_15 (2 ^ (min (Int.toNat (3 : Int)) IntKind.u32.bits)))))) + v_17))) fun w_9 =>
 next__12 (IntKind.i64.wrap (s_13 + (1 : Int))) w_9))))))))) (
 loadP w_4 s 8 (arrV .u32) fun v_22 =>
 newP w_4 (.cells ((arrV .u32) (List.replicate 8 0)).cells 92) fun b_23 w_10 =>
 storeP w_10 (⟨b_23, 0, none⟩ : Addr) 8 ((arrV .u32) v_22) fun w_11 =>
 callP P 74 #[] w_11 (arrV .u32) fun r_24 w_12 =>
 newP w_12 (.cells ((arrV .u32) (List.replicate 64 0)).cells 98) fun b_25 w_13 =>
 storeP w_13 (⟨b_25, 0, none⟩ : Addr) 64 ((arrV .u32) r_24) fun w_14 =>
 loopP (Int) (0 : Int) w_14 fun next__26 _ s_27 w_15 =>
 cond' (decide (s_27 < (64 : Int))) (
 loadP w_15 ((⟨b_23, 0, none⟩ : Addr).add (Int.toNat (4 : Int) * 1)) 1 (Value.int .u32) fun v_28 =>
 loadP w_15.drew ((⟨b_23, 0, none⟩ : Addr).add (Int.toNat (7 : Int) * 1)) 1 (Value.int .u32) fun v_29 =>
 loadP w_15.drew ((⟨b_23, 0, none⟩ : Addr).add (Int.toNat (5 : Int) * 1)) 1 (Value.int .u32) fun v_30 =>
 loadP w_15.drew ((⟨b_23, 0, none⟩ : Addr).add (Int.toNat (6 : Int) * 1)) 1 (Value.int .u32) fun v_31 =>
 chkP (inR s_27 64) <|
 loadP w_15.drew ((⟨b_25, 0, none⟩ : Addr).add (Int.toNat s_27 * 1)) 1 (Value.int .u32) fun v_32 =>
 chkP (inR s_27 64) <|
 loadP w_15.drew ((⟨b_1, 0, none⟩ : Addr).add (Int.toNat s_27 * 1)) 1 (Value.int .u32) fun v_33 =>
 callP P 72 #[(.int .u32 v_28), (.int .i64 (6 : Int))] w_15.drew (Value.int .u32) fun r_34 w_16 =>
 Holds w_16 ((⟨b_1, 0, none⟩ : Addr).add (Int.toNat s_27 * 1)) 1 (.int .u32 v_33) ∧ (
 Holds w_16 ((⟨b_25, 0, none⟩ : Addr).add (Int.toNat s_27 * 1)) 1 (.int .u32 v_32) ∧ (
 Holds w_16 ((⟨b_23, 0, none⟩ : Addr).add (Int.toNat (6 : Int) * 1)) 1 (.int .u32 v_31) ∧ (
 Holds w_16 ((⟨b_23, 0, none⟩ : Addr).add (Int.toNat (5 : Int) * 1)) 1 (.int .u32 v_30) ∧ (
 Holds w_16 ((⟨b_23, 0, none⟩ : Addr).add (Int.toNat (7 : Int) * 1)) 1 (.int .u32 v_29) ∧ (
 callP P 72 #[(.int .u32 v_28), (.int .i64 (11 : Int))] w_16 (Value.int .u32) fun r_35 w_17 =>
 Holds w_17 ((⟨b_23, 0, none⟩ : Addr).add (Int.toNat (7 : Int) * 1)) 1 (.int .u32 v_29) ∧ (
 Holds w_17 ((⟨b_23, 0, none⟩ : Addr).add (Int.toNat (5 : Int) * 1)) 1 (.int .u32 v_30) ∧ (
 Holds w_17 ((⟨b_23, 0, none⟩ : Addr).add (Int.toNat (6 : Int) * 1)) 1 (.int .u32 v_31) ∧ (
 Holds w_17 ((⟨b_25, 0, none⟩ : Addr).add (Int.toNat s_27 * 1)) 1 (.int .u32 v_32) ∧ (
 Holds w_17 ((⟨b_1, 0, none⟩ : Addr).add (Int.toNat s_27 * 1)) 1 (.int .u32 v_33) ∧ (
 callP P 72 #[(.int .u32 v_28), (.int .i64 (25 : Int))] w_17 (Value.int .u32) fun r_36 w_18 =>
 Holds w_18 ((⟨b_1, 0, none⟩ : Addr).add (Int.toNat s_27 * 1)) 1 (.int .u32 v_33) ∧ (
 Holds w_18 ((⟨b_25, 0, none⟩ : Addr).add (Int.toNat s_27 * 1)) 1 (.int .u32 v_32) ∧ (
 Holds w_18 ((⟨b_23, 0, none⟩ : Addr).add (Int.toNat (6 : Int) * 1)) 1 (.int .u32 v_31) ∧ (
 Holds w_18 ((⟨b_23, 0, none⟩ : Addr).add (Int.toNat (5 : Int) * 1)) 1 (.int .u32 v_30) ∧ (
 Holds w_18 ((⟨b_23, 0, none⟩ : Addr).add (Int.toNat (7 : Int) * 1)) 1 (.int .u32 v_29) ∧ (
 loadP w_18.drew ((⟨b_23, 0, none⟩ : Addr).add (Int.toNat (0 : Int) * 1)) 1 (Value.int .u32) fun v_37 =>
 loadP w_18.drew ((⟨b_23, 0, none⟩ : Addr).add (Int.toNat (0 : Int) * 1)) 1 (Value.int .u32) fun v_38 =>
 loadP w_18.drew ((⟨b_23, 0, none⟩ : Addr).add (Int.toNat (0 : Int) * 1)) 1 (Value.int .u32) fun v_39 =>
 loadP w_18.drew ((⟨b_23, 0, none⟩ : Addr).add (Int.toNat (0 : Int) * 1)) 1 (Value.int .u32) fun v_40 =>
 loadP w_18.drew ((⟨b_23, 0, none⟩ : Addr).add (Int.toNat (1 : Int) * 1)) 1 (Value.int .u32) fun v_41 =>
 loadP w_18.drew ((⟨b_23, 0, none⟩ : Addr).add (Int.toNat (0 : Int) * 1)) 1 (Value.int .u32) fun v_42 =>
 loadP w_18.drew ((⟨b_23, 0, none⟩ : Addr).add (Int.toNat (2 : Int) * 1)) 1 (Value.int .u32) fun v_43 =>
 loadP w_18.drew ((⟨b_23, 0, none⟩ : Addr).add (Int.toNat (1 : Int) * 1)) 1 (Value.int .u32) fun v_44 =>
 loadP w_18.drew ((⟨b_23, 0, none⟩ : Addr).add (Int.toNat (2 : Int) * 1)) 1 (Value.int .u32) fun v_45 =>
 callP P 72 #[(.int .u32 v_37), (.int .i64 (2 : Int))] w_18.drew (Value.int .u32) fun r_46 w_19 =>
 Holds w_19 ((⟨b_23, 0, none⟩ : Addr).add (Int.toNat (2 : Int) * 1)) 1 (.int .u32 v_45) ∧ (
 Holds w_19 ((⟨b_23, 0, none⟩ : Addr).add (Int.toNat (1 : Int) * 1)) 1 (.int .u32 v_44) ∧ (
 Holds w_19 ((⟨b_23, 0, none⟩ : Addr).add (Int.toNat (2 : Int) * 1)) 1 (.int .u32 v_43) ∧ (
 Holds w_19 ((⟨b_23, 0, none⟩ : Addr).add (Int.toNat (0 : Int) * 1)) 1 (.int .u32 v_42) ∧ (
 Holds w_19 ((⟨b_23, 0, none⟩ : Addr).add (Int.toNat (1 : Int) * 1)) 1 (.int .u32 v_41) ∧ (
 Holds w_19 ((⟨b_23, 0, none⟩ : Addr).add (Int.toNat (0 : Int) * 1)) 1 (.int .u32 v_40) ∧ (
 Holds w_19 ((⟨b_23, 0, none⟩ : Addr).add (Int.toNat (0 : Int) * 1)) 1 (.int .u32 v_39) ∧ (
 Holds w_19 ((⟨b_23, 0, none⟩ : Addr).add (Int.toNat (0 : Int) * 1)) 1 (.int .u32 v_38) ∧ (
 callP P 72 #[(.int .u32 v_38), (.int .i64 (13 : Int))] w_19 (Value.int .u32) fun r_47 w_20 =>
 Holds w_20 ((⟨b_23, 0, none⟩ : Addr).add (Int.toNat (0 : Int) * 1)) 1 (.int .u32 v_39) ∧ (
 Holds w_20 ((⟨b_23, 0, none⟩ : Addr).add (Int.toNat (0 : Int) * 1)) 1 (.int .u32 v_40) ∧ (
 Holds w_20 ((⟨b_23, 0, none⟩ : Addr).add (Int.toNat (1 : Int) * 1)) 1 (.int .u32 v_41) ∧ (
 Holds w_20 ((⟨b_23, 0, none⟩ : Addr).add (Int.toNat (0 : Int) * 1)) 1 (.int .u32 v_42) ∧ (
 Holds w_20 ((⟨b_23, 0, none⟩ : Addr).add (Int.toNat (2 : Int) * 1)) 1 (.int .u32 v_43) ∧ (
 Holds w_20 ((⟨b_23, 0, none⟩ : Addr).add (Int.toNat (1 : Int) * 1)) 1 (.int .u32 v_44) ∧ (
 Holds w_20 ((⟨b_23, 0, none⟩ : Addr).add (Int.toNat (2 : Int) * 1)) 1 (.int .u32 v_45) ∧ (
 callP P 72 #[(.int .u32 v_39), (.int .i64 (22 : Int))] w_20 (Value.int .u32) fun r_48 w_21 =>
 Holds w_21 ((⟨b_23, 0, none⟩ : Addr).add (Int.toNat (2 : Int) * 1)) 1 (.int .u32 v_45) ∧ (
 Holds w_21 ((⟨b_23, 0, none⟩ : Addr).add (Int.toNat (1 : Int) * 1)) 1 (.int .u32 v_44) ∧ (
 Holds w_21 ((⟨b_23, 0, none⟩ : Addr).add (Int.toNat (2 : Int) * 1)) 1 (.int .u32 v_43) ∧ (
 Holds w_21 ((⟨b_23, 0, none⟩ : Addr).add (Int.toNat (0 : Int) * 1)) 1 (.int .u32 v_42) ∧ (
 Holds w_21 ((⟨b_23, 0, none⟩ : Addr).add (Int.toNat (1 : Int) * 1)) 1 (.int .u32 v_41) ∧ (
 Holds w_21 ((⟨b_23, 0, none⟩ : Addr).add (Int.toNat (0 : Int) * 1)) 1 (.int .u32 v_40) ∧ (
 runP P (Builtin.copy_ #[53, 53] 3 #[(SlV.val (arrSub (⟨b_23, 0, none⟩ : Addr) 1 8 8 1)), (SlV.val (arrSub (⟨b_23, 0, none⟩ : Addr) 0 7 8 1))]) w_21.drew (Value.int .i64) fun r_49 w_22 =>
 loadP w_22 ((⟨b_23, 0, none⟩ : Addr).add (Int.toNat (4 : Int) * 1)) 1 (Value.int .u32) fun v_50 =>
 storeP w_22 ((⟨b_23, 0, none⟩ : Addr).add (Int.toNat (4 : Int) * 1)) 1 (.int .u32 (IntKind.u32.wrap (v_50 + (IntKind.u32.wrap ((IntKind.u32.wrap ((IntKind.u32.wrap ((IntKind.u32.wrap (v_29 + (bits .xor .u32 (bits .xor .u32 r_34 r_35) r_36))) + (bits .xor .u32 (bits .and .u32 v_28 v_30) (bits .and .u32 (bits .xor .u32 (if IntKind.u32.signed then -1 else IntKind.u32.max) v_28) v_31)))) + v_32)) + v_33))))) fun w_23 =>
 storeP w_23 ((⟨b_23, 0, none⟩ : Addr).add (Int.toNat (0 : Int) * 1)) 1 (.int .u32 (IntKind.u32.wrap ((IntKind.u32.wrap ((IntKind.u32.wrap ((IntKind.u32.wrap ((IntKind.u32.wrap (v_29 + (bits .xor .u32 (bits .xor .u32 r_34 r_35) r_36))) + (bits .xor .u32 (bits .and .u32 v_28 v_30) (bits .and .u32 (bits .xor .u32 (if IntKind.u32.signed then -1 else IntKind.u32.max) v_28) v_31)))) + v_32)) + v_33)) + (IntKind.u32.wrap ((bits .xor .u32 (bits .xor .u32 r_46 r_47) r_48) + (bits .xor .u32 (bits .xor .u32 (bits .and .u32 v_40 v_41) (bits .and .u32 v_42 v_43)) (bits .and .u32 v_44 v_45))))))) fun w_24 =>
 next__26 (IntKind.i64.wrap (s_27 + (1 : Int))) w_24))))))))))))))))))))))))))))))))))))) (
 loopP (Int) (0 : Int) w_15 fun next__51 _ s_52 w_25 =>
 cond' (decide (s_52 < (8 : Int))) (
 chkP (inR s_52 8) <|
 loadP w_25.drew (s.add (Int.toNat s_52 * 1)) 1 (Value.int .u32) fun v_53 =>
 chkP (inR s_52 8) <|
 loadP w_25.drew ((⟨b_23, 0, none⟩ : Addr).add (Int.toNat s_52 * 1)) 1 (Value.int .u32) fun v_54 =>
 chkP (inR s_52 8) <|
 storeP w_25.drew (s.add (Int.toNat s_52 * 1)) 1 (.int .u32 (IntKind.u32.wrap (v_53 + v_54))) fun w_26 =>
 next__51 (IntKind.i64.wrap (s_52 + (1 : Int))) w_26) (
 R () w_25))))
def an44 : Ann := mkAnn [(2, [(17, (shInt .i64))]), (8, [(7, (shInt .i64))]), (15, [(105, (shInt .i64))]), (25, [(188, (shInt .i64))])] []
theorem sf44_eq (s : Addr) (b : SlV) (w0 : World) (R : Unit → World → Prop) : sf44 s b w0 R = vcFn P sh an44 Try.f44 [(.pointer (some s)), (SlV.val b)] shUnit w0 R := by kernel_rfl
theorem nm44 : (Try.f44.name == "runtime.NumGoroutine") = false := by kernel_rfl
theorem sf44_call (s : Addr) (b : SlV) (w0 : World) (R : Unit → World → Prop) (hsf : sf44 s b w0 R) : callP P 44 #[(.pointer (some s)), (SlV.val b)] w0 shUnit.val R :=
  vcFn_sound mixed Try.func44 nm44 (Eq.mp (sf44_eq s b w0 R) hsf)

/-- flume/flumeref08.turn -/
def sf45 (x : Int) (n : Int) (w0 : World) (R : Int → World → Prop) : Prop :=
 chkP (decide (0 ≤ n)) <|
 chkP (decide (0 ≤ (IntKind.u64.wrap ((32 : Int) - n)))) <|
 R (bits .or .u32 (Int.fdiv x (2 ^ (min (Int.toNat n) IntKind.u32.bits))) (IntKind.u32.wrap (x * 2 ^ (min (Int.toNat (IntKind.u64.wrap ((32 : Int) - n))) IntKind.u32.bits)))) w0
def an45 : Ann := mkAnn [] []
theorem sf45_eq (x : Int) (n : Int) (w0 : World) (R : Int → World → Prop) : sf45 x n w0 R = vcFn P sh an45 Try.f45 [(.int .u32 x), (.int .u64 n)] (shInt .u32) w0 R := by kernel_rfl
theorem nm45 : (Try.f45.name == "runtime.NumGoroutine") = false := by kernel_rfl
theorem sf45_call (x : Int) (n : Int) (w0 : World) (R : Int → World → Prop) (hsf : sf45 x n w0 R) : callP P 45 #[(.int .u32 x), (.int .u64 n)] w0 (shInt .u32).val R :=
  vcFn_sound mixed Try.func45 nm45 (Eq.mp (sf45_eq x n w0 R) hsf)

/-- flume/flumeref08.table -/
def sf46 (t : Int) (w0 : World) (R : Int → World → Prop) : Prop :=
 newP w0 (.cells #[(.int .u32 (1116352408 : Int)), (.int .u32 (1899447441 : Int)), (.int .u32 (3049323471 : Int)), (.int .u32 (3921009573 : Int)), (.int .u32 (961987163 : Int)), (.int .u32 (1508970993 : Int)), (.int .u32 (2453635748 : Int)), (.int .u32 (2870763221 : Int)), (.int .u32 (3624381080 : Int)), (.int .u32 (310598401 : Int)), (.int .u32 (607225278 : Int)), (.int .u32 (1426881987 : Int)), (.int .u32 (1925078388 : Int)), (.int .u32 (2162078206 : Int)), (.int .u32 (2614888103 : Int)), (.int .u32 (3248222580 : Int)), (.int .u32 (3835390401 : Int)), (.int .u32 (4022224774 : Int)), (.int .u32 (264347078 : Int)), (.int .u32 (604807628 : Int)), (.int .u32 (770255983 : Int)), (.int .u32 (1249150122 : Int)), (.int .u32 (1555081692 : Int)), (.int .u32 (1996064986 : Int)), (.int .u32 (2554220882 : Int)), (.int .u32 (2821834349 : Int)), (.int .u32 (2952996808 : Int)), (.int .u32 (3210313671 : Int)), (.int .u32 (3336571891 : Int)), (.int .u32 (3584528711 : Int)), (.int .u32 (113926993 : Int)), (.int .u32 (338241895 : Int)), (.int .u32 (666307205 : Int)), (.int .u32 (773529912 : Int)), (.int .u32 (1294757372 : Int)), (.int .u32 (1396182291 : Int)), (.int .u32 (1695183700 : Int)), (.int .u32 (1986661051 : Int)), (.int .u32 (2177026350 : Int)), (.int .u32 (2456956037 : Int)), (.int .u32 (2730485921 : Int)), (.int .u32 (2820302411 : Int)), (.int .u32 (3259730800 : Int)), (.int .u32 (3345764771 : Int)), (.int .u32 (3516065817 : Int)), (.int .u32 (3600352804 : Int)), (.int .u32 (4094571909 : Int)), (.int .u32 (275423344 : Int)), (.int .u32 (430227734 : Int)), (.int .u32 (506948616 : Int)), (.int .u32 (659060556 : Int)), (.int .u32 (883997877 : Int)), (.int .u32 (958139571 : Int)), (.int .u32 (1322822218 : Int)), (.int .u32 (1537002063 : Int)), (.int .u32 (1747873779 : Int)), (.int .u32 (1955562222 : Int)), (.int .u32 (2024104815 : Int)), (.int .u32 (2227730452 : Int)), (.int .u32 (2361852424 : Int)), (.int .u32 (2428436474 : Int)), (.int .u32 (2756734187 : Int)), (.int .u32 (3204031479 : Int)), (.int .u32 (3329325298 : Int))] 33) fun b_1 w_1 =>
 chkP (inR t 64) <|
 loadP w_1 ((⟨b_1, 0, none⟩ : Addr).add (Int.toNat t * 1)) 1 (Value.int .u32) fun v_2 =>
 R v_2 w_1
def an46 : Ann := mkAnn [] []
theorem sf46_eq (t : Int) (w0 : World) (R : Int → World → Prop) : sf46 t w0 R = vcFn P sh an46 Try.f46 [(.int .i64 t)] (shInt .u32) w0 R := by kernel_rfl
theorem nm46 : (Try.f46.name == "runtime.NumGoroutine") = false := by kernel_rfl
theorem sf46_call (t : Int) (w0 : World) (R : Int → World → Prop) (hsf : sf46 t w0 R) : callP P 46 #[(.int .i64 t)] w0 (shInt .u32).val R :=
  vcFn_sound mixed Try.func46 nm46 (Eq.mp (sf46_eq t w0 R) hsf)

end Go.Vc.SA

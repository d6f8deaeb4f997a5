/-
  What functions of the program come to, read off their code. No condition.
-/
import Derived.Test.YtbcmfajacbpaiaaBSh
set_option linter.all false
set_option linter.unusedVariables false
set_option maxRecDepth 100000
namespace Go.Vc.SB
open Go.Proofs
/-- flume/reset.reply -/
def sf121 (number : Int) (result : Int) (w0 : World) (R : (Option Addr) → World → Prop) : Prop :=
 newP w0 (.cells (WriterV.val ({ b := SlV.nil } : WriterV)).cells 182) fun b_1 w_1 =>
 callP P 82 #[(.pointer (some (⟨b_1, 0, none⟩ : Addr))), (.int .u32 number)] w_1 unitV fun r_2 w_2 =>
 callP P 82 #[(.pointer (some (⟨b_1, 0, none⟩ : Addr))), (.int .u32 result)] w_2 unitV fun r_3 w_3 =>
 callP P 84 #[(.pointer (some (⟨b_1, 0, none⟩ : Addr)))] w_3 SlV.val fun r_4 w_4 =>
 newP w_4 (.cells (ParamV.val ({ Kind := (16 : Int), Value_ := r_4 } : ParamV)).cells 83) fun b_5 w_5 =>
 R (some (⟨b_5, 0, none⟩ : Addr)) w_5
def an121 : Ann := mkAnn [] []
theorem sf121_eq (number : Int) (result : Int) (w0 : World) (R : (Option Addr) → World → Prop) : sf121 number result w0 R = vcFn P sh an121 Try.f121 [(.int .u32 number), (.int .u32 result)] shPtr w0 R := by kernel_rfl
theorem nm121 : (Try.f121.name == "runtime.NumGoroutine") = false := by kernel_rfl
theorem sf121_call (number : Int) (result : Int) (w0 : World) (R : (Option Addr) → World → Prop) (hsf : sf121 number result w0 R) : callP P 121 #[(.int .u32 number), (.int .u32 result)] w0 shPtr.val R :=
  vcFn_sound mixed Try.func121 nm121 (Eq.mp (sf121_eq number result w0 R) hsf)

/-- (*flume/octet.Reader).End -/
def sf122 (r : Addr) (w0 : World) (R : Int → World → Prop) : Prop :=
 loadP w0 (r.add 1) 1 Value.bool fun v_1 =>
 cond' v_1 (
 R (40 : Int) w0) (
 loadP w0 (r.add 0) 1 SlV.val fun v_2 =>
 cond' (decide ((v_2.len : Int) > (0 : Int))) (
 R (41 : Int) w0) (
 R (0 : Int) w0))
def an122 : Ann := mkAnn [] []
theorem sf122_eq (r : Addr) (w0 : World) (R : Int → World → Prop) : sf122 r w0 R = vcFn P sh an122 Try.f122 [(.pointer (some r))] (shInt .i64) w0 R := by kernel_rfl
theorem nm122 : (Try.f122.name == "runtime.NumGoroutine") = false := by kernel_rfl
theorem sf122_call (r : Addr) (w0 : World) (R : Int → World → Prop) (hsf : sf122 r w0 R) : callP P 122 #[(.pointer (some r))] w0 (shInt .i64).val R :=
  vcFn_sound mixed Try.func122 nm122 (Eq.mp (sf122_eq r w0 R) hsf)

/-- slices.insertionSortOrdered[uint16] -/
def sf136 (data : SlV) (a : Int) (b : Int) (w0 : World) (R : Unit → World → Prop) : Prop :=
 loopP (Int) (IntKind.i64.wrap (a + (1 : Int))) w0 fun next__1 _ s_2 w_1 =>
 cond' (decide (s_2 < b)) (
 loopP (Int) s_2 w_1 fun next__3 _ s_4 w_2 =>
 cutP (Unit) (fun J_5 =>
 cond' (decide (s_4 > a)) (
 chkP (inR s_4 data.len) <|
 nilP data.a fun a_8 =>
 loadP w_2.drew (a_8.add (Int.toNat s_4 * 1)) 1 (Value.int .u16) fun v_9 =>
 chkP (inR (IntKind.i64.wrap (s_4 - (1 : Int))) data.len) <|
 nilP data.a fun a_10 =>
 loadP w_2.drew (a_10.add (Int.toNat (IntKind.i64.wrap (s_4 - (1 : Int))) * 1)) 1 (Value.int .u16) fun v_11 =>
 callP P 142 #[(.int .u16 v_9), (.int .u16 v_11)] w_2.drew Value.bool fun r_12 w_4 =>
 cond' r_12 (
 J_5 () w_4) (
 next__1 (IntKind.i64.wrap (s_2 + (1 : Int))) w_4)) (
 next__1 (IntKind.i64.wrap (s_2 + (1 : Int))) w_2.drew)) fun _ _ w_3 =>
 chkP (inR (IntKind.i64.wrap (s_4 - (1 : Int))) data.len) <|
 nilP data.a fun a_13 =>
 loadP w_3.drew (a_13.add (Int.toNat (IntKind.i64.wrap (s_4 - (1 : Int))) * 1)) 1 (Value.int .u16) fun v_14 =>
 chkP (inR s_4 data.len) <|
 nilP data.a fun a_15 =>
 loadP w_3.drew (a_15.add (Int.toNat s_4 * 1)) 1 (Value.int .u16) fun v_16 =>
 chkP (inR s_4 data.len) <|
 nilP data.a fun a_17 =>
 storeP w_3.drew (a_17.add (Int.toNat s_4 * 1)) 1 (.int .u16 v_14) fun w_5 =>
 chkP (inR (IntKind.i64.wrap (s_4 - (1 : Int))) data.len) <|
 nilP data.a fun a_18 =>
 storeP w_5 (a_18.add (Int.toNat (IntKind.i64.wrap (s_4 - (1 : Int))) * 1)) 1 (.int .u16 v_16) fun w_6 =>
 next__3 (IntKind.i64.wrap (s_4 - (1 : Int))) w_6) (
 R () w_1)
def an136 : Ann := mkAnn [(1, [(6, (shInt .i64))]), (4, [(7, (shInt .i64))])] [(6, [])]
theorem sf136_eq (data : SlV) (a : Int) (b : Int) (w0 : World) (R : Unit → World → Prop) : sf136 data a b w0 R = vcFn P sh an136 Try.f136 [(SlV.val data), (.int .i64 a), (.int .i64 b)] shUnit w0 R := by kernel_rfl
theorem nm136 : (Try.f136.name == "runtime.NumGoroutine") = false := by kernel_rfl
theorem sf136_call (data : SlV) (a : Int) (b : Int) (w0 : World) (R : Unit → World → Prop) (hsf : sf136 data a b w0 R) : callP P 136 #[(SlV.val data), (.int .i64 a), (.int .i64 b)] w0 shUnit.val R :=
  vcFn_sound mixed Try.func136 nm136 (Eq.mp (sf136_eq data a b w0 R) hsf)

/-- cmp.Less[uint16] -/
def sf142 (x : Int) (y : Int) (w0 : World) (R : Bool → World → Prop) : Prop :=
 callP P 171 #[(.int .u16 x)] w0 Value.bool fun r_1 w_1 =>
 cond' r_1 (
 callP P 171 #[(.int .u16 y)] w_1 Value.bool fun r_3 w_2 =>
 cond' (!r_3) (
 R true w_2) (
 R (decide (x < y)) w_2)) (
 R (decide (x < y)) w_1)
def an142 : Ann := mkAnn [] []
theorem sf142_eq (x : Int) (y : Int) (w0 : World) (R : Bool → World → Prop) : sf142 x y w0 R = vcFn P sh an142 Try.f142 [(.int .u16 x), (.int .u16 y)] shBool w0 R := by kernel_rfl
theorem nm142 : (Try.f142.name == "runtime.NumGoroutine") = false := by kernel_rfl
theorem sf142_call (x : Int) (y : Int) (w0 : World) (R : Bool → World → Prop) (hsf : sf142 x y w0 R) : callP P 142 #[(.int .u16 x), (.int .u16 y)] w0 shBool.val R :=
  vcFn_sound mixed Try.func142 nm142 (Eq.mp (sf142_eq x y w0 R) hsf)

/-- math/bits.Len64 -/
def sf146 (x : Int) (w0 : World) (R : Int → World → Prop) : Prop :=
 cutP (Int × Int) (fun J_1 =>
 cond' (decide (x ≥ (4294967296 : Int))) (
 J_1 ((Int.fdiv x (2 ^ (min (Int.toNat (32 : Int)) IntKind.u64.bits))), (32 : Int)) w0) (
 J_1 (x, (0 : Int)) w0)) fun _ s_2 w_1 =>
 cutP (Int × Int) (fun J_3 =>
 cond' (decide (s_2.1 ≥ (65536 : Int))) (
 J_3 ((Int.fdiv s_2.1 (2 ^ (min (Int.toNat (16 : Int)) IntKind.u64.bits))), (IntKind.i64.wrap (s_2.2 + (16 : Int)))) w_1) (
 J_3 (s_2.1, s_2.2) w_1)) fun _ s_4 w_2 =>
 cond' (decide (s_4.1 ≥ (256 : Int))) (
 chkP (inR (IntKind.u8.wrap (Int.fdiv s_4.1 (2 ^ (min (Int.toNat (8 : Int)) IntKind.u64.bits)))) ({ data := #[0, 1, 2, 2, 3, 3, 3, 3, 4, 4, 4, 4, 4, 4, 4, 4, 5, 5, 5, 5, 5, 5, 5, 5, 5, 5, 5, 5, 5, 5, 5, 5, 6, 6, 6, 6, 6, 6, 6, 6, 6, 6, 6, 6, 6, 6, 6, 6, 6, 6, 6, 6, 6, 6, 6, 6, 6, 6, 6, 6, 6, 6, 6, 6, 7, 7, 7, 7, 7, 7, 7, 7, 7, 7, 7, 7, 7, 7, 7, 7, 7, 7, 7, 7, 7, 7, 7, 7, 7, 7, 7, 7, 7, 7, 7, 7, 7, 7, 7, 7, 7, 7, 7, 7, 7, 7, 7, 7, 7, 7, 7, 7, 7, 7, 7, 7, 7, 7, 7, 7, 7, 7, 7, 7, 7, 7, 7, 7, 8, 8, 8, 8, 8, 8, 8, 8, 8, 8, 8, 8, 8, 8, 8, 8, 8, 8, 8, 8, 8, 8, 8, 8, 8, 8, 8, 8, 8, 8, 8, 8, 8, 8, 8, 8, 8, 8, 8, 8, 8, 8, 8, 8, 8, 8, 8, 8, 8, 8, 8, 8, 8, 8, 8, 8, 8, 8, 8, 8, 8, 8, 8, 8, 8, 8, 8, 8, 8, 8, 8, 8, 8, 8, 8, 8, 8, 8, 8, 8, 8, 8, 8, 8, 8, 8, 8, 8, 8, 8, 8, 8, 8, 8, 8, 8, 8, 8, 8, 8, 8, 8, 8, 8, 8, 8, 8, 8, 8, 8, 8, 8, 8, 8, 8, 8, 8, 8, 8, 8, 8, 8, 8, 8, 8, 8, 8, 8] } : ByteArray).size) <|
 R (IntKind.i64.wrap ((IntKind.i64.wrap (s_4.2 + (8 : Int))) + (IntKind.i64.wrap (((({ data := #[0, 1, 2, 2, 3, 3, 3, 3, 4, 4, 4, 4, 4, 4, 4, 4, 5, 5, 5, 5, 5, 5, 5, 5, 5, 5, 5, 5, 5, 5, 5, 5, 6, 6, 6, 6, 6, 6, 6, 6, 6, 6, 6, 6, 6, 6, 6, 6, 6, 6, 6, 6, 6, 6, 6, 6, 6, 6, 6, 6, 6, 6, 6, 6, 7, 7, 7, 7, 7, 7, 7, 7, 7, 7, 7, 7, 7, 7, 7, 7, 7, 7, 7, 7, 7, 7, 7, 7, 7, 7, 7, 7, 7, 7, 7, 7, 7, 7, 7, 7, 7, 7, 7, 7, 7, 7, 7, 7, 7, 7, 7, 7, 7, 7, 7, 7, 7, 7, 7, 7, 7, 7, 7, 7, 7, 7, 7, 7, 8, 8, 8, 8, 8, 8, 8, 8, 8, 8, 8, 8, 8, 8, 8, 8, 8, 8, 8, 8, 8, 8, 8, 8, 8, 8, 8, 8, 8, 8, 8, 8, 8, 8, 8, 8, 8, 8, 8, 8, 8, 8, 8, 8, 8, 8, 8, 8, 8, 8, 8, 8, 8, 8, 8, 8, 8, 8, 8, 8, 8, 8, 8, 8, 8, 8, 8, 8, 8, 8, 8, 8, 8, 8, 8, 8, 8, 8, 8, 8, 8, 8, 8, 8, 8, 8, 8, 8, 8, 8, 8, 8, 8, 8, 8, 8, 8, 8, 8, 8, 8, 8, 8, 8, 8, 8, 8, 8, 8, 8, 8, 8, 8, 8, 8, 8, 8, 8, 8, 8, 8, 8, 8, 8, 8, 8, 8, 8] } : ByteArray).data.toList.getD (Int.toNat (IntKind.u8.wrap (Int.fdiv s_4.1 (2 ^ (min (Int.toNat (8 : Int)) IntKind.u64.bits))))) 0).toNat : Int))))) w_2) (
 chkP (inR (IntKind.u8.wrap s_4.1) ({ data := #[0, 1, 2, 2, 3, 3, 3, 3, 4, 4, 4, 4, 4, 4, 4, 4, 5, 5, 5, 5, 5, 5, 5, 5, 5, 5, 5, 5, 5, 5, 5, 5, 6, 6, 6, 6, 6, 6, 6, 6, 6, 6, 6, 6, 6, 6, 6, 6, 6, 6, 6, 6, 6, 6, 6, 6, 6, 6, 6, 6, 6, 6, 6, 6, 7, 7, 7, 7, 7, 7, 7, 7, 7, 7, 7, 7, 7, 7, 7, 7, 7, 7, 7, 7, 7, 7, 7, 7, 7, 7, 7, 7, 7, 7, 7, 7, 7, 7, 7, 7, 7, 7, 7, 7, 7, 7, 7, 7, 7, 7, 7, 7, 7, 7, 7, 7, 7, 7, 7, 7, 7, 7, 7, 7, 7, 7, 7, 7, 8, 8, 8, 8, 8, 8, 8, 8, 8, 8, 8, 8, 8, 8, 8, 8, 8, 8, 8, 8, 8, 8, 8, 8, 8, 8, 8, 8, 8, 8, 8, 8, 8, 8, 8, 8, 8, 8, 8, 8, 8, 8, 8, 8, 8, 8, 8, 8, 8, 8, 8, 8, 8, 8, 8, 8, 8, 8, 8, 8, 8, 8, 8, 8, 8, 8, 8, 8, 8, 8, 8, 8, 8, 8, 8, 8, 8, 8, 8, 8, 8, 8, 8, 8, 8, 8, 8, 8, 8, 8, 8, 8, 8, 8, 8, 8, 8, 8, 8, 8, 8, 8, 8, 8, 8, 8, 8, 8, 8, 8, 8, 8, 8, 8, 8, 8, 8, 8, 8, 8, 8, 8, 8, 8, 8, 8, 8, 8] } : ByteArray).size) <|
 R (IntKind.i64.wrap (s_4.2 + (IntKind.i64.wrap (((({ data := #[0, 1, 2, 2, 3, 3, 3, 3, 4, 4, 4, 4, 4, 4, 4, 4, 5, 5, 5, 5, 5, 5, 5, 5, 5, 5, 5, 5, 5, 5, 5, 5, 6, 6, 6, 6, 6, 6, 6, 6, 6, 6, 6, 6, 6, 6, 6, 6, 6, 6, 6, 6, 6, 6, 6, 6, 6, 6, 6, 6, 6, 6, 6, 6, 7, 7, 7, 7, 7, 7, 7, 7, 7, 7, 7, 7, 7, 7, 7, 7, 7, 7, 7, 7, 7, 7, 7, 7, 7, 7, 7, 7, 7, 7, 7, 7, 7, 7, 7, 7, 7, 7, 7, 7, 7, 7, 7, 7, 7, 7, 7, 7, 7, 7, 7, 7, 7, 7, 7, 7, 7, 7, 7, 7, 7, 7, 7, 7, 8, 8, 8, 8, 8, 8, 8, 8, 8, 8, 8, 8, 8, 8, 8, 8, 8, 8, 8, 8, 8, 8, 8, 8, 8, 8, 8, 8, 8, 8, 8, 8, 8, 8, 8, 8, 8, 8, 8, 8, 8, 8, 8, 8, 8, 8, 8, 8, 8, 8, 8, 8, 8, 8, 8, 8, 8, 8, 8, 8, 8, 8, 8, 8, 8, 8, 8, 8, 8, 8, 8, 8, 8, 8, 8, 8, 8, 8, 8, 8, 8, 8, 8, 8, 8, 8, 8, 8, 8, 8, 8, 8, 8, 8, 8, 8, 8, 8, 8, 8, 8, 8, 8, 8, 8, 8, 8, 8, 8, 8, 8, 8, 8, 8, 8, 8, 8, 8, 8, 8, 8, 8, 8, 8, 8, 8, 8, 8] } : ByteArray).data.toList.getD (Int.toNat (IntKind.u8.wrap s_4.1)) 0).toNat : Int))))) w_2)
def an146 : Ann := mkAnn [] [(4, [(0, (shInt .u64)), (2, (shInt .i64))]), (7, [(0, (shInt .u64)), (2, (shInt .i64))])]
theorem sf146_eq (x : Int) (w0 : World) (R : Int → World → Prop) : sf146 x w0 R = vcFn P sh an146 Try.f146 [(.int .u64 x)] (shInt .i64) w0 R := by kernel_rfl
theorem nm146 : (Try.f146.name == "runtime.NumGoroutine") = false := by kernel_rfl
theorem sf146_call (x : Int) (w0 : World) (R : Int → World → Prop) (hsf : sf146 x w0 R) : callP P 146 #[(.int .u64 x)] w0 (shInt .i64).val R :=
  vcFn_sound mixed Try.func146 nm146 (Eq.mp (sf146_eq x w0 R) hsf)

/-- (*flume/octet.Reader).number -/
def sf147 (r : Addr) (n : Int) (w0 : World) (R : Int → World → Prop) : Prop :=
 callP P 172 #[(.pointer (some r)), (.int .i64 n)] w0 SlV.val fun r_1 w_1 =>
 loopP (Int × Int) ((0 : Int), (0 : Int)) w_1 fun next__2 _ s_3 w_2 =>
 cond' (decide (s_3.2 < (r_1.len : Int))) (
 chkP (inR s_3.2 r_1.len) <|
 nilP r_1.a fun a_4 =>
 loadP w_2 (a_4.add (Int.toNat s_3.2 * 1)) 1 (Value.int .u8) fun v_5 =>
 next__2 ((bits .or .u32 (IntKind.u32.wrap (s_3.1 * 2 ^ (min (Int.toNat (8 : Int)) IntKind.u32.bits))) (IntKind.u32.wrap v_5)), (IntKind.i64.wrap (s_3.2 + (1 : Int)))) w_2) (
 R s_3.1 w_2)
def an147 : Ann := mkAnn [(3, [(5, (shInt .u32)), (12, (shInt .i64))])] []
theorem sf147_eq (r : Addr) (n : Int) (w0 : World) (R : Int → World → Prop) : sf147 r n w0 R = vcFn P sh an147 Try.f147 [(.pointer (some r)), (.int .i64 n)] (shInt .u32) w0 R := by kernel_rfl
theorem nm147 : (Try.f147.name == "runtime.NumGoroutine") = false := by kernel_rfl
theorem sf147_call (r : Addr) (n : Int) (w0 : World) (R : Int → World → Prop) (hsf : sf147 r n w0 R) : callP P 147 #[(.pointer (some r)), (.int .i64 n)] w0 (shInt .u32).val R :=
  vcFn_sound mixed Try.func147 nm147 (Eq.mp (sf147_eq r n w0 R) hsf)

/-- cmp.isNaN[uint16] -/
def sf171 (x : Int) (w0 : World) (R : Bool → World → Prop) : Prop :=
 R (x != x) w0
def an171 : Ann := mkAnn [] []
theorem sf171_eq (x : Int) (w0 : World) (R : Bool → World → Prop) : sf171 x w0 R = vcFn P sh an171 Try.f171 [(.int .u16 x)] shBool w0 R := by kernel_rfl
theorem nm171 : (Try.f171.name == "runtime.NumGoroutine") = false := by kernel_rfl
theorem sf171_call (x : Int) (w0 : World) (R : Bool → World → Prop) (hsf : sf171 x w0 R) : callP P 171 #[(.int .u16 x)] w0 shBool.val R :=
  vcFn_sound mixed Try.func171 nm171 (Eq.mp (sf171_eq x w0 R) hsf)

/-- (*flume/octet.Reader).Take -/
def sf172 (r : Addr) (n : Int) (w0 : World) (R : SlV → World → Prop) : Prop :=
 cutP (Bool) (fun J_1 =>
 cond' (decide (n < (0 : Int))) (
 J_1 true w0) (
 loadP w0 (r.add 0) 1 SlV.val fun v_4 =>
 J_1 (decide (n > (v_4.len : Int))) w0)) fun _ s_2 w_1 =>
 cond' s_2 (
 storeP w_1 (r.add 1) 1 (.bool true) fun w_2 =>
 storeP w_2 (r.add 0) 1 (SlV.val SlV.nil) fun w_3 =>
 R SlV.nil w_3) (
 loadP w_1 (r.add 1) 1 Value.bool fun v_5 =>
 cond' v_5 (
 R SlV.nil w_1) (
 loadP w_1 (r.add 0) 1 SlV.val fun v_6 =>
 chkP (leR n (v_6.cap : Int)) <|
 chkP (leR 0 n) <|
 callP P 52 #[(SlV.val (SlV.sub v_6 (0) (Int.toNat n) v_6.cap 1))] w_1 SlV.val fun r_7 w_4 =>
 loadP w_4 (r.add 0) 1 SlV.val fun v_8 =>
 chkP (leR (v_8.len : Int) (v_8.cap : Int)) <|
 chkP (leR n (v_8.len : Int)) <|
 storeP w_4 (r.add 0) 1 (SlV.val (SlV.sub v_8 (Int.toNat n) (v_8.len) v_8.cap 1)) fun w_5 =>
 R r_7 w_5))
def an172 : Ann := mkAnn [] [(2, [(16, shBool)])]
theorem sf172_eq (r : Addr) (n : Int) (w0 : World) (R : SlV → World → Prop) : sf172 r n w0 R = vcFn P sh an172 Try.f172 [(.pointer (some r)), (.int .i64 n)] shSl w0 R := by kernel_rfl
theorem nm172 : (Try.f172.name == "runtime.NumGoroutine") = false := by kernel_rfl
theorem sf172_call (r : Addr) (n : Int) (w0 : World) (R : SlV → World → Prop) (hsf : sf172 r n w0 R) : callP P 172 #[(.pointer (some r)), (.int .i64 n)] w0 shSl.val R :=
  vcFn_sound mixed Try.func172 nm172 (Eq.mp (sf172_eq r n w0 R) hsf)

end Go.Vc.SB

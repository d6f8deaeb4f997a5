/-
  What functions of the program come to, read off their code. No condition.
-/
import Derived.Test.YtobldgdfejpckaaASh
set_option linter.all false
set_option linter.unusedVariables false
set_option maxRecDepth 100000
namespace Go.Vc.SA
open Go.Proofs
/-- flume/shake.inter -/
def sf78 (c : ChunkV) (w0 : World) (R : Bool → World → Prop) : Prop :=
 newP w0 (.cells (ChunkV.val c).cells 57) fun b_1 w_1 =>
 loadP w_1 ((⟨b_1, 0, none⟩ : Addr).add 17) 1 SlV.val fun v_2 =>
 callP P 79 #[(SlV.val v_2), (.int .u16 (32776 : Int))] w_1 (tup2V SlV.val Value.bool) fun r_3 w_2 =>
 cond' r_3.2 (
 newP w_2 (.cells #[(.int .u8 (64 : Int))] 5) fun b_5 w_3 =>
 callP P 82 #[(SlV.val r_3.1), (SlV.val (SlV.mk (some (⟨b_5, 0, none⟩ : Addr)) 1 1))] w_3 Value.bool fun r_6 w_4 =>
 R r_6 w_4) (
 R false w_2)
def an78 : Ann := mkAnn [] []
theorem sf78_eq (c : ChunkV) (w0 : World) (R : Bool → World → Prop) : sf78 c w0 R = vcFn P sh an78 Try.f78 [(ChunkV.val c)] shBool w0 R := by kernel_rfl
theorem nm78 : (Try.f78.name == "runtime.NumGoroutine") = false := by kernel_rfl
theorem sf78_call (c : ChunkV) (w0 : World) (R : Bool → World → Prop) (hsf : sf78 c w0 R) : callP P 78 #[(ChunkV.val c)] w0 shBool.val R :=
  vcFn_sound mixed Try.func78 nm78 (Eq.mp (sf78_eq c w0 R) hsf)

/-- flume/param.Find -/
def sf79 (ps : SlV) (kind : Int) (w0 : World) (R : (SlV × Bool) → World → Prop) : Prop :=
 loopP (Int) (0 : Int) w0 fun next__1 _ s_2 w_1 =>
 cond' (decide (s_2 < (ps.len : Int))) (
 chkP (inR s_2 ps.len) <|
 nilP ps.a fun a_3 =>
 loadP w_1 (a_3.add (Int.toNat s_2 * 2)) 2 ParamV.val fun v_4 =>
 newP w_1 (.cells (ParamV.val ({ Kind := 0, Value_ := SlV.nil } : ParamV)).cells 144) fun b_5 w_2 =>
 storeP w_2 (⟨b_5, 0, none⟩ : Addr) 2 (ParamV.val v_4) fun w_3 =>
 loadP w_3 ((⟨b_5, 0, none⟩ : Addr).add 0) 1 (Value.int .u16) fun v_6 =>
 cond' (v_6 == kind) (
 loadP w_3 ((⟨b_5, 0, none⟩ : Addr).add 1) 1 SlV.val fun v_7 =>
 callP P 38 #[(SlV.val v_7)] w_3 SlV.val fun r_8 w_4 =>
 R (r_8, true) w_4) (
 next__1 (IntKind.i64.wrap (s_2 + (1 : Int))) w_3)) (
 R (SlV.nil, false) w_1)
def an79 : Ann := mkAnn [(2, [(10, (shInt .i64))])] []
theorem sf79_eq (ps : SlV) (kind : Int) (w0 : World) (R : (SlV × Bool) → World → Prop) : sf79 ps kind w0 R = vcFn P sh an79 Try.f79 [(SlV.val ps), (.int .u16 kind)] (shTup2 shSl shBool) w0 R := by kernel_rfl
theorem nm79 : (Try.f79.name == "runtime.NumGoroutine") = false := by kernel_rfl
theorem sf79_call (ps : SlV) (kind : Int) (w0 : World) (R : (SlV × Bool) → World → Prop) (hsf : sf79 ps kind w0 R) : callP P 79 #[(SlV.val ps), (.int .u16 kind)] w0 (shTup2 shSl shBool).val R :=
  vcFn_sound mixed Try.func79 nm79 (Eq.mp (sf79_eq ps kind w0 R) hsf)

/-- (*flume/octet.Reader).Take -/
def sf81 (r : Addr) (n : Int) (w0 : World) (R : SlV → World → Prop) : Prop :=
 cutP (Bool) (fun J_1 =>
 cond' (decide (n < (0 : Int))) (
 J_1 true w0) (
 loadP w0 (r.add 0) 1 SlV.val fun v_4 =>
 J_1 (decide (n > (v_4.len : Int))) w0)) fun _ s_2 w_1 =>
 cond' s_2 (
 storeP w_1 (r.add 1) 1 (.bool true) fun w_2 =>
 storeP w_2 (r.add 0) 1 (SlV.val SlV.nil) fun w_3 =>
 R SlV.nil w_3) (
 loadP w_1 (r.add 1) 1 Value.bool fun v_5 =>
 cond' v_5 (
 R SlV.nil w_1) (
 loadP w_1 (r.add 0) 1 SlV.val fun v_6 =>
 chkP (leR n (v_6.cap : Int)) <|
 chkP (leR 0 n) <|
 callP P 38 #[(SlV.val (SlV.sub v_6 (0) (Int.toNat n) v_6.cap 1))] w_1 SlV.val fun r_7 w_4 =>
 loadP w_4 (r.add 0) 1 SlV.val fun v_8 =>
 chkP (leR (v_8.len : Int) (v_8.cap : Int)) <|
 chkP (leR n (v_8.len : Int)) <|
 storeP w_4 (r.add 0) 1 (SlV.val (SlV.sub v_8 (Int.toNat n) (v_8.len) v_8.cap 1)) fun w_5 =>
 R r_7 w_5))
def an81 : Ann := mkAnn [] [(2, [(16, shBool)])]
theorem sf81_eq (r : Addr) (n : Int) (w0 : World) (R : SlV → World → Prop) : sf81 r n w0 R = vcFn P sh an81 Try.f81 [(.pointer (some r)), (.int .i64 n)] shSl w0 R := by kernel_rfl
theorem nm81 : (Try.f81.name == "runtime.NumGoroutine") = false := by kernel_rfl
theorem sf81_call (r : Addr) (n : Int) (w0 : World) (R : SlV → World → Prop) (hsf : sf81 r n w0 R) : callP P 81 #[(.pointer (some r)), (.int .i64 n)] w0 shSl.val R :=
  vcFn_sound mixed Try.func81 nm81 (Eq.mp (sf81_eq r n w0 R) hsf)

/-- slices.Equal[[]byte,byte] -/
def sf82 (s1 : SlV) (s2 : SlV) (w0 : World) (R : Bool → World → Prop) : Prop :=
 cond' ((s1.len : Int) != (s2.len : Int)) (
 R false w0) (
 loopP (Int) (0 : Int) w0 fun next__1 _ s_2 w_1 =>
 cond' (decide (s_2 < (s1.len : Int))) (
 chkP (inR s_2 s1.len) <|
 nilP s1.a fun a_3 =>
 loadP w_1.drew (a_3.add (Int.toNat s_2 * 1)) 1 (Value.int .u8) fun v_4 =>
 chkP (inR s_2 s2.len) <|
 nilP s2.a fun a_5 =>
 loadP w_1.drew (a_5.add (Int.toNat s_2 * 1)) 1 (Value.int .u8) fun v_6 =>
 cond' (v_4 != v_6) (
 R false w_1.drew) (
 next__1 (IntKind.i64.wrap (s_2 + (1 : Int))) w_1.drew)) (
 R true w_1))
def an82 : Ann := mkAnn [(4, [(13, (shInt .i64))])] []
theorem sf82_eq (s1 : SlV) (s2 : SlV) (w0 : World) (R : Bool → World → Prop) : sf82 s1 s2 w0 R = vcFn P sh an82 Try.f82 [(SlV.val s1), (SlV.val s2)] shBool w0 R := by kernel_rfl
theorem nm82 : (Try.f82.name == "runtime.NumGoroutine") = false := by kernel_rfl
theorem sf82_call (s1 : SlV) (s2 : SlV) (w0 : World) (R : Bool → World → Prop) (hsf : sf82 s1 s2 w0 R) : callP P 82 #[(SlV.val s1), (SlV.val s2)] w0 shBool.val R :=
  vcFn_sound mixed Try.func82 nm82 (Eq.mp (sf82_eq s1 s2 w0 R) hsf)

end Go.Vc.SA

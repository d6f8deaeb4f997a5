/-
  What functions of the program come to, read off their code. No condition.
-/
import Derived.Test.YtobldgdfejpckaaASh
set_option linter.all false
set_option linter.unusedVariables false
set_option maxRecDepth 100000
namespace Go.Vc.SA
open Go.Proofs
/-- slices.Chunk[[]byte,byte]$1 -/
def sf71 (L : Nat) (c1 : Addr) (c2 : Addr) (w0 : World) (R : Unit → World → Prop) : Prop :=
 loopP (Int) (0 : Int) w0 fun next__1 _ s_2 w_1 =>
 loadP w_1 c1 1 SlV.val fun v_3 =>
 cond' (decide (s_2 < (v_3.len : Int))) (
 loadP w_1.drew c2 1 (Value.int .i64) fun v_4 =>
 loadP w_1.drew c1 1 SlV.val fun v_5 =>
 chkP (leR (v_5.len : Int) (v_5.cap : Int)) <|
 chkP (leR s_2 (v_5.len : Int)) <|
 loadP w_1.drew c1 1 SlV.val fun v_6 =>
 chkP (leR (IntKind.i64.wrap (s_2 + (if ((SlV.sub v_5 (Int.toNat s_2) (v_5.len) v_5.cap 1).len : Int) < v_4 then ((SlV.sub v_5 (Int.toNat s_2) (v_5.len) v_5.cap 1).len : Int) else v_4))) (v_6.cap : Int)) <|
 chkP (leR (IntKind.i64.wrap (s_2 + (if ((SlV.sub v_5 (Int.toNat s_2) (v_5.len) v_5.cap 1).len : Int) < v_4 then ((SlV.sub v_5 (Int.toNat s_2) (v_5.len) v_5.cap 1).len : Int) else v_4))) (IntKind.i64.wrap (s_2 + (if ((SlV.sub v_5 (Int.toNat s_2) (v_5.len) v_5.cap 1).len : Int) < v_4 then ((SlV.sub v_5 (Int.toNat s_2) (v_5.len) v_5.cap 1).len : Int) else v_4)))) <|
 chkP (leR s_2 (IntKind.i64.wrap (s_2 + (if ((SlV.sub v_5 (Int.toNat s_2) (v_5.len) v_5.cap 1).len : Int) < v_4 then ((SlV.sub v_5 (Int.toNat s_2) (v_5.len) v_5.cap 1).len : Int) else v_4)))) <|
 yieldP P L [(SlV.val (SlV.sub v_6 (Int.toNat s_2) (Int.toNat (IntKind.i64.wrap (s_2 + (if ((SlV.sub v_5 (Int.toNat s_2) (v_5.len) v_5.cap 1).len : Int) < v_4 then ((SlV.sub v_5 (Int.toNat s_2) (v_5.len) v_5.cap 1).len : Int) else v_4)))) (Int.toNat (IntKind.i64.wrap (s_2 + (if ((SlV.sub v_5 (Int.toNat s_2) (v_5.len) v_5.cap 1).len : Int) < v_4 then ((SlV.sub v_5 (Int.toNat s_2) (v_5.len) v_5.cap 1).len : Int) else v_4)))) 1))] w_1.drew Value.bool fun r_7 w_2 =>
 cond' (!r_7) (
 R () w_2) (
 loadP w_2 c2 1 (Value.int .i64) fun v_8 =>
 next__1 (IntKind.i64.wrap (s_2 + v_8)) w_2)) (
 R () w_1)
def an71 : Ann := mkAnn [(1, [(4, (shInt .i64))])] []
theorem sf71_eq (L : Nat) (c1 : Addr) (c2 : Addr) (w0 : World) (R : Unit → World → Prop) : sf71 L c1 c2 w0 R = vcFn P sh an71 Try.f71 [(.func (.yield L) #[] #[]), (.pointer (some c1)), (.pointer (some c2))] shUnit w0 R := by kernel_rfl
theorem nm71 : (Try.f71.name == "runtime.NumGoroutine") = false := by kernel_rfl
theorem sf71_call (L : Nat) (c1 : Addr) (c2 : Addr) (w0 : World) (R : Unit → World → Prop) (hsf : sf71 L c1 c2 w0 R) : callP P 71 #[(.func (.yield L) #[] #[]), (.pointer (some c1)), (.pointer (some c2))] w0 shUnit.val R :=
  vcFn_sound mixed Try.func71 nm71 (Eq.mp (sf71_eq L c1 c2 w0 R) hsf)

/-- (*flume/mac.state).block$1 -/
def sf72 (x : Int) (n : Int) (w0 : World) (R : Int → World → Prop) : Prop :=
 callP P 73 #[(.int .u32 x), (.int .i64 (IntKind.i64.wrap (0 - n)))] w0 (Value.int .u32) fun r_1 w_1 =>
 R r_1 w_1
def an72 : Ann := mkAnn [] []
theorem sf72_eq (x : Int) (n : Int) (w0 : World) (R : Int → World → Prop) : sf72 x n w0 R = vcFn P sh an72 Try.f72 [(.int .u32 x), (.int .i64 n)] (shInt .u32) w0 R := by kernel_rfl
theorem nm72 : (Try.f72.name == "runtime.NumGoroutine") = false := by kernel_rfl
theorem sf72_call (x : Int) (n : Int) (w0 : World) (R : Int → World → Prop) (hsf : sf72 x n w0 R) : callP P 72 #[(.int .u32 x), (.int .i64 n)] w0 (shInt .u32).val R :=
  vcFn_sound mixed Try.func72 nm72 (Eq.mp (sf72_eq x n w0 R) hsf)

/-- math/bits.RotateLeft32 -/
def sf73 (x : Int) (k : Int) (w0 : World) (R : Int → World → Prop) : Prop :=
 chkP (decide (0 ≤ (bits .and .u64 (IntKind.u64.wrap k) (31 : Int)))) <|
 chkP (decide (0 ≤ (IntKind.u64.wrap ((32 : Int) - (bits .and .u64 (IntKind.u64.wrap k) (31 : Int)))))) <|
 R (bits .or .u32 (IntKind.u32.wrap (x * 2 ^ (min (Int.toNat (bits .and .u64 (IntKind.u64.wrap k) (31 : Int))) IntKind.u32.bits))) (Int.fdiv x (2 ^ (min (Int.toNat (IntKind.u64.wrap ((32 : Int) - (bits .and .u64 (IntKind.u64.wrap k) (31 : Int))))) IntKind.u32.bits)))) w0
def an73 : Ann := mkAnn [] []
theorem sf73_eq (x : Int) (k : Int) (w0 : World) (R : Int → World → Prop) : sf73 x k w0 R = vcFn P sh an73 Try.f73 [(.int .u32 x), (.int .i64 k)] (shInt .u32) w0 R := by kernel_rfl
theorem nm73 : (Try.f73.name == "runtime.NumGoroutine") = false := by kernel_rfl
theorem sf73_call (x : Int) (k : Int) (w0 : World) (R : Int → World → Prop) (hsf : sf73 x k w0 R) : callP P 73 #[(.int .u32 x), (.int .i64 k)] w0 (shInt .u32).val R :=
  vcFn_sound mixed Try.func73 nm73 (Eq.mp (sf73_eq x k w0 R) hsf)

/-- flume/mac.rounds -/
def sf74 (w0 : World) (R : (List Int) → World → Prop) : Prop :=
 newP w0 (.cells ((arrV .u32) (List.replicate 64 0)).cells 98) fun b_1 w_1 =>
 storeP w_1 (⟨b_1, 0, none⟩ : Addr) 64 ((arrV .u32) ([(1116352408 : Int), (1899447441 : Int), (3049323471 : Int), (3921009573 : Int), (961987163 : Int), (1508970993 : Int), (2453635748 : Int), (2870763221 : Int), (3624381080 : Int), (310598401 : Int), (607225278 : Int), (1426881987 : Int), (1925078388 : Int), (2162078206 : Int), (2614888103 : Int), (3248222580 : Int), (3835390401 : Int), (4022224774 : Int), (264347078 : Int), (604807628 : Int), (770255983 : Int), (1249150122 : Int), (1555081692 : Int), (1996064986 : Int), (2554220882 : Int), (2821834349 : Int), (2952996808 : Int), (3210313671 : Int), (3336571891 : Int), (3584528711 : Int), (113926993 : Int), (338241895 : Int), (666307205 : Int), (773529912 : Int), (1294757372 : Int), (1396182291 : Int), (1695183700 : Int), (1986661051 : Int), (2177026350 : Int), (2456956037 : Int), (2730485921 : Int), (2820302411 : Int), (3259730800 : Int), (3345764771 : Int), (3516065817 : Int), (3600352804 : Int), (4094571909 : Int), (275423344 : Int), (430227734 : Int), (506948616 : Int), (659060556 : Int), (883997877 : Int), (958139571 : Int), (1322822218 : Int), (1537002063 : Int), (1747873779 : Int), (1955562222 : Int), (2024104815 : Int), (2227730452 : Int), (2361852424 : Int), (2428436474 : Int), (2756734187 : Int), (3204031479 : Int), (3329325298 : Int)])) fun w_2 =>
 loadP w_2 (⟨b_1, 0, none⟩ : Addr) 64 (arrV .u32) fun v_2 =>
 unArrP .u32 ((arrV .u32) v_2) fun z_3 =>
 R z_3 w_2
def an74 : Ann := mkAnn [] []
theorem sf74_eq (w0 : World) (R : (List Int) → World → Prop) : sf74 w0 R = vcFn P sh an74 Try.f74 [] (shArr .u32) w0 R := by kernel_rfl
theorem nm74 : (Try.f74.name == "runtime.NumGoroutine") = false := by kernel_rfl
theorem sf74_call (w0 : World) (R : (List Int) → World → Prop) (hsf : sf74 w0 R) : callP P 74 #[] w0 (shArr .u32).val R :=
  vcFn_sound mixed Try.func74 nm74 (Eq.mp (sf74_eq w0 R) hsf)

/-- (*flume/octet.Reader).number -/
def sf75 (r : Addr) (n : Int) (w0 : World) (R : Int → World → Prop) : Prop :=
 callP P 81 #[(.pointer (some r)), (.int .i64 n)] w0 SlV.val fun r_1 w_1 =>
 loopP (Int × Int) ((0 : Int), (0 : Int)) w_1 fun next__2 _ s_3 w_2 =>
 cond' (decide (s_3.2 < (r_1.len : Int))) (
 chkP (inR s_3.2 r_1.len) <|
 nilP r_1.a fun a_4 =>
 loadP w_2 (a_4.add (Int.toNat s_3.2 * 1)) 1 (Value.int .u8) fun v_5 =>
 next__2 ((bits .or .u32 (IntKind.u32.wrap (s_3.1 * 2 ^ (min (Int.toNat (8 : Int)) IntKind.u32.bits))) (IntKind.u32.wrap v_5)), (IntKind.i64.wrap (s_3.2 + (1 : Int)))) w_2) (
 R s_3.1 w_2)
def an75 : Ann := mkAnn [(3, [(5, (shInt .u32)), (12, (shInt .i64))])] []
theorem sf75_eq (r : Addr) (n : Int) (w0 : World) (R : Int → World → Prop) : sf75 r n w0 R = vcFn P sh an75 Try.f75 [(.pointer (some r)), (.int .i64 n)] (shInt .u32) w0 R := by kernel_rfl
theorem nm75 : (Try.f75.name == "runtime.NumGoroutine") = false := by kernel_rfl
theorem sf75_call (r : Addr) (n : Int) (w0 : World) (R : Int → World → Prop) (hsf : sf75 r n w0 R) : callP P 75 #[(.pointer (some r)), (.int .i64 n)] w0 (shInt .u32).val R :=
  vcFn_sound mixed Try.func75 nm75 (Eq.mp (sf75_eq r n w0 R) hsf)

/-- (*flume/flumeref04.Tape).Take -/
def sf76 (t : Addr) (n : Int) (w0 : World) (R : SlV → World → Prop) : Prop :=
 cutP (Bool) (fun J_1 =>
 loadP w0.drew (t.add 2) 1 Value.bool fun v_3 =>
 cond' v_3 (
 J_1 true w0.drew) (
 cond' (decide (n < (0 : Int))) (
 J_1 true w0.drew) (
 loadP w0.drew (t.add 0) 1 SlV.val fun v_6 =>
 loadP w0.drew (t.add 1) 1 (Value.int .i64) fun v_7 =>
 J_1 (decide (n > (IntKind.i64.wrap ((v_6.len : Int) - v_7)))) w0.drew))) fun _ s_2 w_1 =>
 cond' s_2 (
 storeP w_1 (t.add 2) 1 (.bool true) fun w_2 =>
 loadP w_2 (t.add 0) 1 SlV.val fun v_8 =>
 storeP w_2 (t.add 1) 1 (.int .i64 (v_8.len : Int)) fun w_3 =>
 R SlV.nil w_3) (
 loadP w_1 (t.add 1) 1 (Value.int .i64) fun v_9 =>
 storeP w_1 (t.add 1) 1 (.int .i64 (IntKind.i64.wrap (v_9 + n))) fun w_4 =>
 loadP w_4.drew (t.add 0) 1 SlV.val fun v_10 =>
 loadP w_4.drew (t.add 1) 1 (Value.int .i64) fun v_11 =>
 loadP w_4.drew (t.add 1) 1 (Value.int .i64) fun v_12 =>
 chkP (leR v_12 (v_10.cap : Int)) <|
 chkP (leR (IntKind.i64.wrap (v_11 - n)) v_12) <|
 R (SlV.sub v_10 (Int.toNat (IntKind.i64.wrap (v_11 - n))) (Int.toNat v_12) v_10.cap 1) w_4.drew)
def an76 : Ann := mkAnn [] [(2, [(26, shBool)])]
theorem sf76_eq (t : Addr) (n : Int) (w0 : World) (R : SlV → World → Prop) : sf76 t n w0 R = vcFn P sh an76 Try.f76 [(.pointer (some t)), (.int .i64 n)] shSl w0 R := by kernel_rfl
theorem nm76 : (Try.f76.name == "runtime.NumGoroutine") = false := by kernel_rfl
theorem sf76_call (t : Addr) (n : Int) (w0 : World) (R : SlV → World → Prop) (hsf : sf76 t n w0 R) : callP P 76 #[(.pointer (some t)), (.int .i64 n)] w0 shSl.val R :=
  vcFn_sound mixed Try.func76 nm76 (Eq.mp (sf76_eq t n w0 R) hsf)

/-- (*flume/octet.Reader).Take -/
def sf81 (r : Addr) (n : Int) (w0 : World) (R : SlV → World → Prop) : Prop :=
 cutP (Bool) (fun J_1 =>
 cond' (decide (n < (0 : Int))) (
 J_1 true w0) (
 loadP w0 (r.add 0) 1 SlV.val fun v_4 =>
 J_1 (decide (n > (v_4.len : Int))) w0)) fun _ s_2 w_1 =>
 cond' s_2 (
 storeP w_1 (r.add 1) 1 (.bool true) fun w_2 =>
 storeP w_2 (r.add 0) 1 (SlV.val SlV.nil) fun w_3 =>
 R SlV.nil w_3) (
 loadP w_1 (r.add 1) 1 Value.bool fun v_5 =>
 cond' v_5 (
 R SlV.nil w_1) (
 loadP w_1 (r.add 0) 1 SlV.val fun v_6 =>
 chkP (leR n (v_6.cap : Int)) <|
 chkP (leR 0 n) <|
 callP P 38 #[(SlV.val (SlV.sub v_6 (0) (Int.toNat n) v_6.cap 1))] w_1 SlV.val fun r_7 w_4 =>
 loadP w_4 (r.add 0) 1 SlV.val fun v_8 =>
 chkP (leR (v_8.len : Int) (v_8.cap : Int)) <|
 chkP (leR n (v_8.len : Int)) <|
 storeP w_4 (r.add 0) 1 (SlV.val (SlV.sub v_8 (Int.toNat n) (v_8.len) v_8.cap 1)) fun w_5 =>
 R r_7 w_5))
def an81 : Ann := mkAnn [] [(2, [(16, shBool)])]
theorem sf81_eq (r : Addr) (n : Int) (w0 : World) (R : SlV → World → Prop) : sf81 r n w0 R = vcFn P sh an81 Try.f81 [(.pointer (some r)), (.int .i64 n)] shSl w0 R := by kernel_rfl
theorem nm81 : (Try.f81.name == "runtime.NumGoroutine") = false := by kernel_rfl
theorem sf81_call (r : Addr) (n : Int) (w0 : World) (R : SlV → World → Prop) (hsf : sf81 r n w0 R) : callP P 81 #[(.pointer (some r)), (.int .i64 n)] w0 shSl.val R :=
  vcFn_sound mixed Try.func81 nm81 (Eq.mp (sf81_eq r n w0 R) hsf)

end Go.Vc.SA

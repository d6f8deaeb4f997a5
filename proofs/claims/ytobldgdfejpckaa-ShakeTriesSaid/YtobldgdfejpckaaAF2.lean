/-
  What functions of the program come to, read off their code. No condition.
-/
import Derived.Test.YtobldgdfejpckaaASh
set_option linter.all false
set_option linter.unusedVariables false
set_option maxRecDepth 100000
namespace Go.Vc.SA
open Go.Proofs
/-- (*flume/shake.Part).Hear -/
def sf30 (p : Addr) (tag : Int) (c : ChunkV) (now : Int) (w0 : World) (R : SlV → World → Prop) : Prop :=
 newP w0 (.cells (ChunkV.val c).cells 57) fun b_1 w_1 =>
 cutP (Bool) (fun J_2 =>
 loadP w_1 ((⟨b_1, 0, none⟩ : Addr).add 0) 1 (Value.int .u8) fun v_4 =>
 cond' (v_4 == (1 : Int)) (
 J_2 (tag == (0 : Int)) w_1) (
 J_2 false w_1)) fun _ s_3 w_2 =>
 cond' s_3 (
 loadP w_2 (⟨b_1, 0, none⟩ : Addr) 19 ChunkV.val fun v_6 =>
 callP P 62 #[(.pointer (some p)), (ChunkV.val v_6), (.int .u64 now)] w_2 SlV.val fun r_7 w_3 =>
 R r_7 w_3) (
 cutP (Bool) (fun J_8 =>
 loadP w_2 ((⟨b_1, 0, none⟩ : Addr).add 0) 1 (Value.int .u8) fun v_10 =>
 cond' (v_10 == (6 : Int)) (
 callP P 63 #[(.pointer (some p))] w_2 Value.bool fun r_12 w_5 =>
 cond' r_12 (
 loadP w_5 ((p.add 0).add 0) 1 (Value.int .u32) fun v_14 =>
 cond' (tag == v_14) (
 J_8 true w_5) (
 loadP w_5 ((⟨b_1, 0, none⟩ : Addr).add 4) 1 Value.bool fun v_16 =>
 cond' v_16 (
 loadP w_5 ((p.add 6).add 0) 1 (Value.int .u32) fun v_18 =>
 cond' (tag == v_18) (
 J_8 (tag != (0 : Int)) w_5) (
 J_8 false w_5)) (
 J_8 false w_5))) (
 J_8 false w_5)) (
 J_8 false w_2)) fun _ s_9 w_4 =>
 cond' s_9 (
 callP P 60 #[(.pointer (some p)), (.int .i64 (9 : Int))] w_4 unitV fun r_20 w_6 =>
 R SlV.nil w_6) (
 loadP w_4 ((p.add 0).add 0) 1 (Value.int .u32) fun v_21 =>
 cond' (tag != v_21) (
 R SlV.nil w_4) (
 loadP w_4 ((⟨b_1, 0, none⟩ : Addr).add 0) 1 (Value.int .u8) fun v_22 =>
 cond' (v_22 == (2 : Int)) (
 loadP w_4 (⟨b_1, 0, none⟩ : Addr) 19 ChunkV.val fun v_23 =>
 callP P 64 #[(.pointer (some p)), (ChunkV.val v_23)] w_4 SlV.val fun r_24 w_7 =>
 R r_24 w_7) (
 cond' (v_22 == (10 : Int)) (
 loadP w_4 (⟨b_1, 0, none⟩ : Addr) 19 ChunkV.val fun v_25 =>
 callP P 65 #[(.pointer (some p)), (ChunkV.val v_25), (.int .u64 now)] w_4 SlV.val fun r_26 w_8 =>
 R r_26 w_8) (
 cond' (v_22 == (11 : Int)) (
 loadP w_4 (p.add 5) 1 (Value.int .i64) fun v_27 =>
 cond' (v_27 == (2 : Int)) (
 callP P 60 #[(.pointer (some p)), (.int .i64 (3 : Int))] w_4 unitV fun r_28 w_9 =>
 R SlV.nil w_9) (
 R SlV.nil w_4)) (
 cond' (v_22 == (7 : Int)) (
 loadP w_4 (p.add 5) 1 (Value.int .i64) fun v_29 =>
 cutP (Bool) (fun J_30 =>
 cond' (v_29 == (3 : Int)) (
 J_30 (v_29 == (3 : Int)) w_4) (
 J_30 (v_29 == (4 : Int)) w_4)) fun _ s_31 w_10 =>
 cond' s_31 (
 callP P 60 #[(.pointer (some p)), (.int .i64 (6 : Int))] w_10 unitV fun r_32 w_11 =>
 R SlV.nil w_11) (
 cond' (v_29 == (5 : Int)) (
 callP P 60 #[(.pointer (some p)), (.int .i64 (7 : Int))] w_10 unitV fun r_33 w_12 =>
 callP P 66 #[(.pointer (some p)), (ChunkV.val ({ Kind := (8 : Int), Begin := false, End := false, Loose := false, Bare := false, Tsn := 0, Stream := 0, Mid := 0, Ppid := 0, Frag := 0, Tag := 0, Window := 0, Out := 0, In := 0, Gaps := SlV.nil, Dups := SlV.nil, Skips := SlV.nil, Params := SlV.nil, Body := SlV.nil } : ChunkV))] w_12 SlV.val fun r_34 w_13 =>
 R r_34 w_13) (
 R SlV.nil w_10))) (
 cond' (v_22 == (8 : Int)) (
 loadP w_4 (p.add 5) 1 (Value.int .i64) fun v_35 =>
 cond' (v_35 == (5 : Int)) (
 cond' (v_35 == (5 : Int)) (
 callP P 60 #[(.pointer (some p)), (.int .i64 (8 : Int))] w_4 unitV fun r_36 w_14 =>
 callP P 66 #[(.pointer (some p)), (ChunkV.val ({ Kind := (14 : Int), Begin := false, End := false, Loose := false, Bare := false, Tsn := 0, Stream := 0, Mid := 0, Ppid := 0, Frag := 0, Tag := 0, Window := 0, Out := 0, In := 0, Gaps := SlV.nil, Dups := SlV.nil, Skips := SlV.nil, Params := SlV.nil, Body := SlV.nil } : ChunkV))] w_14 SlV.val fun r_37 w_15 =>
 R r_37 w_15) (
 cond' (v_35 == (8 : Int)) (
 callP P 66 #[(.pointer (some p)), (ChunkV.val ({ Kind := (14 : Int), Begin := false, End := false, Loose := false, Bare := false, Tsn := 0, Stream := 0, Mid := 0, Ppid := 0, Frag := 0, Tag := 0, Window := 0, Out := 0, In := 0, Gaps := SlV.nil, Dups := SlV.nil, Skips := SlV.nil, Params := SlV.nil, Body := SlV.nil } : ChunkV))] w_4 SlV.val fun r_38 w_16 =>
 R r_38 w_16) (
 R SlV.nil w_4))) (
 cond' (v_35 == (7 : Int)) (
 callP P 60 #[(.pointer (some p)), (.int .i64 (8 : Int))] w_4 unitV fun r_39 w_17 =>
 callP P 66 #[(.pointer (some p)), (ChunkV.val ({ Kind := (14 : Int), Begin := false, End := false, Loose := false, Bare := false, Tsn := 0, Stream := 0, Mid := 0, Ppid := 0, Frag := 0, Tag := 0, Window := 0, Out := 0, In := 0, Gaps := SlV.nil, Dups := SlV.nil, Skips := SlV.nil, Params := SlV.nil, Body := SlV.nil } : ChunkV))] w_17 SlV.val fun r_40 w_18 =>
 R r_40 w_18) (
 cond' (v_35 == (8 : Int)) (
 callP P 66 #[(.pointer (some p)), (ChunkV.val ({ Kind := (14 : Int), Begin := false, End := false, Loose := false, Bare := false, Tsn := 0, Stream := 0, Mid := 0, Ppid := 0, Frag := 0, Tag := 0, Window := 0, Out := 0, In := 0, Gaps := SlV.nil, Dups := SlV.nil, Skips := SlV.nil, Params := SlV.nil, Body := SlV.nil } : ChunkV))] w_4 SlV.val fun r_41 w_19 =>
 R r_41 w_19) (
 R SlV.nil w_4)))) (
 cond' (v_22 == (14 : Int)) (
 loadP w_4 (p.add 5) 1 (Value.int .i64) fun v_42 =>
 cond' (v_42 == (7 : Int)) (
 callP P 60 #[(.pointer (some p)), (.int .i64 (8 : Int))] w_4 unitV fun r_43 w_20 =>
 R SlV.nil w_20) (
 R SlV.nil w_4)) (
 R SlV.nil w_4)))))))))
def an30 : Ann := mkAnn [] [(2, [(9, shBool)]), (4, [(21, shBool)]), (20, [(93, shBool)])]
theorem sf30_eq (p : Addr) (tag : Int) (c : ChunkV) (now : Int) (w0 : World) (R : SlV → World → Prop) : sf30 p tag c now w0 R = vcFn P sh an30 Try.f30 [(.pointer (some p)), (.int .u32 tag), (ChunkV.val c), (.int .u64 now)] shSl w0 R := by kernel_rfl
theorem nm30 : (Try.f30.name == "runtime.NumGoroutine") = false := by kernel_rfl
theorem sf30_call (p : Addr) (tag : Int) (c : ChunkV) (now : Int) (w0 : World) (R : SlV → World → Prop) (hsf : sf30 p tag c now w0 R) : callP P 30 #[(.pointer (some p)), (.int .u32 tag), (ChunkV.val c), (.int .u64 now)] w0 shSl.val R :=
  vcFn_sound mixed Try.func30 nm30 (Eq.mp (sf30_eq p tag c now w0 R) hsf)

/-- (*flume/shake.Part).Stage -/
def sf31 (p : Addr) (w0 : World) (R : Int → World → Prop) : Prop :=
 loadP w0 (p.add 5) 1 (Value.int .i64) fun v_1 =>
 R v_1 w0
def an31 : Ann := mkAnn [] []
theorem sf31_eq (p : Addr) (w0 : World) (R : Int → World → Prop) : sf31 p w0 R = vcFn P sh an31 Try.f31 [(.pointer (some p))] (shInt .i64) w0 R := by kernel_rfl
theorem nm31 : (Try.f31.name == "runtime.NumGoroutine") = false := by kernel_rfl
theorem sf31_call (p : Addr) (w0 : World) (R : Int → World → Prop) (hsf : sf31 p w0 R) : callP P 31 #[(.pointer (some p))] w0 (shInt .i64).val R :=
  vcFn_sound mixed Try.func31 nm31 (Eq.mp (sf31_eq p w0 R) hsf)

/-- (*flume/shake.Part).Break -/
def sf32 (p : Addr) (w0 : World) (R : SlV → World → Prop) : Prop :=
 callP P 63 #[(.pointer (some p))] w0 Value.bool fun r_1 w_1 =>
 cond' (!r_1) (
 R SlV.nil w_1) (
 callP P 60 #[(.pointer (some p)), (.int .i64 (9 : Int))] w_1 unitV fun r_2 w_2 =>
 loadP w_2 (p.add 6) 4 MetV.val fun v_3 =>
 newP w_2 (.cells (MetV.val ({ Tag := 0, Tsn := 0, Window := 0, Inter := false } : MetV)).cells 73) fun b_4 w_3 =>
 storeP w_3 (⟨b_4, 0, none⟩ : Addr) 4 (MetV.val v_3) fun w_4 =>
 loadP w_4 (⟨b_4, 0, none⟩ : Addr) 4 MetV.val fun v_5 =>
 loadP w_4 ((⟨b_4, 0, none⟩ : Addr).add 1) 1 (Value.int .u32) fun v_6 =>
 loadP w_4 ((⟨b_4, 0, none⟩ : Addr).add 2) 1 (Value.int .u32) fun v_7 =>
 loadP w_4 ((⟨b_4, 0, none⟩ : Addr).add 3) 1 Value.bool fun v_8 =>
 cond' (negB false ((v_5.Tag == 0) && ((v_5.Tsn == v_6) && ((v_5.Window == v_7) && ((v_5.Inter == v_8) && true))))) (
 R SlV.nil w_4) (
 callP P 66 #[(.pointer (some p)), (ChunkV.val ({ Kind := (6 : Int), Begin := false, End := false, Loose := false, Bare := false, Tsn := 0, Stream := 0, Mid := 0, Ppid := 0, Frag := 0, Tag := 0, Window := 0, Out := 0, In := 0, Gaps := SlV.nil, Dups := SlV.nil, Skips := SlV.nil, Params := SlV.nil, Body := SlV.nil } : ChunkV))] w_4 SlV.val fun r_9 w_5 =>
 R r_9 w_5))
def an32 : Ann := mkAnn [] []
theorem sf32_eq (p : Addr) (w0 : World) (R : SlV → World → Prop) : sf32 p w0 R = vcFn P sh an32 Try.f32 [(.pointer (some p))] shSl w0 R := by kernel_rfl
theorem nm32 : (Try.f32.name == "runtime.NumGoroutine") = false := by kernel_rfl
theorem sf32_call (p : Addr) (w0 : World) (R : SlV → World → Prop) (hsf : sf32 p w0 R) : callP P 32 #[(.pointer (some p))] w0 shSl.val R :=
  vcFn_sound mixed Try.func32 nm32 (Eq.mp (sf32_eq p w0 R) hsf)

/-- (*flume/shake.Part).Shut -/
def sf33 (p : Addr) (w0 : World) (R : Bool → World → Prop) : Prop :=
 loadP w0 (p.add 5) 1 (Value.int .i64) fun v_1 =>
 cond' (v_1 != (3 : Int)) (
 R false w0) (
 callP P 60 #[(.pointer (some p)), (.int .i64 (4 : Int))] w0 unitV fun r_2 w_1 =>
 R true w_1)
def an33 : Ann := mkAnn [] []
theorem sf33_eq (p : Addr) (w0 : World) (R : Bool → World → Prop) : sf33 p w0 R = vcFn P sh an33 Try.f33 [(.pointer (some p))] shBool w0 R := by kernel_rfl
theorem nm33 : (Try.f33.name == "runtime.NumGoroutine") = false := by kernel_rfl
theorem sf33_call (p : Addr) (w0 : World) (R : Bool → World → Prop) (hsf : sf33 p w0 R) : callP P 33 #[(.pointer (some p))] w0 shBool.val R :=
  vcFn_sound mixed Try.func33 nm33 (Eq.mp (sf33_eq p w0 R) hsf)

/-- (*flume/shake.Part).Again -/
def sf34 (p : Addr) (mark : Int) (w0 : World) (R : SlV → World → Prop) : Prop :=
 cutP (SlV) (fun J_1 =>
 loadP w0 (p.add 5) 1 (Value.int .i64) fun v_3 =>
 cond' (v_3 == (1 : Int)) (
 callP P 61 #[(.pointer (some p)), (.int .u8 (1 : Int)), (SlV.val SlV.nil)] w0 ChunkV.val fun r_4 w_2 =>
 newP w_2 (.cells (NoteV.val ({ Tag := 0, Chunk := r_4 } : NoteV)).cells 59) fun b_5 w_3 =>
 J_1 (SlV.mk (some (⟨b_5, 0, none⟩ : Addr)) 1 1) w_3) (
 cond' (v_3 == (2 : Int)) (
 loadP w0 (p.add 10) 1 SlV.val fun v_6 =>
 callP P 38 #[(SlV.val v_6)] w0 SlV.val fun r_7 w_4 =>
 callP P 66 #[(.pointer (some p)), (ChunkV.val ({ Kind := (10 : Int), Begin := false, End := false, Loose := false, Bare := false, Tsn := 0, Stream := 0, Mid := 0, Ppid := 0, Frag := 0, Tag := 0, Window := 0, Out := 0, In := 0, Gaps := SlV.nil, Dups := SlV.nil, Skips := SlV.nil, Params := SlV.nil, Body := r_7 } : ChunkV))] w_4 SlV.val fun r_8 w_5 =>
 J_1 r_8 w_5) (
 cond' (v_3 == (5 : Int)) (
 callP P 66 #[(.pointer (some p)), (ChunkV.val ({ Kind := (7 : Int), Begin := false, End := false, Loose := false, Bare := false, Tsn := mark, Stream := 0, Mid := 0, Ppid := 0, Frag := 0, Tag := 0, Window := 0, Out := 0, In := 0, Gaps := SlV.nil, Dups := SlV.nil, Skips := SlV.nil, Params := SlV.nil, Body := SlV.nil } : ChunkV))] w0 SlV.val fun r_9 w_6 =>
 J_1 r_9 w_6) (
 cond' (v_3 == (7 : Int)) (
 callP P 66 #[(.pointer (some p)), (ChunkV.val ({ Kind := (8 : Int), Begin := false, End := false, Loose := false, Bare := false, Tsn := 0, Stream := 0, Mid := 0, Ppid := 0, Frag := 0, Tag := 0, Window := 0, Out := 0, In := 0, Gaps := SlV.nil, Dups := SlV.nil, Skips := SlV.nil, Params := SlV.nil, Body := SlV.nil } : ChunkV))] w0 SlV.val fun r_10 w_7 =>
 J_1 r_10 w_7) (
 R SlV.nil w0))))) fun _ s_2 w_1 =>
 loadP w_1 (p.add 11) 1 (Value.int .i64) fun v_11 =>
 storeP w_1 (p.add 11) 1 (.int .i64 (IntKind.i64.wrap (v_11 + (1 : Int)))) fun w_8 =>
 loadP w_8 (p.add 11) 1 (Value.int .i64) fun v_12 =>
 cond' (decide (v_12 > (8 : Int))) (
 callP P 60 #[(.pointer (some p)), (.int .i64 (9 : Int))] w_8 unitV fun r_13 w_9 =>
 R SlV.nil w_9) (
 R s_2 w_8)
def an34 : Ann := mkAnn [] [(12, [(5, shSl)])]
theorem sf34_eq (p : Addr) (mark : Int) (w0 : World) (R : SlV → World → Prop) : sf34 p mark w0 R = vcFn P sh an34 Try.f34 [(.pointer (some p)), (.int .u32 mark)] shSl w0 R := by kernel_rfl
theorem nm34 : (Try.f34.name == "runtime.NumGoroutine") = false := by kernel_rfl
theorem sf34_call (p : Addr) (mark : Int) (w0 : World) (R : SlV → World → Prop) (hsf : sf34 p mark w0 R) : callP P 34 #[(.pointer (some p)), (.int .u32 mark)] w0 shSl.val R :=
  vcFn_sound mixed Try.func34 nm34 (Eq.mp (sf34_eq p mark w0 R) hsf)

/-- flume/flumeref06.Same -/
def sf35 (a : ChunkV) (b : ChunkV) (w0 : World) (R : Bool → World → Prop) : Prop :=
 newP w0 (.cells (ChunkV.val a).cells 57) fun b_1 w_1 =>
 newP w_1 (.cells (ChunkV.val b).cells 57) fun b_2 w_2 =>
 cutP (Unit) (fun J_3 =>
 loadP w_2 ((⟨b_1, 0, none⟩ : Addr).add 0) 1 (Value.int .u8) fun v_5 =>
 loadP w_2 ((⟨b_2, 0, none⟩ : Addr).add 0) 1 (Value.int .u8) fun v_6 =>
 cond' (v_5 != v_6) (
 R false w_2) (
 loadP w_2 ((⟨b_1, 0, none⟩ : Addr).add 1) 1 Value.bool fun v_8 =>
 loadP w_2 ((⟨b_2, 0, none⟩ : Addr).add 1) 1 Value.bool fun v_9 =>
 cond' (negB true (v_8 == v_9)) (
 R false w_2) (
 loadP w_2 ((⟨b_1, 0, none⟩ : Addr).add 2) 1 Value.bool fun v_11 =>
 loadP w_2 ((⟨b_2, 0, none⟩ : Addr).add 2) 1 Value.bool fun v_12 =>
 cond' (negB true (v_11 == v_12)) (
 R false w_2) (
 loadP w_2 ((⟨b_1, 0, none⟩ : Addr).add 3) 1 Value.bool fun v_14 =>
 loadP w_2 ((⟨b_2, 0, none⟩ : Addr).add 3) 1 Value.bool fun v_15 =>
 cond' (negB true (v_14 == v_15)) (
 R false w_2) (
 loadP w_2 ((⟨b_1, 0, none⟩ : Addr).add 4) 1 Value.bool fun v_17 =>
 loadP w_2 ((⟨b_2, 0, none⟩ : Addr).add 4) 1 Value.bool fun v_18 =>
 cond' (negB true (v_17 == v_18)) (
 R false w_2) (
 loadP w_2 ((⟨b_1, 0, none⟩ : Addr).add 5) 1 (Value.int .u32) fun v_20 =>
 loadP w_2 ((⟨b_2, 0, none⟩ : Addr).add 5) 1 (Value.int .u32) fun v_21 =>
 cond' (v_20 != v_21) (
 R false w_2) (
 loadP w_2 ((⟨b_1, 0, none⟩ : Addr).add 6) 1 (Value.int .u16) fun v_23 =>
 loadP w_2 ((⟨b_2, 0, none⟩ : Addr).add 6) 1 (Value.int .u16) fun v_24 =>
 cond' (v_23 != v_24) (
 R false w_2) (
 loadP w_2 ((⟨b_1, 0, none⟩ : Addr).add 7) 1 (Value.int .u32) fun v_26 =>
 loadP w_2 ((⟨b_2, 0, none⟩ : Addr).add 7) 1 (Value.int .u32) fun v_27 =>
 cond' (v_26 != v_27) (
 R false w_2) (
 loadP w_2 ((⟨b_1, 0, none⟩ : Addr).add 8) 1 (Value.int .u32) fun v_29 =>
 loadP w_2 ((⟨b_2, 0, none⟩ : Addr).add 8) 1 (Value.int .u32) fun v_30 =>
 cond' (v_29 != v_30) (
 R false w_2) (
 loadP w_2 ((⟨b_1, 0, none⟩ : Addr).add 9) 1 (Value.int .u32) fun v_32 =>
 loadP w_2 ((⟨b_2, 0, none⟩ : Addr).add 9) 1 (Value.int .u32) fun v_33 =>
 cond' (v_32 != v_33) (
 R false w_2) (
 loadP w_2 ((⟨b_1, 0, none⟩ : Addr).add 10) 1 (Value.int .u32) fun v_35 =>
 loadP w_2 ((⟨b_2, 0, none⟩ : Addr).add 10) 1 (Value.int .u32) fun v_36 =>
 cond' (v_35 != v_36) (
 R false w_2) (
 loadP w_2 ((⟨b_1, 0, none⟩ : Addr).add 11) 1 (Value.int .u32) fun v_38 =>
 loadP w_2 ((⟨b_2, 0, none⟩ : Addr).add 11) 1 (Value.int .u32) fun v_39 =>
 cond' (v_38 != v_39) (
 R false w_2) (
 loadP w_2 ((⟨b_1, 0, none⟩ : Addr).add 12) 1 (Value.int .u16) fun v_41 =>
 loadP w_2 ((⟨b_2, 0, none⟩ : Addr).add 12) 1 (Value.int .u16) fun v_42 =>
 cond' (v_41 != v_42) (
 R false w_2) (
 loadP w_2 ((⟨b_1, 0, none⟩ : Addr).add 13) 1 (Value.int .u16) fun v_44 =>
 loadP w_2 ((⟨b_2, 0, none⟩ : Addr).add 13) 1 (Value.int .u16) fun v_45 =>
 cond' (v_44 != v_45) (
 R false w_2) (
 J_3 () w_2))))))))))))))) fun _ _ w_3 =>
 cutP (Unit) (fun J_46 =>
 loadP w_3 ((⟨b_1, 0, none⟩ : Addr).add 14) 1 SlV.val fun v_48 =>
 loadP w_3 ((⟨b_2, 0, none⟩ : Addr).add 14) 1 SlV.val fun v_49 =>
 cond' ((v_48.len : Int) != (v_49.len : Int)) (
 R false w_3) (
 loadP w_3 ((⟨b_1, 0, none⟩ : Addr).add 15) 1 SlV.val fun v_51 =>
 loadP w_3 ((⟨b_2, 0, none⟩ : Addr).add 15) 1 SlV.val fun v_52 =>
 cond' ((v_51.len : Int) != (v_52.len : Int)) (
 R false w_3) (
 loadP w_3 ((⟨b_1, 0, none⟩ : Addr).add 16) 1 SlV.val fun v_54 =>
 loadP w_3 ((⟨b_2, 0, none⟩ : Addr).add 16) 1 SlV.val fun v_55 =>
 cond' ((v_54.len : Int) != (v_55.len : Int)) (
 R false w_3) (
 loadP w_3 ((⟨b_1, 0, none⟩ : Addr).add 17) 1 SlV.val fun v_57 =>
 loadP w_3 ((⟨b_2, 0, none⟩ : Addr).add 17) 1 SlV.val fun v_58 =>
 callP P 67 #[(SlV.val v_57), (SlV.val v_58)] w_3 Value.bool fun r_59 w_5 =>
 cond' (!r_59) (
 R false w_5) (
 loadP w_5 ((⟨b_1, 0, none⟩ : Addr).add 18) 1 SlV.val fun v_61 =>
 readP P (convert 22 9 (SlV.val v_61)) w_5 Value.string fun v_62 =>
 loadP w_5 ((⟨b_2, 0, none⟩ : Addr).add 18) 1 SlV.val fun v_63 =>
 readP P (convert 22 9 (SlV.val v_63)) w_5 Value.string fun v_64 =>
 cond' (!(v_62.toList == v_64.toList)) (
 R false w_5) (
 J_46 () w_5)))))) fun _ _ w_4 =>
 loadP w_4 ((⟨b_1, 0, none⟩ : Addr).add 14) 1 SlV.val fun v_65 =>
 loopP (Int) (0 : Int) w_4 fun next__66 _ s_67 w_6 =>
 cond' (decide (s_67 < (v_65.len : Int))) (
 loadP w_6.drew ((⟨b_1, 0, none⟩ : Addr).add 14) 1 SlV.val fun v_68 =>
 chkP (inR s_67 v_68.len) <|
 nilP v_68.a fun a_69 =>
 loadP w_6.drew (a_69.add (Int.toNat s_67 * 2)) 2 GapV.val fun v_70 =>
 loadP w_6.drew ((⟨b_2, 0, none⟩ : Addr).add 14) 1 SlV.val fun v_71 =>
 chkP (inR s_67 v_71.len) <|
 nilP v_71.a fun a_72 =>
 loadP w_6.drew (a_72.add (Int.toNat s_67 * 2)) 2 GapV.val fun v_73 =>
 cond' (negB true ((v_70.From == v_73.From) && ((v_70.To == v_73.To) && true))) (
 R false w_6.drew) (
 next__66 (IntKind.i64.wrap (s_67 + (1 : Int))) w_6.drew)) (
 loadP w_6 ((⟨b_1, 0, none⟩ : Addr).add 15) 1 SlV.val fun v_74 =>
 loopP (Int) (0 : Int) w_6 fun next__75 _ s_76 w_7 =>
 cond' (decide (s_76 < (v_74.len : Int))) (
 loadP w_7.drew ((⟨b_1, 0, none⟩ : Addr).add 15) 1 SlV.val fun v_77 =>
 chkP (inR s_76 v_77.len) <|
 nilP v_77.a fun a_78 =>
 loadP w_7.drew (a_78.add (Int.toNat s_76 * 1)) 1 (Value.int .u32) fun v_79 =>
 loadP w_7.drew ((⟨b_2, 0, none⟩ : Addr).add 15) 1 SlV.val fun v_80 =>
 chkP (inR s_76 v_80.len) <|
 nilP v_80.a fun a_81 =>
 loadP w_7.drew (a_81.add (Int.toNat s_76 * 1)) 1 (Value.int .u32) fun v_82 =>
 cond' (v_79 != v_82) (
 R false w_7.drew) (
 next__75 (IntKind.i64.wrap (s_76 + (1 : Int))) w_7.drew)) (
 loadP w_7 ((⟨b_1, 0, none⟩ : Addr).add 16) 1 SlV.val fun v_83 =>
 loopP (Int) (0 : Int) w_7 fun next__84 _ s_85 w_8 =>
 cond' (decide (s_85 < (v_83.len : Int))) (
 loadP w_8.drew ((⟨b_1, 0, none⟩ : Addr).add 16) 1 SlV.val fun v_86 =>
 chkP (inR s_85 v_86.len) <|
 nilP v_86.a fun a_87 =>
 loadP w_8.drew (a_87.add (Int.toNat s_85 * 3)) 3 SkipV.val fun v_88 =>
 loadP w_8.drew ((⟨b_2, 0, none⟩ : Addr).add 16) 1 SlV.val fun v_89 =>
 chkP (inR s_85 v_89.len) <|
 nilP v_89.a fun a_90 =>
 loadP w_8.drew (a_90.add (Int.toNat s_85 * 3)) 3 SkipV.val fun v_91 =>
 cond' (negB true ((v_88.Stream == v_91.Stream) && ((v_88.Loose == v_91.Loose) && ((v_88.Mid == v_91.Mid) && true)))) (
 R false w_8.drew) (
 next__84 (IntKind.i64.wrap (s_85 + (1 : Int))) w_8.drew)) (
 R true w_8)))
def an35 : Ann := mkAnn [(6, [(149, (shInt .i64))]), (12, [(167, (shInt .i64))]), (18, [(185, (shInt .i64))])] [(3, []), (5, [])]
theorem sf35_eq (a : ChunkV) (b : ChunkV) (w0 : World) (R : Bool → World → Prop) : sf35 a b w0 R = vcFn P sh an35 Try.f35 [(ChunkV.val a), (ChunkV.val b)] shBool w0 R := by kernel_rfl
theorem nm35 : (Try.f35.name == "runtime.NumGoroutine") = false := by kernel_rfl
theorem sf35_call (a : ChunkV) (b : ChunkV) (w0 : World) (R : Bool → World → Prop) (hsf : sf35 a b w0 R) : callP P 35 #[(ChunkV.val a), (ChunkV.val b)] w0 shBool.val R :=
  vcFn_sound mixed Try.func35 nm35 (Eq.mp (sf35_eq a b w0 R) hsf)

/-- (*flume/shake.Part).Met -/
def sf36 (p : Addr) (w0 : World) (R : MetV → World → Prop) : Prop :=
 newP w0 (.cells (MetV.val ({ Tag := 0, Tsn := 0, Window := 0, Inter := false } : MetV)).cells 73) fun b_1 w_1 =>
 loadP w_1 (p.add 6) 4 MetV.val fun v_2 =>
 storeP w_1 (⟨b_1, 0, none⟩ : Addr) 4 (MetV.val v_2) fun w_2 =>
 loadP w_2 (⟨b_1, 0, none⟩ : Addr) 4 MetV.val fun v_3 =>
 R v_3 w_2
def an36 : Ann := mkAnn [] []
theorem sf36_eq (p : Addr) (w0 : World) (R : MetV → World → Prop) : sf36 p w0 R = vcFn P sh an36 Try.f36 [(.pointer (some p))] shMetV w0 R := by kernel_rfl
theorem nm36 : (Try.f36.name == "runtime.NumGoroutine") = false := by kernel_rfl
theorem sf36_call (p : Addr) (w0 : World) (R : MetV → World → Prop) (hsf : sf36 p w0 R) : callP P 36 #[(.pointer (some p))] w0 shMetV.val R :=
  vcFn_sound mixed Try.func36 nm36 (Eq.mp (sf36_eq p w0 R) hsf)

/-- (*flume/shake.Part).Idle -/
def sf37 (p : Addr) (mark : Int) (w0 : World) (R : SlV → World → Prop) : Prop :=
 loadP w0 (p.add 5) 1 (Value.int .i64) fun v_1 =>
 cond' (v_1 == (4 : Int)) (
 callP P 60 #[(.pointer (some p)), (.int .i64 (5 : Int))] w0 unitV fun r_2 w_1 =>
 callP P 66 #[(.pointer (some p)), (ChunkV.val ({ Kind := (7 : Int), Begin := false, End := false, Loose := false, Bare := false, Tsn := mark, Stream := 0, Mid := 0, Ppid := 0, Frag := 0, Tag := 0, Window := 0, Out := 0, In := 0, Gaps := SlV.nil, Dups := SlV.nil, Skips := SlV.nil, Params := SlV.nil, Body := SlV.nil } : ChunkV))] w_1 SlV.val fun r_3 w_2 =>
 R r_3 w_2) (
 cond' (v_1 == (6 : Int)) (
 callP P 60 #[(.pointer (some p)), (.int .i64 (7 : Int))] w0 unitV fun r_4 w_3 =>
 callP P 66 #[(.pointer (some p)), (ChunkV.val ({ Kind := (8 : Int), Begin := false, End := false, Loose := false, Bare := false, Tsn := 0, Stream := 0, Mid := 0, Ppid := 0, Frag := 0, Tag := 0, Window := 0, Out := 0, In := 0, Gaps := SlV.nil, Dups := SlV.nil, Skips := SlV.nil, Params := SlV.nil, Body := SlV.nil } : ChunkV))] w_3 SlV.val fun r_5 w_4 =>
 R r_5 w_4) (
 R SlV.nil w0))
def an37 : Ann := mkAnn [] []
theorem sf37_eq (p : Addr) (mark : Int) (w0 : World) (R : SlV → World → Prop) : sf37 p mark w0 R = vcFn P sh an37 Try.f37 [(.pointer (some p)), (.int .u32 mark)] shSl w0 R := by kernel_rfl
theorem nm37 : (Try.f37.name == "runtime.NumGoroutine") = false := by kernel_rfl
theorem sf37_call (p : Addr) (mark : Int) (w0 : World) (R : SlV → World → Prop) (hsf : sf37 p mark w0 R) : callP P 37 #[(.pointer (some p)), (.int .u32 mark)] w0 shSl.val R :=
  vcFn_sound mixed Try.func37 nm37 (Eq.mp (sf37_eq p mark w0 R) hsf)

/-- slices.Clone[[]byte,byte] -/
def sf38 (s : SlV) (w0 : World) (R : SlV → World → Prop) : Prop :=
 cond' (negB false s.a.isNone) (
 R SlV.nil w0) (
 newP w0 (.cells #[] 5) fun b_1 w_1 =>
 runP P (Builtin.append_ #[22, 22] 22 #[(SlV.val (SlV.mk (some (⟨b_1, 0, none⟩ : Addr)) 0 0)), (SlV.val s)]) w_1 SlV.val fun r_2 w_2 =>
 R r_2 w_2)
def an38 : Ann := mkAnn [] []
theorem sf38_eq (s : SlV) (w0 : World) (R : SlV → World → Prop) : sf38 s w0 R = vcFn P sh an38 Try.f38 [(SlV.val s)] shSl w0 R := by kernel_rfl
theorem nm38 : (Try.f38.name == "runtime.NumGoroutine") = false := by kernel_rfl
theorem sf38_call (s : SlV) (w0 : World) (R : SlV → World → Prop) (hsf : sf38 s w0 R) : callP P 38 #[(SlV.val s)] w0 shSl.val R :=
  vcFn_sound mixed Try.func38 nm38 (Eq.mp (sf38_eq s w0 R) hsf)

/-- flume/mac.Seal$1 -/
def sf39 (by_ : Int) (c1 : Addr) (w0 : World) (R : SlV → World → Prop) : Prop :=
 loadP w0 c1 1 SlV.val fun v_1 =>
 callP P 38 #[(SlV.val v_1)] w0 SlV.val fun r_2 w_1 =>
 loopP (Int) (0 : Int) w_1 fun next__3 _ s_4 w_2 =>
 cond' (decide (s_4 < (r_2.len : Int))) (
 chkP (inR s_4 r_2.len) <|
 nilP r_2.a fun a_5 =>
 loadP w_2 (a_5.add (Int.toNat s_4 * 1)) 1 (Value.int .u8) fun v_6 =>
 chkP (inR s_4 r_2.len) <|
 nilP r_2.a fun a_7 =>
 storeP w_2 (a_7.add (Int.toNat s_4 * 1)) 1 (.int .u8 (bits .xor .u8 v_6 by_)) fun w_3 =>
 next__3 (IntKind.i64.wrap (s_4 + (1 : Int))) w_3) (
 R r_2 w_2)
def an39 : Ann := mkAnn [(3, [(10, (shInt .i64))])] []
theorem sf39_eq (by_ : Int) (c1 : Addr) (w0 : World) (R : SlV → World → Prop) : sf39 by_ c1 w0 R = vcFn P sh an39 Try.f39 [(.int .u8 by_), (.pointer (some c1))] shSl w0 R := by kernel_rfl
theorem nm39 : (Try.f39.name == "runtime.NumGoroutine") = false := by kernel_rfl
theorem sf39_call (by_ : Int) (c1 : Addr) (w0 : World) (R : SlV → World → Prop) (hsf : sf39 by_ c1 w0 R) : callP P 39 #[(.int .u8 by_), (.pointer (some c1))] w0 shSl.val R :=
  vcFn_sound mixed Try.func39 nm39 (Eq.mp (sf39_eq by_ c1 w0 R) hsf)

/-- slices.Insert[[][]byte,[]byte] -/
def sf40 (s : SlV) (i : Int) (v : SlV) (w0 : World) (R : SlV → World → Prop) : Prop :=
 chkP (leR (s.len : Int) (s.cap : Int)) <|
 chkP (leR i (s.len : Int)) <|
 cond' ((v.len : Int) == (0 : Int)) (
 R s w0) (
 cond' (i == (s.len : Int)) (
 runP P (Builtin.append_ #[85, 85] 85 #[(SlV.val s), (SlV.val v)]) w0 SlV.val fun r_1 w_1 =>
 R r_1 w_1) (
 cond' (decide ((IntKind.i64.wrap ((s.len : Int) + (v.len : Int))) > (s.cap : Int))) (
 chkP (leR i (s.cap : Int)) <|
 chkP (leR 0 i) <|
 runP P (Builtin.append_ #[85, 3] 85 #[(SlV.val (SlV.sub s (0) (Int.toNat i) s.cap 1)), (.int .i64 (IntKind.i64.wrap ((IntKind.i64.wrap ((s.len : Int) + (v.len : Int))) - i)))]) w0 SlV.val fun r_2 w_2 =>
 chkP (leR (r_2.len : Int) (r_2.cap : Int)) <|
 chkP (leR i (r_2.len : Int)) <|
 runP P (Builtin.copy_ #[85, 85] 3 #[(SlV.val (SlV.sub r_2 (Int.toNat i) (r_2.len) r_2.cap 1)), (SlV.val v)]) w_2 (Value.int .i64) fun r_3 w_3 =>
 chkP (leR (r_2.len : Int) (r_2.cap : Int)) <|
 chkP (leR (IntKind.i64.wrap (i + (v.len : Int))) (r_2.len : Int)) <|
 chkP (leR (s.len : Int) (s.cap : Int)) <|
 chkP (leR i (s.len : Int)) <|
 runP P (Builtin.copy_ #[85, 85] 3 #[(SlV.val (SlV.sub r_2 (Int.toNat (IntKind.i64.wrap (i + (v.len : Int)))) (r_2.len) r_2.cap 1)), (SlV.val (SlV.sub s (Int.toNat i) (s.len) s.cap 1))]) w_3.drew (Value.int .i64) fun r_4 w_4 =>
 R r_2 w_4) (
 chkP (leR (IntKind.i64.wrap ((s.len : Int) + (v.len : Int))) (s.cap : Int)) <|
 chkP (leR 0 (IntKind.i64.wrap ((s.len : Int) + (v.len : Int)))) <|
 chkP (leR ((SlV.sub s (0) (Int.toNat (IntKind.i64.wrap ((s.len : Int) + (v.len : Int)))) s.cap 1).len : Int) ((SlV.sub s (0) (Int.toNat (IntKind.i64.wrap ((s.len : Int) + (v.len : Int)))) s.cap 1).cap : Int)) <|
 chkP (leR (IntKind.i64.wrap (i + (v.len : Int))) ((SlV.sub s (0) (Int.toNat (IntKind.i64.wrap ((s.len : Int) + (v.len : Int)))) s.cap 1).len : Int)) <|
 callP P 68 #[(SlV.val v), (SlV.val (SlV.sub (SlV.sub s (0) (Int.toNat (IntKind.i64.wrap ((s.len : Int) + (v.len : Int)))) s.cap 1) (Int.toNat (IntKind.i64.wrap (i + (v.len : Int)))) ((SlV.sub s (0) (Int.toNat (IntKind.i64.wrap ((s.len : Int) + (v.len : Int)))) s.cap 1).len) ((SlV.sub s (0) (Int.toNat (IntKind.i64.wrap ((s.len : Int) + (v.len : Int)))) s.cap 1).cap) 1))] w0 Value.bool fun r_5 w_5 =>
 cond' (!r_5) (
 chkP (leR ((SlV.sub s (0) (Int.toNat (IntKind.i64.wrap ((s.len : Int) + (v.len : Int)))) s.cap 1).len : Int) ((SlV.sub s (0) (Int.toNat (IntKind.i64.wrap ((s.len : Int) + (v.len : Int)))) s.cap 1).cap : Int)) <|
 chkP (leR (IntKind.i64.wrap (i + (v.len : Int))) ((SlV.sub s (0) (Int.toNat (IntKind.i64.wrap ((s.len : Int) + (v.len : Int)))) s.cap 1).len : Int)) <|
 chkP (leR ((SlV.sub s (0) (Int.toNat (IntKind.i64.wrap ((s.len : Int) + (v.len : Int)))) s.cap 1).len : Int) ((SlV.sub s (0) (Int.toNat (IntKind.i64.wrap ((s.len : Int) + (v.len : Int)))) s.cap 1).cap : Int)) <|
 chkP (leR i ((SlV.sub s (0) (Int.toNat (IntKind.i64.wrap ((s.len : Int) + (v.len : Int)))) s.cap 1).len : Int)) <|
 runP P (Builtin.copy_ #[85, 85] 3 #[(SlV.val (SlV.sub (SlV.sub s (0) (Int.toNat (IntKind.i64.wrap ((s.len : Int) + (v.len : Int)))) s.cap 1) (Int.toNat (IntKind.i64.wrap (i + (v.len : Int)))) ((SlV.sub s (0) (Int.toNat (IntKind.i64.wrap ((s.len : Int) + (v.len : Int)))) s.cap 1).len) ((SlV.sub s (0) (Int.toNat (IntKind.i64.wrap ((s.len : Int) + (v.len : Int)))) s.cap 1).cap) 1)), (SlV.val (SlV.sub (SlV.sub s (0) (Int.toNat (IntKind.i64.wrap ((s.len : Int) + (v.len : Int)))) s.cap 1) (Int.toNat i) ((SlV.sub s (0) (Int.toNat (IntKind.i64.wrap ((s.len : Int) + (v.len : Int)))) s.cap 1).len) ((SlV.sub s (0) (Int.toNat (IntKind.i64.wrap ((s.len : Int) + (v.len : Int)))) s.cap 1).cap) 1))]) w_5.drew (Value.int .i64) fun r_6 w_6 =>
 chkP (leR ((SlV.sub s (0) (Int.toNat (IntKind.i64.wrap ((s.len : Int) + (v.len : Int)))) s.cap 1).len : Int) ((SlV.sub s (0) (Int.toNat (IntKind.i64.wrap ((s.len : Int) + (v.len : Int)))) s.cap 1).cap : Int)) <|
 chkP (leR i ((SlV.sub s (0) (Int.toNat (IntKind.i64.wrap ((s.len : Int) + (v.len : Int)))) s.cap 1).len : Int)) <|
 runP P (Builtin.copy_ #[85, 85] 3 #[(SlV.val (SlV.sub (SlV.sub s (0) (Int.toNat (IntKind.i64.wrap ((s.len : Int) + (v.len : Int)))) s.cap 1) (Int.toNat i) ((SlV.sub s (0) (Int.toNat (IntKind.i64.wrap ((s.len : Int) + (v.len : Int)))) s.cap 1).len) ((SlV.sub s (0) (Int.toNat (IntKind.i64.wrap ((s.len : Int) + (v.len : Int)))) s.cap 1).cap) 1)), (SlV.val v)]) w_6 (Value.int .i64) fun r_7 w_7 =>
 R (SlV.sub s (0) (Int.toNat (IntKind.i64.wrap ((s.len : Int) + (v.len : Int)))) s.cap 1) w_7) (
 chkP (leR ((SlV.sub s (0) (Int.toNat (IntKind.i64.wrap ((s.len : Int) + (v.len : Int)))) s.cap 1).len : Int) ((SlV.sub s (0) (Int.toNat (IntKind.i64.wrap ((s.len : Int) + (v.len : Int)))) s.cap 1).cap : Int)) <|
 chkP (leR (s.len : Int) ((SlV.sub s (0) (Int.toNat (IntKind.i64.wrap ((s.len : Int) + (v.len : Int)))) s.cap 1).len : Int)) <|
 runP P (Builtin.copy_ #[85, 85] 3 #[(SlV.val (SlV.sub (SlV.sub s (0) (Int.toNat (IntKind.i64.wrap ((s.len : Int) + (v.len : Int)))) s.cap 1) (Int.toNat (s.len : Int)) ((SlV.sub s (0) (Int.toNat (IntKind.i64.wrap ((s.len : Int) + (v.len : Int)))) s.cap 1).len) ((SlV.sub s (0) (Int.toNat (IntKind.i64.wrap ((s.len : Int) + (v.len : Int)))) s.cap 1).cap) 1)), (SlV.val v)]) w_5 (Value.int .i64) fun r_8 w_8 =>
 chkP (leR ((SlV.sub s (0) (Int.toNat (IntKind.i64.wrap ((s.len : Int) + (v.len : Int)))) s.cap 1).len : Int) ((SlV.sub s (0) (Int.toNat (IntKind.i64.wrap ((s.len : Int) + (v.len : Int)))) s.cap 1).cap : Int)) <|
 chkP (leR i ((SlV.sub s (0) (Int.toNat (IntKind.i64.wrap ((s.len : Int) + (v.len : Int)))) s.cap 1).len : Int)) <|
 callP P 69 #[(SlV.val (SlV.sub (SlV.sub s (0) (Int.toNat (IntKind.i64.wrap ((s.len : Int) + (v.len : Int)))) s.cap 1) (Int.toNat i) ((SlV.sub s (0) (Int.toNat (IntKind.i64.wrap ((s.len : Int) + (v.len : Int)))) s.cap 1).len) ((SlV.sub s (0) (Int.toNat (IntKind.i64.wrap ((s.len : Int) + (v.len : Int)))) s.cap 1).cap) 1)), (.int .i64 (v.len : Int))] w_8 unitV fun r_9 w_9 =>
 R (SlV.sub s (0) (Int.toNat (IntKind.i64.wrap ((s.len : Int) + (v.len : Int)))) s.cap 1) w_9))))
def an40 : Ann := mkAnn [] []
theorem sf40_eq (s : SlV) (i : Int) (v : SlV) (w0 : World) (R : SlV → World → Prop) : sf40 s i v w0 R = vcFn P sh an40 Try.f40 [(SlV.val s), (.int .i64 i), (SlV.val v)] shSl w0 R := by kernel_rfl
theorem nm40 : (Try.f40.name == "runtime.NumGoroutine") = false := by kernel_rfl
theorem sf40_call (s : SlV) (i : Int) (v : SlV) (w0 : World) (R : SlV → World → Prop) (hsf : sf40 s i v w0 R) : callP P 40 #[(SlV.val s), (.int .i64 i), (SlV.val v)] w0 shSl.val R :=
  vcFn_sound mixed Try.func40 nm40 (Eq.mp (sf40_eq s i v w0 R) hsf)

/-- slices.Clone[[][]byte,[]byte] -/
def sf41 (s : SlV) (w0 : World) (R : SlV → World → Prop) : Prop :=
 cond' (negB false s.a.isNone) (
 R SlV.nil w0) (
 newP w0 (.cells #[] 22) fun b_1 w_1 =>
 runP P (Builtin.append_ #[85, 85] 85 #[(SlV.val (SlV.mk (some (⟨b_1, 0, none⟩ : Addr)) 0 0)), (SlV.val s)]) w_1 SlV.val fun r_2 w_2 =>
 R r_2 w_2)
def an41 : Ann := mkAnn [] []
theorem sf41_eq (s : SlV) (w0 : World) (R : SlV → World → Prop) : sf41 s w0 R = vcFn P sh an41 Try.f41 [(SlV.val s)] shSl w0 R := by kernel_rfl
theorem nm41 : (Try.f41.name == "runtime.NumGoroutine") = false := by kernel_rfl
theorem sf41_call (s : SlV) (w0 : World) (R : SlV → World → Prop) (hsf : sf41 s w0 R) : callP P 41 #[(SlV.val s)] w0 shSl.val R :=
  vcFn_sound mixed Try.func41 nm41 (Eq.mp (sf41_eq s w0 R) hsf)

/-- slices.Concat[[]byte,byte] -/
def sf42 (slices : SlV) (w0 : World) (R : SlV → World → Prop) : Prop :=
 loopP (Int × Int) ((0 : Int), (0 : Int)) w0 fun next__1 _ s_2 w_1 =>
 cond' (decide (s_2.2 < (slices.len : Int))) (
 chkP (inR s_2.2 slices.len) <|
 nilP slices.a fun a_3 =>
 loadP w_1 (a_3.add (Int.toNat s_2.2 * 1)) 1 SlV.val fun v_4 =>
 cond' (decide ((IntKind.i64.wrap (s_2.1 + (v_4.len : Int))) < (0 : Int))) (
 False) (
 next__1 ((IntKind.i64.wrap (s_2.1 + (v_4.len : Int))), (IntKind.i64.wrap (s_2.2 + (1 : Int)))) w_1)) (
 callP P 70 #[(SlV.val SlV.nil), (.int .i64 s_2.1)] w_1 SlV.val fun r_5 w_2 =>
 loopP (SlV × Int) (r_5, (0 : Int)) w_2 fun next__6 _ s_7 w_3 =>
 cond' (decide (s_7.2 < (slices.len : Int))) (
 chkP (inR s_7.2 slices.len) <|
 nilP slices.a fun a_8 =>
 loadP w_3 (a_8.add (Int.toNat s_7.2 * 1)) 1 SlV.val fun v_9 =>
 runP P (Builtin.append_ #[22, 22] 22 #[(SlV.val s_7.1), (SlV.val v_9)]) w_3 SlV.val fun r_10 w_4 =>
 next__6 (r_10, (IntKind.i64.wrap (s_7.2 + (1 : Int)))) w_4) (
 R s_7.1 w_3))
def an42 : Ann := mkAnn [(3, [(3, (shInt .i64)), (11, (shInt .i64))]), (11, [(6, shSl), (27, (shInt .i64))])] []
theorem sf42_eq (slices : SlV) (w0 : World) (R : SlV → World → Prop) : sf42 slices w0 R = vcFn P sh an42 Try.f42 [(SlV.val slices)] shSl w0 R := by kernel_rfl
theorem nm42 : (Try.f42.name == "runtime.NumGoroutine") = false := by kernel_rfl
theorem sf42_call (slices : SlV) (w0 : World) (R : SlV → World → Prop) (hsf : sf42 slices w0 R) : callP P 42 #[(SlV.val slices)] w0 shSl.val R :=
  vcFn_sound mixed Try.func42 nm42 (Eq.mp (sf42_eq slices w0 R) hsf)

/-- slices.Chunk[[]byte,byte] -/
def sf43 (s : SlV) (n : Int) (w0 : World) (R : FnV → World → Prop) : Prop :=
 newP w0 (.cells #[(SlV.val s)] 22) fun b_1 w_1 =>
 newP w_1 (.cells #[(.int .i64 n)] 3) fun b_2 w_2 =>
 loadP w_2 (⟨b_2, 0, none⟩ : Addr) 1 (Value.int .i64) fun v_3 =>
 cond' (decide (v_3 < (1 : Int))) (
 False) (
 R (FnV.mk 71 #[] #[(.pointer (some (⟨b_1, 0, none⟩ : Addr))), (.pointer (some (⟨b_2, 0, none⟩ : Addr)))]) w_2)
def an43 : Ann := mkAnn [] []
theorem sf43_eq (s : SlV) (n : Int) (w0 : World) (R : FnV → World → Prop) : sf43 s n w0 R = vcFn P sh an43 Try.f43 [(SlV.val s), (.int .i64 n)] shFn w0 R := by kernel_rfl
theorem nm43 : (Try.f43.name == "runtime.NumGoroutine") = false := by kernel_rfl
theorem sf43_call (s : SlV) (n : Int) (w0 : World) (R : FnV → World → Prop) (hsf : sf43 s n w0 R) : callP P 43 #[(SlV.val s), (.int .i64 n)] w0 shFn.val R :=
  vcFn_sound mixed Try.func43 nm43 (Eq.mp (sf43_eq s n w0 R) hsf)

/-- (*flume/mac.state).block -/
def sf44 (s : Addr) (b : SlV) (w0 : World) (R : Unit → World → Prop) : Prop :=
 newP w0 (.cells ((arrV .u32) (List.replicate 64 0)).cells 98) fun b_1 w_1 =>
 loopP (Int) (0 : Int) w_1 fun next__2 _ s_3 w_2 =>
 cond' (decide (s_3 < (16 : Int))) (
 chkP (inR (IntKind.i64.wrap ((4 : Int) * s_3)) b.len) <|
 nilP b.a fun a_4 =>
 loadP w_2.drew (a_4.add (Int.toNat (IntKind.i64.wrap ((4 : Int) * s_3)) * 1)) 1 (Value.int .u8) fun v_5 =>
 chkP (inR (IntKind.i64.wrap ((IntKind.i64.wrap ((4 : Int) * s_3)) + (1 : Int))) b.len) <|
 nilP b.a fun a_6 =>
 loadP w_2.drew (a_6.add (Int.toNat (IntKind.i64.wrap ((IntKind.i64.wrap ((4 : Int) * s_3)) + (1 : Int))) * 1)) 1 (Value.int .u8) fun v_7 =>
 chkP (inR (IntKind.i64.wrap ((IntKind.i64.wrap ((4 : Int) * s_3)) + (2 : Int))) b.len) <|
 nilP b.a fun a_8 =>
 loadP w_2.drew (a_8.add (Int.toNat (IntKind.i64.wrap ((IntKind.i64.wrap ((4 : Int) * s_3)) + (2 : Int))) * 1)) 1 (Value.int .u8) fun v_9 =>
 chkP (inR (IntKind.i64.wrap ((IntKind.i64.wrap ((4 : Int) * s_3)) + (3 : Int))) b.len) <|
 nilP b.a fun a_10 =>
 loadP w_2.drew (a_10.add (Int.toNat (IntKind.i64.wrap ((IntKind.i64.wrap ((4 : Int) * s_3)) + (3 : Int))) * 1)) 1 (Value.int .u8) fun v_11 =>
 chkP (inR s_3 64) <|
 storeP w_2.drew ((⟨b_1, 0, none⟩ : Addr).add (Int.toNat s_3 * 1)) 1 (.int .u32 (bits .or .u32 (bits .or .u32 (bits .or .u32 (IntKind.u32.wrap ((IntKind.u32.wrap v_5) * 2 ^ (min (Int.toNat (24 : Int)) IntKind.u32.bits))) (IntKind.u32.wrap ((IntKind.u32.wrap v_7) * 2 ^ (min (Int.toNat (16 : Int)) IntKind.u32.bits)))) (IntKind.u32.wrap ((IntKind.u32.wrap v_9) * 2 ^ (min (Int.toNat (8 : Int)) IntKind.u32.bits)))) (IntKind.u32.wrap v_11))) fun w_3 =>
 next__2 (IntKind.i64.wrap (s_3 + (1 : Int))) w_3) (
 loopP (Int) (16 : Int) w_2 fun next__12 _ s_13 w_4 =>
 cond' (decide (s_13 < (64 : Int))) (
 chkP (inR (IntKind.i64.wrap (s_13 - (2 : Int))) 64) <|
 loadP w_4.drew ((⟨b_1, 0, none⟩ : Addr).add (Int.toNat (IntKind.i64.wrap (s_13 - (2 : Int))) * 1)) 1 (Value.int .u32) fun v_14 =>
 chkP (inR (IntKind.i64.wrap (s_13 - (15 : Int))) 64) <|
 loadP w_4.drew ((⟨b_1, 0, none⟩ : Addr).add (Int.toNat (IntKind.i64.wrap (s_13 - (15 : Int))) * 1)) 1 (Value.int .u32) fun v_15 =>
 chkP (inR (IntKind.i64.wrap (s_13 - (7 : Int))) 64) <|
 loadP w_4.drew.drew ((⟨b_1, 0, none⟩ : Addr).add (Int.toNat (IntKind.i64.wrap (s_13 - (7 : Int))) * 1)) 1 (Value.int .u32) fun v_16 =>
 chkP (inR (IntKind.i64.wrap (s_13 - (16 : Int))) 64) <|
 loadP w_4.drew.drew ((⟨b_1, 0, none⟩ : Addr).add (Int.toNat (IntKind.i64.wrap (s_13 - (16 : Int))) * 1)) 1 (Value.int .u32) fun v_17 =>
 callP P 72 #[(.int .u32 v_14), (.int .i64 (17 : Int))] w_4.drew.drew (Value.int .u32) fun r_18 w_5 =>
 Holds w_5 ((⟨b_1, 0, none⟩ : Addr).add (Int.toNat (IntKind.i64.wrap (s_13 - (16 : Int))) * 1)) 1 (.int .u32 v_17) ∧ (
 Holds w_5 ((⟨b_1, 0, none⟩ : Addr).add (Int.toNat (IntKind.i64.wrap (s_13 - (7 : Int))) * 1)) 1 (.int .u32 v_16) ∧ (
 callP P 72 #[(.int .u32 v_14), (.int .i64 (19 : Int))] w_5 (Value.int .u32) fun r_19 w_6 =>
 Holds w_6 ((⟨b_1, 0, none⟩ : Addr).add (Int.toNat (IntKind.i64.wrap (s_13 - (7 : Int))) * 1)) 1 (.int .u32 v_16) ∧ (
 Holds w_6 ((⟨b_1, 0, none⟩ : Addr).add (Int.toNat (IntKind.i64.wrap (s_13 - (16 : Int))) * 1)) 1 (.int .u32 v_17) ∧ (
 callP P 72 #[(.int .u32 v_15), (.int .i64 (7 : Int))] w_6 (Value.int .u32) fun r_20 w_7 =>
 Holds w_7 ((⟨b_1, 0, none⟩ : Addr).add (Int.toNat (IntKind.i64.wrap (s_13 - (16 : Int))) * 1)) 1 (.int .u32 v_17) ∧ (
 Holds w_7 ((⟨b_1, 0, none⟩ : Addr).add (Int.toNat (IntKind.i64.wrap (s_13 - (7 : Int))) * 1)) 1 (.int .u32 v_16) ∧ (
 callP P 72 #[(.int .u32 v_15), (.int .i64 (18 : Int))] w_7 (Value.int .u32) fun r_21 w_8 =>
 Holds w_8 ((⟨b_1, 0, none⟩ : Addr).add (Int.toNat (IntKind.i64.wrap (s_13 - (7 : Int))) * 1)) 1 (.int .u32 v_16) ∧ (
 Holds w_8 ((⟨b_1, 0, none⟩ : Addr).add (Int.toNat (IntKind.i64.wrap (s_13 - (16 : Int))) * 1)) 1 (.int .u32 v_17) ∧ (
 chkP (inR s_13 64) <|
 storeP w_8 ((⟨b_1, 0, none⟩ : Addr).add (Int.toNat s_13 * 1)) 1 (.int .u32 (IntKind.u32.wrap ((IntKind.u32.wrap ((IntKind.u32.wrap ((bits .xor .u32 (bits .xor .u32 r_18 r_19) (Int.fdiv v_14 (2 ^ (min (Int.toNat (10 : Int)) IntKind.u32.bits)))) + v_16)) + (bits .xor .u32 (bits .xor .u32 r_20 r_21) (Int.fdiv v_15 (2 ^ (min (Int.toNat (3 : Int)) IntKind.u32.bits)))))) + v_17))) fun w_9 =>
 next__12 (IntKind.i64.wrap (s_13 + (1 : Int))) w_9))))))))) (
 loadP w_4 s 8 (arrV .u32) fun v_22 =>
 newP w_4 (.cells ((arrV .u32) (List.replicate 8 0)).cells 92) fun b_23 w_10 =>
 storeP w_10 (⟨b_23, 0, none⟩ : Addr) 8 ((arrV .u32) v_22) fun w_11 =>
 callP P 74 #[] w_11 (arrV .u32) fun r_24 w_12 =>
 newP w_12 (.cells ((arrV .u32) (List.replicate 64 0)).cells 98) fun b_25 w_13 =>
 storeP w_13 (⟨b_25, 0, none⟩ : Addr) 64 ((arrV .u32) r_24) fun w_14 =>
 loopP (Int) (0 : Int) w_14 fun next__26 _ s_27 w_15 =>
 cond' (decide (s_27 < (64 : Int))) (
 loadP w_15 ((⟨b_23, 0, none⟩ : Addr).add (Int.toNat (4 : Int) * 1)) 1 (Value.int .u32) fun v_28 =>
 loadP w_15.drew ((⟨b_23, 0, none⟩ : Addr).add (Int.toNat (7 : Int) * 1)) 1 (Value.int .u32) fun v_29 =>
 loadP w_15.drew ((⟨b_23, 0, none⟩ : Addr).add (Int.toNat (5 : Int) * 1)) 1 (Value.int .u32) fun v_30 =>
 loadP w_15.drew ((⟨b_23, 0, none⟩ : Addr).add (Int.toNat (6 : Int) * 1)) 1 (Value.int .u32) fun v_31 =>
 chkP (inR s_27 64) <|
 loadP w_15.drew ((⟨b_25, 0, none⟩ : Addr).add (Int.toNat s_27 * 1)) 1 (Value.int .u32) fun v_32 =>
 chkP (inR s_27 64) <|
 loadP w_15.drew ((⟨b_1, 0, none⟩ : Addr).add (Int.toNat s_27 * 1)) 1 (Value.int .u32) fun v_33 =>
 callP P 72 #[(.int .u32 v_28), (.int .i64 (6 : Int))] w_15.drew (Value.int .u32) fun r_34 w_16 =>
 Holds w_16 ((⟨b_1, 0, none⟩ : Addr).add (Int.toNat s_27 * 1)) 1 (.int .u32 v_33) ∧ (
 Holds w_16 ((⟨b_25, 0, none⟩ : Addr).add (Int.toNat s_27 * 1)) 1 (.int .u32 v_32) ∧ (
 Holds w_16 ((⟨b_23, 0, none⟩ : Addr).add (Int.toNat (6 : Int) * 1)) 1 (.int .u32 v_31) ∧ (
 Holds w_16 ((⟨b_23, 0, none⟩ : Addr).add (Int.toNat (5 : Int) * 1)) 1 (.int .u32 v_30) ∧ (
 Holds w_16 ((⟨b_23, 0, none⟩ : Addr).add (Int.toNat (7 : Int) * 1)) 1 (.int .u32 v_29) ∧ (
 callP P 72 #[(.int .u32 v_28), (.int .i64 (11 : Int))] w_16 (Value.int .u32) fun r_35 w_17 =>
 Holds w_17 ((⟨b_23, 0, none⟩ : Addr).add (Int.toNat (7 : Int) * 1)) 1 (.int .u32 v_29) ∧ (
 Holds w_17 ((⟨b_23, 0, none⟩ : Addr).add (Int.toNat (5 : Int) * 1)) 1 (.int .u32 v_30) ∧ (
 Holds w_17 ((⟨b_23, 0, none⟩ : Addr).add (Int.toNat (6 : Int) * 1)) 1 (.int .u32 v_31) ∧ (
 Holds w_17 ((⟨b_25, 0, none⟩ : Addr).add (Int.toNat s_27 * 1)) 1 (.int .u32 v_32) ∧ (
 Holds w_17 ((⟨b_1, 0, none⟩ : Addr).add (Int.toNat s_27 * 1)) 1 (.int .u32 v_33) ∧ (
 callP P 72 #[(.int .u32 v_28), (.int .i64 (25 : Int))] w_17 (Value.int .u32) fun r_36 w_18 =>
 Holds w_18 ((⟨b_1, 0, none⟩ : Addr).add (Int.toNat s_27 * 1)) 1 (.int .u32 v_33) ∧ (
 Holds w_18 ((⟨b_25, 0, none⟩ : Addr).add (Int.toNat s_27 * 1)) 1 (.int .u32 v_32) ∧ (
 Holds w_18 ((⟨b_23, 0, none⟩ : Addr).add (Int.toNat (6 : Int) * 1)) 1 (.int .u32 v_31) ∧ (
 Holds w_18 ((⟨b_23, 0, none⟩ : Addr).add (Int.toNat (5 : Int) * 1)) 1 (.int .u32 v_30) ∧ (
 Holds w_18 ((⟨b_23, 0, none⟩ : Addr).add (Int.toNat (7 : Int) * 1)) 1 (.int .u32 v_29) ∧ (
 loadP w_18.drew ((⟨b_23, 0, none⟩ : Addr).add (Int.toNat (0 : Int) * 1)) 1 (Value.int .u32) fun v_37 =>
 loadP w_18.drew ((⟨b_23, 0, none⟩ : Addr).add (Int.toNat (0 : Int) * 1)) 1 (Value.int .u32) fun v_38 =>
 loadP w_18.drew ((⟨b_23, 0, none⟩ : Addr).add (Int.toNat (0 : Int) * 1)) 1 (Value.int .u32) fun v_39 =>
 loadP w_18.drew ((⟨b_23, 0, none⟩ : Addr).add (Int.toNat (0 : Int) * 1)) 1 (Value.int .u32) fun v_40 =>
 loadP w_18.drew ((⟨b_23, 0, none⟩ : Addr).add (Int.toNat (1 : Int) * 1)) 1 (Value.int .u32) fun v_41 =>
 loadP w_18.drew ((⟨b_23, 0, none⟩ : Addr).add (Int.toNat (0 : Int) * 1)) 1 (Value.int .u32) fun v_42 =>
 loadP w_18.drew ((⟨b_23, 0, none⟩ : Addr).add (Int.toNat (2 : Int) * 1)) 1 (Value.int .u32) fun v_43 =>
 loadP w_18.drew ((⟨b_23, 0, none⟩ : Addr).add (Int.toNat (1 : Int) * 1)) 1 (Value.int .u32) fun v_44 =>
 loadP w_18.drew ((⟨b_23, 0, none⟩ : Addr).add (Int.toNat (2 : Int) * 1)) 1 (Value.int .u32) fun v_45 =>
 callP P 72 #[(.int .u32 v_37), (.int .i64 (2 : Int))] w_18.drew (Value.int .u32) fun r_46 w_19 =>
 Holds w_19 ((⟨b_23, 0, none⟩ : Addr).add (Int.toNat (2 : Int) * 1)) 1 (.int .u32 v_45) ∧ (
 Holds w_19 ((⟨b_23, 0, none⟩ : Addr).add (Int.toNat (1 : Int) * 1)) 1 (.int .u32 v_44) ∧ (
 Holds w_19 ((⟨b_23, 0, none⟩ : Addr).add (Int.toNat (2 : Int) * 1)) 1 (.int .u32 v_43) ∧ (
 Holds w_19 ((⟨b_23, 0, none⟩ : Addr).add (Int.toNat (0 : Int) * 1)) 1 (.int .u32 v_42) ∧ (
 Holds w_19 ((⟨b_23, 0, none⟩ : Addr).add (Int.toNat (1 : Int) * 1)) 1 (.int .u32 v_41) ∧ (
 Holds w_19 ((⟨b_23, 0, none⟩ : Addr).add (Int.toNat (0 : Int) * 1)) 1 (.int .u32 v_40) ∧ (
 Holds w_19 ((⟨b_23, 0, none⟩ : Addr).add (Int.toNat (0 : Int) * 1)) 1 (.int .u32 v_39) ∧ (
 Holds w_19 ((⟨b_23, 0, none⟩ : Addr).add (Int.toNat (0 : Int) * 1)) 1 (.int .u32 v_38) ∧ (
 callP P 72 #[(.int .u32 v_38), (.int .i64 (13 : Int))] w_19 (Value.int .u32) fun r_47 w_20 =>
 Holds w_20 ((⟨b_23, 0, none⟩ : Addr).add (Int.toNat (0 : Int) * 1)) 1 (.int .u32 v_39) ∧ (
 Holds w_20 ((⟨b_23, 0, none⟩ : Addr).add (Int.toNat (0 : Int) * 1)) 1 (.int .u32 v_40) ∧ (
 Holds w_20 ((⟨b_23, 0, none⟩ : Addr).add (Int.toNat (1 : Int) * 1)) 1 (.int .u32 v_41) ∧ (
 Holds w_20 ((⟨b_23, 0, none⟩ : Addr).add (Int.toNat (0 : Int) * 1)) 1 (.int .u32 v_42) ∧ (
 Holds w_20 ((⟨b_23, 0, none⟩ : Addr).add (Int.toNat (2 : Int) * 1)) 1 (.int .u32 v_43) ∧ (
 Holds w_20 ((⟨b_23, 0, none⟩ : Addr).add (Int.toNat (1 : Int) * 1)) 1 (.int .u32 v_44) ∧ (
 Holds w_20 ((⟨b_23, 0, none⟩ : Addr).add (Int.toNat (2 : Int) * 1)) 1 (.int .u32 v_45) ∧ (
 callP P 72 #[(.int .u32 v_39), (.int .i64 (22 : Int))] w_20 (Value.int .u32) fun r_48 w_21 =>
 Holds w_21 ((⟨b_23, 0, none⟩ : Addr).add (Int.toNat (2 : Int) * 1)) 1 (.int .u32 v_45) ∧ (
 Holds w_21 ((⟨b_23, 0, none⟩ : Addr).add (Int.toNat (1 : Int) * 1)) 1 (.int .u32 v_44) ∧ (
 Holds w_21 ((⟨b_23, 0, none⟩ : Addr).add (Int.toNat (2 : Int) * 1)) 1 (.int .u32 v_43) ∧ (
 Holds w_21 ((⟨b_23, 0, none⟩ : Addr).add (Int.toNat (0 : Int) * 1)) 1 (.int .u32 v_42) ∧ (
 Holds w_21 ((⟨b_23, 0, none⟩ : Addr).add (Int.toNat (1 : Int) * 1)) 1 (.int .u32 v_41) ∧ (
 Holds w_21 ((⟨b_23, 0, none⟩ : Addr).add (Int.toNat (0 : Int) * 1)) 1 (.int .u32 v_40) ∧ (
 runP P (Builtin.copy_ #[53, 53] 3 #[(SlV.val (arrSub (⟨b_23, 0, none⟩ : Addr) 1 8 8 1)), (SlV.val (arrSub (⟨b_23, 0, none⟩ : Addr) 0 7 8 1))]) w_21.drew (Value.int .i64) fun r_49 w_22 =>
 loadP w_22 ((⟨b_23, 0, none⟩ : Addr).add (Int.toNat (4 : Int) * 1)) 1 (Value.int .u32) fun v_50 =>
 storeP w_22 ((⟨b_23, 0, none⟩ : Addr).add (Int.toNat (4 : Int) * 1)) 1 (.int .u32 (IntKind.u32.wrap (v_50 + (IntKind.u32.wrap ((IntKind.u32.wrap ((IntKind.u32.wrap ((IntKind.u32.wrap (v_29 + (bits .xor .u32 (bits .xor .u32 r_34 r_35) r_36))) + (bits .xor .u32 (bits .and .u32 v_28 v_30) (bits .and .u32 (bits .xor .u32 (if IntKind.u32.signed then -1 else IntKind.u32.max) v_28) v_31)))) + v_32)) + v_33))))) fun w_23 =>
 storeP w_23 ((⟨b_23, 0, none⟩ : Addr).add (Int.toNat (0 : Int) * 1)) 1 (.int .u32 (IntKind.u32.wrap ((IntKind.u32.wrap ((IntKind.u32.wrap ((IntKind.u32.wrap ((IntKind.u32.wrap (v_29 + (bits .xor .u32 (bits .xor .u32 r_34 r_35) r_36))) + (bits .xor .u32 (bits .and .u32 v_28 v_30) (bits .and .u32 (bits .xor .u32 (if IntKind.u32.signed then -1 else IntKind.u32.max) v_28) v_31)))) + v_32)) + v_33)) + (IntKind.u32.wrap ((bits .xor .u32 (bits .xor .u32 r_46 r_47) r_48) + (bits .xor .u32 (bits .xor .u32 (bits .and .u32 v_40 v_41) (bits .and .u32 v_42 v_43)) (bits .and .u32 v_44 v_45))))))) fun w_24 =>
 next__26 (IntKind.i64.wrap (s_27 + (1 : Int))) w_24))))))))))))))))))))))))))))))))))))) (
 loopP (Int) (0 : Int) w_15 fun next__51 _ s_52 w_25 =>
 cond' (decide (s_52 < (8 : Int))) (
 chkP (inR s_52 8) <|
 loadP w_25.drew (s.add (Int.toNat s_52 * 1)) 1 (Value.int .u32) fun v_53 =>
 chkP (inR s_52 8) <|
 loadP w_25.drew ((⟨b_23, 0, none⟩ : Addr).add (Int.toNat s_52 * 1)) 1 (Value.int .u32) fun v_54 =>
 chkP (inR s_52 8) <|
 storeP w_25.drew (s.add (Int.toNat s_52 * 1)) 1 (.int .u32 (IntKind.u32.wrap (v_53 + v_54))) fun w_26 =>
 next__51 (IntKind.i64.wrap (s_52 + (1 : Int))) w_26) (
 R () w_25))))
def an44 : Ann := mkAnn [(2, [(17, (shInt .i64))]), (8, [(7, (shInt .i64))]), (15, [(105, (shInt .i64))]), (25, [(188, (shInt .i64))])] []
theorem sf44_eq (s : Addr) (b : SlV) (w0 : World) (R : Unit → World → Prop) : sf44 s b w0 R = vcFn P sh an44 Try.f44 [(.pointer (some s)), (SlV.val b)] shUnit w0 R := by kernel_rfl
theorem nm44 : (Try.f44.name == "runtime.NumGoroutine") = false := by kernel_rfl
theorem sf44_call (s : Addr) (b : SlV) (w0 : World) (R : Unit → World → Prop) (hsf : sf44 s b w0 R) : callP P 44 #[(.pointer (some s)), (SlV.val b)] w0 shUnit.val R :=
  vcFn_sound mixed Try.func44 nm44 (Eq.mp (sf44_eq s b w0 R) hsf)

/-- flume/flumeref08.turn -/
def sf45 (x : Int) (n : Int) (w0 : World) (R : Int → World → Prop) : Prop :=
 chkP (decide (0 ≤ n)) <|
 chkP (decide (0 ≤ (IntKind.u64.wrap ((32 : Int) - n)))) <|
 R (bits .or .u32 (Int.fdiv x (2 ^ (min (Int.toNat n) IntKind.u32.bits))) (IntKind.u32.wrap (x * 2 ^ (min (Int.toNat (IntKind.u64.wrap ((32 : Int) - n))) IntKind.u32.bits)))) w0
def an45 : Ann := mkAnn [] []
theorem sf45_eq (x : Int) (n : Int) (w0 : World) (R : Int → World → Prop) : sf45 x n w0 R = vcFn P sh an45 Try.f45 [(.int .u32 x), (.int .u64 n)] (shInt .u32) w0 R := by kernel_rfl
theorem nm45 : (Try.f45.name == "runtime.NumGoroutine") = false := by kernel_rfl
theorem sf45_call (x : Int) (n : Int) (w0 : World) (R : Int → World → Prop) (hsf : sf45 x n w0 R) : callP P 45 #[(.int .u32 x), (.int .u64 n)] w0 (shInt .u32).val R :=
  vcFn_sound mixed Try.func45 nm45 (Eq.mp (sf45_eq x n w0 R) hsf)

/-- flume/flumeref08.table -/
def sf46 (t : Int) (w0 : World) (R : Int → World → Prop) : Prop :=
 newP w0 (.cells #[(.int .u32 (1116352408 : Int)), (.int .u32 (1899447441 : Int)), (.int .u32 (3049323471 : Int)), (.int .u32 (3921009573 : Int)), (.int .u32 (961987163 : Int)), (.int .u32 (1508970993 : Int)), (.int .u32 (2453635748 : Int)), (.int .u32 (2870763221 : Int)), (.int .u32 (3624381080 : Int)), (.int .u32 (310598401 : Int)), (.int .u32 (607225278 : Int)), (.int .u32 (1426881987 : Int)), (.int .u32 (1925078388 : Int)), (.int .u32 (2162078206 : Int)), (.int .u32 (2614888103 : Int)), (.int .u32 (3248222580 : Int)), (.int .u32 (3835390401 : Int)), (.int .u32 (4022224774 : Int)), (.int .u32 (264347078 : Int)), (.int .u32 (604807628 : Int)), (.int .u32 (770255983 : Int)), (.int .u32 (1249150122 : Int)), (.int .u32 (1555081692 : Int)), (.int .u32 (1996064986 : Int)), (.int .u32 (2554220882 : Int)), (.int .u32 (2821834349 : Int)), (.int .u32 (2952996808 : Int)), (.int .u32 (3210313671 : Int)), (.int .u32 (3336571891 : Int)), (.int .u32 (3584528711 : Int)), (.int .u32 (113926993 : Int)), (.int .u32 (338241895 : Int)), (.int .u32 (666307205 : Int)), (.int .u32 (773529912 : Int)), (.int .u32 (1294757372 : Int)), (.int .u32 (1396182291 : Int)), (.int .u32 (1695183700 : Int)), (.int .u32 (1986661051 : Int)), (.int .u32 (2177026350 : Int)), (.int .u32 (2456956037 : Int)), (.int .u32 (2730485921 : Int)), (.int .u32 (2820302411 : Int)), (.int .u32 (3259730800 : Int)), (.int .u32 (3345764771 : Int)), (.int .u32 (3516065817 : Int)), (.int .u32 (3600352804 : Int)), (.int .u32 (4094571909 : Int)), (.int .u32 (275423344 : Int)), (.int .u32 (430227734 : Int)), (.int .u32 (506948616 : Int)), (.int .u32 (659060556 : Int)), (.int .u32 (883997877 : Int)), (.int .u32 (958139571 : Int)), (.int .u32 (1322822218 : Int)), (.int .u32 (1537002063 : Int)), (.int .u32 (1747873779 : Int)), (.int .u32 (1955562222 : Int)), (.int .u32 (2024104815 : Int)), (.int .u32 (2227730452 : Int)), (.int .u32 (2361852424 : Int)), (.int .u32 (2428436474 : Int)), (.int .u32 (2756734187 : Int)), (.int .u32 (3204031479 : Int)), (.int .u32 (3329325298 : Int))] 33) fun b_1 w_1 =>
 chkP (inR t 64) <|
 loadP w_1 ((⟨b_1, 0, none⟩ : Addr).add (Int.toNat t * 1)) 1 (Value.int .u32) fun v_2 =>
 R v_2 w_1
def an46 : Ann := mkAnn [] []
theorem sf46_eq (t : Int) (w0 : World) (R : Int → World → Prop) : sf46 t w0 R = vcFn P sh an46 Try.f46 [(.int .i64 t)] (shInt .u32) w0 R := by kernel_rfl
theorem nm46 : (Try.f46.name == "runtime.NumGoroutine") = false := by kernel_rfl
theorem sf46_call (t : Int) (w0 : World) (R : Int → World → Prop) (hsf : sf46 t w0 R) : callP P 46 #[(.int .i64 t)] w0 (shInt .u32).val R :=
  vcFn_sound mixed Try.func46 nm46 (Eq.mp (sf46_eq t w0 R) hsf)

/-- (*flume/octet.Writer).U32 -/
def sf47 (w_ : Addr) (v : Int) (w0 : World) (R : Unit → World → Prop) : Prop :=
 callP P 48 #[(.pointer (some w_)), (.int .u16 (IntKind.u16.wrap (Int.fdiv v (2 ^ (min (Int.toNat (16 : Int)) IntKind.u32.bits)))))] w0 unitV fun r_1 w_1 =>
 callP P 48 #[(.pointer (some w_)), (.int .u16 (IntKind.u16.wrap v))] w_1 unitV fun r_2 w_2 =>
 R () w_2
def an47 : Ann := mkAnn [] []
theorem sf47_eq (w_ : Addr) (v : Int) (w0 : World) (R : Unit → World → Prop) : sf47 w_ v w0 R = vcFn P sh an47 Try.f47 [(.pointer (some w_)), (.int .u32 v)] shUnit w0 R := by kernel_rfl
theorem nm47 : (Try.f47.name == "runtime.NumGoroutine") = false := by kernel_rfl
theorem sf47_call (w_ : Addr) (v : Int) (w0 : World) (R : Unit → World → Prop) (hsf : sf47 w_ v w0 R) : callP P 47 #[(.pointer (some w_)), (.int .u32 v)] w0 shUnit.val R :=
  vcFn_sound mixed Try.func47 nm47 (Eq.mp (sf47_eq w_ v w0 R) hsf)

/-- (*flume/octet.Writer).U16 -/
def sf48 (w_ : Addr) (v : Int) (w0 : World) (R : Unit → World → Prop) : Prop :=
 loadP w0 (w_.add 0) 1 SlV.val fun v_1 =>
 newP w0 (.cells #[(.int .u8 (IntKind.u8.wrap (Int.fdiv v (2 ^ (min (Int.toNat (8 : Int)) IntKind.u16.bits))))), (.int .u8 (IntKind.u8.wrap v))] 5) fun b_2 w_1 =>
 runP P (Builtin.append_ #[22, 22] 22 #[(SlV.val v_1), (SlV.val (SlV.mk (some (⟨b_2, 0, none⟩ : Addr)) 2 2))]) w_1 SlV.val fun r_3 w_2 =>
 storeP w_2 (w_.add 0) 1 (SlV.val r_3) fun w_3 =>
 R () w_3
def an48 : Ann := mkAnn [] []
theorem sf48_eq (w_ : Addr) (v : Int) (w0 : World) (R : Unit → World → Prop) : sf48 w_ v w0 R = vcFn P sh an48 Try.f48 [(.pointer (some w_)), (.int .u16 v)] shUnit w0 R := by kernel_rfl
theorem nm48 : (Try.f48.name == "runtime.NumGoroutine") = false := by kernel_rfl
theorem sf48_call (w_ : Addr) (v : Int) (w0 : World) (R : Unit → World → Prop) (hsf : sf48 w_ v w0 R) : callP P 48 #[(.pointer (some w_)), (.int .u16 v)] w0 shUnit.val R :=
  vcFn_sound mixed Try.func48 nm48 (Eq.mp (sf48_eq w_ v w0 R) hsf)

/-- (*flume/octet.Writer).U8 -/
def sf49 (w_ : Addr) (v : Int) (w0 : World) (R : Unit → World → Prop) : Prop :=
 loadP w0 (w_.add 0) 1 SlV.val fun v_1 =>
 newP w0 (.cells #[(.int .u8 v)] 5) fun b_2 w_1 =>
 runP P (Builtin.append_ #[22, 22] 22 #[(SlV.val v_1), (SlV.val (SlV.mk (some (⟨b_2, 0, none⟩ : Addr)) 1 1))]) w_1 SlV.val fun r_3 w_2 =>
 storeP w_2 (w_.add 0) 1 (SlV.val r_3) fun w_3 =>
 R () w_3
def an49 : Ann := mkAnn [] []
theorem sf49_eq (w_ : Addr) (v : Int) (w0 : World) (R : Unit → World → Prop) : sf49 w_ v w0 R = vcFn P sh an49 Try.f49 [(.pointer (some w_)), (.int .u8 v)] shUnit w0 R := by kernel_rfl
theorem nm49 : (Try.f49.name == "runtime.NumGoroutine") = false := by kernel_rfl
theorem sf49_call (w_ : Addr) (v : Int) (w0 : World) (R : Unit → World → Prop) (hsf : sf49 w_ v w0 R) : callP P 49 #[(.pointer (some w_)), (.int .u8 v)] w0 shUnit.val R :=
  vcFn_sound mixed Try.func49 nm49 (Eq.mp (sf49_eq w_ v w0 R) hsf)

/-- (*flume/octet.Writer).Out -/
def sf50 (w_ : Addr) (w0 : World) (R : SlV → World → Prop) : Prop :=
 loadP w0 (w_.add 0) 1 SlV.val fun v_1 =>
 callP P 38 #[(SlV.val v_1)] w0 SlV.val fun r_2 w_1 =>
 R r_2 w_1
def an50 : Ann := mkAnn [] []
theorem sf50_eq (w_ : Addr) (w0 : World) (R : SlV → World → Prop) : sf50 w_ w0 R = vcFn P sh an50 Try.f50 [(.pointer (some w_))] shSl w0 R := by kernel_rfl
theorem nm50 : (Try.f50.name == "runtime.NumGoroutine") = false := by kernel_rfl
theorem sf50_call (w_ : Addr) (w0 : World) (R : SlV → World → Prop) (hsf : sf50 w_ w0 R) : callP P 50 #[(.pointer (some w_))] w0 shSl.val R :=
  vcFn_sound mixed Try.func50 nm50 (Eq.mp (sf50_eq w_ w0 R) hsf)

/-- (*flume/octet.Writer).Put -/
def sf51 (w_ : Addr) (b : SlV) (w0 : World) (R : Unit → World → Prop) : Prop :=
 loadP w0 (w_.add 0) 1 SlV.val fun v_1 =>
 runP P (Builtin.append_ #[22, 22] 22 #[(SlV.val v_1), (SlV.val b)]) w0 SlV.val fun r_2 w_1 =>
 storeP w_1 (w_.add 0) 1 (SlV.val r_2) fun w_2 =>
 R () w_2
def an51 : Ann := mkAnn [] []
theorem sf51_eq (w_ : Addr) (b : SlV) (w0 : World) (R : Unit → World → Prop) : sf51 w_ b w0 R = vcFn P sh an51 Try.f51 [(.pointer (some w_)), (SlV.val b)] shUnit w0 R := by kernel_rfl
theorem nm51 : (Try.f51.name == "runtime.NumGoroutine") = false := by kernel_rfl
theorem sf51_call (w_ : Addr) (b : SlV) (w0 : World) (R : Unit → World → Prop) (hsf : sf51 w_ b w0 R) : callP P 51 #[(.pointer (some w_)), (SlV.val b)] w0 shUnit.val R :=
  vcFn_sound mixed Try.func51 nm51 (Eq.mp (sf51_eq w_ b w0 R) hsf)

/-- flume/octet.NewReader -/
def sf52 (b : SlV) (w0 : World) (R : (Option Addr) → World → Prop) : Prop :=
 callP P 38 #[(SlV.val b)] w0 SlV.val fun r_1 w_1 =>
 newP w_1 (.cells (ReaderV.val ({ b := r_1, bad := false } : ReaderV)).cells 141) fun b_2 w_2 =>
 R (some (⟨b_2, 0, none⟩ : Addr)) w_2
def an52 : Ann := mkAnn [] []
theorem sf52_eq (b : SlV) (w0 : World) (R : (Option Addr) → World → Prop) : sf52 b w0 R = vcFn P sh an52 Try.f52 [(SlV.val b)] shPtr w0 R := by kernel_rfl
theorem nm52 : (Try.f52.name == "runtime.NumGoroutine") = false := by kernel_rfl
theorem sf52_call (b : SlV) (w0 : World) (R : (Option Addr) → World → Prop) (hsf : sf52 b w0 R) : callP P 52 #[(SlV.val b)] w0 shPtr.val R :=
  vcFn_sound mixed Try.func52 nm52 (Eq.mp (sf52_eq b w0 R) hsf)

/-- (*flume/octet.Reader).U32 -/
def sf53 (r : Addr) (w0 : World) (R : Int → World → Prop) : Prop :=
 callP P 75 #[(.pointer (some r)), (.int .i64 (4 : Int))] w0 (Value.int .u32) fun r_1 w_1 =>
 R r_1 w_1
def an53 : Ann := mkAnn [] []
theorem sf53_eq (r : Addr) (w0 : World) (R : Int → World → Prop) : sf53 r w0 R = vcFn P sh an53 Try.f53 [(.pointer (some r))] (shInt .u32) w0 R := by kernel_rfl
theorem nm53 : (Try.f53.name == "runtime.NumGoroutine") = false := by kernel_rfl
theorem sf53_call (r : Addr) (w0 : World) (R : Int → World → Prop) (hsf : sf53 r w0 R) : callP P 53 #[(.pointer (some r))] w0 (shInt .u32).val R :=
  vcFn_sound mixed Try.func53 nm53 (Eq.mp (sf53_eq r w0 R) hsf)

/-- (*flume/octet.Reader).U16 -/
def sf54 (r : Addr) (w0 : World) (R : Int → World → Prop) : Prop :=
 callP P 75 #[(.pointer (some r)), (.int .i64 (2 : Int))] w0 (Value.int .u32) fun r_1 w_1 =>
 R (IntKind.u16.wrap r_1) w_1
def an54 : Ann := mkAnn [] []
theorem sf54_eq (r : Addr) (w0 : World) (R : Int → World → Prop) : sf54 r w0 R = vcFn P sh an54 Try.f54 [(.pointer (some r))] (shInt .u16) w0 R := by kernel_rfl
theorem nm54 : (Try.f54.name == "runtime.NumGoroutine") = false := by kernel_rfl
theorem sf54_call (r : Addr) (w0 : World) (R : Int → World → Prop) (hsf : sf54 r w0 R) : callP P 54 #[(.pointer (some r))] w0 (shInt .u16).val R :=
  vcFn_sound mixed Try.func54 nm54 (Eq.mp (sf54_eq r w0 R) hsf)

/-- (*flume/octet.Reader).U8 -/
def sf55 (r : Addr) (w0 : World) (R : Int → World → Prop) : Prop :=
 callP P 75 #[(.pointer (some r)), (.int .i64 (1 : Int))] w0 (Value.int .u32) fun r_1 w_1 =>
 R (IntKind.u8.wrap r_1) w_1
def an55 : Ann := mkAnn [] []
theorem sf55_eq (r : Addr) (w0 : World) (R : Int → World → Prop) : sf55 r w0 R = vcFn P sh an55 Try.f55 [(.pointer (some r))] (shInt .u8) w0 R := by kernel_rfl
theorem nm55 : (Try.f55.name == "runtime.NumGoroutine") = false := by kernel_rfl
theorem sf55_call (r : Addr) (w0 : World) (R : Int → World → Prop) (hsf : sf55 r w0 R) : callP P 55 #[(.pointer (some r))] w0 (shInt .u8).val R :=
  vcFn_sound mixed Try.func55 nm55 (Eq.mp (sf55_eq r w0 R) hsf)

/-- flume/serial.Dist -/
def sf56 (a : Int) (b : Int) (w0 : World) (R : Int → World → Prop) : Prop :=
 R (IntKind.u32.wrap (b - a)) w0
def an56 : Ann := mkAnn [] []
theorem sf56_eq (a : Int) (b : Int) (w0 : World) (R : Int → World → Prop) : sf56 a b w0 R = vcFn P sh an56 Try.f56 [(.int .u32 a), (.int .u32 b)] (shInt .u32) w0 R := by kernel_rfl
theorem nm56 : (Try.f56.name == "runtime.NumGoroutine") = false := by kernel_rfl
theorem sf56_call (a : Int) (b : Int) (w0 : World) (R : Int → World → Prop) (hsf : sf56 a b w0 R) : callP P 56 #[(.int .u32 a), (.int .u32 b)] w0 (shInt .u32).val R :=
  vcFn_sound mixed Try.func56 nm56 (Eq.mp (sf56_eq a b w0 R) hsf)

/-- flume/flumeref04.Text -/
def sf57 (v : Int) (n : Int) (w0 : World) (R : SlV → World → Prop) : Prop :=
 loopP (SlV × Int) (SlV.nil, (IntKind.i64.wrap (n - (1 : Int)))) w0 fun next__1 _ s_2 w_1 =>
 cond' (decide (s_2.2 ≥ (0 : Int))) (
 chkP (decide (0 ≤ (IntKind.u64.wrap (IntKind.i64.wrap ((8 : Int) * s_2.2))))) <|
 newP w_1 (.cells #[(.int .u8 (IntKind.u8.wrap (Int.fdiv v (2 ^ (min (Int.toNat (IntKind.u64.wrap (IntKind.i64.wrap ((8 : Int) * s_2.2)))) IntKind.u64.bits)))))] 5) fun b_3 w_2 =>
 runP P (Builtin.append_ #[22, 22] 22 #[(SlV.val s_2.1), (SlV.val (SlV.mk (some (⟨b_3, 0, none⟩ : Addr)) 1 1))]) w_2 SlV.val fun r_4 w_3 =>
 next__1 (r_4, (IntKind.i64.wrap (s_2.2 - (1 : Int)))) w_3) (
 R s_2.1 w_1)
def an57 : Ann := mkAnn [(3, [(5, shSl), (6, (shInt .i64))])] []
theorem sf57_eq (v : Int) (n : Int) (w0 : World) (R : SlV → World → Prop) : sf57 v n w0 R = vcFn P sh an57 Try.f57 [(.int .u64 v), (.int .i64 n)] shSl w0 R := by kernel_rfl
theorem nm57 : (Try.f57.name == "runtime.NumGoroutine") = false := by kernel_rfl
theorem sf57_call (v : Int) (n : Int) (w0 : World) (R : SlV → World → Prop) (hsf : sf57 v n w0 R) : callP P 57 #[(.int .u64 v), (.int .i64 n)] w0 shSl.val R :=
  vcFn_sound mixed Try.func57 nm57 (Eq.mp (sf57_eq v n w0 R) hsf)

/-- (*flume/flumeref04.Tape).Num -/
def sf58 (t : Addr) (n : Int) (w0 : World) (R : Int → World → Prop) : Prop :=
 callP P 76 #[(.pointer (some t)), (.int .i64 n)] w0 SlV.val fun r_1 w_1 =>
 loopP (Int × Int) ((0 : Int), (0 : Int)) w_1 fun next__2 _ s_3 w_2 =>
 cond' (decide (s_3.2 < (r_1.len : Int))) (
 chkP (inR s_3.2 r_1.len) <|
 nilP r_1.a fun a_4 =>
 loadP w_2 (a_4.add (Int.toNat s_3.2 * 1)) 1 (Value.int .u8) fun v_5 =>
 next__2 ((IntKind.u64.wrap ((IntKind.u64.wrap ((256 : Int) * s_3.1)) + (IntKind.u64.wrap v_5))), (IntKind.i64.wrap (s_3.2 + (1 : Int)))) w_2) (
 R s_3.1 w_2)
def an58 : Ann := mkAnn [(3, [(5, (shInt .u64)), (12, (shInt .i64))])] []
theorem sf58_eq (t : Addr) (n : Int) (w0 : World) (R : Int → World → Prop) : sf58 t n w0 R = vcFn P sh an58 Try.f58 [(.pointer (some t)), (.int .i64 n)] (shInt .u64) w0 R := by kernel_rfl
theorem nm58 : (Try.f58.name == "runtime.NumGoroutine") = false := by kernel_rfl
theorem sf58_call (t : Addr) (n : Int) (w0 : World) (R : Int → World → Prop) (hsf : sf58 t n w0 R) : callP P 58 #[(.pointer (some t)), (.int .i64 n)] w0 (shInt .u64).val R :=
  vcFn_sound mixed Try.func58 nm58 (Eq.mp (sf58_eq t n w0 R) hsf)

/-- flume/flumeref01.Dist -/
def sf59 (a : Int) (b : Int) (w0 : World) (R : Int → World → Prop) : Prop :=
 cond' (decide ((IntKind.u64.wrap b) < (IntKind.u64.wrap a))) (
 R (IntKind.u64.wrap ((IntKind.u64.wrap ((IntKind.u64.wrap b) + (4294967296 : Int))) - (IntKind.u64.wrap a))) w0) (
 R (IntKind.u64.wrap ((IntKind.u64.wrap b) - (IntKind.u64.wrap a))) w0)
def an59 : Ann := mkAnn [] []
theorem sf59_eq (a : Int) (b : Int) (w0 : World) (R : Int → World → Prop) : sf59 a b w0 R = vcFn P sh an59 Try.f59 [(.int .u32 a), (.int .u32 b)] (shInt .u64) w0 R := by kernel_rfl
theorem nm59 : (Try.f59.name == "runtime.NumGoroutine") = false := by kernel_rfl
theorem sf59_call (a : Int) (b : Int) (w0 : World) (R : Int → World → Prop) (hsf : sf59 a b w0 R) : callP P 59 #[(.int .u32 a), (.int .u32 b)] w0 (shInt .u64).val R :=
  vcFn_sound mixed Try.func59 nm59 (Eq.mp (sf59_eq a b w0 R) hsf)

/-- (*flume/shake.Part).to -/
def sf60 (p : Addr) (s : Int) (w0 : World) (R : Unit → World → Prop) : Prop :=
 storeP w0 (p.add 5) 1 (.int .i64 s) fun w_1 =>
 storeP w_1 (p.add 11) 1 (.int .i64 (0 : Int)) fun w_2 =>
 R () w_2
def an60 : Ann := mkAnn [] []
theorem sf60_eq (p : Addr) (s : Int) (w0 : World) (R : Unit → World → Prop) : sf60 p s w0 R = vcFn P sh an60 Try.f60 [(.pointer (some p)), (.int .i64 s)] shUnit w0 R := by kernel_rfl
theorem nm60 : (Try.f60.name == "runtime.NumGoroutine") = false := by kernel_rfl
theorem sf60_call (p : Addr) (s : Int) (w0 : World) (R : Unit → World → Prop) (hsf : sf60 p s w0 R) : callP P 60 #[(.pointer (some p)), (.int .i64 s)] w0 shUnit.val R :=
  vcFn_sound mixed Try.func60 nm60 (Eq.mp (sf60_eq p s w0 R) hsf)

/-- (*flume/shake.Part).init -/
def sf61 (p : Addr) (kind : Int) (ps : SlV) (w0 : World) (R : ChunkV → World → Prop) : Prop :=
 newP w0 (.cells (ChunkV.val ({ Kind := 0, Begin := false, End := false, Loose := false, Bare := false, Tsn := 0, Stream := 0, Mid := 0, Ppid := 0, Frag := 0, Tag := 0, Window := 0, Out := 0, In := 0, Gaps := SlV.nil, Dups := SlV.nil, Skips := SlV.nil, Params := SlV.nil, Body := SlV.nil } : ChunkV)).cells 57) fun b_1 w_1 =>
 cutP (SlV) (fun J_2 =>
 loadP w_1 ((p.add 0).add 3) 1 Value.bool fun v_4 =>
 cond' v_4 (
 newP w_1 (.cells #[(.int .u8 (64 : Int))] 5) fun b_5 w_3 =>
 newP w_3 (.cells (ParamV.val ({ Kind := (32776 : Int), Value_ := (SlV.mk (some (⟨b_5, 0, none⟩ : Addr)) 1 1) } : ParamV)).cells 144) fun b_6 w_4 =>
 runP P (Builtin.append_ #[55, 55] 55 #[(SlV.val ps), (SlV.val (SlV.mk (some (⟨b_6, 0, none⟩ : Addr)) 1 1))]) w_4 SlV.val fun r_7 w_5 =>
 J_2 r_7 w_5) (
 J_2 ps w_1)) fun _ s_3 w_2 =>
 loadP w_2.drew ((p.add 0).add 0) 1 (Value.int .u32) fun v_8 =>
 loadP w_2.drew ((p.add 0).add 1) 1 (Value.int .u32) fun v_9 =>
 loadP w_2.drew ((p.add 0).add 2) 1 (Value.int .u32) fun v_10 =>
 storeP w_2.drew (⟨b_1, 0, none⟩ : Addr) 19 (ChunkV.val ({ Kind := kind, Begin := false, End := false, Loose := false, Bare := false, Tsn := v_9, Stream := 0, Mid := 0, Ppid := 0, Frag := 0, Tag := v_8, Window := v_10, Out := (1024 : Int), In := (1024 : Int), Gaps := SlV.nil, Dups := SlV.nil, Skips := SlV.nil, Params := s_3, Body := SlV.nil } : ChunkV)) fun w_6 =>
 loadP w_6 (⟨b_1, 0, none⟩ : Addr) 19 ChunkV.val fun v_11 =>
 R v_11 w_6
def an61 : Ann := mkAnn [] [(3, [(2, shSl)])]
theorem sf61_eq (p : Addr) (kind : Int) (ps : SlV) (w0 : World) (R : ChunkV → World → Prop) : sf61 p kind ps w0 R = vcFn P sh an61 Try.f61 [(.pointer (some p)), (.int .u8 kind), (SlV.val ps)] shChunkV w0 R := by kernel_rfl
theorem nm61 : (Try.f61.name == "runtime.NumGoroutine") = false := by kernel_rfl
theorem sf61_call (p : Addr) (kind : Int) (ps : SlV) (w0 : World) (R : ChunkV → World → Prop) (hsf : sf61 p kind ps w0 R) : callP P 61 #[(.pointer (some p)), (.int .u8 kind), (SlV.val ps)] w0 shChunkV.val R :=
  vcFn_sound mixed Try.func61 nm61 (Eq.mp (sf61_eq p kind ps w0 R) hsf)

/-- (*flume/shake.Part).asked -/
def sf62 (p : Addr) (c : ChunkV) (now : Int) (w0 : World) (R : SlV → World → Prop) : Prop :=
 newP w0 (.cells (ChunkV.val c).cells 57) fun b_1 w_1 =>
 cutP (Unit) (fun J_2 =>
 loadP w_1 (p.add 5) 1 (Value.int .i64) fun v_4 =>
 cond' (decide (v_4 > (2 : Int))) (
 R SlV.nil w_1) (
 loadP w_1 (⟨b_1, 0, none⟩ : Addr) 19 ChunkV.val fun v_6 =>
 callP P 77 #[(ChunkV.val v_6)] w_1 Value.bool fun r_7 w_3 =>
 cond' (!r_7) (
 R SlV.nil w_3) (
 J_2 () w_3))) fun _ _ w_2 =>
 loadP w_2.drew ((p.add 0).add 0) 1 (Value.int .u32) fun v_8 =>
 loadP w_2.drew ((⟨b_1, 0, none⟩ : Addr).add 10) 1 (Value.int .u32) fun v_9 =>
 loadP w_2.drew ((p.add 0).add 1) 1 (Value.int .u32) fun v_10 =>
 loadP w_2.drew ((⟨b_1, 0, none⟩ : Addr).add 5) 1 (Value.int .u32) fun v_11 =>
 loadP w_2.drew ((⟨b_1, 0, none⟩ : Addr).add 11) 1 (Value.int .u32) fun v_12 =>
 loadP w_2.drew ((⟨b_1, 0, none⟩ : Addr).add 12) 1 (Value.int .u16) fun v_13 =>
 loadP w_2.drew ((⟨b_1, 0, none⟩ : Addr).add 13) 1 (Value.int .u16) fun v_14 =>
 newP w_2.drew (.cells (CookieV.val ({ Tag := 0, Peer := 0, Tsn := 0, PeerTsn := 0, Window := 0, Out := 0, In := 0, Features := 0, Made := 0, TieTag := 0, TiePeer := 0 } : CookieV)).cells 36) fun b_15 w_4 =>
 Holds w_4 ((⟨b_1, 0, none⟩ : Addr).add 13) 1 (.int .u16 v_14) ∧ (
 Holds w_4 ((⟨b_1, 0, none⟩ : Addr).add 12) 1 (.int .u16 v_13) ∧ (
 Holds w_4 ((⟨b_1, 0, none⟩ : Addr).add 11) 1 (.int .u32 v_12) ∧ (
 Holds w_4 ((⟨b_1, 0, none⟩ : Addr).add 5) 1 (.int .u32 v_11) ∧ (
 Holds w_4 ((p.add 0).add 1) 1 (.int .u32 v_10) ∧ (
 Holds w_4 ((⟨b_1, 0, none⟩ : Addr).add 10) 1 (.int .u32 v_9) ∧ (
 Holds w_4 ((p.add 0).add 0) 1 (.int .u32 v_8) ∧ (
 storeP w_4 (⟨b_15, 0, none⟩ : Addr) 11 (CookieV.val ({ Tag := v_8, Peer := v_9, Tsn := v_10, PeerTsn := v_11, Window := v_12, Out := v_13, In := v_14, Features := 0, Made := (IntKind.u32.wrap now), TieTag := 0, TiePeer := 0 } : CookieV)) fun w_5 =>
 cutP (Unit) (fun J_16 =>
 loadP w_5 ((p.add 0).add 3) 1 Value.bool fun v_18 =>
 cond' v_18 (
 loadP w_5 (⟨b_1, 0, none⟩ : Addr) 19 ChunkV.val fun v_20 =>
 callP P 78 #[(ChunkV.val v_20)] w_5 Value.bool fun r_21 w_7 =>
 cond' r_21 (
 storeP w_7 ((⟨b_15, 0, none⟩ : Addr).add 7) 1 (.int .u8 (1 : Int)) fun w_8 =>
 J_16 () w_8) (
 J_16 () w_7)) (
 J_16 () w_5)) fun _ _ w_6 =>
 loadP w_6.drew ((p.add 0).add 4) 1 Value.string fun v_22 =>
 loadP w_6.drew (⟨b_15, 0, none⟩ : Addr) 11 CookieV.val fun v_23 =>
 (
 runP P (convert 9 22 (.string v_22)) w_6.drew SlV.val fun r_24 w_9 =>
 Holds w_9 (⟨b_15, 0, none⟩ : Addr) 11 (CookieV.val v_23) ∧ (
 (
 callP P 22 #[(SlV.val r_24), (CookieV.val v_23)] w_9 SlV.val fun r_25 w_10 =>
 (
 newP w_10 (.cells (ParamV.val ({ Kind := (7 : Int), Value_ := r_25 } : ParamV)).cells 144) fun b_26 w_11 =>
 (
 callP P 61 #[(.pointer (some p)), (.int .u8 (2 : Int)), (SlV.val (SlV.mk (some (⟨b_26, 0, none⟩ : Addr)) 1 1))] w_11 ChunkV.val fun r_27 w_12 =>
 newP w_12 (.cells (ChunkV.val ({ Kind := 0, Begin := false, End := false, Loose := false, Bare := false, Tsn := 0, Stream := 0, Mid := 0, Ppid := 0, Frag := 0, Tag := 0, Window := 0, Out := 0, In := 0, Gaps := SlV.nil, Dups := SlV.nil, Skips := SlV.nil, Params := SlV.nil, Body := SlV.nil } : ChunkV)).cells 57) fun b_28 w_13 =>
 storeP w_13 (⟨b_28, 0, none⟩ : Addr) 19 (ChunkV.val r_27) fun w_14 =>
 loadP w_14 ((⟨b_1, 0, none⟩ : Addr).add 10) 1 (Value.int .u32) fun v_29 =>
 loadP w_14 (⟨b_28, 0, none⟩ : Addr) 19 ChunkV.val fun v_30 =>
 newP w_14 (.cells (NoteV.val ({ Tag := v_29, Chunk := v_30 } : NoteV)).cells 59) fun b_31 w_15 =>
 R (SlV.mk (some (⟨b_31, 0, none⟩ : Addr)) 1 1) w_15) ∧ (
 newP w_11 (.cells (ChunkV.val ({ Kind := 0, Begin := false, End := false, Loose := false, Bare := false, Tsn := 0, Stream := 0, Mid := 0, Ppid := 0, Frag := 0, Tag := 0, Window := 0, Out := 0, In := 0, Gaps := SlV.nil, Dups := SlV.nil, Skips := SlV.nil, Params := SlV.nil, Body := SlV.nil } : ChunkV)).cells 57) fun b_32 w_16 =>
 callP P 61 #[(.pointer (some p)), (.int .u8 (2 : Int)), (SlV.val (SlV.mk (some (⟨b_26, 0, none⟩ : Addr)) 1 1))] w_16 ChunkV.val fun r_33 w_17 =>
 storeP w_17 (⟨b_32, 0, none⟩ : Addr) 19 (ChunkV.val r_33) fun w_18 =>
 loadP w_18 ((⟨b_1, 0, none⟩ : Addr).add 10) 1 (Value.int .u32) fun v_34 =>
 loadP w_18 (⟨b_32, 0, none⟩ : Addr) 19 ChunkV.val fun v_35 =>
 newP w_18 (.cells (NoteV.val ({ Tag := v_34, Chunk := v_35 } : NoteV)).cells 59) fun b_36 w_19 =>
 R (SlV.mk (some (⟨b_36, 0, none⟩ : Addr)) 1 1) w_19)) ∧ (
 newP w_10 (.cells (ChunkV.val ({ Kind := 0, Begin := false, End := false, Loose := false, Bare := false, Tsn := 0, Stream := 0, Mid := 0, Ppid := 0, Frag := 0, Tag := 0, Window := 0, Out := 0, In := 0, Gaps := SlV.nil, Dups := SlV.nil, Skips := SlV.nil, Params := SlV.nil, Body := SlV.nil } : ChunkV)).cells 57) fun b_37 w_20 =>
 newP w_20 (.cells (ParamV.val ({ Kind := (7 : Int), Value_ := r_25 } : ParamV)).cells 144) fun b_38 w_21 =>
 callP P 61 #[(.pointer (some p)), (.int .u8 (2 : Int)), (SlV.val (SlV.mk (some (⟨b_38, 0, none⟩ : Addr)) 1 1))] w_21 ChunkV.val fun r_39 w_22 =>
 storeP w_22 (⟨b_37, 0, none⟩ : Addr) 19 (ChunkV.val r_39) fun w_23 =>
 loadP w_23 ((⟨b_1, 0, none⟩ : Addr).add 10) 1 (Value.int .u32) fun v_40 =>
 loadP w_23 (⟨b_37, 0, none⟩ : Addr) 19 ChunkV.val fun v_41 =>
 newP w_23 (.cells (NoteV.val ({ Tag := v_40, Chunk := v_41 } : NoteV)).cells 59) fun b_42 w_24 =>
 R (SlV.mk (some (⟨b_42, 0, none⟩ : Addr)) 1 1) w_24)) ∧ (
 newP w_9 (.cells (ChunkV.val ({ Kind := 0, Begin := false, End := false, Loose := false, Bare := false, Tsn := 0, Stream := 0, Mid := 0, Ppid := 0, Frag := 0, Tag := 0, Window := 0, Out := 0, In := 0, Gaps := SlV.nil, Dups := SlV.nil, Skips := SlV.nil, Params := SlV.nil, Body := SlV.nil } : ChunkV)).cells 57) fun b_43 w_25 =>
 Holds w_25 (⟨b_15, 0, none⟩ : Addr) 11 (CookieV.val v_23) ∧ (
 callP P 22 #[(SlV.val r_24), (CookieV.val v_23)] w_25 SlV.val fun r_44 w_26 =>
 newP w_26 (.cells (ParamV.val ({ Kind := (7 : Int), Value_ := r_44 } : ParamV)).cells 144) fun b_45 w_27 =>
 callP P 61 #[(.pointer (some p)), (.int .u8 (2 : Int)), (SlV.val (SlV.mk (some (⟨b_45, 0, none⟩ : Addr)) 1 1))] w_27 ChunkV.val fun r_46 w_28 =>
 storeP w_28 (⟨b_43, 0, none⟩ : Addr) 19 (ChunkV.val r_46) fun w_29 =>
 loadP w_29 ((⟨b_1, 0, none⟩ : Addr).add 10) 1 (Value.int .u32) fun v_47 =>
 loadP w_29 (⟨b_43, 0, none⟩ : Addr) 19 ChunkV.val fun v_48 =>
 newP w_29 (.cells (NoteV.val ({ Tag := v_47, Chunk := v_48 } : NoteV)).cells 59) fun b_49 w_30 =>
 R (SlV.mk (some (⟨b_49, 0, none⟩ : Addr)) 1 1) w_30)))) ∧ (
 newP w_6.drew (.cells (ChunkV.val ({ Kind := 0, Begin := false, End := false, Loose := false, Bare := false, Tsn := 0, Stream := 0, Mid := 0, Ppid := 0, Frag := 0, Tag := 0, Window := 0, Out := 0, In := 0, Gaps := SlV.nil, Dups := SlV.nil, Skips := SlV.nil, Params := SlV.nil, Body := SlV.nil } : ChunkV)).cells 57) fun b_50 w_31 =>
 Holds w_31 (⟨b_15, 0, none⟩ : Addr) 11 (CookieV.val v_23) ∧ (
 Holds w_31 ((p.add 0).add 4) 1 (.string v_22) ∧ (
 runP P (convert 9 22 (.string v_22)) w_31 SlV.val fun r_51 w_32 =>
 Holds w_32 (⟨b_15, 0, none⟩ : Addr) 11 (CookieV.val v_23) ∧ (
 callP P 22 #[(SlV.val r_51), (CookieV.val v_23)] w_32 SlV.val fun r_52 w_33 =>
 newP w_33 (.cells (ParamV.val ({ Kind := (7 : Int), Value_ := r_52 } : ParamV)).cells 144) fun b_53 w_34 =>
 callP P 61 #[(.pointer (some p)), (.int .u8 (2 : Int)), (SlV.val (SlV.mk (some (⟨b_53, 0, none⟩ : Addr)) 1 1))] w_34 ChunkV.val fun r_54 w_35 =>
 storeP w_35 (⟨b_50, 0, none⟩ : Addr) 19 (ChunkV.val r_54) fun w_36 =>
 loadP w_36 ((⟨b_1, 0, none⟩ : Addr).add 10) 1 (Value.int .u32) fun v_55 =>
 loadP w_36 (⟨b_50, 0, none⟩ : Addr) 19 ChunkV.val fun v_56 =>
 newP w_36 (.cells (NoteV.val ({ Tag := v_55, Chunk := v_56 } : NoteV)).cells 59) fun b_57 w_37 =>
 R (SlV.mk (some (⟨b_57, 0, none⟩ : Addr)) 1 1) w_37)))))))))))
def an62 : Ann := mkAnn [] [(3, []), (6, [])]
theorem sf62_eq (p : Addr) (c : ChunkV) (now : Int) (w0 : World) (R : SlV → World → Prop) : sf62 p c now w0 R = vcFn P sh an62 Try.f62 [(.pointer (some p)), (ChunkV.val c), (.int .u64 now)] shSl w0 R := by kernel_rfl
theorem nm62 : (Try.f62.name == "runtime.NumGoroutine") = false := by kernel_rfl
theorem sf62_call (p : Addr) (c : ChunkV) (now : Int) (w0 : World) (R : SlV → World → Prop) (hsf : sf62 p c now w0 R) : callP P 62 #[(.pointer (some p)), (ChunkV.val c), (.int .u64 now)] w0 shSl.val R :=
  vcFn_sound mixed Try.func62 nm62 (Eq.mp (sf62_eq p c now w0 R) hsf)

/-- (*flume/shake.Part).live -/
def sf63 (p : Addr) (w0 : World) (R : Bool → World → Prop) : Prop :=
 loadP w0 (p.add 5) 1 (Value.int .i64) fun v_1 =>
 cond' (decide (v_1 > (0 : Int))) (
 loadP w0 (p.add 5) 1 (Value.int .i64) fun v_3 =>
 R (decide (v_3 < (8 : Int))) w0) (
 R false w0)
def an63 : Ann := mkAnn [] []
theorem sf63_eq (p : Addr) (w0 : World) (R : Bool → World → Prop) : sf63 p w0 R = vcFn P sh an63 Try.f63 [(.pointer (some p))] shBool w0 R := by kernel_rfl
theorem nm63 : (Try.f63.name == "runtime.NumGoroutine") = false := by kernel_rfl
theorem sf63_call (p : Addr) (w0 : World) (R : Bool → World → Prop) (hsf : sf63 p w0 R) : callP P 63 #[(.pointer (some p))] w0 shBool.val R :=
  vcFn_sound mixed Try.func63 nm63 (Eq.mp (sf63_eq p w0 R) hsf)

/-- (*flume/shake.Part).granted -/
def sf64 (p : Addr) (c : ChunkV) (w0 : World) (R : SlV → World → Prop) : Prop :=
 newP w0 (.cells (ChunkV.val c).cells 57) fun b_1 w_1 =>
 loadP w_1 ((⟨b_1, 0, none⟩ : Addr).add 17) 1 SlV.val fun v_2 =>
 callP P 79 #[(SlV.val v_2), (.int .u16 (7 : Int))] w_1 (tup2V SlV.val Value.bool) fun r_3 w_2 =>
 cutP (Unit) (fun J_4 =>
 loadP w_2 (p.add 5) 1 (Value.int .i64) fun v_6 =>
 cond' (v_6 != (1 : Int)) (
 R SlV.nil w_2) (
 loadP w_2 (⟨b_1, 0, none⟩ : Addr) 19 ChunkV.val fun v_8 =>
 callP P 77 #[(ChunkV.val v_8)] w_2 Value.bool fun r_9 w_4 =>
 cond' (!r_9) (
 R SlV.nil w_4) (
 cond' (!r_3.2) (
 R SlV.nil w_4) (
 J_4 () w_4)))) fun _ _ w_3 =>
 cutP (Unit) (fun J_11 =>
 loadP w_3.drew ((⟨b_1, 0, none⟩ : Addr).add 10) 1 (Value.int .u32) fun v_13 =>
 loadP w_3.drew ((⟨b_1, 0, none⟩ : Addr).add 5) 1 (Value.int .u32) fun v_14 =>
 loadP w_3.drew ((⟨b_1, 0, none⟩ : Addr).add 11) 1 (Value.int .u32) fun v_15 =>
 loadP w_3.drew ((p.add 0).add 3) 1 Value.bool fun v_16 =>
 cond' v_16 (
 loadP w_3.drew (⟨b_1, 0, none⟩ : Addr) 19 ChunkV.val fun v_18 =>
 callP P 78 #[(ChunkV.val v_18)] w_3.drew Value.bool fun r_19 w_6 =>
 Holds w_6 ((⟨b_1, 0, none⟩ : Addr).add 11) 1 (.int .u32 v_15) ∧ (
 Holds w_6 ((⟨b_1, 0, none⟩ : Addr).add 5) 1 (.int .u32 v_14) ∧ (
 Holds w_6 ((⟨b_1, 0, none⟩ : Addr).add 10) 1 (.int .u32 v_13) ∧ (
 storeP w_6 (p.add 6) 4 (MetV.val ({ Tag := v_13, Tsn := v_14, Window := v_15, Inter := r_19 } : MetV)) fun w_7 =>
 J_11 () w_7)))) (
 storeP w_3.drew (p.add 6) 4 (MetV.val ({ Tag := v_13, Tsn := v_14, Window := v_15, Inter := false } : MetV)) fun w_8 =>
 J_11 () w_8)) fun _ _ w_5 =>
 storeP w_5 (p.add 10) 1 (SlV.val r_3.1) fun w_9 =>
 callP P 60 #[(.pointer (some p)), (.int .i64 (2 : Int))] w_9 unitV fun r_20 w_10 =>
 callP P 38 #[(SlV.val r_3.1)] w_10 SlV.val fun r_21 w_11 =>
 callP P 66 #[(.pointer (some p)), (ChunkV.val ({ Kind := (10 : Int), Begin := false, End := false, Loose := false, Bare := false, Tsn := 0, Stream := 0, Mid := 0, Ppid := 0, Frag := 0, Tag := 0, Window := 0, Out := 0, In := 0, Gaps := SlV.nil, Dups := SlV.nil, Skips := SlV.nil, Params := SlV.nil, Body := r_21 } : ChunkV))] w_11 SlV.val fun r_22 w_12 =>
 R r_22 w_12
def an64 : Ann := mkAnn [] [(4, []), (5, [])]
theorem sf64_eq (p : Addr) (c : ChunkV) (w0 : World) (R : SlV → World → Prop) : sf64 p c w0 R = vcFn P sh an64 Try.f64 [(.pointer (some p)), (ChunkV.val c)] shSl w0 R := by kernel_rfl
theorem nm64 : (Try.f64.name == "runtime.NumGoroutine") = false := by kernel_rfl
theorem sf64_call (p : Addr) (c : ChunkV) (w0 : World) (R : SlV → World → Prop) (hsf : sf64 p c w0 R) : callP P 64 #[(.pointer (some p)), (ChunkV.val c)] w0 shSl.val R :=
  vcFn_sound mixed Try.func64 nm64 (Eq.mp (sf64_eq p c w0 R) hsf)

/-- (*flume/shake.Part).echoed -/
def sf65 (p : Addr) (c : ChunkV) (now : Int) (w0 : World) (R : SlV → World → Prop) : Prop :=
 newP w0 (.cells (ChunkV.val c).cells 57) fun b_1 w_1 =>
 loadP w_1.drew ((p.add 0).add 4) 1 Value.string fun v_2 =>
 loadP w_1.drew ((⟨b_1, 0, none⟩ : Addr).add 18) 1 SlV.val fun v_3 =>
 (
 runP P (convert 9 22 (.string v_2)) w_1.drew SlV.val fun r_4 w_2 =>
 Holds w_2 ((⟨b_1, 0, none⟩ : Addr).add 18) 1 (SlV.val v_3) ∧ (
 (
 callP P 23 #[(SlV.val r_4), (SlV.val v_3), (.int .u32 (IntKind.u32.wrap now))] w_2 (tup2V CookieV.val (Value.int .i64)) fun r_5 w_3 =>
 newP w_3 (.cells (CookieV.val ({ Tag := 0, Peer := 0, Tsn := 0, PeerTsn := 0, Window := 0, Out := 0, In := 0, Features := 0, Made := 0, TieTag := 0, TiePeer := 0 } : CookieV)).cells 36) fun b_6 w_4 =>
 storeP w_4 (⟨b_6, 0, none⟩ : Addr) 11 (CookieV.val r_5.1) fun w_5 =>
 cutP (Unit) (fun J_7 =>
 cond' (r_5.2 != (0 : Int)) (
 R SlV.nil w_5.drew) (
 loadP w_5.drew ((⟨b_6, 0, none⟩ : Addr).add 0) 1 (Value.int .u32) fun v_10 =>
 loadP w_5.drew ((p.add 0).add 0) 1 (Value.int .u32) fun v_11 =>
 cond' (v_10 != v_11) (
 R SlV.nil w_5.drew) (
 loadP w_5.drew (p.add 5) 1 (Value.int .i64) fun v_13 =>
 cond' (decide (v_13 ≥ (8 : Int))) (
 R SlV.nil w_5.drew) (
 loadP w_5.drew (p.add 5) 1 (Value.int .i64) fun v_15 =>
 cond' (decide (v_15 ≥ (2 : Int))) (
 loadP w_5.drew ((⟨b_6, 0, none⟩ : Addr).add 1) 1 (Value.int .u32) fun v_17 =>
 loadP w_5.drew ((p.add 6).add 0) 1 (Value.int .u32) fun v_18 =>
 cond' (v_17 != v_18) (
 R SlV.nil w_5.drew) (
 J_7 () w_5.drew)) (
 J_7 () w_5.drew))))) fun _ _ w_6 =>
 loadP w_6 (p.add 5) 1 (Value.int .i64) fun v_19 =>
 cond' (decide (v_19 ≤ (2 : Int))) (
 loadP w_6 ((⟨b_6, 0, none⟩ : Addr).add 1) 1 (Value.int .u32) fun v_20 =>
 loadP w_6 ((⟨b_6, 0, none⟩ : Addr).add 3) 1 (Value.int .u32) fun v_21 =>
 loadP w_6 ((⟨b_6, 0, none⟩ : Addr).add 4) 1 (Value.int .u32) fun v_22 =>
 loadP w_6 ((⟨b_6, 0, none⟩ : Addr).add 7) 1 (Value.int .u8) fun v_23 =>
 storeP w_6 (p.add 6) 4 (MetV.val ({ Tag := v_20, Tsn := v_21, Window := v_22, Inter := (v_23 == (1 : Int)) } : MetV)) fun w_7 =>
 callP P 60 #[(.pointer (some p)), (.int .i64 (3 : Int))] w_7 unitV fun r_24 w_8 =>
 callP P 66 #[(.pointer (some p)), (ChunkV.val ({ Kind := (11 : Int), Begin := false, End := false, Loose := false, Bare := false, Tsn := 0, Stream := 0, Mid := 0, Ppid := 0, Frag := 0, Tag := 0, Window := 0, Out := 0, In := 0, Gaps := SlV.nil, Dups := SlV.nil, Skips := SlV.nil, Params := SlV.nil, Body := SlV.nil } : ChunkV))] w_8 SlV.val fun r_25 w_9 =>
 R r_25 w_9) (
 callP P 66 #[(.pointer (some p)), (ChunkV.val ({ Kind := (11 : Int), Begin := false, End := false, Loose := false, Bare := false, Tsn := 0, Stream := 0, Mid := 0, Ppid := 0, Frag := 0, Tag := 0, Window := 0, Out := 0, In := 0, Gaps := SlV.nil, Dups := SlV.nil, Skips := SlV.nil, Params := SlV.nil, Body := SlV.nil } : ChunkV))] w_6 SlV.val fun r_26 w_10 =>
 R r_26 w_10)) ∧ (
 newP w_2 (.cells (CookieV.val ({ Tag := 0, Peer := 0, Tsn := 0, PeerTsn := 0, Window := 0, Out := 0, In := 0, Features := 0, Made := 0, TieTag := 0, TiePeer := 0 } : CookieV)).cells 36) fun b_27 w_11 =>
 Holds w_11 ((⟨b_1, 0, none⟩ : Addr).add 18) 1 (SlV.val v_3) ∧ (
 callP P 23 #[(SlV.val r_4), (SlV.val v_3), (.int .u32 (IntKind.u32.wrap now))] w_11 (tup2V CookieV.val (Value.int .i64)) fun r_28 w_12 =>
 storeP w_12 (⟨b_27, 0, none⟩ : Addr) 11 (CookieV.val r_28.1) fun w_13 =>
 cutP (Unit) (fun J_29 =>
 cond' (r_28.2 != (0 : Int)) (
 R SlV.nil w_13.drew) (
 loadP w_13.drew ((⟨b_27, 0, none⟩ : Addr).add 0) 1 (Value.int .u32) fun v_32 =>
 loadP w_13.drew ((p.add 0).add 0) 1 (Value.int .u32) fun v_33 =>
 cond' (v_32 != v_33) (
 R SlV.nil w_13.drew) (
 loadP w_13.drew (p.add 5) 1 (Value.int .i64) fun v_35 =>
 cond' (decide (v_35 ≥ (8 : Int))) (
 R SlV.nil w_13.drew) (
 loadP w_13.drew (p.add 5) 1 (Value.int .i64) fun v_37 =>
 cond' (decide (v_37 ≥ (2 : Int))) (
 loadP w_13.drew ((⟨b_27, 0, none⟩ : Addr).add 1) 1 (Value.int .u32) fun v_39 =>
 loadP w_13.drew ((p.add 6).add 0) 1 (Value.int .u32) fun v_40 =>
 cond' (v_39 != v_40) (
 R SlV.nil w_13.drew) (
 J_29 () w_13.drew)) (
 J_29 () w_13.drew))))) fun _ _ w_14 =>
 loadP w_14 (p.add 5) 1 (Value.int .i64) fun v_41 =>
 cond' (decide (v_41 ≤ (2 : Int))) (
 loadP w_14 ((⟨b_27, 0, none⟩ : Addr).add 1) 1 (Value.int .u32) fun v_42 =>
 loadP w_14 ((⟨b_27, 0, none⟩ : Addr).add 3) 1 (Value.int .u32) fun v_43 =>
 loadP w_14 ((⟨b_27, 0, none⟩ : Addr).add 4) 1 (Value.int .u32) fun v_44 =>
 loadP w_14 ((⟨b_27, 0, none⟩ : Addr).add 7) 1 (Value.int .u8) fun v_45 =>
 storeP w_14 (p.add 6) 4 (MetV.val ({ Tag := v_42, Tsn := v_43, Window := v_44, Inter := (v_45 == (1 : Int)) } : MetV)) fun w_15 =>
 callP P 60 #[(.pointer (some p)), (.int .i64 (3 : Int))] w_15 unitV fun r_46 w_16 =>
 callP P 66 #[(.pointer (some p)), (ChunkV.val ({ Kind := (11 : Int), Begin := false, End := false, Loose := false, Bare := false, Tsn := 0, Stream := 0, Mid := 0, Ppid := 0, Frag := 0, Tag := 0, Window := 0, Out := 0, In := 0, Gaps := SlV.nil, Dups := SlV.nil, Skips := SlV.nil, Params := SlV.nil, Body := SlV.nil } : ChunkV))] w_16 SlV.val fun r_47 w_17 =>
 R r_47 w_17) (
 callP P 66 #[(.pointer (some p)), (ChunkV.val ({ Kind := (11 : Int), Begin := false, End := false, Loose := false, Bare := false, Tsn := 0, Stream := 0, Mid := 0, Ppid := 0, Frag := 0, Tag := 0, Window := 0, Out := 0, In := 0, Gaps := SlV.nil, Dups := SlV.nil, Skips := SlV.nil, Params := SlV.nil, Body := SlV.nil } : ChunkV))] w_14 SlV.val fun r_48 w_18 =>
 R r_48 w_18))))) ∧ (
 newP w_1.drew (.cells (CookieV.val ({ Tag := 0, Peer := 0, Tsn := 0, PeerTsn := 0, Window := 0, Out := 0, In := 0, Features := 0, Made := 0, TieTag := 0, TiePeer := 0 } : CookieV)).cells 36) fun b_49 w_19 =>
 Holds w_19 ((⟨b_1, 0, none⟩ : Addr).add 18) 1 (SlV.val v_3) ∧ (
 Holds w_19 ((p.add 0).add 4) 1 (.string v_2) ∧ (
 runP P (convert 9 22 (.string v_2)) w_19 SlV.val fun r_50 w_20 =>
 Holds w_20 ((⟨b_1, 0, none⟩ : Addr).add 18) 1 (SlV.val v_3) ∧ (
 callP P 23 #[(SlV.val r_50), (SlV.val v_3), (.int .u32 (IntKind.u32.wrap now))] w_20 (tup2V CookieV.val (Value.int .i64)) fun r_51 w_21 =>
 storeP w_21 (⟨b_49, 0, none⟩ : Addr) 11 (CookieV.val r_51.1) fun w_22 =>
 cutP (Unit) (fun J_52 =>
 cond' (r_51.2 != (0 : Int)) (
 R SlV.nil w_22.drew) (
 loadP w_22.drew ((⟨b_49, 0, none⟩ : Addr).add 0) 1 (Value.int .u32) fun v_55 =>
 loadP w_22.drew ((p.add 0).add 0) 1 (Value.int .u32) fun v_56 =>
 cond' (v_55 != v_56) (
 R SlV.nil w_22.drew) (
 loadP w_22.drew (p.add 5) 1 (Value.int .i64) fun v_58 =>
 cond' (decide (v_58 ≥ (8 : Int))) (
 R SlV.nil w_22.drew) (
 loadP w_22.drew (p.add 5) 1 (Value.int .i64) fun v_60 =>
 cond' (decide (v_60 ≥ (2 : Int))) (
 loadP w_22.drew ((⟨b_49, 0, none⟩ : Addr).add 1) 1 (Value.int .u32) fun v_62 =>
 loadP w_22.drew ((p.add 6).add 0) 1 (Value.int .u32) fun v_63 =>
 cond' (v_62 != v_63) (
 R SlV.nil w_22.drew) (
 J_52 () w_22.drew)) (
 J_52 () w_22.drew))))) fun _ _ w_23 =>
 loadP w_23 (p.add 5) 1 (Value.int .i64) fun v_64 =>
 cond' (decide (v_64 ≤ (2 : Int))) (
 loadP w_23 ((⟨b_49, 0, none⟩ : Addr).add 1) 1 (Value.int .u32) fun v_65 =>
 loadP w_23 ((⟨b_49, 0, none⟩ : Addr).add 3) 1 (Value.int .u32) fun v_66 =>
 loadP w_23 ((⟨b_49, 0, none⟩ : Addr).add 4) 1 (Value.int .u32) fun v_67 =>
 loadP w_23 ((⟨b_49, 0, none⟩ : Addr).add 7) 1 (Value.int .u8) fun v_68 =>
 storeP w_23 (p.add 6) 4 (MetV.val ({ Tag := v_65, Tsn := v_66, Window := v_67, Inter := (v_68 == (1 : Int)) } : MetV)) fun w_24 =>
 callP P 60 #[(.pointer (some p)), (.int .i64 (3 : Int))] w_24 unitV fun r_69 w_25 =>
 callP P 66 #[(.pointer (some p)), (ChunkV.val ({ Kind := (11 : Int), Begin := false, End := false, Loose := false, Bare := false, Tsn := 0, Stream := 0, Mid := 0, Ppid := 0, Frag := 0, Tag := 0, Window := 0, Out := 0, In := 0, Gaps := SlV.nil, Dups := SlV.nil, Skips := SlV.nil, Params := SlV.nil, Body := SlV.nil } : ChunkV))] w_25 SlV.val fun r_70 w_26 =>
 R r_70 w_26) (
 callP P 66 #[(.pointer (some p)), (ChunkV.val ({ Kind := (11 : Int), Begin := false, End := false, Loose := false, Bare := false, Tsn := 0, Stream := 0, Mid := 0, Ppid := 0, Frag := 0, Tag := 0, Window := 0, Out := 0, In := 0, Gaps := SlV.nil, Dups := SlV.nil, Skips := SlV.nil, Params := SlV.nil, Body := SlV.nil } : ChunkV))] w_23 SlV.val fun r_71 w_27 =>
 R r_71 w_27)))))
def an65 : Ann := mkAnn [] [(4, [])]
theorem sf65_eq (p : Addr) (c : ChunkV) (now : Int) (w0 : World) (R : SlV → World → Prop) : sf65 p c now w0 R = vcFn P sh an65 Try.f65 [(.pointer (some p)), (ChunkV.val c), (.int .u64 now)] shSl w0 R := by kernel_rfl
theorem nm65 : (Try.f65.name == "runtime.NumGoroutine") = false := by kernel_rfl
theorem sf65_call (p : Addr) (c : ChunkV) (now : Int) (w0 : World) (R : SlV → World → Prop) (hsf : sf65 p c now w0 R) : callP P 65 #[(.pointer (some p)), (ChunkV.val c), (.int .u64 now)] w0 shSl.val R :=
  vcFn_sound mixed Try.func65 nm65 (Eq.mp (sf65_eq p c now w0 R) hsf)

/-- (*flume/shake.Part).note -/
def sf66 (p : Addr) (c : ChunkV) (w0 : World) (R : SlV → World → Prop) : Prop :=
 newP w0 (.cells (ChunkV.val c).cells 57) fun b_1 w_1 =>
 loadP w_1.drew ((p.add 6).add 0) 1 (Value.int .u32) fun v_2 =>
 loadP w_1.drew (⟨b_1, 0, none⟩ : Addr) 19 ChunkV.val fun v_3 =>
 newP w_1.drew (.cells (NoteV.val ({ Tag := v_2, Chunk := v_3 } : NoteV)).cells 59) fun b_4 w_2 =>
 R (SlV.mk (some (⟨b_4, 0, none⟩ : Addr)) 1 1) w_2
def an66 : Ann := mkAnn [] []
theorem sf66_eq (p : Addr) (c : ChunkV) (w0 : World) (R : SlV → World → Prop) : sf66 p c w0 R = vcFn P sh an66 Try.f66 [(.pointer (some p)), (ChunkV.val c)] shSl w0 R := by kernel_rfl
theorem nm66 : (Try.f66.name == "runtime.NumGoroutine") = false := by kernel_rfl
theorem sf66_call (p : Addr) (c : ChunkV) (w0 : World) (R : SlV → World → Prop) (hsf : sf66 p c w0 R) : callP P 66 #[(.pointer (some p)), (ChunkV.val c)] w0 shSl.val R :=
  vcFn_sound mixed Try.func66 nm66 (Eq.mp (sf66_eq p c w0 R) hsf)

/-- flume/flumeref05.Same -/
def sf67 (a : SlV) (b : SlV) (w0 : World) (R : Bool → World → Prop) : Prop :=
 cond' ((a.len : Int) != (b.len : Int)) (
 R false w0) (
 loopP (Int) (0 : Int) w0 fun next__1 _ s_2 w_1 =>
 cond' (decide (s_2 < (a.len : Int))) (
 chkP (inR s_2 a.len) <|
 nilP a.a fun a_3 =>
 loadP w_1.drew ((a_3.add (Int.toNat s_2 * 2)).add 0) 1 (Value.int .u16) fun v_4 =>
 chkP (inR s_2 b.len) <|
 nilP b.a fun a_5 =>
 loadP w_1.drew ((a_5.add (Int.toNat s_2 * 2)).add 0) 1 (Value.int .u16) fun v_6 =>
 cond' (v_4 != v_6) (
 R false w_1.drew) (
 chkP (inR s_2 a.len) <|
 nilP a.a fun a_8 =>
 loadP w_1.drew ((a_8.add (Int.toNat s_2 * 2)).add 1) 1 SlV.val fun v_9 =>
 readP P (convert 22 9 (SlV.val v_9)) w_1.drew Value.string fun v_10 =>
 chkP (inR s_2 b.len) <|
 nilP b.a fun a_11 =>
 loadP w_1.drew ((a_11.add (Int.toNat s_2 * 2)).add 1) 1 SlV.val fun v_12 =>
 readP P (convert 22 9 (SlV.val v_12)) w_1.drew Value.string fun v_13 =>
 cond' (!(v_10.toList == v_13.toList)) (
 R false w_1.drew) (
 next__1 (IntKind.i64.wrap (s_2 + (1 : Int))) w_1.drew))) (
 R true w_1))
def an67 : Ann := mkAnn [(4, [(13, (shInt .i64))])] []
theorem sf67_eq (a : SlV) (b : SlV) (w0 : World) (R : Bool → World → Prop) : sf67 a b w0 R = vcFn P sh an67 Try.f67 [(SlV.val a), (SlV.val b)] shBool w0 R := by kernel_rfl
theorem nm67 : (Try.f67.name == "runtime.NumGoroutine") = false := by kernel_rfl
theorem sf67_call (a : SlV) (b : SlV) (w0 : World) (R : Bool → World → Prop) (hsf : sf67 a b w0 R) : callP P 67 #[(SlV.val a), (SlV.val b)] w0 shBool.val R :=
  vcFn_sound mixed Try.func67 nm67 (Eq.mp (sf67_eq a b w0 R) hsf)

/-- slices.Grow[[]byte,byte] -/
def sf70 (s : SlV) (n : Int) (w0 : World) (R : SlV → World → Prop) : Prop :=
 cutP (Unit) (fun J_1 =>
 cond' (decide (n < (0 : Int))) (
 False) (
 J_1 () w0)) fun _ _ w_1 =>
 cond' (decide ((IntKind.i64.wrap (n - (IntKind.i64.wrap ((s.cap : Int) - (s.len : Int))))) > (0 : Int))) (
 chkP (leR (s.cap : Int) (s.cap : Int)) <|
 chkP (leR 0 (s.cap : Int)) <|
 runP P (Builtin.append_ #[22, 3] 22 #[(SlV.val (SlV.sub s (0) (Int.toNat (s.cap : Int)) s.cap 1)), (.int .i64 (IntKind.i64.wrap (n - (IntKind.i64.wrap ((s.cap : Int) - (s.len : Int))))))]) w_1 SlV.val fun r_3 w_2 =>
 chkP (leR (s.len : Int) (r_3.cap : Int)) <|
 chkP (leR 0 (s.len : Int)) <|
 R (SlV.sub r_3 (0) (Int.toNat (s.len : Int)) r_3.cap 1) w_2) (
 R s w_1)
def an70 : Ann := mkAnn [] [(3, [])]
theorem sf70_eq (s : SlV) (n : Int) (w0 : World) (R : SlV → World → Prop) : sf70 s n w0 R = vcFn P sh an70 Try.f70 [(SlV.val s), (.int .i64 n)] shSl w0 R := by kernel_rfl
theorem nm70 : (Try.f70.name == "runtime.NumGoroutine") = false := by kernel_rfl
theorem sf70_call (s : SlV) (n : Int) (w0 : World) (R : SlV → World → Prop) (hsf : sf70 s n w0 R) : callP P 70 #[(SlV.val s), (.int .i64 n)] w0 shSl.val R :=
  vcFn_sound mixed Try.func70 nm70 (Eq.mp (sf70_eq s n w0 R) hsf)

/-- slices.Chunk[[]byte,byte]$1 -/
def sf71 (L : Nat) (c1 : Addr) (c2 : Addr) (w0 : World) (R : Unit → World → Prop) : Prop :=
 loopP (Int) (0 : Int) w0 fun next__1 _ s_2 w_1 =>
 loadP w_1 c1 1 SlV.val fun v_3 =>
 cond' (decide (s_2 < (v_3.len : Int))) (
 loadP w_1.drew c2 1 (Value.int .i64) fun v_4 =>
 loadP w_1.drew c1 1 SlV.val fun v_5 =>
 chkP (leR (v_5.len : Int) (v_5.cap : Int)) <|
 chkP (leR s_2 (v_5.len : Int)) <|
 loadP w_1.drew c1 1 SlV.val fun v_6 =>
 chkP (leR (IntKind.i64.wrap (s_2 + (if ((SlV.sub v_5 (Int.toNat s_2) (v_5.len) v_5.cap 1).len : Int) < v_4 then ((SlV.sub v_5 (Int.toNat s_2) (v_5.len) v_5.cap 1).len : Int) else v_4))) (v_6.cap : Int)) <|
 chkP (leR (IntKind.i64.wrap (s_2 + (if ((SlV.sub v_5 (Int.toNat s_2) (v_5.len) v_5.cap 1).len : Int) < v_4 then ((SlV.sub v_5 (Int.toNat s_2) (v_5.len) v_5.cap 1).len : Int) else v_4))) (IntKind.i64.wrap (s_2 + (if ((SlV.sub v_5 (Int.toNat s_2) (v_5.len) v_5.cap 1).len : Int) < v_4 then ((SlV.sub v_5 (Int.toNat s_2) (v_5.len) v_5.cap 1).len : Int) else v_4)))) <|
 chkP (leR s_2 (IntKind.i64.wrap (s_2 + (if ((SlV.sub v_5 (Int.toNat s_2) (v_5.len) v_5.cap 1).len : Int) < v_4 then ((SlV.sub v_5 (Int.toNat s_2) (v_5.len) v_5.cap 1).len : Int) else v_4)))) <|
 yieldP P L [(SlV.val (SlV.sub v_6 (Int.toNat s_2) (Int.toNat (IntKind.i64.wrap (s_2 + (if ((SlV.sub v_5 (Int.toNat s_2) (v_5.len) v_5.cap 1).len : Int) < v_4 then ((SlV.sub v_5 (Int.toNat s_2) (v_5.len) v_5.cap 1).len : Int) else v_4)))) (Int.toNat (IntKind.i64.wrap (s_2 + (if ((SlV.sub v_5 (Int.toNat s_2) (v_5.len) v_5.cap 1).len : Int) < v_4 then ((SlV.sub v_5 (Int.toNat s_2) (v_5.len) v_5.cap 1).len : Int) else v_4)))) 1))] w_1.drew Value.bool fun r_7 w_2 =>
 cond' (!r_7) (
 R () w_2) (
 loadP w_2 c2 1 (Value.int .i64) fun v_8 =>
 next__1 (IntKind.i64.wrap (s_2 + v_8)) w_2)) (
 R () w_1)
def an71 : Ann := mkAnn [(1, [(4, (shInt .i64))])] []
theorem sf71_eq (L : Nat) (c1 : Addr) (c2 : Addr) (w0 : World) (R : Unit → World → Prop) : sf71 L c1 c2 w0 R = vcFn P sh an71 Try.f71 [(.func (.yield L) #[] #[]), (.pointer (some c1)), (.pointer (some c2))] shUnit w0 R := by kernel_rfl
theorem nm71 : (Try.f71.name == "runtime.NumGoroutine") = false := by kernel_rfl
theorem sf71_call (L : Nat) (c1 : Addr) (c2 : Addr) (w0 : World) (R : Unit → World → Prop) (hsf : sf71 L c1 c2 w0 R) : callP P 71 #[(.func (.yield L) #[] #[]), (.pointer (some c1)), (.pointer (some c2))] w0 shUnit.val R :=
  vcFn_sound mixed Try.func71 nm71 (Eq.mp (sf71_eq L c1 c2 w0 R) hsf)

/-- (*flume/mac.state).block$1 -/
def sf72 (x : Int) (n : Int) (w0 : World) (R : Int → World → Prop) : Prop :=
 callP P 73 #[(.int .u32 x), (.int .i64 (IntKind.i64.wrap (0 - n)))] w0 (Value.int .u32) fun r_1 w_1 =>
 R r_1 w_1
def an72 : Ann := mkAnn [] []
theorem sf72_eq (x : Int) (n : Int) (w0 : World) (R : Int → World → Prop) : sf72 x n w0 R = vcFn P sh an72 Try.f72 [(.int .u32 x), (.int .i64 n)] (shInt .u32) w0 R := by kernel_rfl
theorem nm72 : (Try.f72.name == "runtime.NumGoroutine") = false := by kernel_rfl
theorem sf72_call (x : Int) (n : Int) (w0 : World) (R : Int → World → Prop) (hsf : sf72 x n w0 R) : callP P 72 #[(.int .u32 x), (.int .i64 n)] w0 (shInt .u32).val R :=
  vcFn_sound mixed Try.func72 nm72 (Eq.mp (sf72_eq x n w0 R) hsf)

/-- math/bits.RotateLeft32 -/
def sf73 (x : Int) (k : Int) (w0 : World) (R : Int → World → Prop) : Prop :=
 chkP (decide (0 ≤ (bits .and .u64 (IntKind.u64.wrap k) (31 : Int)))) <|
 chkP (decide (0 ≤ (IntKind.u64.wrap ((32 : Int) - (bits .and .u64 (IntKind.u64.wrap k) (31 : Int)))))) <|
 R (bits .or .u32 (IntKind.u32.wrap (x * 2 ^ (min (Int.toNat (bits .and .u64 (IntKind.u64.wrap k) (31 : Int))) IntKind.u32.bits))) (Int.fdiv x (2 ^ (min (Int.toNat (IntKind.u64.wrap ((32 : Int) - (bits .and .u64 (IntKind.u64.wrap k) (31 : Int))))) IntKind.u32.bits)))) w0
def an73 : Ann := mkAnn [] []
theorem sf73_eq (x : Int) (k : Int) (w0 : World) (R : Int → World → Prop) : sf73 x k w0 R = vcFn P sh an73 Try.f73 [(.int .u32 x), (.int .i64 k)] (shInt .u32) w0 R := by kernel_rfl
theorem nm73 : (Try.f73.name == "runtime.NumGoroutine") = false := by kernel_rfl
theorem sf73_call (x : Int) (k : Int) (w0 : World) (R : Int → World → Prop) (hsf : sf73 x k w0 R) : callP P 73 #[(.int .u32 x), (.int .i64 k)] w0 (shInt .u32).val R :=
  vcFn_sound mixed Try.func73 nm73 (Eq.mp (sf73_eq x k w0 R) hsf)

/-- flume/mac.rounds -/
def sf74 (w0 : World) (R : (List Int) → World → Prop) : Prop :=
 newP w0 (.cells ((arrV .u32) (List.replicate 64 0)).cells 98) fun b_1 w_1 =>
 storeP w_1 (⟨b_1, 0, none⟩ : Addr) 64 ((arrV .u32) ([(1116352408 : Int), (1899447441 : Int), (3049323471 : Int), (3921009573 : Int), (961987163 : Int), (1508970993 : Int), (2453635748 : Int), (2870763221 : Int), (3624381080 : Int), (310598401 : Int), (607225278 : Int), (1426881987 : Int), (1925078388 : Int), (2162078206 : Int), (2614888103 : Int), (3248222580 : Int), (3835390401 : Int), (4022224774 : Int), (264347078 : Int), (604807628 : Int), (770255983 : Int), (1249150122 : Int), (1555081692 : Int), (1996064986 : Int), (2554220882 : Int), (2821834349 : Int), (2952996808 : Int), (3210313671 : Int), (3336571891 : Int), (3584528711 : Int), (113926993 : Int), (338241895 : Int), (666307205 : Int), (773529912 : Int), (1294757372 : Int), (1396182291 : Int), (1695183700 : Int), (1986661051 : Int), (2177026350 : Int), (2456956037 : Int), (2730485921 : Int), (2820302411 : Int), (3259730800 : Int), (3345764771 : Int), (3516065817 : Int), (3600352804 : Int), (4094571909 : Int), (275423344 : Int), (430227734 : Int), (506948616 : Int), (659060556 : Int), (883997877 : Int), (958139571 : Int), (1322822218 : Int), (1537002063 : Int), (1747873779 : Int), (1955562222 : Int), (2024104815 : Int), (2227730452 : Int), (2361852424 : Int), (2428436474 : Int), (2756734187 : Int), (3204031479 : Int), (3329325298 : Int)])) fun w_2 =>
 loadP w_2 (⟨b_1, 0, none⟩ : Addr) 64 (arrV .u32) fun v_2 =>
 unArrP .u32 ((arrV .u32) v_2) fun z_3 =>
 R z_3 w_2
def an74 : Ann := mkAnn [] []
theorem sf74_eq (w0 : World) (R : (List Int) → World → Prop) : sf74 w0 R = vcFn P sh an74 Try.f74 [] (shArr .u32) w0 R := by kernel_rfl
theorem nm74 : (Try.f74.name == "runtime.NumGoroutine") = false := by kernel_rfl
theorem sf74_call (w0 : World) (R : (List Int) → World → Prop) (hsf : sf74 w0 R) : callP P 74 #[] w0 (shArr .u32).val R :=
  vcFn_sound mixed Try.func74 nm74 (Eq.mp (sf74_eq w0 R) hsf)

/-- (*flume/octet.Reader).number -/
def sf75 (r : Addr) (n : Int) (w0 : World) (R : Int → World → Prop) : Prop :=
 callP P 81 #[(.pointer (some r)), (.int .i64 n)] w0 SlV.val fun r_1 w_1 =>
 loopP (Int × Int) ((0 : Int), (0 : Int)) w_1 fun next__2 _ s_3 w_2 =>
 cond' (decide (s_3.2 < (r_1.len : Int))) (
 chkP (inR s_3.2 r_1.len) <|
 nilP r_1.a fun a_4 =>
 loadP w_2 (a_4.add (Int.toNat s_3.2 * 1)) 1 (Value.int .u8) fun v_5 =>
 next__2 ((bits .or .u32 (IntKind.u32.wrap (s_3.1 * 2 ^ (min (Int.toNat (8 : Int)) IntKind.u32.bits))) (IntKind.u32.wrap v_5)), (IntKind.i64.wrap (s_3.2 + (1 : Int)))) w_2) (
 R s_3.1 w_2)
def an75 : Ann := mkAnn [(3, [(5, (shInt .u32)), (12, (shInt .i64))])] []
theorem sf75_eq (r : Addr) (n : Int) (w0 : World) (R : Int → World → Prop) : sf75 r n w0 R = vcFn P sh an75 Try.f75 [(.pointer (some r)), (.int .i64 n)] (shInt .u32) w0 R := by kernel_rfl
theorem nm75 : (Try.f75.name == "runtime.NumGoroutine") = false := by kernel_rfl
theorem sf75_call (r : Addr) (n : Int) (w0 : World) (R : Int → World → Prop) (hsf : sf75 r n w0 R) : callP P 75 #[(.pointer (some r)), (.int .i64 n)] w0 (shInt .u32).val R :=
  vcFn_sound mixed Try.func75 nm75 (Eq.mp (sf75_eq r n w0 R) hsf)

/-- (*flume/flumeref04.Tape).Take -/
def sf76 (t : Addr) (n : Int) (w0 : World) (R : SlV → World → Prop) : Prop :=
 cutP (Bool) (fun J_1 =>
 loadP w0.drew (t.add 2) 1 Value.bool fun v_3 =>
 cond' v_3 (
 J_1 true w0.drew) (
 cond' (decide (n < (0 : Int))) (
 J_1 true w0.drew) (
 loadP w0.drew (t.add 0) 1 SlV.val fun v_6 =>
 loadP w0.drew (t.add 1) 1 (Value.int .i64) fun v_7 =>
 J_1 (decide (n > (IntKind.i64.wrap ((v_6.len : Int) - v_7)))) w0.drew))) fun _ s_2 w_1 =>
 cond' s_2 (
 storeP w_1 (t.add 2) 1 (.bool true) fun w_2 =>
 loadP w_2 (t.add 0) 1 SlV.val fun v_8 =>
 storeP w_2 (t.add 1) 1 (.int .i64 (v_8.len : Int)) fun w_3 =>
 R SlV.nil w_3) (
 loadP w_1 (t.add 1) 1 (Value.int .i64) fun v_9 =>
 storeP w_1 (t.add 1) 1 (.int .i64 (IntKind.i64.wrap (v_9 + n))) fun w_4 =>
 loadP w_4.drew (t.add 0) 1 SlV.val fun v_10 =>
 loadP w_4.drew (t.add 1) 1 (Value.int .i64) fun v_11 =>
 loadP w_4.drew (t.add 1) 1 (Value.int .i64) fun v_12 =>
 chkP (leR v_12 (v_10.cap : Int)) <|
 chkP (leR (IntKind.i64.wrap (v_11 - n)) v_12) <|
 R (SlV.sub v_10 (Int.toNat (IntKind.i64.wrap (v_11 - n))) (Int.toNat v_12) v_10.cap 1) w_4.drew)
def an76 : Ann := mkAnn [] [(2, [(26, shBool)])]
theorem sf76_eq (t : Addr) (n : Int) (w0 : World) (R : SlV → World → Prop) : sf76 t n w0 R = vcFn P sh an76 Try.f76 [(.pointer (some t)), (.int .i64 n)] shSl w0 R := by kernel_rfl
theorem nm76 : (Try.f76.name == "runtime.NumGoroutine") = false := by kernel_rfl
theorem sf76_call (t : Addr) (n : Int) (w0 : World) (R : SlV → World → Prop) (hsf : sf76 t n w0 R) : callP P 76 #[(.pointer (some t)), (.int .i64 n)] w0 shSl.val R :=
  vcFn_sound mixed Try.func76 nm76 (Eq.mp (sf76_eq t n w0 R) hsf)

/-- flume/shake.right -/
def sf77 (c : ChunkV) (w0 : World) (R : Bool → World → Prop) : Prop :=
 newP w0 (.cells (ChunkV.val c).cells 57) fun b_1 w_1 =>
 loadP w_1 ((⟨b_1, 0, none⟩ : Addr).add 10) 1 (Value.int .u32) fun v_2 =>
 cond' (v_2 != (0 : Int)) (
 loadP w_1 ((⟨b_1, 0, none⟩ : Addr).add 12) 1 (Value.int .u16) fun v_4 =>
 cond' (v_4 != (0 : Int)) (
 loadP w_1 ((⟨b_1, 0, none⟩ : Addr).add 13) 1 (Value.int .u16) fun v_6 =>
 R (v_6 != (0 : Int)) w_1) (
 R false w_1)) (
 R false w_1)
def an77 : Ann := mkAnn [] []
theorem sf77_eq (c : ChunkV) (w0 : World) (R : Bool → World → Prop) : sf77 c w0 R = vcFn P sh an77 Try.f77 [(ChunkV.val c)] shBool w0 R := by kernel_rfl
theorem nm77 : (Try.f77.name == "runtime.NumGoroutine") = false := by kernel_rfl
theorem sf77_call (c : ChunkV) (w0 : World) (R : Bool → World → Prop) (hsf : sf77 c w0 R) : callP P 77 #[(ChunkV.val c)] w0 shBool.val R :=
  vcFn_sound mixed Try.func77 nm77 (Eq.mp (sf77_eq c w0 R) hsf)

end Go.Vc.SA

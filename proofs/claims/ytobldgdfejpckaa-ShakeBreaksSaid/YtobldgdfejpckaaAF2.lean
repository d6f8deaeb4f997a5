/-
  What functions of the program come to, read off their code. No condition.
-/
import Derived.Test.YtobldgdfejpckaaASh
set_option linter.all false
set_option linter.unusedVariables false
set_option maxRecDepth 100000
namespace Go.Vc.SA
open Go.Proofs
/-- (*flume/shake.Part).to -/
def sf60 (p : Addr) (s : Int) (w0 : World) (R : Unit → World → Prop) : Prop :=
 storeP w0 (p.add 5) 1 (.int .i64 s) fun w_1 =>
 storeP w_1 (p.add 11) 1 (.int .i64 (0 : Int)) fun w_2 =>
 R () w_2
def an60 : Ann := mkAnn [] []
theorem sf60_eq (p : Addr) (s : Int) (w0 : World) (R : Unit → World → Prop) : sf60 p s w0 R = vcFn P sh an60 Try.f60 [(.pointer (some p)), (.int .i64 s)] shUnit w0 R := by kernel_rfl
theorem nm60 : (Try.f60.name == "runtime.NumGoroutine") = false := by kernel_rfl
theorem sf60_call (p : Addr) (s : Int) (w0 : World) (R : Unit → World → Prop) (hsf : sf60 p s w0 R) : callP P 60 #[(.pointer (some p)), (.int .i64 s)] w0 shUnit.val R :=
  vcFn_sound mixed Try.func60 nm60 (Eq.mp (sf60_eq p s w0 R) hsf)

/-- (*flume/shake.Part).init -/
def sf61 (p : Addr) (kind : Int) (ps : SlV) (w0 : World) (R : ChunkV → World → Prop) : Prop :=
 newP w0 (.cells (ChunkV.val ({ Kind := 0, Begin := false, End := false, Loose := false, Bare := false, Tsn := 0, Stream := 0, Mid := 0, Ppid := 0, Frag := 0, Tag := 0, Window := 0, Out := 0, In := 0, Gaps := SlV.nil, Dups := SlV.nil, Skips := SlV.nil, Params := SlV.nil, Body := SlV.nil } : ChunkV)).cells 57) fun b_1 w_1 =>
 cutP (SlV) (fun J_2 =>
 loadP w_1 ((p.add 0).add 3) 1 Value.bool fun v_4 =>
 cond' v_4 (
 newP w_1 (.cells #[(.int .u8 (64 : Int))] 5) fun b_5 w_3 =>
 newP w_3 (.cells (ParamV.val ({ Kind := (32776 : Int), Value_ := (SlV.mk (some (⟨b_5, 0, none⟩ : Addr)) 1 1) } : ParamV)).cells 144) fun b_6 w_4 =>
 runP P (Builtin.append_ #[55, 55] 55 #[(SlV.val ps), (SlV.val (SlV.mk (some (⟨b_6, 0, none⟩ : Addr)) 1 1))]) w_4 SlV.val fun r_7 w_5 =>
 J_2 r_7 w_5) (
 J_2 ps w_1)) fun _ s_3 w_2 =>
 loadP w_2.drew ((p.add 0).add 0) 1 (Value.int .u32) fun v_8 =>
 loadP w_2.drew ((p.add 0).add 1) 1 (Value.int .u32) fun v_9 =>
 loadP w_2.drew ((p.add 0).add 2) 1 (Value.int .u32) fun v_10 =>
 storeP w_2.drew (⟨b_1, 0, none⟩ : Addr) 19 (ChunkV.val ({ Kind := kind, Begin := false, End := false, Loose := false, Bare := false, Tsn := v_9, Stream := 0, Mid := 0, Ppid := 0, Frag := 0, Tag := v_8, Window := v_10, Out := (1024 : Int), In := (1024 : Int), Gaps := SlV.nil, Dups := SlV.nil, Skips := SlV.nil, Params := s_3, Body := SlV.nil } : ChunkV)) fun w_6 =>
 loadP w_6 (⟨b_1, 0, none⟩ : Addr) 19 ChunkV.val fun v_11 =>
 R v_11 w_6
def an61 : Ann := mkAnn [] [(3, [(2, shSl)])]
theorem sf61_eq (p : Addr) (kind : Int) (ps : SlV) (w0 : World) (R : ChunkV → World → Prop) : sf61 p kind ps w0 R = vcFn P sh an61 Try.f61 [(.pointer (some p)), (.int .u8 kind), (SlV.val ps)] shChunkV w0 R := by kernel_rfl
theorem nm61 : (Try.f61.name == "runtime.NumGoroutine") = false := by kernel_rfl
theorem sf61_call (p : Addr) (kind : Int) (ps : SlV) (w0 : World) (R : ChunkV → World → Prop) (hsf : sf61 p kind ps w0 R) : callP P 61 #[(.pointer (some p)), (.int .u8 kind), (SlV.val ps)] w0 shChunkV.val R :=
  vcFn_sound mixed Try.func61 nm61 (Eq.mp (sf61_eq p kind ps w0 R) hsf)

/-- (*flume/shake.Part).asked -/
def sf62 (p : Addr) (c : ChunkV) (now : Int) (w0 : World) (R : SlV → World → Prop) : Prop :=
 newP w0 (.cells (ChunkV.val c).cells 57) fun b_1 w_1 =>
 cutP (Unit) (fun J_2 =>
 loadP w_1 (p.add 5) 1 (Value.int .i64) fun v_4 =>
 cond' (decide (v_4 > (2 : Int))) (
 R SlV.nil w_1) (
 loadP w_1 (⟨b_1, 0, none⟩ : Addr) 19 ChunkV.val fun v_6 =>
 callP P 77 #[(ChunkV.val v_6)] w_1 Value.bool fun r_7 w_3 =>
 cond' (!r_7) (
 R SlV.nil w_3) (
 J_2 () w_3))) fun _ _ w_2 =>
 loadP w_2.drew ((p.add 0).add 0) 1 (Value.int .u32) fun v_8 =>
 loadP w_2.drew ((⟨b_1, 0, none⟩ : Addr).add 10) 1 (Value.int .u32) fun v_9 =>
 loadP w_2.drew ((p.add 0).add 1) 1 (Value.int .u32) fun v_10 =>
 loadP w_2.drew ((⟨b_1, 0, none⟩ : Addr).add 5) 1 (Value.int .u32) fun v_11 =>
 loadP w_2.drew ((⟨b_1, 0, none⟩ : Addr).add 11) 1 (Value.int .u32) fun v_12 =>
 loadP w_2.drew ((⟨b_1, 0, none⟩ : Addr).add 12) 1 (Value.int .u16) fun v_13 =>
 loadP w_2.drew ((⟨b_1, 0, none⟩ : Addr).add 13) 1 (Value.int .u16) fun v_14 =>
 newP w_2.drew (.cells (CookieV.val ({ Tag := 0, Peer := 0, Tsn := 0, PeerTsn := 0, Window := 0, Out := 0, In := 0, Features := 0, Made := 0, TieTag := 0, TiePeer := 0 } : CookieV)).cells 36) fun b_15 w_4 =>
 Holds w_4 ((⟨b_1, 0, none⟩ : Addr).add 13) 1 (.int .u16 v_14) ∧ (
 Holds w_4 ((⟨b_1, 0, none⟩ : Addr).add 12) 1 (.int .u16 v_13) ∧ (
 Holds w_4 ((⟨b_1, 0, none⟩ : Addr).add 11) 1 (.int .u32 v_12) ∧ (
 Holds w_4 ((⟨b_1, 0, none⟩ : Addr).add 5) 1 (.int .u32 v_11) ∧ (
 Holds w_4 ((p.add 0).add 1) 1 (.int .u32 v_10) ∧ (
 Holds w_4 ((⟨b_1, 0, none⟩ : Addr).add 10) 1 (.int .u32 v_9) ∧ (
 Holds w_4 ((p.add 0).add 0) 1 (.int .u32 v_8) ∧ (
 storeP w_4 (⟨b_15, 0, none⟩ : Addr) 11 (CookieV.val ({ Tag := v_8, Peer := v_9, Tsn := v_10, PeerTsn := v_11, Window := v_12, Out := v_13, In := v_14, Features := 0, Made := (IntKind.u32.wrap now), TieTag := 0, TiePeer := 0 } : CookieV)) fun w_5 =>
 cutP (Unit) (fun J_16 =>
 loadP w_5 ((p.add 0).add 3) 1 Value.bool fun v_18 =>
 cond' v_18 (
 loadP w_5 (⟨b_1, 0, none⟩ : Addr) 19 ChunkV.val fun v_20 =>
 callP P 78 #[(ChunkV.val v_20)] w_5 Value.bool fun r_21 w_7 =>
 cond' r_21 (
 storeP w_7 ((⟨b_15, 0, none⟩ : Addr).add 7) 1 (.int .u8 (1 : Int)) fun w_8 =>
 J_16 () w_8) (
 J_16 () w_7)) (
 J_16 () w_5)) fun _ _ w_6 =>
 loadP w_6.drew ((p.add 0).add 4) 1 Value.string fun v_22 =>
 loadP w_6.drew (⟨b_15, 0, none⟩ : Addr) 11 CookieV.val fun v_23 =>
 (
 runP P (convert 9 22 (.string v_22)) w_6.drew SlV.val fun r_24 w_9 =>
 Holds w_9 (⟨b_15, 0, none⟩ : Addr) 11 (CookieV.val v_23) ∧ (
 (
 callP P 22 #[(SlV.val r_24), (CookieV.val v_23)] w_9 SlV.val fun r_25 w_10 =>
 (
 newP w_10 (.cells (ParamV.val ({ Kind := (7 : Int), Value_ := r_25 } : ParamV)).cells 144) fun b_26 w_11 =>
 (
 callP P 61 #[(.pointer (some p)), (.int .u8 (2 : Int)), (SlV.val (SlV.mk (some (⟨b_26, 0, none⟩ : Addr)) 1 1))] w_11 ChunkV.val fun r_27 w_12 =>
 newP w_12 (.cells (ChunkV.val ({ Kind := 0, Begin := false, End := false, Loose := false, Bare := false, Tsn := 0, Stream := 0, Mid := 0, Ppid := 0, Frag := 0, Tag := 0, Window := 0, Out := 0, In := 0, Gaps := SlV.nil, Dups := SlV.nil, Skips := SlV.nil, Params := SlV.nil, Body := SlV.nil } : ChunkV)).cells 57) fun b_28 w_13 =>
 storeP w_13 (⟨b_28, 0, none⟩ : Addr) 19 (ChunkV.val r_27) fun w_14 =>
 loadP w_14 ((⟨b_1, 0, none⟩ : Addr).add 10) 1 (Value.int .u32) fun v_29 =>
 loadP w_14 (⟨b_28, 0, none⟩ : Addr) 19 ChunkV.val fun v_30 =>
 newP w_14 (.cells (NoteV.val ({ Tag := v_29, Chunk := v_30 } : NoteV)).cells 59) fun b_31 w_15 =>
 R (SlV.mk (some (⟨b_31, 0, none⟩ : Addr)) 1 1) w_15) ∧ (
 newP w_11 (.cells (ChunkV.val ({ Kind := 0, Begin := false, End := false, Loose := false, Bare := false, Tsn := 0, Stream := 0, Mid := 0, Ppid := 0, Frag := 0, Tag := 0, Window := 0, Out := 0, In := 0, Gaps := SlV.nil, Dups := SlV.nil, Skips := SlV.nil, Params := SlV.nil, Body := SlV.nil } : ChunkV)).cells 57) fun b_32 w_16 =>
 callP P 61 #[(.pointer (some p)), (.int .u8 (2 : Int)), (SlV.val (SlV.mk (some (⟨b_26, 0, none⟩ : Addr)) 1 1))] w_16 ChunkV.val fun r_33 w_17 =>
 storeP w_17 (⟨b_32, 0, none⟩ : Addr) 19 (ChunkV.val r_33) fun w_18 =>
 loadP w_18 ((⟨b_1, 0, none⟩ : Addr).add 10) 1 (Value.int .u32) fun v_34 =>
 loadP w_18 (⟨b_32, 0, none⟩ : Addr) 19 ChunkV.val fun v_35 =>
 newP w_18 (.cells (NoteV.val ({ Tag := v_34, Chunk := v_35 } : NoteV)).cells 59) fun b_36 w_19 =>
 R (SlV.mk (some (⟨b_36, 0, none⟩ : Addr)) 1 1) w_19)) ∧ (
 newP w_10 (.cells (ChunkV.val ({ Kind := 0, Begin := false, End := false, Loose := false, Bare := false, Tsn := 0, Stream := 0, Mid := 0, Ppid := 0, Frag := 0, Tag := 0, Window := 0, Out := 0, In := 0, Gaps := SlV.nil, Dups := SlV.nil, Skips := SlV.nil, Params := SlV.nil, Body := SlV.nil } : ChunkV)).cells 57) fun b_37 w_20 =>
 newP w_20 (.cells (ParamV.val ({ Kind := (7 : Int), Value_ := r_25 } : ParamV)).cells 144) fun b_38 w_21 =>
 callP P 61 #[(.pointer (some p)), (.int .u8 (2 : Int)), (SlV.val (SlV.mk (some (⟨b_38, 0, none⟩ : Addr)) 1 1))] w_21 ChunkV.val fun r_39 w_22 =>
 storeP w_22 (⟨b_37, 0, none⟩ : Addr) 19 (ChunkV.val r_39) fun w_23 =>
 loadP w_23 ((⟨b_1, 0, none⟩ : Addr).add 10) 1 (Value.int .u32) fun v_40 =>
 loadP w_23 (⟨b_37, 0, none⟩ : Addr) 19 ChunkV.val fun v_41 =>
 newP w_23 (.cells (NoteV.val ({ Tag := v_40, Chunk := v_41 } : NoteV)).cells 59) fun b_42 w_24 =>
 R (SlV.mk (some (⟨b_42, 0, none⟩ : Addr)) 1 1) w_24)) ∧ (
 newP w_9 (.cells (ChunkV.val ({ Kind := 0, Begin := false, End := false, Loose := false, Bare := false, Tsn := 0, Stream := 0, Mid := 0, Ppid := 0, Frag := 0, Tag := 0, Window := 0, Out := 0, In := 0, Gaps := SlV.nil, Dups := SlV.nil, Skips := SlV.nil, Params := SlV.nil, Body := SlV.nil } : ChunkV)).cells 57) fun b_43 w_25 =>
 Holds w_25 (⟨b_15, 0, none⟩ : Addr) 11 (CookieV.val v_23) ∧ (
 callP P 22 #[(SlV.val r_24), (CookieV.val v_23)] w_25 SlV.val fun r_44 w_26 =>
 newP w_26 (.cells (ParamV.val ({ Kind := (7 : Int), Value_ := r_44 } : ParamV)).cells 144) fun b_45 w_27 =>
 callP P 61 #[(.pointer (some p)), (.int .u8 (2 : Int)), (SlV.val (SlV.mk (some (⟨b_45, 0, none⟩ : Addr)) 1 1))] w_27 ChunkV.val fun r_46 w_28 =>
 storeP w_28 (⟨b_43, 0, none⟩ : Addr) 19 (ChunkV.val r_46) fun w_29 =>
 loadP w_29 ((⟨b_1, 0, none⟩ : Addr).add 10) 1 (Value.int .u32) fun v_47 =>
 loadP w_29 (⟨b_43, 0, none⟩ : Addr) 19 ChunkV.val fun v_48 =>
 newP w_29 (.cells (NoteV.val ({ Tag := v_47, Chunk := v_48 } : NoteV)).cells 59) fun b_49 w_30 =>
 R (SlV.mk (some (⟨b_49, 0, none⟩ : Addr)) 1 1) w_30)))) ∧ (
 newP w_6.drew (.cells (ChunkV.val ({ Kind := 0, Begin := false, End := false, Loose := false, Bare := false, Tsn := 0, Stream := 0, Mid := 0, Ppid := 0, Frag := 0, Tag := 0, Window := 0, Out := 0, In := 0, Gaps := SlV.nil, Dups := SlV.nil, Skips := SlV.nil, Params := SlV.nil, Body := SlV.nil } : ChunkV)).cells 57) fun b_50 w_31 =>
 Holds w_31 (⟨b_15, 0, none⟩ : Addr) 11 (CookieV.val v_23) ∧ (
 Holds w_31 ((p.add 0).add 4) 1 (.string v_22) ∧ (
 runP P (convert 9 22 (.string v_22)) w_31 SlV.val fun r_51 w_32 =>
 Holds w_32 (⟨b_15, 0, none⟩ : Addr) 11 (CookieV.val v_23) ∧ (
 callP P 22 #[(SlV.val r_51), (CookieV.val v_23)] w_32 SlV.val fun r_52 w_33 =>
 newP w_33 (.cells (ParamV.val ({ Kind := (7 : Int), Value_ := r_52 } : ParamV)).cells 144) fun b_53 w_34 =>
 callP P 61 #[(.pointer (some p)), (.int .u8 (2 : Int)), (SlV.val (SlV.mk (some (⟨b_53, 0, none⟩ : Addr)) 1 1))] w_34 ChunkV.val fun r_54 w_35 =>
 storeP w_35 (⟨b_50, 0, none⟩ : Addr) 19 (ChunkV.val r_54) fun w_36 =>
 loadP w_36 ((⟨b_1, 0, none⟩ : Addr).add 10) 1 (Value.int .u32) fun v_55 =>
 loadP w_36 (⟨b_50, 0, none⟩ : Addr) 19 ChunkV.val fun v_56 =>
 newP w_36 (.cells (NoteV.val ({ Tag := v_55, Chunk := v_56 } : NoteV)).cells 59) fun b_57 w_37 =>
 R (SlV.mk (some (⟨b_57, 0, none⟩ : Addr)) 1 1) w_37)))))))))))
def an62 : Ann := mkAnn [] [(3, []), (6, [])]
theorem sf62_eq (p : Addr) (c : ChunkV) (now : Int) (w0 : World) (R : SlV → World → Prop) : sf62 p c now w0 R = vcFn P sh an62 Try.f62 [(.pointer (some p)), (ChunkV.val c), (.int .u64 now)] shSl w0 R := by kernel_rfl
theorem nm62 : (Try.f62.name == "runtime.NumGoroutine") = false := by kernel_rfl
theorem sf62_call (p : Addr) (c : ChunkV) (now : Int) (w0 : World) (R : SlV → World → Prop) (hsf : sf62 p c now w0 R) : callP P 62 #[(.pointer (some p)), (ChunkV.val c), (.int .u64 now)] w0 shSl.val R :=
  vcFn_sound mixed Try.func62 nm62 (Eq.mp (sf62_eq p c now w0 R) hsf)

/-- (*flume/shake.Part).live -/
def sf63 (p : Addr) (w0 : World) (R : Bool → World → Prop) : Prop :=
 loadP w0 (p.add 5) 1 (Value.int .i64) fun v_1 =>
 cond' (decide (v_1 > (0 : Int))) (
 loadP w0 (p.add 5) 1 (Value.int .i64) fun v_3 =>
 R (decide (v_3 < (8 : Int))) w0) (
 R false w0)
def an63 : Ann := mkAnn [] []
theorem sf63_eq (p : Addr) (w0 : World) (R : Bool → World → Prop) : sf63 p w0 R = vcFn P sh an63 Try.f63 [(.pointer (some p))] shBool w0 R := by kernel_rfl
theorem nm63 : (Try.f63.name == "runtime.NumGoroutine") = false := by kernel_rfl
theorem sf63_call (p : Addr) (w0 : World) (R : Bool → World → Prop) (hsf : sf63 p w0 R) : callP P 63 #[(.pointer (some p))] w0 shBool.val R :=
  vcFn_sound mixed Try.func63 nm63 (Eq.mp (sf63_eq p w0 R) hsf)

/-- (*flume/shake.Part).granted -/
def sf64 (p : Addr) (c : ChunkV) (w0 : World) (R : SlV → World → Prop) : Prop :=
 newP w0 (.cells (ChunkV.val c).cells 57) fun b_1 w_1 =>
 loadP w_1 ((⟨b_1, 0, none⟩ : Addr).add 17) 1 SlV.val fun v_2 =>
 callP P 79 #[(SlV.val v_2), (.int .u16 (7 : Int))] w_1 (tup2V SlV.val Value.bool) fun r_3 w_2 =>
 cutP (Unit) (fun J_4 =>
 loadP w_2 (p.add 5) 1 (Value.int .i64) fun v_6 =>
 cond' (v_6 != (1 : Int)) (
 R SlV.nil w_2) (
 loadP w_2 (⟨b_1, 0, none⟩ : Addr) 19 ChunkV.val fun v_8 =>
 callP P 77 #[(ChunkV.val v_8)] w_2 Value.bool fun r_9 w_4 =>
 cond' (!r_9) (
 R SlV.nil w_4) (
 cond' (!r_3.2) (
 R SlV.nil w_4) (
 J_4 () w_4)))) fun _ _ w_3 =>
 cutP (Unit) (fun J_11 =>
 loadP w_3.drew ((⟨b_1, 0, none⟩ : Addr).add 10) 1 (Value.int .u32) fun v_13 =>
 loadP w_3.drew ((⟨b_1, 0, none⟩ : Addr).add 5) 1 (Value.int .u32) fun v_14 =>
 loadP w_3.drew ((⟨b_1, 0, none⟩ : Addr).add 11) 1 (Value.int .u32) fun v_15 =>
 loadP w_3.drew ((p.add 0).add 3) 1 Value.bool fun v_16 =>
 cond' v_16 (
 loadP w_3.drew (⟨b_1, 0, none⟩ : Addr) 19 ChunkV.val fun v_18 =>
 callP P 78 #[(ChunkV.val v_18)] w_3.drew Value.bool fun r_19 w_6 =>
 Holds w_6 ((⟨b_1, 0, none⟩ : Addr).add 11) 1 (.int .u32 v_15) ∧ (
 Holds w_6 ((⟨b_1, 0, none⟩ : Addr).add 5) 1 (.int .u32 v_14) ∧ (
 Holds w_6 ((⟨b_1, 0, none⟩ : Addr).add 10) 1 (.int .u32 v_13) ∧ (
 storeP w_6 (p.add 6) 4 (MetV.val ({ Tag := v_13, Tsn := v_14, Window := v_15, Inter := r_19 } : MetV)) fun w_7 =>
 J_11 () w_7)))) (
 storeP w_3.drew (p.add 6) 4 (MetV.val ({ Tag := v_13, Tsn := v_14, Window := v_15, Inter := false } : MetV)) fun w_8 =>
 J_11 () w_8)) fun _ _ w_5 =>
 storeP w_5 (p.add 10) 1 (SlV.val r_3.1) fun w_9 =>
 callP P 60 #[(.pointer (some p)), (.int .i64 (2 : Int))] w_9 unitV fun r_20 w_10 =>
 callP P 38 #[(SlV.val r_3.1)] w_10 SlV.val fun r_21 w_11 =>
 callP P 66 #[(.pointer (some p)), (ChunkV.val ({ Kind := (10 : Int), Begin := false, End := false, Loose := false, Bare := false, Tsn := 0, Stream := 0, Mid := 0, Ppid := 0, Frag := 0, Tag := 0, Window := 0, Out := 0, In := 0, Gaps := SlV.nil, Dups := SlV.nil, Skips := SlV.nil, Params := SlV.nil, Body := r_21 } : ChunkV))] w_11 SlV.val fun r_22 w_12 =>
 R r_22 w_12
def an64 : Ann := mkAnn [] [(4, []), (5, [])]
theorem sf64_eq (p : Addr) (c : ChunkV) (w0 : World) (R : SlV → World → Prop) : sf64 p c w0 R = vcFn P sh an64 Try.f64 [(.pointer (some p)), (ChunkV.val c)] shSl w0 R := by kernel_rfl
theorem nm64 : (Try.f64.name == "runtime.NumGoroutine") = false := by kernel_rfl
theorem sf64_call (p : Addr) (c : ChunkV) (w0 : World) (R : SlV → World → Prop) (hsf : sf64 p c w0 R) : callP P 64 #[(.pointer (some p)), (ChunkV.val c)] w0 shSl.val R :=
  vcFn_sound mixed Try.func64 nm64 (Eq.mp (sf64_eq p c w0 R) hsf)

/-- (*flume/shake.Part).echoed -/
def sf65 (p : Addr) (c : ChunkV) (now : Int) (w0 : World) (R : SlV → World → Prop) : Prop :=
 newP w0 (.cells (ChunkV.val c).cells 57) fun b_1 w_1 =>
 loadP w_1.drew ((p.add 0).add 4) 1 Value.string fun v_2 =>
 loadP w_1.drew ((⟨b_1, 0, none⟩ : Addr).add 18) 1 SlV.val fun v_3 =>
 (
 runP P (convert 9 22 (.string v_2)) w_1.drew SlV.val fun r_4 w_2 =>
 Holds w_2 ((⟨b_1, 0, none⟩ : Addr).add 18) 1 (SlV.val v_3) ∧ (
 (
 callP P 23 #[(SlV.val r_4), (SlV.val v_3), (.int .u32 (IntKind.u32.wrap now))] w_2 (tup2V CookieV.val (Value.int .i64)) fun r_5 w_3 =>
 newP w_3 (.cells (CookieV.val ({ Tag := 0, Peer := 0, Tsn := 0, PeerTsn := 0, Window := 0, Out := 0, In := 0, Features := 0, Made := 0, TieTag := 0, TiePeer := 0 } : CookieV)).cells 36) fun b_6 w_4 =>
 storeP w_4 (⟨b_6, 0, none⟩ : Addr) 11 (CookieV.val r_5.1) fun w_5 =>
 cutP (Unit) (fun J_7 =>
 cond' (r_5.2 != (0 : Int)) (
 R SlV.nil w_5.drew) (
 loadP w_5.drew ((⟨b_6, 0, none⟩ : Addr).add 0) 1 (Value.int .u32) fun v_10 =>
 loadP w_5.drew ((p.add 0).add 0) 1 (Value.int .u32) fun v_11 =>
 cond' (v_10 != v_11) (
 R SlV.nil w_5.drew) (
 loadP w_5.drew (p.add 5) 1 (Value.int .i64) fun v_13 =>
 cond' (decide (v_13 ≥ (8 : Int))) (
 R SlV.nil w_5.drew) (
 loadP w_5.drew (p.add 5) 1 (Value.int .i64) fun v_15 =>
 cond' (decide (v_15 ≥ (2 : Int))) (
 loadP w_5.drew ((⟨b_6, 0, none⟩ : Addr).add 1) 1 (Value.int .u32) fun v_17 =>
 loadP w_5.drew ((p.add 6).add 0) 1 (Value.int .u32) fun v_18 =>
 cond' (v_17 != v_18) (
 R SlV.nil w_5.drew) (
 J_7 () w_5.drew)) (
 J_7 () w_5.drew))))) fun _ _ w_6 =>
 loadP w_6 (p.add 5) 1 (Value.int .i64) fun v_19 =>
 cond' (decide (v_19 ≤ (2 : Int))) (
 loadP w_6 ((⟨b_6, 0, none⟩ : Addr).add 1) 1 (Value.int .u32) fun v_20 =>
 loadP w_6 ((⟨b_6, 0, none⟩ : Addr).add 3) 1 (Value.int .u32) fun v_21 =>
 loadP w_6 ((⟨b_6, 0, none⟩ : Addr).add 4) 1 (Value.int .u32) fun v_22 =>
 loadP w_6 ((⟨b_6, 0, none⟩ : Addr).add 7) 1 (Value.int .u8) fun v_23 =>
 storeP w_6 (p.add 6) 4 (MetV.val ({ Tag := v_20, Tsn := v_21, Window := v_22, Inter := (v_23 == (1 : Int)) } : MetV)) fun w_7 =>
 callP P 60 #[(.pointer (some p)), (.int .i64 (3 : Int))] w_7 unitV fun r_24 w_8 =>
 callP P 66 #[(.pointer (some p)), (ChunkV.val ({ Kind := (11 : Int), Begin := false, End := false, Loose := false, Bare := false, Tsn := 0, Stream := 0, Mid := 0, Ppid := 0, Frag := 0, Tag := 0, Window := 0, Out := 0, In := 0, Gaps := SlV.nil, Dups := SlV.nil, Skips := SlV.nil, Params := SlV.nil, Body := SlV.nil } : ChunkV))] w_8 SlV.val fun r_25 w_9 =>
 R r_25 w_9) (
 callP P 66 #[(.pointer (some p)), (ChunkV.val ({ Kind := (11 : Int), Begin := false, End := false, Loose := false, Bare := false, Tsn := 0, Stream := 0, Mid := 0, Ppid := 0, Frag := 0, Tag := 0, Window := 0, Out := 0, In := 0, Gaps := SlV.nil, Dups := SlV.nil, Skips := SlV.nil, Params := SlV.nil, Body := SlV.nil } : ChunkV))] w_6 SlV.val fun r_26 w_10 =>
 R r_26 w_10)) ∧ (
 newP w_2 (.cells (CookieV.val ({ Tag := 0, Peer := 0, Tsn := 0, PeerTsn := 0, Window := 0, Out := 0, In := 0, Features := 0, Made := 0, TieTag := 0, TiePeer := 0 } : CookieV)).cells 36) fun b_27 w_11 =>
 Holds w_11 ((⟨b_1, 0, none⟩ : Addr).add 18) 1 (SlV.val v_3) ∧ (
 callP P 23 #[(SlV.val r_4), (SlV.val v_3), (.int .u32 (IntKind.u32.wrap now))] w_11 (tup2V CookieV.val (Value.int .i64)) fun r_28 w_12 =>
 storeP w_12 (⟨b_27, 0, none⟩ : Addr) 11 (CookieV.val r_28.1) fun w_13 =>
 cutP (Unit) (fun J_29 =>
 cond' (r_28.2 != (0 : Int)) (
 R SlV.nil w_13.drew) (
 loadP w_13.drew ((⟨b_27, 0, none⟩ : Addr).add 0) 1 (Value.int .u32) fun v_32 =>
 loadP w_13.drew ((p.add 0).add 0) 1 (Value.int .u32) fun v_33 =>
 cond' (v_32 != v_33) (
 R SlV.nil w_13.drew) (
 loadP w_13.drew (p.add 5) 1 (Value.int .i64) fun v_35 =>
 cond' (decide (v_35 ≥ (8 : Int))) (
 R SlV.nil w_13.drew) (
 loadP w_13.drew (p.add 5) 1 (Value.int .i64) fun v_37 =>
 cond' (decide (v_37 ≥ (2 : Int))) (
 loadP w_13.drew ((⟨b_27, 0, none⟩ : Addr).add 1) 1 (Value.int .u32) fun v_39 =>
 loadP w_13.drew ((p.add 6).add 0) 1 (Value.int .u32) fun v_40 =>
 cond' (v_39 != v_40) (
 R SlV.nil w_13.drew) (
 J_29 () w_13.drew)) (
 J_29 () w_13.drew))))) fun _ _ w_14 =>
 loadP w_14 (p.add 5) 1 (Value.int .i64) fun v_41 =>
 cond' (decide (v_41 ≤ (2 : Int))) (
 loadP w_14 ((⟨b_27, 0, none⟩ : Addr).add 1) 1 (Value.int .u32) fun v_42 =>
 loadP w_14 ((⟨b_27, 0, none⟩ : Addr).add 3) 1 (Value.int .u32) fun v_43 =>
 loadP w_14 ((⟨b_27, 0, none⟩ : Addr).add 4) 1 (Value.int .u32) fun v_44 =>
 loadP w_14 ((⟨b_27, 0, none⟩ : Addr).add 7) 1 (Value.int .u8) fun v_45 =>
 storeP w_14 (p.add 6) 4 (MetV.val ({ Tag := v_42, Tsn := v_43, Window := v_44, Inter := (v_45 == (1 : Int)) } : MetV)) fun w_15 =>
 callP P 60 #[(.pointer (some p)), (.int .i64 (3 : Int))] w_15 unitV fun r_46 w_16 =>
 callP P 66 #[(.pointer (some p)), (ChunkV.val ({ Kind := (11 : Int), Begin := false, End := false, Loose := false, Bare := false, Tsn := 0, Stream := 0, Mid := 0, Ppid := 0, Frag := 0, Tag := 0, Window := 0, Out := 0, In := 0, Gaps := SlV.nil, Dups := SlV.nil, Skips := SlV.nil, Params := SlV.nil, Body := SlV.nil } : ChunkV))] w_16 SlV.val fun r_47 w_17 =>
 R r_47 w_17) (
 callP P 66 #[(.pointer (some p)), (ChunkV.val ({ Kind := (11 : Int), Begin := false, End := false, Loose := false, Bare := false, Tsn := 0, Stream := 0, Mid := 0, Ppid := 0, Frag := 0, Tag := 0, Window := 0, Out := 0, In := 0, Gaps := SlV.nil, Dups := SlV.nil, Skips := SlV.nil, Params := SlV.nil, Body := SlV.nil } : ChunkV))] w_14 SlV.val fun r_48 w_18 =>
 R r_48 w_18))))) ∧ (
 newP w_1.drew (.cells (CookieV.val ({ Tag := 0, Peer := 0, Tsn := 0, PeerTsn := 0, Window := 0, Out := 0, In := 0, Features := 0, Made := 0, TieTag := 0, TiePeer := 0 } : CookieV)).cells 36) fun b_49 w_19 =>
 Holds w_19 ((⟨b_1, 0, none⟩ : Addr).add 18) 1 (SlV.val v_3) ∧ (
 Holds w_19 ((p.add 0).add 4) 1 (.string v_2) ∧ (
 runP P (convert 9 22 (.string v_2)) w_19 SlV.val fun r_50 w_20 =>
 Holds w_20 ((⟨b_1, 0, none⟩ : Addr).add 18) 1 (SlV.val v_3) ∧ (
 callP P 23 #[(SlV.val r_50), (SlV.val v_3), (.int .u32 (IntKind.u32.wrap now))] w_20 (tup2V CookieV.val (Value.int .i64)) fun r_51 w_21 =>
 storeP w_21 (⟨b_49, 0, none⟩ : Addr) 11 (CookieV.val r_51.1) fun w_22 =>
 cutP (Unit) (fun J_52 =>
 cond' (r_51.2 != (0 : Int)) (
 R SlV.nil w_22.drew) (
 loadP w_22.drew ((⟨b_49, 0, none⟩ : Addr).add 0) 1 (Value.int .u32) fun v_55 =>
 loadP w_22.drew ((p.add 0).add 0) 1 (Value.int .u32) fun v_56 =>
 cond' (v_55 != v_56) (
 R SlV.nil w_22.drew) (
 loadP w_22.drew (p.add 5) 1 (Value.int .i64) fun v_58 =>
 cond' (decide (v_58 ≥ (8 : Int))) (
 R SlV.nil w_22.drew) (
 loadP w_22.drew (p.add 5) 1 (Value.int .i64) fun v_60 =>
 cond' (decide (v_60 ≥ (2 : Int))) (
 loadP w_22.drew ((⟨b_49, 0, none⟩ : Addr).add 1) 1 (Value.int .u32) fun v_62 =>
 loadP w_22.drew ((p.add 6).add 0) 1 (Value.int .u32) fun v_63 =>
 cond' (v_62 != v_63) (
 R SlV.nil w_22.drew) (
 J_52 () w_22.drew)) (
 J_52 () w_22.drew))))) fun _ _ w_23 =>
 loadP w_23 (p.add 5) 1 (Value.int .i64) fun v_64 =>
 cond' (decide (v_64 ≤ (2 : Int))) (
 loadP w_23 ((⟨b_49, 0, none⟩ : Addr).add 1) 1 (Value.int .u32) fun v_65 =>
 loadP w_23 ((⟨b_49, 0, none⟩ : Addr).add 3) 1 (Value.int .u32) fun v_66 =>
 loadP w_23 ((⟨b_49, 0, none⟩ : Addr).add 4) 1 (Value.int .u32) fun v_67 =>
 loadP w_23 ((⟨b_49, 0, none⟩ : Addr).add 7) 1 (Value.int .u8) fun v_68 =>
 storeP w_23 (p.add 6) 4 (MetV.val ({ Tag := v_65, Tsn := v_66, Window := v_67, Inter := (v_68 == (1 : Int)) } : MetV)) fun w_24 =>
 callP P 60 #[(.pointer (some p)), (.int .i64 (3 : Int))] w_24 unitV fun r_69 w_25 =>
 callP P 66 #[(.pointer (some p)), (ChunkV.val ({ Kind := (11 : Int), Begin := false, End := false, Loose := false, Bare := false, Tsn := 0, Stream := 0, Mid := 0, Ppid := 0, Frag := 0, Tag := 0, Window := 0, Out := 0, In := 0, Gaps := SlV.nil, Dups := SlV.nil, Skips := SlV.nil, Params := SlV.nil, Body := SlV.nil } : ChunkV))] w_25 SlV.val fun r_70 w_26 =>
 R r_70 w_26) (
 callP P 66 #[(.pointer (some p)), (ChunkV.val ({ Kind := (11 : Int), Begin := false, End := false, Loose := false, Bare := false, Tsn := 0, Stream := 0, Mid := 0, Ppid := 0, Frag := 0, Tag := 0, Window := 0, Out := 0, In := 0, Gaps := SlV.nil, Dups := SlV.nil, Skips := SlV.nil, Params := SlV.nil, Body := SlV.nil } : ChunkV))] w_23 SlV.val fun r_71 w_27 =>
 R r_71 w_27)))))
def an65 : Ann := mkAnn [] [(4, [])]
theorem sf65_eq (p : Addr) (c : ChunkV) (now : Int) (w0 : World) (R : SlV → World → Prop) : sf65 p c now w0 R = vcFn P sh an65 Try.f65 [(.pointer (some p)), (ChunkV.val c), (.int .u64 now)] shSl w0 R := by kernel_rfl
theorem nm65 : (Try.f65.name == "runtime.NumGoroutine") = false := by kernel_rfl
theorem sf65_call (p : Addr) (c : ChunkV) (now : Int) (w0 : World) (R : SlV → World → Prop) (hsf : sf65 p c now w0 R) : callP P 65 #[(.pointer (some p)), (ChunkV.val c), (.int .u64 now)] w0 shSl.val R :=
  vcFn_sound mixed Try.func65 nm65 (Eq.mp (sf65_eq p c now w0 R) hsf)

/-- (*flume/shake.Part).note -/
def sf66 (p : Addr) (c : ChunkV) (w0 : World) (R : SlV → World → Prop) : Prop :=
 newP w0 (.cells (ChunkV.val c).cells 57) fun b_1 w_1 =>
 loadP w_1.drew ((p.add 6).add 0) 1 (Value.int .u32) fun v_2 =>
 loadP w_1.drew (⟨b_1, 0, none⟩ : Addr) 19 ChunkV.val fun v_3 =>
 newP w_1.drew (.cells (NoteV.val ({ Tag := v_2, Chunk := v_3 } : NoteV)).cells 59) fun b_4 w_2 =>
 R (SlV.mk (some (⟨b_4, 0, none⟩ : Addr)) 1 1) w_2
def an66 : Ann := mkAnn [] []
theorem sf66_eq (p : Addr) (c : ChunkV) (w0 : World) (R : SlV → World → Prop) : sf66 p c w0 R = vcFn P sh an66 Try.f66 [(.pointer (some p)), (ChunkV.val c)] shSl w0 R := by kernel_rfl
theorem nm66 : (Try.f66.name == "runtime.NumGoroutine") = false := by kernel_rfl
theorem sf66_call (p : Addr) (c : ChunkV) (w0 : World) (R : SlV → World → Prop) (hsf : sf66 p c w0 R) : callP P 66 #[(.pointer (some p)), (ChunkV.val c)] w0 shSl.val R :=
  vcFn_sound mixed Try.func66 nm66 (Eq.mp (sf66_eq p c w0 R) hsf)

/-- slices.Grow[[]byte,byte] -/
def sf70 (s : SlV) (n : Int) (w0 : World) (R : SlV → World → Prop) : Prop :=
 cutP (Unit) (fun J_1 =>
 cond' (decide (n < (0 : Int))) (
 False) (
 J_1 () w0)) fun _ _ w_1 =>
 cond' (decide ((IntKind.i64.wrap (n - (IntKind.i64.wrap ((s.cap : Int) - (s.len : Int))))) > (0 : Int))) (
 chkP (leR (s.cap : Int) (s.cap : Int)) <|
 chkP (leR 0 (s.cap : Int)) <|
 runP P (Builtin.append_ #[22, 3] 22 #[(SlV.val (SlV.sub s (0) (Int.toNat (s.cap : Int)) s.cap 1)), (.int .i64 (IntKind.i64.wrap (n - (IntKind.i64.wrap ((s.cap : Int) - (s.len : Int))))))]) w_1 SlV.val fun r_3 w_2 =>
 chkP (leR (s.len : Int) (r_3.cap : Int)) <|
 chkP (leR 0 (s.len : Int)) <|
 R (SlV.sub r_3 (0) (Int.toNat (s.len : Int)) r_3.cap 1) w_2) (
 R s w_1)
def an70 : Ann := mkAnn [] [(3, [])]
theorem sf70_eq (s : SlV) (n : Int) (w0 : World) (R : SlV → World → Prop) : sf70 s n w0 R = vcFn P sh an70 Try.f70 [(SlV.val s), (.int .i64 n)] shSl w0 R := by kernel_rfl
theorem nm70 : (Try.f70.name == "runtime.NumGoroutine") = false := by kernel_rfl
theorem sf70_call (s : SlV) (n : Int) (w0 : World) (R : SlV → World → Prop) (hsf : sf70 s n w0 R) : callP P 70 #[(SlV.val s), (.int .i64 n)] w0 shSl.val R :=
  vcFn_sound mixed Try.func70 nm70 (Eq.mp (sf70_eq s n w0 R) hsf)

/-- slices.Chunk[[]byte,byte]$1 -/
def sf71 (L : Nat) (c1 : Addr) (c2 : Addr) (w0 : World) (R : Unit → World → Prop) : Prop :=
 loopP (Int) (0 : Int) w0 fun next__1 _ s_2 w_1 =>
 loadP w_1 c1 1 SlV.val fun v_3 =>
 cond' (decide (s_2 < (v_3.len : Int))) (
 loadP w_1.drew c2 1 (Value.int .i64) fun v_4 =>
 loadP w_1.drew c1 1 SlV.val fun v_5 =>
 chkP (leR (v_5.len : Int) (v_5.cap : Int)) <|
 chkP (leR s_2 (v_5.len : Int)) <|
 loadP w_1.drew c1 1 SlV.val fun v_6 =>
 chkP (leR (IntKind.i64.wrap (s_2 + (if ((SlV.sub v_5 (Int.toNat s_2) (v_5.len) v_5.cap 1).len : Int) < v_4 then ((SlV.sub v_5 (Int.toNat s_2) (v_5.len) v_5.cap 1).len : Int) else v_4))) (v_6.cap : Int)) <|
 chkP (leR (IntKind.i64.wrap (s_2 + (if ((SlV.sub v_5 (Int.toNat s_2) (v_5.len) v_5.cap 1).len : Int) < v_4 then ((SlV.sub v_5 (Int.toNat s_2) (v_5.len) v_5.cap 1).len : Int) else v_4))) (IntKind.i64.wrap (s_2 + (if ((SlV.sub v_5 (Int.toNat s_2) (v_5.len) v_5.cap 1).len : Int) < v_4 then ((SlV.sub v_5 (Int.toNat s_2) (v_5.len) v_5.cap 1).len : Int) else v_4)))) <|
 chkP (leR s_2 (IntKind.i64.wrap (s_2 + (if ((SlV.sub v_5 (Int.toNat s_2) (v_5.len) v_5.cap 1).len : Int) < v_4 then ((SlV.sub v_5 (Int.toNat s_2) (v_5.len) v_5.cap 1).len : Int) else v_4)))) <|
 yieldP P L [(SlV.val (SlV.sub v_6 (Int.toNat s_2) (Int.toNat (IntKind.i64.wrap (s_2 + (if ((SlV.sub v_5 (Int.toNat s_2) (v_5.len) v_5.cap 1).len : Int) < v_4 then ((SlV.sub v_5 (Int.toNat s_2) (v_5.len) v_5.cap 1).len : Int) else v_4)))) (Int.toNat (IntKind.i64.wrap (s_2 + (if ((SlV.sub v_5 (Int.toNat s_2) (v_5.len) v_5.cap 1).len : Int) < v_4 then ((SlV.sub v_5 (Int.toNat s_2) (v_5.len) v_5.cap 1).len : Int) else v_4)))) 1))] w_1.drew Value.bool fun r_7 w_2 =>
 cond' (!r_7) (
 R () w_2) (
 loadP w_2 c2 1 (Value.int .i64) fun v_8 =>
 next__1 (IntKind.i64.wrap (s_2 + v_8)) w_2)) (
 R () w_1)
def an71 : Ann := mkAnn [(1, [(4, (shInt .i64))])] []
theorem sf71_eq (L : Nat) (c1 : Addr) (c2 : Addr) (w0 : World) (R : Unit → World → Prop) : sf71 L c1 c2 w0 R = vcFn P sh an71 Try.f71 [(.func (.yield L) #[] #[]), (.pointer (some c1)), (.pointer (some c2))] shUnit w0 R := by kernel_rfl
theorem nm71 : (Try.f71.name == "runtime.NumGoroutine") = false := by kernel_rfl
theorem sf71_call (L : Nat) (c1 : Addr) (c2 : Addr) (w0 : World) (R : Unit → World → Prop) (hsf : sf71 L c1 c2 w0 R) : callP P 71 #[(.func (.yield L) #[] #[]), (.pointer (some c1)), (.pointer (some c2))] w0 shUnit.val R :=
  vcFn_sound mixed Try.func71 nm71 (Eq.mp (sf71_eq L c1 c2 w0 R) hsf)

/-- (*flume/mac.state).block$1 -/
def sf72 (x : Int) (n : Int) (w0 : World) (R : Int → World → Prop) : Prop :=
 callP P 73 #[(.int .u32 x), (.int .i64 (IntKind.i64.wrap (0 - n)))] w0 (Value.int .u32) fun r_1 w_1 =>
 R r_1 w_1
def an72 : Ann := mkAnn [] []
theorem sf72_eq (x : Int) (n : Int) (w0 : World) (R : Int → World → Prop) : sf72 x n w0 R = vcFn P sh an72 Try.f72 [(.int .u32 x), (.int .i64 n)] (shInt .u32) w0 R := by kernel_rfl
theorem nm72 : (Try.f72.name == "runtime.NumGoroutine") = false := by kernel_rfl
theorem sf72_call (x : Int) (n : Int) (w0 : World) (R : Int → World → Prop) (hsf : sf72 x n w0 R) : callP P 72 #[(.int .u32 x), (.int .i64 n)] w0 (shInt .u32).val R :=
  vcFn_sound mixed Try.func72 nm72 (Eq.mp (sf72_eq x n w0 R) hsf)

/-- math/bits.RotateLeft32 -/
def sf73 (x : Int) (k : Int) (w0 : World) (R : Int → World → Prop) : Prop :=
 chkP (decide (0 ≤ (bits .and .u64 (IntKind.u64.wrap k) (31 : Int)))) <|
 chkP (decide (0 ≤ (IntKind.u64.wrap ((32 : Int) - (bits .and .u64 (IntKind.u64.wrap k) (31 : Int)))))) <|
 R (bits .or .u32 (IntKind.u32.wrap (x * 2 ^ (min (Int.toNat (bits .and .u64 (IntKind.u64.wrap k) (31 : Int))) IntKind.u32.bits))) (Int.fdiv x (2 ^ (min (Int.toNat (IntKind.u64.wrap ((32 : Int) - (bits .and .u64 (IntKind.u64.wrap k) (31 : Int))))) IntKind.u32.bits)))) w0
def an73 : Ann := mkAnn [] []
theorem sf73_eq (x : Int) (k : Int) (w0 : World) (R : Int → World → Prop) : sf73 x k w0 R = vcFn P sh an73 Try.f73 [(.int .u32 x), (.int .i64 k)] (shInt .u32) w0 R := by kernel_rfl
theorem nm73 : (Try.f73.name == "runtime.NumGoroutine") = false := by kernel_rfl
theorem sf73_call (x : Int) (k : Int) (w0 : World) (R : Int → World → Prop) (hsf : sf73 x k w0 R) : callP P 73 #[(.int .u32 x), (.int .i64 k)] w0 (shInt .u32).val R :=
  vcFn_sound mixed Try.func73 nm73 (Eq.mp (sf73_eq x k w0 R) hsf)

/-- flume/mac.rounds -/
def sf74 (w0 : World) (R : (List Int) → World → Prop) : Prop :=
 newP w0 (.cells ((arrV .u32) (List.replicate 64 0)).cells 98) fun b_1 w_1 =>
 storeP w_1 (⟨b_1, 0, none⟩ : Addr) 64 ((arrV .u32) ([(1116352408 : Int), (1899447441 : Int), (3049323471 : Int), (3921009573 : Int), (961987163 : Int), (1508970993 : Int), (2453635748 : Int), (2870763221 : Int), (3624381080 : Int), (310598401 : Int), (607225278 : Int), (1426881987 : Int), (1925078388 : Int), (2162078206 : Int), (2614888103 : Int), (3248222580 : Int), (3835390401 : Int), (4022224774 : Int), (264347078 : Int), (604807628 : Int), (770255983 : Int), (1249150122 : Int), (1555081692 : Int), (1996064986 : Int), (2554220882 : Int), (2821834349 : Int), (2952996808 : Int), (3210313671 : Int), (3336571891 : Int), (3584528711 : Int), (113926993 : Int), (338241895 : Int), (666307205 : Int), (773529912 : Int), (1294757372 : Int), (1396182291 : Int), (1695183700 : Int), (1986661051 : Int), (2177026350 : Int), (2456956037 : Int), (2730485921 : Int), (2820302411 : Int), (3259730800 : Int), (3345764771 : Int), (3516065817 : Int), (3600352804 : Int), (4094571909 : Int), (275423344 : Int), (430227734 : Int), (506948616 : Int), (659060556 : Int), (883997877 : Int), (958139571 : Int), (1322822218 : Int), (1537002063 : Int), (1747873779 : Int), (1955562222 : Int), (2024104815 : Int), (2227730452 : Int), (2361852424 : Int), (2428436474 : Int), (2756734187 : Int), (3204031479 : Int), (3329325298 : Int)])) fun w_2 =>
 loadP w_2 (⟨b_1, 0, none⟩ : Addr) 64 (arrV .u32) fun v_2 =>
 unArrP .u32 ((arrV .u32) v_2) fun z_3 =>
 R z_3 w_2
def an74 : Ann := mkAnn [] []
theorem sf74_eq (w0 : World) (R : (List Int) → World → Prop) : sf74 w0 R = vcFn P sh an74 Try.f74 [] (shArr .u32) w0 R := by kernel_rfl
theorem nm74 : (Try.f74.name == "runtime.NumGoroutine") = false := by kernel_rfl
theorem sf74_call (w0 : World) (R : (List Int) → World → Prop) (hsf : sf74 w0 R) : callP P 74 #[] w0 (shArr .u32).val R :=
  vcFn_sound mixed Try.func74 nm74 (Eq.mp (sf74_eq w0 R) hsf)

/-- (*flume/octet.Reader).number -/
def sf75 (r : Addr) (n : Int) (w0 : World) (R : Int → World → Prop) : Prop :=
 callP P 81 #[(.pointer (some r)), (.int .i64 n)] w0 SlV.val fun r_1 w_1 =>
 loopP (Int × Int) ((0 : Int), (0 : Int)) w_1 fun next__2 _ s_3 w_2 =>
 cond' (decide (s_3.2 < (r_1.len : Int))) (
 chkP (inR s_3.2 r_1.len) <|
 nilP r_1.a fun a_4 =>
 loadP w_2 (a_4.add (Int.toNat s_3.2 * 1)) 1 (Value.int .u8) fun v_5 =>
 next__2 ((bits .or .u32 (IntKind.u32.wrap (s_3.1 * 2 ^ (min (Int.toNat (8 : Int)) IntKind.u32.bits))) (IntKind.u32.wrap v_5)), (IntKind.i64.wrap (s_3.2 + (1 : Int)))) w_2) (
 R s_3.1 w_2)
def an75 : Ann := mkAnn [(3, [(5, (shInt .u32)), (12, (shInt .i64))])] []
theorem sf75_eq (r : Addr) (n : Int) (w0 : World) (R : Int → World → Prop) : sf75 r n w0 R = vcFn P sh an75 Try.f75 [(.pointer (some r)), (.int .i64 n)] (shInt .u32) w0 R := by kernel_rfl
theorem nm75 : (Try.f75.name == "runtime.NumGoroutine") = false := by kernel_rfl
theorem sf75_call (r : Addr) (n : Int) (w0 : World) (R : Int → World → Prop) (hsf : sf75 r n w0 R) : callP P 75 #[(.pointer (some r)), (.int .i64 n)] w0 (shInt .u32).val R :=
  vcFn_sound mixed Try.func75 nm75 (Eq.mp (sf75_eq r n w0 R) hsf)

/-- (*flume/flumeref04.Tape).Take -/
def sf76 (t : Addr) (n : Int) (w0 : World) (R : SlV → World → Prop) : Prop :=
 cutP (Bool) (fun J_1 =>
 loadP w0.drew (t.add 2) 1 Value.bool fun v_3 =>
 cond' v_3 (
 J_1 true w0.drew) (
 cond' (decide (n < (0 : Int))) (
 J_1 true w0.drew) (
 loadP w0.drew (t.add 0) 1 SlV.val fun v_6 =>
 loadP w0.drew (t.add 1) 1 (Value.int .i64) fun v_7 =>
 J_1 (decide (n > (IntKind.i64.wrap ((v_6.len : Int) - v_7)))) w0.drew))) fun _ s_2 w_1 =>
 cond' s_2 (
 storeP w_1 (t.add 2) 1 (.bool true) fun w_2 =>
 loadP w_2 (t.add 0) 1 SlV.val fun v_8 =>
 storeP w_2 (t.add 1) 1 (.int .i64 (v_8.len : Int)) fun w_3 =>
 R SlV.nil w_3) (
 loadP w_1 (t.add 1) 1 (Value.int .i64) fun v_9 =>
 storeP w_1 (t.add 1) 1 (.int .i64 (IntKind.i64.wrap (v_9 + n))) fun w_4 =>
 loadP w_4.drew (t.add 0) 1 SlV.val fun v_10 =>
 loadP w_4.drew (t.add 1) 1 (Value.int .i64) fun v_11 =>
 loadP w_4.drew (t.add 1) 1 (Value.int .i64) fun v_12 =>
 chkP (leR v_12 (v_10.cap : Int)) <|
 chkP (leR (IntKind.i64.wrap (v_11 - n)) v_12) <|
 R (SlV.sub v_10 (Int.toNat (IntKind.i64.wrap (v_11 - n))) (Int.toNat v_12) v_10.cap 1) w_4.drew)
def an76 : Ann := mkAnn [] [(2, [(26, shBool)])]
theorem sf76_eq (t : Addr) (n : Int) (w0 : World) (R : SlV → World → Prop) : sf76 t n w0 R = vcFn P sh an76 Try.f76 [(.pointer (some t)), (.int .i64 n)] shSl w0 R := by kernel_rfl
theorem nm76 : (Try.f76.name == "runtime.NumGoroutine") = false := by kernel_rfl
theorem sf76_call (t : Addr) (n : Int) (w0 : World) (R : SlV → World → Prop) (hsf : sf76 t n w0 R) : callP P 76 #[(.pointer (some t)), (.int .i64 n)] w0 shSl.val R :=
  vcFn_sound mixed Try.func76 nm76 (Eq.mp (sf76_eq t n w0 R) hsf)

/-- flume/shake.right -/
def sf77 (c : ChunkV) (w0 : World) (R : Bool → World → Prop) : Prop :=
 newP w0 (.cells (ChunkV.val c).cells 57) fun b_1 w_1 =>
 loadP w_1 ((⟨b_1, 0, none⟩ : Addr).add 10) 1 (Value.int .u32) fun v_2 =>
 cond' (v_2 != (0 : Int)) (
 loadP w_1 ((⟨b_1, 0, none⟩ : Addr).add 12) 1 (Value.int .u16) fun v_4 =>
 cond' (v_4 != (0 : Int)) (
 loadP w_1 ((⟨b_1, 0, none⟩ : Addr).add 13) 1 (Value.int .u16) fun v_6 =>
 R (v_6 != (0 : Int)) w_1) (
 R false w_1)) (
 R false w_1)
def an77 : Ann := mkAnn [] []
theorem sf77_eq (c : ChunkV) (w0 : World) (R : Bool → World → Prop) : sf77 c w0 R = vcFn P sh an77 Try.f77 [(ChunkV.val c)] shBool w0 R := by kernel_rfl
theorem nm77 : (Try.f77.name == "runtime.NumGoroutine") = false := by kernel_rfl
theorem sf77_call (c : ChunkV) (w0 : World) (R : Bool → World → Prop) (hsf : sf77 c w0 R) : callP P 77 #[(ChunkV.val c)] w0 shBool.val R :=
  vcFn_sound mixed Try.func77 nm77 (Eq.mp (sf77_eq c w0 R) hsf)

/-- flume/shake.inter -/
def sf78 (c : ChunkV) (w0 : World) (R : Bool → World → Prop) : Prop :=
 newP w0 (.cells (ChunkV.val c).cells 57) fun b_1 w_1 =>
 loadP w_1 ((⟨b_1, 0, none⟩ : Addr).add 17) 1 SlV.val fun v_2 =>
 callP P 79 #[(SlV.val v_2), (.int .u16 (32776 : Int))] w_1 (tup2V SlV.val Value.bool) fun r_3 w_2 =>
 cond' r_3.2 (
 newP w_2 (.cells #[(.int .u8 (64 : Int))] 5) fun b_5 w_3 =>
 callP P 82 #[(SlV.val r_3.1), (SlV.val (SlV.mk (some (⟨b_5, 0, none⟩ : Addr)) 1 1))] w_3 Value.bool fun r_6 w_4 =>
 R r_6 w_4) (
 R false w_2)
def an78 : Ann := mkAnn [] []
theorem sf78_eq (c : ChunkV) (w0 : World) (R : Bool → World → Prop) : sf78 c w0 R = vcFn P sh an78 Try.f78 [(ChunkV.val c)] shBool w0 R := by kernel_rfl
theorem nm78 : (Try.f78.name == "runtime.NumGoroutine") = false := by kernel_rfl
theorem sf78_call (c : ChunkV) (w0 : World) (R : Bool → World → Prop) (hsf : sf78 c w0 R) : callP P 78 #[(ChunkV.val c)] w0 shBool.val R :=
  vcFn_sound mixed Try.func78 nm78 (Eq.mp (sf78_eq c w0 R) hsf)

/-- flume/param.Find -/
def sf79 (ps : SlV) (kind : Int) (w0 : World) (R : (SlV × Bool) → World → Prop) : Prop :=
 loopP (Int) (0 : Int) w0 fun next__1 _ s_2 w_1 =>
 cond' (decide (s_2 < (ps.len : Int))) (
 chkP (inR s_2 ps.len) <|
 nilP ps.a fun a_3 =>
 loadP w_1 (a_3.add (Int.toNat s_2 * 2)) 2 ParamV.val fun v_4 =>
 newP w_1 (.cells (ParamV.val ({ Kind := 0, Value_ := SlV.nil } : ParamV)).cells 144) fun b_5 w_2 =>
 storeP w_2 (⟨b_5, 0, none⟩ : Addr) 2 (ParamV.val v_4) fun w_3 =>
 loadP w_3 ((⟨b_5, 0, none⟩ : Addr).add 0) 1 (Value.int .u16) fun v_6 =>
 cond' (v_6 == kind) (
 loadP w_3 ((⟨b_5, 0, none⟩ : Addr).add 1) 1 SlV.val fun v_7 =>
 callP P 38 #[(SlV.val v_7)] w_3 SlV.val fun r_8 w_4 =>
 R (r_8, true) w_4) (
 next__1 (IntKind.i64.wrap (s_2 + (1 : Int))) w_3)) (
 R (SlV.nil, false) w_1)
def an79 : Ann := mkAnn [(2, [(10, (shInt .i64))])] []
theorem sf79_eq (ps : SlV) (kind : Int) (w0 : World) (R : (SlV × Bool) → World → Prop) : sf79 ps kind w0 R = vcFn P sh an79 Try.f79 [(SlV.val ps), (.int .u16 kind)] (shTup2 shSl shBool) w0 R := by kernel_rfl
theorem nm79 : (Try.f79.name == "runtime.NumGoroutine") = false := by kernel_rfl
theorem sf79_call (ps : SlV) (kind : Int) (w0 : World) (R : (SlV × Bool) → World → Prop) (hsf : sf79 ps kind w0 R) : callP P 79 #[(SlV.val ps), (.int .u16 kind)] w0 (shTup2 shSl shBool).val R :=
  vcFn_sound mixed Try.func79 nm79 (Eq.mp (sf79_eq ps kind w0 R) hsf)

/-- (*flume/octet.Reader).Take -/
def sf81 (r : Addr) (n : Int) (w0 : World) (R : SlV → World → Prop) : Prop :=
 cutP (Bool) (fun J_1 =>
 cond' (decide (n < (0 : Int))) (
 J_1 true w0) (
 loadP w0 (r.add 0) 1 SlV.val fun v_4 =>
 J_1 (decide (n > (v_4.len : Int))) w0)) fun _ s_2 w_1 =>
 cond' s_2 (
 storeP w_1 (r.add 1) 1 (.bool true) fun w_2 =>
 storeP w_2 (r.add 0) 1 (SlV.val SlV.nil) fun w_3 =>
 R SlV.nil w_3) (
 loadP w_1 (r.add 1) 1 Value.bool fun v_5 =>
 cond' v_5 (
 R SlV.nil w_1) (
 loadP w_1 (r.add 0) 1 SlV.val fun v_6 =>
 chkP (leR n (v_6.cap : Int)) <|
 chkP (leR 0 n) <|
 callP P 38 #[(SlV.val (SlV.sub v_6 (0) (Int.toNat n) v_6.cap 1))] w_1 SlV.val fun r_7 w_4 =>
 loadP w_4 (r.add 0) 1 SlV.val fun v_8 =>
 chkP (leR (v_8.len : Int) (v_8.cap : Int)) <|
 chkP (leR n (v_8.len : Int)) <|
 storeP w_4 (r.add 0) 1 (SlV.val (SlV.sub v_8 (Int.toNat n) (v_8.len) v_8.cap 1)) fun w_5 =>
 R r_7 w_5))
def an81 : Ann := mkAnn [] [(2, [(16, shBool)])]
theorem sf81_eq (r : Addr) (n : Int) (w0 : World) (R : SlV → World → Prop) : sf81 r n w0 R = vcFn P sh an81 Try.f81 [(.pointer (some r)), (.int .i64 n)] shSl w0 R := by kernel_rfl
theorem nm81 : (Try.f81.name == "runtime.NumGoroutine") = false := by kernel_rfl
theorem sf81_call (r : Addr) (n : Int) (w0 : World) (R : SlV → World → Prop) (hsf : sf81 r n w0 R) : callP P 81 #[(.pointer (some r)), (.int .i64 n)] w0 shSl.val R :=
  vcFn_sound mixed Try.func81 nm81 (Eq.mp (sf81_eq r n w0 R) hsf)

/-- slices.Equal[[]byte,byte] -/
def sf82 (s1 : SlV) (s2 : SlV) (w0 : World) (R : Bool → World → Prop) : Prop :=
 cond' ((s1.len : Int) != (s2.len : Int)) (
 R false w0) (
 loopP (Int) (0 : Int) w0 fun next__1 _ s_2 w_1 =>
 cond' (decide (s_2 < (s1.len : Int))) (
 chkP (inR s_2 s1.len) <|
 nilP s1.a fun a_3 =>
 loadP w_1.drew (a_3.add (Int.toNat s_2 * 1)) 1 (Value.int .u8) fun v_4 =>
 chkP (inR s_2 s2.len) <|
 nilP s2.a fun a_5 =>
 loadP w_1.drew (a_5.add (Int.toNat s_2 * 1)) 1 (Value.int .u8) fun v_6 =>
 cond' (v_4 != v_6) (
 R false w_1.drew) (
 next__1 (IntKind.i64.wrap (s_2 + (1 : Int))) w_1.drew)) (
 R true w_1))
def an82 : Ann := mkAnn [(4, [(13, (shInt .i64))])] []
theorem sf82_eq (s1 : SlV) (s2 : SlV) (w0 : World) (R : Bool → World → Prop) : sf82 s1 s2 w0 R = vcFn P sh an82 Try.f82 [(SlV.val s1), (SlV.val s2)] shBool w0 R := by kernel_rfl
theorem nm82 : (Try.f82.name == "runtime.NumGoroutine") = false := by kernel_rfl
theorem sf82_call (s1 : SlV) (s2 : SlV) (w0 : World) (R : Bool → World → Prop) (hsf : sf82 s1 s2 w0 R) : callP P 82 #[(SlV.val s1), (SlV.val s2)] w0 shBool.val R :=
  vcFn_sound mixed Try.func82 nm82 (Eq.mp (sf82_eq s1 s2 w0 R) hsf)

end Go.Vc.SA

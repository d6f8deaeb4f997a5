/-
  What functions of the program come to, read off their code. No condition.
-/
import Derived.Test.YtobldgdfejpckaaASh
set_option linter.all false
set_option linter.unusedVariables false
set_option maxRecDepth 100000
namespace Go.Vc.SA
open Go.Proofs
/-- flume/flumelaw19.ShakeMeets -/
def sf13 (a : EndV) (b : EndV) (acts : SlV) (w0 : World) (R : Bool → World → Prop) : Prop :=
 newP w0 (.cells (EndV.val a).cells 50) fun b_1 w_1 =>
 newP w_1 (.cells (EndV.val b).cells 50) fun b_2 w_2 =>
 callP P 27 #[] w_2 Value.bool fun r_3 w_3 =>
 cond' (!r_3) (
 R false w_3) (
 cutP (Unit) (fun J_4 =>
 loadP w_3 ((⟨b_1, 0, none⟩ : Addr).add 0) 1 (Value.int .u32) fun v_6 =>
 cond' (v_6 == (0 : Int)) (
 R true w_3) (
 loadP w_3 ((⟨b_2, 0, none⟩ : Addr).add 0) 1 (Value.int .u32) fun v_8 =>
 cond' (v_8 == (0 : Int)) (
 R true w_3) (
 loadP w_3 ((⟨b_1, 0, none⟩ : Addr).add 0) 1 (Value.int .u32) fun v_10 =>
 loadP w_3 ((⟨b_2, 0, none⟩ : Addr).add 0) 1 (Value.int .u32) fun v_11 =>
 cond' (v_10 == v_11) (
 R true w_3) (
 loadP w_3 ((⟨b_1, 0, none⟩ : Addr).add 4) 1 Value.string fun v_13 =>
 loadP w_3 ((⟨b_2, 0, none⟩ : Addr).add 4) 1 Value.string fun v_14 =>
 cond' (decide ((if (v_14.size : Int) > (v_13.size : Int) then (v_14.size : Int) else (v_13.size : Int)) > (200 : Int))) (
 R true w_3) (
 J_4 () w_3))))) fun _ _ w_4 =>
 loadP w_4 (⟨b_1, 0, none⟩ : Addr) 5 EndV.val fun v_15 =>
 callP P 28 #[(EndV.val v_15)] w_4 (tup2V Value.pointer (Value.int .i64)) fun r_16 w_5 =>
 loadP w_5 (⟨b_2, 0, none⟩ : Addr) 5 EndV.val fun v_17 =>
 callP P 28 #[(EndV.val v_17)] w_5 (tup2V Value.pointer (Value.int .i64)) fun r_18 w_6 =>
 loadP w_6.drew (⟨b_1, 0, none⟩ : Addr) 5 EndV.val fun v_19 =>
 loadP w_6.drew (⟨b_2, 0, none⟩ : Addr) 5 EndV.val fun v_20 =>
 (
 newP w_6.drew (.cells #[(.pointer r_16.1), (.pointer r_18.1)] 60) fun b_21 w_7 =>
 Holds w_7 (⟨b_2, 0, none⟩ : Addr) 5 (EndV.val v_20) ∧ (
 Holds w_7 (⟨b_1, 0, none⟩ : Addr) 5 (EndV.val v_19) ∧ (
 newP w_7 (.cells (List.toArray ((EndV.val v_19).cells.toList ++ ((EndV.val v_20).cells.toList ++ []))) 50) fun b_22 w_8 =>
 newP w_8 (.cells (Arr2SlV.val (Arr2SlV.mk SlV.nil SlV.nil)).cells 79) fun b_23 w_9 =>
 loopP (Int) (0 : Int) w_9 fun next__24 _ s_25 w_10 =>
 cond' (decide (s_25 < (acts.len : Int))) (
 chkP (inR s_25 acts.len) <|
 nilP acts.a fun a_26 =>
 loadP w_10 (a_26.add (Int.toNat s_25 * 2)) 2 ActV.val fun v_27 =>
 newP w_10 (.cells (ActV.val ({ Kind := 0, N := 0 } : ActV)).cells 81) fun b_28 w_11 =>
 storeP w_11 (⟨b_28, 0, none⟩ : Addr) 2 (ActV.val v_27) fun w_12 =>
 cond' (decide (s_25 ≥ (150 : Int))) (
 R true w_12) (
 loadP w_12 ((⟨b_28, 0, none⟩ : Addr).add 1) 1 (Value.int .i64) fun v_29 =>
 cutP (Int) (fun J_30 =>
 chkP (inR (IntKind.i64.wrap (Int.tmod (IntKind.u64.wrap v_29) (2 : Int))) 2) <|
 loadP w_12 ((⟨b_23, 0, none⟩ : Addr).add (Int.toNat (IntKind.i64.wrap (Int.tmod (IntKind.u64.wrap v_29) (2 : Int))) * 1)) 1 SlV.val fun v_32 =>
 cond' (decide ((v_32.len : Int) > (0 : Int))) (
 loadP w_12.drew ((⟨b_28, 0, none⟩ : Addr).add 1) 1 (Value.int .i64) fun v_33 =>
 chkP (inR (IntKind.i64.wrap (Int.tmod (IntKind.u64.wrap v_29) (2 : Int))) 2) <|
 loadP w_12.drew ((⟨b_23, 0, none⟩ : Addr).add (Int.toNat (IntKind.i64.wrap (Int.tmod (IntKind.u64.wrap v_29) (2 : Int))) * 1)) 1 SlV.val fun v_34 =>
 chkP (decide ((IntKind.u64.wrap (v_34.len : Int)) ≠ 0)) <|
 J_30 (IntKind.i64.wrap (Int.tmod (IntKind.u64.wrap (Int.tdiv (IntKind.u64.wrap v_33) (2 : Int))) (IntKind.u64.wrap (v_34.len : Int)))) w_12.drew) (
 J_30 (0 : Int) w_12)) fun _ s_31 w_13 =>
 cutP (Unit) (fun J_35 =>
 loadP w_13 ((⟨b_28, 0, none⟩ : Addr).add 0) 1 (Value.int .i64) fun v_37 =>
 cutP (Bool) (fun J_38 =>
 cond' ((Int.tmod (IntKind.u64.wrap v_37) (7 : Int)) == (0 : Int)) (
 J_38 ((Int.tmod (IntKind.u64.wrap v_37) (7 : Int)) == (0 : Int)) w_13) (
 cond' ((Int.tmod (IntKind.u64.wrap v_37) (7 : Int)) == (1 : Int)) (
 J_38 ((Int.tmod (IntKind.u64.wrap v_37) (7 : Int)) == (1 : Int)) w_13) (
 J_38 ((Int.tmod (IntKind.u64.wrap v_37) (7 : Int)) == (2 : Int)) w_13))) fun _ s_39 w_15 =>
 cond' s_39 (
 chkP (inR (IntKind.i64.wrap (Int.tmod (IntKind.u64.wrap v_29) (2 : Int))) 2) <|
 loadP w_15 ((⟨b_23, 0, none⟩ : Addr).add (Int.toNat (IntKind.i64.wrap (Int.tmod (IntKind.u64.wrap v_29) (2 : Int))) * 1)) 1 SlV.val fun v_40 =>
 cond' ((v_40.len : Int) == (0 : Int)) (
 next__24 (IntKind.i64.wrap (s_25 + (1 : Int))) w_15) (
 chkP (inR (IntKind.i64.wrap (Int.tmod (IntKind.u64.wrap v_29) (2 : Int))) 2) <|
 loadP w_15 ((⟨b_23, 0, none⟩ : Addr).add (Int.toNat (IntKind.i64.wrap (Int.tmod (IntKind.u64.wrap v_29) (2 : Int))) * 1)) 1 SlV.val fun v_41 =>
 chkP (inR s_31 v_41.len) <|
 nilP v_41.a fun a_42 =>
 loadP w_15 (a_42.add (Int.toNat s_31 * 20)) 20 NoteV.val fun v_43 =>
 newP w_15 (.cells (NoteV.val ({ Tag := 0, Chunk := ({ Kind := 0, Begin := false, End := false, Loose := false, Bare := false, Tsn := 0, Stream := 0, Mid := 0, Ppid := 0, Frag := 0, Tag := 0, Window := 0, Out := 0, In := 0, Gaps := SlV.nil, Dups := SlV.nil, Skips := SlV.nil, Params := SlV.nil, Body := SlV.nil } : ChunkV) } : NoteV)).cells 59) fun b_44 w_16 =>
 storeP w_16 (⟨b_44, 0, none⟩ : Addr) 20 (NoteV.val v_43) fun w_17 =>
 cutP (Unit) (fun J_45 =>
 loadP w_17 ((⟨b_28, 0, none⟩ : Addr).add 0) 1 (Value.int .i64) fun v_47 =>
 cond' ((Int.tmod (IntKind.u64.wrap v_47) (7 : Int)) != (2 : Int)) (
 chkP (inR (IntKind.i64.wrap (Int.tmod (IntKind.u64.wrap v_29) (2 : Int))) 2) <|
 loadP w_17.drew ((⟨b_23, 0, none⟩ : Addr).add (Int.toNat (IntKind.i64.wrap (Int.tmod (IntKind.u64.wrap v_29) (2 : Int))) * 1)) 1 SlV.val fun v_48 =>
 chkP (leR s_31 (v_48.cap : Int)) <|
 chkP (leR 0 s_31) <|
 chkP (inR (IntKind.i64.wrap (Int.tmod (IntKind.u64.wrap v_29) (2 : Int))) 2) <|
 loadP w_17.drew ((⟨b_23, 0, none⟩ : Addr).add (Int.toNat (IntKind.i64.wrap (Int.tmod (IntKind.u64.wrap v_29) (2 : Int))) * 1)) 1 SlV.val fun v_49 =>
 chkP (leR (v_49.len : Int) (v_49.cap : Int)) <|
 chkP (leR (IntKind.i64.wrap (s_31 + (1 : Int))) (v_49.len : Int)) <|
 newP w_17.drew (.cells (List.toArray []) 59) fun b_50 w_19 =>
 Holds w_19 ((⟨b_23, 0, none⟩ : Addr).add (Int.toNat (IntKind.i64.wrap (Int.tmod (IntKind.u64.wrap v_29) (2 : Int))) * 1)) 1 (SlV.val v_49) ∧ (
 Holds w_19 ((⟨b_23, 0, none⟩ : Addr).add (Int.toNat (IntKind.i64.wrap (Int.tmod (IntKind.u64.wrap v_29) (2 : Int))) * 1)) 1 (SlV.val v_48) ∧ (
 runP P (Builtin.append_ #[63, 63] 63 #[(SlV.val (SlV.mk (some (⟨b_50, 0, none⟩ : Addr)) 0 0)), (SlV.val (SlV.sub v_48 (0) (Int.toNat s_31) v_48.cap 20))]) w_19 SlV.val fun r_51 w_20 =>
 Holds w_20 ((⟨b_23, 0, none⟩ : Addr).add (Int.toNat (IntKind.i64.wrap (Int.tmod (IntKind.u64.wrap v_29) (2 : Int))) * 1)) 1 (SlV.val v_49) ∧ (
 runP P (Builtin.append_ #[63, 63] 63 #[(SlV.val r_51), (SlV.val (SlV.sub v_49 (Int.toNat (IntKind.i64.wrap (s_31 + (1 : Int)))) (v_49.len) v_49.cap 20))]) w_20 SlV.val fun r_52 w_21 =>
 chkP (inR (IntKind.i64.wrap (Int.tmod (IntKind.u64.wrap v_29) (2 : Int))) 2) <|
 storeP w_21 ((⟨b_23, 0, none⟩ : Addr).add (Int.toNat (IntKind.i64.wrap (Int.tmod (IntKind.u64.wrap v_29) (2 : Int))) * 1)) 1 (SlV.val r_52) fun w_22 =>
 J_45 () w_22)))) (
 J_45 () w_17)) fun _ _ w_18 =>
 loadP w_18 ((⟨b_28, 0, none⟩ : Addr).add 0) 1 (Value.int .i64) fun v_53 =>
 cond' ((Int.tmod (IntKind.u64.wrap v_53) (7 : Int)) != (1 : Int)) (
 chkP (inR (IntKind.i64.wrap ((1 : Int) - (IntKind.i64.wrap (Int.tmod (IntKind.u64.wrap v_29) (2 : Int))))) 2) <|
 loadP w_18.drew ((⟨b_23, 0, none⟩ : Addr).add (Int.toNat (IntKind.i64.wrap ((1 : Int) - (IntKind.i64.wrap (Int.tmod (IntKind.u64.wrap v_29) (2 : Int))))) * 1)) 1 SlV.val fun v_54 =>
 chkP (inR (IntKind.i64.wrap (Int.tmod (IntKind.u64.wrap v_29) (2 : Int))) 2) <|
 loadP w_18.drew ((⟨b_21, 0, none⟩ : Addr).add (Int.toNat (IntKind.i64.wrap (Int.tmod (IntKind.u64.wrap v_29) (2 : Int))) * 1)) 1 Value.pointer fun v_55 =>
 loadP w_18.drew ((⟨b_44, 0, none⟩ : Addr).add 0) 1 (Value.int .u32) fun v_56 =>
 loadP w_18.drew ((⟨b_44, 0, none⟩ : Addr).add 1) 19 ChunkV.val fun v_57 =>
 callP P 30 #[(.pointer v_55), (.int .u32 v_56), (ChunkV.val v_57), (.int .u64 (0 : Int))] w_18.drew SlV.val fun r_58 w_23 =>
 Holds w_23 ((⟨b_23, 0, none⟩ : Addr).add (Int.toNat (IntKind.i64.wrap ((1 : Int) - (IntKind.i64.wrap (Int.tmod (IntKind.u64.wrap v_29) (2 : Int))))) * 1)) 1 (SlV.val v_54) ∧ (
 runP P (Builtin.append_ #[63, 63] 63 #[(SlV.val v_54), (SlV.val r_58)]) w_23 SlV.val fun r_59 w_24 =>
 chkP (inR (IntKind.i64.wrap ((1 : Int) - (IntKind.i64.wrap (Int.tmod (IntKind.u64.wrap v_29) (2 : Int))))) 2) <|
 storeP w_24 ((⟨b_23, 0, none⟩ : Addr).add (Int.toNat (IntKind.i64.wrap ((1 : Int) - (IntKind.i64.wrap (Int.tmod (IntKind.u64.wrap v_29) (2 : Int))))) * 1)) 1 (SlV.val r_59) fun w_25 =>
 J_35 () w_25)) (
 J_35 () w_18))) (
 cond' ((Int.tmod (IntKind.u64.wrap v_37) (7 : Int)) == (3 : Int)) (
 cond' ((Int.tmod s_25 (9 : Int)) == (0 : Int)) (
 chkP (inR (IntKind.i64.wrap ((1 : Int) - (IntKind.i64.wrap (Int.tmod (IntKind.u64.wrap v_29) (2 : Int))))) 2) <|
 loadP w_15.drew ((⟨b_23, 0, none⟩ : Addr).add (Int.toNat (IntKind.i64.wrap ((1 : Int) - (IntKind.i64.wrap (Int.tmod (IntKind.u64.wrap v_29) (2 : Int))))) * 1)) 1 SlV.val fun v_60 =>
 chkP (inR (IntKind.i64.wrap (Int.tmod (IntKind.u64.wrap v_29) (2 : Int))) 2) <|
 loadP w_15.drew ((⟨b_21, 0, none⟩ : Addr).add (Int.toNat (IntKind.i64.wrap (Int.tmod (IntKind.u64.wrap v_29) (2 : Int))) * 1)) 1 Value.pointer fun v_61 =>
 callP P 34 #[(.pointer v_61), (.int .u32 (0 : Int))] w_15.drew SlV.val fun r_62 w_26 =>
 Holds w_26 ((⟨b_23, 0, none⟩ : Addr).add (Int.toNat (IntKind.i64.wrap ((1 : Int) - (IntKind.i64.wrap (Int.tmod (IntKind.u64.wrap v_29) (2 : Int))))) * 1)) 1 (SlV.val v_60) ∧ (
 runP P (Builtin.append_ #[63, 63] 63 #[(SlV.val v_60), (SlV.val r_62)]) w_26 SlV.val fun r_63 w_27 =>
 chkP (inR (IntKind.i64.wrap ((1 : Int) - (IntKind.i64.wrap (Int.tmod (IntKind.u64.wrap v_29) (2 : Int))))) 2) <|
 storeP w_27 ((⟨b_23, 0, none⟩ : Addr).add (Int.toNat (IntKind.i64.wrap ((1 : Int) - (IntKind.i64.wrap (Int.tmod (IntKind.u64.wrap v_29) (2 : Int))))) * 1)) 1 (SlV.val r_63) fun w_28 =>
 J_35 () w_28)) (
 J_35 () w_15)) (
 cond' ((Int.tmod (IntKind.u64.wrap v_37) (7 : Int)) == (4 : Int)) (
 chkP (inR (IntKind.i64.wrap ((1 : Int) - (IntKind.i64.wrap (Int.tmod (IntKind.u64.wrap v_29) (2 : Int))))) 2) <|
 loadP w_15.drew ((⟨b_23, 0, none⟩ : Addr).add (Int.toNat (IntKind.i64.wrap ((1 : Int) - (IntKind.i64.wrap (Int.tmod (IntKind.u64.wrap v_29) (2 : Int))))) * 1)) 1 SlV.val fun v_64 =>
 chkP (inR (IntKind.i64.wrap (Int.tmod (IntKind.u64.wrap v_29) (2 : Int))) 2) <|
 loadP w_15.drew ((⟨b_21, 0, none⟩ : Addr).add (Int.toNat (IntKind.i64.wrap (Int.tmod (IntKind.u64.wrap v_29) (2 : Int))) * 1)) 1 Value.pointer fun v_65 =>
 callP P 29 #[(.pointer v_65)] w_15.drew SlV.val fun r_66 w_29 =>
 Holds w_29 ((⟨b_23, 0, none⟩ : Addr).add (Int.toNat (IntKind.i64.wrap ((1 : Int) - (IntKind.i64.wrap (Int.tmod (IntKind.u64.wrap v_29) (2 : Int))))) * 1)) 1 (SlV.val v_64) ∧ (
 runP P (Builtin.append_ #[63, 63] 63 #[(SlV.val v_64), (SlV.val r_66)]) w_29 SlV.val fun r_67 w_30 =>
 chkP (inR (IntKind.i64.wrap ((1 : Int) - (IntKind.i64.wrap (Int.tmod (IntKind.u64.wrap v_29) (2 : Int))))) 2) <|
 storeP w_30 ((⟨b_23, 0, none⟩ : Addr).add (Int.toNat (IntKind.i64.wrap ((1 : Int) - (IntKind.i64.wrap (Int.tmod (IntKind.u64.wrap v_29) (2 : Int))))) * 1)) 1 (SlV.val r_67) fun w_31 =>
 J_35 () w_31)) (
 cond' ((Int.tmod (IntKind.u64.wrap v_37) (7 : Int)) == (5 : Int)) (
 chkP (inR (IntKind.i64.wrap (Int.tmod (IntKind.u64.wrap v_29) (2 : Int))) 2) <|
 loadP w_15 ((⟨b_21, 0, none⟩ : Addr).add (Int.toNat (IntKind.i64.wrap (Int.tmod (IntKind.u64.wrap v_29) (2 : Int))) * 1)) 1 Value.pointer fun v_68 =>
 callP P 33 #[(.pointer v_68)] w_15 Value.bool fun r_69 w_32 =>
 J_35 () w_32) (
 chkP (inR (IntKind.i64.wrap ((1 : Int) - (IntKind.i64.wrap (Int.tmod (IntKind.u64.wrap v_29) (2 : Int))))) 2) <|
 loadP w_15.drew ((⟨b_23, 0, none⟩ : Addr).add (Int.toNat (IntKind.i64.wrap ((1 : Int) - (IntKind.i64.wrap (Int.tmod (IntKind.u64.wrap v_29) (2 : Int))))) * 1)) 1 SlV.val fun v_70 =>
 chkP (inR (IntKind.i64.wrap (Int.tmod (IntKind.u64.wrap v_29) (2 : Int))) 2) <|
 loadP w_15.drew ((⟨b_21, 0, none⟩ : Addr).add (Int.toNat (IntKind.i64.wrap (Int.tmod (IntKind.u64.wrap v_29) (2 : Int))) * 1)) 1 Value.pointer fun v_71 =>
 callP P 37 #[(.pointer v_71), (.int .u32 (0 : Int))] w_15.drew SlV.val fun r_72 w_33 =>
 Holds w_33 ((⟨b_23, 0, none⟩ : Addr).add (Int.toNat (IntKind.i64.wrap ((1 : Int) - (IntKind.i64.wrap (Int.tmod (IntKind.u64.wrap v_29) (2 : Int))))) * 1)) 1 (SlV.val v_70) ∧ (
 runP P (Builtin.append_ #[63, 63] 63 #[(SlV.val v_70), (SlV.val r_72)]) w_33 SlV.val fun r_73 w_34 =>
 chkP (inR (IntKind.i64.wrap ((1 : Int) - (IntKind.i64.wrap (Int.tmod (IntKind.u64.wrap v_29) (2 : Int))))) 2) <|
 storeP w_34 ((⟨b_23, 0, none⟩ : Addr).add (Int.toNat (IntKind.i64.wrap ((1 : Int) - (IntKind.i64.wrap (Int.tmod (IntKind.u64.wrap v_29) (2 : Int))))) * 1)) 1 (SlV.val r_73) fun w_35 =>
 J_35 () w_35)))))) fun _ _ w_14 =>
 cutP (Unit) (fun J_74 =>
 callP P 31 #[(.pointer r_16.1)] w_14 (Value.int .i64) fun r_76 w_37 =>
 cond' (r_76 != (3 : Int)) (
 next__24 (IntKind.i64.wrap (s_25 + (1 : Int))) w_37) (
 callP P 31 #[(.pointer r_18.1)] w_37 (Value.int .i64) fun r_78 w_38 =>
 cond' (r_78 != (3 : Int)) (
 next__24 (IntKind.i64.wrap (s_25 + (1 : Int))) w_38) (
 J_74 () w_38))) fun _ _ w_36 =>
 loopP (Int) (0 : Int) w_36 fun next__79 _ s_80 w_39 =>
 cond' (decide (s_80 < (2 : Int))) (
 chkP (inR s_80 2) <|
 loadP w_39 ((⟨b_21, 0, none⟩ : Addr).add (Int.toNat s_80 * 1)) 1 Value.pointer fun v_81 =>
 callP P 36 #[(.pointer v_81)] w_39 MetV.val fun r_82 w_40 =>
 newP w_40 (.cells (MetV.val ({ Tag := 0, Tsn := 0, Window := 0, Inter := false } : MetV)).cells 73) fun b_83 w_41 =>
 storeP w_41 (⟨b_83, 0, none⟩ : Addr) 4 (MetV.val r_82) fun w_42 =>
 loadP w_42.drew ((⟨b_83, 0, none⟩ : Addr).add 0) 1 (Value.int .u32) fun v_84 =>
 chkP (inR (IntKind.i64.wrap ((1 : Int) - s_80)) 2) <|
 loadP w_42.drew (((⟨b_22, 0, none⟩ : Addr).add (Int.toNat (IntKind.i64.wrap ((1 : Int) - s_80)) * 5)).add 0) 1 (Value.int .u32) fun v_85 =>
 cond' (v_84 != v_85) (
 R false w_42.drew) (
 loadP w_42.drew ((⟨b_83, 0, none⟩ : Addr).add 1) 1 (Value.int .u32) fun v_87 =>
 chkP (inR (IntKind.i64.wrap ((1 : Int) - s_80)) 2) <|
 loadP w_42.drew (((⟨b_22, 0, none⟩ : Addr).add (Int.toNat (IntKind.i64.wrap ((1 : Int) - s_80)) * 5)).add 1) 1 (Value.int .u32) fun v_88 =>
 cond' (v_87 != v_88) (
 R false w_42.drew) (
 loadP w_42.drew ((⟨b_83, 0, none⟩ : Addr).add 2) 1 (Value.int .u32) fun v_90 =>
 chkP (inR (IntKind.i64.wrap ((1 : Int) - s_80)) 2) <|
 loadP w_42.drew (((⟨b_22, 0, none⟩ : Addr).add (Int.toNat (IntKind.i64.wrap ((1 : Int) - s_80)) * 5)).add 2) 1 (Value.int .u32) fun v_91 =>
 cond' (v_90 != v_91) (
 R false w_42.drew) (
 loadP w_42.drew ((⟨b_83, 0, none⟩ : Addr).add 3) 1 Value.bool fun v_93 =>
 loadP w_42.drew ((⟨b_1, 0, none⟩ : Addr).add 3) 1 Value.bool fun v_94 =>
 cond' v_94 (
 loadP w_42.drew ((⟨b_2, 0, none⟩ : Addr).add 3) 1 Value.bool fun v_96 =>
 cond' (negB true (v_93 == v_96)) (
 R false w_42.drew) (
 next__79 (IntKind.i64.wrap (s_80 + (1 : Int))) w_42.drew)) (
 cond' (negB true (v_93 == false)) (
 R false w_42.drew) (
 next__79 (IntKind.i64.wrap (s_80 + (1 : Int))) w_42.drew)))))) (
 next__24 (IntKind.i64.wrap (s_25 + (1 : Int))) w_39))) (
 R true w_10)))) ∧ (
 newP w_6.drew (.cells (List.toArray ((EndV.val v_19).cells.toList ++ ((EndV.val v_20).cells.toList ++ []))) 50) fun b_97 w_43 =>
 newP w_43 (.cells #[(.pointer r_16.1), (.pointer r_18.1)] 60) fun b_98 w_44 =>
 newP w_44 (.cells (Arr2SlV.val (Arr2SlV.mk SlV.nil SlV.nil)).cells 79) fun b_99 w_45 =>
 loopP (Int) (0 : Int) w_45 fun next__100 _ s_101 w_46 =>
 cond' (decide (s_101 < (acts.len : Int))) (
 chkP (inR s_101 acts.len) <|
 nilP acts.a fun a_102 =>
 loadP w_46 (a_102.add (Int.toNat s_101 * 2)) 2 ActV.val fun v_103 =>
 newP w_46 (.cells (ActV.val ({ Kind := 0, N := 0 } : ActV)).cells 81) fun b_104 w_47 =>
 storeP w_47 (⟨b_104, 0, none⟩ : Addr) 2 (ActV.val v_103) fun w_48 =>
 cond' (decide (s_101 ≥ (150 : Int))) (
 R true w_48) (
 loadP w_48 ((⟨b_104, 0, none⟩ : Addr).add 1) 1 (Value.int .i64) fun v_105 =>
 cutP (Int) (fun J_106 =>
 chkP (inR (IntKind.i64.wrap (Int.tmod (IntKind.u64.wrap v_105) (2 : Int))) 2) <|
 loadP w_48 ((⟨b_99, 0, none⟩ : Addr).add (Int.toNat (IntKind.i64.wrap (Int.tmod (IntKind.u64.wrap v_105) (2 : Int))) * 1)) 1 SlV.val fun v_108 =>
 cond' (decide ((v_108.len : Int) > (0 : Int))) (
 loadP w_48.drew ((⟨b_104, 0, none⟩ : Addr).add 1) 1 (Value.int .i64) fun v_109 =>
 chkP (inR (IntKind.i64.wrap (Int.tmod (IntKind.u64.wrap v_105) (2 : Int))) 2) <|
 loadP w_48.drew ((⟨b_99, 0, none⟩ : Addr).add (Int.toNat (IntKind.i64.wrap (Int.tmod (IntKind.u64.wrap v_105) (2 : Int))) * 1)) 1 SlV.val fun v_110 =>
 chkP (decide ((IntKind.u64.wrap (v_110.len : Int)) ≠ 0)) <|
 J_106 (IntKind.i64.wrap (Int.tmod (IntKind.u64.wrap (Int.tdiv (IntKind.u64.wrap v_109) (2 : Int))) (IntKind.u64.wrap (v_110.len : Int)))) w_48.drew) (
 J_106 (0 : Int) w_48)) fun _ s_107 w_49 =>
 cutP (Unit) (fun J_111 =>
 loadP w_49 ((⟨b_104, 0, none⟩ : Addr).add 0) 1 (Value.int .i64) fun v_113 =>
 cutP (Bool) (fun J_114 =>
 cond' ((Int.tmod (IntKind.u64.wrap v_113) (7 : Int)) == (0 : Int)) (
 J_114 ((Int.tmod (IntKind.u64.wrap v_113) (7 : Int)) == (0 : Int)) w_49) (
 cond' ((Int.tmod (IntKind.u64.wrap v_113) (7 : Int)) == (1 : Int)) (
 J_114 ((Int.tmod (IntKind.u64.wrap v_113) (7 : Int)) == (1 : Int)) w_49) (
 J_114 ((Int.tmod (IntKind.u64.wrap v_113) (7 : Int)) == (2 : Int)) w_49))) fun _ s_115 w_51 =>
 cond' s_115 (
 chkP (inR (IntKind.i64.wrap (Int.tmod (IntKind.u64.wrap v_105) (2 : Int))) 2) <|
 loadP w_51 ((⟨b_99, 0, none⟩ : Addr).add (Int.toNat (IntKind.i64.wrap (Int.tmod (IntKind.u64.wrap v_105) (2 : Int))) * 1)) 1 SlV.val fun v_116 =>
 cond' ((v_116.len : Int) == (0 : Int)) (
 next__100 (IntKind.i64.wrap (s_101 + (1 : Int))) w_51) (
 chkP (inR (IntKind.i64.wrap (Int.tmod (IntKind.u64.wrap v_105) (2 : Int))) 2) <|
 loadP w_51 ((⟨b_99, 0, none⟩ : Addr).add (Int.toNat (IntKind.i64.wrap (Int.tmod (IntKind.u64.wrap v_105) (2 : Int))) * 1)) 1 SlV.val fun v_117 =>
 chkP (inR s_107 v_117.len) <|
 nilP v_117.a fun a_118 =>
 loadP w_51 (a_118.add (Int.toNat s_107 * 20)) 20 NoteV.val fun v_119 =>
 newP w_51 (.cells (NoteV.val ({ Tag := 0, Chunk := ({ Kind := 0, Begin := false, End := false, Loose := false, Bare := false, Tsn := 0, Stream := 0, Mid := 0, Ppid := 0, Frag := 0, Tag := 0, Window := 0, Out := 0, In := 0, Gaps := SlV.nil, Dups := SlV.nil, Skips := SlV.nil, Params := SlV.nil, Body := SlV.nil } : ChunkV) } : NoteV)).cells 59) fun b_120 w_52 =>
 storeP w_52 (⟨b_120, 0, none⟩ : Addr) 20 (NoteV.val v_119) fun w_53 =>
 cutP (Unit) (fun J_121 =>
 loadP w_53 ((⟨b_104, 0, none⟩ : Addr).add 0) 1 (Value.int .i64) fun v_123 =>
 cond' ((Int.tmod (IntKind.u64.wrap v_123) (7 : Int)) != (2 : Int)) (
 chkP (inR (IntKind.i64.wrap (Int.tmod (IntKind.u64.wrap v_105) (2 : Int))) 2) <|
 loadP w_53.drew ((⟨b_99, 0, none⟩ : Addr).add (Int.toNat (IntKind.i64.wrap (Int.tmod (IntKind.u64.wrap v_105) (2 : Int))) * 1)) 1 SlV.val fun v_124 =>
 chkP (leR s_107 (v_124.cap : Int)) <|
 chkP (leR 0 s_107) <|
 chkP (inR (IntKind.i64.wrap (Int.tmod (IntKind.u64.wrap v_105) (2 : Int))) 2) <|
 loadP w_53.drew ((⟨b_99, 0, none⟩ : Addr).add (Int.toNat (IntKind.i64.wrap (Int.tmod (IntKind.u64.wrap v_105) (2 : Int))) * 1)) 1 SlV.val fun v_125 =>
 chkP (leR (v_125.len : Int) (v_125.cap : Int)) <|
 chkP (leR (IntKind.i64.wrap (s_107 + (1 : Int))) (v_125.len : Int)) <|
 newP w_53.drew (.cells (List.toArray []) 59) fun b_126 w_55 =>
 Holds w_55 ((⟨b_99, 0, none⟩ : Addr).add (Int.toNat (IntKind.i64.wrap (Int.tmod (IntKind.u64.wrap v_105) (2 : Int))) * 1)) 1 (SlV.val v_125) ∧ (
 Holds w_55 ((⟨b_99, 0, none⟩ : Addr).add (Int.toNat (IntKind.i64.wrap (Int.tmod (IntKind.u64.wrap v_105) (2 : Int))) * 1)) 1 (SlV.val v_124) ∧ (
 runP P (Builtin.append_ #[63, 63] 63 #[(SlV.val (SlV.mk (some (⟨b_126, 0, none⟩ : Addr)) 0 0)), (SlV.val (SlV.sub v_124 (0) (Int.toNat s_107) v_124.cap 20))]) w_55 SlV.val fun r_127 w_56 =>
 Holds w_56 ((⟨b_99, 0, none⟩ : Addr).add (Int.toNat (IntKind.i64.wrap (Int.tmod (IntKind.u64.wrap v_105) (2 : Int))) * 1)) 1 (SlV.val v_125) ∧ (
 runP P (Builtin.append_ #[63, 63] 63 #[(SlV.val r_127), (SlV.val (SlV.sub v_125 (Int.toNat (IntKind.i64.wrap (s_107 + (1 : Int)))) (v_125.len) v_125.cap 20))]) w_56 SlV.val fun r_128 w_57 =>
 chkP (inR (IntKind.i64.wrap (Int.tmod (IntKind.u64.wrap v_105) (2 : Int))) 2) <|
 storeP w_57 ((⟨b_99, 0, none⟩ : Addr).add (Int.toNat (IntKind.i64.wrap (Int.tmod (IntKind.u64.wrap v_105) (2 : Int))) * 1)) 1 (SlV.val r_128) fun w_58 =>
 J_121 () w_58)))) (
 J_121 () w_53)) fun _ _ w_54 =>
 loadP w_54 ((⟨b_104, 0, none⟩ : Addr).add 0) 1 (Value.int .i64) fun v_129 =>
 cond' ((Int.tmod (IntKind.u64.wrap v_129) (7 : Int)) != (1 : Int)) (
 chkP (inR (IntKind.i64.wrap ((1 : Int) - (IntKind.i64.wrap (Int.tmod (IntKind.u64.wrap v_105) (2 : Int))))) 2) <|
 loadP w_54.drew ((⟨b_99, 0, none⟩ : Addr).add (Int.toNat (IntKind.i64.wrap ((1 : Int) - (IntKind.i64.wrap (Int.tmod (IntKind.u64.wrap v_105) (2 : Int))))) * 1)) 1 SlV.val fun v_130 =>
 chkP (inR (IntKind.i64.wrap (Int.tmod (IntKind.u64.wrap v_105) (2 : Int))) 2) <|
 loadP w_54.drew ((⟨b_98, 0, none⟩ : Addr).add (Int.toNat (IntKind.i64.wrap (Int.tmod (IntKind.u64.wrap v_105) (2 : Int))) * 1)) 1 Value.pointer fun v_131 =>
 loadP w_54.drew ((⟨b_120, 0, none⟩ : Addr).add 0) 1 (Value.int .u32) fun v_132 =>
 loadP w_54.drew ((⟨b_120, 0, none⟩ : Addr).add 1) 19 ChunkV.val fun v_133 =>
 callP P 30 #[(.pointer v_131), (.int .u32 v_132), (ChunkV.val v_133), (.int .u64 (0 : Int))] w_54.drew SlV.val fun r_134 w_59 =>
 Holds w_59 ((⟨b_99, 0, none⟩ : Addr).add (Int.toNat (IntKind.i64.wrap ((1 : Int) - (IntKind.i64.wrap (Int.tmod (IntKind.u64.wrap v_105) (2 : Int))))) * 1)) 1 (SlV.val v_130) ∧ (
 runP P (Builtin.append_ #[63, 63] 63 #[(SlV.val v_130), (SlV.val r_134)]) w_59 SlV.val fun r_135 w_60 =>
 chkP (inR (IntKind.i64.wrap ((1 : Int) - (IntKind.i64.wrap (Int.tmod (IntKind.u64.wrap v_105) (2 : Int))))) 2) <|
 storeP w_60 ((⟨b_99, 0, none⟩ : Addr).add (Int.toNat (IntKind.i64.wrap ((1 : Int) - (IntKind.i64.wrap (Int.tmod (IntKind.u64.wrap v_105) (2 : Int))))) * 1)) 1 (SlV.val r_135) fun w_61 =>
 J_111 () w_61)) (
 J_111 () w_54))) (
 cond' ((Int.tmod (IntKind.u64.wrap v_113) (7 : Int)) == (3 : Int)) (
 cond' ((Int.tmod s_101 (9 : Int)) == (0 : Int)) (
 chkP (inR (IntKind.i64.wrap ((1 : Int) - (IntKind.i64.wrap (Int.tmod (IntKind.u64.wrap v_105) (2 : Int))))) 2) <|
 loadP w_51.drew ((⟨b_99, 0, none⟩ : Addr).add (Int.toNat (IntKind.i64.wrap ((1 : Int) - (IntKind.i64.wrap (Int.tmod (IntKind.u64.wrap v_105) (2 : Int))))) * 1)) 1 SlV.val fun v_136 =>
 chkP (inR (IntKind.i64.wrap (Int.tmod (IntKind.u64.wrap v_105) (2 : Int))) 2) <|
 loadP w_51.drew ((⟨b_98, 0, none⟩ : Addr).add (Int.toNat (IntKind.i64.wrap (Int.tmod (IntKind.u64.wrap v_105) (2 : Int))) * 1)) 1 Value.pointer fun v_137 =>
 callP P 34 #[(.pointer v_137), (.int .u32 (0 : Int))] w_51.drew SlV.val fun r_138 w_62 =>
 Holds w_62 ((⟨b_99, 0, none⟩ : Addr).add (Int.toNat (IntKind.i64.wrap ((1 : Int) - (IntKind.i64.wrap (Int.tmod (IntKind.u64.wrap v_105) (2 : Int))))) * 1)) 1 (SlV.val v_136) ∧ (
 runP P (Builtin.append_ #[63, 63] 63 #[(SlV.val v_136), (SlV.val r_138)]) w_62 SlV.val fun r_139 w_63 =>
 chkP (inR (IntKind.i64.wrap ((1 : Int) - (IntKind.i64.wrap (Int.tmod (IntKind.u64.wrap v_105) (2 : Int))))) 2) <|
 storeP w_63 ((⟨b_99, 0, none⟩ : Addr).add (Int.toNat (IntKind.i64.wrap ((1 : Int) - (IntKind.i64.wrap (Int.tmod (IntKind.u64.wrap v_105) (2 : Int))))) * 1)) 1 (SlV.val r_139) fun w_64 =>
 J_111 () w_64)) (
 J_111 () w_51)) (
 cond' ((Int.tmod (IntKind.u64.wrap v_113) (7 : Int)) == (4 : Int)) (
 chkP (inR (IntKind.i64.wrap ((1 : Int) - (IntKind.i64.wrap (Int.tmod (IntKind.u64.wrap v_105) (2 : Int))))) 2) <|
 loadP w_51.drew ((⟨b_99, 0, none⟩ : Addr).add (Int.toNat (IntKind.i64.wrap ((1 : Int) - (IntKind.i64.wrap (Int.tmod (IntKind.u64.wrap v_105) (2 : Int))))) * 1)) 1 SlV.val fun v_140 =>
 chkP (inR (IntKind.i64.wrap (Int.tmod (IntKind.u64.wrap v_105) (2 : Int))) 2) <|
 loadP w_51.drew ((⟨b_98, 0, none⟩ : Addr).add (Int.toNat (IntKind.i64.wrap (Int.tmod (IntKind.u64.wrap v_105) (2 : Int))) * 1)) 1 Value.pointer fun v_141 =>
 callP P 29 #[(.pointer v_141)] w_51.drew SlV.val fun r_142 w_65 =>
 Holds w_65 ((⟨b_99, 0, none⟩ : Addr).add (Int.toNat (IntKind.i64.wrap ((1 : Int) - (IntKind.i64.wrap (Int.tmod (IntKind.u64.wrap v_105) (2 : Int))))) * 1)) 1 (SlV.val v_140) ∧ (
 runP P (Builtin.append_ #[63, 63] 63 #[(SlV.val v_140), (SlV.val r_142)]) w_65 SlV.val fun r_143 w_66 =>
 chkP (inR (IntKind.i64.wrap ((1 : Int) - (IntKind.i64.wrap (Int.tmod (IntKind.u64.wrap v_105) (2 : Int))))) 2) <|
 storeP w_66 ((⟨b_99, 0, none⟩ : Addr).add (Int.toNat (IntKind.i64.wrap ((1 : Int) - (IntKind.i64.wrap (Int.tmod (IntKind.u64.wrap v_105) (2 : Int))))) * 1)) 1 (SlV.val r_143) fun w_67 =>
 J_111 () w_67)) (
 cond' ((Int.tmod (IntKind.u64.wrap v_113) (7 : Int)) == (5 : Int)) (
 chkP (inR (IntKind.i64.wrap (Int.tmod (IntKind.u64.wrap v_105) (2 : Int))) 2) <|
 loadP w_51 ((⟨b_98, 0, none⟩ : Addr).add (Int.toNat (IntKind.i64.wrap (Int.tmod (IntKind.u64.wrap v_105) (2 : Int))) * 1)) 1 Value.pointer fun v_144 =>
 callP P 33 #[(.pointer v_144)] w_51 Value.bool fun r_145 w_68 =>
 J_111 () w_68) (
 chkP (inR (IntKind.i64.wrap ((1 : Int) - (IntKind.i64.wrap (Int.tmod (IntKind.u64.wrap v_105) (2 : Int))))) 2) <|
 loadP w_51.drew ((⟨b_99, 0, none⟩ : Addr).add (Int.toNat (IntKind.i64.wrap ((1 : Int) - (IntKind.i64.wrap (Int.tmod (IntKind.u64.wrap v_105) (2 : Int))))) * 1)) 1 SlV.val fun v_146 =>
 chkP (inR (IntKind.i64.wrap (Int.tmod (IntKind.u64.wrap v_105) (2 : Int))) 2) <|
 loadP w_51.drew ((⟨b_98, 0, none⟩ : Addr).add (Int.toNat (IntKind.i64.wrap (Int.tmod (IntKind.u64.wrap v_105) (2 : Int))) * 1)) 1 Value.pointer fun v_147 =>
 callP P 37 #[(.pointer v_147), (.int .u32 (0 : Int))] w_51.drew SlV.val fun r_148 w_69 =>
 Holds w_69 ((⟨b_99, 0, none⟩ : Addr).add (Int.toNat (IntKind.i64.wrap ((1 : Int) - (IntKind.i64.wrap (Int.tmod (IntKind.u64.wrap v_105) (2 : Int))))) * 1)) 1 (SlV.val v_146) ∧ (
 runP P (Builtin.append_ #[63, 63] 63 #[(SlV.val v_146), (SlV.val r_148)]) w_69 SlV.val fun r_149 w_70 =>
 chkP (inR (IntKind.i64.wrap ((1 : Int) - (IntKind.i64.wrap (Int.tmod (IntKind.u64.wrap v_105) (2 : Int))))) 2) <|
 storeP w_70 ((⟨b_99, 0, none⟩ : Addr).add (Int.toNat (IntKind.i64.wrap ((1 : Int) - (IntKind.i64.wrap (Int.tmod (IntKind.u64.wrap v_105) (2 : Int))))) * 1)) 1 (SlV.val r_149) fun w_71 =>
 J_111 () w_71)))))) fun _ _ w_50 =>
 cutP (Unit) (fun J_150 =>
 callP P 31 #[(.pointer r_16.1)] w_50 (Value.int .i64) fun r_152 w_73 =>
 cond' (r_152 != (3 : Int)) (
 next__100 (IntKind.i64.wrap (s_101 + (1 : Int))) w_73) (
 callP P 31 #[(.pointer r_18.1)] w_73 (Value.int .i64) fun r_154 w_74 =>
 cond' (r_154 != (3 : Int)) (
 next__100 (IntKind.i64.wrap (s_101 + (1 : Int))) w_74) (
 J_150 () w_74))) fun _ _ w_72 =>
 loopP (Int) (0 : Int) w_72 fun next__155 _ s_156 w_75 =>
 cond' (decide (s_156 < (2 : Int))) (
 chkP (inR s_156 2) <|
 loadP w_75 ((⟨b_98, 0, none⟩ : Addr).add (Int.toNat s_156 * 1)) 1 Value.pointer fun v_157 =>
 callP P 36 #[(.pointer v_157)] w_75 MetV.val fun r_158 w_76 =>
 newP w_76 (.cells (MetV.val ({ Tag := 0, Tsn := 0, Window := 0, Inter := false } : MetV)).cells 73) fun b_159 w_77 =>
 storeP w_77 (⟨b_159, 0, none⟩ : Addr) 4 (MetV.val r_158) fun w_78 =>
 loadP w_78.drew ((⟨b_159, 0, none⟩ : Addr).add 0) 1 (Value.int .u32) fun v_160 =>
 chkP (inR (IntKind.i64.wrap ((1 : Int) - s_156)) 2) <|
 loadP w_78.drew (((⟨b_97, 0, none⟩ : Addr).add (Int.toNat (IntKind.i64.wrap ((1 : Int) - s_156)) * 5)).add 0) 1 (Value.int .u32) fun v_161 =>
 cond' (v_160 != v_161) (
 R false w_78.drew) (
 loadP w_78.drew ((⟨b_159, 0, none⟩ : Addr).add 1) 1 (Value.int .u32) fun v_163 =>
 chkP (inR (IntKind.i64.wrap ((1 : Int) - s_156)) 2) <|
 loadP w_78.drew (((⟨b_97, 0, none⟩ : Addr).add (Int.toNat (IntKind.i64.wrap ((1 : Int) - s_156)) * 5)).add 1) 1 (Value.int .u32) fun v_164 =>
 cond' (v_163 != v_164) (
 R false w_78.drew) (
 loadP w_78.drew ((⟨b_159, 0, none⟩ : Addr).add 2) 1 (Value.int .u32) fun v_166 =>
 chkP (inR (IntKind.i64.wrap ((1 : Int) - s_156)) 2) <|
 loadP w_78.drew (((⟨b_97, 0, none⟩ : Addr).add (Int.toNat (IntKind.i64.wrap ((1 : Int) - s_156)) * 5)).add 2) 1 (Value.int .u32) fun v_167 =>
 cond' (v_166 != v_167) (
 R false w_78.drew) (
 loadP w_78.drew ((⟨b_159, 0, none⟩ : Addr).add 3) 1 Value.bool fun v_169 =>
 loadP w_78.drew ((⟨b_1, 0, none⟩ : Addr).add 3) 1 Value.bool fun v_170 =>
 cond' v_170 (
 loadP w_78.drew ((⟨b_2, 0, none⟩ : Addr).add 3) 1 Value.bool fun v_172 =>
 cond' (negB true (v_169 == v_172)) (
 R false w_78.drew) (
 next__155 (IntKind.i64.wrap (s_156 + (1 : Int))) w_78.drew)) (
 cond' (negB true (v_169 == false)) (
 R false w_78.drew) (
 next__155 (IntKind.i64.wrap (s_156 + (1 : Int))) w_78.drew)))))) (
 next__100 (IntKind.i64.wrap (s_101 + (1 : Int))) w_75))) (
 R true w_46)))
def an13 : Ann := mkAnn [(10, [(67, (shInt .i64))]), (38, [(212, (shInt .i64))])] [(5, []), (18, [(18, (shInt .i64))]), (23, [(112, shBool)]), (27, []), (36, []), (37, [])]
theorem sf13_eq (a : EndV) (b : EndV) (acts : SlV) (w0 : World) (R : Bool → World → Prop) : sf13 a b acts w0 R = vcFn P sh an13 Try.f13 [(EndV.val a), (EndV.val b), (SlV.val acts)] shBool w0 R := by kernel_rfl
theorem nm13 : (Try.f13.name == "runtime.NumGoroutine") = false := by kernel_rfl
theorem sf13_call (a : EndV) (b : EndV) (acts : SlV) (w0 : World) (R : Bool → World → Prop) (hsf : sf13 a b acts w0 R) : callP P 13 #[(EndV.val a), (EndV.val b), (SlV.val acts)] w0 shBool.val R :=
  vcFn_sound mixed Try.func13 nm13 (Eq.mp (sf13_eq a b acts w0 R) hsf)

/-- flume/flumelaw19.ShakeOpens -/
def sf14 (a : EndV) (b : EndV) (lost : List Int) (w0 : World) (R : Bool → World → Prop) : Prop :=
 newP w0 (.cells (EndV.val a).cells 50) fun b_1 w_1 =>
 newP w_1 (.cells (EndV.val b).cells 50) fun b_2 w_2 =>
 newP w_2 (.cells ((arrV .i64) lost).cells 83) fun b_3 w_3 =>
 callP P 27 #[] w_3 Value.bool fun r_4 w_4 =>
 cond' (!r_4) (
 R false w_4) (
 cutP (Unit) (fun J_5 =>
 loadP w_4 ((⟨b_1, 0, none⟩ : Addr).add 0) 1 (Value.int .u32) fun v_7 =>
 cond' (v_7 == (0 : Int)) (
 R true w_4) (
 loadP w_4 ((⟨b_2, 0, none⟩ : Addr).add 0) 1 (Value.int .u32) fun v_9 =>
 cond' (v_9 == (0 : Int)) (
 R true w_4) (
 loadP w_4 ((⟨b_1, 0, none⟩ : Addr).add 0) 1 (Value.int .u32) fun v_11 =>
 loadP w_4 ((⟨b_2, 0, none⟩ : Addr).add 0) 1 (Value.int .u32) fun v_12 =>
 cond' (v_11 == v_12) (
 R true w_4) (
 loadP w_4 ((⟨b_1, 0, none⟩ : Addr).add 4) 1 Value.string fun v_14 =>
 loadP w_4 ((⟨b_2, 0, none⟩ : Addr).add 4) 1 Value.string fun v_15 =>
 cond' (decide ((if (v_15.size : Int) > (v_14.size : Int) then (v_15.size : Int) else (v_14.size : Int)) > (200 : Int))) (
 R true w_4) (
 J_5 () w_4))))) fun _ _ w_5 =>
 loadP w_5 (⟨b_1, 0, none⟩ : Addr) 5 EndV.val fun v_16 =>
 callP P 28 #[(EndV.val v_16)] w_5 (tup2V Value.pointer (Value.int .i64)) fun r_17 w_6 =>
 loadP w_6 (⟨b_2, 0, none⟩ : Addr) 5 EndV.val fun v_18 =>
 callP P 28 #[(EndV.val v_18)] w_6 (tup2V Value.pointer (Value.int .i64)) fun r_19 w_7 =>
 newP w_7 (.cells #[(.pointer r_17.1), (.pointer r_19.1)] 60) fun b_20 w_8 =>
 newP w_8 (.cells (Arr2SlV.val (Arr2SlV.mk SlV.nil SlV.nil)).cells 79) fun b_21 w_9 =>
 callP P 29 #[(.pointer r_17.1)] w_9 SlV.val fun r_22 w_10 =>
 storeP w_10 ((⟨b_21, 0, none⟩ : Addr).add (Int.toNat (1 : Int) * 1)) 1 (SlV.val r_22) fun w_11 =>
 cutP (Unit) (fun J_23 =>
 loadP w_11 ((⟨b_3, 0, none⟩ : Addr).add (Int.toNat (0 : Int) * 1)) 1 (Value.int .i64) fun v_25 =>
 cond' ((Int.tmod v_25 (2 : Int)) == (0 : Int)) (
 callP P 29 #[(.pointer r_19.1)] w_11 SlV.val fun r_26 w_13 =>
 storeP w_13 ((⟨b_21, 0, none⟩ : Addr).add (Int.toNat (0 : Int) * 1)) 1 (SlV.val r_26) fun w_14 =>
 J_23 () w_14) (
 J_23 () w_11)) fun _ _ w_12 =>
 loopP (Int) (0 : Int) w_12 fun next__27 _ s_28 w_15 =>
 cond' (decide (s_28 < (40 : Int))) (
 cutP (Unit) (fun J_29 =>
 cond' (s_28 == (16 : Int)) (
 cutP (Unit) (fun J_31 =>
 callP P 31 #[(.pointer r_17.1)] w_15 (Value.int .i64) fun r_33 w_18 =>
 cond' (r_33 != (3 : Int)) (
 R false w_18) (
 callP P 31 #[(.pointer r_19.1)] w_18 (Value.int .i64) fun r_35 w_19 =>
 cond' (r_35 != (3 : Int)) (
 R false w_19) (
 J_31 () w_19))) fun _ _ w_17 =>
 loadP w_17 ((⟨b_3, 0, none⟩ : Addr).add (Int.toNat (2 : Int) * 1)) 1 (Value.int .i64) fun v_36 =>
 chkP (inR (IntKind.i64.wrap (Int.tmod (IntKind.u64.wrap v_36) (2 : Int))) 2) <|
 loadP w_17 ((⟨b_20, 0, none⟩ : Addr).add (Int.toNat (IntKind.i64.wrap (Int.tmod (IntKind.u64.wrap v_36) (2 : Int))) * 1)) 1 Value.pointer fun v_37 =>
 callP P 33 #[(.pointer v_37)] w_17 Value.bool fun r_38 w_20 =>
 cond' (!r_38) (
 R false w_20) (
 J_29 () w_20)) (
 J_29 () w_15)) fun _ _ w_16 =>
 loopP (Int) (0 : Int) w_16 fun next__39 _ s_40 w_21 =>
 cond' (decide (s_40 < (2 : Int))) (
 chkP (inR s_40 2) <|
 loadP w_21 ((⟨b_21, 0, none⟩ : Addr).add (Int.toNat s_40 * 1)) 1 SlV.val fun v_41 =>
 chkP (inR s_40 2) <|
 storeP w_21 ((⟨b_21, 0, none⟩ : Addr).add (Int.toNat s_40 * 1)) 1 (SlV.val SlV.nil) fun w_22 =>
 cutP (SlV) (fun J_42 =>
 loadP w_22 ((⟨b_3, 0, none⟩ : Addr).add (Int.toNat (1 : Int) * 1)) 1 (Value.int .i64) fun v_44 =>
 cond' (decide (s_28 < (IntKind.i64.wrap ((1 : Int) + (IntKind.i64.wrap (Int.tmod (IntKind.u64.wrap v_44) (4 : Int))))))) (
 J_42 SlV.nil w_22) (
 J_42 v_41 w_22)) fun _ s_43 w_23 =>
 loopP (Int) (0 : Int) w_23 fun next__45 _ s_46 w_24 =>
 cond' (decide (s_46 < (s_43.len : Int))) (
 chkP (inR s_46 s_43.len) <|
 nilP s_43.a fun a_47 =>
 loadP w_24 (a_47.add (Int.toNat s_46 * 20)) 20 NoteV.val fun v_48 =>
 newP w_24 (.cells (NoteV.val ({ Tag := 0, Chunk := ({ Kind := 0, Begin := false, End := false, Loose := false, Bare := false, Tsn := 0, Stream := 0, Mid := 0, Ppid := 0, Frag := 0, Tag := 0, Window := 0, Out := 0, In := 0, Gaps := SlV.nil, Dups := SlV.nil, Skips := SlV.nil, Params := SlV.nil, Body := SlV.nil } : ChunkV) } : NoteV)).cells 59) fun b_49 w_25 =>
 storeP w_25 (⟨b_49, 0, none⟩ : Addr) 20 (NoteV.val v_48) fun w_26 =>
 chkP (inR (IntKind.i64.wrap ((1 : Int) - s_40)) 2) <|
 loadP w_26.drew ((⟨b_21, 0, none⟩ : Addr).add (Int.toNat (IntKind.i64.wrap ((1 : Int) - s_40)) * 1)) 1 SlV.val fun v_50 =>
 chkP (inR s_40 2) <|
 loadP w_26.drew ((⟨b_20, 0, none⟩ : Addr).add (Int.toNat s_40 * 1)) 1 Value.pointer fun v_51 =>
 loadP w_26.drew ((⟨b_49, 0, none⟩ : Addr).add 0) 1 (Value.int .u32) fun v_52 =>
 loadP w_26.drew ((⟨b_49, 0, none⟩ : Addr).add 1) 19 ChunkV.val fun v_53 =>
 callP P 30 #[(.pointer v_51), (.int .u32 v_52), (ChunkV.val v_53), (.int .u64 (IntKind.u64.wrap s_28))] w_26.drew SlV.val fun r_54 w_27 =>
 Holds w_27 ((⟨b_21, 0, none⟩ : Addr).add (Int.toNat (IntKind.i64.wrap ((1 : Int) - s_40)) * 1)) 1 (SlV.val v_50) ∧ (
 runP P (Builtin.append_ #[63, 63] 63 #[(SlV.val v_50), (SlV.val r_54)]) w_27 SlV.val fun r_55 w_28 =>
 chkP (inR (IntKind.i64.wrap ((1 : Int) - s_40)) 2) <|
 storeP w_28 ((⟨b_21, 0, none⟩ : Addr).add (Int.toNat (IntKind.i64.wrap ((1 : Int) - s_40)) * 1)) 1 (SlV.val r_55) fun w_29 =>
 next__45 (IntKind.i64.wrap (s_46 + (1 : Int))) w_29)) (
 cutP (Unit) (fun J_56 =>
 cond' (decide (s_28 ≥ (16 : Int))) (
 chkP (inR (IntKind.i64.wrap ((1 : Int) - s_40)) 2) <|
 loadP w_24.drew ((⟨b_21, 0, none⟩ : Addr).add (Int.toNat (IntKind.i64.wrap ((1 : Int) - s_40)) * 1)) 1 SlV.val fun v_58 =>
 chkP (inR s_40 2) <|
 loadP w_24.drew ((⟨b_20, 0, none⟩ : Addr).add (Int.toNat s_40 * 1)) 1 Value.pointer fun v_59 =>
 callP P 37 #[(.pointer v_59), (.int .u32 (0 : Int))] w_24.drew SlV.val fun r_60 w_31 =>
 Holds w_31 ((⟨b_21, 0, none⟩ : Addr).add (Int.toNat (IntKind.i64.wrap ((1 : Int) - s_40)) * 1)) 1 (SlV.val v_58) ∧ (
 runP P (Builtin.append_ #[63, 63] 63 #[(SlV.val v_58), (SlV.val r_60)]) w_31 SlV.val fun r_61 w_32 =>
 chkP (inR (IntKind.i64.wrap ((1 : Int) - s_40)) 2) <|
 storeP w_32 ((⟨b_21, 0, none⟩ : Addr).add (Int.toNat (IntKind.i64.wrap ((1 : Int) - s_40)) * 1)) 1 (SlV.val r_61) fun w_33 =>
 J_56 () w_33)) (
 J_56 () w_24)) fun _ _ w_30 =>
 loadP w_30 ((⟨b_21, 0, none⟩ : Addr).add (Int.toNat (0 : Int) * 1)) 1 SlV.val fun v_62 =>
 loadP w_30 ((⟨b_21, 0, none⟩ : Addr).add (Int.toNat (1 : Int) * 1)) 1 SlV.val fun v_63 =>
 cond' ((IntKind.i64.wrap ((v_62.len : Int) + (v_63.len : Int))) == (0 : Int)) (
 chkP (inR (IntKind.i64.wrap ((1 : Int) - s_40)) 2) <|
 loadP w_30.drew ((⟨b_21, 0, none⟩ : Addr).add (Int.toNat (IntKind.i64.wrap ((1 : Int) - s_40)) * 1)) 1 SlV.val fun v_64 =>
 chkP (inR s_40 2) <|
 loadP w_30.drew ((⟨b_20, 0, none⟩ : Addr).add (Int.toNat s_40 * 1)) 1 Value.pointer fun v_65 =>
 callP P 34 #[(.pointer v_65), (.int .u32 (0 : Int))] w_30.drew SlV.val fun r_66 w_34 =>
 Holds w_34 ((⟨b_21, 0, none⟩ : Addr).add (Int.toNat (IntKind.i64.wrap ((1 : Int) - s_40)) * 1)) 1 (SlV.val v_64) ∧ (
 runP P (Builtin.append_ #[63, 63] 63 #[(SlV.val v_64), (SlV.val r_66)]) w_34 SlV.val fun r_67 w_35 =>
 chkP (inR (IntKind.i64.wrap ((1 : Int) - s_40)) 2) <|
 storeP w_35 ((⟨b_21, 0, none⟩ : Addr).add (Int.toNat (IntKind.i64.wrap ((1 : Int) - s_40)) * 1)) 1 (SlV.val r_67) fun w_36 =>
 next__39 (IntKind.i64.wrap (s_40 + (1 : Int))) w_36)) (
 next__39 (IntKind.i64.wrap (s_40 + (1 : Int))) w_30))) (
 next__27 (IntKind.i64.wrap (s_28 + (1 : Int))) w_21)) (
 callP P 31 #[(.pointer r_17.1)] w_15 (Value.int .i64) fun r_68 w_37 =>
 cond' (r_68 == (8 : Int)) (
 callP P 31 #[(.pointer r_19.1)] w_37 (Value.int .i64) fun r_70 w_38 =>
 R (r_70 == (8 : Int)) w_38) (
 R false w_37)))
def an14 : Ann := mkAnn [(13, [(68, (shInt .i64))]), (21, [(91, (shInt .i64))]), (28, [(109, (shInt .i64))])] [(5, []), (12, []), (18, []), (20, []), (27, [(15, shSl)]), (34, [])]
theorem sf14_eq (a : EndV) (b : EndV) (lost : List Int) (w0 : World) (R : Bool → World → Prop) : sf14 a b lost w0 R = vcFn P sh an14 Try.f14 [(EndV.val a), (EndV.val b), ((arrV .i64) lost)] shBool w0 R := by kernel_rfl
theorem nm14 : (Try.f14.name == "runtime.NumGoroutine") = false := by kernel_rfl
theorem sf14_call (a : EndV) (b : EndV) (lost : List Int) (w0 : World) (R : Bool → World → Prop) (hsf : sf14 a b lost w0 R) : callP P 14 #[(EndV.val a), (EndV.val b), ((arrV .i64) lost)] w0 shBool.val R :=
  vcFn_sound mixed Try.func14 nm14 (Eq.mp (sf14_eq a b lost w0 R) hsf)

/-- flume/flumelaw08.first -/
def sf15 (w0 : World) (R : Bool → World → Prop) : Prop :=
 newP w0 (.cells #[(.int .u8 (97 : Int))] 5) fun b_1 w_1 =>
 runP P (convert 22 22 (SlV.val (SlV.mk (some (⟨b_1, 0, none⟩ : Addr)) 1 1))) w_1 SlV.val fun r_2 w_2 =>
 newP w_2 (.cells #[(.int .u8 (98 : Int)), (.int .u8 (99 : Int))] 5) fun b_3 w_3 =>
 runP P (convert 22 22 (SlV.val (SlV.mk (some (⟨b_3, 0, none⟩ : Addr)) 2 2))) w_3 SlV.val fun r_4 w_4 =>
 newP w_4 (.cells #[(SlV.val r_2), (SlV.val r_4)] 22) fun b_5 w_5 =>
 callP P 17 #[(SlV.val (SlV.mk (some (⟨b_5, 0, none⟩ : Addr)) 2 2))] w_5 (arrV .u8) fun r_6 w_6 =>
 newP w_6 (.cells ((arrV .u8) (List.replicate 32 0)).cells 25) fun b_7 w_7 =>
 storeP w_7 (⟨b_7, 0, none⟩ : Addr) 32 ((arrV .u8) r_6) fun w_8 =>
 newP w_8 (.cells #[(.int .u8 (74 : Int)), (.int .u8 (101 : Int)), (.int .u8 (102 : Int)), (.int .u8 (101 : Int))] 5) fun b_8 w_9 =>
 runP P (convert 22 22 (SlV.val (SlV.mk (some (⟨b_8, 0, none⟩ : Addr)) 4 4))) w_9 SlV.val fun r_9 w_10 =>
 newP w_10 (.cells #[(.int .u8 (119 : Int)), (.int .u8 (104 : Int)), (.int .u8 (97 : Int)), (.int .u8 (116 : Int)), (.int .u8 (32 : Int)), (.int .u8 (100 : Int)), (.int .u8 (111 : Int)), (.int .u8 (32 : Int)), (.int .u8 (121 : Int)), (.int .u8 (97 : Int)), (.int .u8 (32 : Int)), (.int .u8 (119 : Int)), (.int .u8 (97 : Int)), (.int .u8 (110 : Int)), (.int .u8 (116 : Int)), (.int .u8 (32 : Int)), (.int .u8 (102 : Int)), (.int .u8 (111 : Int)), (.int .u8 (114 : Int)), (.int .u8 (32 : Int)), (.int .u8 (110 : Int)), (.int .u8 (111 : Int)), (.int .u8 (116 : Int)), (.int .u8 (104 : Int)), (.int .u8 (105 : Int)), (.int .u8 (110 : Int)), (.int .u8 (103 : Int)), (.int .u8 (63 : Int))] 5) fun b_10 w_11 =>
 runP P (convert 22 22 (SlV.val (SlV.mk (some (⟨b_10, 0, none⟩ : Addr)) 28 28))) w_11 SlV.val fun r_11 w_12 =>
 newP w_12 (.cells #[(SlV.val r_11)] 22) fun b_12 w_13 =>
 callP P 16 #[(SlV.val r_9), (SlV.val (SlV.mk (some (⟨b_12, 0, none⟩ : Addr)) 1 1))] w_13 (arrV .u8) fun r_13 w_14 =>
 newP w_14 (.cells ((arrV .u8) (List.replicate 32 0)).cells 25) fun b_14 w_15 =>
 storeP w_15 (⟨b_14, 0, none⟩ : Addr) 32 ((arrV .u8) r_13) fun w_16 =>
 loadP w_16 ((⟨b_7, 0, none⟩ : Addr).add (Int.toNat (0 : Int) * 1)) 1 (Value.int .u8) fun v_15 =>
 cond' (v_15 == (186 : Int)) (
 loadP w_16 ((⟨b_7, 0, none⟩ : Addr).add (Int.toNat (31 : Int) * 1)) 1 (Value.int .u8) fun v_17 =>
 cond' (v_17 == (173 : Int)) (
 loadP w_16 ((⟨b_14, 0, none⟩ : Addr).add (Int.toNat (0 : Int) * 1)) 1 (Value.int .u8) fun v_19 =>
 cond' (v_19 == (91 : Int)) (
 loadP w_16 ((⟨b_14, 0, none⟩ : Addr).add (Int.toNat (31 : Int) * 1)) 1 (Value.int .u8) fun v_21 =>
 cond' (v_21 == (67 : Int)) (
 loadP w_16 (⟨b_7, 0, none⟩ : Addr) 32 (arrV .u8) fun v_23 =>
 loadP w_16 (⟨b_7, 0, none⟩ : Addr) 32 (arrV .u8) fun v_24 =>
 callP P 20 #[((arrV .u8) v_23), ((arrV .u8) v_24)] w_16 Value.bool fun r_25 w_17 =>
 cond' r_25 (
 loadP w_17 (⟨b_7, 0, none⟩ : Addr) 32 (arrV .u8) fun v_27 =>
 loadP w_17 (⟨b_14, 0, none⟩ : Addr) 32 (arrV .u8) fun v_28 =>
 callP P 20 #[((arrV .u8) v_27), ((arrV .u8) v_28)] w_17 Value.bool fun r_29 w_18 =>
 R (!r_29) w_18) (
 R false w_17)) (
 R false w_16)) (
 R false w_16)) (
 R false w_16)) (
 R false w_16)
def an15 : Ann := mkAnn [] []
theorem sf15_eq (w0 : World) (R : Bool → World → Prop) : sf15 w0 R = vcFn P sh an15 Try.f15 [] shBool w0 R := by kernel_rfl
theorem nm15 : (Try.f15.name == "runtime.NumGoroutine") = false := by kernel_rfl
theorem sf15_call (w0 : World) (R : Bool → World → Prop) (hsf : sf15 w0 R) : callP P 15 #[] w0 shBool.val R :=
  vcFn_sound mixed Try.func15 nm15 (Eq.mp (sf15_eq w0 R) hsf)

/-- flume/mac.Seal -/
def sf16 (key : SlV) (parts : SlV) (w0 : World) (R : (List Int) → World → Prop) : Prop :=
 newP w0 (.cells ((arrV .u8) (List.replicate 32 0)).cells 25) fun b_1 w_1 =>
 callP P 38 #[(SlV.val key)] w_1 SlV.val fun r_2 w_2 =>
 newP w_2 (.cells #[(SlV.val SlV.nil)] 22) fun b_3 w_3 =>
 storeP w_3 (⟨b_3, 0, none⟩ : Addr) 1 (SlV.val r_2) fun w_4 =>
 cutP (Unit) (fun J_4 =>
 loadP w_4 (⟨b_3, 0, none⟩ : Addr) 1 SlV.val fun v_6 =>
 cond' (decide ((v_6.len : Int) > (64 : Int))) (
 loadP w_4 (⟨b_3, 0, none⟩ : Addr) 1 SlV.val fun v_7 =>
 newP w_4 (.cells #[(SlV.val v_7)] 22) fun b_8 w_6 =>
 callP P 17 #[(SlV.val (SlV.mk (some (⟨b_8, 0, none⟩ : Addr)) 1 1))] w_6 (arrV .u8) fun r_9 w_7 =>
 newP w_7 (.cells ((arrV .u8) (List.replicate 32 0)).cells 25) fun b_10 w_8 =>
 storeP w_8 (⟨b_10, 0, none⟩ : Addr) 32 ((arrV .u8) r_9) fun w_9 =>
 storeP w_9 (⟨b_3, 0, none⟩ : Addr) 1 (SlV.val (arrSub (⟨b_10, 0, none⟩ : Addr) 0 32 32 1)) fun w_10 =>
 J_4 () w_10) (
 J_4 () w_4)) fun _ _ w_5 =>
 loadP w_5 (⟨b_3, 0, none⟩ : Addr) 1 SlV.val fun v_11 =>
 loadP w_5 (⟨b_3, 0, none⟩ : Addr) 1 SlV.val fun v_12 =>
 runP P (Builtin.append_ #[22, 3] 22 #[(SlV.val v_11), (.int .i64 (IntKind.i64.wrap ((64 : Int) - (v_12.len : Int))))]) w_5 SlV.val fun r_13 w_11 =>
 storeP w_11 (⟨b_3, 0, none⟩ : Addr) 1 (SlV.val r_13) fun w_12 =>
 callP P 41 #[(SlV.val parts)] w_12 SlV.val fun r_14 w_13 =>
 callP P 39 #[(.int .u8 (54 : Int)), (.pointer (some (⟨b_3, 0, none⟩ : Addr)))] w_13 SlV.val fun r_15 w_14 =>
 newP w_14 (.cells #[(SlV.val r_15)] 22) fun b_16 w_15 =>
 callP P 40 #[(SlV.val r_14), (.int .i64 (0 : Int)), (SlV.val (SlV.mk (some (⟨b_16, 0, none⟩ : Addr)) 1 1))] w_15 SlV.val fun r_17 w_16 =>
 callP P 17 #[(SlV.val r_17)] w_16 (arrV .u8) fun r_18 w_17 =>
 newP w_17 (.cells ((arrV .u8) (List.replicate 32 0)).cells 25) fun b_19 w_18 =>
 storeP w_18 (⟨b_19, 0, none⟩ : Addr) 32 ((arrV .u8) r_18) fun w_19 =>
 callP P 39 #[(.int .u8 (92 : Int)), (.pointer (some (⟨b_3, 0, none⟩ : Addr)))] w_19.drew SlV.val fun r_20 w_20 =>
 newP w_20 (.cells #[(SlV.val r_20), (SlV.val (arrSub (⟨b_19, 0, none⟩ : Addr) 0 32 32 1))] 22) fun b_21 w_21 =>
 callP P 17 #[(SlV.val (SlV.mk (some (⟨b_21, 0, none⟩ : Addr)) 2 2))] w_21 (arrV .u8) fun r_22 w_22 =>
 storeP w_22 (⟨b_1, 0, none⟩ : Addr) 32 ((arrV .u8) r_22) fun w_23 =>
 loadP w_23 (⟨b_1, 0, none⟩ : Addr) 32 (arrV .u8) fun v_23 =>
 unArrP .u8 ((arrV .u8) v_23) fun z_24 =>
 R z_24 w_23
def an16 : Ann := mkAnn [] [(5, [])]
theorem sf16_eq (key : SlV) (parts : SlV) (w0 : World) (R : (List Int) → World → Prop) : sf16 key parts w0 R = vcFn P sh an16 Try.f16 [(SlV.val key), (SlV.val parts)] (shArr .u8) w0 R := by kernel_rfl
theorem nm16 : (Try.f16.name == "runtime.NumGoroutine") = false := by kernel_rfl
theorem sf16_call (key : SlV) (parts : SlV) (w0 : World) (R : (List Int) → World → Prop) (hsf : sf16 key parts w0 R) : callP P 16 #[(SlV.val key), (SlV.val parts)] w0 (shArr .u8).val R :=
  vcFn_sound mixed Try.func16 nm16 (Eq.mp (sf16_eq key parts w0 R) hsf)

/-- flume/mac.Hash -/
def sf17 (parts : SlV) (w0 : World) (R : (List Int) → World → Prop) : Prop :=
 newP w0 (.cells ((arrV .u8) (List.replicate 32 0)).cells 25) fun b_1 w_1 =>
 callP P 42 #[(SlV.val parts)] w_1 SlV.val fun r_2 w_2 =>
 newP w_2 (.cells #[(.int .u8 (128 : Int))] 5) fun b_3 w_3 =>
 runP P (Builtin.append_ #[22, 22] 22 #[(SlV.val r_2), (SlV.val (SlV.mk (some (⟨b_3, 0, none⟩ : Addr)) 1 1))]) w_3 SlV.val fun r_4 w_4 =>
 runP P (Builtin.append_ #[22, 3] 22 #[(SlV.val r_4), (.int .i64 (Int.tmod (IntKind.i64.wrap ((120 : Int) - (Int.tmod (r_4.len : Int) (64 : Int)))) (64 : Int)))]) w_4 SlV.val fun r_5 w_5 =>
 loopP (SlV × Int) (r_5, (56 : Int)) w_5 fun next__6 _ s_7 w_6 =>
 cond' (decide (s_7.2 ≥ (0 : Int))) (
 chkP (decide (0 ≤ s_7.2)) <|
 newP w_6 (.cells #[(.int .u8 (IntKind.u8.wrap (Int.fdiv (IntKind.u64.wrap ((IntKind.u64.wrap (r_2.len : Int)) * (8 : Int))) (2 ^ (min (Int.toNat s_7.2) IntKind.u64.bits)))))] 5) fun b_8 w_7 =>
 runP P (Builtin.append_ #[22, 22] 22 #[(SlV.val s_7.1), (SlV.val (SlV.mk (some (⟨b_8, 0, none⟩ : Addr)) 1 1))]) w_7 SlV.val fun r_9 w_8 =>
 next__6 (r_9, (IntKind.i64.wrap (s_7.2 - (8 : Int)))) w_8) (
 newP w_6 (.cells ((arrV .u32) (List.replicate 8 0)).cells 92) fun b_10 w_9 =>
 storeP w_9 (⟨b_10, 0, none⟩ : Addr) 8 ((arrV .u32) ([(1779033703 : Int), (3144134277 : Int), (1013904242 : Int), (2773480762 : Int), (1359893119 : Int), (2600822924 : Int), (528734635 : Int), (1541459225 : Int)])) fun w_10 =>
 callP P 43 #[(SlV.val s_7.1), (.int .i64 (64 : Int))] w_10 FnV.val fun r_11 w_11 =>
 rangeP P (FnV.val r_11) (fun x : SlV => [(SlV.val x)]) (fun L_12 x_13 w_12 J_14 =>
 begP P L_12 w_12 fun w_13 =>
 callP P 44 #[(.pointer (some (⟨b_10, 0, none⟩ : Addr))), (SlV.val x_13)] w_13 unitV fun r_16 w_15 =>
 J_14 w_15) w_11 fun D_15 w_14 =>
 newP w_14 (.cells ((arrV .u8) (List.replicate 32 0)).cells 25) fun b_17 w_16 =>
 loadP w_16 (⟨b_10, 0, none⟩ : Addr) 8 (arrV .u32) fun v_18 =>
 loopP (Int) (0 : Int) w_16 fun next__19 _ s_20 w_17 =>
 cond' (decide (s_20 < (8 : Int))) (
 chkP (inR s_20 8) <|
 nthK .u32 (((arrV .u32) v_18)).cells.toList (Int.toNat s_20 * 1) fun y_21 =>
 loopP (Int) (0 : Int) w_17 fun next__22 _ s_23 w_18 =>
 cond' (decide (s_23 < (4 : Int))) (
 chkP (decide (0 ≤ (IntKind.i64.wrap ((24 : Int) - (IntKind.i64.wrap ((8 : Int) * s_23)))))) <|
 chkP (inR (IntKind.i64.wrap ((IntKind.i64.wrap ((4 : Int) * s_20)) + s_23)) 32) <|
 storeP w_18 ((⟨b_17, 0, none⟩ : Addr).add (Int.toNat (IntKind.i64.wrap ((IntKind.i64.wrap ((4 : Int) * s_20)) + s_23)) * 1)) 1 (.int .u8 (IntKind.u8.wrap (Int.fdiv y_21 (2 ^ (min (Int.toNat (IntKind.i64.wrap ((24 : Int) - (IntKind.i64.wrap ((8 : Int) * s_23))))) IntKind.u32.bits))))) fun w_19 =>
 next__22 (IntKind.i64.wrap (s_23 + (1 : Int))) w_19) (
 next__19 (IntKind.i64.wrap (s_20 + (1 : Int))) w_18)) (
 loadP w_17 (⟨b_17, 0, none⟩ : Addr) 32 (arrV .u8) fun v_24 =>
 storeP w_17 (⟨b_1, 0, none⟩ : Addr) 32 ((arrV .u8) v_24) fun w_20 =>
 leaveP P D_15 w_20 fun w_21 =>
 loadP w_21 (⟨b_1, 0, none⟩ : Addr) 32 (arrV .u8) fun v_25 =>
 unArrP .u8 ((arrV .u8) v_25) fun z_26 =>
 R z_26 w_21))
def an17 : Ann := mkAnn [(6, [(3, shSl), (5, (shInt .i64))]), (12, [(42, shSl)]), (15, [(46, (shInt .i64))]), (18, [(50, (shInt .i64))])] []
theorem sf17_eq (parts : SlV) (w0 : World) (R : (List Int) → World → Prop) : sf17 parts w0 R = vcFn P sh an17 Try.f17 [(SlV.val parts)] (shArr .u8) w0 R := by kernel_rfl
theorem nm17 : (Try.f17.name == "runtime.NumGoroutine") = false := by kernel_rfl
theorem sf17_call (parts : SlV) (w0 : World) (R : (List Int) → World → Prop) (hsf : sf17 parts w0 R) : callP P 17 #[(SlV.val parts)] w0 (shArr .u8).val R :=
  vcFn_sound mixed Try.func17 nm17 (Eq.mp (sf17_eq parts w0 R) hsf)

/-- flume/flumeref08.Seal -/
def sf18 (key : SlV) (m : SlV) (w0 : World) (R : (List Int) → World → Prop) : Prop :=
 newP w0 (.cells ((arrV .u8) (List.replicate 32 0)).cells 25) fun b_1 w_1 =>
 newP w_1 (.cells ((arrV .u8) (List.replicate 64 0)).cells 97) fun b_2 w_2 =>
 cutP (Unit) (fun J_3 =>
 cond' (decide ((key.len : Int) > (64 : Int))) (
 callP P 19 #[(SlV.val key)] w_2 (arrV .u8) fun r_5 w_4 =>
 newP w_4 (.cells ((arrV .u8) (List.replicate 32 0)).cells 25) fun b_6 w_5 =>
 storeP w_5 (⟨b_6, 0, none⟩ : Addr) 32 ((arrV .u8) r_5) fun w_6 =>
 loopP (Int) (0 : Int) w_6 fun next__7 _ s_8 w_7 =>
 cond' (decide (s_8 < (32 : Int))) (
 chkP (inR s_8 32) <|
 loadP w_7 ((⟨b_6, 0, none⟩ : Addr).add (Int.toNat s_8 * 1)) 1 (Value.int .u8) fun v_9 =>
 chkP (inR s_8 64) <|
 storeP w_7 ((⟨b_2, 0, none⟩ : Addr).add (Int.toNat s_8 * 1)) 1 (.int .u8 v_9) fun w_8 =>
 next__7 (IntKind.i64.wrap (s_8 + (1 : Int))) w_8) (
 J_3 () w_7)) (
 loopP (Int) (0 : Int) w_2 fun next__10 _ s_11 w_9 =>
 cond' (decide (s_11 < (key.len : Int))) (
 chkP (inR s_11 key.len) <|
 nilP key.a fun a_12 =>
 loadP w_9 (a_12.add (Int.toNat s_11 * 1)) 1 (Value.int .u8) fun v_13 =>
 chkP (inR s_11 64) <|
 storeP w_9 ((⟨b_2, 0, none⟩ : Addr).add (Int.toNat s_11 * 1)) 1 (.int .u8 v_13) fun w_10 =>
 next__10 (IntKind.i64.wrap (s_11 + (1 : Int))) w_10) (
 J_3 () w_9))) fun _ _ w_3 =>
 loopP (SlV × SlV × Int) (SlV.nil, SlV.nil, (0 : Int)) w_3 fun next__14 _ s_15 w_11 =>
 cond' (decide (s_15.2.2 < (64 : Int))) (
 chkP (inR s_15.2.2 64) <|
 loadP w_11 ((⟨b_2, 0, none⟩ : Addr).add (Int.toNat s_15.2.2 * 1)) 1 (Value.int .u8) fun v_16 =>
 newP w_11 (.cells #[(.int .u8 (bits .xor .u8 v_16 (54 : Int)))] 5) fun b_17 w_12 =>
 runP P (Builtin.append_ #[22, 22] 22 #[(SlV.val s_15.1), (SlV.val (SlV.mk (some (⟨b_17, 0, none⟩ : Addr)) 1 1))]) w_12 SlV.val fun r_18 w_13 =>
 chkP (inR s_15.2.2 64) <|
 loadP w_13 ((⟨b_2, 0, none⟩ : Addr).add (Int.toNat s_15.2.2 * 1)) 1 (Value.int .u8) fun v_19 =>
 newP w_13 (.cells #[(.int .u8 (bits .xor .u8 v_19 (92 : Int)))] 5) fun b_20 w_14 =>
 runP P (Builtin.append_ #[22, 22] 22 #[(SlV.val s_15.2.1), (SlV.val (SlV.mk (some (⟨b_20, 0, none⟩ : Addr)) 1 1))]) w_14 SlV.val fun r_21 w_15 =>
 next__14 (r_18, r_21, (IntKind.i64.wrap (s_15.2.2 + (1 : Int)))) w_15) (
 runP P (Builtin.append_ #[22, 22] 22 #[(SlV.val s_15.1), (SlV.val m)]) w_11 SlV.val fun r_22 w_16 =>
 callP P 19 #[(SlV.val r_22)] w_16 (arrV .u8) fun r_23 w_17 =>
 newP w_17 (.cells ((arrV .u8) (List.replicate 32 0)).cells 25) fun b_24 w_18 =>
 storeP w_18 (⟨b_24, 0, none⟩ : Addr) 32 ((arrV .u8) r_23) fun w_19 =>
 loopP (SlV × Int) (s_15.2.1, (0 : Int)) w_19 fun next__25 _ s_26 w_20 =>
 cond' (decide (s_26.2 < (32 : Int))) (
 chkP (inR s_26.2 32) <|
 loadP w_20 ((⟨b_24, 0, none⟩ : Addr).add (Int.toNat s_26.2 * 1)) 1 (Value.int .u8) fun v_27 =>
 newP w_20 (.cells #[(.int .u8 v_27)] 5) fun b_28 w_21 =>
 runP P (Builtin.append_ #[22, 22] 22 #[(SlV.val s_26.1), (SlV.val (SlV.mk (some (⟨b_28, 0, none⟩ : Addr)) 1 1))]) w_21 SlV.val fun r_29 w_22 =>
 next__25 (r_29, (IntKind.i64.wrap (s_26.2 + (1 : Int)))) w_22) (
 callP P 19 #[(SlV.val s_26.1)] w_20 (arrV .u8) fun r_30 w_23 =>
 storeP w_23 (⟨b_1, 0, none⟩ : Addr) 32 ((arrV .u8) r_30) fun w_24 =>
 loadP w_24 (⟨b_1, 0, none⟩ : Addr) 32 (arrV .u8) fun v_31 =>
 unArrP .u8 ((arrV .u8) v_31) fun z_32 =>
 R z_32 w_24))
def an18 : Ann := mkAnn [(5, [(7, (shInt .i64))]), (9, [(8, (shInt .i64))]), (14, [(9, shSl), (10, shSl), (11, (shInt .i64))]), (20, [(10, shSl), (13, (shInt .i64))])] [(12, [])]
theorem sf18_eq (key : SlV) (m : SlV) (w0 : World) (R : (List Int) → World → Prop) : sf18 key m w0 R = vcFn P sh an18 Try.f18 [(SlV.val key), (SlV.val m)] (shArr .u8) w0 R := by kernel_rfl
theorem nm18 : (Try.f18.name == "runtime.NumGoroutine") = false := by kernel_rfl
theorem sf18_call (key : SlV) (m : SlV) (w0 : World) (R : (List Int) → World → Prop) (hsf : sf18 key m w0 R) : callP P 18 #[(SlV.val key), (SlV.val m)] w0 (shArr .u8).val R :=
  vcFn_sound mixed Try.func18 nm18 (Eq.mp (sf18_eq key m w0 R) hsf)

/-- flume/flumeref08.Hash -/
def sf19 (m : SlV) (w0 : World) (R : (List Int) → World → Prop) : Prop :=
 newP w0 (.cells ((arrV .u8) (List.replicate 32 0)).cells 25) fun b_1 w_1 =>
 newP w_1 (.cells #[] 5) fun b_2 w_2 =>
 runP P (Builtin.append_ #[22, 22] 22 #[(SlV.val (SlV.mk (some (⟨b_2, 0, none⟩ : Addr)) 0 0)), (SlV.val m)]) w_2 SlV.val fun r_3 w_3 =>
 newP w_3 (.cells #[(.int .u8 (128 : Int))] 5) fun b_4 w_4 =>
 runP P (Builtin.append_ #[22, 22] 22 #[(SlV.val r_3), (SlV.val (SlV.mk (some (⟨b_4, 0, none⟩ : Addr)) 1 1))]) w_4 SlV.val fun r_5 w_5 =>
 loopP (SlV) r_5 w_5 fun next__6 _ s_7 w_6 =>
 cond' ((Int.tmod (s_7.len : Int) (64 : Int)) != (56 : Int)) (
 newP w_6 (.cells #[(.int .u8 (0 : Int))] 5) fun b_8 w_7 =>
 runP P (Builtin.append_ #[22, 22] 22 #[(SlV.val s_7), (SlV.val (SlV.mk (some (⟨b_8, 0, none⟩ : Addr)) 1 1))]) w_7 SlV.val fun r_9 w_8 =>
 next__6 r_9 w_8) (
 loopP (SlV × Int) (s_7, (7 : Int)) w_6 fun next__10 _ s_11 w_9 =>
 cond' (decide (s_11.2 ≥ (0 : Int))) (
 chkP (decide (0 ≤ (IntKind.u64.wrap (IntKind.i64.wrap ((8 : Int) * s_11.2))))) <|
 newP w_9 (.cells #[(.int .u8 (IntKind.u8.wrap (Int.fdiv (IntKind.u64.wrap (IntKind.i64.wrap ((8 : Int) * (m.len : Int)))) (2 ^ (min (Int.toNat (IntKind.u64.wrap (IntKind.i64.wrap ((8 : Int) * s_11.2)))) IntKind.u64.bits)))))] 5) fun b_12 w_10 =>
 runP P (Builtin.append_ #[22, 22] 22 #[(SlV.val s_11.1), (SlV.val (SlV.mk (some (⟨b_12, 0, none⟩ : Addr)) 1 1))]) w_10 SlV.val fun r_13 w_11 =>
 next__10 (r_13, (IntKind.i64.wrap (s_11.2 - (1 : Int)))) w_11) (
 newP w_9 (.cells ((arrV .u32) (List.replicate 8 0)).cells 91) fun b_14 w_12 =>
 storeP w_12 (⟨b_14, 0, none⟩ : Addr) 8 ((arrV .u32) ([(1779033703 : Int), (3144134277 : Int), (1013904242 : Int), (2773480762 : Int), (1359893119 : Int), (2600822924 : Int), (528734635 : Int), (1541459225 : Int)])) fun w_13 =>
 loopP (Int) (0 : Int) w_13 fun next__15 _ s_16 w_14 =>
 cond' (decide (s_16 < (s_11.1.len : Int))) (
 newP w_14 (.cells ((arrV .u32) (List.replicate 64 0)).cells 98) fun b_17 w_15 =>
 loopP (Int) (0 : Int) w_15 fun next__18 _ s_19 w_16 =>
 cond' (decide (s_19 < (64 : Int))) (
 cond' (decide (s_19 < (16 : Int))) (
 loopP (Int) (0 : Int) w_16 fun next__20 _ s_21 w_17 =>
 cond' (decide (s_21 < (4 : Int))) (
 chkP (inR s_19 64) <|
 loadP w_17.drew ((⟨b_17, 0, none⟩ : Addr).add (Int.toNat s_19 * 1)) 1 (Value.int .u32) fun v_22 =>
 chkP (inR (IntKind.i64.wrap ((IntKind.i64.wrap (s_16 + (IntKind.i64.wrap ((4 : Int) * s_19)))) + s_21)) s_11.1.len) <|
 nilP s_11.1.a fun a_23 =>
 loadP w_17.drew (a_23.add (Int.toNat (IntKind.i64.wrap ((IntKind.i64.wrap (s_16 + (IntKind.i64.wrap ((4 : Int) * s_19)))) + s_21)) * 1)) 1 (Value.int .u8) fun v_24 =>
 chkP (inR s_19 64) <|
 storeP w_17.drew ((⟨b_17, 0, none⟩ : Addr).add (Int.toNat s_19 * 1)) 1 (.int .u32 (IntKind.u32.wrap ((IntKind.u32.wrap ((256 : Int) * v_22)) + (IntKind.u32.wrap v_24)))) fun w_18 =>
 next__20 (IntKind.i64.wrap (s_21 + (1 : Int))) w_18) (
 next__18 (IntKind.i64.wrap (s_19 + (1 : Int))) w_17)) (
 chkP (inR (IntKind.i64.wrap (s_19 - (15 : Int))) 64) <|
 loadP w_16.drew ((⟨b_17, 0, none⟩ : Addr).add (Int.toNat (IntKind.i64.wrap (s_19 - (15 : Int))) * 1)) 1 (Value.int .u32) fun v_25 =>
 chkP (inR (IntKind.i64.wrap (s_19 - (15 : Int))) 64) <|
 loadP w_16.drew ((⟨b_17, 0, none⟩ : Addr).add (Int.toNat (IntKind.i64.wrap (s_19 - (15 : Int))) * 1)) 1 (Value.int .u32) fun v_26 =>
 chkP (inR (IntKind.i64.wrap (s_19 - (15 : Int))) 64) <|
 loadP w_16.drew ((⟨b_17, 0, none⟩ : Addr).add (Int.toNat (IntKind.i64.wrap (s_19 - (15 : Int))) * 1)) 1 (Value.int .u32) fun v_27 =>
 callP P 45 #[(.int .u32 v_25), (.int .u64 (7 : Int))] w_16.drew (Value.int .u32) fun r_28 w_19 =>
 Holds w_19 ((⟨b_17, 0, none⟩ : Addr).add (Int.toNat (IntKind.i64.wrap (s_19 - (15 : Int))) * 1)) 1 (.int .u32 v_27) ∧ (
 Holds w_19 ((⟨b_17, 0, none⟩ : Addr).add (Int.toNat (IntKind.i64.wrap (s_19 - (15 : Int))) * 1)) 1 (.int .u32 v_26) ∧ (
 callP P 45 #[(.int .u32 v_26), (.int .u64 (18 : Int))] w_19 (Value.int .u32) fun r_29 w_20 =>
 Holds w_20 ((⟨b_17, 0, none⟩ : Addr).add (Int.toNat (IntKind.i64.wrap (s_19 - (15 : Int))) * 1)) 1 (.int .u32 v_27) ∧ (
 chkP (inR (IntKind.i64.wrap (s_19 - (2 : Int))) 64) <|
 loadP w_20.drew ((⟨b_17, 0, none⟩ : Addr).add (Int.toNat (IntKind.i64.wrap (s_19 - (2 : Int))) * 1)) 1 (Value.int .u32) fun v_30 =>
 chkP (inR (IntKind.i64.wrap (s_19 - (2 : Int))) 64) <|
 loadP w_20.drew ((⟨b_17, 0, none⟩ : Addr).add (Int.toNat (IntKind.i64.wrap (s_19 - (2 : Int))) * 1)) 1 (Value.int .u32) fun v_31 =>
 chkP (inR (IntKind.i64.wrap (s_19 - (2 : Int))) 64) <|
 loadP w_20.drew ((⟨b_17, 0, none⟩ : Addr).add (Int.toNat (IntKind.i64.wrap (s_19 - (2 : Int))) * 1)) 1 (Value.int .u32) fun v_32 =>
 callP P 45 #[(.int .u32 v_30), (.int .u64 (17 : Int))] w_20.drew (Value.int .u32) fun r_33 w_21 =>
 Holds w_21 ((⟨b_17, 0, none⟩ : Addr).add (Int.toNat (IntKind.i64.wrap (s_19 - (2 : Int))) * 1)) 1 (.int .u32 v_32) ∧ (
 Holds w_21 ((⟨b_17, 0, none⟩ : Addr).add (Int.toNat (IntKind.i64.wrap (s_19 - (2 : Int))) * 1)) 1 (.int .u32 v_31) ∧ (
 callP P 45 #[(.int .u32 v_31), (.int .u64 (19 : Int))] w_21 (Value.int .u32) fun r_34 w_22 =>
 Holds w_22 ((⟨b_17, 0, none⟩ : Addr).add (Int.toNat (IntKind.i64.wrap (s_19 - (2 : Int))) * 1)) 1 (.int .u32 v_32) ∧ (
 chkP (inR (IntKind.i64.wrap (s_19 - (7 : Int))) 64) <|
 loadP w_22.drew ((⟨b_17, 0, none⟩ : Addr).add (Int.toNat (IntKind.i64.wrap (s_19 - (7 : Int))) * 1)) 1 (Value.int .u32) fun v_35 =>
 chkP (inR (IntKind.i64.wrap (s_19 - (16 : Int))) 64) <|
 loadP w_22.drew ((⟨b_17, 0, none⟩ : Addr).add (Int.toNat (IntKind.i64.wrap (s_19 - (16 : Int))) * 1)) 1 (Value.int .u32) fun v_36 =>
 chkP (inR s_19 64) <|
 storeP w_22.drew ((⟨b_17, 0, none⟩ : Addr).add (Int.toNat s_19 * 1)) 1 (.int .u32 (IntKind.u32.wrap ((IntKind.u32.wrap ((IntKind.u32.wrap ((bits .xor .u32 (bits .xor .u32 r_33 r_34) (Int.fdiv v_32 (2 ^ (min (Int.toNat (10 : Int)) IntKind.u32.bits)))) + v_35)) + (bits .xor .u32 (bits .xor .u32 r_28 r_29) (Int.fdiv v_27 (2 ^ (min (Int.toNat (3 : Int)) IntKind.u32.bits)))))) + v_36))) fun w_23 =>
 next__18 (IntKind.i64.wrap (s_19 + (1 : Int))) w_23)))))))) (
 loadP w_16 (⟨b_14, 0, none⟩ : Addr) 8 (arrV .u32) fun v_37 =>
 newP w_16 (.cells ((arrV .u32) (List.replicate 8 0)).cells 91) fun b_38 w_24 =>
 storeP w_24 (⟨b_38, 0, none⟩ : Addr) 8 ((arrV .u32) v_37) fun w_25 =>
 loopP (Int) (0 : Int) w_25 fun next__39 _ s_40 w_26 =>
 cond' (decide (s_40 < (64 : Int))) (
 loadP w_26 ((⟨b_38, 0, none⟩ : Addr).add (Int.toNat (4 : Int) * 1)) 1 (Value.int .u32) fun v_41 =>
 loadP w_26 ((⟨b_38, 0, none⟩ : Addr).add (Int.toNat (5 : Int) * 1)) 1 (Value.int .u32) fun v_42 =>
 loadP w_26 ((⟨b_38, 0, none⟩ : Addr).add (Int.toNat (4 : Int) * 1)) 1 (Value.int .u32) fun v_43 =>
 loadP w_26 ((⟨b_38, 0, none⟩ : Addr).add (Int.toNat (6 : Int) * 1)) 1 (Value.int .u32) fun v_44 =>
 loadP w_26 ((⟨b_38, 0, none⟩ : Addr).add (Int.toNat (0 : Int) * 1)) 1 (Value.int .u32) fun v_45 =>
 loadP w_26 ((⟨b_38, 0, none⟩ : Addr).add (Int.toNat (1 : Int) * 1)) 1 (Value.int .u32) fun v_46 =>
 loadP w_26 ((⟨b_38, 0, none⟩ : Addr).add (Int.toNat (0 : Int) * 1)) 1 (Value.int .u32) fun v_47 =>
 loadP w_26 ((⟨b_38, 0, none⟩ : Addr).add (Int.toNat (2 : Int) * 1)) 1 (Value.int .u32) fun v_48 =>
 loadP w_26 ((⟨b_38, 0, none⟩ : Addr).add (Int.toNat (1 : Int) * 1)) 1 (Value.int .u32) fun v_49 =>
 loadP w_26 ((⟨b_38, 0, none⟩ : Addr).add (Int.toNat (2 : Int) * 1)) 1 (Value.int .u32) fun v_50 =>
 loadP w_26.drew ((⟨b_38, 0, none⟩ : Addr).add (Int.toNat (7 : Int) * 1)) 1 (Value.int .u32) fun v_51 =>
 loadP w_26.drew ((⟨b_38, 0, none⟩ : Addr).add (Int.toNat (4 : Int) * 1)) 1 (Value.int .u32) fun v_52 =>
 loadP w_26.drew ((⟨b_38, 0, none⟩ : Addr).add (Int.toNat (4 : Int) * 1)) 1 (Value.int .u32) fun v_53 =>
 loadP w_26.drew ((⟨b_38, 0, none⟩ : Addr).add (Int.toNat (4 : Int) * 1)) 1 (Value.int .u32) fun v_54 =>
 chkP (inR s_40 64) <|
 loadP w_26.drew ((⟨b_17, 0, none⟩ : Addr).add (Int.toNat s_40 * 1)) 1 (Value.int .u32) fun v_55 =>
 callP P 45 #[(.int .u32 v_52), (.int .u64 (6 : Int))] w_26.drew (Value.int .u32) fun r_56 w_27 =>
 Holds w_27 ((⟨b_17, 0, none⟩ : Addr).add (Int.toNat s_40 * 1)) 1 (.int .u32 v_55) ∧ (
 Holds w_27 ((⟨b_38, 0, none⟩ : Addr).add (Int.toNat (4 : Int) * 1)) 1 (.int .u32 v_54) ∧ (
 Holds w_27 ((⟨b_38, 0, none⟩ : Addr).add (Int.toNat (4 : Int) * 1)) 1 (.int .u32 v_53) ∧ (
 Holds w_27 ((⟨b_38, 0, none⟩ : Addr).add (Int.toNat (7 : Int) * 1)) 1 (.int .u32 v_51) ∧ (
 callP P 45 #[(.int .u32 v_53), (.int .u64 (11 : Int))] w_27 (Value.int .u32) fun r_57 w_28 =>
 Holds w_28 ((⟨b_38, 0, none⟩ : Addr).add (Int.toNat (7 : Int) * 1)) 1 (.int .u32 v_51) ∧ (
 Holds w_28 ((⟨b_38, 0, none⟩ : Addr).add (Int.toNat (4 : Int) * 1)) 1 (.int .u32 v_54) ∧ (
 Holds w_28 ((⟨b_17, 0, none⟩ : Addr).add (Int.toNat s_40 * 1)) 1 (.int .u32 v_55) ∧ (
 callP P 45 #[(.int .u32 v_54), (.int .u64 (25 : Int))] w_28 (Value.int .u32) fun r_58 w_29 =>
 Holds w_29 ((⟨b_17, 0, none⟩ : Addr).add (Int.toNat s_40 * 1)) 1 (.int .u32 v_55) ∧ (
 Holds w_29 ((⟨b_38, 0, none⟩ : Addr).add (Int.toNat (7 : Int) * 1)) 1 (.int .u32 v_51) ∧ (
 callP P 46 #[(.int .i64 s_40)] w_29 (Value.int .u32) fun r_59 w_30 =>
 Holds w_30 ((⟨b_38, 0, none⟩ : Addr).add (Int.toNat (7 : Int) * 1)) 1 (.int .u32 v_51) ∧ (
 Holds w_30 ((⟨b_17, 0, none⟩ : Addr).add (Int.toNat s_40 * 1)) 1 (.int .u32 v_55) ∧ (
 loadP w_30.drew ((⟨b_38, 0, none⟩ : Addr).add (Int.toNat (0 : Int) * 1)) 1 (Value.int .u32) fun v_60 =>
 loadP w_30.drew ((⟨b_38, 0, none⟩ : Addr).add (Int.toNat (0 : Int) * 1)) 1 (Value.int .u32) fun v_61 =>
 loadP w_30.drew ((⟨b_38, 0, none⟩ : Addr).add (Int.toNat (0 : Int) * 1)) 1 (Value.int .u32) fun v_62 =>
 callP P 45 #[(.int .u32 v_60), (.int .u64 (2 : Int))] w_30.drew (Value.int .u32) fun r_63 w_31 =>
 Holds w_31 ((⟨b_38, 0, none⟩ : Addr).add (Int.toNat (0 : Int) * 1)) 1 (.int .u32 v_62) ∧ (
 Holds w_31 ((⟨b_38, 0, none⟩ : Addr).add (Int.toNat (0 : Int) * 1)) 1 (.int .u32 v_61) ∧ (
 callP P 45 #[(.int .u32 v_61), (.int .u64 (13 : Int))] w_31 (Value.int .u32) fun r_64 w_32 =>
 Holds w_32 ((⟨b_38, 0, none⟩ : Addr).add (Int.toNat (0 : Int) * 1)) 1 (.int .u32 v_62) ∧ (
 callP P 45 #[(.int .u32 v_62), (.int .u64 (22 : Int))] w_32 (Value.int .u32) fun r_65 w_33 =>
 loadP w_33 ((⟨b_38, 0, none⟩ : Addr).add (Int.toNat (0 : Int) * 1)) 1 (Value.int .u32) fun v_66 =>
 loadP w_33 ((⟨b_38, 0, none⟩ : Addr).add (Int.toNat (1 : Int) * 1)) 1 (Value.int .u32) fun v_67 =>
 loadP w_33 ((⟨b_38, 0, none⟩ : Addr).add (Int.toNat (2 : Int) * 1)) 1 (Value.int .u32) fun v_68 =>
 loadP w_33 ((⟨b_38, 0, none⟩ : Addr).add (Int.toNat (3 : Int) * 1)) 1 (Value.int .u32) fun v_69 =>
 loadP w_33 ((⟨b_38, 0, none⟩ : Addr).add (Int.toNat (4 : Int) * 1)) 1 (Value.int .u32) fun v_70 =>
 loadP w_33 ((⟨b_38, 0, none⟩ : Addr).add (Int.toNat (5 : Int) * 1)) 1 (Value.int .u32) fun v_71 =>
 loadP w_33 ((⟨b_38, 0, none⟩ : Addr).add (Int.toNat (6 : Int) * 1)) 1 (Value.int .u32) fun v_72 =>
 storeP w_33 (⟨b_38, 0, none⟩ : Addr) 8 ((arrV .u32) ([(IntKind.u32.wrap ((IntKind.u32.wrap ((IntKind.u32.wrap ((IntKind.u32.wrap ((IntKind.u32.wrap (v_51 + (bits .xor .u32 (bits .xor .u32 r_56 r_57) r_58))) + (bits .or .u32 (bits .and .u32 v_41 v_42) (bits .and .u32 (IntKind.u32.wrap ((4294967295 : Int) - v_43)) v_44)))) + r_59)) + v_55)) + (IntKind.u32.wrap ((bits .xor .u32 (bits .xor .u32 r_63 r_64) r_65) + (bits .or .u32 (bits .or .u32 (bits .and .u32 v_45 v_46) (bits .and .u32 v_47 v_48)) (bits .and .u32 v_49 v_50)))))), v_66, v_67, v_68, (IntKind.u32.wrap (v_69 + (IntKind.u32.wrap ((IntKind.u32.wrap ((IntKind.u32.wrap ((IntKind.u32.wrap (v_51 + (bits .xor .u32 (bits .xor .u32 r_56 r_57) r_58))) + (bits .or .u32 (bits .and .u32 v_41 v_42) (bits .and .u32 (IntKind.u32.wrap ((4294967295 : Int) - v_43)) v_44)))) + r_59)) + v_55)))), v_70, v_71, v_72])) fun w_34 =>
 next__39 (IntKind.i64.wrap (s_40 + (1 : Int))) w_34))))))))))))))) (
 loopP (Int) (0 : Int) w_26 fun next__73 _ s_74 w_35 =>
 cond' (decide (s_74 < (8 : Int))) (
 chkP (inR s_74 8) <|
 loadP w_35.drew ((⟨b_14, 0, none⟩ : Addr).add (Int.toNat s_74 * 1)) 1 (Value.int .u32) fun v_75 =>
 chkP (inR s_74 8) <|
 loadP w_35.drew ((⟨b_38, 0, none⟩ : Addr).add (Int.toNat s_74 * 1)) 1 (Value.int .u32) fun v_76 =>
 chkP (inR s_74 8) <|
 storeP w_35.drew ((⟨b_14, 0, none⟩ : Addr).add (Int.toNat s_74 * 1)) 1 (.int .u32 (IntKind.u32.wrap (v_75 + v_76))) fun w_36 =>
 next__73 (IntKind.i64.wrap (s_74 + (1 : Int))) w_36) (
 next__15 (IntKind.i64.wrap (s_16 + (64 : Int))) w_35)))) (
 newP w_14 (.cells ((arrV .u8) (List.replicate 32 0)).cells 25) fun b_77 w_37 =>
 loopP (Int) (0 : Int) w_37 fun next__78 _ s_79 w_38 =>
 cond' (decide (s_79 < (32 : Int))) (
 chkP (inR (IntKind.i64.wrap (Int.tdiv s_79 (4 : Int))) 8) <|
 loadP w_38 ((⟨b_14, 0, none⟩ : Addr).add (Int.toNat (IntKind.i64.wrap (Int.tdiv s_79 (4 : Int))) * 1)) 1 (Value.int .u32) fun v_80 =>
 chkP (decide (0 ≤ (IntKind.u64.wrap (IntKind.i64.wrap ((24 : Int) - (IntKind.i64.wrap ((8 : Int) * (Int.tmod s_79 (4 : Int))))))))) <|
 chkP (inR s_79 32) <|
 storeP w_38 ((⟨b_77, 0, none⟩ : Addr).add (Int.toNat s_79 * 1)) 1 (.int .u8 (IntKind.u8.wrap (Int.fdiv v_80 (2 ^ (min (Int.toNat (IntKind.u64.wrap (IntKind.i64.wrap ((24 : Int) - (IntKind.i64.wrap ((8 : Int) * (Int.tmod s_79 (4 : Int)))))))) IntKind.u32.bits))))) fun w_39 =>
 next__78 (IntKind.i64.wrap (s_79 + (1 : Int))) w_39) (
 loadP w_38 (⟨b_77, 0, none⟩ : Addr) 32 (arrV .u8) fun v_81 =>
 storeP w_38 (⟨b_1, 0, none⟩ : Addr) 32 ((arrV .u8) v_81) fun w_40 =>
 loadP w_40 (⟨b_1, 0, none⟩ : Addr) 32 (arrV .u8) fun v_82 =>
 unArrP .u8 ((arrV .u8) v_82) fun z_83 =>
 R z_83 w_40))))
def an19 : Ann := mkAnn [(3, [(3, shSl)]), (6, [(3, shSl), (4, (shInt .i64))]), (11, [(6, (shInt .i64))]), (15, [(8, (shInt .i64))]), (19, [(9, (shInt .i64))]), (27, [(13, (shInt .i64))]), (35, [(18, (shInt .i64))]), (40, [(20, (shInt .i64))])] []
theorem sf19_eq (m : SlV) (w0 : World) (R : (List Int) → World → Prop) : sf19 m w0 R = vcFn P sh an19 Try.f19 [(SlV.val m)] (shArr .u8) w0 R := by kernel_rfl
theorem nm19 : (Try.f19.name == "runtime.NumGoroutine") = false := by kernel_rfl
theorem sf19_call (m : SlV) (w0 : World) (R : (List Int) → World → Prop) (hsf : sf19 m w0 R) : callP P 19 #[(SlV.val m)] w0 (shArr .u8).val R :=
  vcFn_sound mixed Try.func19 nm19 (Eq.mp (sf19_eq m w0 R) hsf)

/-- flume/mac.Same -/
def sf20 (a : List Int) (b : List Int) (w0 : World) (R : Bool → World → Prop) : Prop :=
 newP w0 (.cells ((arrV .u8) a).cells 25) fun b_1 w_1 =>
 newP w_1 (.cells ((arrV .u8) b).cells 25) fun b_2 w_2 =>
 loadP w_2 (⟨b_1, 0, none⟩ : Addr) 32 (arrV .u8) fun v_3 =>
 loadP w_2 (⟨b_2, 0, none⟩ : Addr) 32 (arrV .u8) fun v_4 =>
 eqArrP 32 .u8 ((arrV .u8) v_3) ((arrV .u8) v_4) fun b_5 =>
 R (negB false b_5) w_2
def an20 : Ann := mkAnn [] []
theorem sf20_eq (a : List Int) (b : List Int) (w0 : World) (R : Bool → World → Prop) : sf20 a b w0 R = vcFn P sh an20 Try.f20 [((arrV .u8) a), ((arrV .u8) b)] shBool w0 R := by kernel_rfl
theorem nm20 : (Try.f20.name == "runtime.NumGoroutine") = false := by kernel_rfl
theorem sf20_call (a : List Int) (b : List Int) (w0 : World) (R : Bool → World → Prop) (hsf : sf20 a b w0 R) : callP P 20 #[((arrV .u8) a), ((arrV .u8) b)] w0 shBool.val R :=
  vcFn_sound mixed Try.func20 nm20 (Eq.mp (sf20_eq a b w0 R) hsf)

/-- flume/flumelaw09.first -/
def sf21 (w0 : World) (R : Bool → World → Prop) : Prop :=
 newP w0 (.cells #[(.int .u8 (107 : Int))] 5) fun b_1 w_1 =>
 runP P (convert 22 22 (SlV.val (SlV.mk (some (⟨b_1, 0, none⟩ : Addr)) 1 1))) w_1 SlV.val fun r_2 w_2 =>
 callP P 22 #[(SlV.val r_2), (CookieV.val ({ Tag := (7 : Int), Peer := 0, Tsn := 0, PeerTsn := 0, Window := 0, Out := 0, In := 0, Features := 0, Made := (100 : Int), TieTag := 0, TiePeer := 0 } : CookieV))] w_2 SlV.val fun r_3 w_3 =>
 newP w_3 (.cells #[(.int .u8 (107 : Int))] 5) fun b_4 w_4 =>
 runP P (convert 22 22 (SlV.val (SlV.mk (some (⟨b_4, 0, none⟩ : Addr)) 1 1))) w_4 SlV.val fun r_5 w_5 =>
 callP P 23 #[(SlV.val r_5), (SlV.val r_3), (.int .u32 (700 : Int))] w_5 (tup2V CookieV.val (Value.int .i64)) fun r_6 w_6 =>
 newP w_6 (.cells (CookieV.val ({ Tag := 0, Peer := 0, Tsn := 0, PeerTsn := 0, Window := 0, Out := 0, In := 0, Features := 0, Made := 0, TieTag := 0, TiePeer := 0 } : CookieV)).cells 36) fun b_7 w_7 =>
 storeP w_7 (⟨b_7, 0, none⟩ : Addr) 11 (CookieV.val r_6.1) fun w_8 =>
 newP w_8 (.cells #[(.int .u8 (107 : Int))] 5) fun b_8 w_9 =>
 runP P (convert 22 22 (SlV.val (SlV.mk (some (⟨b_8, 0, none⟩ : Addr)) 1 1))) w_9 SlV.val fun r_9 w_10 =>
 callP P 23 #[(SlV.val r_9), (SlV.val r_3), (.int .u32 (701 : Int))] w_10 (tup2V CookieV.val (Value.int .i64)) fun r_10 w_11 =>
 newP w_11 (.cells (CookieV.val ({ Tag := 0, Peer := 0, Tsn := 0, PeerTsn := 0, Window := 0, Out := 0, In := 0, Features := 0, Made := 0, TieTag := 0, TiePeer := 0 } : CookieV)).cells 36) fun b_11 w_12 =>
 storeP w_12 (⟨b_11, 0, none⟩ : Addr) 11 (CookieV.val r_10.1) fun w_13 =>
 cond' ((r_3.len : Int) != (70 : Int)) (
 R false w_13) (
 newP w_13 (.cells #[(.int .u8 (107 : Int))] 5) fun b_12 w_14 =>
 runP P (convert 22 22 (SlV.val (SlV.mk (some (⟨b_12, 0, none⟩ : Addr)) 1 1))) w_14 SlV.val fun r_13 w_15 =>
 chkP (leR (r_3.len : Int) (r_3.cap : Int)) <|
 chkP (leR (1 : Int) (r_3.len : Int)) <|
 callP P 23 #[(SlV.val r_13), (SlV.val (SlV.sub r_3 (1) (r_3.len) r_3.cap 1)), (.int .u32 (700 : Int))] w_15 (tup2V CookieV.val (Value.int .i64)) fun r_14 w_16 =>
 newP w_16 (.cells (CookieV.val ({ Tag := 0, Peer := 0, Tsn := 0, PeerTsn := 0, Window := 0, Out := 0, In := 0, Features := 0, Made := 0, TieTag := 0, TiePeer := 0 } : CookieV)).cells 36) fun b_15 w_17 =>
 storeP w_17 (⟨b_15, 0, none⟩ : Addr) 11 (CookieV.val r_14.1) fun w_18 =>
 cond' (r_6.2 == (0 : Int)) (
 loadP w_18 ((⟨b_7, 0, none⟩ : Addr).add 0) 1 (Value.int .u32) fun v_17 =>
 cond' (v_17 == (7 : Int)) (
 cond' (r_10.2 == (91 : Int)) (
 R (r_14.2 == (40 : Int)) w_18) (
 R false w_18)) (
 R false w_18)) (
 R false w_18))
def an21 : Ann := mkAnn [] []
theorem sf21_eq (w0 : World) (R : Bool → World → Prop) : sf21 w0 R = vcFn P sh an21 Try.f21 [] shBool w0 R := by kernel_rfl
theorem nm21 : (Try.f21.name == "runtime.NumGoroutine") = false := by kernel_rfl
theorem sf21_call (w0 : World) (R : Bool → World → Prop) (hsf : sf21 w0 R) : callP P 21 #[] w0 shBool.val R :=
  vcFn_sound mixed Try.func21 nm21 (Eq.mp (sf21_eq w0 R) hsf)

/-- flume/cookie.Make -/
def sf22 (key : SlV) (c : CookieV) (w0 : World) (R : SlV → World → Prop) : Prop :=
 newP w0 (.cells (CookieV.val c).cells 36) fun b_1 w_1 =>
 newP w_1 (.cells (WriterV.val ({ b := SlV.nil } : WriterV)).cells 102) fun b_2 w_2 =>
 loadP w_2 ((⟨b_1, 0, none⟩ : Addr).add 0) 1 (Value.int .u32) fun v_3 =>
 loadP w_2 ((⟨b_1, 0, none⟩ : Addr).add 1) 1 (Value.int .u32) fun v_4 =>
 loadP w_2 ((⟨b_1, 0, none⟩ : Addr).add 2) 1 (Value.int .u32) fun v_5 =>
 loadP w_2 ((⟨b_1, 0, none⟩ : Addr).add 3) 1 (Value.int .u32) fun v_6 =>
 loadP w_2 ((⟨b_1, 0, none⟩ : Addr).add 4) 1 (Value.int .u32) fun v_7 =>
 newP w_2 (.cells #[(.int .u32 v_3), (.int .u32 v_4), (.int .u32 v_5), (.int .u32 v_6), (.int .u32 v_7)] 33) fun b_8 w_3 =>
 loopP (Int) (0 : Int) w_3 fun next__9 _ s_10 w_4 =>
 cond' (decide (s_10 < (5 : Int))) (
 chkP (inR s_10 5) <|
 loadP w_4 ((⟨b_8, 0, none⟩ : Addr).add (Int.toNat s_10 * 1)) 1 (Value.int .u32) fun v_11 =>
 callP P 47 #[(.pointer (some (⟨b_2, 0, none⟩ : Addr))), (.int .u32 v_11)] w_4 unitV fun r_12 w_5 =>
 next__9 (IntKind.i64.wrap (s_10 + (1 : Int))) w_5) (
 loadP w_4 ((⟨b_1, 0, none⟩ : Addr).add 5) 1 (Value.int .u16) fun v_13 =>
 callP P 48 #[(.pointer (some (⟨b_2, 0, none⟩ : Addr))), (.int .u16 v_13)] w_4 unitV fun r_14 w_6 =>
 loadP w_6 ((⟨b_1, 0, none⟩ : Addr).add 6) 1 (Value.int .u16) fun v_15 =>
 callP P 48 #[(.pointer (some (⟨b_2, 0, none⟩ : Addr))), (.int .u16 v_15)] w_6 unitV fun r_16 w_7 =>
 loadP w_7 ((⟨b_1, 0, none⟩ : Addr).add 7) 1 (Value.int .u8) fun v_17 =>
 callP P 49 #[(.pointer (some (⟨b_2, 0, none⟩ : Addr))), (.int .u8 v_17)] w_7 unitV fun r_18 w_8 =>
 callP P 49 #[(.pointer (some (⟨b_2, 0, none⟩ : Addr))), (.int .u8 (0 : Int))] w_8 unitV fun r_19 w_9 =>
 loadP w_9 ((⟨b_1, 0, none⟩ : Addr).add 8) 1 (Value.int .u32) fun v_20 =>
 loadP w_9 ((⟨b_1, 0, none⟩ : Addr).add 9) 1 (Value.int .u32) fun v_21 =>
 loadP w_9 ((⟨b_1, 0, none⟩ : Addr).add 10) 1 (Value.int .u32) fun v_22 =>
 newP w_9 (.cells #[(.int .u32 v_20), (.int .u32 v_21), (.int .u32 v_22)] 33) fun b_23 w_10 =>
 loopP (Int) (0 : Int) w_10 fun next__24 _ s_25 w_11 =>
 cond' (decide (s_25 < (3 : Int))) (
 chkP (inR s_25 3) <|
 loadP w_11 ((⟨b_23, 0, none⟩ : Addr).add (Int.toNat s_25 * 1)) 1 (Value.int .u32) fun v_26 =>
 callP P 47 #[(.pointer (some (⟨b_2, 0, none⟩ : Addr))), (.int .u32 v_26)] w_11 unitV fun r_27 w_12 =>
 next__24 (IntKind.i64.wrap (s_25 + (1 : Int))) w_12) (
 callP P 50 #[(.pointer (some (⟨b_2, 0, none⟩ : Addr)))] w_11 SlV.val fun r_28 w_13 =>
 newP w_13 (.cells #[(SlV.val r_28)] 22) fun b_29 w_14 =>
 callP P 16 #[(SlV.val key), (SlV.val (SlV.mk (some (⟨b_29, 0, none⟩ : Addr)) 1 1))] w_14 (arrV .u8) fun r_30 w_15 =>
 newP w_15 (.cells ((arrV .u8) (List.replicate 32 0)).cells 25) fun b_31 w_16 =>
 storeP w_16 (⟨b_31, 0, none⟩ : Addr) 32 ((arrV .u8) r_30) fun w_17 =>
 callP P 51 #[(.pointer (some (⟨b_2, 0, none⟩ : Addr))), (SlV.val (arrSub (⟨b_31, 0, none⟩ : Addr) 0 32 32 1))] w_17 unitV fun r_32 w_18 =>
 callP P 50 #[(.pointer (some (⟨b_2, 0, none⟩ : Addr)))] w_18 SlV.val fun r_33 w_19 =>
 R r_33 w_19))
def an22 : Ann := mkAnn [(4, [(25, (shInt .i64))]), (13, [(51, (shInt .i64))])] []
theorem sf22_eq (key : SlV) (c : CookieV) (w0 : World) (R : SlV → World → Prop) : sf22 key c w0 R = vcFn P sh an22 Try.f22 [(SlV.val key), (CookieV.val c)] shSl w0 R := by kernel_rfl
theorem nm22 : (Try.f22.name == "runtime.NumGoroutine") = false := by kernel_rfl
theorem sf22_call (key : SlV) (c : CookieV) (w0 : World) (R : SlV → World → Prop) (hsf : sf22 key c w0 R) : callP P 22 #[(SlV.val key), (CookieV.val c)] w0 shSl.val R :=
  vcFn_sound mixed Try.func22 nm22 (Eq.mp (sf22_eq key c w0 R) hsf)

/-- flume/cookie.Open -/
def sf23 (key : SlV) (b : SlV) (now : Int) (w0 : World) (R : (CookieV × Int) → World → Prop) : Prop :=
 newP w0 (.cells (CookieV.val ({ Tag := 0, Peer := 0, Tsn := 0, PeerTsn := 0, Window := 0, Out := 0, In := 0, Features := 0, Made := 0, TieTag := 0, TiePeer := 0 } : CookieV)).cells 36) fun b_1 w_1 =>
 cond' (decide ((b.len : Int) < (70 : Int))) (
 storeP w_1 (⟨b_1, 0, none⟩ : Addr) 11 (CookieV.val ({ Tag := 0, Peer := 0, Tsn := 0, PeerTsn := 0, Window := 0, Out := 0, In := 0, Features := 0, Made := 0, TieTag := 0, TiePeer := 0 } : CookieV)) fun w_2 =>
 loadP w_2 (⟨b_1, 0, none⟩ : Addr) 11 CookieV.val fun v_2 =>
 R (v_2, (40 : Int)) w_2) (
 cond' (decide ((b.len : Int) > (70 : Int))) (
 storeP w_1 (⟨b_1, 0, none⟩ : Addr) 11 (CookieV.val ({ Tag := 0, Peer := 0, Tsn := 0, PeerTsn := 0, Window := 0, Out := 0, In := 0, Features := 0, Made := 0, TieTag := 0, TiePeer := 0 } : CookieV)) fun w_3 =>
 loadP w_3 (⟨b_1, 0, none⟩ : Addr) 11 CookieV.val fun v_3 =>
 R (v_3, (41 : Int)) w_3) (
 chkP (leR (38 : Int) (b.cap : Int)) <|
 chkP (leR (b.len : Int) (b.cap : Int)) <|
 chkP (leR (38 : Int) (b.len : Int)) <|
 chkP (decide (32 ≤ (SlV.sub b (38) (b.len) b.cap 1).len)) <|
 nilP ((SlV.sub b (38) (b.len) b.cap 1).a) fun a_4 =>
 loadP w_1.drew a_4 32 (arrV .u8) fun v_5 =>
 newP w_1.drew (.cells #[(SlV.val (SlV.sub b (0) (38) b.cap 1))] 22) fun b_6 w_4 =>
 Holds w_4 a_4 32 ((arrV .u8) v_5) ∧ (
 callP P 16 #[(SlV.val key), (SlV.val (SlV.mk (some (⟨b_6, 0, none⟩ : Addr)) 1 1))] w_4 (arrV .u8) fun r_7 w_5 =>
 Holds w_5 a_4 32 ((arrV .u8) v_5) ∧ (
 callP P 20 #[((arrV .u8) r_7), ((arrV .u8) v_5)] w_5 Value.bool fun r_8 w_6 =>
 cond' (!r_8) (
 storeP w_6 (⟨b_1, 0, none⟩ : Addr) 11 (CookieV.val ({ Tag := 0, Peer := 0, Tsn := 0, PeerTsn := 0, Window := 0, Out := 0, In := 0, Features := 0, Made := 0, TieTag := 0, TiePeer := 0 } : CookieV)) fun w_7 =>
 loadP w_7 (⟨b_1, 0, none⟩ : Addr) 11 CookieV.val fun v_9 =>
 R (v_9, (90 : Int)) w_7) (
 callP P 52 #[(SlV.val b)] w_6 Value.pointer fun r_10 w_8 =>
 newP w_8 (.cells (CookieV.val ({ Tag := 0, Peer := 0, Tsn := 0, PeerTsn := 0, Window := 0, Out := 0, In := 0, Features := 0, Made := 0, TieTag := 0, TiePeer := 0 } : CookieV)).cells 36) fun b_11 w_9 =>
 newP w_9 (.cells #[(.pointer (some ((⟨b_11, 0, none⟩ : Addr).add 0))), (.pointer (some ((⟨b_11, 0, none⟩ : Addr).add 1))), (.pointer (some ((⟨b_11, 0, none⟩ : Addr).add 2))), (.pointer (some ((⟨b_11, 0, none⟩ : Addr).add 3))), (.pointer (some ((⟨b_11, 0, none⟩ : Addr).add 4)))] 109) fun b_12 w_10 =>
 loopP (Int) (0 : Int) w_10 fun next__13 _ s_14 w_11 =>
 cond' (decide (s_14 < (5 : Int))) (
 chkP (inR s_14 5) <|
 loadP w_11 ((⟨b_12, 0, none⟩ : Addr).add (Int.toNat s_14 * 1)) 1 Value.pointer fun v_15 =>
 callP P 53 #[(.pointer r_10)] w_11 (Value.int .u32) fun r_16 w_12 =>
 nilP v_15 fun a_17 =>
 storeP w_12 a_17 1 (.int .u32 r_16) fun w_13 =>
 next__13 (IntKind.i64.wrap (s_14 + (1 : Int))) w_13) (
 callP P 54 #[(.pointer r_10)] w_11 (Value.int .u16) fun r_18 w_14 =>
 callP P 54 #[(.pointer r_10)] w_14 (Value.int .u16) fun r_19 w_15 =>
 callP P 55 #[(.pointer r_10)] w_15 (Value.int .u8) fun r_20 w_16 =>
 storeP w_16 ((⟨b_11, 0, none⟩ : Addr).add 5) 1 (.int .u16 r_18) fun w_17 =>
 storeP w_17 ((⟨b_11, 0, none⟩ : Addr).add 6) 1 (.int .u16 r_19) fun w_18 =>
 storeP w_18 ((⟨b_11, 0, none⟩ : Addr).add 7) 1 (.int .u8 r_20) fun w_19 =>
 callP P 55 #[(.pointer r_10)] w_19 (Value.int .u8) fun r_21 w_20 =>
 callP P 53 #[(.pointer r_10)] w_20 (Value.int .u32) fun r_22 w_21 =>
 callP P 53 #[(.pointer r_10)] w_21 (Value.int .u32) fun r_23 w_22 =>
 callP P 53 #[(.pointer r_10)] w_22 (Value.int .u32) fun r_24 w_23 =>
 storeP w_23 ((⟨b_11, 0, none⟩ : Addr).add 8) 1 (.int .u32 r_22) fun w_24 =>
 storeP w_24 ((⟨b_11, 0, none⟩ : Addr).add 9) 1 (.int .u32 r_23) fun w_25 =>
 storeP w_25 ((⟨b_11, 0, none⟩ : Addr).add 10) 1 (.int .u32 r_24) fun w_26 =>
 cond' (r_21 != (0 : Int)) (
 storeP w_26 (⟨b_1, 0, none⟩ : Addr) 11 (CookieV.val ({ Tag := 0, Peer := 0, Tsn := 0, PeerTsn := 0, Window := 0, Out := 0, In := 0, Features := 0, Made := 0, TieTag := 0, TiePeer := 0 } : CookieV)) fun w_27 =>
 loadP w_27 (⟨b_1, 0, none⟩ : Addr) 11 CookieV.val fun v_25 =>
 R (v_25, (42 : Int)) w_27) (
 loadP w_26 ((⟨b_11, 0, none⟩ : Addr).add 8) 1 (Value.int .u32) fun v_26 =>
 callP P 56 #[(.int .u32 v_26), (.int .u32 now)] w_26 (Value.int .u32) fun r_27 w_28 =>
 cond' (decide (r_27 > (600 : Int))) (
 storeP w_28 (⟨b_1, 0, none⟩ : Addr) 11 (CookieV.val ({ Tag := 0, Peer := 0, Tsn := 0, PeerTsn := 0, Window := 0, Out := 0, In := 0, Features := 0, Made := 0, TieTag := 0, TiePeer := 0 } : CookieV)) fun w_29 =>
 loadP w_29 (⟨b_1, 0, none⟩ : Addr) 11 CookieV.val fun v_28 =>
 R (v_28, (91 : Int)) w_29) (
 loadP w_28 (⟨b_11, 0, none⟩ : Addr) 11 CookieV.val fun v_29 =>
 storeP w_28 (⟨b_1, 0, none⟩ : Addr) 11 (CookieV.val v_29) fun w_30 =>
 loadP w_30 (⟨b_1, 0, none⟩ : Addr) 11 CookieV.val fun v_30 =>
 R (v_30, (0 : Int)) w_30))))))))
def an23 : Ann := mkAnn [(10, [(45, (shInt .i64))])] []
theorem sf23_eq (key : SlV) (b : SlV) (now : Int) (w0 : World) (R : (CookieV × Int) → World → Prop) : sf23 key b now w0 R = vcFn P sh an23 Try.f23 [(SlV.val key), (SlV.val b), (.int .u32 now)] (shTup2 shCookieV (shInt .i64)) w0 R := by kernel_rfl
theorem nm23 : (Try.f23.name == "runtime.NumGoroutine") = false := by kernel_rfl
theorem sf23_call (key : SlV) (b : SlV) (now : Int) (w0 : World) (R : (CookieV × Int) → World → Prop) (hsf : sf23 key b now w0 R) : callP P 23 #[(SlV.val key), (SlV.val b), (.int .u32 now)] w0 (shTup2 shCookieV (shInt .i64)).val R :=
  vcFn_sound mixed Try.func23 nm23 (Eq.mp (sf23_eq key b now w0 R) hsf)

/-- flume/flumeref09.Seal -/
def sf24 (key : SlV) (b : SlV) (w0 : World) (R : SlV → World → Prop) : Prop :=
 newP w0 (.cells #[] 5) fun b_1 w_1 =>
 runP P (Builtin.append_ #[22, 22] 22 #[(SlV.val (SlV.mk (some (⟨b_1, 0, none⟩ : Addr)) 0 0)), (SlV.val b)]) w_1 SlV.val fun r_2 w_2 =>
 callP P 18 #[(SlV.val key), (SlV.val b)] w_2 (arrV .u8) fun r_3 w_3 =>
 newP w_3 (.cells ((arrV .u8) (List.replicate 32 0)).cells 25) fun b_4 w_4 =>
 storeP w_4 (⟨b_4, 0, none⟩ : Addr) 32 ((arrV .u8) r_3) fun w_5 =>
 loopP (SlV × Int) (r_2, (0 : Int)) w_5 fun next__5 _ s_6 w_6 =>
 cond' (decide (s_6.2 < (32 : Int))) (
 chkP (inR s_6.2 32) <|
 loadP w_6 ((⟨b_4, 0, none⟩ : Addr).add (Int.toNat s_6.2 * 1)) 1 (Value.int .u8) fun v_7 =>
 newP w_6 (.cells #[(.int .u8 v_7)] 5) fun b_8 w_7 =>
 runP P (Builtin.append_ #[22, 22] 22 #[(SlV.val s_6.1), (SlV.val (SlV.mk (some (⟨b_8, 0, none⟩ : Addr)) 1 1))]) w_7 SlV.val fun r_9 w_8 =>
 next__5 (r_9, (IntKind.i64.wrap (s_6.2 + (1 : Int)))) w_8) (
 R s_6.1 w_6)
def an24 : Ann := mkAnn [(4, [(5, shSl), (7, (shInt .i64))])] []
theorem sf24_eq (key : SlV) (b : SlV) (w0 : World) (R : SlV → World → Prop) : sf24 key b w0 R = vcFn P sh an24 Try.f24 [(SlV.val key), (SlV.val b)] shSl w0 R := by kernel_rfl
theorem nm24 : (Try.f24.name == "runtime.NumGoroutine") = false := by kernel_rfl
theorem sf24_call (key : SlV) (b : SlV) (w0 : World) (R : SlV → World → Prop) (hsf : sf24 key b w0 R) : callP P 24 #[(SlV.val key), (SlV.val b)] w0 shSl.val R :=
  vcFn_sound mixed Try.func24 nm24 (Eq.mp (sf24_eq key b w0 R) hsf)

/-- flume/flumeref09.Words -/
def sf25 (c : CookieV) (w0 : World) (R : SlV → World → Prop) : Prop :=
 newP w0 (.cells (CookieV.val c).cells 36) fun b_1 w_1 =>
 loadP w_1 ((⟨b_1, 0, none⟩ : Addr).add 0) 1 (Value.int .u32) fun v_2 =>
 loadP w_1 ((⟨b_1, 0, none⟩ : Addr).add 1) 1 (Value.int .u32) fun v_3 =>
 loadP w_1 ((⟨b_1, 0, none⟩ : Addr).add 2) 1 (Value.int .u32) fun v_4 =>
 loadP w_1 ((⟨b_1, 0, none⟩ : Addr).add 3) 1 (Value.int .u32) fun v_5 =>
 loadP w_1 ((⟨b_1, 0, none⟩ : Addr).add 4) 1 (Value.int .u32) fun v_6 =>
 newP w_1 (.cells #[(.int .u32 v_2), (.int .u32 v_3), (.int .u32 v_4), (.int .u32 v_5), (.int .u32 v_6)] 33) fun b_7 w_2 =>
 loopP (SlV × Int) (SlV.nil, (0 : Int)) w_2 fun next__8 _ s_9 w_3 =>
 cond' (decide (s_9.2 < (5 : Int))) (
 chkP (inR s_9.2 5) <|
 loadP w_3 ((⟨b_7, 0, none⟩ : Addr).add (Int.toNat s_9.2 * 1)) 1 (Value.int .u32) fun v_10 =>
 callP P 57 #[(.int .u64 (IntKind.u64.wrap v_10)), (.int .i64 (4 : Int))] w_3 SlV.val fun r_11 w_4 =>
 runP P (Builtin.append_ #[22, 22] 22 #[(SlV.val s_9.1), (SlV.val r_11)]) w_4 SlV.val fun r_12 w_5 =>
 next__8 (r_12, (IntKind.i64.wrap (s_9.2 + (1 : Int)))) w_5) (
 loadP w_3 ((⟨b_1, 0, none⟩ : Addr).add 5) 1 (Value.int .u16) fun v_13 =>
 callP P 57 #[(.int .u64 (IntKind.u64.wrap v_13)), (.int .i64 (2 : Int))] w_3 SlV.val fun r_14 w_6 =>
 runP P (Builtin.append_ #[22, 22] 22 #[(SlV.val s_9.1), (SlV.val r_14)]) w_6 SlV.val fun r_15 w_7 =>
 loadP w_7 ((⟨b_1, 0, none⟩ : Addr).add 6) 1 (Value.int .u16) fun v_16 =>
 callP P 57 #[(.int .u64 (IntKind.u64.wrap v_16)), (.int .i64 (2 : Int))] w_7 SlV.val fun r_17 w_8 =>
 runP P (Builtin.append_ #[22, 22] 22 #[(SlV.val r_15), (SlV.val r_17)]) w_8 SlV.val fun r_18 w_9 =>
 loadP w_9 ((⟨b_1, 0, none⟩ : Addr).add 7) 1 (Value.int .u8) fun v_19 =>
 newP w_9 (.cells #[(.int .u8 v_19), (.int .u8 (0 : Int))] 5) fun b_20 w_10 =>
 runP P (Builtin.append_ #[22, 22] 22 #[(SlV.val r_18), (SlV.val (SlV.mk (some (⟨b_20, 0, none⟩ : Addr)) 2 2))]) w_10 SlV.val fun r_21 w_11 =>
 loadP w_11 ((⟨b_1, 0, none⟩ : Addr).add 8) 1 (Value.int .u32) fun v_22 =>
 loadP w_11 ((⟨b_1, 0, none⟩ : Addr).add 9) 1 (Value.int .u32) fun v_23 =>
 loadP w_11 ((⟨b_1, 0, none⟩ : Addr).add 10) 1 (Value.int .u32) fun v_24 =>
 newP w_11 (.cells #[(.int .u32 v_22), (.int .u32 v_23), (.int .u32 v_24)] 33) fun b_25 w_12 =>
 loopP (SlV × Int) (r_21, (0 : Int)) w_12 fun next__26 _ s_27 w_13 =>
 cond' (decide (s_27.2 < (3 : Int))) (
 chkP (inR s_27.2 3) <|
 loadP w_13 ((⟨b_25, 0, none⟩ : Addr).add (Int.toNat s_27.2 * 1)) 1 (Value.int .u32) fun v_28 =>
 callP P 57 #[(.int .u64 (IntKind.u64.wrap v_28)), (.int .i64 (4 : Int))] w_13 SlV.val fun r_29 w_14 =>
 runP P (Builtin.append_ #[22, 22] 22 #[(SlV.val s_27.1), (SlV.val r_29)]) w_14 SlV.val fun r_30 w_15 =>
 next__26 (r_30, (IntKind.i64.wrap (s_27.2 + (1 : Int)))) w_15) (
 R s_27.1 w_13))
def an25 : Ann := mkAnn [(3, [(3, shSl), (20, (shInt .i64))]), (11, [(3, shSl), (55, (shInt .i64))])] []
theorem sf25_eq (c : CookieV) (w0 : World) (R : SlV → World → Prop) : sf25 c w0 R = vcFn P sh an25 Try.f25 [(CookieV.val c)] shSl w0 R := by kernel_rfl
theorem nm25 : (Try.f25.name == "runtime.NumGoroutine") = false := by kernel_rfl
theorem sf25_call (c : CookieV) (w0 : World) (R : SlV → World → Prop) (hsf : sf25 c w0 R) : callP P 25 #[(CookieV.val c)] w0 shSl.val R :=
  vcFn_sound mixed Try.func25 nm25 (Eq.mp (sf25_eq c w0 R) hsf)

/-- flume/flumeref09.Open -/
def sf26 (key : SlV) (b : SlV) (now : Int) (w0 : World) (R : (CookieV × Int) → World → Prop) : Prop :=
 newP w0 (.cells (CookieV.val ({ Tag := 0, Peer := 0, Tsn := 0, PeerTsn := 0, Window := 0, Out := 0, In := 0, Features := 0, Made := 0, TieTag := 0, TiePeer := 0 } : CookieV)).cells 36) fun b_1 w_1 =>
 newP w_1 (.cells (CookieV.val ({ Tag := 0, Peer := 0, Tsn := 0, PeerTsn := 0, Window := 0, Out := 0, In := 0, Features := 0, Made := 0, TieTag := 0, TiePeer := 0 } : CookieV)).cells 36) fun b_2 w_2 =>
 cond' (decide ((b.len : Int) < (70 : Int))) (
 loadP w_2 (⟨b_2, 0, none⟩ : Addr) 11 CookieV.val fun v_3 =>
 storeP w_2 (⟨b_1, 0, none⟩ : Addr) 11 (CookieV.val v_3) fun w_3 =>
 loadP w_3 (⟨b_1, 0, none⟩ : Addr) 11 CookieV.val fun v_4 =>
 R (v_4, (40 : Int)) w_3) (
 cond' (decide ((b.len : Int) > (70 : Int))) (
 loadP w_2 (⟨b_2, 0, none⟩ : Addr) 11 CookieV.val fun v_5 =>
 storeP w_2 (⟨b_1, 0, none⟩ : Addr) 11 (CookieV.val v_5) fun w_4 =>
 loadP w_4 (⟨b_1, 0, none⟩ : Addr) 11 CookieV.val fun v_6 =>
 R (v_6, (41 : Int)) w_4) (
 chkP (leR (38 : Int) (b.cap : Int)) <|
 readP P (convert 22 9 (SlV.val b)) w_2.drew Value.string fun v_7 =>
 callP P 24 #[(SlV.val key), (SlV.val (SlV.sub b (0) (38) b.cap 1))] w_2.drew SlV.val fun r_8 w_5 =>
 Still P (convert 22 9 (SlV.val b)) w_5 (.string v_7) ∧ (
 readP P (convert 22 9 (SlV.val r_8)) w_5 Value.string fun v_9 =>
 cond' (!(v_9.toList == v_7.toList)) (
 loadP w_5 (⟨b_2, 0, none⟩ : Addr) 11 CookieV.val fun v_10 =>
 storeP w_5 (⟨b_1, 0, none⟩ : Addr) 11 (CookieV.val v_10) fun w_6 =>
 loadP w_6 (⟨b_1, 0, none⟩ : Addr) 11 CookieV.val fun v_11 =>
 R (v_11, (90 : Int)) w_6) (
 chkP (inR (25 : Int) b.len) <|
 nilP b.a fun a_12 =>
 loadP w_5 (a_12.add (Int.toNat (25 : Int) * 1)) 1 (Value.int .u8) fun v_13 =>
 cond' (v_13 != (0 : Int)) (
 loadP w_5 (⟨b_2, 0, none⟩ : Addr) 11 CookieV.val fun v_14 =>
 storeP w_5 (⟨b_1, 0, none⟩ : Addr) 11 (CookieV.val v_14) fun w_7 =>
 loadP w_7 (⟨b_1, 0, none⟩ : Addr) 11 CookieV.val fun v_15 =>
 R (v_15, (42 : Int)) w_7) (
 newP w_5 (.cells (TapeV.val ({ B := b, At := 0, Bad := false } : TapeV)).cells 118) fun b_16 w_8 =>
 newP w_8 (.cells (CookieV.val ({ Tag := 0, Peer := 0, Tsn := 0, PeerTsn := 0, Window := 0, Out := 0, In := 0, Features := 0, Made := 0, TieTag := 0, TiePeer := 0 } : CookieV)).cells 36) fun b_17 w_9 =>
 storeP w_9 (⟨b_17, 0, none⟩ : Addr) 11 (CookieV.val ({ Tag := 0, Peer := 0, Tsn := 0, PeerTsn := 0, Window := 0, Out := 0, In := 0, Features := 0, Made := 0, TieTag := 0, TiePeer := 0 } : CookieV)) fun w_10 =>
 callP P 58 #[(.pointer (some (⟨b_16, 0, none⟩ : Addr))), (.int .i64 (4 : Int))] w_10 (Value.int .u64) fun r_18 w_11 =>
 storeP w_11 ((⟨b_17, 0, none⟩ : Addr).add 0) 1 (.int .u32 (IntKind.u32.wrap r_18)) fun w_12 =>
 callP P 58 #[(.pointer (some (⟨b_16, 0, none⟩ : Addr))), (.int .i64 (4 : Int))] w_12 (Value.int .u64) fun r_19 w_13 =>
 storeP w_13 ((⟨b_17, 0, none⟩ : Addr).add 1) 1 (.int .u32 (IntKind.u32.wrap r_19)) fun w_14 =>
 callP P 58 #[(.pointer (some (⟨b_16, 0, none⟩ : Addr))), (.int .i64 (4 : Int))] w_14 (Value.int .u64) fun r_20 w_15 =>
 storeP w_15 ((⟨b_17, 0, none⟩ : Addr).add 2) 1 (.int .u32 (IntKind.u32.wrap r_20)) fun w_16 =>
 callP P 58 #[(.pointer (some (⟨b_16, 0, none⟩ : Addr))), (.int .i64 (4 : Int))] w_16 (Value.int .u64) fun r_21 w_17 =>
 storeP w_17 ((⟨b_17, 0, none⟩ : Addr).add 3) 1 (.int .u32 (IntKind.u32.wrap r_21)) fun w_18 =>
 callP P 58 #[(.pointer (some (⟨b_16, 0, none⟩ : Addr))), (.int .i64 (4 : Int))] w_18 (Value.int .u64) fun r_22 w_19 =>
 storeP w_19 ((⟨b_17, 0, none⟩ : Addr).add 4) 1 (.int .u32 (IntKind.u32.wrap r_22)) fun w_20 =>
 callP P 58 #[(.pointer (some (⟨b_16, 0, none⟩ : Addr))), (.int .i64 (2 : Int))] w_20 (Value.int .u64) fun r_23 w_21 =>
 storeP w_21 ((⟨b_17, 0, none⟩ : Addr).add 5) 1 (.int .u16 (IntKind.u16.wrap r_23)) fun w_22 =>
 callP P 58 #[(.pointer (some (⟨b_16, 0, none⟩ : Addr))), (.int .i64 (2 : Int))] w_22 (Value.int .u64) fun r_24 w_23 =>
 storeP w_23 ((⟨b_17, 0, none⟩ : Addr).add 6) 1 (.int .u16 (IntKind.u16.wrap r_24)) fun w_24 =>
 callP P 58 #[(.pointer (some (⟨b_16, 0, none⟩ : Addr))), (.int .i64 (2 : Int))] w_24 (Value.int .u64) fun r_25 w_25 =>
 storeP w_25 ((⟨b_17, 0, none⟩ : Addr).add 7) 1 (.int .u8 (IntKind.u8.wrap (IntKind.u64.wrap (Int.tdiv r_25 (256 : Int))))) fun w_26 =>
 callP P 58 #[(.pointer (some (⟨b_16, 0, none⟩ : Addr))), (.int .i64 (4 : Int))] w_26 (Value.int .u64) fun r_26 w_27 =>
 storeP w_27 ((⟨b_17, 0, none⟩ : Addr).add 8) 1 (.int .u32 (IntKind.u32.wrap r_26)) fun w_28 =>
 callP P 58 #[(.pointer (some (⟨b_16, 0, none⟩ : Addr))), (.int .i64 (4 : Int))] w_28 (Value.int .u64) fun r_27 w_29 =>
 storeP w_29 ((⟨b_17, 0, none⟩ : Addr).add 9) 1 (.int .u32 (IntKind.u32.wrap r_27)) fun w_30 =>
 callP P 58 #[(.pointer (some (⟨b_16, 0, none⟩ : Addr))), (.int .i64 (4 : Int))] w_30 (Value.int .u64) fun r_28 w_31 =>
 storeP w_31 ((⟨b_17, 0, none⟩ : Addr).add 10) 1 (.int .u32 (IntKind.u32.wrap r_28)) fun w_32 =>
 loadP w_32 ((⟨b_17, 0, none⟩ : Addr).add 8) 1 (Value.int .u32) fun v_29 =>
 callP P 59 #[(.int .u32 v_29), (.int .u32 now)] w_32 (Value.int .u64) fun r_30 w_33 =>
 cond' (decide (r_30 > (600 : Int))) (
 loadP w_33 (⟨b_2, 0, none⟩ : Addr) 11 CookieV.val fun v_31 =>
 storeP w_33 (⟨b_1, 0, none⟩ : Addr) 11 (CookieV.val v_31) fun w_34 =>
 loadP w_34 (⟨b_1, 0, none⟩ : Addr) 11 CookieV.val fun v_32 =>
 R (v_32, (91 : Int)) w_34) (
 loadP w_33 (⟨b_17, 0, none⟩ : Addr) 11 CookieV.val fun v_33 =>
 storeP w_33 (⟨b_1, 0, none⟩ : Addr) 11 (CookieV.val v_33) fun w_35 =>
 loadP w_35 (⟨b_1, 0, none⟩ : Addr) 11 CookieV.val fun v_34 =>
 R (v_34, (0 : Int)) w_35))))))
def an26 : Ann := mkAnn [] []
theorem sf26_eq (key : SlV) (b : SlV) (now : Int) (w0 : World) (R : (CookieV × Int) → World → Prop) : sf26 key b now w0 R = vcFn P sh an26 Try.f26 [(SlV.val key), (SlV.val b), (.int .u32 now)] (shTup2 shCookieV (shInt .i64)) w0 R := by kernel_rfl
theorem nm26 : (Try.f26.name == "runtime.NumGoroutine") = false := by kernel_rfl
theorem sf26_call (key : SlV) (b : SlV) (now : Int) (w0 : World) (R : (CookieV × Int) → World → Prop) (hsf : sf26 key b now w0 R) : callP P 26 #[(SlV.val key), (SlV.val b), (.int .u32 now)] w0 (shTup2 shCookieV (shInt .i64)).val R :=
  vcFn_sound mixed Try.func26 nm26 (Eq.mp (sf26_eq key b now w0 R) hsf)

/-- flume/flumelaw19.first -/
def sf27 (w0 : World) (R : Bool → World → Prop) : Prop :=
 callP P 28 #[(EndV.val ({ Tag := (5 : Int), Tsn := (100 : Int), Window := (9 : Int), Inter := true, Key := ({ data := #[107] } : ByteArray) } : EndV))] w0 (tup2V Value.pointer (Value.int .i64)) fun r_1 w_1 =>
 callP P 28 #[(EndV.val ({ Tag := (6 : Int), Tsn := (200 : Int), Window := (8 : Int), Inter := true, Key := ({ data := #[108] } : ByteArray) } : EndV))] w_1 (tup2V Value.pointer (Value.int .i64)) fun r_2 w_2 =>
 callP P 28 #[(EndV.val ({ Tag := 0, Tsn := 0, Window := 0, Inter := false, Key := ByteArray.empty } : EndV))] w_2 (tup2V Value.pointer (Value.int .i64)) fun r_3 w_3 =>
 cutP (Unit) (fun J_4 =>
 cond' (negB false r_1.1.isNone) (
 R false w_3) (
 cond' (negB false r_2.1.isNone) (
 R false w_3) (
 cond' (r_1.2 != (0 : Int)) (
 R false w_3) (
 cond' (r_2.2 != (0 : Int)) (
 R false w_3) (
 cond' (r_3.2 != (2 : Int)) (
 R false w_3) (
 J_4 () w_3)))))) fun _ _ w_4 =>
 callP P 29 #[(.pointer r_1.1)] w_4 SlV.val fun r_10 w_5 =>
 cutP (Unit) (fun J_11 =>
 loopP (SlV × Int) (r_10, (0 : Int)) w_5 fun next__13 _ s_14 w_7 =>
 cutP (Unit) (fun J_15 =>
 cond' (decide (s_14.2 < (4 : Int))) (
 cond' ((s_14.1.len : Int) == (1 : Int)) (
 J_15 () w_7) (
 J_11 () w_7)) (
 J_11 () w_7)) fun _ _ w_8 =>
 cond' ((Int.tmod s_14.2 (2 : Int)) == (0 : Int)) (
 chkP (inR (0 : Int) s_14.1.len) <|
 nilP s_14.1.a fun a_18 =>
 loadP w_8.drew ((a_18.add (Int.toNat (0 : Int) * 20)).add 0) 1 (Value.int .u32) fun v_19 =>
 chkP (inR (0 : Int) s_14.1.len) <|
 nilP s_14.1.a fun a_20 =>
 loadP w_8.drew ((a_20.add (Int.toNat (0 : Int) * 20)).add 1) 19 ChunkV.val fun v_21 =>
 callP P 30 #[(.pointer r_2.1), (.int .u32 v_19), (ChunkV.val v_21), (.int .u64 (0 : Int))] w_8.drew SlV.val fun r_22 w_9 =>
 next__13 (r_22, (IntKind.i64.wrap (s_14.2 + (1 : Int)))) w_9) (
 chkP (inR (0 : Int) s_14.1.len) <|
 nilP s_14.1.a fun a_23 =>
 loadP w_8.drew ((a_23.add (Int.toNat (0 : Int) * 20)).add 0) 1 (Value.int .u32) fun v_24 =>
 chkP (inR (0 : Int) s_14.1.len) <|
 nilP s_14.1.a fun a_25 =>
 loadP w_8.drew ((a_25.add (Int.toNat (0 : Int) * 20)).add 1) 19 ChunkV.val fun v_26 =>
 callP P 30 #[(.pointer r_1.1), (.int .u32 v_24), (ChunkV.val v_26), (.int .u64 (0 : Int))] w_8.drew SlV.val fun r_27 w_10 =>
 next__13 (r_27, (IntKind.i64.wrap (s_14.2 + (1 : Int)))) w_10)) fun _ _ w_6 =>
 callP P 31 #[(.pointer r_1.1)] w_6 (Value.int .i64) fun r_28 w_11 =>
 cond' (r_28 == (3 : Int)) (
 callP P 31 #[(.pointer r_2.1)] w_11 (Value.int .i64) fun r_30 w_12 =>
 cond' (r_30 == (3 : Int)) (
 callP P 36 #[(.pointer r_1.1)] w_12 MetV.val fun r_32 w_13 =>
 cond' (negB false ((r_32.Tag == (6 : Int)) && ((r_32.Tsn == (200 : Int)) && ((r_32.Window == (8 : Int)) && ((r_32.Inter == true) && true))))) (
 callP P 36 #[(.pointer r_2.1)] w_13 MetV.val fun r_34 w_14 =>
 R (r_34.Tag == (5 : Int)) w_14) (
 R false w_13)) (
 R false w_12)) (
 R false w_11)
def an27 : Ann := mkAnn [(8, [(7, shSl), (8, (shInt .i64))])] [(6, []), (10, []), (13, [])]
theorem sf27_eq (w0 : World) (R : Bool → World → Prop) : sf27 w0 R = vcFn P sh an27 Try.f27 [] shBool w0 R := by kernel_rfl
theorem nm27 : (Try.f27.name == "runtime.NumGoroutine") = false := by kernel_rfl
theorem sf27_call (w0 : World) (R : Bool → World → Prop) (hsf : sf27 w0 R) : callP P 27 #[] w0 shBool.val R :=
  vcFn_sound mixed Try.func27 nm27 (Eq.mp (sf27_eq w0 R) hsf)

/-- flume/shake.New -/
def sf28 (e : EndV) (w0 : World) (R : ((Option Addr) × Int) → World → Prop) : Prop :=
 newP w0 (.cells (EndV.val e).cells 50) fun b_1 w_1 =>
 loadP w_1 ((⟨b_1, 0, none⟩ : Addr).add 0) 1 (Value.int .u32) fun v_2 =>
 cond' (v_2 == (0 : Int)) (
 R (none, (2 : Int)) w_1) (
 loadP w_1 (⟨b_1, 0, none⟩ : Addr) 5 EndV.val fun v_3 =>
 newP w_1 (.cells (PartV.val ({ e := v_3, s := 0, met := ({ Tag := 0, Tsn := 0, Window := 0, Inter := false } : MetV), echo := SlV.nil, tries := 0 } : PartV)).cells 122) fun b_4 w_2 =>
 R ((some (⟨b_4, 0, none⟩ : Addr)), (0 : Int)) w_2)
def an28 : Ann := mkAnn [] []
theorem sf28_eq (e : EndV) (w0 : World) (R : ((Option Addr) × Int) → World → Prop) : sf28 e w0 R = vcFn P sh an28 Try.f28 [(EndV.val e)] (shTup2 shPtr (shInt .i64)) w0 R := by kernel_rfl
theorem nm28 : (Try.f28.name == "runtime.NumGoroutine") = false := by kernel_rfl
theorem sf28_call (e : EndV) (w0 : World) (R : ((Option Addr) × Int) → World → Prop) (hsf : sf28 e w0 R) : callP P 28 #[(EndV.val e)] w0 (shTup2 shPtr (shInt .i64)).val R :=
  vcFn_sound mixed Try.func28 nm28 (Eq.mp (sf28_eq e w0 R) hsf)

/-- (*flume/shake.Part).Connect -/
def sf29 (p : Addr) (w0 : World) (R : SlV → World → Prop) : Prop :=
 loadP w0 (p.add 5) 1 (Value.int .i64) fun v_1 =>
 cond' (v_1 != (0 : Int)) (
 R SlV.nil w0) (
 callP P 60 #[(.pointer (some p)), (.int .i64 (1 : Int))] w0 unitV fun r_2 w_1 =>
 callP P 61 #[(.pointer (some p)), (.int .u8 (1 : Int)), (SlV.val SlV.nil)] w_1 ChunkV.val fun r_3 w_2 =>
 newP w_2 (.cells (NoteV.val ({ Tag := 0, Chunk := r_3 } : NoteV)).cells 59) fun b_4 w_3 =>
 R (SlV.mk (some (⟨b_4, 0, none⟩ : Addr)) 1 1) w_3)
def an29 : Ann := mkAnn [] []
theorem sf29_eq (p : Addr) (w0 : World) (R : SlV → World → Prop) : sf29 p w0 R = vcFn P sh an29 Try.f29 [(.pointer (some p))] shSl w0 R := by kernel_rfl
theorem nm29 : (Try.f29.name == "runtime.NumGoroutine") = false := by kernel_rfl
theorem sf29_call (p : Addr) (w0 : World) (R : SlV → World → Prop) (hsf : sf29 p w0 R) : callP P 29 #[(.pointer (some p))] w0 shSl.val R :=
  vcFn_sound mixed Try.func29 nm29 (Eq.mp (sf29_eq p w0 R) hsf)

end Go.Vc.SA

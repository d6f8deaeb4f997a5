/-
  What functions of the program come to, read off their code. No condition.
-/
import Derived.Test.YtobldgdfejpckaaASh
set_option linter.all false
set_option linter.unusedVariables false
set_option maxRecDepth 100000
namespace Go.Vc.SA
open Go.Proofs
/-- flume/flumelaw09.CookieOpens -/
def sf8 (key : SlV) (b : SlV) (now : Int) (w0 : World) (R : Bool → World → Prop) : Prop :=
 callP P 21 #[] w0 Value.bool fun r_1 w_1 =>
 cond' (!r_1) (
 R false w_1) (
 cutP (Unit) (fun J_2 =>
 cond' (decide ((key.len : Int) > (500 : Int))) (
 R true w_1) (
 cond' (decide ((b.len : Int) > (500 : Int))) (
 R true w_1) (
 J_2 () w_1))) fun _ _ w_2 =>
 newP w_2 (.cells #[] 5) fun b_5 w_3 =>
 runP P (Builtin.append_ #[22, 22] 22 #[(SlV.val (SlV.mk (some (⟨b_5, 0, none⟩ : Addr)) 0 0)), (SlV.val b)]) w_3 SlV.val fun r_6 w_4 =>
 callP P 23 #[(SlV.val key), (SlV.val r_6), (.int .u32 now)] w_4 (tup2V CookieV.val (Value.int .i64)) fun r_7 w_5 =>
 newP w_5 (.cells (CookieV.val ({ Tag := 0, Peer := 0, Tsn := 0, PeerTsn := 0, Window := 0, Out := 0, In := 0, Features := 0, Made := 0, TieTag := 0, TiePeer := 0 } : CookieV)).cells 36) fun b_8 w_6 =>
 storeP w_6 (⟨b_8, 0, none⟩ : Addr) 11 (CookieV.val r_7.1) fun w_7 =>
 callP P 26 #[(SlV.val key), (SlV.val b), (.int .u32 now)] w_7 (tup2V CookieV.val (Value.int .i64)) fun r_9 w_8 =>
 newP w_8 (.cells (CookieV.val ({ Tag := 0, Peer := 0, Tsn := 0, PeerTsn := 0, Window := 0, Out := 0, In := 0, Features := 0, Made := 0, TieTag := 0, TiePeer := 0 } : CookieV)).cells 36) fun b_10 w_9 =>
 storeP w_9 (⟨b_10, 0, none⟩ : Addr) 11 (CookieV.val r_9.1) fun w_10 =>
 cutP (Unit) (fun J_11 =>
 cond' (r_7.2 != r_9.2) (
 R false w_10) (
 loadP w_10 (⟨b_8, 0, none⟩ : Addr) 11 CookieV.val fun v_14 =>
 loadP w_10 (⟨b_10, 0, none⟩ : Addr) 11 CookieV.val fun v_15 =>
 cond' (negB true ((v_14.Tag == v_15.Tag) && ((v_14.Peer == v_15.Peer) && ((v_14.Tsn == v_15.Tsn) && ((v_14.PeerTsn == v_15.PeerTsn) && ((v_14.Window == v_15.Window) && ((v_14.Out == v_15.Out) && ((v_14.In == v_15.In) && ((v_14.Features == v_15.Features) && ((v_14.Made == v_15.Made) && ((v_14.TieTag == v_15.TieTag) && ((v_14.TiePeer == v_15.TiePeer) && true)))))))))))) (
 R false w_10) (
 readP P (convert 22 9 (SlV.val r_6)) w_10 Value.string fun v_17 =>
 readP P (convert 22 9 (SlV.val b)) w_10 Value.string fun v_18 =>
 cond' (!(v_17.toList == v_18.toList)) (
 R false w_10) (
 J_11 () w_10)))) fun _ _ w_11 =>
 cond' (decide ((b.len : Int) < (38 : Int))) (
 R true w_11) (
 chkP (leR (38 : Int) (b.cap : Int)) <|
 callP P 24 #[(SlV.val key), (SlV.val (SlV.sub b (0) (38) b.cap 1))] w_11 SlV.val fun r_19 w_12 =>
 callP P 23 #[(SlV.val key), (SlV.val r_19), (.int .u32 now)] w_12 (tup2V CookieV.val (Value.int .i64)) fun r_20 w_13 =>
 storeP w_13 (⟨b_8, 0, none⟩ : Addr) 11 (CookieV.val r_20.1) fun w_14 =>
 callP P 26 #[(SlV.val key), (SlV.val r_19), (.int .u32 now)] w_14 (tup2V CookieV.val (Value.int .i64)) fun r_21 w_15 =>
 storeP w_15 (⟨b_10, 0, none⟩ : Addr) 11 (CookieV.val r_21.1) fun w_16 =>
 cond' (r_20.2 == r_21.2) (
 loadP w_16 (⟨b_8, 0, none⟩ : Addr) 11 CookieV.val fun v_23 =>
 loadP w_16 (⟨b_10, 0, none⟩ : Addr) 11 CookieV.val fun v_24 =>
 R (negB false ((v_23.Tag == v_24.Tag) && ((v_23.Peer == v_24.Peer) && ((v_23.Tsn == v_24.Tsn) && ((v_23.PeerTsn == v_24.PeerTsn) && ((v_23.Window == v_24.Window) && ((v_23.Out == v_24.Out) && ((v_23.In == v_24.In) && ((v_23.Features == v_24.Features) && ((v_23.Made == v_24.Made) && ((v_23.TieTag == v_24.TieTag) && ((v_23.TiePeer == v_24.TiePeer) && true)))))))))))) w_16) (
 R false w_16)))
def an8 : Ann := mkAnn [] [(5, []), (10, [])]
theorem sf8_eq (key : SlV) (b : SlV) (now : Int) (w0 : World) (R : Bool → World → Prop) : sf8 key b now w0 R = vcFn P sh an8 Try.f8 [(SlV.val key), (SlV.val b), (.int .u32 now)] shBool w0 R := by kernel_rfl
theorem nm8 : (Try.f8.name == "runtime.NumGoroutine") = false := by kernel_rfl
theorem sf8_call (key : SlV) (b : SlV) (now : Int) (w0 : World) (R : Bool → World → Prop) (hsf : sf8 key b now w0 R) : callP P 8 #[(SlV.val key), (SlV.val b), (.int .u32 now)] w0 shBool.val R :=
  vcFn_sound mixed Try.func8 nm8 (Eq.mp (sf8_eq key b now w0 R) hsf)

/-- flume/flumelaw09.CookieTurned -/
def sf9 (c : CookieV) (at_ : Int) (turn : Int) (w0 : World) (R : Bool → World → Prop) : Prop :=
 newP w0 (.cells (CookieV.val c).cells 36) fun b_1 w_1 =>
 callP P 21 #[] w_1 Value.bool fun r_2 w_2 =>
 cond' (!r_2) (
 R false w_2) (
 newP w_2 (.cells #[(.int .u8 (107 : Int)), (.int .u8 (101 : Int)), (.int .u8 (121 : Int))] 5) fun b_3 w_3 =>
 runP P (convert 22 22 (SlV.val (SlV.mk (some (⟨b_3, 0, none⟩ : Addr)) 3 3))) w_3 SlV.val fun r_4 w_4 =>
 loadP w_4 (⟨b_1, 0, none⟩ : Addr) 11 CookieV.val fun v_5 =>
 callP P 22 #[(SlV.val r_4), (CookieV.val v_5)] w_4 SlV.val fun r_6 w_5 =>
 cutP (Unit) (fun J_7 =>
 cond' ((r_6.len : Int) != (70 : Int)) (
 R ((r_6.len : Int) == (70 : Int)) w_5) (
 cond' (turn == (0 : Int)) (
 R ((r_6.len : Int) == (70 : Int)) w_5) (
 J_7 () w_5))) fun _ _ w_6 =>
 chkP (inR (IntKind.i64.wrap ((38 : Int) + (IntKind.i64.wrap (Int.tmod (IntKind.u64.wrap at_) (32 : Int))))) r_6.len) <|
 nilP r_6.a fun a_10 =>
 loadP w_6 (a_10.add (Int.toNat (IntKind.i64.wrap ((38 : Int) + (IntKind.i64.wrap (Int.tmod (IntKind.u64.wrap at_) (32 : Int))))) * 1)) 1 (Value.int .u8) fun v_11 =>
 chkP (inR (IntKind.i64.wrap ((38 : Int) + (IntKind.i64.wrap (Int.tmod (IntKind.u64.wrap at_) (32 : Int))))) r_6.len) <|
 nilP r_6.a fun a_12 =>
 storeP w_6 (a_12.add (Int.toNat (IntKind.i64.wrap ((38 : Int) + (IntKind.i64.wrap (Int.tmod (IntKind.u64.wrap at_) (32 : Int))))) * 1)) 1 (.int .u8 (bits .xor .u8 v_11 turn)) fun w_7 =>
 newP w_7 (.cells #[(.int .u8 (107 : Int)), (.int .u8 (101 : Int)), (.int .u8 (121 : Int))] 5) fun b_13 w_8 =>
 runP P (convert 22 22 (SlV.val (SlV.mk (some (⟨b_13, 0, none⟩ : Addr)) 3 3))) w_8 SlV.val fun r_14 w_9 =>
 loadP w_9 ((⟨b_1, 0, none⟩ : Addr).add 8) 1 (Value.int .u32) fun v_15 =>
 callP P 23 #[(SlV.val r_14), (SlV.val r_6), (.int .u32 v_15)] w_9 (tup2V CookieV.val (Value.int .i64)) fun r_16 w_10 =>
 newP w_10 (.cells (CookieV.val ({ Tag := 0, Peer := 0, Tsn := 0, PeerTsn := 0, Window := 0, Out := 0, In := 0, Features := 0, Made := 0, TieTag := 0, TiePeer := 0 } : CookieV)).cells 36) fun b_17 w_11 =>
 storeP w_11 (⟨b_17, 0, none⟩ : Addr) 11 (CookieV.val r_16.1) fun w_12 =>
 chkP (leR (69 : Int) (r_6.cap : Int)) <|
 loadP w_12.drew ((⟨b_1, 0, none⟩ : Addr).add 8) 1 (Value.int .u32) fun v_18 =>
 (
 newP w_12.drew (.cells #[(.int .u8 (107 : Int)), (.int .u8 (101 : Int)), (.int .u8 (121 : Int))] 5) fun b_19 w_13 =>
 Holds w_13 ((⟨b_1, 0, none⟩ : Addr).add 8) 1 (.int .u32 v_18) ∧ (
 (
 runP P (convert 22 22 (SlV.val (SlV.mk (some (⟨b_19, 0, none⟩ : Addr)) 3 3))) w_13 SlV.val fun r_20 w_14 =>
 Holds w_14 ((⟨b_1, 0, none⟩ : Addr).add 8) 1 (.int .u32 v_18) ∧ (
 (
 callP P 23 #[(SlV.val r_20), (SlV.val (SlV.sub r_6 (0) (69) r_6.cap 1)), (.int .u32 v_18)] w_14 (tup2V CookieV.val (Value.int .i64)) fun r_21 w_15 =>
 newP w_15 (.cells (CookieV.val ({ Tag := 0, Peer := 0, Tsn := 0, PeerTsn := 0, Window := 0, Out := 0, In := 0, Features := 0, Made := 0, TieTag := 0, TiePeer := 0 } : CookieV)).cells 36) fun b_22 w_16 =>
 storeP w_16 (⟨b_22, 0, none⟩ : Addr) 11 (CookieV.val r_21.1) fun w_17 =>
 chkP (inR (IntKind.i64.wrap ((38 : Int) + (IntKind.i64.wrap (Int.tmod (IntKind.u64.wrap at_) (32 : Int))))) r_6.len) <|
 nilP r_6.a fun a_23 =>
 loadP w_17 (a_23.add (Int.toNat (IntKind.i64.wrap ((38 : Int) + (IntKind.i64.wrap (Int.tmod (IntKind.u64.wrap at_) (32 : Int))))) * 1)) 1 (Value.int .u8) fun v_24 =>
 chkP (inR (IntKind.i64.wrap ((38 : Int) + (IntKind.i64.wrap (Int.tmod (IntKind.u64.wrap at_) (32 : Int))))) r_6.len) <|
 nilP r_6.a fun a_25 =>
 storeP w_17 (a_25.add (Int.toNat (IntKind.i64.wrap ((38 : Int) + (IntKind.i64.wrap (Int.tmod (IntKind.u64.wrap at_) (32 : Int))))) * 1)) 1 (.int .u8 (bits .xor .u8 v_24 turn)) fun w_18 =>
 newP w_18 (.cells #[(.int .u8 (107 : Int)), (.int .u8 (101 : Int)), (.int .u8 (121 : Int))] 5) fun b_26 w_19 =>
 runP P (convert 22 22 (SlV.val (SlV.mk (some (⟨b_26, 0, none⟩ : Addr)) 3 3))) w_19 SlV.val fun r_27 w_20 =>
 loadP w_20 ((⟨b_1, 0, none⟩ : Addr).add 8) 1 (Value.int .u32) fun v_28 =>
 callP P 23 #[(SlV.val r_27), (SlV.val r_6), (.int .u32 v_28)] w_20 (tup2V CookieV.val (Value.int .i64)) fun r_29 w_21 =>
 newP w_21 (.cells (CookieV.val ({ Tag := 0, Peer := 0, Tsn := 0, PeerTsn := 0, Window := 0, Out := 0, In := 0, Features := 0, Made := 0, TieTag := 0, TiePeer := 0 } : CookieV)).cells 36) fun b_30 w_22 =>
 storeP w_22 (⟨b_30, 0, none⟩ : Addr) 11 (CookieV.val r_29.1) fun w_23 =>
 cond' (r_16.2 == (90 : Int)) (
 cond' (r_21.2 == (40 : Int)) (
 cond' (r_29.2 == (0 : Int)) (
 loadP w_23 (⟨b_30, 0, none⟩ : Addr) 11 CookieV.val fun v_34 =>
 loadP w_23 (⟨b_1, 0, none⟩ : Addr) 11 CookieV.val fun v_35 =>
 R (negB false ((v_34.Tag == v_35.Tag) && ((v_34.Peer == v_35.Peer) && ((v_34.Tsn == v_35.Tsn) && ((v_34.PeerTsn == v_35.PeerTsn) && ((v_34.Window == v_35.Window) && ((v_34.Out == v_35.Out) && ((v_34.In == v_35.In) && ((v_34.Features == v_35.Features) && ((v_34.Made == v_35.Made) && ((v_34.TieTag == v_35.TieTag) && ((v_34.TiePeer == v_35.TiePeer) && true)))))))))))) w_23) (
 R false w_23)) (
 R false w_23)) (
 R false w_23)) ∧ (
 newP w_14 (.cells (CookieV.val ({ Tag := 0, Peer := 0, Tsn := 0, PeerTsn := 0, Window := 0, Out := 0, In := 0, Features := 0, Made := 0, TieTag := 0, TiePeer := 0 } : CookieV)).cells 36) fun b_36 w_24 =>
 Holds w_24 ((⟨b_1, 0, none⟩ : Addr).add 8) 1 (.int .u32 v_18) ∧ (
 callP P 23 #[(SlV.val r_20), (SlV.val (SlV.sub r_6 (0) (69) r_6.cap 1)), (.int .u32 v_18)] w_24 (tup2V CookieV.val (Value.int .i64)) fun r_37 w_25 =>
 storeP w_25 (⟨b_36, 0, none⟩ : Addr) 11 (CookieV.val r_37.1) fun w_26 =>
 chkP (inR (IntKind.i64.wrap ((38 : Int) + (IntKind.i64.wrap (Int.tmod (IntKind.u64.wrap at_) (32 : Int))))) r_6.len) <|
 nilP r_6.a fun a_38 =>
 loadP w_26 (a_38.add (Int.toNat (IntKind.i64.wrap ((38 : Int) + (IntKind.i64.wrap (Int.tmod (IntKind.u64.wrap at_) (32 : Int))))) * 1)) 1 (Value.int .u8) fun v_39 =>
 chkP (inR (IntKind.i64.wrap ((38 : Int) + (IntKind.i64.wrap (Int.tmod (IntKind.u64.wrap at_) (32 : Int))))) r_6.len) <|
 nilP r_6.a fun a_40 =>
 storeP w_26 (a_40.add (Int.toNat (IntKind.i64.wrap ((38 : Int) + (IntKind.i64.wrap (Int.tmod (IntKind.u64.wrap at_) (32 : Int))))) * 1)) 1 (.int .u8 (bits .xor .u8 v_39 turn)) fun w_27 =>
 newP w_27 (.cells #[(.int .u8 (107 : Int)), (.int .u8 (101 : Int)), (.int .u8 (121 : Int))] 5) fun b_41 w_28 =>
 runP P (convert 22 22 (SlV.val (SlV.mk (some (⟨b_41, 0, none⟩ : Addr)) 3 3))) w_28 SlV.val fun r_42 w_29 =>
 loadP w_29 ((⟨b_1, 0, none⟩ : Addr).add 8) 1 (Value.int .u32) fun v_43 =>
 callP P 23 #[(SlV.val r_42), (SlV.val r_6), (.int .u32 v_43)] w_29 (tup2V CookieV.val (Value.int .i64)) fun r_44 w_30 =>
 newP w_30 (.cells (CookieV.val ({ Tag := 0, Peer := 0, Tsn := 0, PeerTsn := 0, Window := 0, Out := 0, In := 0, Features := 0, Made := 0, TieTag := 0, TiePeer := 0 } : CookieV)).cells 36) fun b_45 w_31 =>
 storeP w_31 (⟨b_45, 0, none⟩ : Addr) 11 (CookieV.val r_44.1) fun w_32 =>
 cond' (r_16.2 == (90 : Int)) (
 cond' (r_37.2 == (40 : Int)) (
 cond' (r_44.2 == (0 : Int)) (
 loadP w_32 (⟨b_45, 0, none⟩ : Addr) 11 CookieV.val fun v_49 =>
 loadP w_32 (⟨b_1, 0, none⟩ : Addr) 11 CookieV.val fun v_50 =>
 R (negB false ((v_49.Tag == v_50.Tag) && ((v_49.Peer == v_50.Peer) && ((v_49.Tsn == v_50.Tsn) && ((v_49.PeerTsn == v_50.PeerTsn) && ((v_49.Window == v_50.Window) && ((v_49.Out == v_50.Out) && ((v_49.In == v_50.In) && ((v_49.Features == v_50.Features) && ((v_49.Made == v_50.Made) && ((v_49.TieTag == v_50.TieTag) && ((v_49.TiePeer == v_50.TiePeer) && true)))))))))))) w_32) (
 R false w_32)) (
 R false w_32)) (
 R false w_32))))) ∧ (
 newP w_13 (.cells (CookieV.val ({ Tag := 0, Peer := 0, Tsn := 0, PeerTsn := 0, Window := 0, Out := 0, In := 0, Features := 0, Made := 0, TieTag := 0, TiePeer := 0 } : CookieV)).cells 36) fun b_51 w_33 =>
 Holds w_33 ((⟨b_1, 0, none⟩ : Addr).add 8) 1 (.int .u32 v_18) ∧ (
 runP P (convert 22 22 (SlV.val (SlV.mk (some (⟨b_19, 0, none⟩ : Addr)) 3 3))) w_33 SlV.val fun r_52 w_34 =>
 Holds w_34 ((⟨b_1, 0, none⟩ : Addr).add 8) 1 (.int .u32 v_18) ∧ (
 callP P 23 #[(SlV.val r_52), (SlV.val (SlV.sub r_6 (0) (69) r_6.cap 1)), (.int .u32 v_18)] w_34 (tup2V CookieV.val (Value.int .i64)) fun r_53 w_35 =>
 storeP w_35 (⟨b_51, 0, none⟩ : Addr) 11 (CookieV.val r_53.1) fun w_36 =>
 chkP (inR (IntKind.i64.wrap ((38 : Int) + (IntKind.i64.wrap (Int.tmod (IntKind.u64.wrap at_) (32 : Int))))) r_6.len) <|
 nilP r_6.a fun a_54 =>
 loadP w_36 (a_54.add (Int.toNat (IntKind.i64.wrap ((38 : Int) + (IntKind.i64.wrap (Int.tmod (IntKind.u64.wrap at_) (32 : Int))))) * 1)) 1 (Value.int .u8) fun v_55 =>
 chkP (inR (IntKind.i64.wrap ((38 : Int) + (IntKind.i64.wrap (Int.tmod (IntKind.u64.wrap at_) (32 : Int))))) r_6.len) <|
 nilP r_6.a fun a_56 =>
 storeP w_36 (a_56.add (Int.toNat (IntKind.i64.wrap ((38 : Int) + (IntKind.i64.wrap (Int.tmod (IntKind.u64.wrap at_) (32 : Int))))) * 1)) 1 (.int .u8 (bits .xor .u8 v_55 turn)) fun w_37 =>
 newP w_37 (.cells #[(.int .u8 (107 : Int)), (.int .u8 (101 : Int)), (.int .u8 (121 : Int))] 5) fun b_57 w_38 =>
 runP P (convert 22 22 (SlV.val (SlV.mk (some (⟨b_57, 0, none⟩ : Addr)) 3 3))) w_38 SlV.val fun r_58 w_39 =>
 loadP w_39 ((⟨b_1, 0, none⟩ : Addr).add 8) 1 (Value.int .u32) fun v_59 =>
 callP P 23 #[(SlV.val r_58), (SlV.val r_6), (.int .u32 v_59)] w_39 (tup2V CookieV.val (Value.int .i64)) fun r_60 w_40 =>
 newP w_40 (.cells (CookieV.val ({ Tag := 0, Peer := 0, Tsn := 0, PeerTsn := 0, Window := 0, Out := 0, In := 0, Features := 0, Made := 0, TieTag := 0, TiePeer := 0 } : CookieV)).cells 36) fun b_61 w_41 =>
 storeP w_41 (⟨b_61, 0, none⟩ : Addr) 11 (CookieV.val r_60.1) fun w_42 =>
 cond' (r_16.2 == (90 : Int)) (
 cond' (r_53.2 == (40 : Int)) (
 cond' (r_60.2 == (0 : Int)) (
 loadP w_42 (⟨b_61, 0, none⟩ : Addr) 11 CookieV.val fun v_65 =>
 loadP w_42 (⟨b_1, 0, none⟩ : Addr) 11 CookieV.val fun v_66 =>
 R (negB false ((v_65.Tag == v_66.Tag) && ((v_65.Peer == v_66.Peer) && ((v_65.Tsn == v_66.Tsn) && ((v_65.PeerTsn == v_66.PeerTsn) && ((v_65.Window == v_66.Window) && ((v_65.Out == v_66.Out) && ((v_65.In == v_66.In) && ((v_65.Features == v_66.Features) && ((v_65.Made == v_66.Made) && ((v_65.TieTag == v_66.TieTag) && ((v_65.TiePeer == v_66.TiePeer) && true)))))))))))) w_42) (
 R false w_42)) (
 R false w_42)) (
 R false w_42)))))) ∧ (
 newP w_12.drew (.cells (CookieV.val ({ Tag := 0, Peer := 0, Tsn := 0, PeerTsn := 0, Window := 0, Out := 0, In := 0, Features := 0, Made := 0, TieTag := 0, TiePeer := 0 } : CookieV)).cells 36) fun b_67 w_43 =>
 Holds w_43 ((⟨b_1, 0, none⟩ : Addr).add 8) 1 (.int .u32 v_18) ∧ (
 newP w_43 (.cells #[(.int .u8 (107 : Int)), (.int .u8 (101 : Int)), (.int .u8 (121 : Int))] 5) fun b_68 w_44 =>
 Holds w_44 ((⟨b_1, 0, none⟩ : Addr).add 8) 1 (.int .u32 v_18) ∧ (
 runP P (convert 22 22 (SlV.val (SlV.mk (some (⟨b_68, 0, none⟩ : Addr)) 3 3))) w_44 SlV.val fun r_69 w_45 =>
 Holds w_45 ((⟨b_1, 0, none⟩ : Addr).add 8) 1 (.int .u32 v_18) ∧ (
 callP P 23 #[(SlV.val r_69), (SlV.val (SlV.sub r_6 (0) (69) r_6.cap 1)), (.int .u32 v_18)] w_45 (tup2V CookieV.val (Value.int .i64)) fun r_70 w_46 =>
 storeP w_46 (⟨b_67, 0, none⟩ : Addr) 11 (CookieV.val r_70.1) fun w_47 =>
 chkP (inR (IntKind.i64.wrap ((38 : Int) + (IntKind.i64.wrap (Int.tmod (IntKind.u64.wrap at_) (32 : Int))))) r_6.len) <|
 nilP r_6.a fun a_71 =>
 loadP w_47 (a_71.add (Int.toNat (IntKind.i64.wrap ((38 : Int) + (IntKind.i64.wrap (Int.tmod (IntKind.u64.wrap at_) (32 : Int))))) * 1)) 1 (Value.int .u8) fun v_72 =>
 chkP (inR (IntKind.i64.wrap ((38 : Int) + (IntKind.i64.wrap (Int.tmod (IntKind.u64.wrap at_) (32 : Int))))) r_6.len) <|
 nilP r_6.a fun a_73 =>
 storeP w_47 (a_73.add (Int.toNat (IntKind.i64.wrap ((38 : Int) + (IntKind.i64.wrap (Int.tmod (IntKind.u64.wrap at_) (32 : Int))))) * 1)) 1 (.int .u8 (bits .xor .u8 v_72 turn)) fun w_48 =>
 newP w_48 (.cells #[(.int .u8 (107 : Int)), (.int .u8 (101 : Int)), (.int .u8 (121 : Int))] 5) fun b_74 w_49 =>
 runP P (convert 22 22 (SlV.val (SlV.mk (some (⟨b_74, 0, none⟩ : Addr)) 3 3))) w_49 SlV.val fun r_75 w_50 =>
 loadP w_50 ((⟨b_1, 0, none⟩ : Addr).add 8) 1 (Value.int .u32) fun v_76 =>
 callP P 23 #[(SlV.val r_75), (SlV.val r_6), (.int .u32 v_76)] w_50 (tup2V CookieV.val (Value.int .i64)) fun r_77 w_51 =>
 newP w_51 (.cells (CookieV.val ({ Tag := 0, Peer := 0, Tsn := 0, PeerTsn := 0, Window := 0, Out := 0, In := 0, Features := 0, Made := 0, TieTag := 0, TiePeer := 0 } : CookieV)).cells 36) fun b_78 w_52 =>
 storeP w_52 (⟨b_78, 0, none⟩ : Addr) 11 (CookieV.val r_77.1) fun w_53 =>
 cond' (r_16.2 == (90 : Int)) (
 cond' (r_70.2 == (40 : Int)) (
 cond' (r_77.2 == (0 : Int)) (
 loadP w_53 (⟨b_78, 0, none⟩ : Addr) 11 CookieV.val fun v_82 =>
 loadP w_53 (⟨b_1, 0, none⟩ : Addr) 11 CookieV.val fun v_83 =>
 R (negB false ((v_82.Tag == v_83.Tag) && ((v_82.Peer == v_83.Peer) && ((v_82.Tsn == v_83.Tsn) && ((v_82.PeerTsn == v_83.PeerTsn) && ((v_82.Window == v_83.Window) && ((v_82.Out == v_83.Out) && ((v_82.In == v_83.In) && ((v_82.Features == v_83.Features) && ((v_82.Made == v_83.Made) && ((v_82.TieTag == v_83.TieTag) && ((v_82.TiePeer == v_83.TiePeer) && true)))))))))))) w_53) (
 R false w_53)) (
 R false w_53)) (
 R false w_53))))))
def an9 : Ann := mkAnn [] [(6, [])]
theorem sf9_eq (c : CookieV) (at_ : Int) (turn : Int) (w0 : World) (R : Bool → World → Prop) : sf9 c at_ turn w0 R = vcFn P sh an9 Try.f9 [(CookieV.val c), (.int .i64 at_), (.int .u8 turn)] shBool w0 R := by kernel_rfl
theorem nm9 : (Try.f9.name == "runtime.NumGoroutine") = false := by kernel_rfl
theorem sf9_call (c : CookieV) (at_ : Int) (turn : Int) (w0 : World) (R : Bool → World → Prop) (hsf : sf9 c at_ turn w0 R) : callP P 9 #[(CookieV.val c), (.int .i64 at_), (.int .u8 turn)] w0 shBool.val R :=
  vcFn_sound mixed Try.func9 nm9 (Eq.mp (sf9_eq c at_ turn w0 R) hsf)

/-- flume/flumelaw09.CookieAges -/
def sf10 (c : CookieV) (now : Int) (w0 : World) (R : Bool → World → Prop) : Prop :=
 newP w0 (.cells (CookieV.val c).cells 36) fun b_1 w_1 =>
 callP P 21 #[] w_1 Value.bool fun r_2 w_2 =>
 cond' (!r_2) (
 R false w_2) (
 newP w_2 (.cells #[(.int .u8 (107 : Int)), (.int .u8 (101 : Int)), (.int .u8 (121 : Int))] 5) fun b_3 w_3 =>
 runP P (convert 22 22 (SlV.val (SlV.mk (some (⟨b_3, 0, none⟩ : Addr)) 3 3))) w_3 SlV.val fun r_4 w_4 =>
 loadP w_4 (⟨b_1, 0, none⟩ : Addr) 11 CookieV.val fun v_5 =>
 callP P 22 #[(SlV.val r_4), (CookieV.val v_5)] w_4 SlV.val fun r_6 w_5 =>
 newP w_5 (.cells #[(.int .u8 (107 : Int)), (.int .u8 (101 : Int)), (.int .u8 (121 : Int))] 5) fun b_7 w_6 =>
 runP P (convert 22 22 (SlV.val (SlV.mk (some (⟨b_7, 0, none⟩ : Addr)) 3 3))) w_6 SlV.val fun r_8 w_7 =>
 callP P 23 #[(SlV.val r_8), (SlV.val r_6), (.int .u32 now)] w_7 (tup2V CookieV.val (Value.int .i64)) fun r_9 w_8 =>
 newP w_8 (.cells (CookieV.val ({ Tag := 0, Peer := 0, Tsn := 0, PeerTsn := 0, Window := 0, Out := 0, In := 0, Features := 0, Made := 0, TieTag := 0, TiePeer := 0 } : CookieV)).cells 36) fun b_10 w_9 =>
 storeP w_9 (⟨b_10, 0, none⟩ : Addr) 11 (CookieV.val r_9.1) fun w_10 =>
 newP w_10 (.cells #[(.int .u8 (107 : Int)), (.int .u8 (101 : Int)), (.int .u8 (121 : Int))] 5) fun b_11 w_11 =>
 runP P (convert 22 22 (SlV.val (SlV.mk (some (⟨b_11, 0, none⟩ : Addr)) 3 3))) w_11 SlV.val fun r_12 w_12 =>
 loadP w_12 ((⟨b_1, 0, none⟩ : Addr).add 8) 1 (Value.int .u32) fun v_13 =>
 callP P 23 #[(SlV.val r_12), (SlV.val r_6), (.int .u32 (IntKind.u32.wrap (v_13 + (600 : Int))))] w_12 (tup2V CookieV.val (Value.int .i64)) fun r_14 w_13 =>
 newP w_13 (.cells (CookieV.val ({ Tag := 0, Peer := 0, Tsn := 0, PeerTsn := 0, Window := 0, Out := 0, In := 0, Features := 0, Made := 0, TieTag := 0, TiePeer := 0 } : CookieV)).cells 36) fun b_15 w_14 =>
 storeP w_14 (⟨b_15, 0, none⟩ : Addr) 11 (CookieV.val r_14.1) fun w_15 =>
 newP w_15 (.cells #[(.int .u8 (107 : Int)), (.int .u8 (101 : Int)), (.int .u8 (121 : Int))] 5) fun b_16 w_16 =>
 runP P (convert 22 22 (SlV.val (SlV.mk (some (⟨b_16, 0, none⟩ : Addr)) 3 3))) w_16 SlV.val fun r_17 w_17 =>
 loadP w_17 ((⟨b_1, 0, none⟩ : Addr).add 8) 1 (Value.int .u32) fun v_18 =>
 callP P 23 #[(SlV.val r_17), (SlV.val r_6), (.int .u32 (IntKind.u32.wrap (v_18 + (601 : Int))))] w_17 (tup2V CookieV.val (Value.int .i64)) fun r_19 w_18 =>
 newP w_18 (.cells (CookieV.val ({ Tag := 0, Peer := 0, Tsn := 0, PeerTsn := 0, Window := 0, Out := 0, In := 0, Features := 0, Made := 0, TieTag := 0, TiePeer := 0 } : CookieV)).cells 36) fun b_20 w_19 =>
 storeP w_19 (⟨b_20, 0, none⟩ : Addr) 11 (CookieV.val r_19.1) fun w_20 =>
 newP w_20 (.cells #[(.int .u8 (107 : Int)), (.int .u8 (101 : Int)), (.int .u8 (121 : Int))] 5) fun b_21 w_21 =>
 runP P (convert 22 22 (SlV.val (SlV.mk (some (⟨b_21, 0, none⟩ : Addr)) 3 3))) w_21 SlV.val fun r_22 w_22 =>
 loadP w_22 ((⟨b_1, 0, none⟩ : Addr).add 8) 1 (Value.int .u32) fun v_23 =>
 callP P 23 #[(SlV.val r_22), (SlV.val r_6), (.int .u32 (IntKind.u32.wrap (v_23 - (1 : Int))))] w_22 (tup2V CookieV.val (Value.int .i64)) fun r_24 w_23 =>
 newP w_23 (.cells (CookieV.val ({ Tag := 0, Peer := 0, Tsn := 0, PeerTsn := 0, Window := 0, Out := 0, In := 0, Features := 0, Made := 0, TieTag := 0, TiePeer := 0 } : CookieV)).cells 36) fun b_25 w_24 =>
 storeP w_24 (⟨b_25, 0, none⟩ : Addr) 11 (CookieV.val r_24.1) fun w_25 =>
 loadP w_25 ((⟨b_1, 0, none⟩ : Addr).add 8) 1 (Value.int .u32) fun v_26 =>
 cond' (negB false ((r_9.2 == (0 : Int)) == (decide ((IntKind.u32.wrap (now - v_26)) ≤ (600 : Int))))) (
 cond' (r_14.2 == (0 : Int)) (
 cond' (r_19.2 == (91 : Int)) (
 R (r_24.2 == (91 : Int)) w_25) (
 R false w_25)) (
 R false w_25)) (
 R false w_25))
def an10 : Ann := mkAnn [] []
theorem sf10_eq (c : CookieV) (now : Int) (w0 : World) (R : Bool → World → Prop) : sf10 c now w0 R = vcFn P sh an10 Try.f10 [(CookieV.val c), (.int .u32 now)] shBool w0 R := by kernel_rfl
theorem nm10 : (Try.f10.name == "runtime.NumGoroutine") = false := by kernel_rfl
theorem sf10_call (c : CookieV) (now : Int) (w0 : World) (R : Bool → World → Prop) (hsf : sf10 c now w0 R) : callP P 10 #[(CookieV.val c), (.int .u32 now)] w0 shBool.val R :=
  vcFn_sound mixed Try.func10 nm10 (Eq.mp (sf10_eq c now w0 R) hsf)

/-- flume/flumelaw08.first -/
def sf15 (w0 : World) (R : Bool → World → Prop) : Prop :=
 newP w0 (.cells #[(.int .u8 (97 : Int))] 5) fun b_1 w_1 =>
 runP P (convert 22 22 (SlV.val (SlV.mk (some (⟨b_1, 0, none⟩ : Addr)) 1 1))) w_1 SlV.val fun r_2 w_2 =>
 newP w_2 (.cells #[(.int .u8 (98 : Int)), (.int .u8 (99 : Int))] 5) fun b_3 w_3 =>
 runP P (convert 22 22 (SlV.val (SlV.mk (some (⟨b_3, 0, none⟩ : Addr)) 2 2))) w_3 SlV.val fun r_4 w_4 =>
 newP w_4 (.cells #[(SlV.val r_2), (SlV.val r_4)] 22) fun b_5 w_5 =>
 callP P 17 #[(SlV.val (SlV.mk (some (⟨b_5, 0, none⟩ : Addr)) 2 2))] w_5 (arrV .u8) fun r_6 w_6 =>
 newP w_6 (.cells ((arrV .u8) (List.replicate 32 0)).cells 25) fun b_7 w_7 =>
 storeP w_7 (⟨b_7, 0, none⟩ : Addr) 32 ((arrV .u8) r_6) fun w_8 =>
 newP w_8 (.cells #[(.int .u8 (74 : Int)), (.int .u8 (101 : Int)), (.int .u8 (102 : Int)), (.int .u8 (101 : Int))] 5) fun b_8 w_9 =>
 runP P (convert 22 22 (SlV.val (SlV.mk (some (⟨b_8, 0, none⟩ : Addr)) 4 4))) w_9 SlV.val fun r_9 w_10 =>
 newP w_10 (.cells #[(.int .u8 (119 : Int)), (.int .u8 (104 : Int)), (.int .u8 (97 : Int)), (.int .u8 (116 : Int)), (.int .u8 (32 : Int)), (.int .u8 (100 : Int)), (.int .u8 (111 : Int)), (.int .u8 (32 : Int)), (.int .u8 (121 : Int)), (.int .u8 (97 : Int)), (.int .u8 (32 : Int)), (.int .u8 (119 : Int)), (.int .u8 (97 : Int)), (.int .u8 (110 : Int)), (.int .u8 (116 : Int)), (.int .u8 (32 : Int)), (.int .u8 (102 : Int)), (.int .u8 (111 : Int)), (.int .u8 (114 : Int)), (.int .u8 (32 : Int)), (.int .u8 (110 : Int)), (.int .u8 (111 : Int)), (.int .u8 (116 : Int)), (.int .u8 (104 : Int)), (.int .u8 (105 : Int)), (.int .u8 (110 : Int)), (.int .u8 (103 : Int)), (.int .u8 (63 : Int))] 5) fun b_10 w_11 =>
 runP P (convert 22 22 (SlV.val (SlV.mk (some (⟨b_10, 0, none⟩ : Addr)) 28 28))) w_11 SlV.val fun r_11 w_12 =>
 newP w_12 (.cells #[(SlV.val r_11)] 22) fun b_12 w_13 =>
 callP P 16 #[(SlV.val r_9), (SlV.val (SlV.mk (some (⟨b_12, 0, none⟩ : Addr)) 1 1))] w_13 (arrV .u8) fun r_13 w_14 =>
 newP w_14 (.cells ((arrV .u8) (List.replicate 32 0)).cells 25) fun b_14 w_15 =>
 storeP w_15 (⟨b_14, 0, none⟩ : Addr) 32 ((arrV .u8) r_13) fun w_16 =>
 loadP w_16 ((⟨b_7, 0, none⟩ : Addr).add (Int.toNat (0 : Int) * 1)) 1 (Value.int .u8) fun v_15 =>
 cond' (v_15 == (186 : Int)) (
 loadP w_16 ((⟨b_7, 0, none⟩ : Addr).add (Int.toNat (31 : Int) * 1)) 1 (Value.int .u8) fun v_17 =>
 cond' (v_17 == (173 : Int)) (
 loadP w_16 ((⟨b_14, 0, none⟩ : Addr).add (Int.toNat (0 : Int) * 1)) 1 (Value.int .u8) fun v_19 =>
 cond' (v_19 == (91 : Int)) (
 loadP w_16 ((⟨b_14, 0, none⟩ : Addr).add (Int.toNat (31 : Int) * 1)) 1 (Value.int .u8) fun v_21 =>
 cond' (v_21 == (67 : Int)) (
 loadP w_16 (⟨b_7, 0, none⟩ : Addr) 32 (arrV .u8) fun v_23 =>
 loadP w_16 (⟨b_7, 0, none⟩ : Addr) 32 (arrV .u8) fun v_24 =>
 callP P 20 #[((arrV .u8) v_23), ((arrV .u8) v_24)] w_16 Value.bool fun r_25 w_17 =>
 cond' r_25 (
 loadP w_17 (⟨b_7, 0, none⟩ : Addr) 32 (arrV .u8) fun v_27 =>
 loadP w_17 (⟨b_14, 0, none⟩ : Addr) 32 (arrV .u8) fun v_28 =>
 callP P 20 #[((arrV .u8) v_27), ((arrV .u8) v_28)] w_17 Value.bool fun r_29 w_18 =>
 R (!r_29) w_18) (
 R false w_17)) (
 R false w_16)) (
 R false w_16)) (
 R false w_16)) (
 R false w_16)
def an15 : Ann := mkAnn [] []
theorem sf15_eq (w0 : World) (R : Bool → World → Prop) : sf15 w0 R = vcFn P sh an15 Try.f15 [] shBool w0 R := by kernel_rfl
theorem nm15 : (Try.f15.name == "runtime.NumGoroutine") = false := by kernel_rfl
theorem sf15_call (w0 : World) (R : Bool → World → Prop) (hsf : sf15 w0 R) : callP P 15 #[] w0 shBool.val R :=
  vcFn_sound mixed Try.func15 nm15 (Eq.mp (sf15_eq w0 R) hsf)

/-- flume/mac.Seal -/
def sf16 (key : SlV) (parts : SlV) (w0 : World) (R : (List Int) → World → Prop) : Prop :=
 newP w0 (.cells ((arrV .u8) (List.replicate 32 0)).cells 25) fun b_1 w_1 =>
 callP P 38 #[(SlV.val key)] w_1 SlV.val fun r_2 w_2 =>
 newP w_2 (.cells #[(SlV.val SlV.nil)] 22) fun b_3 w_3 =>
 storeP w_3 (⟨b_3, 0, none⟩ : Addr) 1 (SlV.val r_2) fun w_4 =>
 cutP (Unit) (fun J_4 =>
 loadP w_4 (⟨b_3, 0, none⟩ : Addr) 1 SlV.val fun v_6 =>
 cond' (decide ((v_6.len : Int) > (64 : Int))) (
 loadP w_4 (⟨b_3, 0, none⟩ : Addr) 1 SlV.val fun v_7 =>
 newP w_4 (.cells #[(SlV.val v_7)] 22) fun b_8 w_6 =>
 callP P 17 #[(SlV.val (SlV.mk (some (⟨b_8, 0, none⟩ : Addr)) 1 1))] w_6 (arrV .u8) fun r_9 w_7 =>
 newP w_7 (.cells ((arrV .u8) (List.replicate 32 0)).cells 25) fun b_10 w_8 =>
 storeP w_8 (⟨b_10, 0, none⟩ : Addr) 32 ((arrV .u8) r_9) fun w_9 =>
 storeP w_9 (⟨b_3, 0, none⟩ : Addr) 1 (SlV.val (arrSub (⟨b_10, 0, none⟩ : Addr) 0 32 32 1)) fun w_10 =>
 J_4 () w_10) (
 J_4 () w_4)) fun _ _ w_5 =>
 loadP w_5 (⟨b_3, 0, none⟩ : Addr) 1 SlV.val fun v_11 =>
 loadP w_5 (⟨b_3, 0, none⟩ : Addr) 1 SlV.val fun v_12 =>
 runP P (Builtin.append_ #[22, 3] 22 #[(SlV.val v_11), (.int .i64 (IntKind.i64.wrap ((64 : Int) - (v_12.len : Int))))]) w_5 SlV.val fun r_13 w_11 =>
 storeP w_11 (⟨b_3, 0, none⟩ : Addr) 1 (SlV.val r_13) fun w_12 =>
 callP P 41 #[(SlV.val parts)] w_12 SlV.val fun r_14 w_13 =>
 callP P 39 #[(.int .u8 (54 : Int)), (.pointer (some (⟨b_3, 0, none⟩ : Addr)))] w_13 SlV.val fun r_15 w_14 =>
 newP w_14 (.cells #[(SlV.val r_15)] 22) fun b_16 w_15 =>
 callP P 40 #[(SlV.val r_14), (.int .i64 (0 : Int)), (SlV.val (SlV.mk (some (⟨b_16, 0, none⟩ : Addr)) 1 1))] w_15 SlV.val fun r_17 w_16 =>
 callP P 17 #[(SlV.val r_17)] w_16 (arrV .u8) fun r_18 w_17 =>
 newP w_17 (.cells ((arrV .u8) (List.replicate 32 0)).cells 25) fun b_19 w_18 =>
 storeP w_18 (⟨b_19, 0, none⟩ : Addr) 32 ((arrV .u8) r_18) fun w_19 =>
 callP P 39 #[(.int .u8 (92 : Int)), (.pointer (some (⟨b_3, 0, none⟩ : Addr)))] w_19.drew SlV.val fun r_20 w_20 =>
 newP w_20 (.cells #[(SlV.val r_20), (SlV.val (arrSub (⟨b_19, 0, none⟩ : Addr) 0 32 32 1))] 22) fun b_21 w_21 =>
 callP P 17 #[(SlV.val (SlV.mk (some (⟨b_21, 0, none⟩ : Addr)) 2 2))] w_21 (arrV .u8) fun r_22 w_22 =>
 storeP w_22 (⟨b_1, 0, none⟩ : Addr) 32 ((arrV .u8) r_22) fun w_23 =>
 loadP w_23 (⟨b_1, 0, none⟩ : Addr) 32 (arrV .u8) fun v_23 =>
 unArrP .u8 ((arrV .u8) v_23) fun z_24 =>
 R z_24 w_23
def an16 : Ann := mkAnn [] [(5, [])]
theorem sf16_eq (key : SlV) (parts : SlV) (w0 : World) (R : (List Int) → World → Prop) : sf16 key parts w0 R = vcFn P sh an16 Try.f16 [(SlV.val key), (SlV.val parts)] (shArr .u8) w0 R := by kernel_rfl
theorem nm16 : (Try.f16.name == "runtime.NumGoroutine") = false := by kernel_rfl
theorem sf16_call (key : SlV) (parts : SlV) (w0 : World) (R : (List Int) → World → Prop) (hsf : sf16 key parts w0 R) : callP P 16 #[(SlV.val key), (SlV.val parts)] w0 (shArr .u8).val R :=
  vcFn_sound mixed Try.func16 nm16 (Eq.mp (sf16_eq key parts w0 R) hsf)

/-- flume/mac.Hash -/
def sf17 (parts : SlV) (w0 : World) (R : (List Int) → World → Prop) : Prop :=
 newP w0 (.cells ((arrV .u8) (List.replicate 32 0)).cells 25) fun b_1 w_1 =>
 callP P 42 #[(SlV.val parts)] w_1 SlV.val fun r_2 w_2 =>
 newP w_2 (.cells #[(.int .u8 (128 : Int))] 5) fun b_3 w_3 =>
 runP P (Builtin.append_ #[22, 22] 22 #[(SlV.val r_2), (SlV.val (SlV.mk (some (⟨b_3, 0, none⟩ : Addr)) 1 1))]) w_3 SlV.val fun r_4 w_4 =>
 runP P (Builtin.append_ #[22, 3] 22 #[(SlV.val r_4), (.int .i64 (Int.tmod (IntKind.i64.wrap ((120 : Int) - (Int.tmod (r_4.len : Int) (64 : Int)))) (64 : Int)))]) w_4 SlV.val fun r_5 w_5 =>
 loopP (SlV × Int) (r_5, (56 : Int)) w_5 fun next__6 _ s_7 w_6 =>
 cond' (decide (s_7.2 ≥ (0 : Int))) (
 chkP (decide (0 ≤ s_7.2)) <|
 newP w_6 (.cells #[(.int .u8 (IntKind.u8.wrap (Int.fdiv (IntKind.u64.wrap ((IntKind.u64.wrap (r_2.len : Int)) * (8 : Int))) (2 ^ (min (Int.toNat s_7.2) IntKind.u64.bits)))))] 5) fun b_8 w_7 =>
 runP P (Builtin.append_ #[22, 22] 22 #[(SlV.val s_7.1), (SlV.val (SlV.mk (some (⟨b_8, 0, none⟩ : Addr)) 1 1))]) w_7 SlV.val fun r_9 w_8 =>
 next__6 (r_9, (IntKind.i64.wrap (s_7.2 - (8 : Int)))) w_8) (
 newP w_6 (.cells ((arrV .u32) (List.replicate 8 0)).cells 92) fun b_10 w_9 =>
 storeP w_9 (⟨b_10, 0, none⟩ : Addr) 8 ((arrV .u32) ([(1779033703 : Int), (3144134277 : Int), (1013904242 : Int), (2773480762 : Int), (1359893119 : Int), (2600822924 : Int), (528734635 : Int), (1541459225 : Int)])) fun w_10 =>
 callP P 43 #[(SlV.val s_7.1), (.int .i64 (64 : Int))] w_10 FnV.val fun r_11 w_11 =>
 rangeP P (FnV.val r_11) (fun x : SlV => [(SlV.val x)]) (fun L_12 x_13 w_12 J_14 =>
 begP P L_12 w_12 fun w_13 =>
 callP P 44 #[(.pointer (some (⟨b_10, 0, none⟩ : Addr))), (SlV.val x_13)] w_13 unitV fun r_16 w_15 =>
 J_14 w_15) w_11 fun D_15 w_14 =>
 newP w_14 (.cells ((arrV .u8) (List.replicate 32 0)).cells 25) fun b_17 w_16 =>
 loadP w_16 (⟨b_10, 0, none⟩ : Addr) 8 (arrV .u32) fun v_18 =>
 loopP (Int) (0 : Int) w_16 fun next__19 _ s_20 w_17 =>
 cond' (decide (s_20 < (8 : Int))) (
 chkP (inR s_20 8) <|
 nthK .u32 (((arrV .u32) v_18)).cells.toList (Int.toNat s_20 * 1) fun y_21 =>
 loopP (Int) (0 : Int) w_17 fun next__22 _ s_23 w_18 =>
 cond' (decide (s_23 < (4 : Int))) (
 chkP (decide (0 ≤ (IntKind.i64.wrap ((24 : Int) - (IntKind.i64.wrap ((8 : Int) * s_23)))))) <|
 chkP (inR (IntKind.i64.wrap ((IntKind.i64.wrap ((4 : Int) * s_20)) + s_23)) 32) <|
 storeP w_18 ((⟨b_17, 0, none⟩ : Addr).add (Int.toNat (IntKind.i64.wrap ((IntKind.i64.wrap ((4 : Int) * s_20)) + s_23)) * 1)) 1 (.int .u8 (IntKind.u8.wrap (Int.fdiv y_21 (2 ^ (min (Int.toNat (IntKind.i64.wrap ((24 : Int) - (IntKind.i64.wrap ((8 : Int) * s_23))))) IntKind.u32.bits))))) fun w_19 =>
 next__22 (IntKind.i64.wrap (s_23 + (1 : Int))) w_19) (
 next__19 (IntKind.i64.wrap (s_20 + (1 : Int))) w_18)) (
 loadP w_17 (⟨b_17, 0, none⟩ : Addr) 32 (arrV .u8) fun v_24 =>
 storeP w_17 (⟨b_1, 0, none⟩ : Addr) 32 ((arrV .u8) v_24) fun w_20 =>
 leaveP P D_15 w_20 fun w_21 =>
 loadP w_21 (⟨b_1, 0, none⟩ : Addr) 32 (arrV .u8) fun v_25 =>
 unArrP .u8 ((arrV .u8) v_25) fun z_26 =>
 R z_26 w_21))
def an17 : Ann := mkAnn [(6, [(3, shSl), (5, (shInt .i64))]), (12, [(42, shSl)]), (15, [(46, (shInt .i64))]), (18, [(50, (shInt .i64))])] []
theorem sf17_eq (parts : SlV) (w0 : World) (R : (List Int) → World → Prop) : sf17 parts w0 R = vcFn P sh an17 Try.f17 [(SlV.val parts)] (shArr .u8) w0 R := by kernel_rfl
theorem nm17 : (Try.f17.name == "runtime.NumGoroutine") = false := by kernel_rfl
theorem sf17_call (parts : SlV) (w0 : World) (R : (List Int) → World → Prop) (hsf : sf17 parts w0 R) : callP P 17 #[(SlV.val parts)] w0 (shArr .u8).val R :=
  vcFn_sound mixed Try.func17 nm17 (Eq.mp (sf17_eq parts w0 R) hsf)

/-- flume/flumeref08.Seal -/
def sf18 (key : SlV) (m : SlV) (w0 : World) (R : (List Int) → World → Prop) : Prop :=
 newP w0 (.cells ((arrV .u8) (List.replicate 32 0)).cells 25) fun b_1 w_1 =>
 newP w_1 (.cells ((arrV .u8) (List.replicate 64 0)).cells 97) fun b_2 w_2 =>
 cutP (Unit) (fun J_3 =>
 cond' (decide ((key.len : Int) > (64 : Int))) (
 callP P 19 #[(SlV.val key)] w_2 (arrV .u8) fun r_5 w_4 =>
 newP w_4 (.cells ((arrV .u8) (List.replicate 32 0)).cells 25) fun b_6 w_5 =>
 storeP w_5 (⟨b_6, 0, none⟩ : Addr) 32 ((arrV .u8) r_5) fun w_6 =>
 loopP (Int) (0 : Int) w_6 fun next__7 _ s_8 w_7 =>
 cond' (decide (s_8 < (32 : Int))) (
 chkP (inR s_8 32) <|
 loadP w_7 ((⟨b_6, 0, none⟩ : Addr).add (Int.toNat s_8 * 1)) 1 (Value.int .u8) fun v_9 =>
 chkP (inR s_8 64) <|
 storeP w_7 ((⟨b_2, 0, none⟩ : Addr).add (Int.toNat s_8 * 1)) 1 (.int .u8 v_9) fun w_8 =>
 next__7 (IntKind.i64.wrap (s_8 + (1 : Int))) w_8) (
 J_3 () w_7)) (
 loopP (Int) (0 : Int) w_2 fun next__10 _ s_11 w_9 =>
 cond' (decide (s_11 < (key.len : Int))) (
 chkP (inR s_11 key.len) <|
 nilP key.a fun a_12 =>
 loadP w_9 (a_12.add (Int.toNat s_11 * 1)) 1 (Value.int .u8) fun v_13 =>
 chkP (inR s_11 64) <|
 storeP w_9 ((⟨b_2, 0, none⟩ : Addr).add (Int.toNat s_11 * 1)) 1 (.int .u8 v_13) fun w_10 =>
 next__10 (IntKind.i64.wrap (s_11 + (1 : Int))) w_10) (
 J_3 () w_9))) fun _ _ w_3 =>
 loopP (SlV × SlV × Int) (SlV.nil, SlV.nil, (0 : Int)) w_3 fun next__14 _ s_15 w_11 =>
 cond' (decide (s_15.2.2 < (64 : Int))) (
 chkP (inR s_15.2.2 64) <|
 loadP w_11 ((⟨b_2, 0, none⟩ : Addr).add (Int.toNat s_15.2.2 * 1)) 1 (Value.int .u8) fun v_16 =>
 newP w_11 (.cells #[(.int .u8 (bits .xor .u8 v_16 (54 : Int)))] 5) fun b_17 w_12 =>
 runP P (Builtin.append_ #[22, 22] 22 #[(SlV.val s_15.1), (SlV.val (SlV.mk (some (⟨b_17, 0, none⟩ : Addr)) 1 1))]) w_12 SlV.val fun r_18 w_13 =>
 chkP (inR s_15.2.2 64) <|
 loadP w_13 ((⟨b_2, 0, none⟩ : Addr).add (Int.toNat s_15.2.2 * 1)) 1 (Value.int .u8) fun v_19 =>
 newP w_13 (.cells #[(.int .u8 (bits .xor .u8 v_19 (92 : Int)))] 5) fun b_20 w_14 =>
 runP P (Builtin.append_ #[22, 22] 22 #[(SlV.val s_15.2.1), (SlV.val (SlV.mk (some (⟨b_20, 0, none⟩ : Addr)) 1 1))]) w_14 SlV.val fun r_21 w_15 =>
 next__14 (r_18, r_21, (IntKind.i64.wrap (s_15.2.2 + (1 : Int)))) w_15) (
 runP P (Builtin.append_ #[22, 22] 22 #[(SlV.val s_15.1), (SlV.val m)]) w_11 SlV.val fun r_22 w_16 =>
 callP P 19 #[(SlV.val r_22)] w_16 (arrV .u8) fun r_23 w_17 =>
 newP w_17 (.cells ((arrV .u8) (List.replicate 32 0)).cells 25) fun b_24 w_18 =>
 storeP w_18 (⟨b_24, 0, none⟩ : Addr) 32 ((arrV .u8) r_23) fun w_19 =>
 loopP (SlV × Int) (s_15.2.1, (0 : Int)) w_19 fun next__25 _ s_26 w_20 =>
 cond' (decide (s_26.2 < (32 : Int))) (
 chkP (inR s_26.2 32) <|
 loadP w_20 ((⟨b_24, 0, none⟩ : Addr).add (Int.toNat s_26.2 * 1)) 1 (Value.int .u8) fun v_27 =>
 newP w_20 (.cells #[(.int .u8 v_27)] 5) fun b_28 w_21 =>
 runP P (Builtin.append_ #[22, 22] 22 #[(SlV.val s_26.1), (SlV.val (SlV.mk (some (⟨b_28, 0, none⟩ : Addr)) 1 1))]) w_21 SlV.val fun r_29 w_22 =>
 next__25 (r_29, (IntKind.i64.wrap (s_26.2 + (1 : Int)))) w_22) (
 callP P 19 #[(SlV.val s_26.1)] w_20 (arrV .u8) fun r_30 w_23 =>
 storeP w_23 (⟨b_1, 0, none⟩ : Addr) 32 ((arrV .u8) r_30) fun w_24 =>
 loadP w_24 (⟨b_1, 0, none⟩ : Addr) 32 (arrV .u8) fun v_31 =>
 unArrP .u8 ((arrV .u8) v_31) fun z_32 =>
 R z_32 w_24))
def an18 : Ann := mkAnn [(5, [(7, (shInt .i64))]), (9, [(8, (shInt .i64))]), (14, [(9, shSl), (10, shSl), (11, (shInt .i64))]), (20, [(10, shSl), (13, (shInt .i64))])] [(12, [])]
theorem sf18_eq (key : SlV) (m : SlV) (w0 : World) (R : (List Int) → World → Prop) : sf18 key m w0 R = vcFn P sh an18 Try.f18 [(SlV.val key), (SlV.val m)] (shArr .u8) w0 R := by kernel_rfl
theorem nm18 : (Try.f18.name == "runtime.NumGoroutine") = false := by kernel_rfl
theorem sf18_call (key : SlV) (m : SlV) (w0 : World) (R : (List Int) → World → Prop) (hsf : sf18 key m w0 R) : callP P 18 #[(SlV.val key), (SlV.val m)] w0 (shArr .u8).val R :=
  vcFn_sound mixed Try.func18 nm18 (Eq.mp (sf18_eq key m w0 R) hsf)

/-- flume/flumeref08.Hash -/
def sf19 (m : SlV) (w0 : World) (R : (List Int) → World → Prop) : Prop :=
 newP w0 (.cells ((arrV .u8) (List.replicate 32 0)).cells 25) fun b_1 w_1 =>
 newP w_1 (.cells #[] 5) fun b_2 w_2 =>
 runP P (Builtin.append_ #[22, 22] 22 #[(SlV.val (SlV.mk (some (⟨b_2, 0, none⟩ : Addr)) 0 0)), (SlV.val m)]) w_2 SlV.val fun r_3 w_3 =>
 newP w_3 (.cells #[(.int .u8 (128 : Int))] 5) fun b_4 w_4 =>
 runP P (Builtin.append_ #[22, 22] 22 #[(SlV.val r_3), (SlV.val (SlV.mk (some (⟨b_4, 0, none⟩ : Addr)) 1 1))]) w_4 SlV.val fun r_5 w_5 =>
 loopP (SlV) r_5 w_5 fun next__6 _ s_7 w_6 =>
 cond' ((Int.tmod (s_7.len : Int) (64 : Int)) != (56 : Int)) (
 newP w_6 (.cells #[(.int .u8 (0 : Int))] 5) fun b_8 w_7 =>
 runP P (Builtin.append_ #[22, 22] 22 #[(SlV.val s_7), (SlV.val (SlV.mk (some (⟨b_8, 0, none⟩ : Addr)) 1 1))]) w_7 SlV.val fun r_9 w_8 =>
 next__6 r_9 w_8) (
 loopP (SlV × Int) (s_7, (7 : Int)) w_6 fun next__10 _ s_11 w_9 =>
 cond' (decide (s_11.2 ≥ (0 : Int))) (
 chkP (decide (0 ≤ (IntKind.u64.wrap (IntKind.i64.wrap ((8 : Int) * s_11.2))))) <|
 newP w_9 (.cells #[(.int .u8 (IntKind.u8.wrap (Int.fdiv (IntKind.u64.wrap (IntKind.i64.wrap ((8 : Int) * (m.len : Int)))) (2 ^ (min (Int.toNat (IntKind.u64.wrap (IntKind.i64.wrap ((8 : Int) * s_11.2)))) IntKind.u64.bits)))))] 5) fun b_12 w_10 =>
 runP P (Builtin.append_ #[22, 22] 22 #[(SlV.val s_11.1), (SlV.val (SlV.mk (some (⟨b_12, 0, none⟩ : Addr)) 1 1))]) w_10 SlV.val fun r_13 w_11 =>
 next__10 (r_13, (IntKind.i64.wrap (s_11.2 - (1 : Int)))) w_11) (
 newP w_9 (.cells ((arrV .u32) (List.replicate 8 0)).cells 91) fun b_14 w_12 =>
 storeP w_12 (⟨b_14, 0, none⟩ : Addr) 8 ((arrV .u32) ([(1779033703 : Int), (3144134277 : Int), (1013904242 : Int), (2773480762 : Int), (1359893119 : Int), (2600822924 : Int), (528734635 : Int), (1541459225 : Int)])) fun w_13 =>
 loopP (Int) (0 : Int) w_13 fun next__15 _ s_16 w_14 =>
 cond' (decide (s_16 < (s_11.1.len : Int))) (
 newP w_14 (.cells ((arrV .u32) (List.replicate 64 0)).cells 98) fun b_17 w_15 =>
 loopP (Int) (0 : Int) w_15 fun next__18 _ s_19 w_16 =>
 cond' (decide (s_19 < (64 : Int))) (
 cond' (decide (s_19 < (16 : Int))) (
 loopP (Int) (0 : Int) w_16 fun next__20 _ s_21 w_17 =>
 cond' (decide (s_21 < (4 : Int))) (
 chkP (inR s_19 64) <|
 loadP w_17.drew ((⟨b_17, 0, none⟩ : Addr).add (Int.toNat s_19 * 1)) 1 (Value.int .u32) fun v_22 =>
 chkP (inR (IntKind.i64.wrap ((IntKind.i64.wrap (s_16 + (IntKind.i64.wrap ((4 : Int) * s_19)))) + s_21)) s_11.1.len) <|
 nilP s_11.1.a fun a_23 =>
 loadP w_17.drew (a_23.add (Int.toNat (IntKind.i64.wrap ((IntKind.i64.wrap (s_16 + (IntKind.i64.wrap ((4 : Int) * s_19)))) + s_21)) * 1)) 1 (Value.int .u8) fun v_24 =>
 chkP (inR s_19 64) <|
 storeP w_17.drew ((⟨b_17, 0, none⟩ : Addr).add (Int.toNat s_19 * 1)) 1 (.int .u32 (IntKind.u32.wrap ((IntKind.u32.wrap ((256 : Int) * v_22)) + (IntKind.u32.wrap v_24)))) fun w_18 =>
 next__20 (IntKind.i64.wrap (s_21 + (1 : Int))) w_18) (
 next__18 (IntKind.i64.wrap (s_19 + (1 : Int))) w_17)) (
 chkP (inR (IntKind.i64.wrap (s_19 - (15 : Int))) 64) <|
 loadP w_16.drew ((⟨b_17, 0, none⟩ : Addr).add (Int.toNat (IntKind.i64.wrap (s_19 - (15 : Int))) * 1)) 1 (Value.int .u32) fun v_25 =>
 chkP (inR (IntKind.i64.wrap (s_19 - (15 : Int))) 64) <|
 loadP w_16.drew ((⟨b_17, 0, none⟩ : Addr).add (Int.toNat (IntKind.i64.wrap (s_19 - (15 : Int))) * 1)) 1 (Value.int .u32) fun v_26 =>
 chkP (inR (IntKind.i64.wrap (s_19 - (15 : Int))) 64) <|
 loadP w_16.drew ((⟨b_17, 0, none⟩ : Addr).add (Int.toNat (IntKind.i64.wrap (s_19 - (15 : Int))) * 1)) 1 (Value.int .u32) fun v_27 =>
 callP P 45 #[(.int .u32 v_25), (.int .u64 (7 : Int))] w_16.drew (Value.int .u32) fun r_28 w_19 =>
 Holds w_19 ((⟨b_17, 0, none⟩ : Addr).add (Int.toNat (IntKind.i64.wrap (s_19 - (15 : Int))) * 1)) 1 (.int .u32 v_27) ∧ (
 Holds w_19 ((⟨b_17, 0, none⟩ : Addr).add (Int.toNat (IntKind.i64.wrap (s_19 - (15 : Int))) * 1)) 1 (.int .u32 v_26) ∧ (
 callP P 45 #[(.int .u32 v_26), (.int .u64 (18 : Int))] w_19 (Value.int .u32) fun r_29 w_20 =>
 Holds w_20 ((⟨b_17, 0, none⟩ : Addr).add (Int.toNat (IntKind.i64.wrap (s_19 - (15 : Int))) * 1)) 1 (.int .u32 v_27) ∧ (
 chkP (inR (IntKind.i64.wrap (s_19 - (2 : Int))) 64) <|
 loadP w_20.drew ((⟨b_17, 0, none⟩ : Addr).add (Int.toNat (IntKind.i64.wrap (s_19 - (2 : Int))) * 1)) 1 (Value.int .u32) fun v_30 =>
 chkP (inR (IntKind.i64.wrap (s_19 - (2 : Int))) 64) <|
 loadP w_20.drew ((⟨b_17, 0, none⟩ : Addr).add (Int.toNat (IntKind.i64.wrap (s_19 - (2 : Int))) * 1)) 1 (Value.int .u32) fun v_31 =>
 chkP (inR (IntKind.i64.wrap (s_19 - (2 : Int))) 64) <|
 loadP w_20.drew ((⟨b_17, 0, none⟩ : Addr).add (Int.toNat (IntKind.i64.wrap (s_19 - (2 : Int))) * 1)) 1 (Value.int .u32) fun v_32 =>
 callP P 45 #[(.int .u32 v_30), (.int .u64 (17 : Int))] w_20.drew (Value.int .u32) fun r_33 w_21 =>
 Holds w_21 ((⟨b_17, 0, none⟩ : Addr).add (Int.toNat (IntKind.i64.wrap (s_19 - (2 : Int))) * 1)) 1 (.int .u32 v_32) ∧ (
 Holds w_21 ((⟨b_17, 0, none⟩ : Addr).add (Int.toNat (IntKind.i64.wrap (s_19 - (2 : Int))) * 1)) 1 (.int .u32 v_31) ∧ (
 callP P 45 #[(.int .u32 v_31), (.int .u64 (19 : Int))] w_21 (Value.int .u32) fun r_34 w_22 =>
 Holds w_22 ((⟨b_17, 0, none⟩ : Addr).add (Int.toNat (IntKind.i64.wrap (s_19 - (2 : Int))) * 1)) 1 (.int .u32 v_32) ∧ (
 chkP (inR (IntKind.i64.wrap (s_19 - (7 : Int))) 64) <|
 loadP w_22.drew ((⟨b_17, 0, none⟩ : Addr).add (Int.toNat (IntKind.i64.wrap (s_19 - (7 : Int))) * 1)) 1 (Value.int .u32) fun v_35 =>
 chkP (inR (IntKind.i64.wrap (s_19 - (16 : Int))) 64) <|
 loadP w_22.drew ((⟨b_17, 0, none⟩ : Addr).add (Int.toNat (IntKind.i64.wrap (s_19 - (16 : Int))) * 1)) 1 (Value.int .u32) fun v_36 =>
 chkP (inR s_19 64) <|
 storeP w_22.drew ((⟨b_17, 0, none⟩ : Addr).add (Int.toNat s_19 * 1)) 1 (.int .u32 (IntKind.u32.wrap ((IntKind.u32.wrap ((IntKind.u32.wrap ((bits .xor .u32 (bits .xor .u32 r_33 r_34) (Int.fdiv v_32 (2 ^ (min (Int.toNat (10 : Int)) IntKind.u32.bits)))) + v_35)) + (bits .xor .u32 (bits .xor .u32 r_28 r_29) (Int.fdiv v_27 (2 ^ (min (Int.toNat (3 : Int)) IntKind.u32.bits)))))) + v_36))) fun w_23 =>
 next__18 (IntKind.i64.wrap (s_19 + (1 : Int))) w_23)))))))) (
 loadP w_16 (⟨b_14, 0, none⟩ : Addr) 8 (arrV .u32) fun v_37 =>
 newP w_16 (.cells ((arrV .u32) (List.replicate 8 0)).cells 91) fun b_38 w_24 =>
 storeP w_24 (⟨b_38, 0, none⟩ : Addr) 8 ((arrV .u32) v_37) fun w_25 =>
 loopP (Int) (0 : Int) w_25 fun next__39 _ s_40 w_26 =>
 cond' (decide (s_40 < (64 : Int))) (
 loadP w_26 ((⟨b_38, 0, none⟩ : Addr).add (Int.toNat (4 : Int) * 1)) 1 (Value.int .u32) fun v_41 =>
 loadP w_26 ((⟨b_38, 0, none⟩ : Addr).add (Int.toNat (5 : Int) * 1)) 1 (Value.int .u32) fun v_42 =>
 loadP w_26 ((⟨b_38, 0, none⟩ : Addr).add (Int.toNat (4 : Int) * 1)) 1 (Value.int .u32) fun v_43 =>
 loadP w_26 ((⟨b_38, 0, none⟩ : Addr).add (Int.toNat (6 : Int) * 1)) 1 (Value.int .u32) fun v_44 =>
 loadP w_26 ((⟨b_38, 0, none⟩ : Addr).add (Int.toNat (0 : Int) * 1)) 1 (Value.int .u32) fun v_45 =>
 loadP w_26 ((⟨b_38, 0, none⟩ : Addr).add (Int.toNat (1 : Int) * 1)) 1 (Value.int .u32) fun v_46 =>
 loadP w_26 ((⟨b_38, 0, none⟩ : Addr).add (Int.toNat (0 : Int) * 1)) 1 (Value.int .u32) fun v_47 =>
 loadP w_26 ((⟨b_38, 0, none⟩ : Addr).add (Int.toNat (2 : Int) * 1)) 1 (Value.int .u32) fun v_48 =>
 loadP w_26 ((⟨b_38, 0, none⟩ : Addr).add (Int.toNat (1 : Int) * 1)) 1 (Value.int .u32) fun v_49 =>
 loadP w_26 ((⟨b_38, 0, none⟩ : Addr).add (Int.toNat (2 : Int) * 1)) 1 (Value.int .u32) fun v_50 =>
 loadP w_26.drew ((⟨b_38, 0, none⟩ : Addr).add (Int.toNat (7 : Int) * 1)) 1 (Value.int .u32) fun v_51 =>
 loadP w_26.drew ((⟨b_38, 0, none⟩ : Addr).add (Int.toNat (4 : Int) * 1)) 1 (Value.int .u32) fun v_52 =>
 loadP w_26.drew ((⟨b_38, 0, none⟩ : Addr).add (Int.toNat (4 : Int) * 1)) 1 (Value.int .u32) fun v_53 =>
 loadP w_26.drew ((⟨b_38, 0, none⟩ : Addr).add (Int.toNat (4 : Int) * 1)) 1 (Value.int .u32) fun v_54 =>
 chkP (inR s_40 64) <|
 loadP w_26.drew ((⟨b_17, 0, none⟩ : Addr).add (Int.toNat s_40 * 1)) 1 (Value.int .u32) fun v_55 =>
 callP P 45 #[(.int .u32 v_52), (.int .u64 (6 : Int))] w_26.drew (Value.int .u32) fun r_56 w_27 =>
 Holds w_27 ((⟨b_17, 0, none⟩ : Addr).add (Int.toNat s_40 * 1)) 1 (.int .u32 v_55) ∧ (
 Holds w_27 ((⟨b_38, 0, none⟩ : Addr).add (Int.toNat (4 : Int) * 1)) 1 (.int .u32 v_54) ∧ (
 Holds w_27 ((⟨b_38, 0, none⟩ : Addr).add (Int.toNat (4 : Int) * 1)) 1 (.int .u32 v_53) ∧ (
 Holds w_27 ((⟨b_38, 0, none⟩ : Addr).add (Int.toNat (7 : Int) * 1)) 1 (.int .u32 v_51) ∧ (
 callP P 45 #[(.int .u32 v_53), (.int .u64 (11 : Int))] w_27 (Value.int .u32) fun r_57 w_28 =>
 Holds w_28 ((⟨b_38, 0, none⟩ : Addr).add (Int.toNat (7 : Int) * 1)) 1 (.int .u32 v_51) ∧ (
 Holds w_28 ((⟨b_38, 0, none⟩ : Addr).add (Int.toNat (4 : Int) * 1)) 1 (.int .u32 v_54) ∧ (
 Holds w_28 ((⟨b_17, 0, none⟩ : Addr).add (Int.toNat s_40 * 1)) 1 (.int .u32 v_55) ∧ (
 callP P 45 #[(.int .u32 v_54), (.int .u64 (25 : Int))] w_28 (Value.int .u32) fun r_58 w_29 =>
 Holds w_29 ((⟨b_17, 0, none⟩ : Addr).add (Int.toNat s_40 * 1)) 1 (.int .u32 v_55) ∧ (
 Holds w_29 ((⟨b_38, 0, none⟩ : Addr).add (Int.toNat (7 : Int) * 1)) 1 (.int .u32 v_51) ∧ (
 callP P 46 #[(.int .i64 s_40)] w_29 (Value.int .u32) fun r_59 w_30 =>
 Holds w_30 ((⟨b_38, 0, none⟩ : Addr).add (Int.toNat (7 : Int) * 1)) 1 (.int .u32 v_51) ∧ (
 Holds w_30 ((⟨b_17, 0, none⟩ : Addr).add (Int.toNat s_40 * 1)) 1 (.int .u32 v_55) ∧ (
 loadP w_30.drew ((⟨b_38, 0, none⟩ : Addr).add (Int.toNat (0 : Int) * 1)) 1 (Value.int .u32) fun v_60 =>
 loadP w_30.drew ((⟨b_38, 0, none⟩ : Addr).add (Int.toNat (0 : Int) * 1)) 1 (Value.int .u32) fun v_61 =>
 loadP w_30.drew ((⟨b_38, 0, none⟩ : Addr).add (Int.toNat (0 : Int) * 1)) 1 (Value.int .u32) fun v_62 =>
 callP P 45 #[(.int .u32 v_60), (.int .u64 (2 : Int))] w_30.drew (Value.int .u32) fun r_63 w_31 =>
 Holds w_31 ((⟨b_38, 0, none⟩ : Addr).add (Int.toNat (0 : Int) * 1)) 1 (.int .u32 v_62) ∧ (
 Holds w_31 ((⟨b_38, 0, none⟩ : Addr).add (Int.toNat (0 : Int) * 1)) 1 (.int .u32 v_61) ∧ (
 callP P 45 #[(.int .u32 v_61), (.int .u64 (13 : Int))] w_31 (Value.int .u32) fun r_64 w_32 =>
 Holds w_32 ((⟨b_38, 0, none⟩ : Addr).add (Int.toNat (0 : Int) * 1)) 1 (.int .u32 v_62) ∧ (
 callP P 45 #[(.int .u32 v_62), (.int .u64 (22 : Int))] w_32 (Value.int .u32) fun r_65 w_33 =>
 loadP w_33 ((⟨b_38, 0, none⟩ : Addr).add (Int.toNat (0 : Int) * 1)) 1 (Value.int .u32) fun v_66 =>
 loadP w_33 ((⟨b_38, 0, none⟩ : Addr).add (Int.toNat (1 : Int) * 1)) 1 (Value.int .u32) fun v_67 =>
 loadP w_33 ((⟨b_38, 0, none⟩ : Addr).add (Int.toNat (2 : Int) * 1)) 1 (Value.int .u32) fun v_68 =>
 loadP w_33 ((⟨b_38, 0, none⟩ : Addr).add (Int.toNat (3 : Int) * 1)) 1 (Value.int .u32) fun v_69 =>
 loadP w_33 ((⟨b_38, 0, none⟩ : Addr).add (Int.toNat (4 : Int) * 1)) 1 (Value.int .u32) fun v_70 =>
 loadP w_33 ((⟨b_38, 0, none⟩ : Addr).add (Int.toNat (5 : Int) * 1)) 1 (Value.int .u32) fun v_71 =>
 loadP w_33 ((⟨b_38, 0, none⟩ : Addr).add (Int.toNat (6 : Int) * 1)) 1 (Value.int .u32) fun v_72 =>
 storeP w_33 (⟨b_38, 0, none⟩ : Addr) 8 ((arrV .u32) ([(IntKind.u32.wrap ((IntKind.u32.wrap ((IntKind.u32.wrap ((IntKind.u32.wrap ((IntKind.u32.wrap (v_51 + (bits .xor .u32 (bits .xor .u32 r_56 r_57) r_58))) + (bits .or .u32 (bits .and .u32 v_41 v_42) (bits .and .u32 (IntKind.u32.wrap ((4294967295 : Int) - v_43)) v_44)))) + r_59)) + v_55)) + (IntKind.u32.wrap ((bits .xor .u32 (bits .xor .u32 r_63 r_64) r_65) + (bits .or .u32 (bits .or .u32 (bits .and .u32 v_45 v_46) (bits .and .u32 v_47 v_48)) (bits .and .u32 v_49 v_50)))))), v_66, v_67, v_68, (IntKind.u32.wrap (v_69 + (IntKind.u32.wrap ((IntKind.u32.wrap ((IntKind.u32.wrap ((IntKind.u32.wrap (v_51 + (bits .xor .u32 (bits .xor .u32 r_56 r_57) r_58))) + (bits .or .u32 (bits .and .u32 v_41 v_42) (bits .and .u32 (IntKind.u32.wrap ((4294967295 : Int) - v_43)) v_44)))) + r_59)) + v_55)))), v_70, v_71, v_72])) fun w_34 =>
 next__39 (IntKind.i64.wrap (s_40 + (1 : Int))) w_34))))))))))))))) (
 loopP (Int) (0 : Int) w_26 fun next__73 _ s_74 w_35 =>
 cond' (decide (s_74 < (8 : Int))) (
 chkP (inR s_74 8) <|
 loadP w_35.drew ((⟨b_14, 0, none⟩ : Addr).add (Int.toNat s_74 * 1)) 1 (Value.int .u32) fun v_75 =>
 chkP (inR s_74 8) <|
 loadP w_35.drew ((⟨b_38, 0, none⟩ : Addr).add (Int.toNat s_74 * 1)) 1 (Value.int .u32) fun v_76 =>
 chkP (inR s_74 8) <|
 storeP w_35.drew ((⟨b_14, 0, none⟩ : Addr).add (Int.toNat s_74 * 1)) 1 (.int .u32 (IntKind.u32.wrap (v_75 + v_76))) fun w_36 =>
 next__73 (IntKind.i64.wrap (s_74 + (1 : Int))) w_36) (
 next__15 (IntKind.i64.wrap (s_16 + (64 : Int))) w_35)))) (
 newP w_14 (.cells ((arrV .u8) (List.replicate 32 0)).cells 25) fun b_77 w_37 =>
 loopP (Int) (0 : Int) w_37 fun next__78 _ s_79 w_38 =>
 cond' (decide (s_79 < (32 : Int))) (
 chkP (inR (IntKind.i64.wrap (Int.tdiv s_79 (4 : Int))) 8) <|
 loadP w_38 ((⟨b_14, 0, none⟩ : Addr).add (Int.toNat (IntKind.i64.wrap (Int.tdiv s_79 (4 : Int))) * 1)) 1 (Value.int .u32) fun v_80 =>
 chkP (decide (0 ≤ (IntKind.u64.wrap (IntKind.i64.wrap ((24 : Int) - (IntKind.i64.wrap ((8 : Int) * (Int.tmod s_79 (4 : Int))))))))) <|
 chkP (inR s_79 32) <|
 storeP w_38 ((⟨b_77, 0, none⟩ : Addr).add (Int.toNat s_79 * 1)) 1 (.int .u8 (IntKind.u8.wrap (Int.fdiv v_80 (2 ^ (min (Int.toNat (IntKind.u64.wrap (IntKind.i64.wrap ((24 : Int) - (IntKind.i64.wrap ((8 : Int) * (Int.tmod s_79 (4 : Int)))))))) IntKind.u32.bits))))) fun w_39 =>
 next__78 (IntKind.i64.wrap (s_79 + (1 : Int))) w_39) (
 loadP w_38 (⟨b_77, 0, none⟩ : Addr) 32 (arrV .u8) fun v_81 =>
 storeP w_38 (⟨b_1, 0, none⟩ : Addr) 32 ((arrV .u8) v_81) fun w_40 =>
 loadP w_40 (⟨b_1, 0, none⟩ : Addr) 32 (arrV .u8) fun v_82 =>
 unArrP .u8 ((arrV .u8) v_82) fun z_83 =>
 R z_83 w_40))))
def an19 : Ann := mkAnn [(3, [(3, shSl)]), (6, [(3, shSl), (4, (shInt .i64))]), (11, [(6, (shInt .i64))]), (15, [(8, (shInt .i64))]), (19, [(9, (shInt .i64))]), (27, [(13, (shInt .i64))]), (35, [(18, (shInt .i64))]), (40, [(20, (shInt .i64))])] []
theorem sf19_eq (m : SlV) (w0 : World) (R : (List Int) → World → Prop) : sf19 m w0 R = vcFn P sh an19 Try.f19 [(SlV.val m)] (shArr .u8) w0 R := by kernel_rfl
theorem nm19 : (Try.f19.name == "runtime.NumGoroutine") = false := by kernel_rfl
theorem sf19_call (m : SlV) (w0 : World) (R : (List Int) → World → Prop) (hsf : sf19 m w0 R) : callP P 19 #[(SlV.val m)] w0 (shArr .u8).val R :=
  vcFn_sound mixed Try.func19 nm19 (Eq.mp (sf19_eq m w0 R) hsf)

/-- flume/mac.Same -/
def sf20 (a : List Int) (b : List Int) (w0 : World) (R : Bool → World → Prop) : Prop :=
 newP w0 (.cells ((arrV .u8) a).cells 25) fun b_1 w_1 =>
 newP w_1 (.cells ((arrV .u8) b).cells 25) fun b_2 w_2 =>
 loadP w_2 (⟨b_1, 0, none⟩ : Addr) 32 (arrV .u8) fun v_3 =>
 loadP w_2 (⟨b_2, 0, none⟩ : Addr) 32 (arrV .u8) fun v_4 =>
 eqArrP 32 .u8 ((arrV .u8) v_3) ((arrV .u8) v_4) fun b_5 =>
 R (negB false b_5) w_2
def an20 : Ann := mkAnn [] []
theorem sf20_eq (a : List Int) (b : List Int) (w0 : World) (R : Bool → World → Prop) : sf20 a b w0 R = vcFn P sh an20 Try.f20 [((arrV .u8) a), ((arrV .u8) b)] shBool w0 R := by kernel_rfl
theorem nm20 : (Try.f20.name == "runtime.NumGoroutine") = false := by kernel_rfl
theorem sf20_call (a : List Int) (b : List Int) (w0 : World) (R : Bool → World → Prop) (hsf : sf20 a b w0 R) : callP P 20 #[((arrV .u8) a), ((arrV .u8) b)] w0 shBool.val R :=
  vcFn_sound mixed Try.func20 nm20 (Eq.mp (sf20_eq a b w0 R) hsf)

/-- flume/flumelaw09.first -/
def sf21 (w0 : World) (R : Bool → World → Prop) : Prop :=
 newP w0 (.cells #[(.int .u8 (107 : Int))] 5) fun b_1 w_1 =>
 runP P (convert 22 22 (SlV.val (SlV.mk (some (⟨b_1, 0, none⟩ : Addr)) 1 1))) w_1 SlV.val fun r_2 w_2 =>
 callP P 22 #[(SlV.val r_2), (CookieV.val ({ Tag := (7 : Int), Peer := 0, Tsn := 0, PeerTsn := 0, Window := 0, Out := 0, In := 0, Features := 0, Made := (100 : Int), TieTag := 0, TiePeer := 0 } : CookieV))] w_2 SlV.val fun r_3 w_3 =>
 newP w_3 (.cells #[(.int .u8 (107 : Int))] 5) fun b_4 w_4 =>
 runP P (convert 22 22 (SlV.val (SlV.mk (some (⟨b_4, 0, none⟩ : Addr)) 1 1))) w_4 SlV.val fun r_5 w_5 =>
 callP P 23 #[(SlV.val r_5), (SlV.val r_3), (.int .u32 (700 : Int))] w_5 (tup2V CookieV.val (Value.int .i64)) fun r_6 w_6 =>
 newP w_6 (.cells (CookieV.val ({ Tag := 0, Peer := 0, Tsn := 0, PeerTsn := 0, Window := 0, Out := 0, In := 0, Features := 0, Made := 0, TieTag := 0, TiePeer := 0 } : CookieV)).cells 36) fun b_7 w_7 =>
 storeP w_7 (⟨b_7, 0, none⟩ : Addr) 11 (CookieV.val r_6.1) fun w_8 =>
 newP w_8 (.cells #[(.int .u8 (107 : Int))] 5) fun b_8 w_9 =>
 runP P (convert 22 22 (SlV.val (SlV.mk (some (⟨b_8, 0, none⟩ : Addr)) 1 1))) w_9 SlV.val fun r_9 w_10 =>
 callP P 23 #[(SlV.val r_9), (SlV.val r_3), (.int .u32 (701 : Int))] w_10 (tup2V CookieV.val (Value.int .i64)) fun r_10 w_11 =>
 newP w_11 (.cells (CookieV.val ({ Tag := 0, Peer := 0, Tsn := 0, PeerTsn := 0, Window := 0, Out := 0, In := 0, Features := 0, Made := 0, TieTag := 0, TiePeer := 0 } : CookieV)).cells 36) fun b_11 w_12 =>
 storeP w_12 (⟨b_11, 0, none⟩ : Addr) 11 (CookieV.val r_10.1) fun w_13 =>
 cond' ((r_3.len : Int) != (70 : Int)) (
 R false w_13) (
 newP w_13 (.cells #[(.int .u8 (107 : Int))] 5) fun b_12 w_14 =>
 runP P (convert 22 22 (SlV.val (SlV.mk (some (⟨b_12, 0, none⟩ : Addr)) 1 1))) w_14 SlV.val fun r_13 w_15 =>
 chkP (leR (r_3.len : Int) (r_3.cap : Int)) <|
 chkP (leR (1 : Int) (r_3.len : Int)) <|
 callP P 23 #[(SlV.val r_13), (SlV.val (SlV.sub r_3 (1) (r_3.len) r_3.cap 1)), (.int .u32 (700 : Int))] w_15 (tup2V CookieV.val (Value.int .i64)) fun r_14 w_16 =>
 newP w_16 (.cells (CookieV.val ({ Tag := 0, Peer := 0, Tsn := 0, PeerTsn := 0, Window := 0, Out := 0, In := 0, Features := 0, Made := 0, TieTag := 0, TiePeer := 0 } : CookieV)).cells 36) fun b_15 w_17 =>
 storeP w_17 (⟨b_15, 0, none⟩ : Addr) 11 (CookieV.val r_14.1) fun w_18 =>
 cond' (r_6.2 == (0 : Int)) (
 loadP w_18 ((⟨b_7, 0, none⟩ : Addr).add 0) 1 (Value.int .u32) fun v_17 =>
 cond' (v_17 == (7 : Int)) (
 cond' (r_10.2 == (91 : Int)) (
 R (r_14.2 == (40 : Int)) w_18) (
 R false w_18)) (
 R false w_18)) (
 R false w_18))
def an21 : Ann := mkAnn [] []
theorem sf21_eq (w0 : World) (R : Bool → World → Prop) : sf21 w0 R = vcFn P sh an21 Try.f21 [] shBool w0 R := by kernel_rfl
theorem nm21 : (Try.f21.name == "runtime.NumGoroutine") = false := by kernel_rfl
theorem sf21_call (w0 : World) (R : Bool → World → Prop) (hsf : sf21 w0 R) : callP P 21 #[] w0 shBool.val R :=
  vcFn_sound mixed Try.func21 nm21 (Eq.mp (sf21_eq w0 R) hsf)

/-- flume/cookie.Make -/
def sf22 (key : SlV) (c : CookieV) (w0 : World) (R : SlV → World → Prop) : Prop :=
 newP w0 (.cells (CookieV.val c).cells 36) fun b_1 w_1 =>
 newP w_1 (.cells (WriterV.val ({ b := SlV.nil } : WriterV)).cells 102) fun b_2 w_2 =>
 loadP w_2 ((⟨b_1, 0, none⟩ : Addr).add 0) 1 (Value.int .u32) fun v_3 =>
 loadP w_2 ((⟨b_1, 0, none⟩ : Addr).add 1) 1 (Value.int .u32) fun v_4 =>
 loadP w_2 ((⟨b_1, 0, none⟩ : Addr).add 2) 1 (Value.int .u32) fun v_5 =>
 loadP w_2 ((⟨b_1, 0, none⟩ : Addr).add 3) 1 (Value.int .u32) fun v_6 =>
 loadP w_2 ((⟨b_1, 0, none⟩ : Addr).add 4) 1 (Value.int .u32) fun v_7 =>
 newP w_2 (.cells #[(.int .u32 v_3), (.int .u32 v_4), (.int .u32 v_5), (.int .u32 v_6), (.int .u32 v_7)] 33) fun b_8 w_3 =>
 loopP (Int) (0 : Int) w_3 fun next__9 _ s_10 w_4 =>
 cond' (decide (s_10 < (5 : Int))) (
 chkP (inR s_10 5) <|
 loadP w_4 ((⟨b_8, 0, none⟩ : Addr).add (Int.toNat s_10 * 1)) 1 (Value.int .u32) fun v_11 =>
 callP P 47 #[(.pointer (some (⟨b_2, 0, none⟩ : Addr))), (.int .u32 v_11)] w_4 unitV fun r_12 w_5 =>
 next__9 (IntKind.i64.wrap (s_10 + (1 : Int))) w_5) (
 loadP w_4 ((⟨b_1, 0, none⟩ : Addr).add 5) 1 (Value.int .u16) fun v_13 =>
 callP P 48 #[(.pointer (some (⟨b_2, 0, none⟩ : Addr))), (.int .u16 v_13)] w_4 unitV fun r_14 w_6 =>
 loadP w_6 ((⟨b_1, 0, none⟩ : Addr).add 6) 1 (Value.int .u16) fun v_15 =>
 callP P 48 #[(.pointer (some (⟨b_2, 0, none⟩ : Addr))), (.int .u16 v_15)] w_6 unitV fun r_16 w_7 =>
 loadP w_7 ((⟨b_1, 0, none⟩ : Addr).add 7) 1 (Value.int .u8) fun v_17 =>
 callP P 49 #[(.pointer (some (⟨b_2, 0, none⟩ : Addr))), (.int .u8 v_17)] w_7 unitV fun r_18 w_8 =>
 callP P 49 #[(.pointer (some (⟨b_2, 0, none⟩ : Addr))), (.int .u8 (0 : Int))] w_8 unitV fun r_19 w_9 =>
 loadP w_9 ((⟨b_1, 0, none⟩ : Addr).add 8) 1 (Value.int .u32) fun v_20 =>
 loadP w_9 ((⟨b_1, 0, none⟩ : Addr).add 9) 1 (Value.int .u32) fun v_21 =>
 loadP w_9 ((⟨b_1, 0, none⟩ : Addr).add 10) 1 (Value.int .u32) fun v_22 =>
 newP w_9 (.cells #[(.int .u32 v_20), (.int .u32 v_21), (.int .u32 v_22)] 33) fun b_23 w_10 =>
 loopP (Int) (0 : Int) w_10 fun next__24 _ s_25 w_11 =>
 cond' (decide (s_25 < (3 : Int))) (
 chkP (inR s_25 3) <|
 loadP w_11 ((⟨b_23, 0, none⟩ : Addr).add (Int.toNat s_25 * 1)) 1 (Value.int .u32) fun v_26 =>
 callP P 47 #[(.pointer (some (⟨b_2, 0, none⟩ : Addr))), (.int .u32 v_26)] w_11 unitV fun r_27 w_12 =>
 next__24 (IntKind.i64.wrap (s_25 + (1 : Int))) w_12) (
 callP P 50 #[(.pointer (some (⟨b_2, 0, none⟩ : Addr)))] w_11 SlV.val fun r_28 w_13 =>
 newP w_13 (.cells #[(SlV.val r_28)] 22) fun b_29 w_14 =>
 callP P 16 #[(SlV.val key), (SlV.val (SlV.mk (some (⟨b_29, 0, none⟩ : Addr)) 1 1))] w_14 (arrV .u8) fun r_30 w_15 =>
 newP w_15 (.cells ((arrV .u8) (List.replicate 32 0)).cells 25) fun b_31 w_16 =>
 storeP w_16 (⟨b_31, 0, none⟩ : Addr) 32 ((arrV .u8) r_30) fun w_17 =>
 callP P 51 #[(.pointer (some (⟨b_2, 0, none⟩ : Addr))), (SlV.val (arrSub (⟨b_31, 0, none⟩ : Addr) 0 32 32 1))] w_17 unitV fun r_32 w_18 =>
 callP P 50 #[(.pointer (some (⟨b_2, 0, none⟩ : Addr)))] w_18 SlV.val fun r_33 w_19 =>
 R r_33 w_19))
def an22 : Ann := mkAnn [(4, [(25, (shInt .i64))]), (13, [(51, (shInt .i64))])] []
theorem sf22_eq (key : SlV) (c : CookieV) (w0 : World) (R : SlV → World → Prop) : sf22 key c w0 R = vcFn P sh an22 Try.f22 [(SlV.val key), (CookieV.val c)] shSl w0 R := by kernel_rfl
theorem nm22 : (Try.f22.name == "runtime.NumGoroutine") = false := by kernel_rfl
theorem sf22_call (key : SlV) (c : CookieV) (w0 : World) (R : SlV → World → Prop) (hsf : sf22 key c w0 R) : callP P 22 #[(SlV.val key), (CookieV.val c)] w0 shSl.val R :=
  vcFn_sound mixed Try.func22 nm22 (Eq.mp (sf22_eq key c w0 R) hsf)

end Go.Vc.SA

/-
  The shapes of the values of this program. No condition.
-/
import Derived.Test.YtbcmfajacbpaiaaProg
import Derived.Test.YtbcmfajacbpaiaaVcShapes
set_option linter.all false
set_option linter.unusedVariables false
namespace Go.Vc.SB
open Go.Proofs
noncomputable abbrev P : Program := Try.prog
theorem mixed : P.follows .mixedOrders = true := by kernel_rfl
def lookL.{u} {α : Type u} (l : List (Nat × α)) (i : Nat) : Option α :=
  match l with
  | [] => none
  | (j, x) :: r => match Nat.beq i j with | true => some x | false => lookL r i
def mkAnn (ls cs : List (Nat × Live)) : Ann := ⟨fun i => match lookL ls i with | some l => l | none => [], lookL cs⟩
structure Arr3SlV where
  e0 : SlV
  e1 : SlV
  e2 : SlV
def Arr3SlV.val (x : Arr3SlV) : Value := .agg #[SlV.val x.e0, SlV.val x.e1, SlV.val x.e2]
def Arr3SlV.zero : Arr3SlV := { e0 := SlV.nil, e1 := SlV.nil, e2 := SlV.nil }
def Arr3SlV.un (v : Value) (K : Arr3SlV → Prop) : Prop :=
  match v with
  | .agg ⟨[v0, v1, v2]⟩ => shSl.un v0 fun x0 => shSl.un v1 fun x1 => shSl.un v2 fun x2 => K (Arr3SlV.mk x0 x1 x2)
  | _ => False
theorem Arr3SlV.un_ex (v : Value) (K : Arr3SlV → Prop) (h : Arr3SlV.un v K) : ∃ x : Arr3SlV, v = x.val ∧ K x := by
  unfold Arr3SlV.un at h
  split at h
  · obtain ⟨x0, rfl, h0⟩ := shSl.sound _ _ h
    obtain ⟨x1, rfl, h1⟩ := shSl.sound _ _ h0
    obtain ⟨x2, rfl, h2⟩ := shSl.sound _ _ h1
    exact ⟨(Arr3SlV.mk x0 x1 x2), rfl, h2⟩
  · exact h.elim
def shArr3SlV : Sh := ⟨Arr3SlV.val, Arr3SlV.un, Arr3SlV.un_ex⟩

structure LimitV where
  Kind : Int
  N : Int
def LimitV.val (x : LimitV) : Value := .agg #[(Value.int .i64) x.Kind, (Value.int .u32) x.N]
def LimitV.zero : LimitV := { Kind := 0, N := 0 }
def LimitV.un (v : Value) (K : LimitV → Prop) : Prop :=
  match v with
  | .agg ⟨[v0, v1]⟩ => (shInt .i64).un v0 fun x0 => (shInt .u32).un v1 fun x1 => K (LimitV.mk x0 x1)
  | _ => False
theorem LimitV.un_ex (v : Value) (K : LimitV → Prop) (h : LimitV.un v K) : ∃ x : LimitV, v = x.val ∧ K x := by
  unfold LimitV.un at h
  split at h
  · obtain ⟨x0, rfl, h0⟩ := (shInt .i64).sound _ _ h
    obtain ⟨x1, rfl, h1⟩ := (shInt .u32).sound _ _ h0
    exact ⟨(LimitV.mk x0 x1), rfl, h1⟩
  · exact h.elim
def shLimitV : Sh := ⟨LimitV.val, LimitV.un, LimitV.un_ex⟩

structure MessageV where
  Stream : Int
  Loose : Bool
  Mid : Int
  Ppid : Int
  Body : SlV
def MessageV.val (x : MessageV) : Value := .agg #[(Value.int .u16) x.Stream, Value.bool x.Loose, (Value.int .u32) x.Mid, (Value.int .u32) x.Ppid, SlV.val x.Body]
def MessageV.zero : MessageV := { Stream := 0, Loose := false, Mid := 0, Ppid := 0, Body := SlV.nil }
def MessageV.un (v : Value) (K : MessageV → Prop) : Prop :=
  match v with
  | .agg ⟨[v0, v1, v2, v3, v4]⟩ => (shInt .u16).un v0 fun x0 => shBool.un v1 fun x1 => (shInt .u32).un v2 fun x2 => (shInt .u32).un v3 fun x3 => shSl.un v4 fun x4 => K (MessageV.mk x0 x1 x2 x3 x4)
  | _ => False
theorem MessageV.un_ex (v : Value) (K : MessageV → Prop) (h : MessageV.un v K) : ∃ x : MessageV, v = x.val ∧ K x := by
  unfold MessageV.un at h
  split at h
  · obtain ⟨x0, rfl, h0⟩ := (shInt .u16).sound _ _ h
    obtain ⟨x1, rfl, h1⟩ := shBool.sound _ _ h0
    obtain ⟨x2, rfl, h2⟩ := (shInt .u32).sound _ _ h1
    obtain ⟨x3, rfl, h3⟩ := (shInt .u32).sound _ _ h2
    obtain ⟨x4, rfl, h4⟩ := shSl.sound _ _ h3
    exact ⟨(MessageV.mk x0 x1 x2 x3 x4), rfl, h4⟩
  · exact h.elim
def shMessageV : Sh := ⟨MessageV.val, MessageV.un, MessageV.un_ex⟩

structure ChunkV where
  Kind : Int
  Begin : Bool
  End : Bool
  Loose : Bool
  Bare : Bool
  Tsn : Int
  Stream : Int
  Mid : Int
  Ppid : Int
  Frag : Int
  Tag : Int
  Window : Int
  Out : Int
  In : Int
  Gaps : SlV
  Dups : SlV
  Skips : SlV
  Params : SlV
  Body : SlV
def ChunkV.val (x : ChunkV) : Value := .agg #[(Value.int .u8) x.Kind, Value.bool x.Begin, Value.bool x.End, Value.bool x.Loose, Value.bool x.Bare, (Value.int .u32) x.Tsn, (Value.int .u16) x.Stream, (Value.int .u32) x.Mid, (Value.int .u32) x.Ppid, (Value.int .u32) x.Frag, (Value.int .u32) x.Tag, (Value.int .u32) x.Window, (Value.int .u16) x.Out, (Value.int .u16) x.In, SlV.val x.Gaps, SlV.val x.Dups, SlV.val x.Skips, SlV.val x.Params, SlV.val x.Body]
def ChunkV.zero : ChunkV := { Kind := 0, Begin := false, End := false, Loose := false, Bare := false, Tsn := 0, Stream := 0, Mid := 0, Ppid := 0, Frag := 0, Tag := 0, Window := 0, Out := 0, In := 0, Gaps := SlV.nil, Dups := SlV.nil, Skips := SlV.nil, Params := SlV.nil, Body := SlV.nil }
def ChunkV.un (v : Value) (K : ChunkV → Prop) : Prop :=
  match v with
  | .agg ⟨[v0, v1, v2, v3, v4, v5, v6, v7, v8, v9, v10, v11, v12, v13, v14, v15, v16, v17, v18]⟩ => (shInt .u8).un v0 fun x0 => shBool.un v1 fun x1 => shBool.un v2 fun x2 => shBool.un v3 fun x3 => shBool.un v4 fun x4 => (shInt .u32).un v5 fun x5 => (shInt .u16).un v6 fun x6 => (shInt .u32).un v7 fun x7 => (shInt .u32).un v8 fun x8 => (shInt .u32).un v9 fun x9 => (shInt .u32).un v10 fun x10 => (shInt .u32).un v11 fun x11 => (shInt .u16).un v12 fun x12 => (shInt .u16).un v13 fun x13 => shSl.un v14 fun x14 => shSl.un v15 fun x15 => shSl.un v16 fun x16 => shSl.un v17 fun x17 => shSl.un v18 fun x18 => K (ChunkV.mk x0 x1 x2 x3 x4 x5 x6 x7 x8 x9 x10 x11 x12 x13 x14 x15 x16 x17 x18)
  | _ => False
theorem ChunkV.un_ex (v : Value) (K : ChunkV → Prop) (h : ChunkV.un v K) : ∃ x : ChunkV, v = x.val ∧ K x := by
  unfold ChunkV.un at h
  split at h
  · obtain ⟨x0, rfl, h0⟩ := (shInt .u8).sound _ _ h
    obtain ⟨x1, rfl, h1⟩ := shBool.sound _ _ h0
    obtain ⟨x2, rfl, h2⟩ := shBool.sound _ _ h1
    obtain ⟨x3, rfl, h3⟩ := shBool.sound _ _ h2
    obtain ⟨x4, rfl, h4⟩ := shBool.sound _ _ h3
    obtain ⟨x5, rfl, h5⟩ := (shInt .u32).sound _ _ h4
    obtain ⟨x6, rfl, h6⟩ := (shInt .u16).sound _ _ h5
    obtain ⟨x7, rfl, h7⟩ := (shInt .u32).sound _ _ h6
    obtain ⟨x8, rfl, h8⟩ := (shInt .u32).sound _ _ h7
    obtain ⟨x9, rfl, h9⟩ := (shInt .u32).sound _ _ h8
    obtain ⟨x10, rfl, h10⟩ := (shInt .u32).sound _ _ h9
    obtain ⟨x11, rfl, h11⟩ := (shInt .u32).sound _ _ h10
    obtain ⟨x12, rfl, h12⟩ := (shInt .u16).sound _ _ h11
    obtain ⟨x13, rfl, h13⟩ := (shInt .u16).sound _ _ h12
    obtain ⟨x14, rfl, h14⟩ := shSl.sound _ _ h13
    obtain ⟨x15, rfl, h15⟩ := shSl.sound _ _ h14
    obtain ⟨x16, rfl, h16⟩ := shSl.sound _ _ h15
    obtain ⟨x17, rfl, h17⟩ := shSl.sound _ _ h16
    obtain ⟨x18, rfl, h18⟩ := shSl.sound _ _ h17
    exact ⟨(ChunkV.mk x0 x1 x2 x3 x4 x5 x6 x7 x8 x9 x10 x11 x12 x13 x14 x15 x16 x17 x18), rfl, h18⟩
  · exact h.elim
def shChunkV : Sh := ⟨ChunkV.val, ChunkV.un, ChunkV.un_ex⟩

structure Arr2SlV where
  e0 : SlV
  e1 : SlV
def Arr2SlV.val (x : Arr2SlV) : Value := .agg #[SlV.val x.e0, SlV.val x.e1]
def Arr2SlV.zero : Arr2SlV := { e0 := SlV.nil, e1 := SlV.nil }
def Arr2SlV.un (v : Value) (K : Arr2SlV → Prop) : Prop :=
  match v with
  | .agg ⟨[v0, v1]⟩ => shSl.un v0 fun x0 => shSl.un v1 fun x1 => K (Arr2SlV.mk x0 x1)
  | _ => False
theorem Arr2SlV.un_ex (v : Value) (K : Arr2SlV → Prop) (h : Arr2SlV.un v K) : ∃ x : Arr2SlV, v = x.val ∧ K x := by
  unfold Arr2SlV.un at h
  split at h
  · obtain ⟨x0, rfl, h0⟩ := shSl.sound _ _ h
    obtain ⟨x1, rfl, h1⟩ := shSl.sound _ _ h0
    exact ⟨(Arr2SlV.mk x0 x1), rfl, h1⟩
  · exact h.elim
def shArr2SlV : Sh := ⟨Arr2SlV.val, Arr2SlV.un, Arr2SlV.un_ex⟩

structure ParamV where
  Kind : Int
  Value_ : SlV
def ParamV.val (x : ParamV) : Value := .agg #[(Value.int .u16) x.Kind, SlV.val x.Value_]
def ParamV.zero : ParamV := { Kind := 0, Value_ := SlV.nil }
def ParamV.un (v : Value) (K : ParamV → Prop) : Prop :=
  match v with
  | .agg ⟨[v0, v1]⟩ => (shInt .u16).un v0 fun x0 => shSl.un v1 fun x1 => K (ParamV.mk x0 x1)
  | _ => False
theorem ParamV.un_ex (v : Value) (K : ParamV → Prop) (h : ParamV.un v K) : ∃ x : ParamV, v = x.val ∧ K x := by
  unfold ParamV.un at h
  split at h
  · obtain ⟨x0, rfl, h0⟩ := (shInt .u16).sound _ _ h
    obtain ⟨x1, rfl, h1⟩ := shSl.sound _ _ h0
    exact ⟨(ParamV.mk x0 x1), rfl, h1⟩
  · exact h.elim
def shParamV : Sh := ⟨ParamV.val, ParamV.un, ParamV.un_ex⟩

structure HeardV where
  Reply : Option Addr
  In : SlV
  All : Bool
  Done : SlV
def HeardV.val (x : HeardV) : Value := .agg #[Value.pointer x.Reply, SlV.val x.In, Value.bool x.All, SlV.val x.Done]
def HeardV.zero : HeardV := { Reply := none, In := SlV.nil, All := false, Done := SlV.nil }
def HeardV.un (v : Value) (K : HeardV → Prop) : Prop :=
  match v with
  | .agg ⟨[v0, v1, v2, v3]⟩ => shPtr.un v0 fun x0 => shSl.un v1 fun x1 => shBool.un v2 fun x2 => shSl.un v3 fun x3 => K (HeardV.mk x0 x1 x2 x3)
  | _ => False
theorem HeardV.un_ex (v : Value) (K : HeardV → Prop) (h : HeardV.un v K) : ∃ x : HeardV, v = x.val ∧ K x := by
  unfold HeardV.un at h
  split at h
  · obtain ⟨x0, rfl, h0⟩ := shPtr.sound _ _ h
    obtain ⟨x1, rfl, h1⟩ := shSl.sound _ _ h0
    obtain ⟨x2, rfl, h2⟩ := shBool.sound _ _ h1
    obtain ⟨x3, rfl, h3⟩ := shSl.sound _ _ h2
    exact ⟨(HeardV.mk x0 x1 x2 x3), rfl, h3⟩
  · exact h.elim
def shHeardV : Sh := ⟨HeardV.val, HeardV.un, HeardV.un_ex⟩

structure Flumeref18_EngineV where
  Mine : Int
  Theirs : Int
  Wanted : SlV
  Open : SlV
  Last : Int
  Seen : Int
def Flumeref18_EngineV.val (x : Flumeref18_EngineV) : Value := .agg #[(Value.int .u32) x.Mine, (Value.int .u32) x.Theirs, SlV.val x.Wanted, SlV.val x.Open, (Value.int .u32) x.Last, (Value.int .u32) x.Seen]
def Flumeref18_EngineV.zero : Flumeref18_EngineV := { Mine := 0, Theirs := 0, Wanted := SlV.nil, Open := SlV.nil, Last := 0, Seen := 0 }
def Flumeref18_EngineV.un (v : Value) (K : Flumeref18_EngineV → Prop) : Prop :=
  match v with
  | .agg ⟨[v0, v1, v2, v3, v4, v5]⟩ => (shInt .u32).un v0 fun x0 => (shInt .u32).un v1 fun x1 => shSl.un v2 fun x2 => shSl.un v3 fun x3 => (shInt .u32).un v4 fun x4 => (shInt .u32).un v5 fun x5 => K (Flumeref18_EngineV.mk x0 x1 x2 x3 x4 x5)
  | _ => False
theorem Flumeref18_EngineV.un_ex (v : Value) (K : Flumeref18_EngineV → Prop) (h : Flumeref18_EngineV.un v K) : ∃ x : Flumeref18_EngineV, v = x.val ∧ K x := by
  unfold Flumeref18_EngineV.un at h
  split at h
  · obtain ⟨x0, rfl, h0⟩ := (shInt .u32).sound _ _ h
    obtain ⟨x1, rfl, h1⟩ := (shInt .u32).sound _ _ h0
    obtain ⟨x2, rfl, h2⟩ := shSl.sound _ _ h1
    obtain ⟨x3, rfl, h3⟩ := shSl.sound _ _ h2
    obtain ⟨x4, rfl, h4⟩ := (shInt .u32).sound _ _ h3
    obtain ⟨x5, rfl, h5⟩ := (shInt .u32).sound _ _ h4
    exact ⟨(Flumeref18_EngineV.mk x0 x1 x2 x3 x4 x5), rfl, h5⟩
  · exact h.elim
def shFlumeref18_EngineV : Sh := ⟨Flumeref18_EngineV.val, Flumeref18_EngineV.un, Flumeref18_EngineV.un_ex⟩

structure OpV where
  Kind : Int
  Streams : SlV
  Tsn : Int
  P_ : ParamV
def OpV.val (x : OpV) : Value := .agg #[(Value.int .i64) x.Kind, SlV.val x.Streams, (Value.int .u32) x.Tsn, (Value.int .u16) x.P_.Kind, SlV.val x.P_.Value_]
def OpV.zero : OpV := { Kind := 0, Streams := SlV.nil, Tsn := 0, P_ := ParamV.zero }
def OpV.un (v : Value) (K : OpV → Prop) : Prop :=
  match v with
  | .agg ⟨[v0, v1, v2, v3, v4]⟩ => (shInt .i64).un v0 fun x0 => shSl.un v1 fun x1 => (shInt .u32).un v2 fun x2 => (shInt .u16).un v3 fun x3 => shSl.un v4 fun x4 => K (OpV.mk x0 x1 x2 (ParamV.mk x3 x4))
  | _ => False
theorem OpV.un_ex (v : Value) (K : OpV → Prop) (h : OpV.un v K) : ∃ x : OpV, v = x.val ∧ K x := by
  unfold OpV.un at h
  split at h
  · obtain ⟨x0, rfl, h0⟩ := (shInt .i64).sound _ _ h
    obtain ⟨x1, rfl, h1⟩ := shSl.sound _ _ h0
    obtain ⟨x2, rfl, h2⟩ := (shInt .u32).sound _ _ h1
    obtain ⟨x3, rfl, h3⟩ := (shInt .u16).sound _ _ h2
    obtain ⟨x4, rfl, h4⟩ := shSl.sound _ _ h3
    exact ⟨(OpV.mk x0 x1 x2 (ParamV.mk x3 x4)), rfl, h4⟩
  · exact h.elim
def shOpV : Sh := ⟨OpV.val, OpV.un, OpV.un_ex⟩

structure OutV where
  Number : Int
  Result : Int
  In : SlV
  Done : SlV
  All : Bool
def OutV.val (x : OutV) : Value := .agg #[(Value.int .u32) x.Number, (Value.int .i64) x.Result, SlV.val x.In, SlV.val x.Done, Value.bool x.All]
def OutV.zero : OutV := { Number := 0, Result := 0, In := SlV.nil, Done := SlV.nil, All := false }
def OutV.un (v : Value) (K : OutV → Prop) : Prop :=
  match v with
  | .agg ⟨[v0, v1, v2, v3, v4]⟩ => (shInt .u32).un v0 fun x0 => (shInt .i64).un v1 fun x1 => shSl.un v2 fun x2 => shSl.un v3 fun x3 => shBool.un v4 fun x4 => K (OutV.mk x0 x1 x2 x3 x4)
  | _ => False
theorem OutV.un_ex (v : Value) (K : OutV → Prop) (h : OutV.un v K) : ∃ x : OutV, v = x.val ∧ K x := by
  unfold OutV.un at h
  split at h
  · obtain ⟨x0, rfl, h0⟩ := (shInt .u32).sound _ _ h
    obtain ⟨x1, rfl, h1⟩ := (shInt .i64).sound _ _ h0
    obtain ⟨x2, rfl, h2⟩ := shSl.sound _ _ h1
    obtain ⟨x3, rfl, h3⟩ := shSl.sound _ _ h2
    obtain ⟨x4, rfl, h4⟩ := shBool.sound _ _ h3
    exact ⟨(OutV.mk x0 x1 x2 x3 x4), rfl, h4⟩
  · exact h.elim
def shOutV : Sh := ⟨OutV.val, OutV.un, OutV.un_ex⟩

structure SkipV where
  Stream : Int
  Loose : Bool
  Mid : Int
def SkipV.val (x : SkipV) : Value := .agg #[(Value.int .u16) x.Stream, Value.bool x.Loose, (Value.int .u32) x.Mid]
def SkipV.zero : SkipV := { Stream := 0, Loose := false, Mid := 0 }
def SkipV.un (v : Value) (K : SkipV → Prop) : Prop :=
  match v with
  | .agg ⟨[v0, v1, v2]⟩ => (shInt .u16).un v0 fun x0 => shBool.un v1 fun x1 => (shInt .u32).un v2 fun x2 => K (SkipV.mk x0 x1 x2)
  | _ => False
theorem SkipV.un_ex (v : Value) (K : SkipV → Prop) (h : SkipV.un v K) : ∃ x : SkipV, v = x.val ∧ K x := by
  unfold SkipV.un at h
  split at h
  · obtain ⟨x0, rfl, h0⟩ := (shInt .u16).sound _ _ h
    obtain ⟨x1, rfl, h1⟩ := shBool.sound _ _ h0
    obtain ⟨x2, rfl, h2⟩ := (shInt .u32).sound _ _ h1
    exact ⟨(SkipV.mk x0 x1 x2), rfl, h2⟩
  · exact h.elim
def shSkipV : Sh := ⟨SkipV.val, SkipV.un, SkipV.un_ex⟩

structure QueueV where
  inter : Bool
  items : Option Nat
  turns : SlV
  held : Bool
  numbers : Option Nat
  all : Int
def QueueV.val (x : QueueV) : Value := .agg #[Value.bool x.inter, Value.map x.items, SlV.val x.turns, Value.bool x.held, Value.map x.numbers, (Value.int .i64) x.all]
def QueueV.zero : QueueV := { inter := false, items := none, turns := SlV.nil, held := false, numbers := none, all := 0 }
def QueueV.un (v : Value) (K : QueueV → Prop) : Prop :=
  match v with
  | .agg ⟨[v0, v1, v2, v3, v4, v5]⟩ => shBool.un v0 fun x0 => shMap.un v1 fun x1 => shSl.un v2 fun x2 => shBool.un v3 fun x3 => shMap.un v4 fun x4 => (shInt .i64).un v5 fun x5 => K (QueueV.mk x0 x1 x2 x3 x4 x5)
  | _ => False
theorem QueueV.un_ex (v : Value) (K : QueueV → Prop) (h : QueueV.un v K) : ∃ x : QueueV, v = x.val ∧ K x := by
  unfold QueueV.un at h
  split at h
  · obtain ⟨x0, rfl, h0⟩ := shBool.sound _ _ h
    obtain ⟨x1, rfl, h1⟩ := shMap.sound _ _ h0
    obtain ⟨x2, rfl, h2⟩ := shSl.sound _ _ h1
    obtain ⟨x3, rfl, h3⟩ := shBool.sound _ _ h2
    obtain ⟨x4, rfl, h4⟩ := shMap.sound _ _ h3
    obtain ⟨x5, rfl, h5⟩ := (shInt .i64).sound _ _ h4
    exact ⟨(QueueV.mk x0 x1 x2 x3 x4 x5), rfl, h5⟩
  · exact h.elim
def shQueueV : Sh := ⟨QueueV.val, QueueV.un, QueueV.un_ex⟩

structure JoinerV where
  inter : Bool
  parts : Option Nat
  pieces : Option Nat
  wait : Option Nat
  next_ : Option Nat
  ready : SlV
def JoinerV.val (x : JoinerV) : Value := .agg #[Value.bool x.inter, Value.map x.parts, Value.map x.pieces, Value.map x.wait, Value.map x.next_, SlV.val x.ready]
def JoinerV.zero : JoinerV := { inter := false, parts := none, pieces := none, wait := none, next_ := none, ready := SlV.nil }
def JoinerV.un (v : Value) (K : JoinerV → Prop) : Prop :=
  match v with
  | .agg ⟨[v0, v1, v2, v3, v4, v5]⟩ => shBool.un v0 fun x0 => shMap.un v1 fun x1 => shMap.un v2 fun x2 => shMap.un v3 fun x3 => shMap.un v4 fun x4 => shSl.un v5 fun x5 => K (JoinerV.mk x0 x1 x2 x3 x4 x5)
  | _ => False
theorem JoinerV.un_ex (v : Value) (K : JoinerV → Prop) (h : JoinerV.un v K) : ∃ x : JoinerV, v = x.val ∧ K x := by
  unfold JoinerV.un at h
  split at h
  · obtain ⟨x0, rfl, h0⟩ := shBool.sound _ _ h
    obtain ⟨x1, rfl, h1⟩ := shMap.sound _ _ h0
    obtain ⟨x2, rfl, h2⟩ := shMap.sound _ _ h1
    obtain ⟨x3, rfl, h3⟩ := shMap.sound _ _ h2
    obtain ⟨x4, rfl, h4⟩ := shMap.sound _ _ h3
    obtain ⟨x5, rfl, h5⟩ := shSl.sound _ _ h4
    exact ⟨(JoinerV.mk x0 x1 x2 x3 x4 x5), rfl, h5⟩
  · exact h.elim
def shJoinerV : Sh := ⟨JoinerV.val, JoinerV.un, JoinerV.un_ex⟩

structure ItemV where
  id : Int
  l : LimitV
  m : MessageV
  begun : Bool
  frag : Int
def ItemV.val (x : ItemV) : Value := .agg #[(Value.int .i64) x.id, (Value.int .i64) x.l.Kind, (Value.int .u32) x.l.N, (Value.int .u16) x.m.Stream, Value.bool x.m.Loose, (Value.int .u32) x.m.Mid, (Value.int .u32) x.m.Ppid, SlV.val x.m.Body, Value.bool x.begun, (Value.int .u32) x.frag]
def ItemV.zero : ItemV := { id := 0, l := LimitV.zero, m := MessageV.zero, begun := false, frag := 0 }
def ItemV.un (v : Value) (K : ItemV → Prop) : Prop :=
  match v with
  | .agg ⟨[v0, v1, v2, v3, v4, v5, v6, v7, v8, v9]⟩ => (shInt .i64).un v0 fun x0 => (shInt .i64).un v1 fun x1 => (shInt .u32).un v2 fun x2 => (shInt .u16).un v3 fun x3 => shBool.un v4 fun x4 => (shInt .u32).un v5 fun x5 => (shInt .u32).un v6 fun x6 => shSl.un v7 fun x7 => shBool.un v8 fun x8 => (shInt .u32).un v9 fun x9 => K (ItemV.mk x0 (LimitV.mk x1 x2) (MessageV.mk x3 x4 x5 x6 x7) x8 x9)
  | _ => False
theorem ItemV.un_ex (v : Value) (K : ItemV → Prop) (h : ItemV.un v K) : ∃ x : ItemV, v = x.val ∧ K x := by
  unfold ItemV.un at h
  split at h
  · obtain ⟨x0, rfl, h0⟩ := (shInt .i64).sound _ _ h
    obtain ⟨x1, rfl, h1⟩ := (shInt .i64).sound _ _ h0
    obtain ⟨x2, rfl, h2⟩ := (shInt .u32).sound _ _ h1
    obtain ⟨x3, rfl, h3⟩ := (shInt .u16).sound _ _ h2
    obtain ⟨x4, rfl, h4⟩ := shBool.sound _ _ h3
    obtain ⟨x5, rfl, h5⟩ := (shInt .u32).sound _ _ h4
    obtain ⟨x6, rfl, h6⟩ := (shInt .u32).sound _ _ h5
    obtain ⟨x7, rfl, h7⟩ := shSl.sound _ _ h6
    obtain ⟨x8, rfl, h8⟩ := shBool.sound _ _ h7
    obtain ⟨x9, rfl, h9⟩ := (shInt .u32).sound _ _ h8
    exact ⟨(ItemV.mk x0 (LimitV.mk x1 x2) (MessageV.mk x3 x4 x5 x6 x7) x8 x9), rfl, h9⟩
  · exact h.elim
def shItemV : Sh := ⟨ItemV.val, ItemV.un, ItemV.un_ex⟩

structure KeyV where
  stream : Int
  loose : Bool
  mid : Int
def KeyV.val (x : KeyV) : Value := .agg #[(Value.int .u16) x.stream, Value.bool x.loose, (Value.int .u32) x.mid]
def KeyV.zero : KeyV := { stream := 0, loose := false, mid := 0 }
def KeyV.un (v : Value) (K : KeyV → Prop) : Prop :=
  match v with
  | .agg ⟨[v0, v1, v2]⟩ => (shInt .u16).un v0 fun x0 => shBool.un v1 fun x1 => (shInt .u32).un v2 fun x2 => K (KeyV.mk x0 x1 x2)
  | _ => False
theorem KeyV.un_ex (v : Value) (K : KeyV → Prop) (h : KeyV.un v K) : ∃ x : KeyV, v = x.val ∧ K x := by
  unfold KeyV.un at h
  split at h
  · obtain ⟨x0, rfl, h0⟩ := (shInt .u16).sound _ _ h
    obtain ⟨x1, rfl, h1⟩ := shBool.sound _ _ h0
    obtain ⟨x2, rfl, h2⟩ := (shInt .u32).sound _ _ h1
    exact ⟨(KeyV.mk x0 x1 x2), rfl, h2⟩
  · exact h.elim
def shKeyV : Sh := ⟨KeyV.val, KeyV.un, KeyV.un_ex⟩

structure IntakeV where
  inter : Bool
  set_ : Option Addr
  j : Option Addr
  dups : SlV
def IntakeV.val (x : IntakeV) : Value := .agg #[Value.bool x.inter, Value.pointer x.set_, Value.pointer x.j, SlV.val x.dups]
def IntakeV.zero : IntakeV := { inter := false, set_ := none, j := none, dups := SlV.nil }
def IntakeV.un (v : Value) (K : IntakeV → Prop) : Prop :=
  match v with
  | .agg ⟨[v0, v1, v2, v3]⟩ => shBool.un v0 fun x0 => shPtr.un v1 fun x1 => shPtr.un v2 fun x2 => shSl.un v3 fun x3 => K (IntakeV.mk x0 x1 x2 x3)
  | _ => False
theorem IntakeV.un_ex (v : Value) (K : IntakeV → Prop) (h : IntakeV.un v K) : ∃ x : IntakeV, v = x.val ∧ K x := by
  unfold IntakeV.un at h
  split at h
  · obtain ⟨x0, rfl, h0⟩ := shBool.sound _ _ h
    obtain ⟨x1, rfl, h1⟩ := shPtr.sound _ _ h0
    obtain ⟨x2, rfl, h2⟩ := shPtr.sound _ _ h1
    obtain ⟨x3, rfl, h3⟩ := shSl.sound _ _ h2
    exact ⟨(IntakeV.mk x0 x1 x2 x3), rfl, h3⟩
  · exact h.elim
def shIntakeV : Sh := ⟨IntakeV.val, IntakeV.un, IntakeV.un_ex⟩

structure GapV where
  From : Int
  To : Int
def GapV.val (x : GapV) : Value := .agg #[(Value.int .u16) x.From, (Value.int .u16) x.To]
def GapV.zero : GapV := { From := 0, To := 0 }
def GapV.un (v : Value) (K : GapV → Prop) : Prop :=
  match v with
  | .agg ⟨[v0, v1]⟩ => (shInt .u16).un v0 fun x0 => (shInt .u16).un v1 fun x1 => K (GapV.mk x0 x1)
  | _ => False
theorem GapV.un_ex (v : Value) (K : GapV → Prop) (h : GapV.un v K) : ∃ x : GapV, v = x.val ∧ K x := by
  unfold GapV.un at h
  split at h
  · obtain ⟨x0, rfl, h0⟩ := (shInt .u16).sound _ _ h
    obtain ⟨x1, rfl, h1⟩ := (shInt .u16).sound _ _ h0
    exact ⟨(GapV.mk x0 x1), rfl, h1⟩
  · exact h.elim
def shGapV : Sh := ⟨GapV.val, GapV.un, GapV.un_ex⟩

structure AckedV where
  Bytes : Int
  On : Bool
  Lost : Bool
  Rtt : Int
  Bad : Bool
def AckedV.val (x : AckedV) : Value := .agg #[(Value.int .i64) x.Bytes, Value.bool x.On, Value.bool x.Lost, (Value.int .i64) x.Rtt, Value.bool x.Bad]
def AckedV.zero : AckedV := { Bytes := 0, On := false, Lost := false, Rtt := 0, Bad := false }
def AckedV.un (v : Value) (K : AckedV → Prop) : Prop :=
  match v with
  | .agg ⟨[v0, v1, v2, v3, v4]⟩ => (shInt .i64).un v0 fun x0 => shBool.un v1 fun x1 => shBool.un v2 fun x2 => (shInt .i64).un v3 fun x3 => shBool.un v4 fun x4 => K (AckedV.mk x0 x1 x2 x3 x4)
  | _ => False
theorem AckedV.un_ex (v : Value) (K : AckedV → Prop) (h : AckedV.un v K) : ∃ x : AckedV, v = x.val ∧ K x := by
  unfold AckedV.un at h
  split at h
  · obtain ⟨x0, rfl, h0⟩ := (shInt .i64).sound _ _ h
    obtain ⟨x1, rfl, h1⟩ := shBool.sound _ _ h0
    obtain ⟨x2, rfl, h2⟩ := shBool.sound _ _ h1
    obtain ⟨x3, rfl, h3⟩ := (shInt .i64).sound _ _ h2
    obtain ⟨x4, rfl, h4⟩ := shBool.sound _ _ h3
    exact ⟨(AckedV.mk x0 x1 x2 x3 x4), rfl, h4⟩
  · exact h.elim
def shAckedV : Sh := ⟨AckedV.val, AckedV.un, AckedV.un_ex⟩

structure FlightV where
  mark : Int
  pieces : SlV
  gone : Option Nat
def FlightV.val (x : FlightV) : Value := .agg #[(Value.int .u32) x.mark, SlV.val x.pieces, Value.map x.gone]
def FlightV.zero : FlightV := { mark := 0, pieces := SlV.nil, gone := none }
def FlightV.un (v : Value) (K : FlightV → Prop) : Prop :=
  match v with
  | .agg ⟨[v0, v1, v2]⟩ => (shInt .u32).un v0 fun x0 => shSl.un v1 fun x1 => shMap.un v2 fun x2 => K (FlightV.mk x0 x1 x2)
  | _ => False
theorem FlightV.un_ex (v : Value) (K : FlightV → Prop) (h : FlightV.un v K) : ∃ x : FlightV, v = x.val ∧ K x := by
  unfold FlightV.un at h
  split at h
  · obtain ⟨x0, rfl, h0⟩ := (shInt .u32).sound _ _ h
    obtain ⟨x1, rfl, h1⟩ := shSl.sound _ _ h0
    obtain ⟨x2, rfl, h2⟩ := shMap.sound _ _ h1
    exact ⟨(FlightV.mk x0 x1 x2), rfl, h2⟩
  · exact h.elim
def shFlightV : Sh := ⟨FlightV.val, FlightV.un, FlightV.un_ex⟩

structure PieceV where
  c : ChunkV
  m : Int
  l : LimitV
  sent : Int
  at_ : Int
  missed : Int
  how : Int
def PieceV.val (x : PieceV) : Value := .agg #[(Value.int .u8) x.c.Kind, Value.bool x.c.Begin, Value.bool x.c.End, Value.bool x.c.Loose, Value.bool x.c.Bare, (Value.int .u32) x.c.Tsn, (Value.int .u16) x.c.Stream, (Value.int .u32) x.c.Mid, (Value.int .u32) x.c.Ppid, (Value.int .u32) x.c.Frag, (Value.int .u32) x.c.Tag, (Value.int .u32) x.c.Window, (Value.int .u16) x.c.Out, (Value.int .u16) x.c.In, SlV.val x.c.Gaps, SlV.val x.c.Dups, SlV.val x.c.Skips, SlV.val x.c.Params, SlV.val x.c.Body, (Value.int .i64) x.m, (Value.int .i64) x.l.Kind, (Value.int .u32) x.l.N, (Value.int .u64) x.sent, (Value.int .u32) x.at_, (Value.int .i64) x.missed, (Value.int .i64) x.how]
def PieceV.zero : PieceV := { c := ChunkV.zero, m := 0, l := LimitV.zero, sent := 0, at_ := 0, missed := 0, how := 0 }
def PieceV.un (v : Value) (K : PieceV → Prop) : Prop :=
  match v with
  | .agg ⟨[v0, v1, v2, v3, v4, v5, v6, v7, v8, v9, v10, v11, v12, v13, v14, v15, v16, v17, v18, v19, v20, v21, v22, v23, v24, v25]⟩ => (shInt .u8).un v0 fun x0 => shBool.un v1 fun x1 => shBool.un v2 fun x2 => shBool.un v3 fun x3 => shBool.un v4 fun x4 => (shInt .u32).un v5 fun x5 => (shInt .u16).un v6 fun x6 => (shInt .u32).un v7 fun x7 => (shInt .u32).un v8 fun x8 => (shInt .u32).un v9 fun x9 => (shInt .u32).un v10 fun x10 => (shInt .u32).un v11 fun x11 => (shInt .u16).un v12 fun x12 => (shInt .u16).un v13 fun x13 => shSl.un v14 fun x14 => shSl.un v15 fun x15 => shSl.un v16 fun x16 => shSl.un v17 fun x17 => shSl.un v18 fun x18 => (shInt .i64).un v19 fun x19 => (shInt .i64).un v20 fun x20 => (shInt .u32).un v21 fun x21 => (shInt .u64).un v22 fun x22 => (shInt .u32).un v23 fun x23 => (shInt .i64).un v24 fun x24 => (shInt .i64).un v25 fun x25 => K (PieceV.mk (ChunkV.mk x0 x1 x2 x3 x4 x5 x6 x7 x8 x9 x10 x11 x12 x13 x14 x15 x16 x17 x18) x19 (LimitV.mk x20 x21) x22 x23 x24 x25)
  | _ => False
theorem PieceV.un_ex (v : Value) (K : PieceV → Prop) (h : PieceV.un v K) : ∃ x : PieceV, v = x.val ∧ K x := by
  unfold PieceV.un at h
  split at h
  · obtain ⟨x0, rfl, h0⟩ := (shInt .u8).sound _ _ h
    obtain ⟨x1, rfl, h1⟩ := shBool.sound _ _ h0
    obtain ⟨x2, rfl, h2⟩ := shBool.sound _ _ h1
    obtain ⟨x3, rfl, h3⟩ := shBool.sound _ _ h2
    obtain ⟨x4, rfl, h4⟩ := shBool.sound _ _ h3
    obtain ⟨x5, rfl, h5⟩ := (shInt .u32).sound _ _ h4
    obtain ⟨x6, rfl, h6⟩ := (shInt .u16).sound _ _ h5
    obtain ⟨x7, rfl, h7⟩ := (shInt .u32).sound _ _ h6
    obtain ⟨x8, rfl, h8⟩ := (shInt .u32).sound _ _ h7
    obtain ⟨x9, rfl, h9⟩ := (shInt .u32).sound _ _ h8
    obtain ⟨x10, rfl, h10⟩ := (shInt .u32).sound _ _ h9
    obtain ⟨x11, rfl, h11⟩ := (shInt .u32).sound _ _ h10
    obtain ⟨x12, rfl, h12⟩ := (shInt .u16).sound _ _ h11
    obtain ⟨x13, rfl, h13⟩ := (shInt .u16).sound _ _ h12
    obtain ⟨x14, rfl, h14⟩ := shSl.sound _ _ h13
    obtain ⟨x15, rfl, h15⟩ := shSl.sound _ _ h14
    obtain ⟨x16, rfl, h16⟩ := shSl.sound _ _ h15
    obtain ⟨x17, rfl, h17⟩ := shSl.sound _ _ h16
    obtain ⟨x18, rfl, h18⟩ := shSl.sound _ _ h17
    obtain ⟨x19, rfl, h19⟩ := (shInt .i64).sound _ _ h18
    obtain ⟨x20, rfl, h20⟩ := (shInt .i64).sound _ _ h19
    obtain ⟨x21, rfl, h21⟩ := (shInt .u32).sound _ _ h20
    obtain ⟨x22, rfl, h22⟩ := (shInt .u64).sound _ _ h21
    obtain ⟨x23, rfl, h23⟩ := (shInt .u32).sound _ _ h22
    obtain ⟨x24, rfl, h24⟩ := (shInt .i64).sound _ _ h23
    obtain ⟨x25, rfl, h25⟩ := (shInt .i64).sound _ _ h24
    exact ⟨(PieceV.mk (ChunkV.mk x0 x1 x2 x3 x4 x5 x6 x7 x8 x9 x10 x11 x12 x13 x14 x15 x16 x17 x18) x19 (LimitV.mk x20 x21) x22 x23 x24 x25), rfl, h25⟩
  · exact h.elim
def shPieceV : Sh := ⟨PieceV.val, PieceV.un, PieceV.un_ex⟩

structure Reset_EngineV where
  mine : Int
  theirs : Int
  wanted : SlV
  open_ : SlV
  request : SlV
def Reset_EngineV.val (x : Reset_EngineV) : Value := .agg #[(Value.int .u32) x.mine, (Value.int .u32) x.theirs, SlV.val x.wanted, SlV.val x.open_, SlV.val x.request]
def Reset_EngineV.zero : Reset_EngineV := { mine := 0, theirs := 0, wanted := SlV.nil, open_ := SlV.nil, request := SlV.nil }
def Reset_EngineV.un (v : Value) (K : Reset_EngineV → Prop) : Prop :=
  match v with
  | .agg ⟨[v0, v1, v2, v3, v4]⟩ => (shInt .u32).un v0 fun x0 => (shInt .u32).un v1 fun x1 => shSl.un v2 fun x2 => shSl.un v3 fun x3 => shSl.un v4 fun x4 => K (Reset_EngineV.mk x0 x1 x2 x3 x4)
  | _ => False
theorem Reset_EngineV.un_ex (v : Value) (K : Reset_EngineV → Prop) (h : Reset_EngineV.un v K) : ∃ x : Reset_EngineV, v = x.val ∧ K x := by
  unfold Reset_EngineV.un at h
  split at h
  · obtain ⟨x0, rfl, h0⟩ := (shInt .u32).sound _ _ h
    obtain ⟨x1, rfl, h1⟩ := (shInt .u32).sound _ _ h0
    obtain ⟨x2, rfl, h2⟩ := shSl.sound _ _ h1
    obtain ⟨x3, rfl, h3⟩ := shSl.sound _ _ h2
    obtain ⟨x4, rfl, h4⟩ := shSl.sound _ _ h3
    exact ⟨(Reset_EngineV.mk x0 x1 x2 x3 x4), rfl, h4⟩
  · exact h.elim
def shReset_EngineV : Sh := ⟨Reset_EngineV.val, Reset_EngineV.un, Reset_EngineV.un_ex⟩

structure WriterV where
  b : SlV
def WriterV.val (x : WriterV) : Value := .agg #[SlV.val x.b]
def WriterV.zero : WriterV := { b := SlV.nil }
def WriterV.un (v : Value) (K : WriterV → Prop) : Prop :=
  match v with
  | .agg ⟨[v0]⟩ => shSl.un v0 fun x0 => K (WriterV.mk x0)
  | _ => False
theorem WriterV.un_ex (v : Value) (K : WriterV → Prop) (h : WriterV.un v K) : ∃ x : WriterV, v = x.val ∧ K x := by
  unfold WriterV.un at h
  split at h
  · obtain ⟨x0, rfl, h0⟩ := shSl.sound _ _ h
    exact ⟨(WriterV.mk x0), rfl, h0⟩
  · exact h.elim
def shWriterV : Sh := ⟨WriterV.val, WriterV.un, WriterV.un_ex⟩

structure TapeV where
  B : SlV
  At : Int
  Bad : Bool
def TapeV.val (x : TapeV) : Value := .agg #[SlV.val x.B, (Value.int .i64) x.At, Value.bool x.Bad]
def TapeV.zero : TapeV := { B := SlV.nil, At := 0, Bad := false }
def TapeV.un (v : Value) (K : TapeV → Prop) : Prop :=
  match v with
  | .agg ⟨[v0, v1, v2]⟩ => shSl.un v0 fun x0 => (shInt .i64).un v1 fun x1 => shBool.un v2 fun x2 => K (TapeV.mk x0 x1 x2)
  | _ => False
theorem TapeV.un_ex (v : Value) (K : TapeV → Prop) (h : TapeV.un v K) : ∃ x : TapeV, v = x.val ∧ K x := by
  unfold TapeV.un at h
  split at h
  · obtain ⟨x0, rfl, h0⟩ := shSl.sound _ _ h
    obtain ⟨x1, rfl, h1⟩ := (shInt .i64).sound _ _ h0
    obtain ⟨x2, rfl, h2⟩ := shBool.sound _ _ h1
    exact ⟨(TapeV.mk x0 x1 x2), rfl, h2⟩
  · exact h.elim
def shTapeV : Sh := ⟨TapeV.val, TapeV.un, TapeV.un_ex⟩

structure CountV where
  stream : Int
  loose : Bool
def CountV.val (x : CountV) : Value := .agg #[(Value.int .u16) x.stream, Value.bool x.loose]
def CountV.zero : CountV := { stream := 0, loose := false }
def CountV.un (v : Value) (K : CountV → Prop) : Prop :=
  match v with
  | .agg ⟨[v0, v1]⟩ => (shInt .u16).un v0 fun x0 => shBool.un v1 fun x1 => K (CountV.mk x0 x1)
  | _ => False
theorem CountV.un_ex (v : Value) (K : CountV → Prop) (h : CountV.un v K) : ∃ x : CountV, v = x.val ∧ K x := by
  unfold CountV.un at h
  split at h
  · obtain ⟨x0, rfl, h0⟩ := (shInt .u16).sound _ _ h
    obtain ⟨x1, rfl, h1⟩ := shBool.sound _ _ h0
    exact ⟨(CountV.mk x0 x1), rfl, h1⟩
  · exact h.elim
def shCountV : Sh := ⟨CountV.val, CountV.un, CountV.un_ex⟩

structure SetV where
  mark : Int
  rows : SlV
def SetV.val (x : SetV) : Value := .agg #[(Value.int .u32) x.mark, SlV.val x.rows]
def SetV.zero : SetV := { mark := 0, rows := SlV.nil }
def SetV.un (v : Value) (K : SetV → Prop) : Prop :=
  match v with
  | .agg ⟨[v0, v1]⟩ => (shInt .u32).un v0 fun x0 => shSl.un v1 fun x1 => K (SetV.mk x0 x1)
  | _ => False
theorem SetV.un_ex (v : Value) (K : SetV → Prop) (h : SetV.un v K) : ∃ x : SetV, v = x.val ∧ K x := by
  unfold SetV.un at h
  split at h
  · obtain ⟨x0, rfl, h0⟩ := (shInt .u32).sound _ _ h
    obtain ⟨x1, rfl, h1⟩ := shSl.sound _ _ h0
    exact ⟨(SetV.mk x0 x1), rfl, h1⟩
  · exact h.elim
def shSetV : Sh := ⟨SetV.val, SetV.un, SetV.un_ex⟩

structure RowV where
  from_ : Int
  to_ : Int
def RowV.val (x : RowV) : Value := .agg #[(Value.int .u32) x.from_, (Value.int .u32) x.to_]
def RowV.zero : RowV := { from_ := 0, to_ := 0 }
def RowV.un (v : Value) (K : RowV → Prop) : Prop :=
  match v with
  | .agg ⟨[v0, v1]⟩ => (shInt .u32).un v0 fun x0 => (shInt .u32).un v1 fun x1 => K (RowV.mk x0 x1)
  | _ => False
theorem RowV.un_ex (v : Value) (K : RowV → Prop) (h : RowV.un v K) : ∃ x : RowV, v = x.val ∧ K x := by
  unfold RowV.un at h
  split at h
  · obtain ⟨x0, rfl, h0⟩ := (shInt .u32).sound _ _ h
    obtain ⟨x1, rfl, h1⟩ := (shInt .u32).sound _ _ h0
    exact ⟨(RowV.mk x0 x1), rfl, h1⟩
  · exact h.elim
def shRowV : Sh := ⟨RowV.val, RowV.un, RowV.un_ex⟩

structure ReaderV where
  b : SlV
  bad : Bool
def ReaderV.val (x : ReaderV) : Value := .agg #[SlV.val x.b, Value.bool x.bad]
def ReaderV.zero : ReaderV := { b := SlV.nil, bad := false }
def ReaderV.un (v : Value) (K : ReaderV → Prop) : Prop :=
  match v with
  | .agg ⟨[v0, v1]⟩ => shSl.un v0 fun x0 => shBool.un v1 fun x1 => K (ReaderV.mk x0 x1)
  | _ => False
theorem ReaderV.un_ex (v : Value) (K : ReaderV → Prop) (h : ReaderV.un v K) : ∃ x : ReaderV, v = x.val ∧ K x := by
  unfold ReaderV.un at h
  split at h
  · obtain ⟨x0, rfl, h0⟩ := shSl.sound _ _ h
    obtain ⟨x1, rfl, h1⟩ := shBool.sound _ _ h0
    exact ⟨(ReaderV.mk x0 x1), rfl, h1⟩
  · exact h.elim
def shReaderV : Sh := ⟨ReaderV.val, ReaderV.un, ReaderV.un_ex⟩

structure BoundsErrorV where
  x : Int
  y : Int
  signed : Bool
  code : Int
def BoundsErrorV.val (x : BoundsErrorV) : Value := .agg #[(Value.int .i64) x.x, (Value.int .i64) x.y, Value.bool x.signed, (Value.int .u8) x.code]
def BoundsErrorV.zero : BoundsErrorV := { x := 0, y := 0, signed := false, code := 0 }
def BoundsErrorV.un (v : Value) (K : BoundsErrorV → Prop) : Prop :=
  match v with
  | .agg ⟨[v0, v1, v2, v3]⟩ => (shInt .i64).un v0 fun x0 => (shInt .i64).un v1 fun x1 => shBool.un v2 fun x2 => (shInt .u8).un v3 fun x3 => K (BoundsErrorV.mk x0 x1 x2 x3)
  | _ => False
theorem BoundsErrorV.un_ex (v : Value) (K : BoundsErrorV → Prop) (h : BoundsErrorV.un v K) : ∃ x : BoundsErrorV, v = x.val ∧ K x := by
  unfold BoundsErrorV.un at h
  split at h
  · obtain ⟨x0, rfl, h0⟩ := (shInt .i64).sound _ _ h
    obtain ⟨x1, rfl, h1⟩ := (shInt .i64).sound _ _ h0
    obtain ⟨x2, rfl, h2⟩ := shBool.sound _ _ h1
    obtain ⟨x3, rfl, h3⟩ := (shInt .u8).sound _ _ h2
    exact ⟨(BoundsErrorV.mk x0 x1 x2 x3), rfl, h3⟩
  · exact h.elim
def shBoundsErrorV : Sh := ⟨BoundsErrorV.val, BoundsErrorV.un, BoundsErrorV.un_ex⟩

structure ErrorAddressStringV where
  msg : ByteArray
  addr : Int
def ErrorAddressStringV.val (x : ErrorAddressStringV) : Value := .agg #[Value.string x.msg, (Value.int .u64) x.addr]
def ErrorAddressStringV.zero : ErrorAddressStringV := { msg := ByteArray.empty, addr := 0 }
def ErrorAddressStringV.un (v : Value) (K : ErrorAddressStringV → Prop) : Prop :=
  match v with
  | .agg ⟨[v0, v1]⟩ => shStr.un v0 fun x0 => (shInt .u64).un v1 fun x1 => K (ErrorAddressStringV.mk x0 x1)
  | _ => False
theorem ErrorAddressStringV.un_ex (v : Value) (K : ErrorAddressStringV → Prop) (h : ErrorAddressStringV.un v K) : ∃ x : ErrorAddressStringV, v = x.val ∧ K x := by
  unfold ErrorAddressStringV.un at h
  split at h
  · obtain ⟨x0, rfl, h0⟩ := shStr.sound _ _ h
    obtain ⟨x1, rfl, h1⟩ := (shInt .u64).sound _ _ h0
    exact ⟨(ErrorAddressStringV.mk x0 x1), rfl, h1⟩
  · exact h.elim
def shErrorAddressStringV : Sh := ⟨ErrorAddressStringV.val, ErrorAddressStringV.un, ErrorAddressStringV.un_ex⟩

structure UnhashableTypeErrorV where
  typ : Option Addr
def UnhashableTypeErrorV.val (x : UnhashableTypeErrorV) : Value := .agg #[Value.pointer x.typ]
def UnhashableTypeErrorV.zero : UnhashableTypeErrorV := { typ := none }
def UnhashableTypeErrorV.un (v : Value) (K : UnhashableTypeErrorV → Prop) : Prop :=
  match v with
  | .agg ⟨[v0]⟩ => shPtr.un v0 fun x0 => K (UnhashableTypeErrorV.mk x0)
  | _ => False
theorem UnhashableTypeErrorV.un_ex (v : Value) (K : UnhashableTypeErrorV → Prop) (h : UnhashableTypeErrorV.un v K) : ∃ x : UnhashableTypeErrorV, v = x.val ∧ K x := by
  unfold UnhashableTypeErrorV.un at h
  split at h
  · obtain ⟨x0, rfl, h0⟩ := shPtr.sound _ _ h
    exact ⟨(UnhashableTypeErrorV.mk x0), rfl, h0⟩
  · exact h.elim
def shUnhashableTypeErrorV : Sh := ⟨UnhashableTypeErrorV.val, UnhashableTypeErrorV.un, UnhashableTypeErrorV.un_ex⟩

structure TypeAssertionErrorV where
  x_interface : Option Addr
  concrete : Option Addr
  asserted : Option Addr
  missingMethod : ByteArray
def TypeAssertionErrorV.val (x : TypeAssertionErrorV) : Value := .agg #[Value.pointer x.x_interface, Value.pointer x.concrete, Value.pointer x.asserted, Value.string x.missingMethod]
def TypeAssertionErrorV.zero : TypeAssertionErrorV := { x_interface := none, concrete := none, asserted := none, missingMethod := ByteArray.empty }
def TypeAssertionErrorV.un (v : Value) (K : TypeAssertionErrorV → Prop) : Prop :=
  match v with
  | .agg ⟨[v0, v1, v2, v3]⟩ => shPtr.un v0 fun x0 => shPtr.un v1 fun x1 => shPtr.un v2 fun x2 => shStr.un v3 fun x3 => K (TypeAssertionErrorV.mk x0 x1 x2 x3)
  | _ => False
theorem TypeAssertionErrorV.un_ex (v : Value) (K : TypeAssertionErrorV → Prop) (h : TypeAssertionErrorV.un v K) : ∃ x : TypeAssertionErrorV, v = x.val ∧ K x := by
  unfold TypeAssertionErrorV.un at h
  split at h
  · obtain ⟨x0, rfl, h0⟩ := shPtr.sound _ _ h
    obtain ⟨x1, rfl, h1⟩ := shPtr.sound _ _ h0
    obtain ⟨x2, rfl, h2⟩ := shPtr.sound _ _ h1
    obtain ⟨x3, rfl, h3⟩ := shStr.sound _ _ h2
    exact ⟨(TypeAssertionErrorV.mk x0 x1 x2 x3), rfl, h3⟩
  · exact h.elim
def shTypeAssertionErrorV : Sh := ⟨TypeAssertionErrorV.val, TypeAssertionErrorV.un, TypeAssertionErrorV.un_ex⟩

structure TypeV where
  Size_ : Int
  PtrBytes : Int
  Hash : Int
  TFlag : Int
  Align_ : Int
  FieldAlign_ : Int
  Kind_ : Int
  Equal : FnV
  GCData : Option Addr
  Str : Int
  PtrToThis : Int
def TypeV.val (x : TypeV) : Value := .agg #[(Value.int .u64) x.Size_, (Value.int .u64) x.PtrBytes, (Value.int .u32) x.Hash, (Value.int .u8) x.TFlag, (Value.int .u8) x.Align_, (Value.int .u8) x.FieldAlign_, (Value.int .u8) x.Kind_, FnV.val x.Equal, Value.pointer x.GCData, (Value.int .i32) x.Str, (Value.int .i32) x.PtrToThis]
def TypeV.un (v : Value) (K : TypeV → Prop) : Prop :=
  match v with
  | .agg ⟨[v0, v1, v2, v3, v4, v5, v6, v7, v8, v9, v10]⟩ => (shInt .u64).un v0 fun x0 => (shInt .u64).un v1 fun x1 => (shInt .u32).un v2 fun x2 => (shInt .u8).un v3 fun x3 => (shInt .u8).un v4 fun x4 => (shInt .u8).un v5 fun x5 => (shInt .u8).un v6 fun x6 => shFn.un v7 fun x7 => shPtr.un v8 fun x8 => (shInt .i32).un v9 fun x9 => (shInt .i32).un v10 fun x10 => K (TypeV.mk x0 x1 x2 x3 x4 x5 x6 x7 x8 x9 x10)
  | _ => False
theorem TypeV.un_ex (v : Value) (K : TypeV → Prop) (h : TypeV.un v K) : ∃ x : TypeV, v = x.val ∧ K x := by
  unfold TypeV.un at h
  split at h
  · obtain ⟨x0, rfl, h0⟩ := (shInt .u64).sound _ _ h
    obtain ⟨x1, rfl, h1⟩ := (shInt .u64).sound _ _ h0
    obtain ⟨x2, rfl, h2⟩ := (shInt .u32).sound _ _ h1
    obtain ⟨x3, rfl, h3⟩ := (shInt .u8).sound _ _ h2
    obtain ⟨x4, rfl, h4⟩ := (shInt .u8).sound _ _ h3
    obtain ⟨x5, rfl, h5⟩ := (shInt .u8).sound _ _ h4
    obtain ⟨x6, rfl, h6⟩ := (shInt .u8).sound _ _ h5
    obtain ⟨x7, rfl, h7⟩ := shFn.sound _ _ h6
    obtain ⟨x8, rfl, h8⟩ := shPtr.sound _ _ h7
    obtain ⟨x9, rfl, h9⟩ := (shInt .i32).sound _ _ h8
    obtain ⟨x10, rfl, h10⟩ := (shInt .i32).sound _ _ h9
    exact ⟨(TypeV.mk x0 x1 x2 x3 x4 x5 x6 x7 x8 x9 x10), rfl, h10⟩
  · exact h.elim
def shTypeV : Sh := ⟨TypeV.val, TypeV.un, TypeV.un_ex⟩

def shTab : List Sh := [
  shUnit,
  shFn,
  (shInt .i64),
  (shInt .i64),
  shBool,
  (shInt .u8),
  (shInt .u8),
  shBoundsErrorV,
  shBoundsErrorV,
  shStr,
  shStr,
  shStr,
  (shInt .u64),
  shErrorAddressStringV,
  shErrorAddressStringV,
  shPtr,
  shPtr,
  shPtr,
  shUnhashableTypeErrorV,
  shUnhashableTypeErrorV,
  shRaw,
  (shInt .i32),
  shSl,
  shSl,
  shFn,
  shPtr,
  shFn,
  shPtr,
  shFn,
  shSl,
  shArr3SlV,
  shSl,
  (shInt .i64),
  shFn,
  (shInt .i64),
  (shInt .u32),
  shLimitV,
  shLimitV,
  (shInt .u16),
  shMessageV,
  shMessageV,
  (shInt .u64),
  (shInt .u8),
  shSl,
  shSl,
  shSl,
  shSl,
  shChunkV,
  shChunkV,
  (shTup4 shChunkV (shInt .i64) shLimitV shBool),
  shFn,
  shFn,
  (shTup2 shMessageV shBool),
  shFn,
  shFn,
  shFn,
  shPtr,
  shFn,
  (shInt .i64),
  shFn,
  shFn,
  shFn,
  shArrB,
  shFn,
  (shArr .i64),
  shSl,
  (shTup2 shSl (shInt .i64)),
  shFn,
  shFn,
  shFn,
  shPtr,
  shFn,
  shFn,
  shFn,
  shFn,
  shPtr,
  shFn,
  shSl,
  shArr2SlV,
  (shArr .i64),
  (shArr .i64),
  shFn,
  shParamV,
  shParamV,
  (shTup2 shParamV shBool),
  shFn,
  shSl,
  shFn,
  shPtr,
  shHeardV,
  shHeardV,
  (shTup2 shHeardV (shInt .i64)),
  shFn,
  shFn,
  shSl,
  shPtr,
  shFlumeref18_EngineV,
  shFlumeref18_EngineV,
  shOpV,
  shOpV,
  shFn,
  shFn,
  (shInt .u64),
  shOutV,
  shOutV,
  (shTup2 shOutV (shInt .i64)),
  shFn,
  shFn,
  shFn,
  shFn,
  shFn,
  shFn,
  shFn,
  shSl,
  shFn,
  shSkipV,
  shSkipV,
  shFn,
  shMap,
  shMap,
  shQueueV,
  shQueueV,
  shMap,
  shMap,
  shMap,
  shMap,
  shSl,
  shJoinerV,
  shJoinerV,
  shFn,
  shSl,
  shPtr,
  shItemV,
  shItemV,
  shFn,
  shFn,
  shFn,
  shKeyV,
  shKeyV,
  shFn,
  (shTup2 shChunkV shBool),
  shFn,
  shFn,
  shFn,
  shPtr,
  shFn,
  shIntakeV,
  shIntakeV,
  shFn,
  shFn,
  shFn,
  shFn,
  shFn,
  shFn,
  shFn,
  shFn,
  shFn,
  shFn,
  shAckedV,
  shAckedV,
  shFn,
  shGapV,
  shGapV,
  shMap,
  shSl,
  shFlightV,
  shFlightV,
  shFn,
  shPtr,
  (shInt .i64),
  shPieceV,
  shPieceV,
  shFn,
  shFn,
  shFn,
  shFn,
  shFn,
  shReset_EngineV,
  shReset_EngineV,
  shFn,
  shFn,
  shWriterV,
  shWriterV,
  shFn,
  shFn,
  shPtr,
  shFn,
  shFn,
  shFn,
  shPtr,
  shTapeV,
  shTapeV,
  shFn,
  shFn,
  shFn,
  shSl,
  shFn,
  shFn,
  shFn,
  shCountV,
  shCountV,
  shFn,
  shFn,
  shSl,
  shSetV,
  shSetV,
  shFn,
  shRowV,
  shRowV,
  shFn,
  shFn,
  shFn,
  shFn,
  shFn,
  shFn,
  shFn,
  shFn,
  shFn,
  shFn,
  shFn,
  shPtr,
  shReaderV,
  shReaderV,
  shFn,
  shFn,
  shFn,
  shFn,
  shFn,
  shFn,
  shFn,
  (shTup2 (shInt .i64) shBool),
  shFn,
  shFn,
  shFn,
  shFn,
  shFn,
  shFn,
  shFn,
  (shInt .i64),
  (shTup2 (shInt .i64) (shInt .i64)),
  shFn,
  shFn,
  shFn,
  shFn,
  shFn,
  shFn,
  (shInt .i16),
  shFn,
  shFn,
  shFn,
  shFn,
  shFn,
  shFn,
  shFn,
  shFn,
  shFn,
  shFn,
  (shInt .u64),
  shFn,
  shFn,
  shFn,
  shPtr,
  shFn,
  shFn,
  shFn,
  shFn,
  shFn,
  shFn,
  shPtr,
  (shTup2 (shInt .i64) (shInt .i64)),
  shFn,
  shFn,
  shFn,
  shFn,
  shTypeAssertionErrorV,
  shTypeAssertionErrorV,
  shRaw,
  shRaw,
  shRaw,
  (shInt .u8),
  (shInt .u8),
  shFn,
  shPtr,
  (shInt .i32),
  (shInt .i32),
  shTypeV,
  shTypeV,
  shPtr]
def sh (t : TypeId) : Sh := shTab.getD t shRaw
def shX (l : List (Nat × Sh)) (t : TypeId) : Sh := match lookL l t with | some s => s | none => sh t

end Go.Vc.SB

/-
  The shapes of the values of this program. No condition.
-/
import Derived.Test.YtobldgdfejpckaaProg
import Derived.Test.YtobldgdfejpckaaVcShapes
set_option linter.all false
set_option linter.unusedVariables false
namespace Go.Vc.SA
open Go.Proofs
noncomputable abbrev P : Program := Try.prog
theorem mixed : P.follows .mixedOrders = true := by kernel_rfl
def lookL.{u} {α : Type u} (l : List (Nat × α)) (i : Nat) : Option α :=
  match l with
  | [] => none
  | (j, x) :: r => match Nat.beq i j with | true => some x | false => lookL r i
def mkAnn (ls cs : List (Nat × Live)) : Ann := ⟨fun i => match lookL ls i with | some l => l | none => [], lookL cs⟩
structure CookieV where
  Tag : Int
  Peer : Int
  Tsn : Int
  PeerTsn : Int
  Window : Int
  Out : Int
  In : Int
  Features : Int
  Made : Int
  TieTag : Int
  TiePeer : Int
def CookieV.val (x : CookieV) : Value := .agg #[(Value.int .u32) x.Tag, (Value.int .u32) x.Peer, (Value.int .u32) x.Tsn, (Value.int .u32) x.PeerTsn, (Value.int .u32) x.Window, (Value.int .u16) x.Out, (Value.int .u16) x.In, (Value.int .u8) x.Features, (Value.int .u32) x.Made, (Value.int .u32) x.TieTag, (Value.int .u32) x.TiePeer]
def CookieV.zero : CookieV := { Tag := 0, Peer := 0, Tsn := 0, PeerTsn := 0, Window := 0, Out := 0, In := 0, Features := 0, Made := 0, TieTag := 0, TiePeer := 0 }
def CookieV.un (v : Value) (K : CookieV → Prop) : Prop :=
  match v with
  | .agg ⟨[v0, v1, v2, v3, v4, v5, v6, v7, v8, v9, v10]⟩ => (shInt .u32).un v0 fun x0 => (shInt .u32).un v1 fun x1 => (shInt .u32).un v2 fun x2 => (shInt .u32).un v3 fun x3 => (shInt .u32).un v4 fun x4 => (shInt .u16).un v5 fun x5 => (shInt .u16).un v6 fun x6 => (shInt .u8).un v7 fun x7 => (shInt .u32).un v8 fun x8 => (shInt .u32).un v9 fun x9 => (shInt .u32).un v10 fun x10 => K (CookieV.mk x0 x1 x2 x3 x4 x5 x6 x7 x8 x9 x10)
  | _ => False
theorem CookieV.un_ex (v : Value) (K : CookieV → Prop) (h : CookieV.un v K) : ∃ x : CookieV, v = x.val ∧ K x := by
  unfold CookieV.un at h
  split at h
  · obtain ⟨x0, rfl, h0⟩ := (shInt .u32).sound _ _ h
    obtain ⟨x1, rfl, h1⟩ := (shInt .u32).sound _ _ h0
    obtain ⟨x2, rfl, h2⟩ := (shInt .u32).sound _ _ h1
    obtain ⟨x3, rfl, h3⟩ := (shInt .u32).sound _ _ h2
    obtain ⟨x4, rfl, h4⟩ := (shInt .u32).sound _ _ h3
    obtain ⟨x5, rfl, h5⟩ := (shInt .u16).sound _ _ h4
    obtain ⟨x6, rfl, h6⟩ := (shInt .u16).sound _ _ h5
    obtain ⟨x7, rfl, h7⟩ := (shInt .u8).sound _ _ h6
    obtain ⟨x8, rfl, h8⟩ := (shInt .u32).sound _ _ h7
    obtain ⟨x9, rfl, h9⟩ := (shInt .u32).sound _ _ h8
    obtain ⟨x10, rfl, h10⟩ := (shInt .u32).sound _ _ h9
    exact ⟨(CookieV.mk x0 x1 x2 x3 x4 x5 x6 x7 x8 x9 x10), rfl, h10⟩
  · exact h.elim
def shCookieV : Sh := ⟨CookieV.val, CookieV.un, CookieV.un_ex⟩

structure EndV where
  Tag : Int
  Tsn : Int
  Window : Int
  Inter : Bool
  Key : ByteArray
def EndV.val (x : EndV) : Value := .agg #[(Value.int .u32) x.Tag, (Value.int .u32) x.Tsn, (Value.int .u32) x.Window, Value.bool x.Inter, Value.string x.Key]
def EndV.zero : EndV := { Tag := 0, Tsn := 0, Window := 0, Inter := false, Key := ByteArray.empty }
def EndV.un (v : Value) (K : EndV → Prop) : Prop :=
  match v with
  | .agg ⟨[v0, v1, v2, v3, v4]⟩ => (shInt .u32).un v0 fun x0 => (shInt .u32).un v1 fun x1 => (shInt .u32).un v2 fun x2 => shBool.un v3 fun x3 => shStr.un v4 fun x4 => K (EndV.mk x0 x1 x2 x3 x4)
  | _ => False
theorem EndV.un_ex (v : Value) (K : EndV → Prop) (h : EndV.un v K) : ∃ x : EndV, v = x.val ∧ K x := by
  unfold EndV.un at h
  split at h
  · obtain ⟨x0, rfl, h0⟩ := (shInt .u32).sound _ _ h
    obtain ⟨x1, rfl, h1⟩ := (shInt .u32).sound _ _ h0
    obtain ⟨x2, rfl, h2⟩ := (shInt .u32).sound _ _ h1
    obtain ⟨x3, rfl, h3⟩ := shBool.sound _ _ h2
    obtain ⟨x4, rfl, h4⟩ := shStr.sound _ _ h3
    exact ⟨(EndV.mk x0 x1 x2 x3 x4), rfl, h4⟩
  · exact h.elim
def shEndV : Sh := ⟨EndV.val, EndV.un, EndV.un_ex⟩

structure ChunkV where
  Kind : Int
  Begin : Bool
  End : Bool
  Loose : Bool
  Bare : Bool
  Tsn : Int
  Stream : Int
  Mid : Int
  Ppid : Int
  Frag : Int
  Tag : Int
  Window : Int
  Out : Int
  In : Int
  Gaps : SlV
  Dups : SlV
  Skips : SlV
  Params : SlV
  Body : SlV
def ChunkV.val (x : ChunkV) : Value := .agg #[(Value.int .u8) x.Kind, Value.bool x.Begin, Value.bool x.End, Value.bool x.Loose, Value.bool x.Bare, (Value.int .u32) x.Tsn, (Value.int .u16) x.Stream, (Value.int .u32) x.Mid, (Value.int .u32) x.Ppid, (Value.int .u32) x.Frag, (Value.int .u32) x.Tag, (Value.int .u32) x.Window, (Value.int .u16) x.Out, (Value.int .u16) x.In, SlV.val x.Gaps, SlV.val x.Dups, SlV.val x.Skips, SlV.val x.Params, SlV.val x.Body]
def ChunkV.zero : ChunkV := { Kind := 0, Begin := false, End := false, Loose := false, Bare := false, Tsn := 0, Stream := 0, Mid := 0, Ppid := 0, Frag := 0, Tag := 0, Window := 0, Out := 0, In := 0, Gaps := SlV.nil, Dups := SlV.nil, Skips := SlV.nil, Params := SlV.nil, Body := SlV.nil }
def ChunkV.un (v : Value) (K : ChunkV → Prop) : Prop :=
  match v with
  | .agg ⟨[v0, v1, v2, v3, v4, v5, v6, v7, v8, v9, v10, v11, v12, v13, v14, v15, v16, v17, v18]⟩ => (shInt .u8).un v0 fun x0 => shBool.un v1 fun x1 => shBool.un v2 fun x2 => shBool.un v3 fun x3 => shBool.un v4 fun x4 => (shInt .u32).un v5 fun x5 => (shInt .u16).un v6 fun x6 => (shInt .u32).un v7 fun x7 => (shInt .u32).un v8 fun x8 => (shInt .u32).un v9 fun x9 => (shInt .u32).un v10 fun x10 => (shInt .u32).un v11 fun x11 => (shInt .u16).un v12 fun x12 => (shInt .u16).un v13 fun x13 => shSl.un v14 fun x14 => shSl.un v15 fun x15 => shSl.un v16 fun x16 => shSl.un v17 fun x17 => shSl.un v18 fun x18 => K (ChunkV.mk x0 x1 x2 x3 x4 x5 x6 x7 x8 x9 x10 x11 x12 x13 x14 x15 x16 x17 x18)
  | _ => False
theorem ChunkV.un_ex (v : Value) (K : ChunkV → Prop) (h : ChunkV.un v K) : ∃ x : ChunkV, v = x.val ∧ K x := by
  unfold ChunkV.un at h
  split at h
  · obtain ⟨x0, rfl, h0⟩ := (shInt .u8).sound _ _ h
    obtain ⟨x1, rfl, h1⟩ := shBool.sound _ _ h0
    obtain ⟨x2, rfl, h2⟩ := shBool.sound _ _ h1
    obtain ⟨x3, rfl, h3⟩ := shBool.sound _ _ h2
    obtain ⟨x4, rfl, h4⟩ := shBool.sound _ _ h3
    obtain ⟨x5, rfl, h5⟩ := (shInt .u32).sound _ _ h4
    obtain ⟨x6, rfl, h6⟩ := (shInt .u16).sound _ _ h5
    obtain ⟨x7, rfl, h7⟩ := (shInt .u32).sound _ _ h6
    obtain ⟨x8, rfl, h8⟩ := (shInt .u32).sound _ _ h7
    obtain ⟨x9, rfl, h9⟩ := (shInt .u32).sound _ _ h8
    obtain ⟨x10, rfl, h10⟩ := (shInt .u32).sound _ _ h9
    obtain ⟨x11, rfl, h11⟩ := (shInt .u32).sound _ _ h10
    obtain ⟨x12, rfl, h12⟩ := (shInt .u16).sound _ _ h11
    obtain ⟨x13, rfl, h13⟩ := (shInt .u16).sound _ _ h12
    obtain ⟨x14, rfl, h14⟩ := shSl.sound _ _ h13
    obtain ⟨x15, rfl, h15⟩ := shSl.sound _ _ h14
    obtain ⟨x16, rfl, h16⟩ := shSl.sound _ _ h15
    obtain ⟨x17, rfl, h17⟩ := shSl.sound _ _ h16
    obtain ⟨x18, rfl, h18⟩ := shSl.sound _ _ h17
    exact ⟨(ChunkV.mk x0 x1 x2 x3 x4 x5 x6 x7 x8 x9 x10 x11 x12 x13 x14 x15 x16 x17 x18), rfl, h18⟩
  · exact h.elim
def shChunkV : Sh := ⟨ChunkV.val, ChunkV.un, ChunkV.un_ex⟩

structure NoteV where
  Tag : Int
  Chunk : ChunkV
def NoteV.val (x : NoteV) : Value := .agg #[(Value.int .u32) x.Tag, (Value.int .u8) x.Chunk.Kind, Value.bool x.Chunk.Begin, Value.bool x.Chunk.End, Value.bool x.Chunk.Loose, Value.bool x.Chunk.Bare, (Value.int .u32) x.Chunk.Tsn, (Value.int .u16) x.Chunk.Stream, (Value.int .u32) x.Chunk.Mid, (Value.int .u32) x.Chunk.Ppid, (Value.int .u32) x.Chunk.Frag, (Value.int .u32) x.Chunk.Tag, (Value.int .u32) x.Chunk.Window, (Value.int .u16) x.Chunk.Out, (Value.int .u16) x.Chunk.In, SlV.val x.Chunk.Gaps, SlV.val x.Chunk.Dups, SlV.val x.Chunk.Skips, SlV.val x.Chunk.Params, SlV.val x.Chunk.Body]
def NoteV.zero : NoteV := { Tag := 0, Chunk := ChunkV.zero }
def NoteV.un (v : Value) (K : NoteV → Prop) : Prop :=
  match v with
  | .agg ⟨[v0, v1, v2, v3, v4, v5, v6, v7, v8, v9, v10, v11, v12, v13, v14, v15, v16, v17, v18, v19]⟩ => (shInt .u32).un v0 fun x0 => (shInt .u8).un v1 fun x1 => shBool.un v2 fun x2 => shBool.un v3 fun x3 => shBool.un v4 fun x4 => shBool.un v5 fun x5 => (shInt .u32).un v6 fun x6 => (shInt .u16).un v7 fun x7 => (shInt .u32).un v8 fun x8 => (shInt .u32).un v9 fun x9 => (shInt .u32).un v10 fun x10 => (shInt .u32).un v11 fun x11 => (shInt .u32).un v12 fun x12 => (shInt .u16).un v13 fun x13 => (shInt .u16).un v14 fun x14 => shSl.un v15 fun x15 => shSl.un v16 fun x16 => shSl.un v17 fun x17 => shSl.un v18 fun x18 => shSl.un v19 fun x19 => K (NoteV.mk x0 (ChunkV.mk x1 x2 x3 x4 x5 x6 x7 x8 x9 x10 x11 x12 x13 x14 x15 x16 x17 x18 x19))
  | _ => False
theorem NoteV.un_ex (v : Value) (K : NoteV → Prop) (h : NoteV.un v K) : ∃ x : NoteV, v = x.val ∧ K x := by
  unfold NoteV.un at h
  split at h
  · obtain ⟨x0, rfl, h0⟩ := (shInt .u32).sound _ _ h
    obtain ⟨x1, rfl, h1⟩ := (shInt .u8).sound _ _ h0
    obtain ⟨x2, rfl, h2⟩ := shBool.sound _ _ h1
    obtain ⟨x3, rfl, h3⟩ := shBool.sound _ _ h2
    obtain ⟨x4, rfl, h4⟩ := shBool.sound _ _ h3
    obtain ⟨x5, rfl, h5⟩ := shBool.sound _ _ h4
    obtain ⟨x6, rfl, h6⟩ := (shInt .u32).sound _ _ h5
    obtain ⟨x7, rfl, h7⟩ := (shInt .u16).sound _ _ h6
    obtain ⟨x8, rfl, h8⟩ := (shInt .u32).sound _ _ h7
    obtain ⟨x9, rfl, h9⟩ := (shInt .u32).sound _ _ h8
    obtain ⟨x10, rfl, h10⟩ := (shInt .u32).sound _ _ h9
    obtain ⟨x11, rfl, h11⟩ := (shInt .u32).sound _ _ h10
    obtain ⟨x12, rfl, h12⟩ := (shInt .u32).sound _ _ h11
    obtain ⟨x13, rfl, h13⟩ := (shInt .u16).sound _ _ h12
    obtain ⟨x14, rfl, h14⟩ := (shInt .u16).sound _ _ h13
    obtain ⟨x15, rfl, h15⟩ := shSl.sound _ _ h14
    obtain ⟨x16, rfl, h16⟩ := shSl.sound _ _ h15
    obtain ⟨x17, rfl, h17⟩ := shSl.sound _ _ h16
    obtain ⟨x18, rfl, h18⟩ := shSl.sound _ _ h17
    obtain ⟨x19, rfl, h19⟩ := shSl.sound _ _ h18
    exact ⟨(NoteV.mk x0 (ChunkV.mk x1 x2 x3 x4 x5 x6 x7 x8 x9 x10 x11 x12 x13 x14 x15 x16 x17 x18 x19)), rfl, h19⟩
  · exact h.elim
def shNoteV : Sh := ⟨NoteV.val, NoteV.un, NoteV.un_ex⟩

structure MetV where
  Tag : Int
  Tsn : Int
  Window : Int
  Inter : Bool
def MetV.val (x : MetV) : Value := .agg #[(Value.int .u32) x.Tag, (Value.int .u32) x.Tsn, (Value.int .u32) x.Window, Value.bool x.Inter]
def MetV.zero : MetV := { Tag := 0, Tsn := 0, Window := 0, Inter := false }
def MetV.un (v : Value) (K : MetV → Prop) : Prop :=
  match v with
  | .agg ⟨[v0, v1, v2, v3]⟩ => (shInt .u32).un v0 fun x0 => (shInt .u32).un v1 fun x1 => (shInt .u32).un v2 fun x2 => shBool.un v3 fun x3 => K (MetV.mk x0 x1 x2 x3)
  | _ => False
theorem MetV.un_ex (v : Value) (K : MetV → Prop) (h : MetV.un v K) : ∃ x : MetV, v = x.val ∧ K x := by
  unfold MetV.un at h
  split at h
  · obtain ⟨x0, rfl, h0⟩ := (shInt .u32).sound _ _ h
    obtain ⟨x1, rfl, h1⟩ := (shInt .u32).sound _ _ h0
    obtain ⟨x2, rfl, h2⟩ := (shInt .u32).sound _ _ h1
    obtain ⟨x3, rfl, h3⟩ := shBool.sound _ _ h2
    exact ⟨(MetV.mk x0 x1 x2 x3), rfl, h3⟩
  · exact h.elim
def shMetV : Sh := ⟨MetV.val, MetV.un, MetV.un_ex⟩

structure Arr2SlV where
  e0 : SlV
  e1 : SlV
def Arr2SlV.val (x : Arr2SlV) : Value := .agg #[SlV.val x.e0, SlV.val x.e1]
def Arr2SlV.zero : Arr2SlV := { e0 := SlV.nil, e1 := SlV.nil }
def Arr2SlV.un (v : Value) (K : Arr2SlV → Prop) : Prop :=
  match v with
  | .agg ⟨[v0, v1]⟩ => shSl.un v0 fun x0 => shSl.un v1 fun x1 => K (Arr2SlV.mk x0 x1)
  | _ => False
theorem Arr2SlV.un_ex (v : Value) (K : Arr2SlV → Prop) (h : Arr2SlV.un v K) : ∃ x : Arr2SlV, v = x.val ∧ K x := by
  unfold Arr2SlV.un at h
  split at h
  · obtain ⟨x0, rfl, h0⟩ := shSl.sound _ _ h
    obtain ⟨x1, rfl, h1⟩ := shSl.sound _ _ h0
    exact ⟨(Arr2SlV.mk x0 x1), rfl, h1⟩
  · exact h.elim
def shArr2SlV : Sh := ⟨Arr2SlV.val, Arr2SlV.un, Arr2SlV.un_ex⟩

structure ActV where
  Kind : Int
  N : Int
def ActV.val (x : ActV) : Value := .agg #[(Value.int .i64) x.Kind, (Value.int .i64) x.N]
def ActV.zero : ActV := { Kind := 0, N := 0 }
def ActV.un (v : Value) (K : ActV → Prop) : Prop :=
  match v with
  | .agg ⟨[v0, v1]⟩ => (shInt .i64).un v0 fun x0 => (shInt .i64).un v1 fun x1 => K (ActV.mk x0 x1)
  | _ => False
theorem ActV.un_ex (v : Value) (K : ActV → Prop) (h : ActV.un v K) : ∃ x : ActV, v = x.val ∧ K x := by
  unfold ActV.un at h
  split at h
  · obtain ⟨x0, rfl, h0⟩ := (shInt .i64).sound _ _ h
    obtain ⟨x1, rfl, h1⟩ := (shInt .i64).sound _ _ h0
    exact ⟨(ActV.mk x0 x1), rfl, h1⟩
  · exact h.elim
def shActV : Sh := ⟨ActV.val, ActV.un, ActV.un_ex⟩

structure WriterV where
  b : SlV
def WriterV.val (x : WriterV) : Value := .agg #[SlV.val x.b]
def WriterV.zero : WriterV := { b := SlV.nil }
def WriterV.un (v : Value) (K : WriterV → Prop) : Prop :=
  match v with
  | .agg ⟨[v0]⟩ => shSl.un v0 fun x0 => K (WriterV.mk x0)
  | _ => False
theorem WriterV.un_ex (v : Value) (K : WriterV → Prop) (h : WriterV.un v K) : ∃ x : WriterV, v = x.val ∧ K x := by
  unfold WriterV.un at h
  split at h
  · obtain ⟨x0, rfl, h0⟩ := shSl.sound _ _ h
    exact ⟨(WriterV.mk x0), rfl, h0⟩
  · exact h.elim
def shWriterV : Sh := ⟨WriterV.val, WriterV.un, WriterV.un_ex⟩

structure TapeV where
  B : SlV
  At : Int
  Bad : Bool
def TapeV.val (x : TapeV) : Value := .agg #[SlV.val x.B, (Value.int .i64) x.At, Value.bool x.Bad]
def TapeV.zero : TapeV := { B := SlV.nil, At := 0, Bad := false }
def TapeV.un (v : Value) (K : TapeV → Prop) : Prop :=
  match v with
  | .agg ⟨[v0, v1, v2]⟩ => shSl.un v0 fun x0 => (shInt .i64).un v1 fun x1 => shBool.un v2 fun x2 => K (TapeV.mk x0 x1 x2)
  | _ => False
theorem TapeV.un_ex (v : Value) (K : TapeV → Prop) (h : TapeV.un v K) : ∃ x : TapeV, v = x.val ∧ K x := by
  unfold TapeV.un at h
  split at h
  · obtain ⟨x0, rfl, h0⟩ := shSl.sound _ _ h
    obtain ⟨x1, rfl, h1⟩ := (shInt .i64).sound _ _ h0
    obtain ⟨x2, rfl, h2⟩ := shBool.sound _ _ h1
    exact ⟨(TapeV.mk x0 x1 x2), rfl, h2⟩
  · exact h.elim
def shTapeV : Sh := ⟨TapeV.val, TapeV.un, TapeV.un_ex⟩

structure PartV where
  e : EndV
  s : Int
  met : MetV
  echo : SlV
  tries : Int
def PartV.val (x : PartV) : Value := .agg #[(Value.int .u32) x.e.Tag, (Value.int .u32) x.e.Tsn, (Value.int .u32) x.e.Window, Value.bool x.e.Inter, Value.string x.e.Key, (Value.int .i64) x.s, (Value.int .u32) x.met.Tag, (Value.int .u32) x.met.Tsn, (Value.int .u32) x.met.Window, Value.bool x.met.Inter, SlV.val x.echo, (Value.int .i64) x.tries]
def PartV.zero : PartV := { e := EndV.zero, s := 0, met := MetV.zero, echo := SlV.nil, tries := 0 }
def PartV.un (v : Value) (K : PartV → Prop) : Prop :=
  match v with
  | .agg ⟨[v0, v1, v2, v3, v4, v5, v6, v7, v8, v9, v10, v11]⟩ => (shInt .u32).un v0 fun x0 => (shInt .u32).un v1 fun x1 => (shInt .u32).un v2 fun x2 => shBool.un v3 fun x3 => shStr.un v4 fun x4 => (shInt .i64).un v5 fun x5 => (shInt .u32).un v6 fun x6 => (shInt .u32).un v7 fun x7 => (shInt .u32).un v8 fun x8 => shBool.un v9 fun x9 => shSl.un v10 fun x10 => (shInt .i64).un v11 fun x11 => K (PartV.mk (EndV.mk x0 x1 x2 x3 x4) x5 (MetV.mk x6 x7 x8 x9) x10 x11)
  | _ => False
theorem PartV.un_ex (v : Value) (K : PartV → Prop) (h : PartV.un v K) : ∃ x : PartV, v = x.val ∧ K x := by
  unfold PartV.un at h
  split at h
  · obtain ⟨x0, rfl, h0⟩ := (shInt .u32).sound _ _ h
    obtain ⟨x1, rfl, h1⟩ := (shInt .u32).sound _ _ h0
    obtain ⟨x2, rfl, h2⟩ := (shInt .u32).sound _ _ h1
    obtain ⟨x3, rfl, h3⟩ := shBool.sound _ _ h2
    obtain ⟨x4, rfl, h4⟩ := shStr.sound _ _ h3
    obtain ⟨x5, rfl, h5⟩ := (shInt .i64).sound _ _ h4
    obtain ⟨x6, rfl, h6⟩ := (shInt .u32).sound _ _ h5
    obtain ⟨x7, rfl, h7⟩ := (shInt .u32).sound _ _ h6
    obtain ⟨x8, rfl, h8⟩ := (shInt .u32).sound _ _ h7
    obtain ⟨x9, rfl, h9⟩ := shBool.sound _ _ h8
    obtain ⟨x10, rfl, h10⟩ := shSl.sound _ _ h9
    obtain ⟨x11, rfl, h11⟩ := (shInt .i64).sound _ _ h10
    exact ⟨(PartV.mk (EndV.mk x0 x1 x2 x3 x4) x5 (MetV.mk x6 x7 x8 x9) x10 x11), rfl, h11⟩
  · exact h.elim
def shPartV : Sh := ⟨PartV.val, PartV.un, PartV.un_ex⟩

structure GapV where
  From : Int
  To : Int
def GapV.val (x : GapV) : Value := .agg #[(Value.int .u16) x.From, (Value.int .u16) x.To]
def GapV.zero : GapV := { From := 0, To := 0 }
def GapV.un (v : Value) (K : GapV → Prop) : Prop :=
  match v with
  | .agg ⟨[v0, v1]⟩ => (shInt .u16).un v0 fun x0 => (shInt .u16).un v1 fun x1 => K (GapV.mk x0 x1)
  | _ => False
theorem GapV.un_ex (v : Value) (K : GapV → Prop) (h : GapV.un v K) : ∃ x : GapV, v = x.val ∧ K x := by
  unfold GapV.un at h
  split at h
  · obtain ⟨x0, rfl, h0⟩ := (shInt .u16).sound _ _ h
    obtain ⟨x1, rfl, h1⟩ := (shInt .u16).sound _ _ h0
    exact ⟨(GapV.mk x0 x1), rfl, h1⟩
  · exact h.elim
def shGapV : Sh := ⟨GapV.val, GapV.un, GapV.un_ex⟩

structure SkipV where
  Stream : Int
  Loose : Bool
  Mid : Int
def SkipV.val (x : SkipV) : Value := .agg #[(Value.int .u16) x.Stream, Value.bool x.Loose, (Value.int .u32) x.Mid]
def SkipV.zero : SkipV := { Stream := 0, Loose := false, Mid := 0 }
def SkipV.un (v : Value) (K : SkipV → Prop) : Prop :=
  match v with
  | .agg ⟨[v0, v1, v2]⟩ => (shInt .u16).un v0 fun x0 => shBool.un v1 fun x1 => (shInt .u32).un v2 fun x2 => K (SkipV.mk x0 x1 x2)
  | _ => False
theorem SkipV.un_ex (v : Value) (K : SkipV → Prop) (h : SkipV.un v K) : ∃ x : SkipV, v = x.val ∧ K x := by
  unfold SkipV.un at h
  split at h
  · obtain ⟨x0, rfl, h0⟩ := (shInt .u16).sound _ _ h
    obtain ⟨x1, rfl, h1⟩ := shBool.sound _ _ h0
    obtain ⟨x2, rfl, h2⟩ := (shInt .u32).sound _ _ h1
    exact ⟨(SkipV.mk x0 x1 x2), rfl, h2⟩
  · exact h.elim
def shSkipV : Sh := ⟨SkipV.val, SkipV.un, SkipV.un_ex⟩

structure ReaderV where
  b : SlV
  bad : Bool
def ReaderV.val (x : ReaderV) : Value := .agg #[SlV.val x.b, Value.bool x.bad]
def ReaderV.zero : ReaderV := { b := SlV.nil, bad := false }
def ReaderV.un (v : Value) (K : ReaderV → Prop) : Prop :=
  match v with
  | .agg ⟨[v0, v1]⟩ => shSl.un v0 fun x0 => shBool.un v1 fun x1 => K (ReaderV.mk x0 x1)
  | _ => False
theorem ReaderV.un_ex (v : Value) (K : ReaderV → Prop) (h : ReaderV.un v K) : ∃ x : ReaderV, v = x.val ∧ K x := by
  unfold ReaderV.un at h
  split at h
  · obtain ⟨x0, rfl, h0⟩ := shSl.sound _ _ h
    obtain ⟨x1, rfl, h1⟩ := shBool.sound _ _ h0
    exact ⟨(ReaderV.mk x0 x1), rfl, h1⟩
  · exact h.elim
def shReaderV : Sh := ⟨ReaderV.val, ReaderV.un, ReaderV.un_ex⟩

structure ParamV where
  Kind : Int
  Value_ : SlV
def ParamV.val (x : ParamV) : Value := .agg #[(Value.int .u16) x.Kind, SlV.val x.Value_]
def ParamV.zero : ParamV := { Kind := 0, Value_ := SlV.nil }
def ParamV.un (v : Value) (K : ParamV → Prop) : Prop :=
  match v with
  | .agg ⟨[v0, v1]⟩ => (shInt .u16).un v0 fun x0 => shSl.un v1 fun x1 => K (ParamV.mk x0 x1)
  | _ => False
theorem ParamV.un_ex (v : Value) (K : ParamV → Prop) (h : ParamV.un v K) : ∃ x : ParamV, v = x.val ∧ K x := by
  unfold ParamV.un at h
  split at h
  · obtain ⟨x0, rfl, h0⟩ := (shInt .u16).sound _ _ h
    obtain ⟨x1, rfl, h1⟩ := shSl.sound _ _ h0
    exact ⟨(ParamV.mk x0 x1), rfl, h1⟩
  · exact h.elim
def shParamV : Sh := ⟨ParamV.val, ParamV.un, ParamV.un_ex⟩

structure BoundsErrorV where
  x : Int
  y : Int
  signed : Bool
  code : Int
def BoundsErrorV.val (x : BoundsErrorV) : Value := .agg #[(Value.int .i64) x.x, (Value.int .i64) x.y, Value.bool x.signed, (Value.int .u8) x.code]
def BoundsErrorV.zero : BoundsErrorV := { x := 0, y := 0, signed := false, code := 0 }
def BoundsErrorV.un (v : Value) (K : BoundsErrorV → Prop) : Prop :=
  match v with
  | .agg ⟨[v0, v1, v2, v3]⟩ => (shInt .i64).un v0 fun x0 => (shInt .i64).un v1 fun x1 => shBool.un v2 fun x2 => (shInt .u8).un v3 fun x3 => K (BoundsErrorV.mk x0 x1 x2 x3)
  | _ => False
theorem BoundsErrorV.un_ex (v : Value) (K : BoundsErrorV → Prop) (h : BoundsErrorV.un v K) : ∃ x : BoundsErrorV, v = x.val ∧ K x := by
  unfold BoundsErrorV.un at h
  split at h
  · obtain ⟨x0, rfl, h0⟩ := (shInt .i64).sound _ _ h
    obtain ⟨x1, rfl, h1⟩ := (shInt .i64).sound _ _ h0
    obtain ⟨x2, rfl, h2⟩ := shBool.sound _ _ h1
    obtain ⟨x3, rfl, h3⟩ := (shInt .u8).sound _ _ h2
    exact ⟨(BoundsErrorV.mk x0 x1 x2 x3), rfl, h3⟩
  · exact h.elim
def shBoundsErrorV : Sh := ⟨BoundsErrorV.val, BoundsErrorV.un, BoundsErrorV.un_ex⟩

structure ErrorAddressStringV where
  msg : ByteArray
  addr : Int
def ErrorAddressStringV.val (x : ErrorAddressStringV) : Value := .agg #[Value.string x.msg, (Value.int .u64) x.addr]
def ErrorAddressStringV.zero : ErrorAddressStringV := { msg := ByteArray.empty, addr := 0 }
def ErrorAddressStringV.un (v : Value) (K : ErrorAddressStringV → Prop) : Prop :=
  match v with
  | .agg ⟨[v0, v1]⟩ => shStr.un v0 fun x0 => (shInt .u64).un v1 fun x1 => K (ErrorAddressStringV.mk x0 x1)
  | _ => False
theorem ErrorAddressStringV.un_ex (v : Value) (K : ErrorAddressStringV → Prop) (h : ErrorAddressStringV.un v K) : ∃ x : ErrorAddressStringV, v = x.val ∧ K x := by
  unfold ErrorAddressStringV.un at h
  split at h
  · obtain ⟨x0, rfl, h0⟩ := shStr.sound _ _ h
    obtain ⟨x1, rfl, h1⟩ := (shInt .u64).sound _ _ h0
    exact ⟨(ErrorAddressStringV.mk x0 x1), rfl, h1⟩
  · exact h.elim
def shErrorAddressStringV : Sh := ⟨ErrorAddressStringV.val, ErrorAddressStringV.un, ErrorAddressStringV.un_ex⟩

structure UnhashableTypeErrorV where
  typ : Option Addr
def UnhashableTypeErrorV.val (x : UnhashableTypeErrorV) : Value := .agg #[Value.pointer x.typ]
def UnhashableTypeErrorV.zero : UnhashableTypeErrorV := { typ := none }
def UnhashableTypeErrorV.un (v : Value) (K : UnhashableTypeErrorV → Prop) : Prop :=
  match v with
  | .agg ⟨[v0]⟩ => shPtr.un v0 fun x0 => K (UnhashableTypeErrorV.mk x0)
  | _ => False
theorem UnhashableTypeErrorV.un_ex (v : Value) (K : UnhashableTypeErrorV → Prop) (h : UnhashableTypeErrorV.un v K) : ∃ x : UnhashableTypeErrorV, v = x.val ∧ K x := by
  unfold UnhashableTypeErrorV.un at h
  split at h
  · obtain ⟨x0, rfl, h0⟩ := shPtr.sound _ _ h
    exact ⟨(UnhashableTypeErrorV.mk x0), rfl, h0⟩
  · exact h.elim
def shUnhashableTypeErrorV : Sh := ⟨UnhashableTypeErrorV.val, UnhashableTypeErrorV.un, UnhashableTypeErrorV.un_ex⟩

structure TypeAssertionErrorV where
  x_interface : Option Addr
  concrete : Option Addr
  asserted : Option Addr
  missingMethod : ByteArray
def TypeAssertionErrorV.val (x : TypeAssertionErrorV) : Value := .agg #[Value.pointer x.x_interface, Value.pointer x.concrete, Value.pointer x.asserted, Value.string x.missingMethod]
def TypeAssertionErrorV.zero : TypeAssertionErrorV := { x_interface := none, concrete := none, asserted := none, missingMethod := ByteArray.empty }
def TypeAssertionErrorV.un (v : Value) (K : TypeAssertionErrorV → Prop) : Prop :=
  match v with
  | .agg ⟨[v0, v1, v2, v3]⟩ => shPtr.un v0 fun x0 => shPtr.un v1 fun x1 => shPtr.un v2 fun x2 => shStr.un v3 fun x3 => K (TypeAssertionErrorV.mk x0 x1 x2 x3)
  | _ => False
theorem TypeAssertionErrorV.un_ex (v : Value) (K : TypeAssertionErrorV → Prop) (h : TypeAssertionErrorV.un v K) : ∃ x : TypeAssertionErrorV, v = x.val ∧ K x := by
  unfold TypeAssertionErrorV.un at h
  split at h
  · obtain ⟨x0, rfl, h0⟩ := shPtr.sound _ _ h
    obtain ⟨x1, rfl, h1⟩ := shPtr.sound _ _ h0
    obtain ⟨x2, rfl, h2⟩ := shPtr.sound _ _ h1
    obtain ⟨x3, rfl, h3⟩ := shStr.sound _ _ h2
    exact ⟨(TypeAssertionErrorV.mk x0 x1 x2 x3), rfl, h3⟩
  · exact h.elim
def shTypeAssertionErrorV : Sh := ⟨TypeAssertionErrorV.val, TypeAssertionErrorV.un, TypeAssertionErrorV.un_ex⟩

structure TypeV where
  Size_ : Int
  PtrBytes : Int
  Hash : Int
  TFlag : Int
  Align_ : Int
  FieldAlign_ : Int
  Kind_ : Int
  Equal : FnV
  GCData : Option Addr
  Str : Int
  PtrToThis : Int
def TypeV.val (x : TypeV) : Value := .agg #[(Value.int .u64) x.Size_, (Value.int .u64) x.PtrBytes, (Value.int .u32) x.Hash, (Value.int .u8) x.TFlag, (Value.int .u8) x.Align_, (Value.int .u8) x.FieldAlign_, (Value.int .u8) x.Kind_, FnV.val x.Equal, Value.pointer x.GCData, (Value.int .i32) x.Str, (Value.int .i32) x.PtrToThis]
def TypeV.un (v : Value) (K : TypeV → Prop) : Prop :=
  match v with
  | .agg ⟨[v0, v1, v2, v3, v4, v5, v6, v7, v8, v9, v10]⟩ => (shInt .u64).un v0 fun x0 => (shInt .u64).un v1 fun x1 => (shInt .u32).un v2 fun x2 => (shInt .u8).un v3 fun x3 => (shInt .u8).un v4 fun x4 => (shInt .u8).un v5 fun x5 => (shInt .u8).un v6 fun x6 => shFn.un v7 fun x7 => shPtr.un v8 fun x8 => (shInt .i32).un v9 fun x9 => (shInt .i32).un v10 fun x10 => K (TypeV.mk x0 x1 x2 x3 x4 x5 x6 x7 x8 x9 x10)
  | _ => False
theorem TypeV.un_ex (v : Value) (K : TypeV → Prop) (h : TypeV.un v K) : ∃ x : TypeV, v = x.val ∧ K x := by
  unfold TypeV.un at h
  split at h
  · obtain ⟨x0, rfl, h0⟩ := (shInt .u64).sound _ _ h
    obtain ⟨x1, rfl, h1⟩ := (shInt .u64).sound _ _ h0
    obtain ⟨x2, rfl, h2⟩ := (shInt .u32).sound _ _ h1
    obtain ⟨x3, rfl, h3⟩ := (shInt .u8).sound _ _ h2
    obtain ⟨x4, rfl, h4⟩ := (shInt .u8).sound _ _ h3
    obtain ⟨x5, rfl, h5⟩ := (shInt .u8).sound _ _ h4
    obtain ⟨x6, rfl, h6⟩ := (shInt .u8).sound _ _ h5
    obtain ⟨x7, rfl, h7⟩ := shFn.sound _ _ h6
    obtain ⟨x8, rfl, h8⟩ := shPtr.sound _ _ h7
    obtain ⟨x9, rfl, h9⟩ := (shInt .i32).sound _ _ h8
    obtain ⟨x10, rfl, h10⟩ := (shInt .i32).sound _ _ h9
    exact ⟨(TypeV.mk x0 x1 x2 x3 x4 x5 x6 x7 x8 x9 x10), rfl, h10⟩
  · exact h.elim
def shTypeV : Sh := ⟨TypeV.val, TypeV.un, TypeV.un_ex⟩

def shTab : List Sh := [
  shUnit,
  shFn,
  (shInt .i64),
  (shInt .i64),
  shBool,
  (shInt .u8),
  (shInt .u8),
  shBoundsErrorV,
  shBoundsErrorV,
  shStr,
  shStr,
  shStr,
  (shInt .u64),
  shErrorAddressStringV,
  shErrorAddressStringV,
  shPtr,
  shPtr,
  shPtr,
  shUnhashableTypeErrorV,
  shUnhashableTypeErrorV,
  shRaw,
  (shInt .i32),
  shSl,
  shFn,
  (shInt .u64),
  (shArr .u8),
  shFn,
  shFn,
  shFn,
  shFn,
  shFn,
  shFn,
  shFn,
  (shInt .u32),
  (shInt .u16),
  shCookieV,
  shCookieV,
  shFn,
  (shInt .i64),
  (shTup2 shCookieV (shInt .i64)),
  shFn,
  shFn,
  shFn,
  shFn,
  (shTup2 shCookieV (shInt .i64)),
  shFn,
  shFn,
  shFn,
  shFn,
  shEndV,
  shEndV,
  (shInt .u8),
  shSl,
  shSl,
  shSl,
  shSl,
  shChunkV,
  shChunkV,
  shNoteV,
  shNoteV,
  shPtr,
  (shTup2 shPtr (shInt .i64)),
  shFn,
  shSl,
  shFn,
  shFn,
  (shInt .u64),
  (shInt .i64),
  shFn,
  shFn,
  shFn,
  shFn,
  shMetV,
  shMetV,
  shFn,
  shFn,
  shSl,
  shSl,
  shSl,
  shArr2SlV,
  shActV,
  shActV,
  shFn,
  (shArr .i64),
  shFn,
  shSl,
  shFn,
  shFn,
  shFn,
  shFn,
  shFn,
  (shArr .u32),
  (shArr .u32),
  shFn,
  shFn,
  shFn,
  shFn,
  (shArr .u8),
  (shArr .u32),
  shFn,
  shFn,
  shWriterV,
  shWriterV,
  shFn,
  shFn,
  shFn,
  shFn,
  shPtr,
  shFn,
  shPtr,
  shSl,
  shFn,
  shFn,
  shFn,
  shFn,
  shFn,
  shPtr,
  shTapeV,
  shTapeV,
  shFn,
  shFn,
  shPartV,
  shPartV,
  shFn,
  shFn,
  shFn,
  shFn,
  shFn,
  shGapV,
  shGapV,
  shSkipV,
  shSkipV,
  shFn,
  shFn,
  shFn,
  shFn,
  shPtr,
  shFn,
  shFn,
  shPtr,
  shReaderV,
  shReaderV,
  shFn,
  shParamV,
  shParamV,
  shFn,
  (shTup2 shSl shBool),
  shFn,
  shFn,
  shFn,
  shFn,
  shTypeAssertionErrorV,
  shTypeAssertionErrorV,
  shRaw,
  shRaw,
  shRaw,
  shFn,
  (shInt .u8),
  (shInt .u8),
  shFn,
  shPtr,
  (shInt .i32),
  (shInt .i32),
  shTypeV,
  shTypeV,
  shPtr]
def sh (t : TypeId) : Sh := shTab.getD t shRaw
def shX (l : List (Nat × Sh)) (t : TypeId) : Sh := match lookL l t with | some s => s | none => sh t

end Go.Vc.SA

/-
  The verification-condition generator: definitions. No program in sight.
-/
import Derived.OrdersIn
import Derived.TacticsIn
import Derived.RangeFuncRecord
import Derived.Laws.Tables
import Derived.Great.BuildSlice
import Derived.KernelRfl
set_option linter.all false
namespace Go.Vc

/-! ### values with a shape -/
structure SlV where
  a : Option Addr
  len : Nat
  cap : Nat

def SlV.val (s : SlV) : Value := .slice s.a s.len s.cap
def SlV.nil : SlV := ⟨none, 0, 0⟩
def SlV.sub (s : SlV) (l h m size : Nat) : SlV := ⟨if m = l then s.a else s.a.map (·.add (l * size)), h - l, m - l⟩
def arrSub (a : Addr) (l h m size : Nat) : SlV := ⟨some (if m = l then a else a.add (l * size)), h - l, m - l⟩

structure Sh where
  {α : Type}
  val : α → Value
  un : Value → (α → Prop) → Prop
  sound : ∀ v K, un v K → ∃ x, v = val x ∧ K x


def unPtr (v : Value) (K : Option Addr → Prop) : Prop := match v with | .pointer p => K p | _ => False
theorem unPtr_ex (v : Value) (K : Option Addr → Prop) (h : unPtr v K) : ∃ x, v = .pointer x ∧ K x := by
  unfold unPtr at h
  split at h
  · exact ⟨_, rfl, h⟩
  · exact h.elim
def shPtr : Sh := ⟨Value.pointer, unPtr, unPtr_ex⟩
def nxV (x : Bool × List Value) : Value := .tuple ⟨.bool x.1 :: x.2⟩
def unNx (v : Value) (K : Bool × List Value → Prop) : Prop := match v with | .tuple ⟨.bool b :: r⟩ => K (b, r) | _ => False
theorem unNx_ex (v : Value) (K : Bool × List Value → Prop) (h : unNx v K) : ∃ x, v = nxV x ∧ K x := by
  unfold unNx at h
  split at h
  · exact ⟨_, rfl, h⟩
  · exact h.elim
def shNx : Sh := ⟨nxV, unNx, unNx_ex⟩
def entV (x : Value × Value) : Value := .tuple #[x.1, x.2]
def unEnt (v : Value) (K : Value × Value → Prop) : Prop := match v with | .tuple ⟨[a, b]⟩ => K (a, b) | _ => False
theorem unEnt_ex (v : Value) (K : Value × Value → Prop) (h : unEnt v K) : ∃ x, v = entV x ∧ K x := by
  unfold unEnt at h
  split at h
  · exact ⟨_, rfl, h⟩
  · exact h.elim
def shEnt : Sh := ⟨entV, unEnt, unEnt_ex⟩
def shRaw : Sh := ⟨fun v : Value => v, fun v K => K v, fun v _ h => ⟨v, rfl, h⟩⟩

/-! ### combinators: they reduce where what they look at is known -/
def cond' (b : Bool) (A B : Prop) : Prop := match b with | true => A | false => B
def chkP (b : Bool) (A : Prop) : Prop := match b with | true => A | false => False
def nilP (p : Option Addr) (K : Addr → Prop) : Prop := match p with | some a => K a | none => False

/-- The n cells from a on are those of v. -/
def Holds (w : World) (a : Addr) (n : Nat) (v : Value) : Prop := v.cells.size = n ∧ ∀ i, i < n → w.cell? (a.add i) = v.cells[i]?
def Can (w : World) (a : Addr) (n : Nat) (v : Value) : Prop :=
  v.cells.size = n ∧ (v.cells.toList.all (·.oneCell') = true) ∧ ∀ i, i < n → (w.cell? (a.add i)).isSome = true ∧ w.frozen? (a.add i) = false
def puts (w : World) (a : Addr) : List Value → Nat → World
  | [], _ => w
  | v :: vs, i => puts (w.setCell (a.add i) v) a vs (i + 1)

structure loadP {α : Type} (w : World) (a : Addr) (n : Nat) (val : α → Value) (K : α → Prop) : Prop where
  ex : ∃ x, Holds w a n (val x) ∧ K x
structure newP (w : World) (o : Obj) (K : Nat → World → Prop) : Prop where
  ex : K w.heap.size (w.alloc o)
structure storeP (w : World) (a : Addr) (n : Nat) (v : Value) (K : World → Prop) : Prop where
  ex : Can w a n v ∧ K (puts w a v.cells.toList 0)
structure runP {α : Type} (P : Program) (s : Sem Value) (w : World) (val : α → Value) (K : α → World → Prop) : Prop where
  ex : ∃ x w', s.run P w = .ok (val x) w' ∧ K x w'
structure readP {α : Type} (P : Program) (s : Sem Value) (w : World) (val : α → Value) (K : α → Prop) : Prop where
  ex : ∃ x, s.run P w = .ok (val x) w ∧ K x
structure runU (P : Program) (s : Sem Unit) (w : World) (K : World → Prop) : Prop where
  ex : ∃ w', s.run P w = .ok () w' ∧ K w'
def Still (P : Program) (s : Sem Value) (w : World) (v : Value) : Prop := s.run P w = .ok v w

def Ret (R : Value → World → Prop) : Ending → World → Prop
  | .returned v, w => R v w
  | _, _ => False
def bodyOk (P : Program) (f : FuncId) : Bool :=
  match P.funcs[f]? with
  | some fn => fn.body.isSome && fn.name != "runtime.NumGoroutine"
  | none => false
structure callP {α : Type} (P : Program) (f : FuncId) (args : Array Value) (w : World) (val : α → Value) (K : α → World → Prop) : Prop where
  ex : (bodyOk P f = true ∧ Calls P f args w (Ret fun v w' => ∃ x, v = val x ∧ K x w')) ∨
    (∃ x w', (callFunc f args).run P w = .ok (.value (val x)) w' ∧ K x w')
structure cutP (σ : Type) (A : (σ → World → Prop) → Prop) (B : (Nat → Value) → σ → World → Prop) : Prop where
  ex : ∃ J : σ → World → Prop, A J ∧ ∀ g s w, J s w → B g s w
structure loopP (σ : Type) (s₀ : σ) (w₀ : World) (B : (σ → World → Prop) → (Nat → Value) → σ → World → Prop) : Prop where
  ex : ∃ (I : σ → World → Prop) (μ : σ → World → Nat), I s₀ w₀ ∧ ∀ g s w, I s w → B (fun s' w' => I s' w' ∧ μ s' w' < μ s w) g s w

/-- fences that let all through -/
structure FW (F : Fence) : Prop where
  fn : ∀ f, F.fn f
  depth : F.depth = none
  alive : F.alive = false
theorem FW.wide : FW Fence.wide := ⟨fun _ => trivial, rfl, rfl⟩
theorem FW.inRound {F : Fence} (h : FW F) (l : Nat) : FW (F.inRound l) := ⟨h.fn, h.depth, h.alive⟩
theorem FW.room {F : Fence} (h : FW F) (n : Nat) : F.room n := fun _ e => by rw [h.depth] at e; cases e
theorem FW.fenced {F : Fence} (h : FW F) (P : Program) (m : Machine) : m.fenced P F := by
  intro g _
  refine ⟨fun e => ?_, Or.inl (h.fn _), fun _ _ => h.fn _, h.room _⟩
  rw [h.alive] at e; cases e
theorem FW.steps {F : Fence} (h : FW F) {P : Program} {m m' : Machine} (s : Steps P m m') : StepsIn (Machine.fenced P F) P m m' :=
  (StepsIn.of_steps s).mono fun m _ => h.fenced P m

/-! ### range over a function -/
structure yieldP {α : Type} (P : Program) (l : Nat) (args : List Value) (w : World) (val : α → Value) (K : α → World → Prop) : Prop where
  ex : ∀ F n, FW F → ∃ f tmps assign body w', (Instr.yield l args.toArray).run P w = .ok (.round l f tmps assign body) w' ∧ RoundIn F n P l f tmps assign body w' (Ret fun v w'' => ∃ x, v = val x ∧ K x w'')
structure begP (P : Program) (l : Nat) (w : World) (K : World → Prop) : Prop where
  ex : ∃ w', (Instr.beginRound l).run P w = .ok () w' ∧ K w'
structure endP (P : Program) (l : Nat) (w : World) (K : World → Prop) : Prop where
  ex : ∃ w', (Instr.endRound l none).run P w = .ok (.bool true) w' ∧ K w'
structure leaveP (P : Program) (D : Nat) (w : World) (K : World → Prop) : Prop where
  ex : ∃ w', (Instr.takeDeferred D).run P w = .ok [] w' ∧ K w'
/-- a round of the loop: what its body comes to -/
def RoundsP {α : Type} (P : Program) (rec : Loop) (vals : α → List Value) (B : Nat → α → World → (World → Prop) → Prop) : Prop :=
  ∀ (L : Nat) (W : World) (x : α) (K : Bool → World → Prop), W.heap[L]? = some (.loop rec) → B L x W (fun W' => endP P L W' fun W'' => K true W'') → yieldP P L (vals x) W Value.bool K
structure rangeP {α : Type} (P : Program) (f : Value) (vals : α → List Value) (B : Nat → α → World → (World → Prop) → Prop) (w : World) (K : Nat → World → Prop) : Prop where
  ex : ∃ g lb, f = .func (.func g) #[] lb ∧ bodyOk P g = true ∧ ∀ rec : Loop, rec.state = .ready → rec.pending = none → RoundsP P rec vals B →
    Calls P g (#[.func (.yield (w.heap.size + 1)) #[] #[]] ++ lb) ((w.alloc (.deferred (some []))).alloc (.loop rec)) fun e w3 => (∃ v, e = .returned v) ∧ ∃ w4, (Instr.endLoop (w.heap.size + 1)).run P w3 = .ok none w4 ∧ K w.heap.size w4

/-! ### one operation -/
def ρ (e : List Value) : Operand → Value
  | .tmp t => e.getD t undef
  | .const v => v
  | .global g => .pointer (some ⟨g, 0, none⟩)
  | .func f => .func (.func f) #[] #[]
def put (e : List Value) (d : Option Tmp) (v : Value) : List Value :=
  match d with
  | some t => e.set t v
  | none => e

inductive Kind where
  | pure | read | eff

def isSl (P : Program) (t : TypeId) : Bool := match P.underlying t with | some (.slice _) => true | _ => false
def isStr (P : Program) (t : TypeId) : Bool := match P.underlying t with | some .string => true | _ => false
def isMap (P : Program) (t : TypeId) : Bool := match P.underlying t with | some (.map _ _) => true | _ => false
def isAggT (P : Program) (t : TypeId) : Bool := match P.underlying t with | some (.struct _) => true | some (.array _ _) => true | _ => false
def sizeT (P : Program) (t : TypeId) : Nat := match P.info? t with | some i => i.size | none => 0
def elemT (P : Program) (t : TypeId) : TypeId := match P.underlying t with | some (.slice e) => e | some (.array _ e) => e | _ => 0
def okT (P : Program) (t : TypeId) : Bool := (P.info? t).isSome && (P.underlying t).isSome

def kind (P : Program) (o : Op) : Kind :=
  match o with
  | .move _ | .assign _ | .pick _ _ _ | .binOp _ _ _ _ _ | .unOp _ _ _ | .field _ _ _ | .index _ _ _ | .extract _ _ | .fieldAddr _ _ _ | .indexAddr _ _ _ | .nilCheck _
  | .slice _ _ _ _ _ | .makeFunc _ _ _ | .makeInterface _ _ | .sliceToArrayPointer _ _ | .panic _ | .build _ _ => .pure
  | .load _ _ | .lookup _ _ _ _ => .read
  | .convert s d _ => if isSl P d then .eff else if isStr P d && isSl P s then .read else .pure
  | .call c => match c.callee with
    | .builtin .len => if isMap P (c.argTypes.toList.headD 0) then .read else .pure
    | .builtin .cap => .pure
    | .builtin .min => .pure
    | .builtin .max => .pure
    | _ => .eff
  | _ => .eff

def bitsOf (op : BinOp) (k : IntKind) (x y : Int) : Int := bits op k x y
/-- Equality at a type, out of the values alone. -/
def eqPart (P : Program) (eqs : TypeId → Value → Value → Option Bool) (xs ys : List Value) : List Field → Option Bool
  | [] => some true
  | f :: fs =>
    let n := sizeT P f.type
    let part (cs : List Value) : Value := if isAggT P f.type then .agg ((cs.drop f.offset).take n).toArray else cs.getD f.offset undef
    match eqs f.type (part xs) (part ys), eqPart P eqs xs ys fs with
    | some b, some c => some (b && c)
    | _, _ => none
def ptrEq (a b : Option Addr) : Option Bool :=
  match b with
  | none => some a.isNone
  | some _ => match a with | none => some false | some _ => none
def eqVal (P : Program) : Nat → TypeId → Value → Value → Option Bool
  | 0, _, _, _ => none
  | d + 1, t, x, y =>
    match P.underlying t, x, y with
    | some .bool, .bool a, .bool b => some (a == b)
    | some (.int _), .int k a, .int k' b => if k = k' then some (a == b) else none
    | some .string, .string a, .string b => some (a == b)
    | some (.pointer _), .pointer a, .pointer b => ptrEq a b
    | some (.slice _), .slice a _ _, .slice none _ _ => some a.isNone
    | some (.map _ _), .map a, .map none => some a.isNone
    | some (.struct fs), .agg xs, .agg ys =>
      match P.stoodInHeld t, fs.toList.all (fun f => f.name != "_") with
      | false, true => eqPart P (eqVal P d) xs.toList ys.toList fs.toList
      | _, _ => none
    | _, _, _ => none
/-- Equality of two arrays of integers. -/
def intsOf (k : IntKind) : List Value → Option (List Int)
  | [] => some []
  | .int k' x :: r => if k = k' then (intsOf k r).map (x :: ·) else none
  | _ :: _ => none
structure eqArrP (n : Nat) (k : IntKind) (x y : Value) (K : Bool → Prop) : Prop where
  ex : ∃ xs ys : List Int, xs.length = n ∧ ys.length = n ∧ x = .agg (xs.map (Value.int k)).toArray ∧ y = .agg (ys.map (Value.int k)).toArray ∧ K (xs == ys)

def negB (neg b : Bool) : Bool := match neg with | true => !b | false => b
def boolP (o : Option Bool) (neg : Bool) (K : Value → Prop) : Prop :=
  match o with
  | some b => K (.bool (negB neg b))
  | none => False
def eqlP (P : Program) (neg : Bool) (t : TypeId) (x y : Value) (K : Value → Prop) : Prop :=
  match P.eqGuardType P.depth t with
  | true => False
  | false =>
    match P.underlying t with
    | some (.array n e) =>
      match P.underlying e, Nat.beq (sizeT P e) 1 with
      | some (.int k), true => eqArrP n k x y fun b => K (.bool (negB neg b))
      | _, _ => False
    | _ => boolP (eqVal P 8 t x y) neg K
def intP (op : BinOp) (k : IntKind) (a b : Int) (K : Value → Prop) : Prop :=
  match op with
  | .add => K (.int k (k.wrap (a + b)))
  | .sub => K (.int k (k.wrap (a - b)))
  | .mul => K (.int k (k.wrap (a * b)))
  | .quo => chkP (decide (b ≠ 0)) (K (.int k (k.wrap (a.tdiv b))))
  | .rem => chkP (decide (b ≠ 0)) (K (.int k (a.tmod b)))
  | .and => K (.int k (bits .and k a b))
  | .or => K (.int k (bits .or k a b))
  | .xor => K (.int k (bits .xor k a b))
  | .andNot => K (.int k (bits .andNot k a b))
  | .eql => K (.bool (a == b))
  | .neq => K (.bool (a != b))
  | .lss => K (.bool (decide (a < b)))
  | .leq => K (.bool (decide (a ≤ b)))
  | .gtr => K (.bool (decide (a > b)))
  | .geq => K (.bool (decide (a ≥ b)))
  | _ => False
def strP (op : BinOp) (a b : ByteArray) (K : Value → Prop) : Prop :=
  match op with
  | .eql => K (.bool (a.toList == b.toList))
  | .neq => K (.bool (!(a.toList == b.toList)))
  | _ => False
def binP (P : Program) (op : BinOp) (t : TypeId) (x y : Value) (K : Value → Prop) : Prop :=
  match x, y with
  | .int k a, .int k' b =>
    match op with
    | .shl => chkP (decide (0 ≤ b)) (K (.int k (k.wrap (a * 2 ^ (min b.toNat k.bits)))))
    | .shr => chkP (decide (0 ≤ b)) (K (.int k (a.fdiv (2 ^ (min b.toNat k.bits)))))
    | _ => if k = k' then intP op k a b K else False
  | .string a, .string b => strP op a b K
  | _, _ =>
    match op with
    | .eql => eqlP P false t x y K
    | .neq => eqlP P true t x y K
    | _ => False
def unP (op : UnOp) (x : Value) (K : Value → Prop) : Prop :=
  match op, x with
  | .neg, .int k n => K (.int k (k.wrap (0 - n)))
  | .xor, .int k n => K (.int k (bits .xor k (if k.signed then -1 else k.max) n))
  | .not, .bool b => K (.bool !b)
  | _, _ => False
def convP (P : Program) (s d : TypeId) (x : Value) (K : Value → Prop) : Prop :=
  match okT P s with
  | true =>
    match P.underlying d, x with
    | some (.int k), .int _ n => K (.int k (k.wrap n))
    | some .string, .string t => K (.string t)
    | _, _ => False
  | false => False
def fieldP (P : Program) (t : TypeId) (x : Value) (i : Nat) (K : Value → Prop) : Prop :=
  match P.underlying t, x with
  | some (.struct fs), .agg cs =>
    match fs.toList[i]? with
    | some f =>
      match okT P f.type with
      | true =>
        match isAggT P f.type with
        | true => K (.agg ((cs.toList.drop f.offset).take (sizeT P f.type)).toArray)
        | false => match cs.toList[f.offset]? with | some v => K v | none => False
      | false => False
    | none => False
  | _, _ => False
def fieldAddrP (P : Program) (t : TypeId) (x : Value) (i : Nat) (K : Value → Prop) : Prop :=
  match P.underlying t, x with
  | some (.struct fs), .pointer p =>
    match fs.toList[i]? with
    | some f =>
      match sizeT P f.type with
      | 0 => False
      | _ + 1 => nilP p fun a => K (.pointer (some (a.add f.offset)))
    | none => False
  | _, _ => False
def inR (i : Int) (n : Nat) : Bool := decide (0 ≤ i ∧ i < (n : Int))
def indexAddrP (P : Program) (t : TypeId) (x ix : Value) (K : Value → Prop) : Prop :=
  match ix with
  | .int _ i =>
    match P.underlying t, x with
    | some (.array n e), .pointer p =>
      match okT P e with
      | true => nilP p fun a => chkP (inR i n) (K (.pointer (some (a.add (i.toNat * sizeT P e)))))
      | false => False
    | some (.slice e), .slice p n _ =>
      match okT P e with
      | true => chkP (inR i n) (nilP p fun a => K (.pointer (some (a.add (i.toNat * sizeT P e)))))
      | false => False
    | _, _ => False
  | _ => False
def nth (cs : List Value) (i : Nat) (K : Value → Prop) : Prop := match cs[i]? with | some v => K v | none => False
def nthK (k : IntKind) (cs : List Value) (i : Nat) (K : Int → Prop) : Prop := match cs[i]? with | some (.int k' n) => if k' = k then K n else False | _ => False
def indexP (P : Program) (t : TypeId) (x ix : Value) (K : Value → Prop) : Prop :=
  match ix with
  | .int _ i =>
    match P.underlying t, x with
    | some (.array n e), .agg cs =>
      match okT P e with
      | true =>
        match isAggT P e with
        | true => False
        | false => match P.underlying e with
          | some (.int k) => chkP (inR i n) (nthK k cs.toList (i.toNat * sizeT P e) fun m => K (.int k m))
          | _ => chkP (inR i n) (nth cs.toList (i.toNat * sizeT P e) K)
      | false => False
    | some .string, .string s => chkP (inR i s.size) (K (.int .u8 ((s.data.toList.getD i.toNat 0).toNat : Int)))
    | _, _ => False
  | _ => False
def bndP (x : Option Value) (dflt : Nat) (K : Int → Prop) : Prop :=
  match x with
  | none => K (dflt : Int)
  | some (.int _ i) => K i
  | _ => False
def leR (a b : Int) : Bool := decide (0 ≤ a ∧ a ≤ b)
def sliceP (P : Program) (t : TypeId) (x : Value) (lo hi mx : Option Value) (K : Value → Prop) : Prop :=
  match mx with
  | some mv =>
    match P.underlying t, x with
    | some (.slice e), .slice a len cap =>
      match okT P e, hi with
      | true, some hv => bndP (some mv) 0 fun m => chkP (leR m cap) (bndP (some hv) 0 fun h => chkP (leR h m) (bndP lo 0 fun l => chkP (leR l h) (K ((SlV.mk a len cap).sub l.toNat h.toNat m.toNat (sizeT P e)).val)))
      | _, _ => False
    | _, _ => False
  | none =>
    match P.underlying t, x with
    | some (.array n e), .pointer p =>
      match okT P e with
      | true => nilP p fun a => bndP hi n fun h => chkP (leR h n) (bndP lo 0 fun l => chkP (leR l h) (K (arrSub a l.toNat h.toNat n (sizeT P e)).val))
      | false => False
    | some (.slice e), .slice a len cap =>
      match okT P e with
      | true => bndP hi len fun h => chkP (leR h cap) (bndP lo 0 fun l => chkP (leR l h) (K ((SlV.mk a len cap).sub l.toNat h.toNat cap (sizeT P e)).val))
      | false => False
    | some .string, .string s => bndP hi s.size fun h => chkP (leR h s.size) (bndP lo 0 fun l => chkP (leR l h) (K (.string (s.extract l.toNat h.toNat))))
    | _, _ => False
def lenP (P : Program) (t : TypeId) (x : Value) (K : Value → Prop) : Prop :=
  match P.underlying t, x with
  | some .string, .string s => K (.int .i64 (s.size : Int))
  | some (.slice _), .slice _ n _ => K (.int .i64 (n : Int))
  | some (.array n _), _ => K (.int .i64 (n : Int))
  | _, _ => False
def capP (P : Program) (t : TypeId) (x : Value) (K : Value → Prop) : Prop :=
  match P.underlying t, x with
  | some (.slice _), .slice _ _ n => K (.int .i64 (n : Int))
  | _, _ => False
def minL (k : IntKind) (x : Int) : List Value → (Value → Prop) → Prop
  | [], K => K (.int k x)
  | .int _ y :: r, K => minL k (if y < x then y else x) r K
  | _ :: _, _ => False
def maxL (k : IntKind) (x : Int) : List Value → (Value → Prop) → Prop
  | [], K => K (.int k x)
  | .int _ y :: r, K => maxL k (if y > x then y else x) r K
  | _ :: _, _ => False
def minP (xs : List Value) (K : Value → Prop) : Prop := match xs with | .int k x :: r => minL k x r K | _ => False
def maxP (xs : List Value) (K : Value → Prop) : Prop := match xs with | .int k x :: r => maxL k x r K | _ => False

/-! literals of structs, arrays, slices -/
def overw (cs : List Value) (off : Nat) (vs : List Value) : List Value := cs.take off ++ (vs ++ cs.drop (off + vs.length))
def fillL (place : Nat → Option (Nat × Nat)) (cells : List Value) : List (Nat × Value) → Option (List Value)
  | [] => some cells
  | (i, v) :: rest =>
    match place i with
    | none => none
    | some (off, size) =>
      if v.cells.toList.length == size && Nat.ble (off + v.cells.toList.length) cells.length then fillL place (overw cells off v.cells.toList) rest else none
def zeroL (P : Program) (t : TypeId) : Option (List Value) := match P.info? t with | some i => (match i.zero with | some z => some z.cells.toList | none => none) | none => none
def placesL (P : Program) : List Field → Nat → Option (Nat × Nat)
  | [], _ => none
  | f :: fs, i => match i with | 0 => some (f.offset, sizeT P f.type) | j + 1 => placesL P fs j
def buildL (P : Program) (t : TypeId) (parts : List (Nat × Value)) : Option (List Value) :=
  match zeroL P t, P.underlying t with
  | some z, some (.struct fs) => if fs.toList.all (fun f => okT P f.type) then fillL (placesL P fs.toList) z parts else none
  | some z, some (.array _ e) => if okT P e then fillL (fun i => some (i * sizeT P e, sizeT P e)) z parts else none
  | _, _ => none
def buildP (P : Program) (t : TypeId) (parts : List (Nat × Value)) (K : Value → Prop) : Prop :=
  match buildL P t parts with | some cs => K (.agg cs.toArray) | none => False
def repeatL (z : List Value) : Nat → List Value
  | 0 => []
  | n + 1 => z ++ repeatL z n
def rowL (P : Program) (e : TypeId) (len : Nat) (parts : List (Nat × Value)) : Option (List Value) :=
  match zeroL P e with
  | some z => if okT P e && z.length == sizeT P e && Nat.ble (len * sizeT P e) 16777216 && Nat.blt 0 (sizeT P e) then fillL (fun i => some (i * sizeT P e, sizeT P e)) (repeatL z len) parts else none
  | none => none

def argV (c : Call) (e : List Value) : List Value := c.args.toList.map (ρ e)
/-- the name by which a function's own table of shapes knows a part of what a temporary holds -/
def partId (x : Operand) (i : Nat) : TypeId := match x with | .tmp t => 1000000 + 8 * t + i | _ => 1000000
def pureOp (P : Program) (sh : TypeId → Sh) (o : Op) (ty : TypeId) (e : List Value) (K : Value → Prop) : Prop :=
  match o with
  | .move x => K (ρ e x)
  | .assign x => K (ρ e x)
  | .pick c a b => match ρ e c with | .bool t => cond' t (K (ρ e a)) (K (ρ e b)) | _ => False
  | .binOp op t x y _ => binP P op t (ρ e x) (ρ e y) K
  | .unOp op _ x => unP op (ρ e x) K
  | .convert s d x => convP P s d (ρ e x) K
  | .field t x i => fieldP P t (ρ e x) i K
  | .index t x ix => indexP P t (ρ e x) (ρ e ix) K
  | .extract x i => match ρ e x with | .tuple vs => nth vs.toList i fun v => (sh (partId x i)).un v fun y => K ((sh (partId x i)).val y) | _ => False
  | .fieldAddr t x i => fieldAddrP P t (ρ e x) i K
  | .indexAddr t x ix => indexAddrP P t (ρ e x) (ρ e ix) K
  | .nilCheck x => match ρ e x with
    | .pointer p => nilP p fun a => K (.pointer (some a))
    | .func (.func f) a b => K (.func (.func f) a b)
    | _ => False
  | .slice t x lo hi mx => sliceP P t (ρ e x) (lo.map (ρ e)) (hi.map (ρ e)) (mx.map (ρ e)) K
  | .makeFunc fn first captured => K (.func fn (first.toList.map (ρ e)).toArray (captured.toList.map (ρ e)).toArray)
  | .makeInterface t x => match okT P t, P.underlying t with | true, some (.interface _) => False | true, _ => K (.iface t (ρ e x)) | false, _ => False
  | .sliceToArrayPointer t x => match P.underlying t, ρ e x with
    | some (.array n _), .slice a len _ => chkP (decide (n ≤ len)) (K (.pointer a))
    | _, _ => False
  | .build t parts => buildP P t (parts.toList.map fun p => (p.1, ρ e p.2)) K
  | .call c => match c.callee with
    | .builtin .len => match argV c e, c.argTypes.toList with | [x], t :: _ => lenP P t x K | _, _ => False
    | .builtin .cap => match argV c e, c.argTypes.toList with | [x], t :: _ => capP P t x K | _, _ => False
    | .builtin .min => minP (argV c e) K
    | .builtin .max => maxP (argV c e) K
    | _ => False
  | _ => False

def aggOk (agg : Bool) (v : Value) (A : Prop) : Prop :=
  match agg, v with
  | true, .agg _ => A
  | false, .agg _ => False
  | true, _ => False
  | false, _ => A
def sloadP (P : Program) (sh : TypeId → Sh) (t : TypeId) (x : Value) (w : World) (K : Value → (World → Prop) → Prop) : Prop :=
  match x with
  | .pointer p => match okT P t with
    | true => nilP p fun a => loadP w a (sizeT P t) (sh t).val fun y => aggOk (isAggT P t) ((sh t).val y) (K ((sh t).val y) fun w' => Holds w' a (sizeT P t) ((sh t).val y))
    | false => False
  | _ => False
def sreadP (P : Program) (s : Sem Value) (h : Sh) (w : World) (K : Value → (World → Prop) → Prop) : Prop :=
  readP P s w h.val fun x => K (h.val x) fun w' => Still P s w' (h.val x)
def readOp (P : Program) (sh : TypeId → Sh) (o : Op) (ty : TypeId) (e : List Value) (w : World) (K : Value → (World → Prop) → Prop) : Prop :=
  match o with
  | .load t x => sloadP P sh t (ρ e x) w K
  | .lookup t x ix ok => sreadP P (Instr.lookup t (ρ e x) (ρ e ix) ok) (sh ty) w K
  | .convert s d x => sreadP P (convert s d (ρ e x)) (sh ty) w K
  | .call c => match c.callee with
    | .builtin .len => sreadP P (Builtin.len_ c.argTypes ty (argV c e).toArray) (sh ty) w K
    | _ => False
  | _ => False

def srunP (P : Program) (s : Sem Value) (h : Sh) (w : World) (K : Value → World → Prop) : Prop := runP P s w h.val fun x w' => K (h.val x) w'
def scallP (P : Program) (f : Value) (args : List Value) (h : Sh) (w : World) (K : Value → World → Prop) : Prop :=
  match f with
  | .func (.func g) first captured => callP P g (first.toList ++ (args ++ captured.toList)).toArray w h.val fun x w' => K (h.val x) w'
  | .func (.yield l) ⟨[]⟩ ⟨[]⟩ => yieldP P l args w h.val fun x w' => K (h.val x) w'
  | _ => False
def newRowP (w : World) (cs : Option (List Value)) (e : TypeId) (len : Nat) (K : Value → World → Prop) : Prop :=
  match cs with
  | some cs => newP w (.cells cs.toArray e) fun b w' => K (.slice (some ⟨b, 0, none⟩) len len) w'
  | none => False
def newCellsP (w : World) (cs : Option (List Value)) (e : TypeId) (K : Value → World → Prop) : Prop :=
  match cs with
  | some cs => newP w (.cells cs.toArray e) fun b w' => K (.pointer (some ⟨b, 0, none⟩)) w'
  | none => False
def builtinSem (b : Builtin) (argTypes : Array TypeId) (ty : TypeId) (args : Array Value) : Option (Sem Value) :=
  match b with
  | .append => some (Builtin.append_ argTypes ty args)
  | .copy => some (Builtin.copy_ argTypes ty args)
  | .delete => some (Builtin.delete_ argTypes ty args)
  | .clear => some (Builtin.clear_ argTypes ty args)
  | _ => none
def effOp (P : Program) (sh : TypeId → Sh) (o : Op) (ty : TypeId) (e : List Value) (w : World) (K : Value → World → Prop) : Prop :=
  match o with
  | .alloc t => newCellsP w (zeroL P t) t K
  | .box t x => newP w (.cells (ρ e x).cells t) fun b w' => K (.pointer (some ⟨b, 0, none⟩)) w'
  | .buildSlice t len parts => match P.underlying t with
    | some (.slice el) => newRowP w (rowL P el len (parts.toList.map fun p => (p.1, ρ e p.2))) el len K
    | _ => False
  | .store t a x => match okT P t, ρ e a with
    | true, .pointer p => nilP p fun a => storeP w a (sizeT P t) (ρ e x) fun w' => K undef w'
    | _, _ => False
  | .makeMap t r => match r, isMap P t with
    | none, true => newP w (.map #[] 0) fun b w' => K (.map (some b)) w'
    | _, _ => False
  | .makeSlice t l c => srunP P (Instr.makeSlice t (ρ e l) (ρ e c)) (sh ty) w K
  | .mapUpdate t m k x => runU P (Instr.mapUpdate t (ρ e m) (ρ e k) (ρ e x)) w fun w' => K undef w'
  | .insert t m k x => runU P (Instr.mapUpdate t (ρ e m) (ρ e k) (ρ e x)) w fun w' => K undef w'
  | .mapEntry t m k => srunP P (Instr.mapEntry t (ρ e m) (ρ e k)) shEnt w K
  | .entryStore t m s x => runU P (Instr.entryStore t (ρ e m) (ρ e s) (ρ e x)) w fun w' => K undef w'
  | .range t x => srunP P (Instr.range t (ρ e x)) shPtr w K
  | .next it s => srunP P (Instr.next (ρ e it) s ty) shNx w K
  | .entry it => srunP P (Instr.entry (ρ e it)) shEnt w K
  | .convert s d x => srunP P (convert s d (ρ e x)) (sh ty) w K
  | .call c => match c.callee with
    | .value f => scallP P (ρ e f) (argV c e) (sh ty) w K
    | .builtin b => match builtinSem b c.argTypes ty (argV c e).toArray with
      | some s => srunP P s (sh ty) w K
      | none => False
    | _ => False
  | _ => False

def opVC (P : Program) (sh : TypeId → Sh) (o : Oper) (e : List Value) (w : World) (K : Value → World → Prop) : Prop :=
  match kind P o.op with
  | .pure => pureOp P sh o.op o.type e fun v => K v w
  | .read => readOp P sh o.op o.type e w fun v _ => K v w
  | .eff => effOp P sh o.op o.type e w K

/-! ### guards, regions -/
def dstOf (ops : List Oper) (j : Nat) : Option Tmp := match ops[j]? with | some o => o.dst | none => none
def guardP (ops : List Oper) (o : Oper) (e : List Value) (A B : List Value → Prop) : Prop :=
  match o.guard with
  | none => A e
  | some (j, want) =>
    match dstOf ops j with
    | none => B e
    | some d =>
      match e.getD d undef with
      | .bool b => cond' b
          (match want with | true => A (e.set d (.bool true)) | false => B (e.set d (.bool true)))
          (match want with | true => B (e.set d (.bool false)) | false => A (e.set d (.bool false)))
      | .tuple _ => B e
      | _ => False
def vcSeq (P : Program) (sh : TypeId → Sh) (ops : List Oper) : List Oper → List Value → World → (List Value → World → Prop) → Prop
  | [], e, w, K => K e w
  | o :: os, e, w, K =>
    guardP ops o e
      (fun e => opVC P sh o e w fun v w' => vcSeq P sh ops os (put e o.dst v) w' K)
      (fun e => vcSeq P sh ops os (put e o.dst undef) w K)

def predMask : List Edge → Nat
  | [] => 0
  | e :: es => if Region.binds .any e then (predMask es) ||| (2 ^ e.on) else predMask es
def closeMask (cl : List Nat) : List Edge → Nat
  | [] => 0
  | e :: es => if Region.binds .any e then (closeMask cl es) ||| (2 ^ e.on ||| cl.getD e.on 0) else closeMask cl es
def closure : List Oper → List Nat → List Nat
  | [], acc => acc
  | o :: os, acc => closure os (acc ++ [closeMask acc o.after.toList])
def readyIn (o : Oper) (done : Nat) : Bool := Nat.beq (Nat.land (predMask o.after.toList) done) (predMask o.after.toList)
abbrev Pend := List (Nat × (World → Prop))
def sweep (P : Program) (sh : TypeId → Sh) (ops : List Oper) (w : World) : List (Oper × Nat) → Nat → List Value → Pend → (Nat → List Value → Pend → Prop) → Prop
  | [], d, e, p, K => K d e p
  | (o, i) :: r, d, e, p, K =>
    match d.testBit i || !(readyIn o d) with
    | true => sweep P sh ops w r d e p K
    | false =>
      match kind P o.op with
      | .pure => guardP ops o e
          (fun e => pureOp P sh o.op o.type e fun v => sweep P sh ops w r (d ||| 2 ^ i) (put e o.dst v) p K)
          (fun e => sweep P sh ops w r (d ||| 2 ^ i) (put e o.dst undef) p K)
      | .read => guardP ops o e
          (fun e => readOp P sh o.op o.type e w fun v φ => sweep P sh ops w r (d ||| 2 ^ i) (put e o.dst v) ((i, φ) :: p) K)
          (fun e => sweep P sh ops w r (d ||| 2 ^ i) (put e o.dst undef) p K)
      | .eff => sweep P sh ops w r d e p K
/-- What was read ahead, and may be read behind the operation with these predecessors, reads the same. -/
def pendP (cl : Nat) (w : World) : Pend → Pend → (Pend → Prop) → Prop
  | [], acc, K => K acc
  | (r, φ) :: p, acc, K =>
    match cl.testBit r with
    | true => pendP cl w p acc K
    | false => φ w ∧ pendP cl w p ((r, φ) :: acc) K
def allReady : List Prop → Prop
  | [] => False
  | [a] => a
  | a :: b :: r => a ∧ allReady (b :: r)
def vcDraw (P : Program) (sh : TypeId → Sh) (ops : List Oper) (cl : List Nat) (K : List Value → World → Prop) : Nat → Nat → List Value → Pend → World → Prop
  | 0, _, _, _, _ => False
  | n + 1, d, e, p, w =>
    sweep P sh ops w ops.zipIdx d e p fun d e p =>
      match Nat.beq d (2 ^ ops.length - 1) with
      | true => K e w
      | false => allReady ((ops.zipIdx.filter fun x => !(d.testBit x.2) && readyIn x.1 d).map fun x =>
          guardP ops x.1 e
            (fun e => effOp P sh x.1.op x.1.type e w fun v w' => pendP (cl.getD x.2 0) w' p [] fun p => vcDraw P sh ops cl K n (d ||| 2 ^ x.2) (put e x.1.dst v) p w')
            (fun e => vcDraw P sh ops cl K n (d ||| 2 ^ x.2) (put e x.1.dst undef) p w))

/-! what a region that draws must be like: temporaries written once, read only behind or ahead of their writing; edges that lead back -/
def tmpsOf (o : Oper) (ops : List Oper) : List Tmp :=
  (o.op.operands.toList.filterMap fun x => match x with | .tmp t => some t | _ => none) ++ (match o.guard with | some (j, _) => (dstOf ops j).toList | none => [])
def drawOk (ops : List Oper) (cl : List Nat) (n : Nat) : Bool :=
  ops.zipIdx.all fun (o, i) =>
    (o.after.toList.all fun e => !(Region.binds .any e) || Nat.blt e.on i) &&
    (match o.op with | .select _ _ => false | _ => true) &&
    (match o.guard with | some (j, _) => (cl.getD i 0).testBit j | none => true) &&
    (match o.dst with
     | some t => Nat.blt t n && (ops.zipIdx.all fun (o', j) => (i == j || o'.dst != some t) && (i == j || !(tmpsOf o' ops).contains t || (cl.getD j 0).testBit i || (cl.getD i 0).testBit j))
     | none => true) &&
    (tmpsOf o ops).all fun t => o.dst != some t

/-! ### code -/
structure Ks where
  nx : List Value → World → Prop
  ex : Nat → List Value → World → Prop
  rt : List Value → World → Prop

abbrev Live := List (Nat × Sh)
def ProdT : Live → Type
  | [] => Unit
  | [(_, s)] => s.α
  | (_, s) :: y :: r => s.α × ProdT (y :: r)
def unAll : (l : Live) → List Value → (ProdT l → Prop) → Prop
  | [], _, K => K ()
  | [(i, s)], e, K => s.un (e.getD i undef) K
  | (i, s) :: y :: r, e, K => s.un (e.getD i undef) fun x => unAll (y :: r) e fun z => K (x, z)
def emb : (l : Live) → ProdT l → List Value → List Value
  | [], _, e => e
  | [(i, s)], x, e => e.set i (s.val x)
  | (i, s) :: y :: r, (x, z), e => emb (y :: r) z (e.set i (s.val x))
def garb (g : Nat → Value) : List Nat → List Value → List Value
  | [], e => e
  | t :: ts, e => garb g ts (e.set t (g t))
def firstId : Code → Nat
  | .region i _ _ => i
  | .seq a _ => firstId a
  | .cond _ a _ => firstId a
  | .block _ a => firstId a
  | .loop a => firstId a
  | _ => 0
def assigned : Code → List Nat
  | .region _ ops _ => ops.toList.filterMap (·.dst)
  | .seq a b => assigned a ++ assigned b
  | .cond _ a b => assigned a ++ assigned b
  | .block _ a => assigned a
  | .loop a => assigned a
  | _ => []
structure Ann where
  loop : Nat → Live
  cut : Nat → Option Live
def liveIn (l : Live) (ts : List Nat) (n : Nat) : Bool := l.all fun x => ts.contains x.1 && Nat.blt x.1 n

def Agree (ts : List Nat) (e e' : List Value) : Prop := e'.length = e.length ∧ ∀ t, t ∉ ts → e'[t]? = e[t]?
def QS (ds : List Deferred) (ts : List Nat) (e : List Value) (k : Ks) : Exit → Act → World → Prop
  | .normal, a, w => a.defers = ds ∧ Agree ts e a.tmps.toList ∧ k.nx a.tmps.toList w
  | .exit i, a, w => a.defers = ds ∧ Agree ts e a.tmps.toList ∧ k.ex i a.tmps.toList w
  | .ret, a, w => a.defers = ds ∧ Agree ts e a.tmps.toList ∧ k.rt a.tmps.toList w
  | _, _, _ => False
structure rawP (P : Program) (c : Code) (e : List Value) (k : Ks) (w : World) : Prop where
  ex : ∀ F n ds, FW F → c.wpIn F n P (QS ds (assigned c) e k) ⟨e.toArray, ds⟩ w

def vcRegion (P : Program) (sh : TypeId → Sh) (ops : List Oper) (draw : Bool) (e : List Value) (w : World) (K : List Value → World → Prop) : Prop :=
  match draw with
  | false => vcSeq P sh ops ops e w K
  | true =>
    match drawOk ops (closure ops []) e.length with
    | true => vcDraw P sh ops (closure ops []) K (ops.length + 1) 0 e [] w.drew
    | false => False

def vcCode (P : Program) (sh : TypeId → Sh) (an : Ann) : Code → Ks → List Value → World → Prop
  | .skip, k, e, w => k.nx e w
  | .region _ ops draw, k, e, w => vcRegion P sh ops.toList draw e w k.nx
  | .seq a b, k, e, w =>
    match an.cut (firstId b) with
    | none => vcCode P sh an a { k with nx := fun e w => vcCode P sh an b k e w } e w
    | some l =>
      match liveIn l (assigned a) e.length with
      | true => cutP (ProdT l) (fun J => vcCode P sh an a { k with nx := fun e' w' => unAll l e' fun s => J s w' } e w)
          (fun g s w' => vcCode P sh an b k (emb l s (garb g (assigned a) e)) w')
      | false => False
  | .cond c a b, k, e, w =>
    match ρ e c with
    | .bool t => cond' t (vcCode P sh an a k e w) (vcCode P sh an b k e w)
    | _ => False
  | .block id a, k, e, w => vcCode P sh an a { nx := k.nx, ex := fun i e w => match Nat.beq i id with | true => k.nx e w | false => k.ex i e w, rt := k.rt } e w
  | .loop a, k, e, w =>
    match liveIn (an.loop (firstId a)) (assigned a) e.length with
    | true => unAll (an.loop (firstId a)) e fun s₀ => loopP (ProdT (an.loop (firstId a))) s₀ w fun next g s w =>
        vcCode P sh an a { nx := fun e' w' => unAll (an.loop (firstId a)) e' fun s' => next s' w', ex := k.ex, rt := k.rt } (emb (an.loop (firstId a)) s (garb g (assigned a) e)) w
    | false => False
  | .exit id, k, e, w => k.ex id e w
  | .ret, k, e, w => k.rt e w
  | c, k, e, w => rawP P c e k w

/-! ### range over a function, outside of all loops -/
def hasRange : Code → Bool
  | .rangeFunc _ _ _ _ => true
  | .seq a b => hasRange a || hasRange b
  | .cond _ a b => hasRange a || hasRange b
  | .block _ a => hasRange a
  | .loop a => hasRange a
  | .scope a => hasRange a
  | _ => false
structure Kt where
  nx : List Nat → List Value → World → Prop
  ex : Nat → List Nat → List Value → World → Prop
  rt : List Nat → List Value → World → Prop
def Kt.at (k : Kt) (ds : List Nat) : Ks := ⟨k.nx ds, fun i => k.ex i ds, k.rt ds⟩
def vals : (l : Live) → ProdT l → List Value
  | [], _ => []
  | [(_, s)], x => [s.val x]
  | (_, s) :: y :: r, (x, z) => s.val x :: vals (y :: r) z
def listEq : List Nat → List Nat → Bool
  | [], [] => true
  | a :: l, b :: m => match Nat.beq a b with | true => listEq l m | false => false
  | _, _ => false
def bodyP (P : Program) (sh : TypeId → Sh) (an : Ann) (as b : Code) (e : List Value) (L : Nat) (w : World) (J : World → Prop) : Prop :=
  vcCode P sh an as
    { nx := fun e1 w1 => begP P L w1 fun w2 => vcCode P sh an b { nx := fun _ w3 => J w3, ex := fun _ _ _ => False, rt := fun _ _ => False } e1 w2, ex := fun _ _ _ => False, rt := fun _ _ => False }
    e w
def vcTop (P : Program) (sh : TypeId → Sh) (an : Ann) : Code → Kt → List Nat → List Value → World → Prop
  | .seq a b, k, ds, e, w =>
    match hasRange a, hasRange b with
    | false, false => vcCode P sh an (.seq a b) (k.at ds) e w
    | true, _ => vcTop P sh an a { k with nx := fun ds e w => vcTop P sh an b k ds e w } ds e w
    | false, true =>
      match an.cut (firstId b) with
      | none => vcCode P sh an a { k.at ds with nx := fun e w => vcTop P sh an b k ds e w } e w
      | some l =>
        match liveIn l (assigned a) e.length with
        | true => cutP (ProdT l) (fun J => vcCode P sh an a { k.at ds with nx := fun e' w' => unAll l e' fun s => J s w' } e w)
            (fun g s w' => vcTop P sh an b k ds (emb l s (garb g (assigned a) e)) w')
        | false => False
  | .block id a, k, ds, e, w =>
    match hasRange a with
    | false => vcCode P sh an (.block id a) (k.at ds) e w
    | true => vcTop P sh an a { nx := k.nx, ex := fun i ds e w => match Nat.beq i id with | true => k.nx ds e w | false => k.ex i ds e w, rt := k.rt } ds e w
  | .rangeFunc f ps as b, k, ds, e, w => match listEq ((an.loop (firstId b)).map (·.1)) ps.toList with
    | true => rangeP P (ρ e f) (vals (an.loop (firstId b))) (fun L x w J => bodyP P sh an as b (emb (an.loop (firstId b)) x e) L w J) w fun D w' => k.nx (D :: ds) e w'
    | false => False
  | c, k, ds, e, w => match hasRange c with | false => vcCode P sh an c (k.at ds) e w | true => False
def leaveAll (P : Program) : List Nat → World → (World → Prop) → Prop
  | [], w, K => K w
  | D :: ds, w, K => leaveP P D w fun w' => leaveAll P ds w' K

/-! ### functions -/
def resL (P : Program) (sh : TypeId → Sh) : List ResultVar → List Value → World → (List Value → Prop) → Prop
  | [], _, _, K => K []
  | .tmp t :: r, e, w, K => resL P sh r e w fun vs => K (e.getD t undef :: vs)
  | .cell a t :: r, e, w, K => sloadP P sh t (e.getD a undef) w fun v _ => resL P sh r e w fun vs => K (v :: vs)
def tupV : List Value → Value
  | [v] => v
  | vs => .tuple vs.toArray
def vcFn (P : Program) (sh : TypeId → Sh) (an : Ann) (fn : Func) (args : List Value) (res : Sh) (w : World) (R : res.α → World → Prop) : Prop :=
  match fn.body with
  | some c =>
    let fin : List Nat → List Value → World → Prop := fun ds e w => leaveAll P ds w fun w => resL P sh fn.results.toList e w fun vs => res.un (tupV vs) fun x => R x w
    vcTop P sh an c { nx := fin, ex := fun _ _ _ _ => False, rt := fin } [] (args ++ List.replicate (fn.ntmps - args.length) undef) w
  | none => False

attribute [irreducible] vcFn
end Go.Vc

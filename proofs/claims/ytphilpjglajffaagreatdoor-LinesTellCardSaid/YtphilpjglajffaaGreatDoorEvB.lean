/- An evaluator of the program's code over a memory of numbered blocks: one order, no draws; where it cannot tell what every run gives it gives nothing. Definitions only. -/
import Derived.Test.YtphilpjglajffaaGreatDoorEvA
import Derived.Laws.Tables
namespace Go.Ev

/-- what a block holds, as far as it is known: the first cells of a row (fixed, or of a row with room that is not known), an iterator over a text; or nothing is known any more -/
inductive AO where
  | cells (c : List Value) (elem : TypeId)
  | grow (c : List Value) (elem : TypeId)
  | iter (s : ByteArray) (pos : Nat)
  | dead

structure H where
  t : T AO
  nx : Nat

structure St where
  fr : T Value
  nt : Nat
  h : H

noncomputable def H.get (h : H) (b : Nat) : Option AO := h.t.get b
noncomputable def H.put (h : H) (b : Nat) (o : AO) : H := { h with t := T.put K h.t b o }

noncomputable def opd (fr : T Value) : Operand → Value
  | .tmp t => match fr.get t with | some v => v | none => undef
  | .const v => v
  | .global g => .pointer (some ⟨g, 0, none⟩)
  | .func f => .func (.func f) #[] #[]

noncomputable def flat (v : Value) : Bool := flatN 5 v

/-- what a computation gives that asks neither memory nor the tape -/
noncomputable def pureRun {α : Type} (P : Program) : Sem α → Option α
  | .pure a => some a
  | .program k => pureRun P (k P)
  | .mark _ k => pureRun P k
  | _ => none

noncomputable def isAggT (P : Program) (t : TypeId) : Option Bool :=
  match P.underlying t with
  | some (.struct _) => some true
  | some (.array _ _) => some true
  | some _ => some false
  | none => none

noncomputable def szOf (P : Program) (t : TypeId) : Option Nat := (P.info? t).map (·.size)

noncomputable def cellsV : Value → List Value
  | .agg cs => cs.toList
  | v => [v]

noncomputable def rowOf (h : H) (b : Nat) : Option (List Value × TypeId) :=
  match h.get b with
  | some (.cells c e) => some (c, e)
  | some (.grow c e) => some (c, e)
  | _ => none

/-- n cells from an address on -/
noncomputable def ldN (h : H) (a : Addr) (n : Nat) : Option (List Value) :=
  match a.spot with
  | some _ => none
  | none => match rowOf h a.block with
    | some (c, _) => match Nat.ble (a.off + n) c.length with
      | true => some ((c.drop a.off).take n)
      | false => none
    | none => none

noncomputable def evLoad (P : Program) (h : H) (t : TypeId) (a : Addr) : Option Value :=
  match isAggT P t with
  | some true => match szOf P t with
    | some n => match ldN h a n with
      | some l => some (.agg ⟨l⟩)
      | none => none
    | none => none
  | some false => match ldN h a 1 with
    | some [v] => some v
    | _ => none
  | none => none

/-- one cell's value -/
noncomputable def one : Value → Bool
  | .agg _ => false
  | .tuple _ => false
  | _ => true

noncomputable def splice (c : List Value) (off : Nat) (l : List Value) : List Value := c.take off ++ (l ++ c.drop (off + l.length))

/-- cells written from an address on, into a block of the run's own -/
noncomputable def stN (ro : Nat) (h : H) (a : Addr) (l : List Value) : Option H :=
  match a.spot, Nat.ble ro a.block, l.all one with
  | none, true, true => match h.get a.block with
    | some (.cells c e) => match Nat.ble (a.off + l.length) c.length with
      | true => some (h.put a.block (.cells (splice c a.off l) e))
      | false => none
    | some (.grow c e) => match Nat.ble (a.off + l.length) c.length with
      | true => some (h.put a.block (.grow (splice c a.off l) e))
      | false => none
    | _ => none
  | _, _, _ => none

noncomputable def evStore (P : Program) (ro : Nat) (h : H) (t : TypeId) (a : Addr) (v : Value) : Option H :=
  match szOf P t with
  | some n => match Nat.beq (cellsV v).length n with
    | true => stN ro h a (cellsV v)
    | false => none
  | none => none

noncomputable def partOf (P : Program) (t : TypeId) (cs : List Value) (off : Nat) : Option Value :=
  match isAggT P t with
  | some true => match szOf P t with
    | some n => some (.agg ⟨(cs.drop off).take n⟩)
    | none => none
  | some false => match cs.drop off with
    | v :: _ => some v
    | [] => none
  | none => none

/-- a bound: an integer from 0 to y -/
noncomputable def bnd (y : Nat) : Option Value → Nat → Option Nat
  | none, d => some d
  | some (.int _ (.ofNat n)), _ => match Nat.ble n y with
    | true => some n
    | false => none
  | some _, _ => none

noncomputable def evSlice (P : Program) (h : H) (t : TypeId) (x : Value) (lo hi mx : Option Value) : Option Value :=
  match mx, P.underlying t, x with
  | none, some (.array n e), .pointer (some a) => match szOf P e, bnd n hi n, Nat.blt n BIG with
    | some size, some b, true => match bnd b lo 0 with
      | some l => some (.slice (some (if n = l then a else a.add (l * size))) (b - l) (n - l))
      | none => none
    | _, _, _ => none
  | none, some (.slice e), .slice (some a) len cap => match szOf P e with
    | none => none
    | some size => match Nat.blt cap BIG with
      | true => match bnd cap hi len with
        | some b => match bnd b lo 0 with
          | some l => some (.slice (some (if cap = l then a else a.add (l * size))) (b - l) (cap - l))
          | none => none
        | none => none
      | false => match h.get a.block, bnd len hi len with
        | some (.grow c e'), some b => match bnd b lo 0 with
          | some l =>
            -- the row has more than is cut off
            match Nat.beq e e', Nat.ble ((cap - BIG) * size + len * size) c.length, (Nat.beq l 0 || Nat.blt ((cap - BIG) * size + l * size) c.length) with
            | true, true, true => some (.slice (some (a.add (l * size))) (b - l) (cap + l))
            | _, _, _ => none
          | none => none
        | _, _ => none
  | _, _, _ => none

noncomputable def zerosOf (P : Program) (e : TypeId) (n : Nat) : Option (List Value) :=
  match P.info? e with
  | some i => match i.zero with
    | some z => match flat z, Nat.beq (cellsV z).length i.size, Nat.blt n BIG with
      | true, true, true => some (List.flatten (List.replicate n (cellsV z)))
      | _, _, _ => none
    | none => none
  | none => none

noncomputable def byteOf : Value → Option UInt8
  | .int .u8 n => some (UInt8.ofNat n.toNat)
  | _ => none

noncomputable def bytesOf : List Value → Option (List UInt8)
  | [] => some []
  | v :: l => match byteOf v, bytesOf l with
    | some b, some r => some (b :: r)
    | _, _ => none

noncomputable def bytesV (s : ByteArray) : List Value := s.data.toList.map fun b => .int .u8 b.toNat

/-- an operation on values without addresses -/
noncomputable def evFlat (P : Program) (o : Oper) (ρ : Operand → Value) : Option Value :=
  match o.op.operands.toList.all (fun x => flat (ρ x)) with
  | true => match pureRun P (execOp ρ o) with
    | some (.value v) => match flat v with
      | true => some v
      | false => none
    | _ => none
  | false => none

/-- '==' where an address is on one side, nil on the other; or one address on both -/
noncomputable def evEq (P : Program) (t : TypeId) (x y : Value) : Option Bool :=
  match P.underlying t, x, y with
  | some (.pointer _), .pointer (some _), .pointer none => some false
  | some (.pointer _), .pointer none, .pointer (some _) => some false
  | some (.slice _), .slice (some _) _ _, .slice none _ _ => some false
  | some (.slice _), .slice none _ _, .slice (some _) _ _ => some false
  | some (.func ..), .func .., .nilFunc => some false
  | some (.func ..), .nilFunc, .func .. => some false
  | some (.interface _), .iface .., .nilIface => some false
  | some (.interface _), .nilIface, .iface .. => some false
  | _, _, _ => none

/-- how many bits a number of a kind has that isn't negative -/
noncomputable def mbits : IntKind → Nat
  | .i8 => 7
  | .u8 => 8
  | .i16 => 15
  | .u16 => 16
  | .i32 => 31
  | .u32 => 32
  | .i64 => 63
  | .u64 => 64

noncomputable def bitOp (k : IntKind) (f : Nat → Nat → Nat) (a b : Int) : Option Value :=
  match a, b with
  | .ofNat x, .ofNat y => match Nat.blt x (2 ^ mbits k), Nat.blt y (2 ^ mbits k) with
    | true, true => some (.int k (.ofNat (f x y)))
    | _, _ => none
  | _, _ => none

/-- two integers of one kind -/
noncomputable def intOp (op : BinOp) (k : IntKind) (a b : Int) : Option Value :=
  match op with
  | .add => some (.int k (k.wrap (a + b)))
  | .sub => some (.int k (k.wrap (a - b)))
  | .mul => some (.int k (k.wrap (a * b)))
  | .eql => some (.bool (a == b))
  | .neq => some (.bool (a != b))
  | .lss => some (.bool (a < b))
  | .leq => some (.bool (a ≤ b))
  | .gtr => some (.bool (a > b))
  | .geq => some (.bool (a ≥ b))
  | .quo => match b with
    | .ofNat (n + 1) => some (.int k (k.wrap (a.tdiv (.ofNat (n + 1)))))
    | _ => none
  | .rem => match b with
    | .ofNat (n + 1) => some (.int k (a.tmod (.ofNat (n + 1))))
    | _ => none
  | .and => bitOp k Nat.land a b
  | .or => bitOp k Nat.lor a b
  | .xor => bitOp k Nat.xor a b
  | _ => none

noncomputable def shl1 (k : IntKind) (a b : Int) : Option Value :=
  match a, b with
  | .ofNat x, .ofNat n => match Nat.ble n k.bits with
    | true => some (.int k (k.wrap (.ofNat (x * 2 ^ n))))
    | false => none
  | _, _ => none

noncomputable def shr1 (k : IntKind) (a b : Int) : Option Value :=
  match a, b with
  | .ofNat x, .ofNat n => match Nat.ble n k.bits with
    | true => some (.int k (.ofNat (x / 2 ^ n)))
    | false => none
  | _, _ => none

noncomputable def shOp (op : BinOp) (k : IntKind) (a b : Int) : Option Value :=
  match op with
  | .shl => shl1 k a b
  | .shr => shr1 k a b
  | _ => none

noncomputable def eqL : List UInt8 → List UInt8 → Bool
  | [], [] => true
  | a :: x, b :: y => match Nat.beq a.toNat b.toNat with
    | true => eqL x y
    | false => false
  | _, _ => false

noncomputable def strOp (op : BinOp) (a b : ByteArray) : Option Value :=
  match op with
  | .add => match Nat.ble (a.size + b.size) 1073741824 with
    | true => some (.string ⟨⟨a.data.toList ++ b.data.toList⟩⟩)
    | false => none
  | .eql => some (.bool (eqL a.data.toList b.data.toList))
  | .neq => some (.bool (!eqL a.data.toList b.data.toList))
  | _ => none

abbrev NE := Option (Value × Option AO)

noncomputable def val1 : Option Value → NE
  | some v => some (v, none)
  | none => none

noncomputable def neFlat (P : Program) (o : Oper) (ρ : Operand → Value) : NE := val1 (evFlat P o ρ)

noncomputable def nePick (c a b : Value) : NE :=
  match c with
  | .bool true => some (a, none)
  | .bool false => some (b, none)
  | _ => none

noncomputable def neAlloc (P : Program) (nm e : Nat) : NE :=
  match P.info? e with
  | some i => match i.zero with
    | some z => match flat z with
      | true => some (.pointer (some ⟨nm, 0, none⟩), some (.cells (cellsV z) e))
      | false => none
    | none => none
  | none => none

noncomputable def neBuild (P : Program) (t : TypeId) (ps : List (Nat × Value)) : NE :=
  match P.info? t with
  | some i => match i.zero with
    | some z => match flat z, P.built t ps with
      | true, some cs => some (.agg cs, none)
      | _, _ => none
    | none => none
  | none => none

noncomputable def neBuildSlice (P : Program) (nm : Nat) (t : TypeId) (len : Nat) (ps : List (Nat × Value)) : NE :=
  match P.underlying t with
  | some (.slice e) => match P.info? e, zerosOf P e len with
    | some i, some zs => match Nat.ble (len * i.size) 65536 with
      | true => match Instr.fill (fun j => some (j * i.size, i.size)) ⟨zs⟩ ps with
        | some cs => some (.slice (some ⟨nm, 0, none⟩) len len, some (.cells cs.toList e))
        | none => none
      | _ => none
    | _, _ => none
  | _ => none

noncomputable def neLoad (P : Program) (h : H) (t : TypeId) (a : Value) : NE :=
  match a with
  | .pointer (some a) => val1 (evLoad P h t a)
  | _ => none

noncomputable def neNil (x : Value) : NE :=
  match x with
  | .pointer (some a) => some (.pointer (some a), none)
  | .func (.func f) a b => some (.func (.func f) a b, none)
  | .iface t v => some (.iface t v, none)
  | _ => none

noncomputable def neEq (P : Program) (op : BinOp) (t : TypeId) (x y : Value) : NE :=
  match op, evEq P t x y with
  | .eql, some b => some (.bool b, none)
  | .neq, some b => some (.bool (!b), none)
  | _, _ => none

noncomputable def neBin2 (P : Program) (o : Oper) (ρ : Operand → Value) (op : BinOp) (t : TypeId) (x y : Value) : NE :=
  match flat x && flat y with
  | true => neFlat P o ρ
  | false => neEq P op t x y

noncomputable def neBin (P : Program) (o : Oper) (ρ : Operand → Value) (op : BinOp) (t : TypeId) (x y : Value) : NE :=
  match x, y with
  | .int k a, .int l b => match shOp op k a b with
    | some v => some (v, none)
    | none => match decide (k = l), intOp op k a b with
      | true, some v => some (v, none)
      | _, _ => neFlat P o ρ
  | .string a, .string b => match strOp op a b with
    | some v => some (v, none)
    | none => neFlat P o ρ
  | x, y => neBin2 P o ρ op t x y

noncomputable def neConvS (P : Program) (nm e : Nat) (s : ByteArray) : NE :=
  match P.underlying e, szOf P e with
  | some (.int .u8), some 1 => match Nat.ble s.size 1048576 with
    | true => some (.slice (some ⟨nm, 0, none⟩) s.size BIG, some (.grow (bytesV s) e))
    | false => none
  | _, _ => none

noncomputable def neConvB (P : Program) (h : H) (e : Nat) (a : Addr) (len : Nat) : NE :=
  match P.underlying e, ldN h a len with
  | some (.int .u8), some l => match bytesOf l with
    | some bs => some (.string ⟨⟨bs⟩⟩, none)
    | none => none
  | _, _ => none

noncomputable def neConv (P : Program) (nm : Nat) (h : H) (o : Oper) (ρ : Operand → Value) (src dst : TypeId) (x : Value) : NE :=
  match P.underlying src, P.underlying dst, x with
  | some .string, some (.slice e), .string s => neConvS P nm e s
  | some (.slice e), some .string, .slice (some a) len _ => neConvB P h e a len
  | some (.int _), some (.int k), .int _ n => some (.int k (k.wrap n), none)
  | _, _, _ => neFlat P o ρ

noncomputable def neS2A (P : Program) (arr : TypeId) (x : Value) : NE :=
  match P.underlying arr, x with
  | some (.array n _), .slice (some a) len _ => match Nat.ble n len with
    | true => some (.pointer (some a), none)
    | false => none
  | _, _ => none

noncomputable def neIface (P : Program) (t : TypeId) (x : Value) : NE :=
  match P.underlying t with
  | some (.interface _) => none
  | some _ => some (.iface t x, none)
  | none => none

noncomputable def neMake (P : Program) (nm : Nat) (t : TypeId) (l c : Value) : NE :=
  match P.underlying t, l, c with
  | some (.slice e), .int _ (.ofNat n), .int _ (.ofNat m) => match zerosOf P e m, P.info? e, Nat.ble n m, Nat.ble m 1048576 with
    | some zs, some i, true, true => match Nat.ble i.bytes 65536 with
      | true => some (.slice (some ⟨nm, 0, none⟩) n m, some (.cells zs e))
      | false => none
    | _, _, _, _ => none
  | _, _, _ => none

noncomputable def neUn (P : Program) (o : Oper) (ρ : Operand → Value) (op : UnOp) (x : Value) : NE :=
  match op, x with
  | .not, .bool b => some (.bool (!b), none)
  | _, _ => neFlat P o ρ

noncomputable def neSliceS (s : ByteArray) (lo hi : Option Value) : NE :=
  match bnd s.size hi s.size with
  | some h => match bnd h lo 0 with
    | some l => some (.string ⟨⟨(s.data.toList.drop l).take (h - l)⟩⟩, none)
    | none => none
  | none => none

noncomputable def neSlice (P : Program) (h : H) (o : Oper) (ρ : Operand → Value) (t : TypeId) (x : Value) (lo hi mx : Option Value) : NE :=
  match x with
  | .string s => match mx, P.underlying t with
    | none, some .string => neSliceS s lo hi
    | _, _ => none
  | .slice none _ _ => neFlat P o ρ
  | x => val1 (evSlice P h t x lo hi mx)

noncomputable def neFieldAddr (P : Program) (s : TypeId) (x : Value) (j : Nat) : NE :=
  match P.underlying s, x with
  | some (.struct fs), .pointer (some a) => match fs[j]? with
    | some f => match szOf P f.type with
      | some (_ + 1) => some (.pointer (some (a.add f.offset)), none)
      | _ => none
    | none => none
  | _, _ => none

noncomputable def neField (P : Program) (t : TypeId) (x : Value) (j : Nat) : NE :=
  match P.underlying t, x with
  | some (.struct fs), .agg cs => match fs[j]? with
    | some f => val1 (partOf P f.type cs.toList f.offset)
    | none => none
  | _, _ => none

noncomputable def neIndexAddr (P : Program) (t : TypeId) (x i : Value) : NE :=
  match P.underlying t, x, i with
  | some (.array n e), .pointer (some a), .int _ (.ofNat k) => match Nat.blt k n, szOf P e with
    | true, some sz => some (.pointer (some (a.add (k * sz))), none)
    | _, _ => none
  | some (.slice e), .slice (some a) len _, .int _ (.ofNat k) => match Nat.blt k len, szOf P e with
    | true, some sz => some (.pointer (some (a.add (k * sz))), none)
    | _, _ => none
  | _, _, _ => none

noncomputable def neIndex (P : Program) (o : Oper) (ρ : Operand → Value) (t : TypeId) (x i : Value) : NE :=
  match x with
  | .agg cs => match P.underlying t, i with
    | some (.array n e), .int _ (.ofNat k) => match Nat.blt k n, szOf P e with
      | true, some sz => val1 (partOf P e cs.toList (k * sz))
      | _, _ => none
    | _, _ => none
  | .string s => match P.underlying t, i with
    | some .string, .int _ (.ofNat k) => match s.data.toList.drop k with
      | b :: _ => some (.int .u8 b.toNat, none)
      | [] => none
    | _, _ => none
  | _ => neFlat P o ρ

noncomputable def neExtract (x : Value) (i : Nat) : NE :=
  match x with
  | .tuple vs => match vs.toList.drop i with
    | v :: _ => some (v, none)
    | [] => none
  | _ => none

noncomputable def neRange (P : Program) (nm : Nat) (t : TypeId) (x : Value) : NE :=
  match P.underlying t, x with
  | some .string, .string s => some (.pointer (some ⟨nm, 0, none⟩), some (.iter s 0))
  | _, _ => none

noncomputable def neLen (P : Program) (o : Oper) (ρ : Operand → Value) (args : List Operand) (ts : List TypeId) : NE :=
  match args, ts with
  | x :: _, t :: _ => match P.underlying t, ρ x with
    | some (.slice _), .slice (some _) n _ => some (.int .i64 n, none)
    | some .string, .string s => some (.int .i64 s.size, none)
    | some (.array n _), _ => some (.int .i64 n, none)
    | _, _ => neFlat P o ρ
  | _, _ => none

noncomputable def neCap (P : Program) (o : Oper) (ρ : Operand → Value) (args : List Operand) (ts : List TypeId) : NE :=
  match args, ts with
  | x :: _, t :: _ => match P.underlying t, ρ x with
    | some (.slice _), .slice (some _) _ n => match Nat.blt n BIG with
      | true => some (.int .i64 n, none)
      | false => none
    | _, _ => neFlat P o ρ
  | _, _ => none

noncomputable def neCall (P : Program) (o : Oper) (ρ : Operand → Value) (c : Call) : NE :=
  match c.callee with
  | .builtin .len => neLen P o ρ c.args.toList c.argTypes.toList
  | .builtin .cap => neCap P o ρ c.args.toList c.argTypes.toList
  | _ => neFlat P o ρ

/-- an operation that writes nothing and runs no code: its value, and what stands in the block that it makes (number nm) -/
noncomputable def evNE (P : Program) (nm : Nat) (h : H) (o : Oper) (ρ : Operand → Value) : NE :=
  match o.op with
  | .move x => some (ρ x, none)
  | .assign x => some (ρ x, none)
  | .pick c a b => nePick (ρ c) (ρ a) (ρ b)
  | .alloc e => neAlloc P nm e
  | .box e x => some (.pointer (some ⟨nm, 0, none⟩), some (.cells (cellsV (ρ x)) e))
  | .build t ps => neBuild P t (ps.toList.map fun (j, x) => (j, ρ x))
  | .buildSlice t len ps => neBuildSlice P nm t len (ps.toList.map fun (j, x) => (j, ρ x))
  | .load t a => neLoad P h t (ρ a)
  | .nilCheck x => neNil (ρ x)
  | .binOp op t x y _ => neBin P o ρ op t (ρ x) (ρ y)
  | .unOp op _ x => neUn P o ρ op (ρ x)
  | .convert src dst x => neConv P nm h o ρ src dst (ρ x)
  | .sliceToArrayPointer arr x => neS2A P arr (ρ x)
  | .makeInterface t x => neIface P t (ρ x)
  | .makeFunc fn a b => some (.func fn (a.map ρ) (b.map ρ), none)
  | .makeSlice t l c => neMake P nm t (ρ l) (ρ c)
  | .slice t x lo hi mx => neSlice P h o ρ t (ρ x) (lo.map ρ) (hi.map ρ) (mx.map ρ)
  | .fieldAddr s x j => neFieldAddr P s (ρ x) j
  | .field t x j => neField P t (ρ x) j
  | .indexAddr t x i => neIndexAddr P t (ρ x) (ρ i)
  | .index t x i => neIndex P o ρ t (ρ x) (ρ i)
  | .extract t i => neExtract (ρ t) i
  | .range t x => neRange P nm t (ρ x)
  | .call c => neCall P o ρ c
  | _ => neFlat P o ρ

/-- the appended cells -/
noncomputable def srcOf (h : H) (size : Nat) : Value → Option (Nat × List Value)
  | .slice none 0 _ => some (0, [])
  | .slice (some a) n _ => match ldN h a (n * size) with
    | some l => some (n, l)
    | none => none
  | .string s => some (s.size, bytesV s)
  | _ => none

noncomputable def zOk (i : TypeInfo) : Bool :=
  match i.zero with
  | some z => Nat.beq (cellsV z).length i.size && flat z
  | none => false

noncomputable def apOk (h : H) (i : TypeInfo) (n : Nat) (new : List Value) : Bool :=
  Nat.blt h.nx LIM && (Nat.ble i.bytes 65536 && (zOk i && (Nat.beq new.length (n * i.size) && (Nat.ble n 1048576 && (Nat.blt 0 i.size && new.all one)))))

/-- a new row, with room that is not known -/
noncomputable def apNew (h : H) (e : TypeId) (n : Nat) (cs : List Value) : Option (Value × H) :=
  some (.slice (some ⟨h.nx, 0, none⟩) n BIG, { h.put h.nx (.grow cs e) with nx := h.nx + 1 })

noncomputable def apKnown (ro : Nat) (h : H) (e : TypeId) (size n : Nat) (new : List Value) (a : Addr) (len cap : Nat) : Option (Value × H) :=
  match Nat.ble (len + n) cap with
  | true => match stN ro h (a.add (len * size)) new with
    | some h' => some (.slice (some a) (len + n) cap, h')
    | none => none
  | false => match ldN h a (len * size), Nat.ble len cap with
    | some old, true => apNew h e (len + n) (old ++ new)
    | _, _ => none

noncomputable def apBig (ro : Nat) (h : H) (e : TypeId) (size n : Nat) (new : List Value) (a : Addr) (len cap : Nat) : Option (Value × H) :=
  match h.get a.block, a.spot with
  | some (.grow c e'), none => match Nat.beq e e' && (Nat.ble c.length 1048576 && Nat.ble ((cap - BIG) * size + len * size) c.length) with
    | true => match n with
      | 0 => some (.slice (some a) len cap, h)
      | _ + 1 => match Nat.beq a.off 0 && (Nat.beq cap BIG && Nat.ble ro a.block) with
        | true => some (.slice (some ⟨h.nx, 0, none⟩) (len + n) BIG, { (h.put h.nx (.grow (c.take (len * size) ++ new) e)).put a.block .dead with nx := h.nx + 1 })
        | false => none
    | false => none
  | _, _ => none

noncomputable def apGo (ro : Nat) (h : H) (e : TypeId) (size n : Nat) (new : List Value) (s : Value) : Option (Value × H) :=
  match s with
  | .slice none 0 0 => match n with
    | 0 => some (.slice none 0 0, h)
    | _ + 1 => apNew h e n new
  | .slice (some a) len cap => match Nat.ble len 1048576, Nat.blt cap BIG with
    | true, true => apKnown ro h e size n new a len cap
    | true, false => apBig ro h e size n new a len cap
    | _, _ => none
  | _ => none

noncomputable def evAppend (P : Program) (ro : Nat) (h : H) (ts : List TypeId) (args : List Value) : Option (Value × H) :=
  match ts, args with
  | st :: xt :: _, s :: x :: _ => match P.underlying st, P.underlying xt with
    | some (.slice _), some (.int _) => none
    | some (.slice e), some _ => match P.info? e with
      | some i => match srcOf h i.size x with
        | some (n, new) => match apOk h i n new with
          | true => apGo ro h e i.size n new s
          | false => none
        | none => none
      | none => none
    | _, _ => none
  | _, _ => none

noncomputable def cpGo (ro : Nat) (h : H) (size : Nat) (a : Addr) (dl : Nat) (x : Value) : Option (Value × H) :=
  match x with
  | .slice (some b) n _ => match ldN h b (Nat.min n dl * size) with
    | some l => match stN ro h a l with
      | some h' => some (.int .i64 (Nat.min n dl : Nat), h')
      | none => none
    | none => none
  | .string s => match stN ro h a ((bytesV s).take (Nat.min s.size dl)) with
    | some h' => some (.int .i64 (Nat.min s.size dl : Nat), h')
    | none => none
  | _ => none

noncomputable def evCopy (P : Program) (ro : Nat) (h : H) (ts : List TypeId) (args : List Value) : Option (Value × H) :=
  match ts, args with
  | dt :: _, d :: x :: _ => match P.underlying dt with
    | some (.slice e) => match szOf P e, d with
      | some size, .slice (some a) dl _ => cpGo ro h size a dl x
      | _, _ => none
    | _ => none
  | _, _ => none

noncomputable def effStore (P : Program) (ro : Nat) (h : H) (t : TypeId) (a x : Value) : Option (Value × H) :=
  match a with
  | .pointer (some a) => match evStore P ro h t a x with
    | some h' => some (undef, h')
    | none => none
  | _ => none

noncomputable def effNext (ro : Nat) (h : H) (it : Value) : Option (Value × H) :=
  match it with
  | .pointer (some ⟨b, 0, none⟩) => match Nat.ble ro b, h.get b with
    | true, some (.iter s pos) => match Nat.blt pos s.size with
      | true => some (.tuple #[.bool true, .int .i64 pos, .int .i32 (Utf8.decode s pos).1], h.put b (.iter s (pos + (Utf8.decode s pos).2)))
      | false => some (.tuple #[.bool false], h)
    | _, _ => none
  | _ => none

noncomputable def effUStr (P : Program) (ro : Nat) (h : H) (ts : List TypeId) (args : List Value) : Option (Value × H) :=
  match ts, args with
  | pt :: _, [.pointer (some a), .int _ (.ofNat (n + 1))] => match P.underlying pt, h.get a.block, ldN h a (n + 1) with
    | some (.pointer e'), some (.cells c e), some l => match liesAt P P.depth e (c.length / P.cellsOf e) a.off e' (n + 1), bytesOf l, Nat.ble ro a.block, Nat.ble n 1048576 with
      | true, some bs, true, true => some (.string ⟨⟨bs⟩⟩, h.put a.block .dead)
      | _, _, _, _ => none
    | _, _, _ => none
  | _, _ => none

noncomputable def effCall (P : Program) (call : FuncId → List Value → H → Option (Value × H)) (h : H) (o : Oper) (ρ : Operand → Value) (x : Value) (args : List Value) : Option (Value × H) :=
  match x with
  | .func (.func f) first cap => match P.funcs[f]? with
    | some fn => match fn.body with
      | some _ => match fn.name == "runtime.NumGoroutine" with
        | true => none
        | false => call f (first.toList ++ (args ++ cap.toList)) h
      | none => match evFlat P o ρ with
        | some v => some (v, h)
        | none => none
    | none => none
  | _ => none

/-- an operation that writes, or runs code -/
noncomputable def evEff (P : Program) (ro : Nat) (call : FuncId → List Value → H → Option (Value × H)) (h : H) (o : Oper) (ρ : Operand → Value) : Option (Value × H) :=
  match o.op with
  | .store t a x => effStore P ro h t (ρ a) (ρ x)
  | .next it true => effNext ro h (ρ it)
  | .call c => match c.callee with
    | .builtin .append => evAppend P ro h c.argTypes.toList (c.args.toList.map ρ)
    | .builtin .copy => evCopy P ro h c.argTypes.toList (c.args.toList.map ρ)
    | .builtin .unsafeString => effUStr P ro h c.argTypes.toList (c.args.toList.map ρ)
    | .value x => effCall P call h o ρ (ρ x) (c.args.toList.map ρ)
    | _ => none
  | _ => none

/-- 0: of values alone; 1: reads; 2: makes a block; 3: writes, or runs code -/
noncomputable def cls (P : Program) (o : Oper) : Nat :=
  match o.op with
  | .load .. | .slice .. => 1
  | .alloc _ | .box .. | .buildSlice .. | .makeSlice .. | .range .. => 2
  | .convert src dst _ => match P.underlying src, P.underlying dst with
    | some .string, some (.slice _) => 2
    | some (.slice _), some .string => 1
    | _, _ => 0
  | .store .. | .next .. => 3
  | .call c => match c.callee with
    | .builtin .len | .builtin .cap | .builtin .min | .builtin .max => 0
    | _ => 3
  | _ => 0

noncomputable def putD (s : St) (d : Option Tmp) (v : Value) : Option St :=
  match d with
  | none => some s
  | some d => match Nat.blt d s.nt with
    | true => some { s with fr := T.put K s.fr d v }
    | false => none

noncomputable def yieldV (ops : Array Oper) (fr : T Value) (j : Nat) : Option Bool :=
  match (ops[j]?).bind (·.dst) with
  | some t => match opd fr (.tmp t) with
    | .bool b => some b
    | _ => none
  | none => none

/-- is an operation wanted? (its guard's test read) -/
noncomputable def wantV (ops : Array Oper) (o : Oper) (fr : T Value) : Bool :=
  match o.guard with
  | none => true
  | some (j, w) => match yieldV ops fr j, w with
    | some true, true => true
    | some false, false => true
    | _, _ => false

/-- the operation number i of a region whose blocks are numbered from base on -/
noncomputable def step1 (P : Program) (ro : Nat) (call : FuncId → List Value → H → Option (Value × H)) (ops : Array Oper) (base i : Nat) (o : Oper) (s : St) : Option St :=
  match wantV ops o s.fr with
  | false => putD s o.dst undef
  | true => match cls P o with
    | 3 => match evEff P ro call s.h o (opd s.fr) with
      | some (v, h') => putD { s with h := h' } o.dst v
      | none => none
    | _ => match evNE P (base + i) s.h o (opd s.fr) with
      | some (v, none) => putD s o.dst v
      | some (v, some ob) => putD { s with h := s.h.put (base + i) ob } o.dst v
      | none => none

noncomputable def runText (P : Program) (ro : Nat) (call : FuncId → List Value → H → Option (Value × H)) (ops : Array Oper) (base : Nat) : Nat → List Oper → St → Option St
  | _, [], s => some s
  | i, o :: r, s => match step1 P ro call ops base i o s with
    | some s' => runText P ro call ops base (i + 1) r s'
    | none => none

/-- no constant bears an address; a global is one of the program's -/
noncomputable def opdOk (P : Program) : Operand → Bool
  | .const v => flat v
  | .global g => Nat.blt g P.globals.size
  | _ => true

noncomputable def opsOk (P : Program) (ops : Array Oper) : Bool := ops.toList.all fun o => o.op.operands.toList.all (opdOk P) && !(o.op matches .select ..)

inductive Ex where
  | normal
  | exit (id : Nat)
  | ret

noncomputable def loadArgs : Nat → List Value → T Value → T Value
  | _, [], t => t
  | i, v :: l, t => loadArgs (i + 1) l (T.put K t i v)

noncomputable def resV (P : Program) (s : St) : ResultVar → Option Value
  | .tmp t => some (opd s.fr (.tmp t))
  | .cell a t => match opd s.fr (.tmp a) with
    | .pointer (some a) => evLoad P s.h t a
    | _ => none

noncomputable def resAll (P : Program) (s : St) : List ResultVar → Option (List Value)
  | [] => some []
  | r :: l => match resV P s r, resAll P s l with
    | some v, some vs => some (v :: vs)
    | _, _ => none

noncomputable def evFn (P : Program) (S : FuncId → Option (List Value → H → Option (Value × H))) (rec : Code → St → Option (Ex × St)) (f : FuncId) (args : List Value) (h : H) : Option (Value × H) :=
  match S f with
  | some m => m args h
  | none => match P.funcs[f]? with
    | none => none
    | some fn => match fn.body with
      | none => none
      | some c => match Nat.blt (args.length + fn.ntmps) LIM with
        | false => none
        | true => match rec c { fr := loadArgs 0 args .nil, nt := args.length + (fn.ntmps - args.length), h } with
          | some (.exit _, _) => none
          | some (_, s) => match resAll P s fn.results.toList with
            | some [v] => some (v, s.h)
            | some vs => some (.tuple ⟨vs⟩, s.h)
            | none => none
          | none => none

end Go.Ev

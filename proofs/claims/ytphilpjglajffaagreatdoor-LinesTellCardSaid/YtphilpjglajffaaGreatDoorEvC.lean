/- The evaluator, whole: regions in one order that stands for all, code, calls. Definitions only. -/
import Derived.Test.YtphilpjglajffaaGreatDoorEvB
namespace Go.Ev

noncomputable def bit (m i : Nat) : Bool := Nat.testBit m i

/-- of each operation: those that every order has ahead of it (a bit each) -/
noncomputable def befs : List Oper → List Nat → List Nat
  | [], acc => acc
  | o :: r, acc => befs r (acc ++ [o.after.toList.foldl (fun m e => match Region.binds .any e with | true => m ||| (2 ^ e.on) ||| (acc.getD e.on 0) | false => m) 0])

noncomputable def afterIn (o : Oper) (done : Nat) : Bool := o.after.toList.all fun e => !Region.binds .any e || bit done e.on

/-- what may go ahead: of values alone, or reading, and all that it waits for is done -/
noncomputable def early (P : Program) : Nat → List Oper → Nat → List Nat → Nat × List Nat
  | _, [], done, acc => (done, acc)
  | i, o :: r, done, acc => match !bit done i && (Nat.blt (cls P o) 2 && afterIn o done) with
    | true => early P (i + 1) r (done ||| 2 ^ i) (acc ++ [i])
    | false => early P (i + 1) r done acc

/-- all that stands ahead of an operation (the set m) -/
noncomputable def fore (m : Nat) : Nat → List Oper → Nat → List Nat → Nat × List Nat
  | _, [], done, acc => (done, acc)
  | i, _ :: r, done, acc => match !bit done i && bit m i with
    | true => fore m (i + 1) r (done ||| 2 ^ i) (acc ++ [i])
    | false => fore m (i + 1) r done acc

noncomputable def orderGo (P : Program) (ops : List Oper) (bs : List Nat) : Nat → List Oper → Nat × List Nat → Nat × List Nat
  | _, [], st => st
  | i, o :: r, st => match cls P o with
    | 3 =>
      let st := early P 0 ops st.1 st.2
      let st := fore (bs.getD i 0) 0 ops st.1 st.2
      orderGo P ops bs (i + 1) r (st.1 ||| 2 ^ i, st.2 ++ [i])
    | _ => orderGo P ops bs (i + 1) r st

noncomputable def orderOf (P : Program) (ops : List Oper) : List Nat :=
  let st := orderGo P ops (befs ops []) 0 ops (0, [])
  let st := early P 0 ops st.1 st.2
  (fore (2 ^ ops.length - 1) 0 ops st.1 st.2).2

/-- may the operation i come ahead of x, which stands ahead of it in the order, and which it need not wait for? -/
noncomputable def pairOk (P : Program) (ops : Array Oper) (x i : Oper) : Bool :=
  (match cls P i with
   | 3 => Nat.blt (cls P x) 2
   | 1 => Nat.blt (cls P x) 2
   | _ => true) && x.apart ops i

noncomputable def pairsOk (P : Program) (ops : Array Oper) (bs : List Nat) : List Nat → Bool
  | [] => true
  | x :: r => (r.all fun i => bit (bs.getD i 0) x || (match ops[x]?, ops[i]? with | some ox, some oi => pairOk P ops ox oi | _, _ => false)) && pairsOk P ops bs r

/-- each number once; what an operation waits for stands ahead of it -/
noncomputable def linOk (ops : Array Oper) : List Nat → List Nat → Bool
  | [], _ => true
  | i :: r, seen => !seen.contains i && (match ops[i]? with | some o => o.after.toList.all (fun e => !Region.binds .any e || seen.contains e.on) | none => false) && linOk ops r (i :: seen)

noncomputable def befOk (ops : Array Oper) (bs : List Nat) : Bool := (List.range ops.size).all fun i => (List.range ops.size).all fun j =>
  !bit (bs.getD i 0) j || (match ops[i]? with | some o => o.after.toList.any (fun e => Region.binds .any e && (e.on == j || bit (bs.getD e.on 0) j)) | none => false)

structure Plan where
  order : List Nat
  bs : List Nat

/-- the order of a region that draws, if it may stand for all -/
noncomputable def planOf (P : Program) (ops : Array Oper) : Option Plan :=
  let bs := befs ops.toList []
  let o := orderOf P ops.toList
  match Nat.beq o.length ops.size && (List.range ops.size).all (fun j => o.contains j), linOk ops o [], pairsOk P ops bs o, befOk ops bs && opsOk P ops with
  | true, true, true, true => some ⟨o, bs⟩
  | _, _, _, _ => none

noncomputable def veqN : Nat → Value → Value → Bool
  | 0, _, _ => false
  | d + 1, a, b => match a, b with
    | .bool x, .bool y => x == y
    | .int k x, .int l y => decide (k = l) && decide (x = y)
    | .string s, .string t => decide (s.data.toList = t.data.toList)
    | .pointer none, .pointer none => true
    | .pointer (some x), .pointer (some y) => decide (x = y)
    | .slice none l c, .slice none l' c' => Nat.beq l l' && Nat.beq c c'
    | .slice (some x) l c, .slice (some y) l' c' => decide (x = y) && Nat.beq l l' && Nat.beq c c'
    | .nilFunc, .nilFunc => true
    | .nilIface, .nilIface => true
    | .map none, .map none => true
    | .agg xs, .agg ys => veqL d xs.toList ys.toList
    | .tuple xs, .tuple ys => veqL d xs.toList ys.toList
    | .iface t x, .iface u y => Nat.beq t u && veqN d x y
    | _, _ => false
where
  veqL : Nat → List Value → List Value → Bool
  | _, [], [] => true
  | d, x :: xs, y :: ys => veqN d x y && veqL d xs ys
  | _, _, _ => false

/-- do earlier reads read the same behind an effect? -/
noncomputable def recheck (P : Program) (h h' : H) (bef : Nat) (acc : List (Nat × Oper × T Value)) : Bool :=
  acc.all fun (i, o, fr) => bit bef i || (match evNE P 0 h o (opd fr), evNE P 0 h' o (opd fr) with
    | some (v, none), some (v', none) => veqN 5 v v'
    | _, _ => false)

section
variable (P : Program) (ro : Nat) (call : FuncId → List Value → H → Option (Value × H)) (ops : Array Oper) (base : Nat) (bs : List Nat)

noncomputable def runSeq : List Nat → List (Nat × Oper × T Value) → St → Option St
  | [], _, s => some s
  | i :: r, acc, s => match ops[i]? with
    | none => none
    | some o => match step1 P ro call ops base i o s with
      | none => none
      | some s' => match wantV ops o s.fr with
        | false => runSeq r acc s'
        | true => match cls P o with
          | 3 => match recheck P s.h s'.h (bs.getD i 0) acc with
            | true => runSeq r acc s'
            | false => none
          | 1 => runSeq r ((i, o, s.fr) :: acc) s'
          | _ => runSeq r acc s'
end

noncomputable def evRegion (P : Program) (ro : Nat) (call : FuncId → List Value → H → Option (Value × H)) (ops : Array Oper) (draw : Bool) (s : St) : Option St :=
  match Nat.blt (s.h.nx + ops.size) LIM with
  | false => none
  | true =>
    let s1 : St := { s with h := { s.h with nx := s.h.nx + ops.size } }
    match draw with
    | false => match opsOk P ops with
      | true => runText P ro call ops s.h.nx 0 ops.toList s1
      | false => none
    | true => match planOf P ops with
      | some p => runSeq P ro call ops s.h.nx p.bs p.order [] s1
      | none => none

noncomputable def evSeq (r : Option (Ex × St)) (next : St → Option (Ex × St)) : Option (Ex × St) :=
  match r with
  | some (.normal, s) => next s
  | r => r

noncomputable def evBlock (id : Nat) (r : Option (Ex × St)) : Option (Ex × St) :=
  match r with
  | some (.exit j, s) => match Nat.beq j id with
    | true => some (.normal, s)
    | false => some (.exit j, s)
  | r => r

noncomputable def evCond (c : Bool) (v : Value) (a b : Option (Ex × St)) : Option (Ex × St) :=
  match c, v with
  | true, .bool true => a
  | true, .bool false => b
  | _, _ => none

noncomputable def evNormal (r : Option St) : Option (Ex × St) :=
  match r with
  | some s => some (.normal, s)
  | none => none

noncomputable def evStep (P : Program) (ro : Nat) (S : FuncId → Option (List Value → H → Option (Value × H))) (rec : Code → St → Option (Ex × St)) (c : Code) (s : St) : Option (Ex × St) :=
  match c with
  | .skip => some (.normal, s)
  | .region _ ops draw => evNormal (evRegion P ro (evFn P S rec) ops draw s)
  | .seq a b => evSeq (rec a s) (rec b)
  | .cond c a b => evCond (opdOk P c) (opd s.fr c) (rec a s) (rec b s)
  | .block id c => evBlock id (rec c s)
  | .loop c => evSeq (rec c s) (rec (.loop c))
  | .exit id => some (.exit id, s)
  | .ret => some (.ret, s)
  | _ => none

noncomputable def evCode (P : Program) (ro : Nat) (S : FuncId → Option (List Value → H → Option (Value × H))) (n : Nat) : Code → St → Option (Ex × St) :=
  Nat.rec (motive := fun _ => Code → St → Option (Ex × St)) (fun _ _ => none) (fun _ ih => evStep P ro S ih) n

theorem evCode_zero (P : Program) (ro : Nat) (S : FuncId → Option (List Value → H → Option (Value × H))) (c : Code) (s : St) : evCode P ro S 0 c s = none := rfl
theorem evCode_succ (P : Program) (ro : Nat) (S : FuncId → Option (List Value → H → Option (Value × H))) (n : Nat) (c : Code) (s : St) : evCode P ro S (n + 1) c s = evStep P ro S (evCode P ro S n) c s := rfl

noncomputable def evCall (P : Program) (ro : Nat) (S : FuncId → Option (List Value → H → Option (Value × H))) (n : Nat) : FuncId → List Value → H → Option (Value × H) :=
  evFn P S (evCode P ro S n)

end Go.Ev

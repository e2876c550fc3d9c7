/- The evaluator's writes: stores, steps of iterators, appends, copies. -/
import Derived.Test.YtphilpjglajffaaGreatDoorEvJ
import Derived.Laws.AppendOwn
import Derived.Lib.UnsafeStr
namespace Go.Ev
open Go.RowKit (Below)

section
variable {P : Program} {ro : Nat} {w0 : World} {f g : Nat → Nat} {h : H} {w : World} {ρ ρc : Operand → Value} {o : Oper}

/-- a write answers as it was evaluated -/
def SimE (P : Program) (ro : Nat) (w0 : World) (f g : Nat → Nat) (h : H) (w : World) (S : Sem Next) (v : Value) (h' : H) : Prop :=
  ∃ f' g' w', (S.run P w = .ok (.value (ren f' g' v)) w' ∨ (v = undef ∧ S.run P w = .ok .skip w')) ∧ RelH P ro w0 f' g' h' w' ∧ Agree ro h f g f' g' ∧ okV ro h' v

theorem sim_store (r : RelH P ro w0 f g h w) {t : TypeId} {a x : Operand} (ho : o.op = .store t a x) (ha : ρc a = ren f g (ρ a)) (hx : ρc x = ren f g (ρ x) ∧ okV ro h (ρ x)) {v : Value} {h' : H}
    (he : effStore P ro h t (ρ a) (ρ x) = some (v, h')) : SimE P ro w0 f g h w (execOp ρc o) v h' := by
  unfold effStore at he
  split at he
  · rename_i ad had
    split at he
    · rename_i h1 hst
      simp only [Option.some.injEq, Prod.mk.injEq] at he
      obtain ⟨rfl, rfl⟩ := he
      unfold evStore at hst
      split at hst
      · rename_i n hn
        split at hst
        · rename_i hb
          have hb := Nat.eq_of_beq_eq_true hb
          obtain ⟨w', hrun, hr, hd⟩ := r.stored hst (cellsV_ok hx.2)
          refine ⟨f, g, w', .inr ⟨rfl, ?_⟩, hr, Agree.refl .., by unfold okV; exact all_undef _⟩
          rw [had, ren_pointer] at ha
          have hsz : ¬ (ren f g (ρ x)).cells.size ≠ n := by
            rw [cells_ren, Array.size_map, ← Array.length_toList, cells_toList, hb]; simp
          have hl : (ren f g (ρ x)).cells.toList = (cellsV (ρ x)).map (ren f g) := by rw [cells_toList, cellsV_ren]
          simp only [execOp, ho, ha, hx.1, Instr.storeAt, Instr.sureAddr, storeVar, Sem.run_bind, Sem.run_pure, Result.andThen_ok, sizeOf_run hn, if_neg hsz, hl, hrun]
        · simp at hst
      · simp at hst
    · simp at he
  · simp at he

theorem okTup1 (b : Bool) : okV ro h (.tuple #[.bool b]) := by unfold okV; rw [all_tuple]; simp [all_bool]

theorem sim_next (r : RelH P ro w0 f g h w) {it : Operand} (ho : o.op = .next it true) (hit : ρc it = ren f g (ρ it)) {v : Value} {h' : H}
    (he : effNext ro h (ρ it) = some (v, h')) : SimE P ro w0 f g h w (execOp ρc o) v h' := by
  unfold effNext at he
  split at he
  · rename_i b hb
    rw [hb, ren_pointer] at hit
    split at he
    · rename_i s pos hro hg
      have hro := Nat.le_of_ble_eq_true hro
      have hw := r.iter b s pos hg
      have hlt := (Array.getElem?_eq_some_iff.1 hw).1
      split at he
      · rename_i hp
        have hp : pos < s.size := by simpa using hp
        simp only [Option.some.injEq, Prod.mk.injEq] at he
        obtain ⟨rfl, rfl⟩ := he
        refine ⟨f, g, { w with heap := w.heap.setIfInBounds (f b) (.stringIter s (pos + (Utf8.decode s pos).2)) }, .inl ?_, ?_, Agree.refl .., ?_⟩
        · simp [execOp, ho, hit, adr, Instr.next, getObj, setObj, Sem.run, hw, hp, goInt, ren_tuple, ren_bool, ren_int]
        · refine r.turn hro hg (by simp) ⟨rfl, rfl, rfl, by simp, fun i hi => ?_⟩ (.stringIter s (pos + (Utf8.decode s pos).2)) ?_ (.inr (.iter _ _ _)) (fun c e hc => by simp at hc)
          · simp only [Array.getElem?_setIfInBounds]
            rw [if_neg (fun e => hi e.symm)]
          · simp only [Array.getElem?_setIfInBounds]
            simp [hlt]
        · unfold okV; rw [all_tuple]
          intro x hx
          simp only [List.mem_toArray, List.mem_cons, List.not_mem_nil, or_false] at hx
          rcases hx with rfl | rfl | rfl
          · rw [all_bool]; trivial
          · rw [all_int]; trivial
          · rw [all_int]; trivial
      · rename_i hp
        have hp : ¬ pos < s.size := blt_false hp
        simp only [Option.some.injEq, Prod.mk.injEq] at he
        obtain ⟨rfl, rfl⟩ := he
        refine ⟨f, g, w, .inl ?_, r, Agree.refl .., okTup1 _⟩
        simp [execOp, ho, hit, adr, Instr.next, getObj, Sem.run, hw, hp, ren_tuple, ren_bool]
    · simp at he
  · simp at he

/-- a call of a builtin runs as the builtin -/
theorem builtin_run {c : Call} {b : Builtin} {k : Array TypeId → TypeId → Array Value → Sem Value} (ho : o.op = .call c) (hc : c.callee = .builtin b)
    (hb : ∀ ats ty cs args, builtin b ats ty cs args = (do pure (.value (← k ats ty args)))) :
    (execOp ρc o).run P w = ((k c.argTypes o.type (c.args.map ρc)).run P w).andThen fun u w' => .ok (.value u) w' := by
  simp [execOp, ho, resolve, hc, invoke, hb]

theorem src_sim (r : RelH P ro w0 f g h w) {size n : Nat} {x : Value} {new : List Value} (hs : srcOf h size x = some (n, new)) :
    (Builtin.lenOf (ren f g x)).run P w = .ok n w ∧ (∀ w', w'.heap = w.heap → (Builtin.firstCells size n (ren f g x)).run P w' = .ok (new.map (ren f g)).toArray w') ∧ (∀ v ∈ new, okV ro h v) := by
  unfold srcOf at hs
  split at hs
  · rename_i c
    simp only [Option.some.injEq, Prod.mk.injEq] at hs
    obtain ⟨rfl, rfl⟩ := hs
    rw [ren_nilslice]
    exact ⟨rfl, fun w' _ => rfl, by simp⟩
  · rename_i a m c
    split at hs
    · rename_i l hl
      simp only [Option.some.injEq, Prod.mk.injEq] at hs
      obtain ⟨rfl, rfl⟩ := hs
      rw [ren_slice]
      refine ⟨rfl, fun w' hw' => ?_, r.ldOk hl⟩
      have hcell := r.loaded hl
      refine run_firstCells_some (P := P) w' size m (adr f a) m _ (l.map (ren f g)) (by rw [List.length_map]; exact ldN_length hl) fun j v hv => ?_
      have := hcell j v hv
      rw [← this]
      simp only [World.cell?, hw']
    · simp at hs
  · rename_i s
    simp only [Option.some.injEq, Prod.mk.injEq] at hs
    obtain ⟨rfl, rfl⟩ := hs
    rw [ren_string]
    refine ⟨rfl, fun w' _ => ?_, bytesV_ok s⟩
    rw [bytesV_ren]
    simp only [Builtin.firstCells, Sem.run_pure, bytesV]
    congr 1
    apply Array.ext'
    simp
  · simp at hs

section app
variable {st xt e ty : TypeId} {d : TypeDesc} {i : TypeInfo} {z : Value} {base : Option Addr} {len cap n : Nat} {x : Value} {news : Array Value} {ts : Array TypeId} {args : Array Value}

theorem append_fit (h0 : ts[0]? = some st) (h1 : ts[1]? = some xt) (a0 : args[0]? = some (.slice base len cap)) (a1 : args[1]? = some x) (hu : P.underlying st = some (.slice e)) (hx : P.underlying xt = some d) (hd : ∀ k, d ≠ .int k)
    (hi : P.info? e = some i) (hlen : (Builtin.lenOf x).run P w = .ok n w) (hfc : (Builtin.firstCells i.size n x).run P w = .ok news w) (hfit : len + n ≤ cap) :
    (Builtin.append_ ts ty args).run P w = ((match base with | some a => storeCells (a.add (len * i.size)) news.toList | none => pure ()).run P w).andThen fun _ w' => .ok (.slice base (len + n) cap) w' := by
  have hsz : szOf P e = some i.size := by simp [szOf, hi]
  cases d <;> first
    | exact absurd rfl (hd _)
    | (simp only [Builtin.append_, h0, a0, a1, h1, Sem.run_bind, run_underlying hu, run_underlying hx, Result.andThen_ok, sizeOf_run hsz, Sem.run_pure, Bool.false_eq_true, if_false, hlen, Bool.not_false, if_true, hfit, hfc]
       cases base <;> simp only [Sem.run_bind, Sem.run_pure, Result.andThen_ok])

theorem append_grow {olds : Array Value} (h0 : ts[0]? = some st) (h1 : ts[1]? = some xt) (a0 : args[0]? = some (.slice base len cap)) (a1 : args[1]? = some x) (hu : P.underlying st = some (.slice e)) (hx : P.underlying xt = some d) (hd : ∀ k, d ≠ .int k)
    (hi : P.info? e = some i) (hz : i.zero = some z) (hlen : (Builtin.lenOf x).run P w = .ok n w) (hfc : (Builtin.firstCells i.size n x).run P w.drew = .ok news w.drew) (hfo : (Builtin.firstCells i.size len (.slice base len cap)).run P w.drew = .ok olds w.drew)
    (hfit : ¬ len + n ≤ cap) (h63 : (len + n : Nat) ≤ 9223372036854775807) (hroom : Builtin.nextslicecap (len + n) cap * i.bytes ≤ 281474976710656) :
    (Builtin.append_ ts ty args).run P w = .ok (.slice (some ⟨w.heap.size, 0, none⟩) (len + n) (grownCap w (len + n) cap e))
      (w.drew.alloc (.cells (olds ++ news ++ Builtin.zeroCells z.cells (grownCap w (len + n) cap e - (len + n))) e)) := by
  have hsz : szOf P e = some i.size := by simp [szOf, hi]
  have h63' : ¬ (9223372036854775807 < (len : Int) + (n : Int)) := by omega
  have h48 : ¬ (281474976710656 < Builtin.nextslicecap (len + n) cap * i.bytes) := by omega
  cases d <;> first
    | exact absurd rfl (hd _)
    | (simp only [Builtin.append_, h0, a0, a1, h1, Sem.run_bind, run_underlying hu, run_underlying hx, Result.andThen_ok, sizeOf_run hsz, Sem.run_pure, Bool.false_eq_true, if_false, hlen, Bool.not_false, if_true, hfit]
       simp [typeInfo, zeroValue, hi, hz, h63', h48, Question.forced, hfc, hfo, newRow, grownCap])

end app
end
end Go.Ev

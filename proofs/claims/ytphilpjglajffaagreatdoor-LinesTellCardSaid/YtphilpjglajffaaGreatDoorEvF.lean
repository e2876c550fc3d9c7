/- The evaluator's operations that write nothing answer as the program's: flat ones, moves, new variables, addresses. -/
import Derived.Test.YtphilpjglajffaaGreatDoorEvE
namespace Go.Ev
open Go.RowKit (Below)

noncomputable def putO (h : H) (nm : Nat) : Option AO → H
  | none => h
  | some ob => h.put nm ob

/-- an operation's run answers as it was evaluated -/
def SimV (P : Program) (ro : Nat) (w0 : World) (f g : Nat → Nat) (h : H) (nm : Nat) (w : World) (S : Sem Next) (v : Value) (ob : Option AO) : Prop :=
  ∃ f' g' w', S.run P w = .ok (.value (ren f' g' v)) w' ∧ RelH P ro w0 f' g' (putO h nm ob) w' ∧ Agree ro h f g f' g' ∧ okV ro (putO h nm ob) v

theorem pureRun_run {α : Type} (P : Program) (w : World) : ∀ (s : Sem α) (a : α), pureRun P s = some a → s.run P w = .ok a w := by
  intro s
  induction s with
  | pure a => intro b h; simp only [pureRun, Option.some.injEq] at h; subst h; rfl
  | program k ih => intro a h; simp only [pureRun] at h; simp only [Sem.run]; exact ih P a h
  | mark m k ih => intro a h; simp only [pureRun] at h; simp only [Sem.run]; exact ih a h
  | _ => intro a h; simp [pureRun] at h

theorem flat_id {v : Value} (h : flat v = true) (f g : Nat → Nat) : ren f g v = v := flat_ren f g 5 v h
theorem flat_ok {v : Value} (h : flat v = true) (ro : Nat) (hp : H) : okV ro hp v := flat_all _ 5 v h

section
variable {P : Program} {ro : Nat} {w0 : World} {f g : Nat → Nat} {h : H} {w : World} {nm : Nat} {ρ ρc : Operand → Value} {o : Oper}

/-- the operands in the world are the evaluator's, renamed -/
def Opds (ro : Nat) (h : H) (f g : Nat → Nat) (ρ ρc : Operand → Value) (o : Oper) : Prop := ∀ x ∈ o.op.operands, ρc x = ren f g (ρ x) ∧ okV ro h (ρ x)

theorem SimV.same (r : RelH P ro w0 f g h w) {S : Sem Next} {v : Value} (hrun : S.run P w = .ok (.value (ren f g v)) w) (hv : okV ro h v) : SimV P ro w0 f g h nm w S v none :=
  ⟨f, g, w, hrun, r, Agree.refl .., hv⟩

theorem SimV.made (hr : ro ≤ nm) (hl : nm < LIM) (hn : h.get nm = none) {S : Sem Next} {ao : AO} {ob : Obj} {y : Nat} {w1 : World} (v : Value)
    (hw1 : RelH P ro w0 f g h w1) (hrun : S.run P w = .ok (.value (ren (upd f nm w1.heap.size) (upd g nm y) v)) (w1.alloc ob)) (ht : Tied P f g ao ob y)
    (hc : ∀ c e, ao = .cells c e ∨ ao = .grow c e → ∀ v ∈ c, okV ro h v) (hv : okV ro (h.put nm ao) v) : SimV P ro w0 f g h nm w S v (some ao) :=
  ⟨_, _, _, hrun, hw1.alloc hr hl hn ht hc, agree_upd f g hr hn _ _, hv⟩

theorem evFlat_sim (hop : Opds ro h f g ρ ρc o) (hs : ∀ cs b, o.op ≠ .select cs b) {v : Value} (he : evFlat P o ρ = some v) :
    (execOp ρc o).run P w = .ok (.value v) w ∧ flat v = true := by
  unfold evFlat at he
  split at he
  · rename_i hall
    split at he
    · rename_i u hp
      split at he
      · rename_i hf
        simp only [Option.some.injEq] at he
        subst he
        refine ⟨?_, hf⟩
        have hcong : execOp ρc o = execOp ρ o := execOp_congr o hs fun x hx => by
          rw [(hop x hx).1]
          exact flat_id (List.all_eq_true.1 hall x (Array.mem_def.1 hx)) f g
        rw [hcong]
        exact pureRun_run P w _ _ hp
      · simp at he
    · simp at he
  · simp at he

theorem flat_sim (r : RelH P ro w0 f g h w) (hop : Opds ro h f g ρ ρc o) (hs : ∀ cs b, o.op ≠ .select cs b) {v : Value} {ob : Option AO} (he : neFlat P o ρ = some (v, ob)) :
    SimV P ro w0 f g h nm w (execOp ρc o) v ob := by
  unfold neFlat val1 at he
  split at he
  · rename_i u hu
    simp only [Option.some.injEq, Prod.mk.injEq] at he
    obtain ⟨rfl, rfl⟩ := he
    obtain ⟨h1, h2⟩ := evFlat_sim (w := w) hop hs hu
    exact .same r (by rw [h1, flat_id h2]) (flat_ok h2 ro h)
  · simp at he

theorem cells_toList (v : Value) : v.cells.toList = cellsV v := by cases v <;> rfl
theorem cellsV_arr (v : Value) : v.cells = (cellsV v).toArray := by rw [← cells_toList]

theorem cellsV_ren (f g : Nat → Nat) (v : Value) : cellsV (ren f g v) = (cellsV v).map (ren f g) := by
  cases v with
  | agg cs => rw [ren_agg]; simp [cellsV]
  | pointer a => cases a with | none => rw [ren_nilptr]; simp [cellsV, ren_nilptr] | some a => rw [ren_pointer]; simp [cellsV, ren_pointer]
  | slice a l c => cases a with | none => rw [ren_nilslice]; simp [cellsV, ren_nilslice] | some a => rw [ren_slice]; simp [cellsV, ren_slice]
  | map a => cases a with | none => rw [ren_nilmap]; simp [cellsV, ren_nilmap] | some a => rw [ren_map]; simp [cellsV, ren_map]
  | chan a => cases a with | none => rw [ren_nilchan]; simp [cellsV, ren_nilchan] | some a => rw [ren_chan]; simp [cellsV, ren_chan]
  | func fn a b => rw [ren_func]; simp [cellsV, ren_func]
  | iface t v => rw [ren_iface]; simp [cellsV, ren_iface]
  | tuple cs => rw [ren_tuple]; simp [cellsV, ren_tuple]
  | bool b => rw [ren_bool]; simp [cellsV, ren_bool]
  | int k n => rw [ren_int]; simp [cellsV, ren_int]
  | float k n => rw [ren_float]; simp [cellsV, ren_float]
  | complex k a b => rw [ren_complex]; simp [cellsV, ren_complex]
  | string s => rw [ren_string]; simp [cellsV, ren_string]
  | nilFunc => rw [ren_nilFunc]; simp [cellsV, ren_nilFunc]
  | nilIface => rw [ren_nilIface]; simp [cellsV, ren_nilIface]

theorem cellsV_ok {v : Value} (hv : okV ro h v) : ∀ u ∈ cellsV v, okV ro h u := by
  intro u hu
  cases v with
  | agg cs => unfold okV at hv; rw [all_agg] at hv; exact hv u (by simpa [cellsV] using hu)
  | _ => simp only [cellsV, List.mem_singleton] at hu; subst hu; exact hv

theorem arr_ok {cs : List Value} (hc : ∀ v ∈ cs, okV ro h v) : okV ro h (.agg ⟨cs⟩) := by
  unfold okV; rw [all_agg]
  intro x hx
  exact hc x (by simpa using hx)

theorem ren_arr (f g : Nat → Nat) (cs : List Value) : ren f g (.agg ⟨cs⟩) = .agg ⟨cs.map (ren f g)⟩ := by
  rw [ren_agg]; simp

theorem new_ptr (nm : Nat) (hl : nm < LIM) (ao : AO) : okV ro (h.put nm ao) (.pointer (some ⟨nm, 0, none⟩)) := by
  unfold okV; rw [all_pointer]
  exact get_dom (H.get_put_same hl ao)
theorem new_slice (nm : Nat) (hl : nm < LIM) (ao : AO) (n c : Nat) : okV ro (h.put nm ao) (.slice (some ⟨nm, 0, none⟩) n c) := by
  unfold okV; rw [all_slice]
  exact get_dom (H.get_put_same hl ao)

theorem ren_new (f g : Nat → Nat) (nm x y : Nat) : ren (upd f nm x) (upd g nm y) (.pointer (some ⟨nm, 0, none⟩)) = .pointer (some ⟨x, 0, none⟩) := by
  rw [ren_pointer]; unfold adr; rw [upd_same]
theorem ren_newS (f g : Nat → Nat) (nm x y n c : Nat) (hc : c < BIG) : ren (upd f nm x) (upd g nm y) (.slice (some ⟨nm, 0, none⟩) n c) = .slice (some ⟨x, 0, none⟩) n c := by
  rw [ren_slice]; unfold adr capR; rw [upd_same, if_pos hc]
theorem ren_newG (f g : Nat → Nat) (nm x y n : Nat) : ren (upd f nm x) (upd g nm y) (.slice (some ⟨nm, 0, none⟩) n BIG) = .slice (some ⟨x, 0, none⟩) n y := by
  rw [ren_slice]; unfold adr capR; rw [upd_same, if_neg (by omega), upd_same]; simp

theorem freeTo_none (n : Nat) : freeTo (0, 0) n := fun j _ => by omega

theorem sim_alloc (r : RelH P ro w0 f g h w) (hr : ro ≤ nm) (hl : nm < LIM) (hn : h.get nm = none) {e : TypeId} (ho : o.op = .alloc e) {v : Value} {ob : Option AO} (he : neAlloc P nm e = some (v, ob)) :
    SimV P ro w0 f g h nm w (execOp ρc o) v ob := by
  unfold neAlloc at he
  split at he
  · rename_i i hi
    split at he
    · rename_i z hz
      split at he
      · rename_i hf
        simp only [Option.some.injEq, Prod.mk.injEq] at he
        obtain ⟨rfl, rfl⟩ := he
        have hid := flat_id hf f g
        have hcm : (cellsV z).map (ren f g) = cellsV z := by rw [← cellsV_ren, hid]
        refine SimV.made hr hl hn (w1 := w) (y := 0) (ob := .cells ((cellsV z).map (ren f g)).toArray e) _ r ?_ (.cells _ e (0, 0) (freeTo_none _) 0) ?_ (new_ptr nm hl _)
        · rw [ren_new, hcm]
          simp [execOp, ho, Instr.alloc, zeroValue, typeInfo, program, hi, hz, newVar, newRow, newObj, cellsV_arr, Sem.run]
        · intro c e' hc u hu
          have : c = cellsV z := by rcases hc with h | h <;> simp at h; exact h.1.symm
          subst this
          exact cellsV_ok (flat_ok hf ro h) u hu
      · simp at he
    · simp at he
  · simp at he

theorem sim_box (r : RelH P ro w0 f g h w) (hr : ro ≤ nm) (hl : nm < LIM) (hn : h.get nm = none) {e : TypeId} {x : Operand} (ho : o.op = .box e x) (hx : ρc x = ren f g (ρ x) ∧ okV ro h (ρ x)) :
    SimV P ro w0 f g h nm w (execOp ρc o) (.pointer (some ⟨nm, 0, none⟩)) (some (.cells (cellsV (ρ x)) e)) := by
  refine SimV.made hr hl hn (w1 := w) (y := 0) (ob := .cells ((cellsV (ρ x)).map (ren f g)).toArray e) _ r ?_ (.cells _ e (0, 0) (freeTo_none _) 0) ?_ (new_ptr nm hl _)
  · rw [ren_new, ← cellsV_ren, ← hx.1]
    simp [execOp, ho, Instr.box, newVar, newRow, newObj, cellsV_arr, Sem.run]
  · intro c e' hc u hu
    have : c = cellsV (ρ x) := by rcases hc with h | h <;> simp at h; exact h.1.symm
    subst this
    exact cellsV_ok hx.2 u hu

end
end Go.Ev

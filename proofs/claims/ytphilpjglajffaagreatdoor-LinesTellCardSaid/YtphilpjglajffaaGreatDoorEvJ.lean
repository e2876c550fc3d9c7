/- All operations that write nothing and run no code, together. -/
import Derived.Test.YtphilpjglajffaaGreatDoorEvI
namespace Go.Ev
open Go.RowKit (Below)

section
variable {P : Program} {ro : Nat} {w0 : World} {f g : Nat → Nat} {h : H} {w : World} {nm : Nat} {ρ ρc : Operand → Value} {o : Oper}

theorem sim_move (r : RelH P ro w0 f g h w) {x : Operand} (ho : o.op = .move x ∨ o.op = .assign x) (hx : ρc x = ren f g (ρ x) ∧ okV ro h (ρ x)) : SimV P ro w0 f g h nm w (execOp ρc o) (ρ x) none := by
  refine .same r ?_ hx.2
  rw [← hx.1]
  rcases ho with ho | ho <;> simp [execOp, ho]

theorem simNE (r : RelH P ro w0 f g h w) (hop : Opds ro h f g ρ ρc o) (hs : ∀ cs b, o.op ≠ .select cs b) (hr : ro ≤ nm) (hl : nm < LIM) (hn : h.get nm = none) {v : Value} {ob : Option AO}
    (he : evNE P nm h o ρ = some (v, ob)) : SimV P ro w0 f g h nm w (execOp ρc o) v ob := by
  have one : ∀ x, x ∈ o.op.operands → ρc x = ren f g (ρ x) ∧ okV ro h (ρ x) := hop
  have ps : ∀ (ps : Array (Nat × Operand)), o.op.operands = ps.map (·.2) → ∀ p ∈ ps, ρc p.2 = ren f g (ρ p.2) ∧ okV ro h (ρ p.2) := fun ps hps p hp => hop p.2 (by rw [hps]; exact Array.mem_map.2 ⟨p, hp, rfl⟩)
  unfold evNE at he
  split at he
  · rename_i x ho
    simp only [Option.some.injEq, Prod.mk.injEq] at he
    obtain ⟨rfl, rfl⟩ := he
    exact sim_move r (.inl ho) (one x (by rw [ho]; simp [Op.operands]))
  · rename_i x ho
    simp only [Option.some.injEq, Prod.mk.injEq] at he
    obtain ⟨rfl, rfl⟩ := he
    exact sim_move r (.inr ho) (one x (by rw [ho]; simp [Op.operands]))
  · rename_i c a b ho
    exact sim_pick r ho (one c (by rw [ho]; simp [Op.operands])) (one a (by rw [ho]; simp [Op.operands])) (one b (by rw [ho]; simp [Op.operands])) he
  · rename_i e ho
    exact sim_alloc r hr hl hn ho he
  · rename_i e x ho
    simp only [Option.some.injEq, Prod.mk.injEq] at he
    obtain ⟨rfl, rfl⟩ := he
    exact sim_box r hr hl hn ho (one x (by rw [ho]; simp [Op.operands]))
  · rename_i t q ho
    exact sim_build r ho (ps q (by rw [ho]; apply Array.ext'; simp [Op.operands])) he
  · rename_i t len q ho
    exact sim_buildSlice r hr hl hn ho (ps q (by rw [ho]; apply Array.ext'; simp [Op.operands])) he
  · rename_i t x ho
    exact sim_load r ho (one x (by rw [ho]; simp [Op.operands])) he
  · rename_i x ho
    exact sim_nil r ho (one x (by rw [ho]; simp [Op.operands])) he
  · rename_i op t x y yt ho
    exact sim_bin r hop ho he
  · rename_i op t x ho
    exact sim_un r hop ho he
  · rename_i src dst x ho
    exact sim_conv r hop hr hl hn ho he
  · rename_i arr x ho
    exact sim_s2a r ho (one x (by rw [ho]; simp [Op.operands])) he
  · rename_i t x ho
    exact sim_iface r ho (one x (by rw [ho]; simp [Op.operands])) he
  · rename_i fn a b ho
    simp only [Option.some.injEq, Prod.mk.injEq] at he
    obtain ⟨rfl, rfl⟩ := he
    exact sim_func r ho hop
  · rename_i t l c ho
    exact sim_make r hr hl hn ho (one l (by rw [ho]; simp [Op.operands])).1 (one c (by rw [ho]; simp [Op.operands])).1 he
  · rename_i t x lo hi mx ho
    exact sim_slice r hop ho he
  · rename_i s x j ho
    exact sim_fieldAddr r ho (one x (by rw [ho]; simp [Op.operands])) he
  · rename_i t x j ho
    exact sim_field r ho (one x (by rw [ho]; simp [Op.operands])) he
  · rename_i t x i ho
    exact sim_indexAddr r ho (one x (by rw [ho]; simp [Op.operands])) (one i (by rw [ho]; simp [Op.operands])) he
  · rename_i t x i ho
    exact sim_index r hop ho he
  · rename_i x i ho
    exact sim_extract r ho (one x (by rw [ho]; simp [Op.operands])) he
  · rename_i t x ho
    exact sim_range r hr hl hn ho (one x (by rw [ho]; simp [Op.operands])) he
  · rename_i c ho
    unfold neCall at he
    split at he
    · rename_i hc
      exact sim_len r hop ho hc he
    · rename_i hc
      exact sim_cap r hop ho hc he
    · exact flat_sim r hop hs he
  · exact flat_sim r hop hs he

end
end Go.Ev

import Derived.Test.YtphilpjglajffaaGreatDoorAwake
namespace Go.Ev
open Go.Proofs Go Go.RowKit
theorem mixed : Tryz.prog.follows .mixedOrders = true := by kernel_rfl
theorem awake_ev : isB (evCall Tryz.prog 1000 sums 100000 7 [] h0) = true := by kernel_rfl

theorem isB_some {r : Option (Value × H)} (h : isB r = true) : ∃ h', r = some (.bool true, h') := by
  unfold isB at h
  split at h
  · exact ⟨_, rfl⟩
  · simp at h

theorem h0_get (b : Nat) : h0.get b = none := rfl

theorem h0_rel (w : World) (hgs : Tryz.prog.globals.size ≤ 1000) : RelH Tryz.prog 1000 w id (fun _ => 0) h0 w := by
  have no : ∀ b o, h0.get b = some o → False := fun b o hb => by rw [h0_get] at hb; simp at hb
  exact ⟨Below.refl _ _, fun b c e' hb => (no b _ hb).elim, fun b c e' hb => (no b _ hb).elim, fun b s p hb => (no b _ hb).elim, fun b c e' hb v hv => by unfold rowOf at hb; rw [h0_get] at hb; simp at hb,
    fun b o hb hg _ => (no b _ hg).elim, fun b o hb hg _ => (no b _ hg).elim, fun b b' o o' hb hb' hg => (no b _ hg).elim, fun x hx => ⟨rfl, by omega⟩, by decide, fun b o hg => (no b _ hg).elim⟩

theorem awake_calls {w : World} {tp : TypeId} {p : Value} (hw : w.cell? ⟨2, 0, none⟩ = some (.iface tp p)) (h2 : 2 < w.heap.size) :
    Calls Tryz.prog 7 #[] w fun e w' => e = .returned (.bool true) ∧ Below w.heap.size w w' := by
  obtain ⟨h', he⟩ := isB_some awake_ev
  have hgs : Tryz.prog.globals.size = 8 := by kernel_rfl
  have := ev_calls mixed sums_ok (sums_sim 1000 w hw h2) he (h0_rel w (by omega)) ⟨fun b _ => h0_get b, by decide⟩ (Nat.le_refl _) (by simp)
  refine this.mono ?_
  rintro e w' ⟨F', g', rfl, hr, _, _⟩
  exact ⟨by rw [ren_bool], hr.below⟩
end Go.Ev
#print axioms Go.Ev.awake_calls

/- Walk: an event's line, whatever its kind. -/
import Derived.Test.YtphilpjglajffaaGreatDoorEl
namespace Go.Proofs.YtphilpjglajffaaGreatDoor.Lin
open Go.RowKit

set_option maxRecDepth 100000 in
theorem event_none (r : Raw) (keys tags : List ByteArray) (keep : List Bool) (w : World) (hk : r.kind < 1 ∨ 15 < r.kind) :
    Calls Tryz.prog 9 #[r.val] w fun e w' => e = .returned (.string (eventB r keys tags keep)) ∧ Below w.heap.size w w' := by
  have HEV : Hid (eventB r keys tags keep = ⟨#[]⟩) := Lib.hid (by unfold eventB; rw [if_pos hk])
  generalize eventB r keys tags keep = EB at *
  obtain ⟨kind, q, n, pos, lack, topic, group, tag, key, body, ⟨ka, kn, kc⟩, ⟨ta, tn, tc⟩, ⟨pa, pn, pc⟩, sync⟩ := r
  change kind < 1 ∨ 15 < kind at hk
  have HB : Hid (Below w.heap.size w (w.alloc (.cells #[.int .i64 kind, .int .i64 q, .int .i64 n, .int .i64 pos, .int .i64 lack, .string topic, .string group, .string tag, .string key, .string body, .slice ka kn kc, .slice ta tn tc, .slice pa pn pc, .bool sync] 25))) := Lib.hid ((Below.refl _ _).alloc (Nat.le_refl _) _)
  unfold Raw.val Raw.cells
  by_cases h1 : kind < 1
  · have d1 : decide (kind < 1) = true := by simp [h1]
    go_enter Tryz.func9, Tryz.ntmps9
    go_wp2_with fail
    go_ret
    exact ⟨ret_text HEV.out.symm, HB.out⟩
  · have d1 : decide (kind < 1) = false := by simp; omega
    have d2 : decide (15 < kind) = true := by simp; omega
    go_enter Tryz.func9, Tryz.ntmps9
    go_wp2_with fail
    go_ret
    exact ⟨ret_text HEV.out.symm, HB.out⟩

theorem event_any (r : Raw) (keys tags : List ByteArray) (keep : List Bool) (w : World) (hc : Ctx w r keys tags keep) (hm : Mild r) (hkt : ∀ x ∈ keys, x.size ≤ 1000) (htt : ∀ x ∈ tags, x.size ≤ 1000) :
    Calls Tryz.prog 9 #[r.val] w fun e w' => e = .returned (.string (eventB r keys tags keep)) ∧ Below w.heap.size w w' := by
  by_cases hk : r.kind < 1 ∨ 15 < r.kind
  · exact event_none r keys tags keep w hk
  · exact event_calls r keys tags keep w hc hm (by omega) hkt htt

end Go.Proofs.YtphilpjglajffaaGreatDoor.Lin

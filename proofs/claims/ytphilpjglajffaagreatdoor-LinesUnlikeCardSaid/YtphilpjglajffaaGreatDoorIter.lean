import Derived.Shelf.SlIter.Nil
import Derived.Shelf.SortM.Plain
import Derived.Shelf.SortM.SortNone
import Derived.Ground.GgzProg
import Derived.Ground.SlgmProg
import Derived.WalkKit
import Derived.Test.YtphilpjglajffaaGreatDoorShelf
namespace Go.Proofs
open Go.RowKit Go.Maps Go.Sort Go.Shelf


theorem Tryz.sorts66 (m : Nat) : AnyZ.SortsIn Tryz.prog Tryz.sorted66_ren Fence.wide m :=
  ⟨fun blk off cap ss W hH hblk hsz => callsIn_wide.2 (AnyM.slices_Sort_string Tryz.sort89 blk off cap ss W hH hblk hsz),
   fun p cap W => callsIn_wide.2 (AnyM.slices_Sort_string_none Tryz.sort89 p cap W)⟩

theorem values1_nil (W : World) (l B : Nat) (hm : W.cell? ⟨B, 0, none⟩ = some (.slice none 0 0)) :
    Calls Tryz.prog 90 #[.func (.yield l) #[] #[], .pointer (some ⟨B, 0, none⟩)] W fun e W' => (∃ v, e = .returned v) ∧ W' = W := by
  go_enter Tryz.func90, Tryz.ntmps90
  go_wp2
  refine wp_loop_rounds 1 ?_
  rw [rounds_succ]
  go_wp2
  go_end0
  exact ⟨⟨_, rfl⟩, rfl⟩

theorem values_gives_nil (w : World) (B : Nat) (hB : B < w.heap.size) (hm : w.cell? ⟨B, 0, none⟩ = some (.slice none 0 0)) (n : Nat) :
    SeqGives Fence.wide n Tryz.prog 90 #[.pointer (some ⟨B, 0, none⟩)] encStr (fun ss : List (List UInt8) => ss = []) 0 w := fun l J W hW hJ _ h0 => by
  refine callsIn_wide.2 ((values1_nil W l B ((hW.cell (p := ⟨B, 0, none⟩) hB).trans hm)).mono ?_)
  rintro e W' ⟨he, rfl⟩
  exact ⟨he, [], rfl, h0⟩

/-- slices.Sorted of slices.Values of nil -/
theorem sorted_nil (w : World) (B : Nat) (hB : B < w.heap.size) (hm : w.cell? ⟨B, 0, none⟩ = some (.slice none 0 0)) :
    Calls Tryz.prog 66 #[.func (.func 90) #[] #[.pointer (some ⟨B, 0, none⟩)]] w fun e w' => e = .returned (.slice none 0 0) ∧ Below w.heap.size w w' := by
  have h := AnyZ.sorted_in Tryz.sorted66 Fence.wide 5 trivial trivial trivial trivial rfl (by omega) (Tryz.sorts66 _) (enters_of Tryz.func89 (by kernel_rfl) rfl) 90 #[.pointer (some ⟨B, 0, none⟩)] trivial (enters_of Tryz.func90 (by kernel_rfl) rfl)
    (fun ss : List (List UInt8) => ss = []) 0 (Nat.zero_le _) (by omega) w (values_gives_nil w B hB hm _)
  refine (callsIn_wide.1 h).mono ?_
  rintro e w' ⟨v, ss, rfl, hS, _, hnil, hb⟩
  exact ⟨by rw [hnil.2 hS], hb⟩
end Go.Proofs

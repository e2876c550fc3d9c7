/- CrcApart: a table that is used doesn't change: sums asked for in any order are the same, up to 40 texts of 300 bytes. No condition. -/
import Derived.Test.YtdhokdjmobmpoaaRows
import Derived.Test.YtdhokdjmobmpoaaApa1
import Derived.ProofKit
import Derived.OpenShut
import Derived.ShutString
import Derived.SizedLaws
namespace Go.Proofs.Ytdhokdjmobmpoaa.crcApart
open Go.ChangeShapes Go.WideShapes Go.ChangeAt Go.RowKit
open Go.ChangeMaps (open_string shut_string)
open Go.Proofs.Ytdhokdjmobmpoaa.Crc

theorem own : ownKnob Try.prog.godebug = none := by kernel_rfl
theorem cells9 : Try.prog.cellsOf 9 = 1 := by kernel_rfl
theorem bytes9 : Try.prog.bytesOf 9 = 16 := by kernel_rfl
theorem laidOut : laidOutB Try.prog = true := by kernel_rfl

theorem weights_strs {H : Type} (P : Program) (e : TypeId) (ss : List ByteArray) (s : ByteArray) (hs : s ∈ ss) : s.size ∈ DataW.weightsAll (H := H) P e (strs ss) := by
  induction ss with
  | nil => simp at hs
  | cons x xs ih =>
    rcases List.mem_cons.1 hs with rfl | h
    · simp [strs, DataW.weightsAll, DataW.weights]
    · have := ih h
      simp only [strs, List.map_cons, DataW.weightsAll, List.mem_append]
      exact Or.inr this

theorem sized_strs {H : Type} {P : Program} {ts : List TypeId} {ds : List (DataW H)} {j t e : Nat} {ss rest : List ByteArray}
    (h : (DataW.weightsEach P ts ds).all (· ≤ reachBytes) = true) (ht : ts[j]? = some t) (hd : ds[j]? = some (.slice (strs ss) (strs rest))) (hu : P.underlying t = some (.slice e)) (s : ByteArray) (hs : s ∈ ss) : s.size ≤ 140737488355328 := by
  have := List.all_eq_true.1 h _ (DataW.weights_mem_each ht hd s.size (by simp only [DataW.weights, hu, List.mem_cons, List.mem_append]; exact Or.inr (Or.inl (weights_strs P e ss s hs))))
  have h2 : s.size ≤ reachBytes := by simpa using this
  unfold reachBytes at h2
  omega

set_option maxRecDepth 100000 in
theorem lifted (os : Os) (started : os.Started) (H : Type) (enc : TypeId × Value → H) :
    ReturnsInHanded {} Try.checked os 6 .any (Rows.crcApartSpec.pre6 enc Try.prog Try.f6 Rows.crcApartRow.domain false) (Rows.crcApartSpec.post enc Try.prog Try.f6 false true false false) := by
  refine returnsInHanded_of_change_sized (C := Try.checked) own started (by kernel_rfl) Try.func6
    (ChangeSpec.witness6 (enc := enc) (C := Try.checked) false ⟨#[], #[.slice none 0 0], []⟩ 8 (by kernel_rfl) (by kernel_rfl) (by kernel_rfl) (by kernel_rfl)) ?_
  intro W base args ds gs before hval0 hW _ hsz0 _
  have hsz : (DataW.weightsEach Try.prog (Try.f6.params.toList ++ Rows.crcApartSpec.plain.varTypes Try.prog) (ds ++ gs)).all (· ≤ reachBytes) = true := hsz0
  clear hsz0
  have hval : ∀ (j : Nat) t v, Try.f6.params[j]? = some t → args[j]? = some v → Value.okWide Try.prog W .any base t v := hval0
  have hW' := hW
  obtain ⟨p, q, hA0, hV, rfl, _, _⟩ := hW
  have hA : DataW.TrodAll enc Try.prog W 0 (fun _ => true) true Try.f6.params.toList args.toList ds p := hA0
  rw [Try.params6] at hA hval hsz
  obtain ⟨v0, d0, rfl, rfl, h0⟩ := trodAll_one hA
  obtain ⟨rfl, rfl⟩ := trodVars_none hV
  obtain ⟨a0, len, cap, rfl⟩ := okWide_slice Try.underlying22 (hval 0 22 v0 rfl rfl)
  have h0k := h0
  obtain ⟨fuel, hf⟩ := h0
  clear hA0 hval0
  simp only [List.append_nil] at hW'
  have hlt : ∀ x ∈ p, x.block < W.heap.size := fun x hx => by simpa using hW'.lt x hx
  have fin : ∀ W' : World, Below W.heap.size W W' → Rows.crcApartSpec.post enc Try.checked.prog Try.f6 false true false false W #[.slice a0 len cap] (.bool true) W' := by
    intro W' hnx
    refine ⟨_, _, _, [] ++ [], p, [], hW', ?_, ?_, rfl, hnx.frame _, fun h => by cases h⟩
    · exact trodAll_mk1 (shut_bool Try.underlying4 true)
    · exact trodAll_mk1 (Below.trod laidOut (by kernel_rfl) (of_decide_eq_true (by kernel_rfl)) h0k hnx hlt)
  rcases open_strings Try.underlying22 Try.underlying9 cells9 hf with ⟨hcs, hx⟩ | ⟨a, len', cap', ss, hcs, _, hl, hm, hz, hx, hcell, hws⟩
  · simp [Value.cells] at hcs
    obtain ⟨rfl, rfl, rfl⟩ := hcs
    refine (apart_walk none 0 0 [] rfl W ⟨by simp, by simp, Or.inl ⟨none, 0, rfl, rfl⟩⟩).mono fun e W' ⟨he, hnx⟩ => ?_
    subst he
    exact ⟨_, rfl, fin W' hnx⟩
  · simp [Value.cells] at hcs
    obtain ⟨rfl, rfl, rfl⟩ := hcs
    simp only [Prod.mk.injEq] at hx
    obtain ⟨rfl, rfl⟩ := hx
    simp only [if_true] at hz
    have hreach : len * 16 ≤ 140737488355328 := by
      have := sized_slice hsz (j := 0) (t := 22) (e := 9) rfl rfl Try.underlying22
      rw [bytes9] at this
      simp only [strs, List.length_map, List.length_take, List.length_drop, reachBytes] at this
      omega
    have hsizes := fun s hs => sized_strs hsz (j := 0) (t := 22) (e := 9) rfl rfl Try.underlying22 s hs
    have hlen : (ss.take len).length = len := by rw [List.length_take]; omega
    have hin : StrsIn W (.slice (some a) len cap) (ss.take len) := by
      refine ⟨by rw [hlen]; omega, hsizes, ?_⟩
      by_cases hl0 : len = 0
      · left; subst hl0; exact ⟨some a, cap, rfl, rfl⟩
      · right
        obtain ⟨b, off, spot⟩ := a
        have hspot : spot = none := by simpa [Addr.add] using World.cell?_spot (hcell 0 (by omega))
        subst hspot
        refine ⟨b, off, cap, by rw [hlen], fun i hi => ?_⟩
        rw [hlen] at hi
        rw [← add_plain, hcell i (by omega), List.getElem_take]
        simp [List.getD, List.getElem?_eq_getElem (show i < ss.length by omega)]
    refine (apart_walk (some a) cap len _ hlen.symm W hin).mono fun e W' ⟨he, hnx⟩ => ?_
    subst he
    exact ⟨_, rfl, fin W' hnx⟩

/-- THE STATEMENT -/
theorem proved : Rows.CrcApartSaid :=
  OpenClaim.holds_of_wide 6 Try.f6 rfl rfl rfl rfl rfl rfl rfl ⟨rfl, rfl, rfl, rfl, rfl⟩ rfl rfl rfl rfl rfl (by kernel_rfl) Try.func6 (by kernel_rfl)
    (of_decide_eq_true (by kernel_rfl)) (by unfold Func.isWrapper; first | (rw [if_pos (by decide +kernel)]; kernel_rfl) | (rw [if_neg (by decide +kernel)]; exact ⟨rfl, rfl⟩))
    (fun os started H enc _ => lifted os started H enc)
#print axioms proved

end Go.Proofs.Ytdhokdjmobmpoaa.crcApart

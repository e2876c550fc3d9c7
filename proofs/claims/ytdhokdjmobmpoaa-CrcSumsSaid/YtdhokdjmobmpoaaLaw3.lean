/- CrcSums: any texts have the sum that the document says, however they are cut, up to 60 texts of 3000 bytes in all. No condition. -/
import Derived.Test.YtdhokdjmobmpoaaRows
import Derived.Test.YtdhokdjmobmpoaaWk6
import Derived.ProofKit
import Derived.OpenShut
import Derived.ShutString
import Derived.SizedLaws
namespace Go.Proofs.Ytdhokdjmobmpoaa.crcSums
open Go.ChangeShapes Go.WideShapes Go.ChangeAt Go.RowKit
open Go.ChangeMaps (open_string shut_string)
open Go.Proofs.Ytdhokdjmobmpoaa.Crc

theorem own : ownKnob Try.prog.godebug = none := by kernel_rfl

theorem sum_call (B : Nat) (v : Value) (ss : List ByteArray) (x : Nat) (w : World) (hx : sum (cat ss) = x) (ht : Tab w B) (hs : StrsIn w v ss) :
    Calls Try.prog 12 #[.pointer (some ⟨B, 0, none⟩), v] w fun e w' => e = .returned (.int .i64 (x : Int)) ∧ ∃ n, w' = w.drewN n := by
  subst hx; exact sum_any B v ss w ht hs

theorem sum_top_call (v : Value) (ss : List ByteArray) (x : Nat) (w : World) (hx : sum (cat ss) = x) (hs : StrsIn w v ss) :
    Calls Try.prog 11 #[v] w fun e w' => e = .returned (.int .i64 (x : Int)) ∧ Below w.heap.size w w' := by
  subst hx; exact sum_top v ss w hs

theorem cat_one (s : ByteArray) : cat [s] = s.data.toList := by simp [cat]

/-- the end of the law, all text gathered -/
theorem append_data (a b : ByteArray) : (a ++ b).data.toList = a.data.toList ++ b.data.toList := by simp

set_option maxRecDepth 100000 in
set_option maxHeartbeats 400000 in
theorem walk (a : Option Addr) (cap n : Nat) (ss : List ByteArray) (hn : n = ss.length) (w : World) (hs : StrsIn w (.slice a n cap) ss) :
    Calls Try.prog 3 #[.slice a n cap] w fun e w' => e = .returned (.bool true) ∧ Below w.heap.size w w' := by
  have hn1 : n ≤ 140737488355328 := by rw [hn]; exact hs.1
  have HN := Lib.hid hn
  have HS := Lib.hid hs
  clear hn hs
  go_enter Try.func3, Try.ntmps3
  go_wp2_with fail
  refine (awake_calls _).mono ?_
  rintro e w1 ⟨rfl, hb1⟩
  have HB1 := Lib.hid hb1
  clear hb1
  go_wp2_with fail
  go_loop [3, 13] (fun t i => ∃ (k : Nat) (all : ByteArray), k ≤ n ∧ i = .int .i64 k ∧ t = .string all ∧ all.size ≤ 3000 ∧ Hid (all.data.toList = cat (ss.take k))) (fun _ i => n - (intOf i).toNat)
  case atStart => exact ⟨0, ByteArray.empty, by omega, rfl, rfl, by simp, Lib.hid (by simp [cat])⟩
  case round =>
    obtain ⟨k, all, hk, rfl, rfl, hsz, HA⟩ := hrel
    by_cases hlt : k < n
    · obtain ⟨b, off, s, rfl, hcell, hss, hct⟩ : ∃ (b off : Nat) (s : ByteArray), a = some ⟨b, off, none⟩ ∧ w1.cell? ⟨b, off + k, none⟩ = some (.string s) ∧ s.size ≤ 140737488355328 ∧ cat (ss.take (k + 1)) = cat (ss.take k) ++ s.data.toList := by
        have h := HS.out
        have hks : k < ss.length := by rw [← HN.out]; exact hlt
        obtain ⟨_, h2, h3⟩ := h
        rcases h3 with ⟨_, _, _, rfl⟩ | ⟨b, off, cap', hv, hc⟩
        · simp at hks
        · injection hv with ha
          exact ⟨b, off, ss[k], ha, by rw [HB1.out.cell (cell_lt (hc k hks))]; exact hc k hks, h2 _ (List.getElem_mem _), cat_take_succ ss k hks⟩
      have HC := Lib.hid hct
      clear hct
      have d1 : decide ((k : Int) < (n : Int)) = true := by simp; omega
      by_cases hbig : 3000 < all.size + s.size
      · go_wp2_with fail
        go_ret
        exact ⟨rfl, HB1.out⟩
      · have hle : all.size + s.size ≤ 3000 := by omega
        go_wp2_with fail
        go_round
        case rel => exact ⟨k + 1, all ++ s, by omega, by go_num, rfl, by rw [ByteArray.size_append]; exact hle, Lib.hid (by rw [HC.out, append_data, HA.out])⟩
        case measure => simp [intOf]; omega
    · have HK := Lib.hid (show k = n by omega)
      have d1 : decide ((k : Int) < (n : Int)) = false := by simp; omega
      have hge : n ≤ k := by omega
      have HX : Hid (sum all.data.toList = sum (cat ss)) := Lib.hid (by rw [HA.out, HK.out, HN.out, List.take_of_length_le (Nat.le_refl _)])
      by_cases h60 : 60 < n
      · go_wp2_with fail
        go_ret
        exact ⟨rfl, HB1.out⟩
      · have hle : n ≤ 60 := by omega
        go_wp2_with fail
        refine (refSum all _ (by omega)).mono ?_
        rintro e w' ⟨rfl, rfl⟩
        generalize hx : sum all.data.toList = x
        have HE := Lib.hid hx
        clear hx
        go_wp2_with fail
        refine (new_calls _).mono ?_
        rintro e w2 ⟨B, hB, rfl, ht, hb2⟩
        have HT := Lib.hid ht
        have HB2 := Lib.hid hb2
        clear ht hb2
        have HS2 := Lib.hid ((HS.out.below HB1.out).below HB2.out)
        go_wp2_with fail
        refine (sum_top_call _ ss x _ (by rw [← HX.out, HE.out]) HS2.out).mono ?_
        rintro e w3 ⟨rfl, hb3⟩
        have HB3 := Lib.hid hb3
        clear hb3
        have HS3 := Lib.hid (HS2.out.below HB3.out)
        have HT3 := Lib.hid (HT.out.below HB3.out)
        go_wp2_with fail
        refine (sum_call B _ ss x _ (by rw [← HX.out, HE.out]) HT3.out HS3.out).mono ?_
        rintro e w4 ⟨rfl, hd4⟩
        have HB4 := Lib.hid (below_drewN hd4 w3.heap.size)
        clear hd4
        have HS4 := Lib.hid (HS3.out.below HB4.out)
        have HT4 := Lib.hid (HT3.out.below HB4.out)
        go_wp2_with fail
        refine (sum_call B _ [all] x _ (by rw [cat_one, HE.out]) (HT4.out.alloc _) (strs_new1 w4 all (by omega))).mono ?_
        rintro e w5 ⟨rfl, hd5⟩
        have HB5 := Lib.hid (alloc_below (below_drewN hd5 _))
        clear hd5
        go_wp2_with fail
        refine (sum_off _ _).mono ?_
        rintro e w6 ⟨rfl, rfl⟩
        go_wp2
        go_ret
        have h2 := HB1.out.trans (HB2.out.mono HB1.out.size)
        have h3 := h2.trans (HB3.out.mono h2.size)
        have h4 := h3.trans (HB4.out.mono h3.size)
        exact ⟨by simp, h4.trans (HB5.out.mono h4.size)⟩

theorem cells9 : Try.prog.cellsOf 9 = 1 := by kernel_rfl
theorem bytes9 : Try.prog.bytesOf 9 = 16 := by kernel_rfl
theorem laidOut : laidOutB Try.prog = true := by kernel_rfl

theorem weights_strs {H : Type} (P : Program) (e : TypeId) (ss : List ByteArray) (s : ByteArray) (hs : s ∈ ss) : s.size ∈ DataW.weightsAll (H := H) P e (strs ss) := by
  induction ss with
  | nil => simp at hs
  | cons x xs ih =>
    rcases List.mem_cons.1 hs with rfl | h
    · simp [strs, DataW.weightsAll, DataW.weights]
    · have := ih h
      simp only [strs, List.map_cons, DataW.weightsAll, List.mem_append]
      exact Or.inr this

theorem sized_strs {H : Type} {P : Program} {ts : List TypeId} {ds : List (DataW H)} {j t e : Nat} {ss rest : List ByteArray}
    (h : (DataW.weightsEach P ts ds).all (· ≤ reachBytes) = true) (ht : ts[j]? = some t) (hd : ds[j]? = some (.slice (strs ss) (strs rest))) (hu : P.underlying t = some (.slice e)) (s : ByteArray) (hs : s ∈ ss) : s.size ≤ 140737488355328 := by
  have := List.all_eq_true.1 h _ (DataW.weights_mem_each ht hd s.size (by simp only [DataW.weights, hu, List.mem_cons, List.mem_append]; exact Or.inr (Or.inl (weights_strs P e ss s hs))))
  have h2 : s.size ≤ reachBytes := by simpa using this
  unfold reachBytes at h2
  omega

set_option maxRecDepth 100000 in
theorem lifted (os : Os) (started : os.Started) (H : Type) (enc : TypeId × Value → H) :
    ReturnsInHanded {} Try.checked os 3 .any (Rows.crcSumsSpec.pre6 enc Try.prog Try.f3 Rows.crcSumsRow.domain false) (Rows.crcSumsSpec.post enc Try.prog Try.f3 false true false false) := by
  refine returnsInHanded_of_change_sized (C := Try.checked) own started (by kernel_rfl) Try.func3
    (ChangeSpec.witness6 (enc := enc) (C := Try.checked) false ⟨#[], #[.slice none 0 0], []⟩ 8 (by kernel_rfl) (by kernel_rfl) (by kernel_rfl) (by kernel_rfl)) ?_
  intro W base args ds gs before hval0 hW _ hsz0 _
  have hsz : (DataW.weightsEach Try.prog (Try.f3.params.toList ++ Rows.crcSumsSpec.plain.varTypes Try.prog) (ds ++ gs)).all (· ≤ reachBytes) = true := hsz0
  clear hsz0
  have hval : ∀ (j : Nat) t v, Try.f3.params[j]? = some t → args[j]? = some v → Value.okWide Try.prog W .any base t v := hval0
  have hW' := hW
  obtain ⟨p, q, hA0, hV, rfl, _, _⟩ := hW
  have hA : DataW.TrodAll enc Try.prog W 0 (fun _ => true) true Try.f3.params.toList args.toList ds p := hA0
  rw [Try.params3] at hA hval hsz
  obtain ⟨v0, d0, rfl, rfl, h0⟩ := trodAll_one hA
  obtain ⟨rfl, rfl⟩ := trodVars_none hV
  obtain ⟨a0, len, cap, rfl⟩ := okWide_slice Try.underlying22 (hval 0 22 v0 rfl rfl)
  have h0k := h0
  obtain ⟨fuel, hf⟩ := h0
  clear hA0 hval0
  simp only [List.append_nil] at hW'
  have hlt : ∀ x ∈ p, x.block < W.heap.size := fun x hx => by simpa using hW'.lt x hx
  have fin : ∀ W' : World, Below W.heap.size W W' → Rows.crcSumsSpec.post enc Try.checked.prog Try.f3 false true false false W #[.slice a0 len cap] (.bool true) W' := by
    intro W' hnx
    refine ⟨_, _, _, [] ++ [], p, [], hW', ?_, ?_, rfl, hnx.frame _, fun h => by cases h⟩
    · exact trodAll_mk1 (shut_bool Try.underlying4 true)
    · exact trodAll_mk1 (Below.trod laidOut (by kernel_rfl) (of_decide_eq_true (by kernel_rfl)) h0k hnx hlt)
  rcases open_strings Try.underlying22 Try.underlying9 cells9 hf with ⟨hcs, hx⟩ | ⟨a, len', cap', ss, hcs, _, hl, hm, hz, hx, hcell, hws⟩
  · simp [Value.cells] at hcs
    obtain ⟨rfl, rfl, rfl⟩ := hcs
    refine (walk none 0 0 [] rfl W ⟨by simp, by simp, Or.inl ⟨none, 0, rfl, rfl⟩⟩).mono fun e W' ⟨he, hnx⟩ => ?_
    subst he
    exact ⟨_, rfl, fin W' hnx⟩
  · simp [Value.cells] at hcs
    obtain ⟨rfl, rfl, rfl⟩ := hcs
    simp only [Prod.mk.injEq] at hx
    obtain ⟨rfl, rfl⟩ := hx
    simp only [if_true] at hz
    have hreach : len * 16 ≤ 140737488355328 := by
      have := sized_slice hsz (j := 0) (t := 22) (e := 9) rfl rfl Try.underlying22
      rw [bytes9] at this
      simp only [strs, List.length_map, List.length_take, List.length_drop, reachBytes] at this
      omega
    have hsizes := fun s hs => sized_strs hsz (j := 0) (t := 22) (e := 9) rfl rfl Try.underlying22 s hs
    have hlen : (ss.take len).length = len := by rw [List.length_take]; omega
    have hin : StrsIn W (.slice (some a) len cap) (ss.take len) := by
      refine ⟨by rw [hlen]; omega, hsizes, ?_⟩
      by_cases hl0 : len = 0
      · left; subst hl0; exact ⟨some a, cap, rfl, rfl⟩
      · right
        obtain ⟨b, off, spot⟩ := a
        have hspot : spot = none := by simpa [Addr.add] using World.cell?_spot (hcell 0 (by omega))
        subst hspot
        refine ⟨b, off, cap, by rw [hlen], fun i hi => ?_⟩
        rw [hlen] at hi
        rw [← add_plain, hcell i (by omega), List.getElem_take]
        simp [List.getD, List.getElem?_eq_getElem (show i < ss.length by omega)]
    refine (walk (some a) cap len _ hlen.symm W hin).mono fun e W' ⟨he, hnx⟩ => ?_
    subst he
    exact ⟨_, rfl, fin W' hnx⟩

/-- THE STATEMENT -/
theorem proved : Rows.CrcSumsSaid :=
  OpenClaim.holds_of_wide 3 Try.f3 rfl rfl rfl rfl rfl rfl rfl ⟨rfl, rfl, rfl, rfl, rfl⟩ rfl rfl rfl rfl rfl (by kernel_rfl) Try.func3 (by kernel_rfl)
    (of_decide_eq_true (by kernel_rfl)) (by unfold Func.isWrapper; first | (rw [if_pos (by decide +kernel)]; kernel_rfl) | (rw [if_neg (by decide +kernel)]; exact ⟨rfl, rfl⟩))
    (fun os started H enc _ => lifted os started H enc)
#print axioms proved

end Go.Proofs.Ytdhokdjmobmpoaa.crcSums

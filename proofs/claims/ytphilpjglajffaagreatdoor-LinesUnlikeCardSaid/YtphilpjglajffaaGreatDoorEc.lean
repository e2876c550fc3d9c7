/- Walks of functions that go through slices. -/
import Derived.Test.YtphilpjglajffaaGreatDoorEb
namespace Go.Proofs.YtphilpjglajffaaGreatDoor.Lin
open Go.RowKit

/-- a slice of texts, read in a world -/
def StrsIn (w : World) (s : Sl) (l : List ByteArray) : Prop :=
  s.n = l.length ∧ (l = [] ∨ ∃ b off, s.a = some ⟨b, off, none⟩ ∧ ∀ i (h : i < l.length), w.cell? ⟨b, off + i, none⟩ = some (.string l[i]))
theorem StrsIn.below {w w' : World} {s : Sl} {l : List ByteArray} (h : StrsIn w s l) (hb : Below w.heap.size w w') : StrsIn w' s l := by
  obtain ⟨h0, h⟩ := h
  refine ⟨h0, ?_⟩
  rcases h with h | ⟨b, off, hv, hc⟩
  · exact .inl h
  · exact .inr ⟨b, off, hv, fun i hi => (hb.cell (cell_lt (hc i hi))).trans (hc i hi)⟩
theorem StrsIn.at {w : World} {a : Option Addr} {n c : Nat} {l : List ByteArray} (h : StrsIn w ⟨a, n, c⟩ l) (k : Nat) (hk : k < l.length) :
    ∃ b off, a = some ⟨b, off, none⟩ ∧ w.cell? ⟨b, off + k, none⟩ = some (.string l[k]) := by
  rcases h.2 with rfl | ⟨b, off, hv, hc⟩
  · simp at hk
  · exact ⟨b, off, hv, hc k hk⟩

theorem take_all {α : Type} (p : α → Bool) (l : List α) (k : Nat) (h : k < l.length) : (l.take (k + 1)).all p = ((l.take k).all p && p l[k]) := by
  rw [List.take_succ_eq_append_getElem h, List.all_append]; simp only [List.all_cons, List.all_nil, Bool.and_true]
theorem all_stop {α : Type} (p : α → Bool) (l : List α) (k : Nat) (h : k < l.length) (hn : p l[k] = false) : l.all p = false := by
  rw [List.all_eq_false]
  exact ⟨_, List.getElem_mem h, by simp [hn]⟩

theorem func_eq (W : World) : Sem.run Tryz.prog (binOp BinOp.eql 37 (.func (.func 65) #[] #[]) .nilFunc) W = .ok (.bool false) W := by kernel_rfl

set_option maxRecDepth 100000 in
set_option maxHeartbeats 1000000 in
theorem all_calls (a : Option Addr) (n c : Nat) (l : List ByteArray) (w : World) (hl : StrsIn w ⟨a, n, c⟩ l) (hn1 : n ≤ 9223372036854775807) :
    Calls Tryz.prog 64 #[.func (.func 65) #[] #[], .slice a n c] w fun e w' => e = .returned (.bool (l.all plainB)) ∧ Below w.heap.size w w' := by
  have HN : Hid (n = l.length) := Lib.hid hl.1
  have HL := Lib.hid hl
  clear hl
  go_enter Tryz.func64, Tryz.ntmps64
  go_wp2_with fail
  go_loopw [9] (fun i wr => ∃ k : Nat, k ≤ n ∧ i = .int .i64 k ∧ Hid ((l.take k).all plainB = true) ∧ Hid (Below w.heap.size w wr)) (fun i _ => n - (intOf i).toNat)
  case atStart => exact ⟨0, Nat.zero_le _, rfl, Lib.hid rfl, Lib.hid (Below.refl _ _)⟩
  case round =>
    obtain ⟨k, hk, rfl, HE, HW⟩ := hrel
    by_cases hlt : k < n
    · have d1 : decide ((k : Int) < (n : Int)) = true := by simp; omega
      have hki : (k : Int) < (n : Int) := by omega
      have hkl : k < l.length := by rw [← HN.out]; exact hlt
      obtain ⟨b, off, rfl, hcell⟩ := (HL.out.below HW.out).at k hkl
      have HS := Lib.hid (take_all plainB l k hkl)
      have HT := Lib.hid (all_stop plainB l k hkl)
      generalize l[k] = m at *
      clear hkl
      have hfe := func_eq wr
      go_wp2_with fail
      refine (plain_calls' m _).mono ?_
      rintro e w3 ⟨rfl, hb3⟩
      have HW3 := Lib.hid (HW.out.trans (hb3.mono HW.out.size))
      clear hb3
      cases hm : plainB m
      · go_wp2_with fail
        go_ret
        exact ⟨ret_bool (HT.out hm).symm, HW3.out⟩
      · go_wp2_with fail
        go_roundw
        case rel => exact ⟨k + 1, by omega, by go_num, Lib.hid (by rw [HS.out, HE.out, hm]; rfl), HW3⟩
        case measure => simp [intOf]; omega
    · have d1 : decide ((k : Int) < (n : Int)) = false := by simp; omega
      have HK := Lib.hid (show k = n by omega)
      go_wp2_with fail
      go_ret
      refine ⟨ret_bool ?_, HW.out⟩
      have := HE.out
      rw [HK.out, HN.out, List.take_length] at this
      exact this.symm


set_option maxRecDepth 100000 in
set_option maxHeartbeats 1000000 in
theorem idxBad_calls (a : Option Addr) (n c : Nat) (l : List ByteArray) (w : World) (hl : StrsIn w ⟨a, n, c⟩ l) (hn1 : n ≤ 9223372036854775807) :
    Calls Tryz.prog 73 #[.slice a n c, .func (.func 40) #[] #[]] w fun e w' => (∃ i : Int, e = .returned (.int .i64 i) ∧ decide (0 ≤ i) = !l.all fun x => !badB x) ∧ w' = w := by
  have HN : Hid (n = l.length) := Lib.hid hl.1
  have HL := Lib.hid hl
  clear hl
  go_enter Tryz.func73, Tryz.ntmps73
  go_wp2_with fail
  go_loopw [8] (fun i wr => ∃ k : Nat, k ≤ n ∧ i = .int .i64 k ∧ Hid (((l.take k).all fun x => !badB x) = true) ∧ Hid (wr = w)) (fun i _ => n - (intOf i).toNat)
  case atStart => exact ⟨0, Nat.zero_le _, rfl, Lib.hid rfl, Lib.hid rfl⟩
  case round =>
    obtain ⟨k, hk, rfl, HE, HW⟩ := hrel
    have hw := HW.out
    subst hw
    by_cases hlt : k < n
    · have d1 : decide ((k : Int) < (n : Int)) = true := by simp; omega
      have hki : (k : Int) < (n : Int) := by omega
      have hkl : k < l.length := by rw [← HN.out]; exact hlt
      obtain ⟨b, off, rfl, hcell⟩ := (HL.out).at k hkl
      have HS := Lib.hid (take_all (fun x => !badB x) l k hkl)
      have HT := Lib.hid (all_stop (fun x => !badB x) l k hkl)
      generalize l[k] = m at *
      clear hkl
      go_wp2_with fail
      refine (bad_calls m _).mono ?_
      rintro e w3 ⟨rfl, rfl⟩
      cases hm : badB m
      · go_wp2_with fail
        go_roundw
        case rel => exact ⟨k + 1, by omega, by go_num, Lib.hid (by rw [HS.out, HE.out, hm]; rfl), Lib.hid (by trivial)⟩
        case measure => simp [intOf]; omega
      · go_wp2_with fail
        go_ret
        refine ⟨⟨(k : Int), rfl, ?_⟩, rfl⟩
        rw [HT.out (by rw [hm]; rfl)]; simp
    · have d1 : decide ((k : Int) < (n : Int)) = false := by simp; omega
      have HK := Lib.hid (show k = n by omega)
      go_wp2_with fail
      go_ret
      refine ⟨⟨-1, rfl, ?_⟩, rfl⟩
      have := HE.out
      rw [HK.out, HN.out, List.take_length] at this
      rw [this]; rfl

set_option maxRecDepth 100000 in
set_option maxHeartbeats 1000000 in
theorem idxFar_calls (a : Option Addr) (n c : Nat) (l : List Int) (w : World) (hl : IntsIn w (.slice a n c) l) (hn : n = l.length) (hn1 : n ≤ 9223372036854775807) :
    Calls Tryz.prog 91 #[.slice a n c, .func (.func 71) #[] #[]] w fun e w' => (∃ i : Int, e = .returned (.int .i64 i) ∧ decide (0 ≤ i) = !l.all fun x => !farI x) ∧ w' = w := by
  have HN : Hid (n = l.length) := Lib.hid hn
  have HL := Lib.hid hl
  clear hl hn
  go_enter Tryz.func91, Tryz.ntmps91
  go_wp2_with fail
  go_loopw [8] (fun i wr => ∃ k : Nat, k ≤ n ∧ i = .int .i64 k ∧ Hid (((l.take k).all fun x => !farI x) = true) ∧ Hid (wr = w)) (fun i _ => n - (intOf i).toNat)
  case atStart => exact ⟨0, Nat.zero_le _, rfl, Lib.hid rfl, Lib.hid rfl⟩
  case round =>
    obtain ⟨k, hk, rfl, HE, HW⟩ := hrel
    have hw := HW.out
    subst hw
    by_cases hlt : k < n
    · have d1 : decide ((k : Int) < (n : Int)) = true := by simp; omega
      have hki : (k : Int) < (n : Int) := by omega
      have hkl : k < l.length := by rw [← HN.out]; exact hlt
      obtain ⟨b, off, rfl, hcell⟩ := (HL.out).at HN.out k hkl
      have HS := Lib.hid (take_all (fun x => !farI x) l k hkl)
      have HT := Lib.hid (all_stop (fun x => !farI x) l k hkl)
      generalize l[k] = m at *
      clear hkl
      go_wp2_with fail
      refine (far_calls m _).mono ?_
      rintro e w3 ⟨rfl, rfl⟩
      cases hm : farI m
      · go_wp2_with fail
        go_roundw
        case rel => exact ⟨k + 1, by omega, by go_num, Lib.hid (by rw [HS.out, HE.out, hm]; rfl), Lib.hid (by trivial)⟩
        case measure => simp [intOf]; omega
      · go_wp2_with fail
        go_ret
        refine ⟨⟨(k : Int), rfl, ?_⟩, rfl⟩
        rw [HT.out (by rw [hm]; rfl)]; simp
    · have d1 : decide ((k : Int) < (n : Int)) = false := by simp; omega
      have HK := Lib.hid (show k = n by omega)
      go_wp2_with fail
      go_ret
      refine ⟨⟨-1, rfl, ?_⟩, rfl⟩
      have := HE.out
      rw [HK.out, HN.out, List.take_length] at this
      rw [this]; rfl

set_option maxRecDepth 100000 in
theorem hasBad_calls (a : Option Addr) (n c : Nat) (l : List ByteArray) (w : World) (hl : StrsIn w ⟨a, n, c⟩ l) (hn1 : n ≤ 9223372036854775807) :
    Calls Tryz.prog 46 #[.slice a n c, .func (.func 40) #[] #[]] w fun e w' => e = .returned (.bool (!l.all fun x => !badB x)) ∧ w' = w := by
  have hc := idxBad_calls a n c l w hl hn1
  generalize (!l.all fun x => !badB x) = B at *
  have HC := Lib.hid hc
  clear hc hl hn1
  go_enter Tryz.func46, Tryz.ntmps46
  go_wp2_with fail
  refine HC.out.mono ?_
  rintro e w3 ⟨⟨i, rfl, hi⟩, rfl⟩
  have HI := Lib.hid hi
  clear hi
  go_wp2_with fail
  go_ret
  exact ⟨ret_bool HI.out, rfl⟩

set_option maxRecDepth 100000 in
theorem hasFar_calls (a : Option Addr) (n c : Nat) (l : List Int) (w : World) (hl : IntsIn w (.slice a n c) l) (hn : n = l.length) (hn1 : n ≤ 9223372036854775807) :
    Calls Tryz.prog 70 #[.slice a n c, .func (.func 71) #[] #[]] w fun e w' => e = .returned (.bool (!l.all fun x => !farI x)) ∧ w' = w := by
  have hc := idxFar_calls a n c l w hl hn hn1
  generalize (!l.all fun x => !farI x) = B at *
  have HC := Lib.hid hc
  clear hc hl hn hn1
  go_enter Tryz.func70, Tryz.ntmps70
  go_wp2_with fail
  refine HC.out.mono ?_
  rintro e w3 ⟨⟨i, rfl, hi⟩, rfl⟩
  have HI := Lib.hid hi
  clear hi
  go_wp2_with fail
  go_ret
  exact ⟨ret_bool HI.out, rfl⟩

set_option maxRecDepth 100000 in
theorem num_calls (a : Option Addr) (n c : Nat) (l : List Int) (w : World) (hl : IntsIn w (.slice a n c) l) (hn : n = l.length) (hn1 : n ≤ 9223372036854775807) :
    Calls Tryz.prog 42 #[.slice a n c] w fun e w' => e = .returned (.bool (l.all fun x => !farI x)) ∧ w' = w := by
  have hc := hasFar_calls a n c l w hl hn hn1
  generalize (l.all fun x => !farI x) = B at *
  have HC := Lib.hid hc
  clear hc hl hn hn1
  go_enter Tryz.func42, Tryz.ntmps42
  go_wp2_with fail
  refine HC.out.mono ?_
  rintro e w3 ⟨rfl, rfl⟩
  go_wp2_with fail
  go_ret
  exact ⟨ret_bool (by simp), rfl⟩

end Go.Proofs.YtphilpjglajffaaGreatDoor.Lin

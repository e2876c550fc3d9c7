/- Reading an event off the caller's memory. -/
import Derived.Test.YtphilpjglajffaaGreatDoorFrame
import Derived.Test.YtphilpjglajffaaGreatDoorEi
import Derived.Deep.Strs
import Derived.Deep.Grids
namespace Go.Proofs.YtphilpjglajffaaGreatDoor.Lin
open Go.ChangeShapes Go.WideShapes Go.RowKit

theorem cellsOf3 : Tryz.prog.cellsOf 3 = 1 := by kernel_rfl
theorem cellsOf4 : Tryz.prog.cellsOf 4 = 1 := by kernel_rfl
theorem cellsOf9 : Tryz.prog.cellsOf 9 = 1 := by kernel_rfl
theorem cellsOf22 : Tryz.prog.cellsOf 22 = 1 := by kernel_rfl
theorem cellsOf23 : Tryz.prog.cellsOf 23 = 1 := by kernel_rfl
theorem cellsOf25 : Tryz.prog.cellsOf 25 = 14 := by kernel_rfl

theorem array14 {α : Type} {cs : Array α} (h : cs.size = 14) : ∃ c0 c1 c2 c3 c4 c5 c6 c7 c8 c9 c10 c11 c12 c13, cs = #[c0, c1, c2, c3, c4, c5, c6, c7, c8, c9, c10, c11, c12, c13] := by
  obtain ⟨l⟩ := cs
  match l, h with
  | [c0, c1, c2, c3, c4, c5, c6, c7, c8, c9, c10, c11, c12, c13], _ => exact ⟨c0, c1, c2, c3, c4, c5, c6, c7, c8, c9, c10, c11, c12, c13, rfl⟩

section
variable {H : Type} {enc : TypeId × Value → H} {w : World}

theorem strs_read {fuel : Nat} {v : Value} {x : DataW H × List MemPlace} (h : DataW.trod enc Tryz.prog w 0 (fun _ => true) true fuel 22 [v] = some x) :
    ∃ (s : Sl) (l : List ByteArray), v = .slice s.a s.n s.c ∧ StrsIn w s l ∧ (s.a = none → s.n = 0 ∧ s.c = 0) := by
  rcases Go.Deep.open_strs Tryz.underlying22 Tryz.underlying9 cellsOf9 h with ⟨hcs, _⟩ | ⟨a, len, cap, m, Sx, hcs, _, hl, _, hmm, _, hc⟩
  · simp only [List.cons.injEq, and_true] at hcs
    exact ⟨⟨none, 0, 0⟩, [], hcs, ⟨rfl, .inl rfl⟩, fun _ => ⟨rfl, rfl⟩⟩
  · simp only [List.cons.injEq, and_true] at hcs
    simp only [if_true] at hmm
    refine ⟨⟨some a, len, cap⟩, (List.range len).map Sx, hcs, ⟨by simp, ?_⟩, fun h => by cases h⟩
    by_cases h0 : len = 0
    · subst h0; left; rfl
    · right
      obtain ⟨b, off, spot⟩ := a
      have hspot : spot = none := by simpa [Addr.add] using World.cell?_spot (hc 0 (by omega)).1
      subst hspot
      refine ⟨b, off, rfl, fun i hi => ?_⟩
      have hi' : i < len := by simpa using hi
      have := (hc i (by omega)).1
      rw [add_plain] at this
      rw [this]
      simp

theorem bools_read {fuel : Nat} {v : Value} {x : DataW H × List MemPlace} (h : DataW.trod enc Tryz.prog w 0 (fun _ => true) true fuel 23 [v] = some x) :
    ∃ (s : Sl) (l : List Bool), v = .slice s.a s.n s.c ∧ BoolsIn w s l := by
  rcases Go.Deep.open_bools Tryz.underlying23 Tryz.underlying4 cellsOf4 h with ⟨hcs, _⟩ | ⟨a, len, cap, B, hcs, _, hl, _, _, hc⟩
  · simp only [List.cons.injEq, and_true] at hcs
    exact ⟨⟨none, 0, 0⟩, [], hcs, ⟨rfl, .inl rfl⟩⟩
  · simp only [List.cons.injEq, and_true] at hcs
    refine ⟨⟨some a, len, cap⟩, (List.range len).map B, hcs, ⟨by simp, ?_⟩⟩
    by_cases h0 : len = 0
    · subst h0; left; rfl
    · right
      obtain ⟨b, off, spot⟩ := a
      have hspot : spot = none := by simpa [Addr.add] using World.cell?_spot (hc 0 (by omega))
      subst hspot
      refine ⟨b, off, rfl, fun i hi => ?_⟩
      have hi' : i < len := by simpa using hi
      have := hc i (by omega)
      rw [add_plain] at this
      rw [this]
      simp

set_option maxRecDepth 100000 in
/-- an event, as the caller's memory has it -/
theorem event_reads {base : Nat} {v : Value} {d : DataW H} {p : List MemPlace} (hv : Value.okWide Tryz.prog w .any base 25 v) (h : DataW.Trod enc Tryz.prog w 0 (fun _ => true) true 25 v d p) (hp : PowIs w) :
    ∃ (r : Raw) (keys tags : List ByteArray) (keep : List Bool), v = r.val ∧ Ctx w r keys tags keep ∧ (r.ks.a = none → r.ks.n = 0 ∧ r.ks.c = 0) ∧ (r.ts.a = none → r.ts.n = 0 ∧ r.ts.c = 0) := by
  obtain ⟨cs, rfl, hsz⟩ := okWide_struct Tryz.underlying25 hv
  obtain ⟨c0, c1, c2, c3, c4, c5, c6, c7, c8, c9, c10, c11, c12, c13, rfl⟩ := array14 (hsz.trans cellsOf25)
  obtain ⟨fuel, hf⟩ := h
  obtain ⟨xs, n, _, _, _, hxs, hx⟩ := DataW.trod_struct Tryz.underlying25 hf
  have g : ∀ i, i < 14 → ∃ y, xs[i]? = some y := fun i hi => ⟨xs[i]'(by rw [hxs]; exact hi), List.getElem?_eq_getElem _⟩
  obtain ⟨y0, e0⟩ := g 0 (by decide)
  have t0 : DataW.trod enc Tryz.prog w 0 (fun _ => true) true n 3 [c0] = some y0 := by have := hx 0 _ rfl; rw [e0] at this; simpa [Value.cells, cellsOf3] using this
  obtain ⟨y1, e1⟩ := g 1 (by decide)
  have t1 : DataW.trod enc Tryz.prog w 0 (fun _ => true) true n 3 [c1] = some y1 := by have := hx 1 _ rfl; rw [e1] at this; simpa [Value.cells, cellsOf3] using this
  obtain ⟨y2, e2⟩ := g 2 (by decide)
  have t2 : DataW.trod enc Tryz.prog w 0 (fun _ => true) true n 3 [c2] = some y2 := by have := hx 2 _ rfl; rw [e2] at this; simpa [Value.cells, cellsOf3] using this
  obtain ⟨y3, e3⟩ := g 3 (by decide)
  have t3 : DataW.trod enc Tryz.prog w 0 (fun _ => true) true n 3 [c3] = some y3 := by have := hx 3 _ rfl; rw [e3] at this; simpa [Value.cells, cellsOf3] using this
  obtain ⟨y4, e4⟩ := g 4 (by decide)
  have t4 : DataW.trod enc Tryz.prog w 0 (fun _ => true) true n 3 [c4] = some y4 := by have := hx 4 _ rfl; rw [e4] at this; simpa [Value.cells, cellsOf3] using this
  obtain ⟨y5, e5⟩ := g 5 (by decide)
  have t5 : DataW.trod enc Tryz.prog w 0 (fun _ => true) true n 9 [c5] = some y5 := by have := hx 5 _ rfl; rw [e5] at this; simpa [Value.cells, cellsOf9] using this
  obtain ⟨y6, e6⟩ := g 6 (by decide)
  have t6 : DataW.trod enc Tryz.prog w 0 (fun _ => true) true n 9 [c6] = some y6 := by have := hx 6 _ rfl; rw [e6] at this; simpa [Value.cells, cellsOf9] using this
  obtain ⟨y7, e7⟩ := g 7 (by decide)
  have t7 : DataW.trod enc Tryz.prog w 0 (fun _ => true) true n 9 [c7] = some y7 := by have := hx 7 _ rfl; rw [e7] at this; simpa [Value.cells, cellsOf9] using this
  obtain ⟨y8, e8⟩ := g 8 (by decide)
  have t8 : DataW.trod enc Tryz.prog w 0 (fun _ => true) true n 9 [c8] = some y8 := by have := hx 8 _ rfl; rw [e8] at this; simpa [Value.cells, cellsOf9] using this
  obtain ⟨y9, e9⟩ := g 9 (by decide)
  have t9 : DataW.trod enc Tryz.prog w 0 (fun _ => true) true n 9 [c9] = some y9 := by have := hx 9 _ rfl; rw [e9] at this; simpa [Value.cells, cellsOf9] using this
  obtain ⟨y10, e10⟩ := g 10 (by decide)
  have t10 : DataW.trod enc Tryz.prog w 0 (fun _ => true) true n 22 [c10] = some y10 := by have := hx 10 _ rfl; rw [e10] at this; simpa [Value.cells, cellsOf22] using this
  obtain ⟨y11, e11⟩ := g 11 (by decide)
  have t11 : DataW.trod enc Tryz.prog w 0 (fun _ => true) true n 22 [c11] = some y11 := by have := hx 11 _ rfl; rw [e11] at this; simpa [Value.cells, cellsOf22] using this
  obtain ⟨y12, e12⟩ := g 12 (by decide)
  have t12 : DataW.trod enc Tryz.prog w 0 (fun _ => true) true n 23 [c12] = some y12 := by have := hx 12 _ rfl; rw [e12] at this; simpa [Value.cells, cellsOf23] using this
  obtain ⟨y13, e13⟩ := g 13 (by decide)
  have t13 : DataW.trod enc Tryz.prog w 0 (fun _ => true) true n 4 [c13] = some y13 := by have := hx 13 _ rfl; rw [e13] at this; simpa [Value.cells, cellsOf4] using this
  obtain ⟨z0, k0, _, _⟩ := DataW.trod_int Tryz.underlying3 t0
  obtain ⟨z1, k1, _, _⟩ := DataW.trod_int Tryz.underlying3 t1
  obtain ⟨z2, k2, _, _⟩ := DataW.trod_int Tryz.underlying3 t2
  obtain ⟨z3, k3, _, _⟩ := DataW.trod_int Tryz.underlying3 t3
  obtain ⟨z4, k4, _, _⟩ := DataW.trod_int Tryz.underlying3 t4
  obtain ⟨z5, k5, _, _⟩ := DataW.trod_string Tryz.underlying9 t5
  obtain ⟨z6, k6, _, _⟩ := DataW.trod_string Tryz.underlying9 t6
  obtain ⟨z7, k7, _, _⟩ := DataW.trod_string Tryz.underlying9 t7
  obtain ⟨z8, k8, _, _⟩ := DataW.trod_string Tryz.underlying9 t8
  obtain ⟨z9, k9, _, _⟩ := DataW.trod_string Tryz.underlying9 t9
  obtain ⟨z13, k13, _⟩ := DataW.trod_bool Tryz.underlying4 t13
  obtain ⟨s10, l10, k10, i10, o10⟩ := strs_read t10
  obtain ⟨s11, l11, k11, i11, o11⟩ := strs_read t11
  obtain ⟨s12, l12, k12, i12⟩ := bools_read t12
  simp only [List.cons.injEq, and_true] at k0 k1 k2 k3 k4 k5 k6 k7 k8 k9 k13
  subst k0 k1 k2 k3 k4 k5 k6 k7 k8 k9 k10 k11 k12 k13
  exact ⟨⟨z0, z1, z2, z3, z4, z5, z6, z7, z8, z9, s10, s11, s12, z13⟩, l10, l11, l12, rfl, ⟨i10, i11, i12, fun h => (o10 h).1, fun h => (o11 h).1, hp⟩, o10, o11⟩
end
end Go.Proofs.YtphilpjglajffaaGreatDoor.Lin

/- The evaluator by itself: reads see what they saw when blocks are added; writes do not touch what they did not know. -/
import Derived.Test.YtphilpjglajffaaGreatDoorEvM
namespace Go.Ev

structure Fresh (h : H) : Prop where
  none : ∀ b, h.nx ≤ b → h.get b = none
  lim : h.nx ≤ LIM

theorem Fresh.lt {h : H} (hf : Fresh h) {b : Nat} {o : AO} (hb : h.get b = some o) : b < h.nx := by
  rcases Nat.lt_or_ge b h.nx with h1 | h1
  · exact h1
  · rw [hf.none b h1] at hb; simp at hb

structure Fwd (h h' : H) : Prop where
  fresh : Fresh h'
  nx : h.nx ≤ h'.nx
  same : ∀ b, b < h.nx → (h'.get b).isSome = (h.get b).isSome

theorem Fwd.refl {h : H} (hf : Fresh h) : Fwd h h := ⟨hf, Nat.le_refl _, fun _ _ => rfl⟩
theorem Fwd.trans {a b c : H} (x : Fwd a b) (y : Fwd b c) : Fwd a c := ⟨y.fresh, Nat.le_trans x.nx y.nx, fun i hi => (y.same i (Nat.lt_of_lt_of_le hi x.nx)).trans (x.same i hi)⟩

theorem Fwd.dom {ro : Nat} {h h' : H} (x : Fwd h h') (hf : Fresh h) (b : Nat) (hb : dom ro h b) : dom ro h' b := by
  rcases hb with hb | hb
  · exact .inl hb
  · refine .inr ?_
    obtain ⟨o, ho⟩ := Option.isSome_iff_exists.1 hb
    rw [x.same b (hf.lt ho)]; exact hb

/-- a known block written -/
theorem fwd_put {h : H} (hf : Fresh h) {b : Nat} {o : AO} (x : AO) (hb : h.get b = some o) : Fwd h (h.put b x) := by
  have hlt := hf.lt hb
  have hl := Nat.lt_of_lt_of_le hlt hf.lim
  refine ⟨⟨fun i hi => ?_, hf.lim⟩, Nat.le_refl _, fun i _ => ?_⟩
  · rw [H.get_put_other hl _ (show i ≠ b from fun e => by subst e; exact absurd hi (Nat.not_le.2 hlt))]
    exact hf.none i hi
  · rw [H.get_put hl]
    split
    · rename_i e; subst e; rw [hb]; rfl
    · rfl

/-- a new block -/
theorem fwd_new {h : H} (hf : Fresh h) (hl : h.nx < LIM) (x : AO) : Fwd h { h.put h.nx x with nx := h.nx + 1 } := by
  refine ⟨⟨fun i hi => ?_, hl⟩, Nat.le_succ _, fun i hi => ?_⟩
  · show (h.put h.nx x).get i = none
    have hi : h.nx + 1 ≤ i := hi
    rw [H.get_put_other hl _ (by omega)]
    exact hf.none i (by omega)
  · show ((h.put h.nx x).get i).isSome = _
    rw [H.get_put_other hl _ (by omega)]

/-- what h knows, h1 knows -/
def Mono (h h1 : H) : Prop := ∀ b o, h.get b = some o → h1.get b = some o

theorem mono_put {h : H} {nm : Nat} (ob : AO) (hl : nm < LIM) (hn : h.get nm = none) : Mono h (h.put nm ob) := fun b o hb => by
  rw [H.get_put_other hl _ (fun e => by subst e; rw [hn] at hb; simp at hb)]; exact hb

section
variable {P : Program} {h h1 : H}

theorem rowOf_mono (hm : Mono h h1) {b : Nat} {r : List Value × TypeId} (hr : rowOf h b = some r) : rowOf h1 b = some r := by
  obtain ⟨c, e⟩ := r
  rcases rowOf_some hr with hb | hb <;> simp [rowOf, hm _ _ hb]

theorem ldN_mono (hm : Mono h h1) {a : Addr} {n : Nat} {l : List Value} (hl : ldN h a n = some l) : ldN h1 a n = some l := by
  unfold ldN at hl ⊢
  split at hl
  · simp at hl
  · rename_i hs
    split at hl
    · rename_i c e hr
      rw [rowOf_mono hm hr]
      exact hl
    · simp at hl

theorem evLoad_mono (hm : Mono h h1) {t : TypeId} {a : Addr} {v : Value} (he : evLoad P h t a = some v) : evLoad P h1 t a = some v := by
  unfold evLoad at he ⊢
  split at he
  · split at he
    · rename_i n hn
      split at he
      · rename_i l hl
        simp only [ldN_mono hm hl]; exact he
      · simp at he
    · simp at he
  · split at he
    · rename_i v' hl
      simp only [ldN_mono hm hl]; exact he
    · simp at he
  · simp at he

theorem evSlice_mono (hm : Mono h h1) {t : TypeId} {x : Value} {lo hi mx : Option Value} {v : Value} (he : evSlice P h t x lo hi mx = some v) : evSlice P h1 t x lo hi mx = some v := by
  unfold evSlice at he ⊢
  split at he
  · exact he
  · split at he
    · simp at he
    · split at he
      · exact he
      · split at he
        · rename_i c e' b hg hbd
          simp only [hm _ _ hg, hbd]; exact he
        · simp at he
  · simp at he

theorem neConv_mono (hm : Mono h h1) {nm : Nat} {o : Oper} {ρ : Operand → Value} {src dst : TypeId} {x : Value} {r : Value × Option AO} (he : neConv P nm h o ρ src dst x = some r) : neConv P nm h1 o ρ src dst x = some r := by
  unfold neConv at he ⊢
  split at he
  · exact he
  · rename_i e a len c h1' h2 
    unfold neConvB at he ⊢
    split at he
    · rename_i l hu hl
      simp only [hu, ldN_mono hm hl]; exact he
    · simp at he
  · exact he
  · exact he

theorem evNE_mono (hm : Mono h h1) {nm : Nat} {o : Oper} {ρ : Operand → Value} {r : Value × Option AO} (he : evNE P nm h o ρ = some r) : evNE P nm h1 o ρ = some r := by
  cases hop : o.op <;> simp only [evNE, hop] at he ⊢ <;> try exact he
  · rename_i t a
    unfold neLoad at he ⊢
    split at he
    · unfold val1 at he ⊢
      split at he
      · rename_i v hv
        simp only [evLoad_mono hm hv]; exact he
      · simp at he
    · simp at he
  · exact neConv_mono hm he
  · rename_i t x lo hi mx
    unfold neSlice at he ⊢
    split at he
    · exact he
    · exact he
    · rename_i x' hx1 hx2
      unfold val1 at he ⊢
      split at he
      · rename_i v hv
        simp only [evSlice_mono hm hv]; exact he
      · simp at he

/-- of values alone: memory does not matter -/
theorem evNE_free {o : Oper} (h h1 : H) (hc : cls P o = 0 ∨ cls P o = 2) (nm : Nat) (ρ : Operand → Value) : evNE P nm h o ρ = evNE P nm h1 o ρ := by
  cases hop : o.op <;> simp only [evNE, hop] <;> simp only [cls, hop] at hc <;> try (exfalso; simp at hc; done)
  rename_i src dst x
  unfold neConv
  split
  · rfl
  · rename_i e a len c h1' h2' h3'
    simp [h1', h2'] at hc
  · rfl
  · rfl

/-- a read makes nothing, and its number does not matter -/
theorem evNE_read {o : Oper} (hc : cls P o = 1) {nm : Nat} (nm' : Nat) {ρ : Operand → Value} {v : Value} {ob : Option AO} (he : evNE P nm h o ρ = some (v, ob)) : ob = none ∧ evNE P nm' h o ρ = some (v, none) := by
  have val : ∀ {x : Option Value}, val1 x = some (v, ob) → ob = none := by
    intro x hx
    unfold val1 at hx
    split at hx
    · simp only [Option.some.injEq, Prod.mk.injEq] at hx; exact hx.2.symm
    · simp at hx
  cases hop : o.op <;> simp only [cls, hop] at hc <;> simp only [evNE, hop] at he ⊢ <;> try (exfalso; simp at hc; done)
  · have : ob = none := by
      unfold neLoad at he
      split at he
      · exact val he
      · simp at he
    subst this; exact ⟨rfl, he⟩
  · unfold neConv at he ⊢
    split at he
    · rename_i e s h1' h2' h3'
      simp [h1', h2'] at hc
    · have : ob = none := by
        unfold neConvB at he
        split at he
        · split at he
          · simp only [Option.some.injEq, Prod.mk.injEq] at he; exact he.2.symm
          · simp at he
        · simp at he
      subst this; exact ⟨rfl, he⟩
    · have : ob = none := by simp only [Option.some.injEq, Prod.mk.injEq] at he; exact he.2.symm
      subst this; exact ⟨rfl, he⟩
    · have : ob = none := val he
      subst this; exact ⟨rfl, he⟩
  · have : ob = none := by
      unfold neSlice at he
      split at he
      · split at he
        · unfold neSliceS at he
          split at he
          · split at he
            · simp only [Option.some.injEq, Prod.mk.injEq] at he; exact he.2.symm
            · simp at he
          · simp at he
        · simp at he
      · exact val he
      · exact val he
    subst this; exact ⟨rfl, he⟩
  · exfalso
    revert hc
    split <;> simp
end
end Go.Ev

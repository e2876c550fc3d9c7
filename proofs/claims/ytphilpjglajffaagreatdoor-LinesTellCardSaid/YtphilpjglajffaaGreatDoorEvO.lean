/- The evaluator's writes keep apart: a block that they do not know may stand there or not. -/
import Derived.Test.YtphilpjglajffaaGreatDoorEvN
namespace Go.Ev

def EffOk (F : H → Option (Value × H)) : Prop :=
  ∀ h v h', Fresh h → F h = some (v, h') → Fwd h h' ∧ ∀ nm ob, nm < h.nx → h.get nm = none → F (h.put nm ob) = some (v, h'.put nm ob)

theorem nm_lim {h : H} (hf : Fresh h) {nm : Nat} (hn : nm < h.nx) : nm < LIM := Nat.lt_of_lt_of_le hn hf.lim

theorem get_away {h : H} {nm b : Nat} {o : AO} (hn : h.get nm = none) (hb : h.get b = some o) : b ≠ nm := fun e => by subst e; rw [hn] at hb; simp at hb

section
variable {P : Program} {ro : Nat} {h : H}

theorem put_ok {b : Nat} {o : AO} (hf : Fresh h) (hb : h.get b = some o) (x : AO) : Fwd h (h.put b x) ∧ ∀ nm ob, nm < h.nx → h.get nm = none → (h.put nm ob).get b = some o ∧ (h.put nm ob).put b x = (h.put b x).put nm ob :=
  ⟨fwd_put hf x hb, fun _ ob hn hg => ⟨mono_put ob (nm_lim hf hn) hg _ _ hb, put_swap h ob x (fun e => get_away hg hb e.symm)⟩⟩

theorem stN_ok {a : Addr} {l : List Value} {h' : H} (hf : Fresh h) (hs : stN ro h a l = some h') : Fwd h h' ∧ ∀ nm ob, nm < h.nx → h.get nm = none → stN ro (h.put nm ob) a l = some (h'.put nm ob) := by
  obtain ⟨hsp, hro, h1, c, e, hlen, hcase⟩ := stN_some hs
  rcases hcase with ⟨hg, rfl⟩ | ⟨hg, rfl⟩
  · obtain ⟨k1, k2⟩ := put_ok hf hg (.cells (splice c a.off l) e)
    refine ⟨k1, fun nm ob hn hgn => ?_⟩
    obtain ⟨q1, q2⟩ := k2 nm ob hn hgn
    unfold stN
    simp only [hsp, Nat.ble_eq_true_of_le hro, h1, q1, Nat.ble_eq_true_of_le hlen, q2]
  · obtain ⟨k1, k2⟩ := put_ok hf hg (.grow (splice c a.off l) e)
    refine ⟨k1, fun nm ob hn hgn => ?_⟩
    obtain ⟨q1, q2⟩ := k2 nm ob hn hgn
    unfold stN
    simp only [hsp, Nat.ble_eq_true_of_le hro, h1, q1, Nat.ble_eq_true_of_le hlen, q2]

theorem evStore_ok {t : TypeId} {a : Addr} {x : Value} {h' : H} (hf : Fresh h) (hst : evStore P ro h t a x = some h') : Fwd h h' ∧ ∀ nm ob, nm < h.nx → h.get nm = none → evStore P ro (h.put nm ob) t a x = some (h'.put nm ob) := by
  unfold evStore at hst ⊢
  split at hst
  · split at hst
    · exact stN_ok hf hst
    · simp at hst
  · simp at hst

theorem store_ok (t : TypeId) (a x : Value) : EffOk fun h => effStore P ro h t a x := by
  intro h v h' hf he
  simp only [effStore] at he ⊢
  split at he
  · rename_i ad
    split at he
    · rename_i h1 hst
      simp only [Option.some.injEq, Prod.mk.injEq] at he
      obtain ⟨rfl, rfl⟩ := he
      obtain ⟨k1, k2⟩ := evStore_ok hf hst
      refine ⟨k1, fun nm ob h1 h2 => ?_⟩
      simp only [k2 nm ob h1 h2]
    · simp at he
  · simp at he

theorem next_ok (it : Value) : EffOk fun h => effNext ro h it := by
  intro h v h' hf he
  simp only [effNext] at he ⊢
  split at he
  · rename_i b
    split at he
    · rename_i s pos hro hg
      split at he
      · rename_i hp
        simp only [Option.some.injEq, Prod.mk.injEq] at he
        obtain ⟨rfl, rfl⟩ := he
        obtain ⟨k1, k2⟩ := put_ok hf hg (.iter s (pos + (Utf8.decode s pos).2))
        refine ⟨k1, fun nm ob h1 h2 => ?_⟩
        obtain ⟨q1, q2⟩ := k2 nm ob h1 h2
        simp only [hro, q1, hp, q2]
      · rename_i hp
        simp only [Option.some.injEq, Prod.mk.injEq] at he
        obtain ⟨rfl, rfl⟩ := he
        refine ⟨Fwd.refl hf, fun nm ob h1 h2 => ?_⟩
        simp only [hro, mono_put ob (nm_lim hf h1) h2 _ _ hg, hp]
    · simp at he
  · simp at he

theorem copy_ok (ts : List TypeId) (args : List Value) : EffOk fun h => evCopy P ro h ts args := by
  intro h v h' hf he
  simp only [evCopy] at he ⊢
  split at he
  · split at he
    · rename_i e hu
      split at he
      · rename_i size a dl dc hsz
        unfold cpGo at he ⊢
        split at he
        · rename_i b n c
          split at he
          · rename_i l hl
            split at he
            · rename_i h1 hst
              simp only [Option.some.injEq, Prod.mk.injEq] at he
              obtain ⟨rfl, rfl⟩ := he
              obtain ⟨k1, k2⟩ := stN_ok hf hst
              refine ⟨k1, fun nm ob h1 h2 => ?_⟩
              simp only [ldN_mono (mono_put ob (nm_lim hf h1) h2) hl, k2 nm ob h1 h2]
            · simp at he
          · simp at he
        · split at he
          · rename_i h1 hst
            simp only [Option.some.injEq, Prod.mk.injEq] at he
            obtain ⟨rfl, rfl⟩ := he
            obtain ⟨k1, k2⟩ := stN_ok hf hst
            refine ⟨k1, fun nm ob h1 h2 => ?_⟩
            simp only [k2 nm ob h1 h2]
          · simp at he
        · simp at he
      · simp at he
    · simp at he
  · simp at he

theorem ustr_ok (ts : List TypeId) (args : List Value) : EffOk fun h => effUStr P ro h ts args := by
  intro h v h' hf he
  simp only [effUStr] at he ⊢
  split at he
  · split at he
    · rename_i hu hg hl
      split at he
      · rename_i bs h1 h2 h3 h4
        simp only [Option.some.injEq, Prod.mk.injEq] at he
        obtain ⟨rfl, rfl⟩ := he
        obtain ⟨k1, k2⟩ := put_ok hf hg .dead
        refine ⟨k1, fun nm ob g1 g2 => ?_⟩
        obtain ⟨q1, q2⟩ := k2 nm ob g1 g2
        simp only [hu, q1, ldN_mono (mono_put ob (nm_lim hf g1) g2) hl, h1, h2, h3, h4, q2]
      · simp at he
    · simp at he
  · simp at he

/-- a new row -/
theorem apNew_ok {e : TypeId} {n : Nat} {cs : List Value} (hf : Fresh h) (hl : h.nx < LIM) {v : Value} {h' : H} (he : apNew h e n cs = some (v, h')) :
    Fwd h h' ∧ ∀ nm ob, nm < h.nx → h.get nm = none → apNew (h.put nm ob) e n cs = some (v, h'.put nm ob) := by
  unfold apNew at he ⊢
  simp only [Option.some.injEq, Prod.mk.injEq] at he
  obtain ⟨rfl, rfl⟩ := he
  refine ⟨fwd_new hf hl _, fun nm ob h1 h2 => ?_⟩
  have hne : nm ≠ h.nx := by omega
  have := put_swap h ob (.grow cs e) hne
  show some (_, ({ (h.put nm ob).put h.nx (.grow cs e) with nx := h.nx + 1 } : H)) = _
  rw [this]
  rfl

theorem srcOf_mono {h1 : H} (hm : Mono h h1) {size : Nat} {x : Value} {r : Nat × List Value} (hs : srcOf h size x = some r) : srcOf h1 size x = some r := by
  unfold srcOf at hs ⊢
  split at hs
  · exact hs
  · split at hs
    · rename_i l hl
      simp only [ldN_mono hm hl]; exact hs
    · simp at hs
  · exact hs
  · simp at hs

theorem apKnown_ok {e : TypeId} {size n len cap : Nat} {new : List Value} {a : Addr} (hf : Fresh h) (hl : h.nx < LIM) {v : Value} {h' : H} (he : apKnown ro h e size n new a len cap = some (v, h')) :
    Fwd h h' ∧ ∀ nm ob, nm < h.nx → h.get nm = none → apKnown ro (h.put nm ob) e size n new a len cap = some (v, h'.put nm ob) := by
  unfold apKnown at he ⊢
  split at he
  · split at he
    · rename_i h1 hst
      simp only [Option.some.injEq, Prod.mk.injEq] at he
      obtain ⟨rfl, rfl⟩ := he
      obtain ⟨k1, k2⟩ := stN_ok hf hst
      refine ⟨k1, fun nm ob g1 g2 => ?_⟩
      simp only [k2 nm ob g1 g2]
    · simp at he
  · split at he
    · rename_i old hold hlc
      obtain ⟨k1, k2⟩ := apNew_ok hf hl he
      refine ⟨k1, fun nm ob g1 g2 => ?_⟩
      simp only [ldN_mono (mono_put ob (nm_lim hf g1) g2) hold, hlc]
      exact k2 nm ob g1 g2
    · simp at he

theorem apBig_ok {e : TypeId} {size n len cap : Nat} {new : List Value} {a : Addr} (hf : Fresh h) (hl : h.nx < LIM) {v : Value} {h' : H} (he : apBig ro h e size n new a len cap = some (v, h')) :
    Fwd h h' ∧ ∀ nm ob, nm < h.nx → h.get nm = none → apBig ro (h.put nm ob) e size n new a len cap = some (v, h'.put nm ob) := by
  unfold apBig at he ⊢
  split at he
  · rename_i c e' hg hs
    have hmono : ∀ nm ob, nm < h.nx → h.get nm = none → (h.put nm ob).get a.block = some (.grow c e') := fun nm ob g1 g2 => mono_put ob (nm_lim hf g1) g2 _ _ hg
    split at he
    · rename_i hc
      split at he
      · rename_i _ hn0
        simp only [Option.some.injEq, Prod.mk.injEq] at he
        obtain ⟨rfl, rfl⟩ := he
        refine ⟨Fwd.refl hf, fun nm ob g1 g2 => ?_⟩
        simp only [hmono nm ob g1 g2, hs, hc]
      · rename_i m
        split at he
        · rename_i hc2
          simp only [Option.some.injEq, Prod.mk.injEq] at he
          obtain ⟨rfl, rfl⟩ := he
          have hab : h.nx ≠ a.block := fun e1 => by have := hf.lt hg; omega
          have hlt := hf.lt hg
          constructor
          · have f1 := fwd_new hf hl (.grow (c.take (len * size) ++ new) e)
            have hg1 : ({ h.put h.nx (.grow (c.take (len * size) ++ new) e) with nx := h.nx + 1 } : H).get a.block = some (.grow c e') := by
              show (h.put h.nx _).get a.block = _
              rw [H.get_put_other hl _ (fun e1 => hab e1.symm)]; exact hg
            exact f1.trans (fwd_put f1.fresh .dead hg1)
          · intro nm ob g1 g2
            simp only [hmono nm ob g1 g2, hs, hc]
            have n1 : nm ≠ h.nx := by omega
            have n2 : nm ≠ a.block := fun e1 => get_away g2 hg e1.symm
            have e1 := put_swap h ob (.grow (c.take (len * size) ++ new) e) n1
            have e2 := put_swap (h.put h.nx (.grow (c.take (len * size) ++ new) e)) ob .dead n2
            show some (_, ({ ((h.put nm ob).put h.nx (.grow (c.take (len * size) ++ new) e)).put a.block .dead with nx := h.nx + 1 } : H)) = _
            rw [e1, e2]
            rfl
        · simp at he
    · simp at he
  · simp at he

theorem append_ok (ts : List TypeId) (args : List Value) : EffOk fun h => evAppend P ro h ts args := by
  intro h v h' hf he
  simp only [evAppend] at he ⊢
  split at he
  · rename_i st xt tr s x ar
    split at he
    · simp at he
    · rename_i e d hnd hu hxu
      split at he
      · rename_i i hi
        split at he
        · rename_i n new hsrc
          split at he
          · rename_i hap
            obtain ⟨z, ap⟩ := apOk_some hap
            have hl := ap.nx
            have hap2 : ∀ nm ob, apOk (h.put nm ob) i n new = true := fun nm ob => hap
            have hsrc2 : ∀ nm ob, nm < h.nx → h.get nm = none → srcOf (h.put nm ob) i.size x = some (n, new) := fun nm ob g1 g2 => srcOf_mono (mono_put ob (nm_lim hf g1) g2) hsrc
            suffices HH : Fwd h h' ∧ ∀ nm ob, nm < h.nx → h.get nm = none → apGo ro (h.put nm ob) e i.size n new s = some (v, h'.put nm ob) by
              refine ⟨HH.1, fun nm ob g1 g2 => ?_⟩
              simp only [hsrc2 nm ob g1 g2, hap2 nm ob]
              exact HH.2 nm ob g1 g2
            unfold apGo at he ⊢
            split at he
            · split at he
              · simp only [Option.some.injEq, Prod.mk.injEq] at he
                obtain ⟨rfl, rfl⟩ := he
                exact ⟨Fwd.refl hf, fun nm ob _ _ => rfl⟩
              · exact apNew_ok hf hl he
            · split at he
              · exact apKnown_ok hf hl he
              · exact apBig_ok hf hl he
              · simp at he
            · simp at he
          · simp at he
        · simp at he
      · simp at he
    · simp at he
  · simp at he

theorem call_ok {call : FuncId → List Value → H → Option (Value × H)} (hcall : ∀ f args, EffOk (call f args)) (o : Oper) (ρ : Operand → Value) (x : Value) (args : List Value) : EffOk fun h => effCall P call h o ρ x args := by
  intro h v h' hf he
  simp only [effCall] at he ⊢
  split at he
  · rename_i f first cap
    split at he
    · rename_i fn hfn
      split at he
      · rename_i hb
        split at he
        · simp at he
        · rename_i hng
          have := hcall f _ h v h' hf he
          refine ⟨this.1, fun nm ob g1 g2 => ?_⟩
          exact this.2 nm ob g1 g2
      · rename_i hb
        split at he
        · rename_i u hu
          simp only [Option.some.injEq, Prod.mk.injEq] at he
          obtain ⟨rfl, rfl⟩ := he
          exact ⟨Fwd.refl hf, fun nm ob _ _ => rfl⟩
        · simp at he
    · simp at he
  · simp at he

theorem evEff_ok {call : FuncId → List Value → H → Option (Value × H)} (hcall : ∀ f args, EffOk (call f args)) (o : Oper) (ρ : Operand → Value) : EffOk fun h => evEff P ro call h o ρ := by
  intro h v h' hf he
  simp only [evEff] at he ⊢
  split at he
  · exact store_ok _ _ _ h v h' hf he
  · exact next_ok _ h v h' hf he
  · rename_i c hop
    split at he
    · exact append_ok _ _ h v h' hf he
    · exact copy_ok _ _ h v h' hf he
    · exact ustr_ok _ _ h v h' hf he
    · exact call_ok hcall o ρ _ _ h v h' hf he
    · simp at he
  · simp at he

end
end Go.Ev

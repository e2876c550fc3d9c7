/- Code and calls, evaluated: they keep apart; the program's code answers as the evaluator's. -/
import Derived.Test.YtphilpjglajffaaGreatDoorEvU
import Derived.LoopN
namespace Go.Ev
open Go.RowKit (Below)

abbrev Sums := FuncId → Option (List Value → H → Option (Value × H))

section
variable {P : Program} {ro : Nat} {S : Sums} {rec : Code → St → Option (Ex × St)}

def CodeOk (rec : Code → St → Option (Ex × St)) : Prop := ∀ c s e s', Fresh s.h → rec c s = some (e, s') → Ahead s s' ∧ ∀ nm ob, nm < s.h.nx → s.h.get nm = none → rec c (s.putH nm ob) = some (e, s'.putH nm ob)

def SumsOk (S : Sums) : Prop := ∀ f m, S f = some m → ∀ args, EffOk (m args)

theorem resV_mono {s : St} {k : H} (hm : Mono s.h k) {r : ResultVar} {v : Value} (h : resV P s r = some v) : resV P { s with h := k } r = some v := by
  unfold resV at h ⊢
  split at h
  · exact h
  · rename_i a t
    simp only at h ⊢
    split at h
    · exact evLoad_mono hm h
    · simp at h

theorem resAll_mono {s : St} {k : H} (hm : Mono s.h k) : ∀ (l : List ResultVar) {vs : List Value}, resAll P s l = some vs → resAll P { s with h := k } l = some vs
  | [], vs, h => h
  | r :: l, vs, h => by
    unfold resAll at h ⊢
    split at h
    · rename_i v vs' h1 h2
      rw [resV_mono hm h1, resAll_mono hm l h2]
      exact h
    · simp at h

theorem fn_ok (hS : SumsOk S) (hrec : CodeOk rec) (f : FuncId) (args : List Value) : EffOk (evFn P S rec f args) := by
  intro h v h' hf he
  unfold evFn at he ⊢
  split at he
  · rename_i m hm
    exact hS f m hm args h v h' hf he
  · rename_i hm
    split at he
    · simp at he
    · rename_i fn hfn
      split at he
      · simp at he
      · rename_i c hc
        split at he
        · simp at he
        · rename_i hb
          split at he
          · simp at he
          · rename_i e s hne hr
            obtain ⟨a1, a2⟩ := hrec _ _ _ _ (by exact hf) hr
            have key : ∀ (r : List Value), resAll P s fn.results.toList = some r → Fwd h s.h ∧ ∀ nm ob, nm < h.nx → h.get nm = none →
                rec c { fr := loadArgs 0 args .nil, nt := args.length + (fn.ntmps - args.length), h := h.put nm ob } = some (e, s.putH nm ob) ∧ resAll P (s.putH nm ob) fn.results.toList = some r := by
              intro r hr2
              refine ⟨a1.fwd, fun nm ob hnm hg => ⟨a2 nm ob hnm hg, ?_⟩⟩
              have hlt : nm < s.h.nx := Nat.lt_of_lt_of_le hnm a1.fwd.nx
              have hg2 : s.h.get nm = none := isSome_none (a1.fwd.same nm hnm) hg
              exact resAll_mono (mono_put ob (nm_lim a1.fwd.fresh hlt) hg2) _ hr2
            split at he
            · rename_i v1 hres
              simp only [Option.some.injEq, Prod.mk.injEq] at he
              obtain ⟨rfl, rfl⟩ := he
              obtain ⟨k1, k2⟩ := key _ hres
              refine ⟨k1, fun nm ob hnm hg => ?_⟩
              obtain ⟨q1, q2⟩ := k2 nm ob hnm hg
              rw [q1]
              cases e with
              | exit id => exact (hne id rfl).elim
              | normal => simp only [q2]; rfl
              | ret => simp only [q2]; rfl
            · rename_i vs hnv hres
              simp only [Option.some.injEq, Prod.mk.injEq] at he
              obtain ⟨rfl, rfl⟩ := he
              obtain ⟨k1, k2⟩ := key _ hres
              refine ⟨k1, fun nm ob hnm hg => ?_⟩
              obtain ⟨q1, q2⟩ := k2 nm ob hnm hg
              rw [q1]
              cases e with
              | exit id => exact (hne id rfl).elim
              | normal =>
                simp only [q2]
                rfl
              | ret =>
                simp only [q2]
                rfl
            · simp at he
          · simp at he

theorem seq2_ok {s' : St} {e : Ex} {r : Option (Ex × St)} {next : St → Option (Ex × St)} (h : evSeq r next = some (e, s')) : (∃ s1, r = some (.normal, s1) ∧ next s1 = some (e, s')) ∨ (e ≠ .normal ∧ r = some (e, s')) := by
  unfold evSeq at h
  split at h
  · rename_i s1
    exact .inl ⟨s1, rfl, h⟩
  · rename_i hn
    refine .inr ⟨fun he => ?_, h⟩
    subst he
    exact hn s' h

theorem evSeq_normal {s : St} {next : St → Option (Ex × St)} : evSeq (some (.normal, s)) next = next s := rfl
theorem evSeq_other {s : St} {e : Ex} {next : St → Option (Ex × St)} (h : e ≠ .normal) : evSeq (some (e, s)) next = some (e, s) := by
  cases e with
  | normal => exact absurd rfl h
  | exit id => rfl
  | ret => rfl

theorem step_ok (hS : SumsOk S) (hrec : CodeOk rec) : CodeOk (evStep P ro S rec) := by
  intro c s e s' hf he
  have seq : ∀ (a b : Code), evSeq (rec a s) (rec b) = some (e, s') → Ahead s s' ∧ ∀ nm ob, nm < s.h.nx → s.h.get nm = none → evSeq (rec a (s.putH nm ob)) (rec b) = some (e, s'.putH nm ob) := by
    intro a b h
    rcases seq2_ok h with ⟨s1, h1, h2⟩ | ⟨hn, h1⟩
    · obtain ⟨a1, a2⟩ := hrec _ _ _ _ hf h1
      obtain ⟨b1, b2⟩ := hrec _ _ _ _ a1.fwd.fresh h2
      refine ⟨a1.trans b1, fun nm ob hnm hg => ?_⟩
      rw [a2 nm ob hnm hg, evSeq_normal]
      exact b2 nm ob (Nat.lt_of_lt_of_le hnm a1.fwd.nx) (isSome_none (a1.fwd.same nm hnm) hg)
    · obtain ⟨a1, a2⟩ := hrec _ _ _ _ hf h1
      refine ⟨a1, fun nm ob hnm hg => ?_⟩
      rw [a2 nm ob hnm hg, evSeq_other hn]
  unfold evStep at he ⊢
  split at he
  · simp only [Option.some.injEq, Prod.mk.injEq] at he
    obtain ⟨rfl, rfl⟩ := he
    exact ⟨Ahead.refl hf, fun _ _ _ _ => rfl⟩
  · rename_i id ops draw
    unfold evNormal at he ⊢
    split at he
    · rename_i s1 h1
      simp only [Option.some.injEq, Prod.mk.injEq] at he
      obtain ⟨rfl, rfl⟩ := he
      obtain ⟨a1, a2⟩ := region_ok (fun f args => fn_ok hS hrec f args) hf h1
      refine ⟨a1, fun nm ob hnm hg => ?_⟩
      simp only [a2 nm ob hnm hg]
    · simp at he
  · exact seq _ _ he
  · rename_i c a b
    unfold evCond at he ⊢
    split at he
    · rename_i h1 h2
      obtain ⟨a1, a2⟩ := hrec _ _ _ _ hf he
      refine ⟨a1, fun nm ob hnm hg => ?_⟩
      show (match opdOk P c, opd s.fr c with | true, .bool true => _ | true, .bool false => _ | _, _ => _) = _
      rw [h1, h2]
      exact a2 nm ob hnm hg
    · rename_i h1 h2
      obtain ⟨a1, a2⟩ := hrec _ _ _ _ hf he
      refine ⟨a1, fun nm ob hnm hg => ?_⟩
      show (match opdOk P c, opd s.fr c with | true, .bool true => _ | true, .bool false => _ | _, _ => _) = _
      rw [h1, h2]
      exact a2 nm ob hnm hg
    · simp at he
  · rename_i id c
    unfold evBlock at he ⊢
    split at he
    · rename_i j s1 h1
      obtain ⟨a1, a2⟩ := hrec _ _ _ _ hf h1
      split at he
      · rename_i hj
        simp only [Option.some.injEq, Prod.mk.injEq] at he
        obtain ⟨rfl, rfl⟩ := he
        refine ⟨a1, fun nm ob hnm hg => ?_⟩
        simp only [a2 nm ob hnm hg, hj]
      · rename_i hj
        simp only [Option.some.injEq, Prod.mk.injEq] at he
        obtain ⟨rfl, rfl⟩ := he
        refine ⟨a1, fun nm ob hnm hg => ?_⟩
        simp only [a2 nm ob hnm hg, hj]
    · rename_i hne
      obtain ⟨a1, a2⟩ := hrec _ _ _ _ hf he
      refine ⟨a1, fun nm ob hnm hg => ?_⟩
      rw [a2 nm ob hnm hg]
      cases e with
      | exit j => exact absurd he (hne j s')
      | normal => rfl
      | ret => rfl
  · exact seq _ _ he
  · simp only [Option.some.injEq, Prod.mk.injEq] at he
    obtain ⟨rfl, rfl⟩ := he
    exact ⟨Ahead.refl hf, fun _ _ _ _ => rfl⟩
  · simp only [Option.some.injEq, Prod.mk.injEq] at he
    obtain ⟨rfl, rfl⟩ := he
    exact ⟨Ahead.refl hf, fun _ _ _ _ => rfl⟩
  · simp at he

theorem code_ok (hS : SumsOk S) : ∀ n, CodeOk (evCode P ro S n)
  | 0 => fun c s e s' _ he => by rw [evCode_zero] at he; simp at he
  | n + 1 => step_ok (P := P) (ro := ro) hS (code_ok hS n)

end
end Go.Ev

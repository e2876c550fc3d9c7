/- Regions: in the text's order; in any order. | Regions, code, calls, evaluated: they keep apart from what they did not know. | Code and calls, evaluated: they keep apart; the program's code answers as the evaluator's. | The program's code answers as the evaluator's: code, calls. -/
import Derived.Test.YtphilpjglajffaaGreatDoorEvS
import Derived.LoopN
namespace Go.Ev
open Go.RowKit (Below)

section
variable {P : Program} {ro : Nat} {w0 : World} {call : FuncId → List Value → H → Option (Value × H)} {ops : Array Oper} {base : Nat}

theorem step_dom (heff : ∀ f args, EffOk (call f args)) {i : Nat} {o : Oper} {s s' : St} (hf : Fresh s.h) (hi : base + i < s.h.nx) (he : step1 P ro call ops base i o s = some s') (b : Nat) (hb : dom ro s.h b) : dom ro s'.h b := by
  rcases hb with hb | hb
  · exact .inl hb
  · exact .inr ((step_fwd heff hf hi he).2.2.2.2 b hb)

theorem text_wp (hcall : SimCall P ro w0 call) (heff : ∀ f args, EffOk (call f args)) (hok : opsOk P ops = true) (hro : ro ≤ base) {Q : Exit → Act → World → Prop} {sf : St} : ∀ (l : List Oper) (i : Nat) {f g : Nat → Nat} {s : St} {a : Act} {w : World}, RelS P ro w0 f g s a w →
    (∀ j, l[j]? = ops[i + j]?) → (∀ k, i ≤ k → k < i + l.length → s.h.get (base + k) = none) → base + (i + l.length) ≤ s.h.nx → runText P ro call ops base i l s = some sf →
    (∀ f' g' a' w', RelS P ro w0 f' g' sf a' w' → Agree ro s.h f g f' g' → Q .normal a' w') → wpList P ops Q l a w
  | [], i, f, g, s, a, w, r, _, _, _, he, hQ => by
    simp only [runText, Option.some.injEq] at he
    subst he
    exact hQ f g a w r (Agree.refl ..)
  | o :: l, i, f, g, s, a, w, r, hl, hn, hnx, he, hQ => by
    unfold runText at he
    split at he
    · rename_i s1 h1
      have hoi : ops[i]? = some o := by have := hl 0; simpa using this.symm
      have hlen : (o :: l).length = l.length + 1 := rfl
      have hi : base + i < s.h.nx := by rw [hlen] at hnx; omega
      obtain ⟨ff, nx, _, same, _⟩ := step_fwd heff r.fresh hi h1
      unfold wpList
      refine step_wp hcall heff r (opsOk_some hok hoi) hi hro (hn i (Nat.le_refl _) (by rw [hlen]; omega)) h1 ?_
      intro f1 g1 a1 w1 r1 ag1
      refine text_wp hcall heff hok hro l (i + 1) r1 (fun j => ?_) (fun k hk1 hk2 => ?_) (by rw [hlen] at hnx; omega) he ?_
      · have := hl (j + 1)
        rw [List.getElem?_cons_succ] at this
        rw [this]; congr 1; omega
      · exact isSome_none (same (base + k) (by rw [hlen] at hnx; omega) (by omega)) (hn k (by omega) (by rw [hlen]; omega))
      · intro f2 g2 a2 w2 r2 ag2
        exact hQ f2 g2 a2 w2 r2 (ag1.trans ag2 (step_dom heff r.fresh hi h1))
    · simp at he

theorem region_text (hcall : SimCall P ro w0 call) (heff : ∀ f args, EffOk (call f args)) (hok : opsOk P ops = true) (hro : ro ≤ base) {Q : Exit → Act → World → Prop} {s sf : St} {f g : Nat → Nat} {a : Act} {w : World} {id : Nat} (r : RelS P ro w0 f g s a w)
    (hn : ∀ k, k < ops.size → s.h.get (base + k) = none) (hnx : base + ops.size ≤ s.h.nx) (he : runText P ro call ops base 0 ops.toList s = some sf)
    (hQ : ∀ f' g' a' w', RelS P ro w0 f' g' sf a' w' → Agree ro s.h f g f' g' → Q .normal a' w') : (Code.region id ops false).wp P Q a w := by
  exact wp_region_list (text_wp hcall heff hok hro ops.toList 0 r (fun j => by simp) (fun k _ hk => hn k (by simpa using hk)) (by simpa using hnx) he hQ)

/-! ### any order -/
def waits (ops : Array Oper) (x i : Nat) : Prop := ∃ ox, ops[x]? = some ox ∧ ∃ e ∈ ox.after, Region.binds .any e = true ∧ e.on = i

def Rp (P : Program) (ops : Array Oper) (bs : List Nat) (x i : Nat) : Prop :=
  x ≠ i ∧ ¬ waits ops x i ∧ (bit (bs.getD i 0) x = true ∨ ∀ ox oi, ops[x]? = some ox → ops[i]? = some oi → pairOk P ops ox oi = true)

structure Left (P : Program) (ops : Array Oper) (bs : List Nat) (L : List Nat) (listed : Array Bool) : Prop where
  size : listed.size = ops.size
  mem : ∀ j, j < ops.size → (listed.getD j true = true ↔ j ∉ L)
  lt : ∀ j ∈ L, j < ops.size
  pairs : L.Pairwise (Rp P ops bs)
  waits : ∀ x ∈ L, ¬ waits ops x x ∧ ∀ i, waits ops x i → i < ops.size
  down : ∀ j, j < ops.size → j ∉ L → ∀ x, bit (bs.getD j 0) x = true → x ∉ L

theorem mem_ready {listed : Array Bool} {i : Nat} : i ∈ Region.ready .any ops listed ↔ i < ops.size ∧ listed.getD i true = false ∧ ∃ o, ops[i]? = some o ∧ ∀ e ∈ o.after, Region.binds .any e = true → listed.getD e.on false = true := by
  unfold Region.ready
  rw [List.mem_filter, List.mem_range]
  constructor
  · rintro ⟨h1, h2⟩
    rw [Bool.and_eq_true] at h2
    refine ⟨h1, by simpa using h2.1, ops[i], by simp [h1], ?_⟩
    have h3 := h2.2
    simp only [Array.getElem?_eq_getElem h1, Option.map_some, Option.getD_some] at h3
    rw [Array.all_eq_true_iff_forall_mem] at h3
    intro e he hb
    have := h3 e he
    simpa [hb] using this
  · rintro ⟨h1, h2, o, ho, h3⟩
    refine ⟨h1, ?_⟩
    rw [Bool.and_eq_true]
    refine ⟨by simp only [h2]; rfl, ?_⟩
    rw [ho]
    simp only [Option.map_some, Option.getD_some]
    rw [Array.all_eq_true_iff_forall_mem]
    intro e he
    cases hb : Region.binds .any e with
    | false => rfl
    | true => simp only [h3 e he hb]; rfl

theorem getD_both {listed : Array Bool} {j : Nat} (h : j < listed.size) (b c : Bool) : listed.getD j b = listed.getD j c := by simp [h]
theorem getD_lt {listed : Array Bool} {j : Nat} (h : listed.getD j false = true) : j < listed.size := by
  rcases Nat.lt_or_ge j listed.size with h1 | h1
  · exact h1
  · simp [Nat.not_lt.2 h1] at h

theorem Left.start {bs : List Nat} {L : List Nat} {listed : Array Bool} {x : Nat} (hl : Left P ops bs (x :: L) listed) : Region.ready .any ops listed ≠ [] := by
  have hx := hl.lt x (List.mem_cons_self ..)
  refine List.ne_nil_of_mem (a := x) (mem_ready.2 ⟨hx, ?_, ops[x], by simp [hx], ?_⟩)
  · have := not_congr (hl.mem x hx)
    simpa using this
  · intro e he hb
    have hw : Ev.waits ops x e.on := ⟨ops[x], by simp [hx], e, he, hb, rfl⟩
    obtain ⟨w1, w2⟩ := hl.waits x (List.mem_cons_self ..)
    have hlt := w2 _ hw
    have hnot : e.on ∉ x :: L := by
      intro hm
      rcases List.mem_cons.1 hm with h1 | h1
      · rw [h1] at hw; exact w1 hw
      · exact ((List.pairwise_cons.1 hl.pairs).1 _ h1).2.1 hw
    rw [getD_both (by rw [hl.size]; exact hlt) false true]
    exact (hl.mem _ hlt).2 hnot

theorem Left.next {bs : List Nat} {pre post : List Nat} {i : Nat} {listed : Array Bool} (hb : befOk ops bs = true) (hl : Left P ops bs (pre ++ i :: post) listed) (hr : i ∈ Region.ready .any ops listed) :
    Left P ops bs (pre ++ post) (listed.setIfInBounds i true) ∧ (∀ x ∈ pre ++ i :: post, bit (bs.getD i 0) x = false) := by
  obtain ⟨h1, h2, o, ho, h3⟩ := mem_ready.1 hr
  have hsub : (pre ++ post).Sublist (pre ++ i :: post) := List.Sublist.append_left (List.sublist_cons_self ..) pre
  have hni : i ∉ pre ++ post := by
    intro hm
    have hp := hl.pairs
    rw [List.pairwise_append] at hp
    obtain ⟨_, p2, p3⟩ := hp
    rcases List.mem_append.1 hm with hm | hm
    · exact (p3 i hm i (List.mem_cons_self ..)).1 rfl
    · exact ((List.pairwise_cons.1 p2).1 i hm).1 rfl
  have hmem : ∀ j, j ∈ pre ++ i :: post ↔ j = i ∨ j ∈ pre ++ post := by intro j; simp only [List.mem_append, List.mem_cons]; constructor <;> (intro h; rcases h with h | h | h <;> simp [h])
  have hbef : ∀ x ∈ pre ++ i :: post, bit (bs.getD i 0) x = false := by
    intro x hx
    cases hbx : bit (bs.getD i 0) x with
    | false => rfl
    | true =>
      exfalso
      unfold befOk at hb
      have q1 := List.all_eq_true.1 hb i (List.mem_range.2 h1)
      have q2 := List.all_eq_true.1 q1 x (List.mem_range.2 (hl.lt x hx))
      rw [hbx, ho] at q2
      simp only [Bool.not_true, Bool.false_or] at q2
      obtain ⟨e, he, hc⟩ := List.any_eq_true.1 q2
      rw [Bool.and_eq_true] at hc
      have hle := h3 e (Array.mem_def.2 he) hc.1
      have hlt := getD_lt hle
      rw [hl.size] at hlt
      have hnot : e.on ∉ pre ++ i :: post := by
        rw [getD_both (by rw [hl.size]; exact hlt) false true] at hle
        exact (hl.mem _ hlt).1 hle
      rcases Bool.or_eq_true .. ▸ hc.2 with h4 | h4
      · have : e.on = x := by simpa using h4
        exact hnot (this ▸ hx)
      · exact hl.down e.on hlt hnot x h4 hx
  refine ⟨⟨by simpa using hl.size, fun j hj => ?_, fun j hj => hl.lt j (hsub.mem hj), hl.pairs.sublist hsub, fun x hx => hl.waits x (hsub.mem hx), fun j hj hjn x hbx hx => ?_⟩, hbef⟩
  · by_cases hji : j = i
    · subst hji
      have : (listed.setIfInBounds j true).getD j true = true := by
        simp only [Array.getD_eq_getD_getElem?, Array.getElem?_setIfInBounds]
        simp [hl.size, hj]
      simp only [this, true_iff]
      exact hni
    · have : (listed.setIfInBounds i true).getD j true = listed.getD j true := by
        simp only [Array.getD_eq_getD_getElem?, Array.getElem?_setIfInBounds]
        rw [if_neg (fun e => hji e.symm)]
      rw [this, hl.mem j hj, hmem j]
      simp [hji]
  · by_cases hji : j = i
    · subst hji
      have := hbef x (hsub.mem hx)
      rw [this] at hbx; simp at hbx
    · exact hl.down j hj (fun hm => by rcases (hmem j).1 hm with h | h; exact hji h; exact hjn h) x hbx (hsub.mem hx)

theorem any_wp (hcall : SimCall P ro w0 call) (heff : ∀ f args, EffOk (call f args)) (hok : opsOk P ops = true) (hro : ro ≤ base) {bs : List Nat} (hb : befOk ops bs = true) {Q : Exit → Act → World → Prop} {sf : St} : ∀ (n : Nat) {L : List Nat} {listed : Array Bool} {f g : Nat → Nat} {s : St} {a : Act} {w : World}, L.length = n →
    RelS P ro w0 f g s a w → Left P ops bs L listed → (∀ j ∈ L, base + j < s.h.nx ∧ s.h.get (base + j) = none) → runSeq P ro call ops base bs L [] s = some sf →
    (∀ f' g' a' w', RelS P ro w0 f' g' sf a' w' → Agree ro s.h f g f' g' → Q .normal a' w') → wpAny P .any ops Q n listed a w
  | 0, L, listed, f, g, s, a, w, hn, r, hl, _, he, hQ => by
    have hL := List.eq_nil_of_length_eq_zero hn
    subst hL
    simp only [runSeq, Option.some.injEq] at he
    subst he
    refine ⟨?_, hQ f g a w r (Agree.refl ..)⟩
    rw [List.eq_nil_iff_forall_not_mem]
    intro i hi
    obtain ⟨h1, h2, _⟩ := mem_ready.1 hi
    have := (hl.mem i h1).2 (by simp)
    rw [h2] at this; simp at this
  | n + 1, L, listed, f, g, s, a, w, hn, r, hl, hnm, he, hQ => by
    refine ⟨fun hre => ?_, fun i hi => ?_⟩
    · cases L with
      | nil => simp at hn
      | cons x L => exact absurd hre hl.start
    · have hready := mem_ready.1 hi
      have hiL : i ∈ L := by
        have := not_congr (hl.mem i hready.1)
        rw [hready.2.1] at this
        simpa using this
      obtain ⟨pre, post, rfl⟩ := List.append_of_mem hiL
      obtain ⟨hl', hbef⟩ := hl.next hb hi
      obtain ⟨hin, hig⟩ := hnm i hiL
      have hpair := hl.pairs
      rw [List.pairwise_append] at hpair
      obtain ⟨oi, s1, hoi, hs1, hrun, _⟩ := pull (P := P) (ro := ro) (bs := bs) heff (fun j o ho => (opsOk_some hok ho).sel) pre (acc := []) r.fresh r.lim hin hig (fun x hx => by
        have hx' : x ∈ pre ++ i :: post := List.mem_append_left _ hx
        have hrp := hpair.2.2 x hx i (List.mem_cons_self ..)
        refine ⟨hrp.1, (hnm x hx').1, hbef x hx', ?_⟩
        rcases hrp.2.2 with h1 | h1
        · rw [hbef x hx'] at h1; simp at h1
        · exact h1) (by simp) he
      obtain ⟨ff, nx, _, same, _⟩ := step_fwd heff r.fresh hin hs1
      unfold wpOp
      rw [hoi]
      refine step_wp hcall heff r (opsOk_some hok hoi) hin hro hig hs1 ?_
      intro f1 g1 a1 w1 r1 ag1
      have hsub : (pre ++ post).Sublist (pre ++ i :: post) := List.Sublist.append_left (List.sublist_cons_self ..) pre
      refine any_wp hcall heff hok hro hb n (by simp only [List.length_append, List.length_cons] at hn ⊢; omega) r1 hl' (fun j hj => ?_) hrun ?_
      · obtain ⟨q1, q2⟩ := hnm j (hsub.mem hj)
        have hji : j ≠ i := by
          rintro rfl
          have := (hl'.mem j hready.1).1
          have hset : (listed.setIfInBounds j true).getD j true = true := by
            simp only [Array.getD_eq_getD_getElem?, Array.getElem?_setIfInBounds]
            simp [hl.size, hready.1]
          exact this hset hj
        exact ⟨Nat.lt_of_lt_of_le q1 nx, isSome_none (same _ q1 (by omega)) q2⟩
      · intro f2 g2 a2 w2 r2 ag2
        exact hQ f2 g2 a2 w2 r2 (ag1.trans ag2 (step_dom heff r.fresh hin hs1))

end
end Go.Ev

namespace Go.Ev

noncomputable def St.putH (s : St) (nm : Nat) (ob : AO) : St := { s with h := s.h.put nm ob }

section
variable {P : Program} {ro : Nat} {call : FuncId → List Value → H → Option (Value × H)} {ops : Array Oper} {base : Nat} {bs : List Nat}

theorem step_frame (heff : ∀ f args, EffOk (call f args)) {i : Nat} {o : Oper} {s s' : St} (hf : Fresh s.h) (hi : base + i < s.h.nx) (he : step1 P ro call ops base i o s = some s') (nm : Nat) (ob : AO) (hnm : nm < base) (hg : s.h.get nm = none) :
    step1 P ro call ops base i o (s.putH nm ob) = some (s'.putH nm ob) ∧ s'.h.get nm = none := by
  obtain ⟨_, nx, _, same, _⟩ := step_fwd heff hf hi he
  have hlt : nm < s.h.nx := by omega
  refine ⟨?_, isSome_none (same nm hlt (by omega)) hg⟩
  obtain ⟨v, h', hv, rfl, hd⟩ := step1_some he
  have hv2 : stepVal P ro call ops (base + i) o s.fr (s.h.put nm ob) = some (v, h'.put nm ob) := by
    rcases kind hv with ⟨hh, all⟩ | ⟨ob2, _, _, hh, all⟩ | ⟨_, _, hh, hex, all⟩ | ⟨_, _, hex, all⟩
    · subst hh; exact all _
    · subst hh
      rw [all, put_swap s.h ob ob2 (show nm ≠ base + i by omega)]
    · subst hh; exact all _ (evNE_mono (mono_put ob (nm_lim hf hlt) hg) hex)
    · rw [all]; exact (evEff_ok heff o (opd s.fr) s.h v h' hf hex).2 nm ob hlt hg
  exact step1_of (s := s.putH nm ob) hv2 hd

theorem text_ok (heff : ∀ f args, EffOk (call f args)) {sf : St} : ∀ (l : List Oper) (i : Nat) {s : St}, Fresh s.h → base + (i + l.length) ≤ s.h.nx → runText P ro call ops base i l s = some sf →
    Fresh sf.h ∧ s.h.nx ≤ sf.h.nx ∧ sf.nt = s.nt ∧ (∀ b, b < base → (sf.h.get b).isSome = (s.h.get b).isSome) ∧
    ∀ nm ob, nm < base → s.h.get nm = none → runText P ro call ops base i l (s.putH nm ob) = some (sf.putH nm ob)
  | [], i, s, hf, _, he => by
    simp only [runText, Option.some.injEq] at he
    subst he
    exact ⟨hf, Nat.le_refl _, rfl, fun _ _ => rfl, fun _ _ _ _ => rfl⟩
  | o :: l, i, s, hf, hnx, he => by
    unfold runText at he
    split at he
    · rename_i s1 h1
      have hlen : (o :: l).length = l.length + 1 := rfl
      rw [hlen] at hnx
      have hi : base + i < s.h.nx := by omega
      obtain ⟨ff, nx, ntx, same, _⟩ := step_fwd heff hf hi h1
      obtain ⟨a1, a2, a3, a4, a5⟩ := text_ok heff l (i + 1) ff (by omega) he
      refine ⟨a1, Nat.le_trans nx a2, a3.trans ntx, fun b hb => (a4 b hb).trans (same b (by omega) (by omega)), fun nm ob hnm hg => ?_⟩
      obtain ⟨f1, f2⟩ := step_frame heff hf hi h1 nm ob hnm hg
      unfold runText
      rw [f1]
      exact a5 nm ob hnm f2
    · simp at he

theorem seq_ok (heff : ∀ f args, EffOk (call f args)) {sf : St} : ∀ (L : List Nat) {acc : List Ent} {s : St}, Fresh s.h → (∀ i ∈ L, base + i < s.h.nx) → runSeq P ro call ops base bs L acc s = some sf →
    Fresh sf.h ∧ s.h.nx ≤ sf.h.nx ∧ sf.nt = s.nt ∧ (∀ b, b < base → (sf.h.get b).isSome = (s.h.get b).isSome) ∧
    ∀ nm ob, nm < base → s.h.get nm = none → runSeq P ro call ops base bs L acc (s.putH nm ob) = some (sf.putH nm ob)
  | [], acc, s, hf, _, he => by
    simp only [runSeq, Option.some.injEq] at he
    subst he
    exact ⟨hf, Nat.le_refl _, rfl, fun _ _ => rfl, fun _ _ _ _ => rfl⟩
  | i :: L, acc, s, hf, hL, he => by
    obtain ⟨o, s1, ho, h1, hr, hn⟩ := runSeq_cons he
    have hi := hL i (List.mem_cons_self ..)
    obtain ⟨ff, nx, ntx, same, _⟩ := step_fwd heff hf hi h1
    obtain ⟨a1, a2, a3, a4, a5⟩ := seq_ok heff L ff (fun j hj => Nat.lt_of_lt_of_le (hL j (List.mem_cons_of_mem _ hj)) nx) hn
    refine ⟨a1, Nat.le_trans nx a2, a3.trans ntx, fun b hb => (a4 b hb).trans (same b (by omega) (by omega)), fun nm ob hnm hg => ?_⟩
    obtain ⟨f1, f2⟩ := step_frame heff hf hi h1 nm ob hnm hg
    have hlt : nm < s.h.nx := by omega
    exact runSeq_of ho f1 (fun q1 q2 => recheck_mono (mono_put ob (nm_lim hf hlt) hg) (mono_put ob (nm_lim ff (Nat.lt_of_lt_of_le hlt nx)) f2) (hr q1 q2)) (a5 nm ob hnm f2)

/-- what planned means -/
theorem lin_spec : ∀ (L seen : List Nat), linOk ops L seen = true → (∀ x ∈ L, x ∉ seen ∧ x < ops.size ∧ ¬ waits ops x x ∧ ∀ i, waits ops x i → i ∈ seen ∨ i ∈ L) ∧ L.Pairwise (fun x i => x ≠ i ∧ ¬ waits ops x i)
  | [], seen, _ => ⟨by simp, List.Pairwise.nil⟩
  | x :: L, seen, h => by
    unfold linOk at h
    simp only [Bool.and_eq_true] at h
    obtain ⟨⟨h1, h2⟩, h3⟩ := h
    have hns : x ∉ seen := by simpa using h1
    split at h2
    · rename_i o ho
      have hx := (Array.getElem?_eq_some_iff.1 ho).1
      have hw : ∀ i, waits ops x i → i ∈ seen := by
        rintro i ⟨o', ho', e, he, hb, rfl⟩
        rw [ho] at ho'
        simp only [Option.some.injEq] at ho'; subst ho'
        have := List.all_eq_true.1 h2 e (Array.mem_def.1 he)
        simpa [hb] using this
      obtain ⟨i1, i2⟩ := lin_spec L (x :: seen) h3
      refine ⟨fun y hy => ?_, List.pairwise_cons.2 ⟨fun i hi => ?_, i2⟩⟩
      · rcases List.mem_cons.1 hy with rfl | hy
        · exact ⟨hns, hx, fun hww => hns (hw _ hww), fun i hi => .inl (hw i hi)⟩
        · obtain ⟨q1, q2, q3, q4⟩ := i1 y hy
          refine ⟨fun hs => q1 (List.mem_cons_of_mem _ hs), q2, q3, fun i hi => ?_⟩
          rcases q4 i hi with h5 | h5
          · rcases List.mem_cons.1 h5 with rfl | h5
            · exact .inr (List.mem_cons_self ..)
            · exact .inl h5
          · exact .inr (List.mem_cons_of_mem _ h5)
      · have := (i1 i hi).1
        exact ⟨fun e => this (e ▸ List.mem_cons_self ..), fun hww => this (List.mem_cons_of_mem _ (hw i hww))⟩
    · simp at h2

theorem pairs_spec : ∀ (L : List Nat), pairsOk P ops bs L = true → L.Pairwise (fun x i => bit (bs.getD i 0) x = true ∨ ∀ ox oi, ops[x]? = some ox → ops[i]? = some oi → pairOk P ops ox oi = true)
  | [], _ => List.Pairwise.nil
  | x :: L, h => by
    unfold pairsOk at h
    simp only [Bool.and_eq_true] at h
    refine List.pairwise_cons.2 ⟨fun i hi => ?_, pairs_spec L h.2⟩
    have := List.all_eq_true.1 h.1 i hi
    simp only [Bool.or_eq_true] at this
    rcases this with h1 | h1
    · exact .inl h1
    · refine .inr fun ox oi hx hi' => ?_
      rw [hx, hi'] at h1
      exact h1

theorem planOf_some {p : Plan} (h : planOf P ops = some p) : Left P ops p.bs p.order (Array.replicate ops.size false) ∧ befOk ops p.bs = true ∧ opsOk P ops = true ∧ p.order.length = ops.size := by
  unfold planOf at h
  simp only at h
  split at h
  · rename_i h1 h2 h3 h4
    simp only [Option.some.injEq] at h
    subst h
    rw [Bool.and_eq_true] at h1 h4
    obtain ⟨k1, k2⟩ := lin_spec _ _ h2
    have k3 := pairs_spec _ h3
    have hall : ∀ j, j < ops.size → j ∈ orderOf P ops.toList := fun j hj => by
      have := List.all_eq_true.1 h1.2 j (List.mem_range.2 hj)
      simpa using this
    refine ⟨⟨by simp, fun j hj => ?_, fun j hj => (k1 j hj).2.1, ?_, fun x hx => ⟨(k1 x hx).2.2.1, fun i hi => ?_⟩, fun j hj hn => absurd (hall j hj) hn⟩, h4.1, h4.2, Nat.eq_of_beq_eq_true h1.1⟩
    · have : (Array.replicate ops.size false).getD j true = false := by simp [hj]
      rw [this]
      simp [hall j hj]
    · have := k2.and k3
      exact this.imp fun ⟨⟨a, b⟩, c⟩ => ⟨a, b, c⟩
    · rcases (k1 x hx).2.2.2 i hi with h5 | h5
      · simp at h5
      · exact (k1 i h5).2.1
  · simp at h

/-- a state's step ahead -/
structure Ahead (s s' : St) : Prop where
  fwd : Fwd s.h s'.h
  nt : s'.nt = s.nt

theorem Ahead.refl {s : St} (hf : Fresh s.h) : Ahead s s := ⟨Fwd.refl hf, rfl⟩
theorem Ahead.trans {a b c : St} (x : Ahead a b) (y : Ahead b c) : Ahead a c := ⟨x.fwd.trans y.fwd, y.nt.trans x.nt⟩

theorem bump_fresh {h : H} (hf : Fresh h) {n : Nat} (hl : h.nx + n ≤ LIM) : Fresh { h with nx := h.nx + n } :=
  ⟨fun b hb => hf.none b (by have : h.nx + n ≤ b := hb; omega), hl⟩

theorem region_ok (heff : ∀ f args, EffOk (call f args)) {draw : Bool} {s sf : St} (hf : Fresh s.h) (he : evRegion P ro call ops draw s = some sf) :
    Ahead s sf ∧ ∀ nm ob, nm < s.h.nx → s.h.get nm = none → evRegion P ro call ops draw (s.putH nm ob) = some (sf.putH nm ob) := by
  unfold evRegion at he
  split at he
  · simp at he
  · rename_i hb
    have hlim : s.h.nx + ops.size < LIM := by simpa using hb
    have hf1 := bump_fresh hf (Nat.le_of_lt hlim)
    simp only at he
    have fin : (Fresh sf.h ∧ s.h.nx + ops.size ≤ sf.h.nx ∧ sf.nt = s.nt ∧ (∀ b, b < s.h.nx → (sf.h.get b).isSome = (s.h.get b).isSome)) → Ahead s sf := fun ⟨a1, a2, a3, a4⟩ => ⟨⟨a1, by omega, a4⟩, a3⟩
    split at he
    · split at he
      · rename_i hok
        obtain ⟨a1, a2, a3, a4, a5⟩ := text_ok (s := { s with h := { s.h with nx := s.h.nx + ops.size } }) heff ops.toList 0 hf1 (by simp) he
        refine ⟨fin ⟨a1, a2, a3, a4⟩, fun nm ob hnm hg => ?_⟩
        unfold evRegion
        show (match Nat.blt (s.h.nx + ops.size) LIM with | false => none | true => _) = _
        rw [hb]
        simp only
        rw [hok]
        exact a5 nm ob hnm hg
      · simp at he
    · split at he
      · rename_i p hp
        obtain ⟨l1, l2, l3, l4⟩ := planOf_some hp
        obtain ⟨a1, a2, a3, a4, a5⟩ := seq_ok (s := { s with h := { s.h with nx := s.h.nx + ops.size } }) heff p.order hf1 (fun i hi => by have := l1.lt i hi; show s.h.nx + i < s.h.nx + ops.size; omega) he
        refine ⟨fin ⟨a1, a2, a3, a4⟩, fun nm ob hnm hg => ?_⟩
        unfold evRegion
        show (match Nat.blt (s.h.nx + ops.size) LIM with | false => none | true => _) = _
        rw [hb]
        simp only
        rw [hp]
        exact a5 nm ob hnm hg
      · simp at he

end
end Go.Ev

namespace Go.Ev
open Go.RowKit (Below)

abbrev Sums := FuncId → Option (List Value → H → Option (Value × H))

section
variable {P : Program} {ro : Nat} {S : Sums} {rec : Code → St → Option (Ex × St)}

def CodeOk (rec : Code → St → Option (Ex × St)) : Prop := ∀ c s e s', Fresh s.h → rec c s = some (e, s') → Ahead s s' ∧ ∀ nm ob, nm < s.h.nx → s.h.get nm = none → rec c (s.putH nm ob) = some (e, s'.putH nm ob)

def SumsOk (S : Sums) : Prop := ∀ f m, S f = some m → ∀ args, EffOk (m args)

theorem resV_mono {s : St} {k : H} (hm : Mono s.h k) {r : ResultVar} {v : Value} (h : resV P s r = some v) : resV P { s with h := k } r = some v := by
  unfold resV at h ⊢
  split at h
  · exact h
  · rename_i a t
    simp only at h ⊢
    split at h
    · exact evLoad_mono hm h
    · simp at h

theorem resAll_mono {s : St} {k : H} (hm : Mono s.h k) : ∀ (l : List ResultVar) {vs : List Value}, resAll P s l = some vs → resAll P { s with h := k } l = some vs
  | [], vs, h => h
  | r :: l, vs, h => by
    unfold resAll at h ⊢
    split at h
    · rename_i v vs' h1 h2
      rw [resV_mono hm h1, resAll_mono hm l h2]
      exact h
    · simp at h

theorem fn_ok (hS : SumsOk S) (hrec : CodeOk rec) (f : FuncId) (args : List Value) : EffOk (evFn P S rec f args) := by
  intro h v h' hf he
  unfold evFn at he ⊢
  split at he
  · rename_i m hm
    exact hS f m hm args h v h' hf he
  · rename_i hm
    split at he
    · simp at he
    · rename_i fn hfn
      split at he
      · simp at he
      · rename_i c hc
        split at he
        · simp at he
        · rename_i hb
          split at he
          · simp at he
          · rename_i e s hne hr
            obtain ⟨a1, a2⟩ := hrec _ _ _ _ (by exact hf) hr
            have key : ∀ (r : List Value), resAll P s fn.results.toList = some r → Fwd h s.h ∧ ∀ nm ob, nm < h.nx → h.get nm = none →
                rec c { fr := loadArgs 0 args .nil, nt := args.length + (fn.ntmps - args.length), h := h.put nm ob } = some (e, s.putH nm ob) ∧ resAll P (s.putH nm ob) fn.results.toList = some r := by
              intro r hr2
              refine ⟨a1.fwd, fun nm ob hnm hg => ⟨a2 nm ob hnm hg, ?_⟩⟩
              have hlt : nm < s.h.nx := Nat.lt_of_lt_of_le hnm a1.fwd.nx
              have hg2 : s.h.get nm = none := isSome_none (a1.fwd.same nm hnm) hg
              exact resAll_mono (mono_put ob (nm_lim a1.fwd.fresh hlt) hg2) _ hr2
            split at he
            · rename_i v1 hres
              simp only [Option.some.injEq, Prod.mk.injEq] at he
              obtain ⟨rfl, rfl⟩ := he
              obtain ⟨k1, k2⟩ := key _ hres
              refine ⟨k1, fun nm ob hnm hg => ?_⟩
              obtain ⟨q1, q2⟩ := k2 nm ob hnm hg
              rw [q1]
              cases e with
              | exit id => exact (hne id rfl).elim
              | normal => simp only [q2]; rfl
              | ret => simp only [q2]; rfl
            · rename_i vs hnv hres
              simp only [Option.some.injEq, Prod.mk.injEq] at he
              obtain ⟨rfl, rfl⟩ := he
              obtain ⟨k1, k2⟩ := key _ hres
              refine ⟨k1, fun nm ob hnm hg => ?_⟩
              obtain ⟨q1, q2⟩ := k2 nm ob hnm hg
              rw [q1]
              cases e with
              | exit id => exact (hne id rfl).elim
              | normal =>
                simp only [q2]
                rfl
              | ret =>
                simp only [q2]
                rfl
            · simp at he
          · simp at he

theorem seq2_ok {s' : St} {e : Ex} {r : Option (Ex × St)} {next : St → Option (Ex × St)} (h : evSeq r next = some (e, s')) : (∃ s1, r = some (.normal, s1) ∧ next s1 = some (e, s')) ∨ (e ≠ .normal ∧ r = some (e, s')) := by
  unfold evSeq at h
  split at h
  · rename_i s1
    exact .inl ⟨s1, rfl, h⟩
  · rename_i hn
    refine .inr ⟨fun he => ?_, h⟩
    subst he
    exact hn s' h

theorem evSeq_normal {s : St} {next : St → Option (Ex × St)} : evSeq (some (.normal, s)) next = next s := rfl
theorem evSeq_other {s : St} {e : Ex} {next : St → Option (Ex × St)} (h : e ≠ .normal) : evSeq (some (e, s)) next = some (e, s) := by
  cases e with
  | normal => exact absurd rfl h
  | exit id => rfl
  | ret => rfl

theorem step_ok (hS : SumsOk S) (hrec : CodeOk rec) : CodeOk (evStep P ro S rec) := by
  intro c s e s' hf he
  have seq : ∀ (a b : Code), evSeq (rec a s) (rec b) = some (e, s') → Ahead s s' ∧ ∀ nm ob, nm < s.h.nx → s.h.get nm = none → evSeq (rec a (s.putH nm ob)) (rec b) = some (e, s'.putH nm ob) := by
    intro a b h
    rcases seq2_ok h with ⟨s1, h1, h2⟩ | ⟨hn, h1⟩
    · obtain ⟨a1, a2⟩ := hrec _ _ _ _ hf h1
      obtain ⟨b1, b2⟩ := hrec _ _ _ _ a1.fwd.fresh h2
      refine ⟨a1.trans b1, fun nm ob hnm hg => ?_⟩
      rw [a2 nm ob hnm hg, evSeq_normal]
      exact b2 nm ob (Nat.lt_of_lt_of_le hnm a1.fwd.nx) (isSome_none (a1.fwd.same nm hnm) hg)
    · obtain ⟨a1, a2⟩ := hrec _ _ _ _ hf h1
      refine ⟨a1, fun nm ob hnm hg => ?_⟩
      rw [a2 nm ob hnm hg, evSeq_other hn]
  unfold evStep at he ⊢
  split at he
  · simp only [Option.some.injEq, Prod.mk.injEq] at he
    obtain ⟨rfl, rfl⟩ := he
    exact ⟨Ahead.refl hf, fun _ _ _ _ => rfl⟩
  · rename_i id ops draw
    unfold evNormal at he ⊢
    split at he
    · rename_i s1 h1
      simp only [Option.some.injEq, Prod.mk.injEq] at he
      obtain ⟨rfl, rfl⟩ := he
      obtain ⟨a1, a2⟩ := region_ok (fun f args => fn_ok hS hrec f args) hf h1
      refine ⟨a1, fun nm ob hnm hg => ?_⟩
      simp only [a2 nm ob hnm hg]
    · simp at he
  · exact seq _ _ he
  · rename_i c a b
    unfold evCond at he ⊢
    split at he
    · rename_i h1 h2
      obtain ⟨a1, a2⟩ := hrec _ _ _ _ hf he
      refine ⟨a1, fun nm ob hnm hg => ?_⟩
      show (match opdOk P c, opd s.fr c with | true, .bool true => _ | true, .bool false => _ | _, _ => _) = _
      rw [h1, h2]
      exact a2 nm ob hnm hg
    · rename_i h1 h2
      obtain ⟨a1, a2⟩ := hrec _ _ _ _ hf he
      refine ⟨a1, fun nm ob hnm hg => ?_⟩
      show (match opdOk P c, opd s.fr c with | true, .bool true => _ | true, .bool false => _ | _, _ => _) = _
      rw [h1, h2]
      exact a2 nm ob hnm hg
    · simp at he
  · rename_i id c
    unfold evBlock at he ⊢
    split at he
    · rename_i j s1 h1
      obtain ⟨a1, a2⟩ := hrec _ _ _ _ hf h1
      split at he
      · rename_i hj
        simp only [Option.some.injEq, Prod.mk.injEq] at he
        obtain ⟨rfl, rfl⟩ := he
        refine ⟨a1, fun nm ob hnm hg => ?_⟩
        simp only [a2 nm ob hnm hg, hj]
      · rename_i hj
        simp only [Option.some.injEq, Prod.mk.injEq] at he
        obtain ⟨rfl, rfl⟩ := he
        refine ⟨a1, fun nm ob hnm hg => ?_⟩
        simp only [a2 nm ob hnm hg, hj]
    · rename_i hne
      obtain ⟨a1, a2⟩ := hrec _ _ _ _ hf he
      refine ⟨a1, fun nm ob hnm hg => ?_⟩
      rw [a2 nm ob hnm hg]
      cases e with
      | exit j => exact absurd he (hne j s')
      | normal => rfl
      | ret => rfl
  · exact seq _ _ he
  · simp only [Option.some.injEq, Prod.mk.injEq] at he
    obtain ⟨rfl, rfl⟩ := he
    exact ⟨Ahead.refl hf, fun _ _ _ _ => rfl⟩
  · simp only [Option.some.injEq, Prod.mk.injEq] at he
    obtain ⟨rfl, rfl⟩ := he
    exact ⟨Ahead.refl hf, fun _ _ _ _ => rfl⟩
  · simp at he

theorem code_ok (hS : SumsOk S) : ∀ n, CodeOk (evCode P ro S n)
  | 0 => fun c s e s' _ he => by rw [evCode_zero] at he; simp at he
  | n + 1 => step_ok (P := P) (ro := ro) hS (code_ok hS n)

end
end Go.Ev

namespace Go.Ev
open Go.RowKit (Below)

def toExit : Ex → Exit
  | .normal => .normal
  | .exit id => .exit id
  | .ret => .ret

def SimCode (P : Program) (ro : Nat) (w0 : World) (rec : Code → St → Option (Ex × St)) : Prop :=
  ∀ c s e s' f g a w (Q : Exit → Act → World → Prop), RelS P ro w0 f g s a w → rec c s = some (e, s') →
    (∀ f' g' a' w', RelS P ro w0 f' g' s' a' w' → Agree ro s.h f g f' g' → Q (toExit e) a' w') → c.wp P Q a w

def SimSums (P : Program) (ro : Nat) (w0 : World) (S : Sums) : Prop :=
  ∀ f m, S f = some m → ∀ args h v h' F g w, m args h = some (v, h') → RelH P ro w0 F g h w → Fresh h → ro ≤ h.nx → (∀ x ∈ args, okV ro h x) →
    Calls P f (args.map (ren F g)).toArray w fun e w' => ∃ F' g', e = .returned (ren F' g' v) ∧ RelH P ro w0 F' g' h' w' ∧ Agree ro h F g F' g' ∧ okV ro h' v

section
variable {P : Program} {ro : Nat} {w0 : World} {f g : Nat → Nat} {S : Sums} {rec : Code → St → Option (Ex × St)} {call : FuncId → List Value → H → Option (Value × H)} {ops : Array Oper}

theorem RelS.bump {s : St} {a : Act} {w : World} (r : RelS P ro w0 f g s a w) {n : Nat} (hl : s.h.nx + n ≤ LIM) : RelS P ro w0 f g { s with h := { s.h with nx := s.h.nx + n } } a w :=
  ⟨r.mem.nx _, r.fr, r.nt, r.dfr, bump_fresh r.fresh hl, Nat.le_trans r.nx (Nat.le_add_right ..), r.lim⟩

theorem RelS.drew {s : St} {a : Act} {w : World} (r : RelS P ro w0 f g s a w) : RelS P ro w0 f g s a w.drew :=
  ⟨r.mem.drew, r.fr, r.nt, r.dfr, r.fresh, r.nx, r.lim⟩

theorem region_wp (hm : P.follows .mixedOrders = true) (hcall : SimCall P ro w0 call) (heff : ∀ f args, EffOk (call f args)) {id : Nat} {draw : Bool} {s sf : St} {a : Act} {w : World} {Q : Exit → Act → World → Prop} (r : RelS P ro w0 f g s a w)
    (he : evRegion P ro call ops draw s = some sf) (hQ : ∀ f' g' a' w', RelS P ro w0 f' g' sf a' w' → Agree ro s.h f g f' g' → Q .normal a' w') : (Code.region id ops draw).wp P Q a w := by
  unfold evRegion at he
  split at he
  · simp at he
  · rename_i hb
    have hlim : s.h.nx + ops.size < LIM := by simpa using hb
    have rb := r.bump (Nat.le_of_lt hlim)
    simp only at he
    split at he
    · split at he
      · rename_i hok
        exact region_text hcall heff hok r.nx rb (fun k hk => r.fresh.none _ (Nat.le_add_right ..)) (Nat.le_refl _) he (fun f' g' a' w' r' ag => hQ f' g' a' w' r' ⟨ag.f, ag.g⟩)
      · simp at he
    · split at he
      · rename_i p hp
        obtain ⟨l1, l2, l3, l4⟩ := planOf_some hp
        refine wp_region_any hm ?_
        exact any_wp hcall heff l3 r.nx l2 ops.size l4 rb.drew l1 (fun j hj => ⟨by have := l1.lt j hj; show s.h.nx + j < s.h.nx + ops.size; omega, r.fresh.none _ (Nat.le_add_right ..)⟩) he (fun f' g' a' w' r' ag => hQ f' g' a' w' r' ⟨ag.f, ag.g⟩)
      · simp at he

theorem loadArgs_get : ∀ (l : List Value) (i : Nat) (t : T Value) (k : Nat), i + l.length ≤ LIM → (loadArgs i l t).get k = if i ≤ k ∧ k < i + l.length then l[k - i]? else t.get k
  | [], i, t, k, _ => by
    have : ¬ (i ≤ k ∧ k < i + ([] : List Value).length) := by simp only [List.length_nil]; omega
    rw [if_neg this]; rfl
  | v :: l, i, t, k, h => by
    have hlen : (v :: l).length = l.length + 1 := rfl
    rw [hlen] at h ⊢
    show (loadArgs (i + 1) l (T.put K t i v)).get k = _
    rw [loadArgs_get l (i + 1) _ k (by omega), T.get_put v K t i k (lim_ok (by omega))]
    by_cases hk : k = i
    · subst hk
      rw [if_neg (by omega), if_pos rfl, if_pos (by omega)]
      simp
    · by_cases h1 : i + 1 ≤ k ∧ k < i + 1 + l.length
      · rw [if_pos h1, if_pos (by omega)]
        rw [show k - i = (k - (i + 1)) + 1 from by omega, List.getElem?_cons_succ]
      · rw [if_neg h1, if_neg hk, if_neg (by omega)]

theorem enter_rel {args : List Value} {h : H} {w : World} {n : Nat} (hm : RelH P ro w0 f g h w) (hf : Fresh h) (hr : ro ≤ h.nx) (hok : ∀ x ∈ args, okV ro h x) (hl : args.length + n < LIM) :
    RelS P ro w0 f g { fr := loadArgs 0 args .nil, nt := args.length + (n - args.length), h } { tmps := (args.map (ren f g)).toArray ++ Array.replicate (n - (args.map (ren f g)).toArray.size) undef, defers := [] } w := by
  refine ⟨hm, fun t => ?_, ?_, rfl, hf, hr, by show args.length + (n - args.length) ≤ LIM; omega⟩
  · have hg : opd (loadArgs 0 args .nil) (.tmp t) = (args[t]?).getD undef := by
      show (match (loadArgs 0 args .nil).get t with | some v => v | none => undef) = _
      rw [loadArgs_get args 0 .nil t (by omega)]
      by_cases ht : t < args.length
      · rw [if_pos (by omega), Nat.sub_zero, List.getElem?_eq_getElem ht]; rfl
      · rw [if_neg (by omega), List.getElem?_eq_none (by omega)]; rfl
    show _ = ren f g (opd (loadArgs 0 args .nil) (.tmp t)) ∧ okV ro h (opd (loadArgs 0 args .nil) (.tmp t))
    rw [hg]
    by_cases ht : t < args.length
    · rw [List.getElem?_eq_getElem ht]
      refine ⟨?_, hok _ (List.getElem_mem ht)⟩
      simp [Array.getD_eq_getD_getElem?, Array.getElem?_append, ht]
    · rw [List.getElem?_eq_none (by omega)]
      refine ⟨?_, by unfold okV; exact all_undef _⟩
      simp only [Option.getD_none, ren_undef, Array.getD_eq_getD_getElem?]
      rw [Array.getElem?_append, if_neg (by simpa using ht)]
      rw [Array.getElem?_replicate]
      split <;> rfl
  · simp

noncomputable def resK (tmps : Array Value) : ResultVar → Sem Value
  | .tmp t => pure (tmps.getD t undef)
  | .cell a t => do loadVar t (← asAddr (tmps.getD a undef))

theorem resAll_run {s : St} {a : Act} {w : World} (r : RelS P ro w0 f g s a w) : ∀ (l : List ResultVar) {vs : List Value}, resAll P s l = some vs →
    (l.mapM (resK a.tmps)).run P w = .ok (vs.map (ren f g)) w ∧ ∀ v ∈ vs, okV ro s.h v
  | [], vs, h => by
    simp only [resAll, Option.some.injEq] at h; subst h
    exact ⟨rfl, by simp⟩
  | x :: l, vs, h => by
    unfold resAll at h
    split at h
    · rename_i v vs' h1 h2
      simp only [Option.some.injEq] at h; subst h
      obtain ⟨i1, i2⟩ := resAll_run r l h2
      have hx : (resK a.tmps x).run P w = .ok (ren f g v) w ∧ okV ro s.h v := by
        unfold resV at h1
        split at h1
        · rename_i t
          simp only [Option.some.injEq] at h1; subst h1
          exact ⟨by show Result.ok _ w = _; rw [(r.fr t).1], (r.fr t).2⟩
        · rename_i q t
          split at h1
          · rename_i ad had
            obtain ⟨k1, k2⟩ := evLoad_run r.mem h1
            refine ⟨?_, k2⟩
            have hq := (r.fr q).1
            rw [had, ren_pointer] at hq
            simp [resK, hq, asAddr, k1]
          · simp at h1
      refine ⟨?_, fun u hu => ?_⟩
      · rw [List.mapM_cons]
        simp only [Sem.run_bind, hx.1, Result.andThen_ok, i1, Sem.run_pure, List.map_cons]
      · rcases List.mem_cons.1 hu with rfl | hu
        · exact hx.2
        · exact i2 u hu
    · simp at h

theorem results_run {fn : Func} {s : St} {a : Act} {w : World} (r : RelS P ro w0 f g s a w) {vs : List Value} (h : resAll P s fn.results.toList = some vs) :
    (results fn a.tmps).run P w = .ok (if h : (vs.map (ren f g)).toArray.size = 1 then (vs.map (ren f g)).toArray[0] else .tuple (vs.map (ren f g)).toArray) w := by
  have h1 := (resAll_run r _ h).1
  have hd : results fn a.tmps = (do let vs ← fn.results.mapM (resK a.tmps); pure (if h : vs.size = 1 then vs[0] else .tuple vs)) := by
    unfold results
    congr 1
  rw [hd, Array.mapM_eq_mapM_toList]
  simp [h1]

/-- a call's answer is the evaluator's -/
theorem fn_sim (hS : SimSums P ro w0 S) (hrec : SimCode P ro w0 rec) : SimCall P ro w0 (evFn P S rec) := by
  intro fi args h v h' F g w he hm hf hr hargs
  unfold evFn at he
  split at he
  · rename_i m hmS
    exact hS fi m hmS args h v h' F g w he hm hf hr hargs
  · split at he
    · simp at he
    · rename_i fn hfn
      split at he
      · simp at he
      · rename_i c hc
        split at he
        · simp at he
        · rename_i hb
          have hlim : args.length + fn.ntmps < LIM := by simpa using hb
          split at he
          · simp at he
          · rename_i e s hne hr2
            refine calls_of_wp hfn hc ?_
            refine hrec c _ e s F g _ w _ (enter_rel hm hf hr hargs hlim) hr2 ?_
            intro f' g' a' w' r' ag
            have fin : ∀ vs, resAll P s fn.results.toList = some vs → ∀ v, (if h : (vs.map (ren f' g')).toArray.size = 1 then (vs.map (ren f' g')).toArray[0] else .tuple (vs.map (ren f' g')).toArray) = ren f' g' v → okV ro s.h v →
                bodyPost P fn (fun e w' => ∃ F' g'', e = .returned (ren F' g'' v) ∧ RelH P ro w0 F' g'' s.h w' ∧ Agree ro h F g F' g'' ∧ okV ro s.h v) (toExit e) a' w' := by
              intro vs hvs v hv hokv
              have hres := results_run (fn := fn) r' hvs
              rw [hv] at hres
              have : a'.defers = [] ∧ ∃ u, (results fn a'.tmps).run P w' = .ok u w' ∧ (∃ F' g'', Ending.returned u = .returned (ren F' g'' v) ∧ RelH P ro w0 F' g'' s.h w' ∧ Agree ro h F g F' g'' ∧ okV ro s.h v) :=
                ⟨r'.dfr, _, hres, f', g', rfl, r'.mem, ag, hokv⟩
              cases e with
              | exit id => exact (hne id rfl).elim
              | normal => exact this
              | ret => exact this
            split at he
            · rename_i v1 hres
              simp only [Option.some.injEq, Prod.mk.injEq] at he
              obtain ⟨rfl, rfl⟩ := he
              exact fin _ hres v1 (by simp) ((resAll_run r' _ hres).2 v1 (by simp))
            · rename_i vs hnv hres
              simp only [Option.some.injEq, Prod.mk.injEq] at he
              obtain ⟨rfl, rfl⟩ := he
              refine fin _ hres (.tuple ⟨vs⟩) ?_ ?_
              · have hn1 : ¬ (vs.map (ren f' g')).toArray.size = 1 := by
                  intro h1
                  have : vs.length = 1 := by simpa using h1
                  obtain ⟨u, hu⟩ := List.length_eq_one_iff.1 this
                  exact hnv u hu
                rw [dif_neg hn1, ren_tuple]
                simp
              · unfold okV; rw [all_tuple]
                intro x hx
                exact (resAll_run r' _ hres).2 x (by simpa using hx)
            · simp at he
          · simp at he

theorem Agree.thenS {h h2 : H} {f g f' g' f2 g2 : Nat → Nat} (hf : Fresh h) (hw : Fwd h h2) (a : Agree ro h f g f' g') (b : Agree ro h2 f' g' f2 g2) : Agree ro h f g f2 g2 := a.trans b (hw.dom hf)

theorem code_sim (hm : P.follows .mixedOrders = true) (hSo : SumsOk S) (hS : SimSums P ro w0 S) : ∀ n, SimCode P ro w0 (evCode P ro S n) ∧
    ∀ c s e s' f g a w (Q : Exit → Act → World → Prop), RelS P ro w0 f g s a w → evCode P ro S n (.loop c) s = some (e, s') → (∀ f' g' a' w', RelS P ro w0 f' g' s' a' w' → Agree ro s.h f g f' g' → Q (toExit e) a' w') → Code.rounds P c Q n a w
  | 0 => ⟨fun c s e s' f g a w Q _ he => by rw [evCode_zero] at he; simp at he, fun c s e s' f g a w Q _ he => by rw [evCode_zero] at he; simp at he⟩
  | n + 1 => by
    obtain ⟨ih, ihl⟩ := code_sim hm hSo hS n
    have hcok := code_ok (P := P) (ro := ro) hSo n
    have loop : ∀ c s e s' f g a w (Q : Exit → Act → World → Prop), RelS P ro w0 f g s a w → evCode P ro S (n + 1) (.loop c) s = some (e, s') → (∀ f' g' a' w', RelS P ro w0 f' g' s' a' w' → Agree ro s.h f g f' g' → Q (toExit e) a' w') → Code.rounds P c Q (n + 1) a w := by
      intro c s e s' f g a w Q r he hQ
      rw [evCode_succ] at he
      have he : evSeq (evCode P ro S n c s) (evCode P ro S n (.loop c)) = some (e, s') := he
      rw [rounds_succ]
      rcases seq2_ok he with ⟨s1, h1, h2⟩ | ⟨hn, h1⟩
      · refine ih c s _ s1 f g a w _ r h1 fun f1 g1 a1 w1 r1 ag1 => ?_
        exact ihl c s1 e s' f1 g1 a1 w1 Q r1 h2 fun f2 g2 a2 w2 r2 ag2 => hQ f2 g2 a2 w2 r2 (ag1.thenS r.fresh (hcok _ _ _ _ r.fresh h1).1.fwd ag2)
      · refine ih c s e s' f g a w _ r h1 fun f1 g1 a1 w1 r1 ag1 => ?_
        have := hQ f1 g1 a1 w1 r1 ag1
        cases e with
        | normal => exact absurd rfl hn
        | exit id => exact this
        | ret => exact this
    refine ⟨?_, loop⟩
    intro c s e s' f g a w Q r he hQ
    cases c with
    | loop c => exact wp_loop_rounds (n + 1) (loop c s e s' f g a w Q r he hQ)
    | skip =>
      rw [evCode_succ] at he
      simp only [evStep, Option.some.injEq, Prod.mk.injEq] at he
      obtain ⟨rfl, rfl⟩ := he
      exact Go.wp_skip (hQ f g a w r (Agree.refl ..))
    | exit id =>
      rw [evCode_succ] at he
      simp only [evStep, Option.some.injEq, Prod.mk.injEq] at he
      obtain ⟨rfl, rfl⟩ := he
      exact wp_exit (hQ f g a w r (Agree.refl ..))
    | ret =>
      rw [evCode_succ] at he
      simp only [evStep, Option.some.injEq, Prod.mk.injEq] at he
      obtain ⟨rfl, rfl⟩ := he
      exact wp_ret (hQ f g a w r (Agree.refl ..))
    | region id ops draw =>
      rw [evCode_succ] at he
      simp only [evStep, evNormal] at he
      split at he
      · rename_i s1 h1
        simp only [Option.some.injEq, Prod.mk.injEq] at he
        obtain ⟨rfl, rfl⟩ := he
        exact region_wp hm (fn_sim hS ih) (fun f args => fn_ok hSo hcok f args) r h1 hQ
      · simp at he
    | seq x y =>
      rw [evCode_succ] at he
      simp only [evStep] at he
      refine wp_seq ?_
      rcases seq2_ok he with ⟨s1, h1, h2⟩ | ⟨hn, h1⟩
      · refine ih x s _ s1 f g a w _ r h1 fun f1 g1 a1 w1 r1 ag1 => ?_
        exact ih y s1 e s' f1 g1 a1 w1 Q r1 h2 fun f2 g2 a2 w2 r2 ag2 => hQ f2 g2 a2 w2 r2 (ag1.thenS r.fresh (hcok _ _ _ _ r.fresh h1).1.fwd ag2)
      · refine ih x s e s' f g a w _ r h1 fun f1 g1 a1 w1 r1 ag1 => ?_
        have := hQ f1 g1 a1 w1 r1 ag1
        cases e with
        | normal => exact absurd rfl hn
        | exit id => exact this
        | ret => exact this
    | cond c x y =>
      rw [evCode_succ] at he
      simp only [evStep, evCond] at he
      split at he
      · rename_i h1 h2
        have hc := (r.opd h1).1
        rw [h2, ren_bool] at hc
        exact wp_cond_true hc (ih x s e s' f g a w Q r he hQ)
      · rename_i h1 h2
        have hc := (r.opd h1).1
        rw [h2, ren_bool] at hc
        exact wp_cond_false hc (ih y s e s' f g a w Q r he hQ)
      · simp at he
    | block id c =>
      rw [evCode_succ] at he
      simp only [evStep, evBlock] at he
      refine wp_block ?_
      split at he
      · rename_i j s1 h1
        split at he
        · rename_i hj
          have hj := Nat.eq_of_beq_eq_true hj
          subst hj
          simp only [Option.some.injEq, Prod.mk.injEq] at he
          obtain ⟨rfl, rfl⟩ := he
          refine ih c s _ s1 f g a w _ r h1 fun f1 g1 a1 w1 r1 ag1 => ?_
          have := hQ f1 g1 a1 w1 r1 ag1
          simp only [toExit, Exit.inBlock, if_true]
          exact this
        · rename_i hj
          simp only [Option.some.injEq, Prod.mk.injEq] at he
          obtain ⟨rfl, rfl⟩ := he
          refine ih c s _ s1 f g a w _ r h1 fun f1 g1 a1 w1 r1 ag1 => ?_
          have := hQ f1 g1 a1 w1 r1 ag1
          have hne : ¬ j = id := fun e => by subst e; simp at hj
          simp only [toExit, Exit.inBlock, if_neg hne]
          exact this
      · rename_i hne
        refine ih c s e s' f g a w _ r he fun f1 g1 a1 w1 r1 ag1 => ?_
        have := hQ f1 g1 a1 w1 r1 ag1
        cases e with
        | exit j => exact absurd he (hne j s')
        | normal => exact this
        | ret => exact this
    | _ =>
      rw [evCode_succ] at he
      simp [evStep] at he

/-- what was evaluated, the program answers -/
theorem ev_calls (hm : P.follows .mixedOrders = true) (hSo : SumsOk S) (hS : SimSums P ro w0 S) {n : Nat} {fi : FuncId} {args : List Value} {h h' : H} {v : Value} {w : World} (he : evCall P ro S n fi args h = some (v, h')) (hr : RelH P ro w0 f g h w) (hf : Fresh h) (hn : ro ≤ h.nx) (ha : ∀ x ∈ args, okV ro h x) :
    Calls P fi (args.map (ren f g)).toArray w fun e w' => ∃ F' g', e = .returned (ren F' g' v) ∧ RelH P ro w0 F' g' h' w' ∧ Agree ro h f g F' g' ∧ okV ro h' v :=
  fn_sim hS (code_sim hm hSo hS n).1 fi args h v h' f g w he hr hf hn ha

end
end Go.Ev
#print axioms Go.Ev.ev_calls

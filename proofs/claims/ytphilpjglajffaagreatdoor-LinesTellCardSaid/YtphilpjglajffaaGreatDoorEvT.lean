/- Regions: in the text's order; in any order. -/
import Derived.Test.YtphilpjglajffaaGreatDoorEvS
namespace Go.Ev
open Go.RowKit (Below)

section
variable {P : Program} {ro : Nat} {w0 : World} {call : FuncId → List Value → H → Option (Value × H)} {ops : Array Oper} {base : Nat}

theorem step_dom (heff : ∀ f args, EffOk (call f args)) {i : Nat} {o : Oper} {s s' : St} (hf : Fresh s.h) (hi : base + i < s.h.nx) (he : step1 P ro call ops base i o s = some s') (b : Nat) (hb : dom ro s.h b) : dom ro s'.h b := by
  rcases hb with hb | hb
  · exact .inl hb
  · exact .inr ((step_fwd heff hf hi he).2.2.2.2 b hb)

theorem text_wp (hcall : SimCall P ro w0 call) (heff : ∀ f args, EffOk (call f args)) (hok : opsOk P ops = true) (hro : ro ≤ base) {Q : Exit → Act → World → Prop} {sf : St} : ∀ (l : List Oper) (i : Nat) {f g : Nat → Nat} {s : St} {a : Act} {w : World}, RelS P ro w0 f g s a w →
    (∀ j, l[j]? = ops[i + j]?) → (∀ k, i ≤ k → k < i + l.length → s.h.get (base + k) = none) → base + (i + l.length) ≤ s.h.nx → runText P ro call ops base i l s = some sf →
    (∀ f' g' a' w', RelS P ro w0 f' g' sf a' w' → Agree ro s.h f g f' g' → Q .normal a' w') → wpList P ops Q l a w
  | [], i, f, g, s, a, w, r, _, _, _, he, hQ => by
    simp only [runText, Option.some.injEq] at he
    subst he
    exact hQ f g a w r (Agree.refl ..)
  | o :: l, i, f, g, s, a, w, r, hl, hn, hnx, he, hQ => by
    unfold runText at he
    split at he
    · rename_i s1 h1
      have hoi : ops[i]? = some o := by have := hl 0; simpa using this.symm
      have hlen : (o :: l).length = l.length + 1 := rfl
      have hi : base + i < s.h.nx := by rw [hlen] at hnx; omega
      obtain ⟨ff, nx, _, same, _⟩ := step_fwd heff r.fresh hi h1
      unfold wpList
      refine step_wp hcall heff r (opsOk_some hok hoi) hi hro (hn i (Nat.le_refl _) (by rw [hlen]; omega)) h1 ?_
      intro f1 g1 a1 w1 r1 ag1
      refine text_wp hcall heff hok hro l (i + 1) r1 (fun j => ?_) (fun k hk1 hk2 => ?_) (by rw [hlen] at hnx; omega) he ?_
      · have := hl (j + 1)
        rw [List.getElem?_cons_succ] at this
        rw [this]; congr 1; omega
      · exact isSome_none (same (base + k) (by rw [hlen] at hnx; omega) (by omega)) (hn k (by omega) (by rw [hlen]; omega))
      · intro f2 g2 a2 w2 r2 ag2
        exact hQ f2 g2 a2 w2 r2 (ag1.trans ag2 (step_dom heff r.fresh hi h1))
    · simp at he

theorem region_text (hcall : SimCall P ro w0 call) (heff : ∀ f args, EffOk (call f args)) (hok : opsOk P ops = true) (hro : ro ≤ base) {Q : Exit → Act → World → Prop} {s sf : St} {f g : Nat → Nat} {a : Act} {w : World} {id : Nat} (r : RelS P ro w0 f g s a w)
    (hn : ∀ k, k < ops.size → s.h.get (base + k) = none) (hnx : base + ops.size ≤ s.h.nx) (he : runText P ro call ops base 0 ops.toList s = some sf)
    (hQ : ∀ f' g' a' w', RelS P ro w0 f' g' sf a' w' → Agree ro s.h f g f' g' → Q .normal a' w') : (Code.region id ops false).wp P Q a w := by
  exact wp_region_list (text_wp hcall heff hok hro ops.toList 0 r (fun j => by simp) (fun k _ hk => hn k (by simpa using hk)) (by simpa using hnx) he hQ)

/-! ### any order -/
def waits (ops : Array Oper) (x i : Nat) : Prop := ∃ ox, ops[x]? = some ox ∧ ∃ e ∈ ox.after, Region.binds .any e = true ∧ e.on = i

def Rp (P : Program) (ops : Array Oper) (bs : List Nat) (x i : Nat) : Prop :=
  x ≠ i ∧ ¬ waits ops x i ∧ (bit (bs.getD i 0) x = true ∨ ∀ ox oi, ops[x]? = some ox → ops[i]? = some oi → pairOk P ops ox oi = true)

structure Left (P : Program) (ops : Array Oper) (bs : List Nat) (L : List Nat) (listed : Array Bool) : Prop where
  size : listed.size = ops.size
  mem : ∀ j, j < ops.size → (listed.getD j true = true ↔ j ∉ L)
  lt : ∀ j ∈ L, j < ops.size
  pairs : L.Pairwise (Rp P ops bs)
  waits : ∀ x ∈ L, ¬ waits ops x x ∧ ∀ i, waits ops x i → i < ops.size
  down : ∀ j, j < ops.size → j ∉ L → ∀ x, bit (bs.getD j 0) x = true → x ∉ L

theorem mem_ready {listed : Array Bool} {i : Nat} : i ∈ Region.ready .any ops listed ↔ i < ops.size ∧ listed.getD i true = false ∧ ∃ o, ops[i]? = some o ∧ ∀ e ∈ o.after, Region.binds .any e = true → listed.getD e.on false = true := by
  unfold Region.ready
  rw [List.mem_filter, List.mem_range]
  constructor
  · rintro ⟨h1, h2⟩
    rw [Bool.and_eq_true] at h2
    refine ⟨h1, by simpa using h2.1, ops[i], by simp [h1], ?_⟩
    have h3 := h2.2
    simp only [Array.getElem?_eq_getElem h1, Option.map_some, Option.getD_some] at h3
    rw [Array.all_eq_true_iff_forall_mem] at h3
    intro e he hb
    have := h3 e he
    simpa [hb] using this
  · rintro ⟨h1, h2, o, ho, h3⟩
    refine ⟨h1, ?_⟩
    rw [Bool.and_eq_true]
    refine ⟨by simp only [h2]; rfl, ?_⟩
    rw [ho]
    simp only [Option.map_some, Option.getD_some]
    rw [Array.all_eq_true_iff_forall_mem]
    intro e he
    cases hb : Region.binds .any e with
    | false => rfl
    | true => simp only [h3 e he hb]; rfl

theorem getD_both {listed : Array Bool} {j : Nat} (h : j < listed.size) (b c : Bool) : listed.getD j b = listed.getD j c := by simp [h]
theorem getD_lt {listed : Array Bool} {j : Nat} (h : listed.getD j false = true) : j < listed.size := by
  rcases Nat.lt_or_ge j listed.size with h1 | h1
  · exact h1
  · simp [Nat.not_lt.2 h1] at h

theorem Left.start {bs : List Nat} {L : List Nat} {listed : Array Bool} {x : Nat} (hl : Left P ops bs (x :: L) listed) : Region.ready .any ops listed ≠ [] := by
  have hx := hl.lt x (List.mem_cons_self ..)
  refine List.ne_nil_of_mem (a := x) (mem_ready.2 ⟨hx, ?_, ops[x], by simp [hx], ?_⟩)
  · have := not_congr (hl.mem x hx)
    simpa using this
  · intro e he hb
    have hw : Ev.waits ops x e.on := ⟨ops[x], by simp [hx], e, he, hb, rfl⟩
    obtain ⟨w1, w2⟩ := hl.waits x (List.mem_cons_self ..)
    have hlt := w2 _ hw
    have hnot : e.on ∉ x :: L := by
      intro hm
      rcases List.mem_cons.1 hm with h1 | h1
      · rw [h1] at hw; exact w1 hw
      · exact ((List.pairwise_cons.1 hl.pairs).1 _ h1).2.1 hw
    rw [getD_both (by rw [hl.size]; exact hlt) false true]
    exact (hl.mem _ hlt).2 hnot

theorem Left.next {bs : List Nat} {pre post : List Nat} {i : Nat} {listed : Array Bool} (hb : befOk ops bs = true) (hl : Left P ops bs (pre ++ i :: post) listed) (hr : i ∈ Region.ready .any ops listed) :
    Left P ops bs (pre ++ post) (listed.setIfInBounds i true) ∧ (∀ x ∈ pre ++ i :: post, bit (bs.getD i 0) x = false) := by
  obtain ⟨h1, h2, o, ho, h3⟩ := mem_ready.1 hr
  have hsub : (pre ++ post).Sublist (pre ++ i :: post) := List.Sublist.append_left (List.sublist_cons_self ..) pre
  have hni : i ∉ pre ++ post := by
    intro hm
    have hp := hl.pairs
    rw [List.pairwise_append] at hp
    obtain ⟨_, p2, p3⟩ := hp
    rcases List.mem_append.1 hm with hm | hm
    · exact (p3 i hm i (List.mem_cons_self ..)).1 rfl
    · exact ((List.pairwise_cons.1 p2).1 i hm).1 rfl
  have hmem : ∀ j, j ∈ pre ++ i :: post ↔ j = i ∨ j ∈ pre ++ post := by intro j; simp only [List.mem_append, List.mem_cons]; constructor <;> (intro h; rcases h with h | h | h <;> simp [h])
  have hbef : ∀ x ∈ pre ++ i :: post, bit (bs.getD i 0) x = false := by
    intro x hx
    cases hbx : bit (bs.getD i 0) x with
    | false => rfl
    | true =>
      exfalso
      unfold befOk at hb
      have q1 := List.all_eq_true.1 hb i (List.mem_range.2 h1)
      have q2 := List.all_eq_true.1 q1 x (List.mem_range.2 (hl.lt x hx))
      rw [hbx, ho] at q2
      simp only [Bool.not_true, Bool.false_or] at q2
      obtain ⟨e, he, hc⟩ := List.any_eq_true.1 q2
      rw [Bool.and_eq_true] at hc
      have hle := h3 e (Array.mem_def.2 he) hc.1
      have hlt := getD_lt hle
      rw [hl.size] at hlt
      have hnot : e.on ∉ pre ++ i :: post := by
        rw [getD_both (by rw [hl.size]; exact hlt) false true] at hle
        exact (hl.mem _ hlt).1 hle
      rcases Bool.or_eq_true .. ▸ hc.2 with h4 | h4
      · have : e.on = x := by simpa using h4
        exact hnot (this ▸ hx)
      · exact hl.down e.on hlt hnot x h4 hx
  refine ⟨⟨by simpa using hl.size, fun j hj => ?_, fun j hj => hl.lt j (hsub.mem hj), hl.pairs.sublist hsub, fun x hx => hl.waits x (hsub.mem hx), fun j hj hjn x hbx hx => ?_⟩, hbef⟩
  · by_cases hji : j = i
    · subst hji
      have : (listed.setIfInBounds j true).getD j true = true := by
        simp only [Array.getD_eq_getD_getElem?, Array.getElem?_setIfInBounds]
        simp [hl.size, hj]
      simp only [this, true_iff]
      exact hni
    · have : (listed.setIfInBounds i true).getD j true = listed.getD j true := by
        simp only [Array.getD_eq_getD_getElem?, Array.getElem?_setIfInBounds]
        rw [if_neg (fun e => hji e.symm)]
      rw [this, hl.mem j hj, hmem j]
      simp [hji]
  · by_cases hji : j = i
    · subst hji
      have := hbef x (hsub.mem hx)
      rw [this] at hbx; simp at hbx
    · exact hl.down j hj (fun hm => by rcases (hmem j).1 hm with h | h; exact hji h; exact hjn h) x hbx (hsub.mem hx)

theorem any_wp (hcall : SimCall P ro w0 call) (heff : ∀ f args, EffOk (call f args)) (hok : opsOk P ops = true) (hro : ro ≤ base) {bs : List Nat} (hb : befOk ops bs = true) {Q : Exit → Act → World → Prop} {sf : St} : ∀ (n : Nat) {L : List Nat} {listed : Array Bool} {f g : Nat → Nat} {s : St} {a : Act} {w : World}, L.length = n →
    RelS P ro w0 f g s a w → Left P ops bs L listed → (∀ j ∈ L, base + j < s.h.nx ∧ s.h.get (base + j) = none) → runSeq P ro call ops base bs L [] s = some sf →
    (∀ f' g' a' w', RelS P ro w0 f' g' sf a' w' → Agree ro s.h f g f' g' → Q .normal a' w') → wpAny P .any ops Q n listed a w
  | 0, L, listed, f, g, s, a, w, hn, r, hl, _, he, hQ => by
    have hL := List.eq_nil_of_length_eq_zero hn
    subst hL
    simp only [runSeq, Option.some.injEq] at he
    subst he
    refine ⟨?_, hQ f g a w r (Agree.refl ..)⟩
    rw [List.eq_nil_iff_forall_not_mem]
    intro i hi
    obtain ⟨h1, h2, _⟩ := mem_ready.1 hi
    have := (hl.mem i h1).2 (by simp)
    rw [h2] at this; simp at this
  | n + 1, L, listed, f, g, s, a, w, hn, r, hl, hnm, he, hQ => by
    refine ⟨fun hre => ?_, fun i hi => ?_⟩
    · cases L with
      | nil => simp at hn
      | cons x L => exact absurd hre hl.start
    · have hready := mem_ready.1 hi
      have hiL : i ∈ L := by
        have := not_congr (hl.mem i hready.1)
        rw [hready.2.1] at this
        simpa using this
      obtain ⟨pre, post, rfl⟩ := List.append_of_mem hiL
      obtain ⟨hl', hbef⟩ := hl.next hb hi
      obtain ⟨hin, hig⟩ := hnm i hiL
      have hpair := hl.pairs
      rw [List.pairwise_append] at hpair
      obtain ⟨oi, s1, hoi, hs1, hrun, _⟩ := pull (P := P) (ro := ro) (bs := bs) heff (fun j o ho => (opsOk_some hok ho).sel) pre (acc := []) r.fresh r.lim hin hig (fun x hx => by
        have hx' : x ∈ pre ++ i :: post := List.mem_append_left _ hx
        have hrp := hpair.2.2 x hx i (List.mem_cons_self ..)
        refine ⟨hrp.1, (hnm x hx').1, hbef x hx', ?_⟩
        rcases hrp.2.2 with h1 | h1
        · rw [hbef x hx'] at h1; simp at h1
        · exact h1) (by simp) he
      obtain ⟨ff, nx, _, same, _⟩ := step_fwd heff r.fresh hin hs1
      unfold wpOp
      rw [hoi]
      refine step_wp hcall heff r (opsOk_some hok hoi) hin hro hig hs1 ?_
      intro f1 g1 a1 w1 r1 ag1
      have hsub : (pre ++ post).Sublist (pre ++ i :: post) := List.Sublist.append_left (List.sublist_cons_self ..) pre
      refine any_wp hcall heff hok hro hb n (by simp only [List.length_append, List.length_cons] at hn ⊢; omega) r1 hl' (fun j hj => ?_) hrun ?_
      · obtain ⟨q1, q2⟩ := hnm j (hsub.mem hj)
        have hji : j ≠ i := by
          rintro rfl
          have := (hl'.mem j hready.1).1
          have hset : (listed.setIfInBounds j true).getD j true = true := by
            simp only [Array.getD_eq_getD_getElem?, Array.getElem?_setIfInBounds]
            simp [hl.size, hready.1]
          exact this hset hj
        exact ⟨Nat.lt_of_lt_of_le q1 nx, isSome_none (same _ q1 (by omega)) q2⟩
      · intro f2 g2 a2 w2 r2 ag2
        exact hQ f2 g2 a2 w2 r2 (ag1.trans ag2 (step_dom heff r.fresh hin hs1))

end
end Go.Ev

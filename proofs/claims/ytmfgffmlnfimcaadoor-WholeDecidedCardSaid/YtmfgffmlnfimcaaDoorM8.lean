/- The least of what comes of the ways of one decision: plain Lean. -/
import Derived.Test.YtmfgffmlnfimcaaDoorM7
import Derived.Test.YtmfgffmlnfimcaaDoorMi
namespace Go.Proofs.YtmfgffmlnfimcaaDoor

/-- The least as the program keeps it. -/
def leastOf (l s : Int) : Int := if l < 0 ∨ s < l then s else l
/-- What the least says of the ways that were gone: those below b that T takes. -/
def Led (T : Nat → Prop) (P : Nat → Int → Prop) (C : Int) (b : Nat) (l : Int) : Prop := (l = -1 ∧ ∀ i, i < b → ¬ T i) ∨ (C ≤ l ∧ 0 ≤ l ∧ ∀ i, i < b → T i → ∃ x, P i x ∧ l ≤ x)
theorem Led.start (T : Nat → Prop) (P : Nat → Int → Prop) (C : Int) : Led T P C 0 (-1) := .inl ⟨rfl, fun i hi => by omega⟩
theorem Led.take {T : Nat → Prop} {P : Nat → Int → Prop} {C : Int} {b : Nat} {l : Int} (h : Led T P C b l) {x : Int} (hx : P b x) (hC : C ≤ x) (h0 : 0 ≤ x) : Led T P C (b + 1) (leastOf l x) := by
  unfold leastOf
  rcases h with ⟨rfl, h⟩ | ⟨h1, h2, h3⟩
  · rw [if_pos (.inl (by decide))]
    refine .inr ⟨hC, h0, fun i hi ht => ?_⟩
    by_cases e : i = b
    · subst e; exact ⟨x, hx, Int.le_refl _⟩
    · exact absurd ht (h i (by omega))
  · refine .inr ?_
    by_cases c : l < 0 ∨ x < l
    · rw [if_pos c]
      refine ⟨hC, h0, fun i hi ht => ?_⟩
      by_cases e : i = b
      · subst e; exact ⟨x, hx, Int.le_refl _⟩
      · obtain ⟨y, hy, hl⟩ := h3 i (by omega) ht
        exact ⟨y, hy, by omega⟩
    · rw [if_neg c]
      refine ⟨h1, h2, fun i hi ht => ?_⟩
      by_cases e : i = b
      · subst e; exact ⟨x, hx, by omega⟩
      · exact h3 i (by omega) ht
theorem Led.skip {T : Nat → Prop} {P : Nat → Int → Prop} {C : Int} {b : Nat} {l : Int} (h : Led T P C b l) (hT : ¬ T b) : Led T P C (b + 1) l := by
  have hb : ∀ i, i < b + 1 → T i → i < b := fun i hi ht => by
    by_cases e : i = b
    · subst e; exact absurd ht hT
    · omega
  rcases h with ⟨rfl, h⟩ | ⟨h1, h2, h3⟩
  · exact .inl ⟨rfl, fun i hi ht => h i (hb i hi ht) ht⟩
  · exact .inr ⟨h1, h2, fun i hi ht => h3 i (hb i hi ht) ht⟩
theorem Led.done {T : Nat → Prop} {P : Nat → Int → Prop} {C : Int} {n : Nat} {l : Int} (h : Led T P C n l) {i : Nat} (hi : i < n) (hT : T i) (hP : ∀ x, P i x → x ≤ C) : l = C := by
  rcases h with ⟨rfl, h⟩ | ⟨h1, h2, h3⟩
  · exact absurd hT (h i hi)
  · obtain ⟨x, hx, hl⟩ := h3 i hi hT
    have := hP x hx
    omega

/-! Numbered otherwise: number k last. -/
def rn1 (k m j : Nat) : Nat := if j < m then sk k j else k
theorem rn1_inj {k m : Nat} (hk : k ≤ m) : Inj (m + 1) (rn1 k m) := by
  refine ⟨fun j hj => ?_, fun i j hi hj e => ?_⟩
  · unfold rn1 sk; split
    · split <;> omega
    · omega
  · unfold rn1 sk at e
    (repeat' split at e) <;> omega
theorem rn1_lt (k m : Nat) {j : Nat} (h : j < m) : rn1 k m j = sk k j := by unfold rn1; rw [if_pos h]
theorem rn1_at (k m : Nat) : rn1 k m m = k := by unfold rn1; rw [if_neg (Nat.lt_irrefl m)]

/-! Items. -/
section
variable {ws vs : Nat → Int} {m k : Nat} {cap C D : Int}
theorem decK_perm (h : Best1 ws vs (m + 1) cap C) (hk : k ≤ m) : Best1 (fun j => ws (rn1 k m j)) (fun j => vs (rn1 k m j)) (m + 1) cap C := h.perm (rn1_inj hk)
theorem decK_sub (k : Nat) (h : Best1 (fun j => ws (sk k j)) (fun j => vs (sk k j)) m cap D) : Best1 (fun j => ws (rn1 k m j)) (fun j => vs (rn1 k m j)) m cap D :=
  h.congr (fun j hj => by rw [rn1_lt k m hj]) (fun j hj => by rw [rn1_lt k m hj])
theorem decK_le (h : Best1 ws vs (m + 1) cap C) (hk : k ≤ m) (h1 : Best1 (fun j => ws (sk k j)) (fun j => vs (sk k j)) m cap D) : C ≤ D + vs k := by
  have := dec1 (decK_perm h hk) (decK_sub k h1)
  rwa [rn1_at] at this
theorem decK_le' (h : Best1 ws vs (m + 1) cap C) (hk : k ≤ m) (h1 : Best1 (fun j => ws (sk k j)) (fun j => vs (sk k j)) m (cap - ws k) D) : C ≤ D := by
  refine dec1' (decK_perm h hk) ?_
  rw [rn1_at]
  exact decK_sub k h1
theorem decK_ex (h : Best1 ws vs (m + 1) cap C) (hk : k ≤ m) (hw : ∀ j, j < m + 1 → 0 ≤ ws j) :
    (∀ D, Best1 (fun j => ws (sk k j)) (fun j => vs (sk k j)) m cap D → D + vs k ≤ C) ∨ (ws k ≤ cap ∧ ∀ D, Best1 (fun j => ws (sk k j)) (fun j => vs (sk k j)) m (cap - ws k) D → D ≤ C) := by
  have := dec1_ex (decK_perm h hk) (fun j hj => hw _ ((rn1_inj hk).1 j (by omega)))
  rw [rn1_at] at this
  rcases this with h | ⟨h1, h2⟩
  · exact .inl fun D hD => h D (decK_sub k hD)
  · exact .inr ⟨h1, fun D hD => h2 D (decK_sub k hD)⟩
/-- Both ways. -/
theorem decK_two {D1 D2 : Int} (h : Best1 ws vs (m + 1) cap C) (hk : k ≤ m) (hw : ∀ j, j < m + 1 → 0 ≤ ws j) (h1 : Best1 (fun j => ws (sk k j)) (fun j => vs (sk k j)) m cap D1) (h2 : Best1 (fun j => ws (sk k j)) (fun j => vs (sk k j)) m (cap - ws k) D2) (hD1 : 0 ≤ D1) (hv : 0 ≤ vs k) :
    C = leastOf (leastOf (-1) (D1 + vs k)) (D2 + 0) := by
  have a := decK_le h hk h1
  have b := decK_le' h hk h2
  have c := decK_ex h hk hw
  have e : leastOf (-1) (D1 + vs k) = D1 + vs k := by unfold leastOf; rw [if_pos (.inl (by decide))]
  rw [e]
  unfold leastOf
  rcases c with c | ⟨-, c⟩
  · have := c D1 h1
    split <;> omega
  · have := c D2 h2
    split <;> omega
theorem decK_one {D1 : Int} (h : Best1 ws vs (m + 1) cap C) (hk : k ≤ m) (hw : ∀ j, j < m + 1 → 0 ≤ ws j) (h1 : Best1 (fun j => ws (sk k j)) (fun j => vs (sk k j)) m cap D1) (hn : ¬ ws k ≤ cap) : C = leastOf (-1) (D1 + vs k) := by
  have a := decK_le h hk h1
  have c := decK_ex h hk hw
  unfold leastOf
  rw [if_pos (.inl (by decide))]
  rcases c with c | ⟨c, -⟩
  · have := c D1 h1
    omega
  · omega
end

/-! A row and a column. -/
section
variable {A : Nat → Nat → Int} {m k : Nat} {C D : Int}
theorem decA_sub (k b : Nat) (h : Best2 (fun a c => A (sk k a) (sk b c)) m D) : Best2 (fun a c => A (rn1 k m a) (rn1 b m c)) m D :=
  h.congr fun a c ha hc => by rw [rn1_lt k m ha, rn1_lt b m hc]
theorem decA_le {b : Nat} (h : Best2 A (m + 1) C) (hk : k ≤ m) (hb : b ≤ m) (h1 : Best2 (fun a c => A (sk k a) (sk b c)) m D) : C ≤ D + A k b := by
  have := dec2 (h.perm (rn1_inj hk) (rn1_inj hb)) (decA_sub k b h1)
  rwa [rn1_at, rn1_at] at this
theorem decA_ex (h : Best2 A (m + 1) C) (hk : k ≤ m) : ∃ b, b < m + 1 ∧ ∀ D, Best2 (fun a c => A (sk k a) (sk b c)) m D → D + A k b ≤ C := by
  obtain ⟨⟨z, h1, h2⟩, -⟩ := h
  have hb := h1.1 k (by omega)
  refine ⟨z k, hb, fun D hD => ?_⟩
  obtain ⟨gp, hgp, e1, e2⟩ := (rn1_inj hk).back
  obtain ⟨gq, hgq, f1, f2⟩ := (rn1_inj (show z k ≤ m by omega)).back
  have hy : Inj (m + 1) fun j => gq (z (rn1 k m j)) := hgq.comp (h1.comp (rn1_inj hk))
  have hm : gq (z (rn1 k m m)) = m := by
    rw [rn1_at]
    have := f1 m (by omega)
    rwa [rn1_at] at this
  have h3 := dec2_ex (A := fun a c => A (rn1 k m a) (rn1 (z k) m c)) hy hm (decA_sub k (z k) hD)
  rw [ac_perm A (rn1_inj hk) (z := z) fun j hj => (f2 _ (h1.1 _ ((rn1_inj hk).1 j hj))).symm, h2, rn1_at, rn1_at] at h3
  exact h3
end

/-! Two cities. -/
/-- The numbers below c but two. -/
def oth (k b c : Nat) : List Nat := (List.range c).filter fun j => (j != k && j != b)
theorem oth_take {k b c : Nat} (h : c ≠ k) (h2 : c ≠ b) : oth k b (c + 1) = oth k b c ++ [c] := by
  unfold oth; rw [List.range_succ, List.filter_append]; simp [h, h2]
theorem oth_skip {k b c : Nat} (h : c = k ∨ c = b) : oth k b (c + 1) = oth k b c := by
  unfold oth; rw [List.range_succ, List.filter_append]
  rcases h with h | h <;> simp [h]
theorem oth_len {k b : Nat} (hkb : k ≠ b) : ∀ c, (oth k b c).length + (if k < c then 1 else 0) + (if b < c then 1 else 0) = c
  | 0 => rfl
  | c + 1 => by
    have ih := oth_len hkb c
    by_cases h : c = k ∨ c = b
    · rw [oth_skip h]
      rcases h with h | h
      · rw [if_neg (by omega)] at ih
        rw [if_pos (show k < c + 1 by omega)]
        by_cases e : b < c
        · rw [if_pos e] at ih; rw [if_pos (by omega)]; omega
        · rw [if_neg e] at ih; rw [if_neg (by omega)]; omega
      · rw [if_neg (show ¬ b < c by omega)] at ih
        rw [if_pos (show b < c + 1 by omega)]
        by_cases e : k < c
        · rw [if_pos e] at ih; rw [if_pos (by omega)]; omega
        · rw [if_neg e] at ih; rw [if_neg (by omega)]; omega
    · rw [oth_take (by omega) (by omega), List.length_append, List.length_singleton]
      by_cases e : k < c <;> by_cases e2 : b < c
      · rw [if_pos e, if_pos e2] at ih; rw [if_pos (by omega), if_pos (by omega)]; omega
      · rw [if_pos e, if_neg e2] at ih; rw [if_pos (by omega), if_neg (by omega)]; omega
      · rw [if_neg e, if_pos e2] at ih; rw [if_neg (by omega), if_pos (by omega)]; omega
      · rw [if_neg e, if_neg e2] at ih; rw [if_neg (by omega), if_neg (by omega)]; omega
theorem oth_len2 {k b p : Nat} (hkb : k ≠ b) (hk : k < p + 3) (hb : b < p + 3) : (oth k b (p + 3)).length = p + 1 := by
  have := oth_len hkb (p + 3)
  rw [if_pos hk, if_pos hb] at this
  omega
theorem oth_mem {k b c j : Nat} (h : j ∈ oth k b c) : j < c ∧ j ≠ k ∧ j ≠ b := by
  unfold oth at h
  simpa using h
theorem oth_nodup (k b c : Nat) : (oth k b c).Nodup := List.nodup_range.filter _
theorem getD_mem {l : List Nat} {j : Nat} (h : j < l.length) : l.getD j 0 ∈ l := by
  rw [List.getD_eq_getElem?_getD, List.getElem?_eq_getElem h]
  exact List.getElem_mem _
theorem nodup_get {l : List Nat} (hnd : l.Nodup) {j k : Nat} (hj : j < l.length) (hk : k < l.length) (e : l.getD j 0 = l.getD k 0) : j = k := by
  have e2 : l[j]'hj = l[k]'hk := by simpa [List.getD_eq_getElem?_getD, hj, hk] using e
  have hp := List.pairwise_iff_getElem.1 hnd
  rcases Nat.lt_trichotomy j k with h1 | h1 | h1
  · exact absurd e2 (hp j k hj hk h1)
  · exact h1
  · exact absurd e2.symm (hp k j hk hj h1)
def rn3 (k b p j : Nat) : Nat := if j ≤ p then (oth k b (p + 3)).getD j 0 else if j = p + 1 then k else b
theorem rn3_lt (k b p : Nat) {j : Nat} (h : j ≤ p) : rn3 k b p j = (oth k b (p + 3)).getD j 0 := by unfold rn3; rw [if_pos h]
theorem rn3_k (k b p : Nat) : rn3 k b p (p + 1) = k := by unfold rn3; rw [if_neg (by omega), if_pos rfl]
theorem rn3_b (k b p : Nat) : rn3 k b p (p + 2) = b := by unfold rn3; rw [if_neg (by omega), if_neg (by omega)]
theorem rn3_inj {k b p : Nat} (hkb : k ≠ b) (hk : k < p + 3) (hb : b < p + 3) : Inj (p + 3) (rn3 k b p) := by
  have hl := oth_len2 hkb hk hb
  have hm : ∀ j, j ≤ p → (oth k b (p + 3)).getD j 0 < p + 3 ∧ (oth k b (p + 3)).getD j 0 ≠ k ∧ (oth k b (p + 3)).getD j 0 ≠ b := fun j hj => oth_mem (getD_mem (by omega))
  refine ⟨fun j hj => ?_, fun i j hi hj e => ?_⟩
  · unfold rn3; split
    · exact (hm j (by assumption)).1
    · split <;> omega
  · unfold rn3 at e
    by_cases ci : i ≤ p <;> by_cases cj : j ≤ p
    · rw [if_pos ci, if_pos cj] at e
      exact nodup_get (oth_nodup k b (p + 3)) (by omega) (by omega) e
    · rw [if_pos ci, if_neg cj] at e
      have := hm i ci
      split at e <;> omega
    · rw [if_neg ci, if_pos cj] at e
      have := hm j cj
      split at e <;> omega
    · rw [if_neg ci, if_neg cj] at e
      split at e <;> split at e <;> omega
/-- What joined makes. -/
def jC (A : Nat → Nat → Int) (k b p a c : Nat) : Int :=
  if a = p + 1 then (if c = p + 1 then 0 else A b ((oth k b (p + 3)).getD c 0)) else if c = p + 1 then A ((oth k b (p + 3)).getD a 0) k else A ((oth k b (p + 3)).getD a 0) ((oth k b (p + 3)).getD c 0)
section
variable {A : Nat → Nat → Int} {p k : Nat} {C D : Int}
theorem decT_sub (k b : Nat) (h : Best3 (jC A k b p) (p + 2) D) : Best3 (joinC (fun a c => A (rn3 k b p a) (rn3 k b p c)) (p + 1)) (p + 2) D :=
  h.congr (by omega) fun a c ha hc => by
    unfold jC joinC
    dsimp only
    by_cases e : a = p + 1
    · rw [if_pos e, if_pos e]
      by_cases e2 : c = p + 1
      · rw [if_pos e2, if_pos e2]
      · rw [if_neg e2, if_neg e2, show p + 1 + 1 = p + 2 from rfl, rn3_b, rn3_lt k b p (by omega)]
    · rw [if_neg e, if_neg e, rn3_lt k b p (by omega)]
      by_cases e2 : c = p + 1
      · rw [if_pos e2, e2, rn3_k]
      · rw [if_neg e2, rn3_lt k b p (by omega)]
theorem decT_le {b : Nat} (h : Best3 A (p + 3) C) (hkb : k ≠ b) (hk : k < p + 3) (hb : b < p + 3) (h1 : Best3 (jC A k b p) (p + 2) D) : C ≤ D + A k b := by
  have := dec3 (h.perm (by omega) (rn3_inj hkb hk hb)) (decT_sub k b h1)
  rwa [rn3_k, rn3_b] at this
theorem decT_ex (h : Best3 A (p + 3) C) (hk : k < p + 3) : ∃ b, b < p + 3 ∧ k ≠ b ∧ ∀ D, Best3 (jC A k b p) (p + 2) D → D + A k b ≤ C := by
  obtain ⟨⟨z, h1, h2⟩, -⟩ := h
  obtain ⟨s, hs, es⟩ := h1.onto k hk
  have hs1 := Nat.mod_lt (s + 1) (show 0 < p + 3 by omega)
  have hb := h1.1 _ hs1
  have hkb : k ≠ z ((s + 1) % (p + 3)) := fun e => by
    rw [← es] at e
    exact next_ne (by omega) h1 hs e
  obtain ⟨b, hbe⟩ : ∃ b, z ((s + 1) % (p + 3)) = b := ⟨_, rfl⟩
  rw [hbe] at hb hkb
  refine ⟨b, hb, hkb, fun D hD => ?_⟩
  obtain ⟨g, hg, e1, e2⟩ := (rn3_inj hkb hk hb).back
  have hz : Inj (p + 3) fun j => z ((j + (s + 2)) % (p + 3)) := h1.comp (Inj.shift (p + 3) (s + 2) (by omega))
  have hy : Inj (p + 3) fun j => g (z ((j + (s + 2)) % (p + 3))) := hg.comp hz
  have hm1 : g (z ((p + 1 + (s + 2)) % (p + 3))) = p + 1 := by
    rw [show p + 1 + (s + 2) = s + (p + 3) by omega, Nat.add_mod_right, Nat.mod_eq_of_lt hs, es]
    have := e1 (p + 1) (by omega)
    rwa [rn3_k] at this
  have hm2 : g (z ((p + 2 + (s + 2)) % (p + 3))) = p + 2 := by
    rw [show p + 2 + (s + 2) = s + 1 + (p + 3) by omega, Nat.add_mod_right, hbe]
    have := e1 (p + 2) (by omega)
    rwa [rn3_b] at this
  have h3 := dec3_ex (A := fun a c => A (rn3 k b p a) (rn3 k b p c)) hy hm1 hm2 (decT_sub k b hD)
  have h4 : tc (fun a c => A (rn3 k b p a) (rn3 k b p c)) (p + 3) (fun j => g (z ((j + (s + 2)) % (p + 3)))) = tc A (p + 3) fun j => z ((j + (s + 2)) % (p + 3)) := sumTo_congr fun j hj => by
    dsimp only
    rw [e2 _ (hz.1 j hj), e2 _ (hz.1 _ (Nat.mod_lt _ (by omega)))]
  rw [h4, tc_shift A (show 0 < p + 3 by omega) z (s + 2), h2, rn3_k, rn3_b] at h3
  exact h3
end
end Go.Proofs.YtmfgffmlnfimcaaDoor

/- What the table's best way round is to a problem: a best tour. -/
import Derived.Test.YtmfgffmlnfimcaaDoorM3
namespace Go.Proofs.YtmfgffmlnfimcaaDoor

theorem full_bit (n i : Nat) : (2 ^ n - 1).testBit i = decide (i < n) := Nat.testBit_two_pow_sub_one n i

theorem nodup_rev {l : List Nat} (h : l.Nodup) : l.reverse.Nodup := List.pairwise_reverse.2 (List.Pairwise.imp (fun h => Ne.symm h) h)

theorem nodup_inj {l : List Nat} (h : l.Nodup) {j k : Nat} (hj : j < l.length) (hk : k < l.length) (e : l[j] = l[k]) : j = k := by
  have hp := List.pairwise_iff_getElem.1 h
  rcases Nat.lt_trichotomy j k with h1 | h1 | h1
  · exact absurd e (hp j k hj hk h1)
  · exact h1
  · exact absurd e.symm (hp k j hk hj h1)

theorem count_nodup {l : List Nat} (h : l.Nodup) (a : Nat) : l.count a = if a ∈ l then 1 else 0 := by
  by_cases ha : a ∈ l
  · rw [if_pos ha]; exact List.Nodup.count h |>.trans (if_pos ha)
  · rw [if_neg ha]; exact List.count_eq_zero.2 ha

theorem nodup_range (n : Nat) : (List.range n).Nodup := List.nodup_range

/-- A way through all cities has them all. -/
theorem way_perm {n : Nat} {p : List Nat} (hnd : p.Nodup) (hg : grp p = 2 ^ n - 1) : p.length = n := by
  have hp : p.Perm (List.range n) := by
    rw [List.perm_iff_count]
    intro a
    rw [count_nodup hnd, count_nodup (nodup_range n)]
    have h1 : a ∈ p ↔ a ∈ List.range n := by
      rw [List.mem_range, ← grp_bit a p, hg, full_bit]
      simp
    by_cases ha : a ∈ p
    · rw [if_pos ha, if_pos (h1.1 ha)]
    · rw [if_neg ha, if_neg (fun h => ha (h1.2 h))]
  rw [hp.length_eq, List.length_range]

theorem tour_nodup {p : List Nat} (h : p.Nodup) : (tourOf p).Nodup := by
  unfold tourOf
  refine List.nodup_cons.2 ⟨by simp, ?_⟩
  refine List.Pairwise.map _ (fun a b hab => ?_) (nodup_rev h)
  intro e; exact hab (by omega)

theorem tour_inj {p : List Nat} (h : p.Nodup) {j k : Nat} (hj : j < p.length + 1) (hk : k < p.length + 1) (e : (tourOf p).getD j 0 = (tourOf p).getD k 0) : j = k := by
  have hn := tour_nodup h
  have hl := tourOf_length p
  rw [List.getD_eq_getElem?_getD, List.getD_eq_getElem?_getD, List.getElem?_eq_getElem (by omega), List.getElem?_eq_getElem (by omega)] at e
  simp only [Option.getD_some] at e
  exact nodup_inj hn _ _ e

theorem tour_le {n : Nat} {p : List Nat} (hx : ∀ x ∈ p, x < n) {j : Nat} : (tourOf p).getD j 0 ≤ n := by
  rw [List.getD_eq_getElem?_getD]
  rcases Nat.lt_or_ge j (tourOf p).length with h | h
  · rw [List.getElem?_eq_getElem h]
    simp only [Option.getD_some]
    have hm := List.getElem_mem h
    unfold tourOf at hm ⊢
    rcases List.mem_cons.1 hm with e | e
    · rw [e]; exact Nat.zero_le _
    · obtain ⟨x, h1, h2⟩ := List.mem_map.1 e
      have := hx x (List.mem_reverse.1 h1)
      omega
  · rw [List.getElem?_eq_none h]; exact Nat.zero_le _

/-- The whole round. -/
theorem round_sum (C : Nat → Nat → Int) {n : Nat} {p : List Nat} (hp : p.length = n) (l : Nat) (t : List Nat) (e : p = l :: t) :
    (sumTo (n + 1) fun k => C ((tourOf p).getD k 0) ((tourOf p).getD ((k + 1) % (n + 1)) 0)) = pcR C p + C (l + 1) 0 := by
  subst e
  have hn : t.length + 1 = n := hp
  rw [sumTo, pcR_sum, hp]
  rw [Nat.mod_self]
  have e1 : (tourOf (l :: t)).getD n 0 = l + 1 := by rw [← hn]; exact tourOf_last l t
  have e2 : (tourOf (l :: t)).getD 0 0 = 0 := rfl
  rw [e1, e2]
  congr 1
  refine sumTo_congr fun k hk => ?_
  rw [Nat.mod_eq_of_lt (by omega)]

/-- Any tour is such a round. -/
theorem tour_back {n : Nat} {y : Nat → Nat} (hy : Inj (n + 1) y) (h0 : y 0 = 0) (hn : 1 ≤ n) :
    ∃ l t, (l :: t).Nodup ∧ (∀ x ∈ l :: t, x < n) ∧ (l :: t).length = n ∧ (∀ k, k < n + 1 → (tourOf (l :: t)).getD k 0 = y k) := by
  have hne : ∀ k, k < n → y (k + 1) ≠ 0 := fun k hk e => by have := hy.2 (k + 1) 0 (by omega) (by omega) (by rw [e, h0]); omega
  obtain ⟨q, hq⟩ : ∃ q, ((List.range n).map fun k => y (k + 1) - 1).reverse = q := ⟨_, rfl⟩
  have hql : q.length = n := by rw [← hq]; simp
  have hqn : q.Nodup := by
    rw [← hq]
    refine nodup_rev ?_
    show List.Pairwise _ _
    rw [List.pairwise_map]
    refine List.Pairwise.imp_of_mem ?_ (nodup_range n)
    intro a b ha hb hab e
    have h1 := hne a (List.mem_range.1 ha)
    have h2 := hne b (List.mem_range.1 hb)
    have := hy.2 (a + 1) (b + 1) (by have := List.mem_range.1 ha; omega) (by have := List.mem_range.1 hb; omega) (by omega)
    exact hab (by omega)
  have hqx : ∀ x ∈ q, x < n := by
    intro x hx
    rw [← hq] at hx
    obtain ⟨k, h1, h2⟩ := List.mem_map.1 (List.mem_reverse.1 hx)
    have hk := List.mem_range.1 h1
    have := hy.1 (k + 1) (by omega)
    have := hne k hk
    omega
  have hqt : ∀ k, k < n + 1 → (tourOf q).getD k 0 = y k := by
    intro k hk
    unfold tourOf
    rw [← hq, List.reverse_reverse]
    cases k with
    | zero => rw [h0]; rfl
    | succ k =>
      rw [List.getD_eq_getElem?_getD, List.getElem?_cons_succ]
      have := hne k (by omega)
      rw [List.getElem?_map, List.getElem?_map, List.getElem?_range (by omega)]
      simp only [Option.map_some, Option.getD_some]
      omega
  cases q with
  | nil => simp at hql; omega
  | cons l t => exact ⟨l, t, hqn, hqx, hql, hqt⟩

/-- The best round by the table is no dearer than any tour. -/
theorem Tab.best {C : Nat → Nat → Int} {n : Nat} {cost : Nat → Nat → Int} {back : Nat → Nat → Nat} (h : Tab C n cost back (2 ^ n)) (hn : 1 ≤ n) {last : Nat} (hl : last < n)
    (hmin : ∀ c, c < n → cost (2 ^ n - 1) last + C (last + 1) 0 ≤ cost (2 ^ n - 1) c + C (c + 1) 0) :
    ∃ t, wayB back (2 ^ n - 1) (2 ^ n - 1) last = last :: t ∧ (last :: t).Nodup ∧ (∀ x ∈ last :: t, x < n) ∧ (last :: t).length = n ∧
      ∀ y : Nat → Nat, Inj (n + 1) y → y 0 = 0 →
        (sumTo (n + 1) fun k => C ((tourOf (last :: t)).getD k 0) ((tourOf (last :: t)).getD ((k + 1) % (n + 1)) 0)) ≤ sumTo (n + 1) fun k => C (y k) (y ((k + 1) % (n + 1))) := by
  have hpos : 0 < 2 ^ n := Nat.pow_pos (by decide)
  have h2 : 2 ≤ 2 ^ n := by
    have : 2 ^ 1 ≤ 2 ^ n := Nat.pow_le_pow_right (by decide) hn
    omega
  have hfb : (2 ^ n - 1).testBit last = true := by rw [full_bit]; simpa using hl
  obtain ⟨t, w1, w2, w3, w4, w5⟩ := h.way (2 ^ n - 1) (2 ^ n - 1) last (Nat.le_refl _) (by omega) hl hfb
  have hlen := way_perm w2 w4
  refine ⟨t, w1, w2, w3, hlen, fun y hy h0 => ?_⟩
  obtain ⟨l, s, q1, q2, q3, q4⟩ := tour_back hy h0 hn
  have hg : grp (l :: s) = 2 ^ n - 1 := by
    apply Nat.eq_of_testBit_eq
    intro i
    rw [full_bit]
    by_cases hi : i < n
    · rw [decide_eq_true hi]
      refine (grp_bit i _).2 ?_
      -- every city is on the tour
      have hI : Inj n (fun j => (l :: s).getD j 0) := by
        refine ⟨fun j hj => ?_, fun j k hj hk e => ?_⟩
        · show (l :: s).getD j 0 < n
          rw [List.getD_eq_getElem?_getD, List.getElem?_eq_getElem (by omega)]
          exact q2 _ (List.getElem_mem _)
        · replace e : (l :: s).getD j 0 = (l :: s).getD k 0 := e
          rw [List.getD_eq_getElem?_getD, List.getD_eq_getElem?_getD, List.getElem?_eq_getElem (by omega), List.getElem?_eq_getElem (by omega)] at e
          simp only [Option.getD_some] at e
          exact nodup_inj q1 _ _ e
      obtain ⟨j, hj, e⟩ := hI.onto i hi
      replace e : (l :: s).getD j 0 = i := e
      rw [List.getD_eq_getElem?_getD, List.getElem?_eq_getElem (by omega)] at e
      simp only [Option.getD_some] at e
      rw [← e]
      exact List.getElem_mem _
    · rw [decide_eq_false hi]
      rcases hq : (grp (l :: s)).testBit i with _ | _
      · rfl
      · exact absurd (q2 i ((grp_bit i _).1 hq)) hi
  have hle := h.le s l q1 q2
  rw [hg] at hle
  have hm := hmin l (q2 l (List.mem_cons_self ..))
  rw [round_sum C hlen last t rfl, w5]
  rw [sumTo_congr (f := fun k => C (y k) (y ((k + 1) % (n + 1)))) (g := fun k => C ((tourOf (l :: s)).getD k 0) ((tourOf (l :: s)).getD ((k + 1) % (n + 1)) 0)) (fun k hk => by rw [q4 k hk, q4 _ (Nat.mod_lt _ (by omega))])]
  rw [round_sum C q3 l s rfl]
  omega

end Go.Proofs.YtmfgffmlnfimcaaDoor

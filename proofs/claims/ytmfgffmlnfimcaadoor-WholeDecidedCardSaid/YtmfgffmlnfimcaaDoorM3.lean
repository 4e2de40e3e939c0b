/- The shortest tour by groups of cities: the table, and the way back through it, in plain Lean. -/
import Derived.Test.YtmfgffmlnfimcaaDoorM1
namespace Go.Proofs.YtmfgffmlnfimcaaDoor

/-- A group without one that is in it. -/
def clr (g l : Nat) : Nat := g ^^^ 2 ^ l

theorem clr_bit (g l i : Nat) (h : g.testBit l = true) : (clr g l).testBit i = (g.testBit i && !decide (i = l)) := by
  unfold clr
  rw [Nat.testBit_xor, Nat.testBit_two_pow]
  by_cases e : i = l
  · subst e; simp [h]
  · have : ¬ l = i := fun h => e h.symm
    simp [e, this]

theorem clr_lt {g l : Nat} (h : g.testBit l = true) : clr g l < g := by
  have e : g &&& clr g l = clr g l := by
    apply Nat.eq_of_testBit_eq
    intro i
    rw [Nat.testBit_and, clr_bit g l i h]
    cases g.testBit i <;> simp
  have h1 : clr g l ≤ g := by rw [← e]; exact Nat.and_le_left
  have h2 : clr g l ≠ g := by
    intro e2
    have := clr_bit g l l h
    rw [e2, h] at this
    simp at this
  omega

theorem bit_lt {g n l : Nat} (hg : g < 2 ^ n) (h : g.testBit l = true) : l < n := by
  rcases Nat.lt_or_ge l n with h1 | h1
  · exact h1
  · have := Nat.testBit_lt_two_pow (Nat.lt_of_lt_of_le hg (Nat.pow_le_pow_right (by decide) h1))
    rw [this] at h; cases h

theorem some_bit {g n : Nat} (hg : g < 2 ^ n) (hne : g ≠ 0) : ∃ a, a < n ∧ g.testBit a = true := by
  refine Classical.byContradiction fun hno => hne ?_
  apply Nat.eq_of_testBit_eq
  intro i
  rw [Nat.zero_testBit]
  rcases hb : g.testBit i with _ | _
  · rfl
  · exact absurd ⟨i, bit_lt hg hb, hb⟩ hno

theorem clr_self {g l : Nat} (_ : g.testBit l = true) : clr g l = 0 ↔ g = 2 ^ l := by
  unfold clr
  constructor
  · intro e
    have : g ^^^ 2 ^ l ^^^ 2 ^ l = 0 ^^^ 2 ^ l := by rw [e]
    rwa [Nat.xor_assoc, Nat.xor_self, Nat.xor_zero, Nat.zero_xor] at this
  · intro e; rw [e, Nat.xor_self]

/-- What the table holds at a group and a last city is right, what it holds at smaller groups being given. -/
def BE (C : Nat → Nat → Int) (n : Nat) (cost : Nat → Nat → Int) (g l : Nat) (v : Int) (b : Nat) : Prop :=
  (g.testBit l = false → v = 1152921504606846976) ∧
  (g.testBit l = true → clr g l = 0 → v = C 0 (l + 1)) ∧
  (g.testBit l = true → clr g l ≠ 0 → (∃ a, a < n ∧ (clr g l).testBit a = true ∧ v = cost (clr g l) a + C (a + 1) (l + 1) ∧ b = a) ∧ ∀ a, a < n → (clr g l).testBit a = true → v ≤ cost (clr g l) a + C (a + 1) (l + 1))

/-- The table is right for all groups below G. -/
def Tab (C : Nat → Nat → Int) (n : Nat) (cost : Nat → Nat → Int) (back : Nat → Nat → Nat) (G : Nat) : Prop :=
  ∀ g, 1 ≤ g → g < G → ∀ l, l < n → BE C n cost g l (cost g l) (back g l)

theorem BE.congr {C : Nat → Nat → Int} {n : Nat} {cost cost' : Nat → Nat → Int} {g l : Nat} {v : Int} {b : Nat} (h : BE C n cost g l v b) (e : g.testBit l = true → ∀ a, cost' (clr g l) a = cost (clr g l) a) : BE C n cost' g l v b := by
  refine ⟨h.1, h.2.1, fun h1 h2 => ?_⟩
  obtain ⟨⟨a, h3, h4, h5, h6⟩, h7⟩ := h.2.2 h1 h2
  exact ⟨⟨a, h3, h4, by rw [e h1]; exact h5, h6⟩, fun a h8 h9 => by rw [e h1]; exact h7 a h8 h9⟩

theorem Tab.next {C : Nat → Nat → Int} {n : Nat} {cost : Nat → Nat → Int} {back : Nat → Nat → Nat} {G : Nat} (h : Tab C n cost back G) {cG : Nat → Int} {bG : Nat → Nat} (hG : ∀ l, l < n → BE C n cost G l (cG l) (bG l)) :
    Tab C n (upd cost G cG) (upd back G bG) (G + 1) := by
  intro g h1 h2 l hl
  by_cases e : g = G
  · subst e
    rw [upd_same, upd_same]
    exact (hG l hl).congr fun hb a => by rw [upd_other _ (by have := clr_lt hb; omega)]
  · rw [upd_other _ e, upd_other _ e]
    exact (h g h1 (by omega) l hl).congr fun hb a => by rw [upd_other _ (by have := clr_lt hb; omega)]

theorem Tab.bounds {C : Nat → Nat → Int} {n : Nat} {cost : Nat → Nat → Int} {back : Nat → Nat → Nat} {G : Nat} (hC : ∀ r c, r ≤ n → c ≤ n → 0 ≤ C r c ∧ C r c ≤ 2147483647) (h : Tab C n cost back G) (_ : G ≤ 2 ^ n) :
    ∀ g, 1 ≤ g → g < G → ∀ l, l < n → g.testBit l = true → 0 ≤ cost g l ∧ cost g l ≤ g * 2147483647 := by
  intro g
  induction g using Nat.strongRecOn with
  | _ g ih =>
    intro h1 h2 l hl hb
    have hbe := h g h1 h2 l hl
    by_cases e : clr g l = 0
    · rw [hbe.2.1 hb e]
      have := hC 0 (l + 1) (by omega) (by omega)
      have hg : (1 : Int) ≤ g := by omega
      have : (1 : Int) * 2147483647 ≤ g * 2147483647 := Int.mul_le_mul_of_nonneg_right hg (by decide)
      omega
    · obtain ⟨⟨a, h3, h4, h5, _⟩, _⟩ := hbe.2.2 hb e
      have hlt := clr_lt hb
      have := ih (clr g l) hlt (by omega) (by omega) a h3 h4
      have hc := hC (a + 1) (l + 1) (by omega) (by omega)
      rw [h5]
      have hg : ((clr g l : Nat) : Int) + 1 ≤ g := by omega
      have : (((clr g l : Nat) : Int) + 1) * 2147483647 ≤ g * 2147483647 := Int.mul_le_mul_of_nonneg_right hg (by decide)
      rw [Int.add_mul] at this
      omega

/-- A way from city 0, its last city first; what it costs; the group of its cities. -/
def pcR (C : Nat → Nat → Int) : List Nat → Int
  | [] => 0
  | [l] => C 0 (l + 1)
  | l :: a :: t => C (a + 1) (l + 1) + pcR C (a :: t)
def grp : List Nat → Nat
  | [] => 0
  | l :: t => 2 ^ l ||| grp t

theorem grp_cons (l : Nat) (t : List Nat) : grp (l :: t) = 2 ^ l ||| grp t := rfl

theorem grp_bit (i : Nat) : ∀ p, (grp p).testBit i = true ↔ i ∈ p
  | [] => by simp [grp]
  | l :: t => by
    rw [grp_cons, Nat.testBit_or, Nat.testBit_two_pow, Bool.or_eq_true, grp_bit i t, List.mem_cons]
    simp only [decide_eq_true_eq]
    constructor
    · rintro (h | h)
      · exact .inl h.symm
      · exact .inr h
    · rintro (h | h)
      · exact .inl h.symm
      · exact .inr h

theorem grp_clr {l : Nat} {t : List Nat} (h : l ∉ t) : clr (grp (l :: t)) l = grp t := by
  have hb : (grp (l :: t)).testBit l = true := (grp_bit l _).2 (List.mem_cons_self ..)
  apply Nat.eq_of_testBit_eq
  intro i
  rw [clr_bit _ _ _ hb, grp_cons, Nat.testBit_or, Nat.testBit_two_pow]
  by_cases e : i = l
  · subst e
    have : (grp t).testBit i = false := by
      rcases hq : (grp t).testBit i with _ | _
      · rfl
      · exact absurd ((grp_bit i t).1 hq) h
    simp [this]
  · have : ¬ l = i := fun h => e h.symm
    simp [e, this]

theorem grp_lt {n : Nat} : ∀ {p : List Nat}, (∀ x ∈ p, x < n) → grp p < 2 ^ n
  | [], _ => by unfold grp; exact Nat.pow_pos (by decide)
  | l :: t, h => by
    rw [grp_cons]
    exact Nat.or_lt_two_pow (Nat.pow_lt_pow_right (by decide) (h l (List.mem_cons_self ..))) (grp_lt fun x hx => h x (List.mem_cons_of_mem _ hx))

/-- No way costs less than the table says. -/
theorem Tab.le {C : Nat → Nat → Int} {n : Nat} {cost : Nat → Nat → Int} {back : Nat → Nat → Nat} (h : Tab C n cost back (2 ^ n)) :
    ∀ (p : List Nat) (l : Nat), (l :: p).Nodup → (∀ x ∈ l :: p, x < n) → cost (grp (l :: p)) l ≤ pcR C (l :: p)
  | [], l, _, hx => by
    have hb : (grp [l]).testBit l = true := (grp_bit l _).2 (List.mem_cons_self ..)
    have hlt := grp_lt hx
    have hl := hx l (List.mem_cons_self ..)
    have hg1 : 1 ≤ grp [l] := by
      rcases Nat.eq_zero_or_pos (grp [l]) with h0 | h0
      · rw [h0, Nat.zero_testBit] at hb; cases hb
      · exact h0
    rw [(h _ hg1 hlt l hl).2.1 hb (by rw [grp_clr (by simp)]; rfl)]
    exact Int.le_refl _
  | a :: t, l, hnd, hx => by
    have hb : (grp (l :: a :: t)).testBit l = true := (grp_bit l _).2 (List.mem_cons_self ..)
    have hlt := grp_lt hx
    have hl := hx l (List.mem_cons_self ..)
    have hnd' := List.nodup_cons.1 hnd
    have hg1 : 1 ≤ grp (l :: a :: t) := by
      rcases Nat.eq_zero_or_pos (grp (l :: a :: t)) with h0 | h0
      · rw [h0, Nat.zero_testBit] at hb; cases hb
      · exact h0
    have hc := grp_clr hnd'.1
    have hba : (grp (a :: t)).testBit a = true := (grp_bit a _).2 (List.mem_cons_self ..)
    have hne : clr (grp (l :: a :: t)) l ≠ 0 := by
      rw [hc]; intro h0; rw [h0, Nat.zero_testBit] at hba; cases hba
    have hbe := ((h _ hg1 hlt l hl).2.2 hb hne).2 a (hx a (by simp)) (by rw [hc]; exact hba)
    rw [hc] at hbe
    have ih := Tab.le h t a hnd'.2 (fun x hxx => hx x (List.mem_cons_of_mem _ hxx))
    unfold pcR
    omega

/-- The way back through the table. -/
def wayB (back : Nat → Nat → Nat) : Nat → Nat → Nat → List Nat
  | 0, _, _ => []
  | k + 1, g, l => if g = 0 then [] else l :: wayB back k (clr g l) (back g l)

/-- The way back is a way through the group, and costs what the table says. -/
theorem Tab.way {C : Nat → Nat → Int} {n : Nat} {cost : Nat → Nat → Int} {back : Nat → Nat → Nat} (h : Tab C n cost back (2 ^ n)) :
    ∀ (k g l : Nat), g ≤ k → g < 2 ^ n → l < n → g.testBit l = true →
      ∃ t, wayB back k g l = l :: t ∧ (l :: t).Nodup ∧ (∀ x ∈ l :: t, x < n) ∧ grp (l :: t) = g ∧ pcR C (l :: t) = cost g l := by
  intro k
  induction k with
  | zero =>
    intro g l h1 _ _ h4
    have : g = 0 := by omega
    subst this
    rw [Nat.zero_testBit] at h4; cases h4
  | succ k ih =>
    intro g l h1 h2 h3 h4
    have hg0 : g ≠ 0 := fun e => by rw [e, Nat.zero_testBit] at h4; cases h4
    have hlt := clr_lt h4
    unfold wayB
    rw [if_neg hg0]
    have hbe := h g (by omega) h2 l h3
    by_cases e : clr g l = 0
    · have hw : wayB back k (clr g l) (back g l) = [] := by
        rw [e]
        cases k with
        | zero => rfl
        | succ k => unfold wayB; rw [if_pos rfl]
      refine ⟨[], by rw [hw], by simp, by simpa using h3, ?_, ?_⟩
      · rw [grp_cons]; show 2 ^ l ||| 0 = g; rw [Nat.or_zero]; exact ((clr_self h4).1 e).symm
      · rw [hbe.2.1 h4 e]; rfl
    · obtain ⟨⟨a, h5, h6, h7, h8⟩, _⟩ := hbe.2.2 h4 e
      obtain ⟨t, h9, h10, h11, h12, h13⟩ := ih (clr g l) a (by omega) (by omega) h5 h6
      have hla : l ∉ a :: t := by
        intro hm
        have := (grp_bit l (a :: t)).2 hm
        rw [h12, clr_bit g l l h4] at this
        simp at this
      refine ⟨a :: t, by rw [h8, h9], List.nodup_cons.2 ⟨hla, h10⟩, ?_, ?_, ?_⟩
      · intro x hx
        rcases List.mem_cons.1 hx with hx | hx
        · subst hx; exact h3
        · exact h11 x hx
      · apply Nat.eq_of_testBit_eq
        intro i
        rw [grp_cons, Nat.testBit_or, Nat.testBit_two_pow, h12, clr_bit g l i h4]
        by_cases e2 : i = l
        · subst e2; simp [h4]
        · have : ¬ l = i := fun h => e2 h.symm
          simp [e2, this]
      · unfold pcR; rw [h13, h7]; omega

/-- Once more round: the cities of a tour, from 0 on. -/
def tourOf (p : List Nat) : List Nat := 0 :: (p.reverse.map (· + 1))

theorem tourOf_length (p : List Nat) : (tourOf p).length = p.length + 1 := by simp [tourOf]

theorem tourOf_last (l : Nat) (t : List Nat) : (tourOf (l :: t)).getD (t.length + 1) 0 = l + 1 := by
  simp [tourOf, List.getD_eq_getElem?_getD]

theorem tourOf_old (l : Nat) (t : List Nat) {j : Nat} (hj : j < t.length + 1) : (tourOf (l :: t)).getD j 0 = (tourOf t).getD j 0 := by
  unfold tourOf
  cases j with
  | zero => rfl
  | succ j =>
    simp only [List.getD_eq_getElem?_getD, List.getElem?_cons_succ]
    rw [List.reverse_cons, List.map_append, List.getElem?_append_left (by simpa using by omega)]

theorem pcR_sum (C : Nat → Nat → Int) : ∀ p : List Nat, pcR C p = sumTo p.length fun k => C ((tourOf p).getD k 0) ((tourOf p).getD (k + 1) 0)
  | [] => rfl
  | [l] => by simp [pcR, sumTo, tourOf]
  | l :: a :: t => by
    unfold pcR
    rw [List.length_cons, sumTo, pcR_sum C (a :: t)]
    rw [show (a :: t).length = t.length + 1 from rfl]
    have e1 : (tourOf (l :: a :: t)).getD (t.length + 1) 0 = a + 1 := by
      rw [tourOf_old l (a :: t) (by simp), tourOf_last]
    have e2 : (tourOf (l :: a :: t)).getD (t.length + 1 + 1) 0 = l + 1 := tourOf_last l (a :: t)
    rw [e1, e2, Int.add_comm]
    congr 1
    refine sumTo_congr fun k hk => ?_
    rw [tourOf_old l (a :: t) (by rw [List.length_cons]; omega), tourOf_old l (a :: t) (by rw [List.length_cons]; omega)]

end Go.Proofs.YtmfgffmlnfimcaaDoor

/- Plain facts on sums over 0 .. n - 1 and on maps of 0 .. n - 1 onto itself: no program in sight. -/
namespace Go.Proofs.YtmfgffmlnfimcaaDoor

def sumTo : Nat → (Nat → Int) → Int
  | 0, _ => 0
  | n + 1, f => sumTo n f + f n

theorem sumTo_congr {n : Nat} {f g : Nat → Int} (h : ∀ j, j < n → f j = g j) : sumTo n f = sumTo n g := by
  induction n with
  | zero => rfl
  | succ n ih => simp only [sumTo]; rw [ih fun j hj => h j (by omega), h n (by omega)]

theorem sumTo_le {n : Nat} {f g : Nat → Int} (h : ∀ j, j < n → f j ≤ g j) : sumTo n f ≤ sumTo n g := by
  induction n with
  | zero => exact Int.le_refl _
  | succ n ih => simp only [sumTo]; have := ih fun j hj => h j (by omega); have := h n (by omega); omega

theorem sumTo_add (n : Nat) (f g : Nat → Int) : sumTo n (fun j => f j + g j) = sumTo n f + sumTo n g := by
  induction n with
  | zero => rfl
  | succ n ih => simp only [sumTo]; rw [ih]; omega

theorem sumTo_sub (n : Nat) (f g : Nat → Int) : sumTo n (fun j => f j - g j) = sumTo n f - sumTo n g := by
  induction n with
  | zero => rfl
  | succ n ih => simp only [sumTo]; rw [ih]; omega

theorem sumTo_zero (n : Nat) : sumTo n (fun _ => 0) = 0 := by
  induction n with
  | zero => rfl
  | succ n ih => simp only [sumTo]; rw [ih]; rfl

theorem sumTo_nonneg {n : Nat} {f : Nat → Int} (h : ∀ j, j < n → 0 ≤ f j) : 0 ≤ sumTo n f := by
  have := sumTo_le (f := fun _ => 0) (g := f) (n := n) h
  rwa [sumTo_zero] at this

theorem sumTo_bound {n : Nat} {f : Nat → Int} {b : Int} (h : ∀ j, j < n → f j ≤ b) : sumTo n f ≤ n * b := by
  induction n with
  | zero => simp [sumTo]
  | succ n ih =>
    simp only [sumTo]
    have h1 := ih fun j hj => h j (by omega)
    have h2 := h n (by omega)
    have : ((n + 1 : Nat) : Int) * b = n * b + b := by push_cast; rw [Int.add_mul]; omega
    omega

theorem sumTo_ge {n : Nat} {f : Nat → Int} (h : ∀ j, j < n → 0 ≤ f j) {k : Nat} (hk : k < n) : f k ≤ sumTo n f := by
  induction n with
  | zero => omega
  | succ n ih =>
    simp only [sumTo]
    by_cases e : k = n
    · subst e; have := sumTo_nonneg (n := k) (f := f) fun j hj => h j (by omega); omega
    · have := ih (fun j hj => h j (by omega)) (by omega); have := h n (by omega); omega

/-- Two sums that part at one place alone. -/
theorem sumTo_one {n : Nat} {f g : Nat → Int} {k : Nat} (hk : k < n) (h : ∀ j, j < n → j ≠ k → f j = g j) : sumTo n f = sumTo n g + (f k - g k) := by
  induction n with
  | zero => omega
  | succ n ih =>
    simp only [sumTo]
    by_cases e : k = n
    · subst e
      rw [sumTo_congr (n := k) (f := f) (g := g) fun j hj => h j (by omega) (by omega)]
      omega
    · rw [ih (by omega) fun j hj hne => h j (by omega) hne, h n (by omega) (by omega)]
      omega

/-- A sum of what is nought but at one place. -/
theorem sumTo_single {n : Nat} {f : Nat → Int} {k : Nat} (hk : k < n) (h : ∀ j, j < n → j ≠ k → f j = 0) : sumTo n f = f k := by
  have := sumTo_one (g := fun _ => 0) hk h
  rw [sumTo_zero] at this
  omega

/-- A map of 0 .. n - 1 to itself that takes no two to one. -/
def Inj (n : Nat) (f : Nat → Nat) : Prop := (∀ j, j < n → f j < n) ∧ ∀ j k, j < n → k < n → f j = f k → j = k

theorem Inj.congr {n : Nat} {f g : Nat → Nat} (h : Inj n f) (e : ∀ j, j < n → f j = g j) : Inj n g :=
  ⟨fun j hj => by rw [← e j hj]; exact h.1 j hj, fun j k hj hk hh => h.2 j k hj hk (by rw [e j hj, e k hk]; exact hh)⟩

/-- The last one taken out. -/
theorem Inj.less {n : Nat} {f : Nat → Nat} (h : Inj (n + 1) f) : Inj n (fun j => if f j = n then f n else f j) := by
  constructor
  · intro j hj
    have h1 := h.1 j (by omega)
    have h2 := h.1 n (by omega)
    show (if f j = n then f n else f j) < n
    split
    · rename_i e
      have : f n ≠ n := fun e2 => by have := h.2 j n (by omega) (by omega) (by omega); omega
      omega
    · omega
  · intro j k hj hk e
    have hj' := h.2 j n (by omega) (by omega)
    have hk' := h.2 k n (by omega) (by omega)
    have hjk := h.2 j k (by omega) (by omega)
    dsimp only at e
    split at e <;> split at e
    · exact hjk (by omega)
    · exact absurd (hk' e.symm) (by omega)
    · exact absurd (hj' e) (by omega)
    · exact hjk e

theorem Inj.onto : ∀ {n : Nat} {f : Nat → Nat}, Inj n f → ∀ i, i < n → ∃ j, j < n ∧ f j = i
  | 0, _, _, i, hi => by omega
  | n + 1, f, h, i, hi => by
    by_cases e : f n = i
    · exact ⟨n, by omega, e⟩
    · by_cases e2 : i = n
      · subst e2
        have hm : f i < i := by have := h.1 i (by omega); omega
        obtain ⟨j, hj, hj2⟩ := Inj.onto h.less (f i) hm
        split at hj2
        · rename_i e3
          exact ⟨j, by omega, e3⟩
        · exact absurd (h.2 j i (by omega) (by omega) hj2) (by omega)
      · obtain ⟨j, hj, hj2⟩ := Inj.onto h.less i (by omega)
        split at hj2
        · exact absurd hj2 e
        · exact ⟨j, by omega, hj2⟩

theorem sumTo_perm : ∀ {n : Nat} {f : Nat → Nat}, Inj n f → ∀ g : Nat → Int, sumTo n (fun j => g (f j)) = sumTo n g
  | 0, _, _, _ => rfl
  | n + 1, f, h, g => by
    have hl := sumTo_perm h.less g
    by_cases e : f n = n
    · simp only [sumTo]
      rw [e, ← hl]
      congr 1
      refine sumTo_congr fun j hj => ?_
      have : f j ≠ n := fun e2 => by have := h.2 j n (by omega) (by omega) (by omega); omega
      rw [if_neg this]
    · obtain ⟨k, hk, hk2⟩ := h.onto n (by omega)
      have hkn : k < n := by
        rcases Nat.lt_or_ge k n with h1 | h1
        · exact h1
        · have : k = n := by omega
          subst this; exact absurd hk2 e
      simp only [sumTo]
      rw [sumTo_one (g := fun j => g (if f j = n then f n else f j)) hkn, hl, hk2, if_pos rfl]
      · omega
      · intro j hj hne
        have : f j ≠ n := fun e2 => hne (h.2 j k (by omega) (by omega) (by omega))
        rw [if_neg this]

/-- The way back. -/
theorem Inj.back {n : Nat} {f : Nat → Nat} (h : Inj n f) : ∃ g, Inj n g ∧ (∀ j, j < n → g (f j) = j) ∧ ∀ j, j < n → f (g j) = j := by
  have hc : ∀ i, ∃ j, i < n → j < n ∧ f j = i := by
    intro i
    by_cases hi : i < n
    · obtain ⟨j, h1⟩ := h.onto i hi
      exact ⟨j, fun _ => h1⟩
    · exact ⟨0, fun h => absurd h hi⟩
  obtain ⟨g, hg⟩ := Classical.axiomOfChoice hc
  have h1 : ∀ j, j < n → g (f j) = j := fun j hj => by
    have := hg (f j) (h.1 j hj)
    exact h.2 _ _ this.1 hj this.2
  refine ⟨g, ⟨fun j hj => (hg j hj).1, fun j k hj hk e => ?_⟩, h1, fun j hj => (hg j hj).2⟩
  rw [← (hg j hj).2, ← (hg k hk).2, e]

theorem Inj.comp {n : Nat} {f g : Nat → Nat} (hf : Inj n f) (hg : Inj n g) : Inj n (fun j => f (g j)) :=
  ⟨fun j hj => hf.1 _ (hg.1 j hj), fun j k hj hk e => hg.2 j k hj hk (hf.2 _ _ (hg.1 j hj) (hg.1 k hk) e)⟩

theorem Inj.id (n : Nat) : Inj n (fun j => j) := ⟨fun _ h => h, fun _ _ _ _ h => h⟩

theorem Inj.shift (n s : Nat) (hn : 0 < n) : Inj n (fun j => (j + s) % n) := by
  refine ⟨fun j _ => Nat.mod_lt _ hn, fun j k hj hk e => ?_⟩
  have h1 := Nat.div_add_mod (j + s) n
  have h2 := Nat.div_add_mod (k + s) n
  dsimp only at e
  rcases Nat.lt_trichotomy ((j + s) / n) ((k + s) / n) with h | h | h
  · have : n * ((j + s) / n) + n ≤ n * ((k + s) / n) := by rw [← Nat.mul_succ]; exact Nat.mul_le_mul_left n h
    omega
  · rw [h] at h1; omega
  · have : n * ((k + s) / n) + n ≤ n * ((j + s) / n) := by rw [← Nat.mul_succ]; exact Nat.mul_le_mul_left n h
    omega

end Go.Proofs.YtmfgffmlnfimcaaDoor

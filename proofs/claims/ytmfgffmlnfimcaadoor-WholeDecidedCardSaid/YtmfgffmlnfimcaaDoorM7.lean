/- Best costs of problems side by side, and of what one decision leaves: plain Lean. -/
import Derived.Test.YtmfgffmlnfimcaaDoorM6
namespace Go.Proofs.YtmfgffmlnfimcaaDoor

theorem sumTo_split (n m : Nat) (f : Nat → Int) : sumTo (n + m) f = sumTo n f + sumTo m fun j => f (n + j) := by
  induction m with
  | zero => simp [sumTo]
  | succ m ih => rw [← Nat.add_assoc]; simp only [sumTo]; rw [ih]; omega

/-! Side by side. -/
theorem beside1 {ws vs ws1 vs1 ws2 vs2 : Nat → Int} {n m : Nat} {c1 c2 C D E : Int} (h1 : Best1 ws1 vs1 n c1 C) (h2 : Best1 ws2 vs2 m c2 D) (h : Best1 ws vs (n + m) (c1 + c2) E)
    (ew1 : ∀ j, j < n → ws j = ws1 j) (ev1 : ∀ j, j < n → vs j = vs1 j) (ew2 : ∀ j, j < m → ws (n + j) = ws2 j) (ev2 : ∀ j, j < m → vs (n + j) = vs2 j) : E ≤ C + D := by
  obtain ⟨⟨t, a1, a2⟩, -⟩ := h1
  obtain ⟨⟨u, b1, b2⟩, -⟩ := h2
  have hw : wS ws (n + m) (fun j => if j < n then t j else u (j - n)) = wS ws1 n t + wS ws2 m u := by
    unfold wS
    rw [sumTo_split, sumTo_congr (g := fun j => if t j then ws1 j else 0) fun j hj => by simp [hj, ew1 j hj], sumTo_congr (n := m) (g := fun j => if u j then ws2 j else 0) fun j hj => by (have h9 : ¬ n + j < n := by omega); simp [h9, ew2 j hj]]
  have hv : vS vs (n + m) (fun j => if j < n then t j else u (j - n)) = vS vs1 n t + vS vs2 m u := by
    unfold vS
    rw [sumTo_split, sumTo_congr (g := fun j => if t j then 0 else vs1 j) fun j hj => by simp [hj, ev1 j hj], sumTo_congr (n := m) (g := fun j => if u j then 0 else vs2 j) fun j hj => by (have h9 : ¬ n + j < n := by omega); simp [h9, ev2 j hj]]
  have := h.2 _ (by rw [hw]; omega)
  rw [hv] at this
  omega

/-- Two assignments in one. -/
def blockC (A B : Nat → Nat → Int) (n : Nat) (M : Int) (a b : Nat) : Int := if a < n ∧ b < n then A a b else if n ≤ a ∧ n ≤ b then B (a - n) (b - n) else M
theorem beside2 {A B : Nat → Nat → Int} {n m : Nat} {C D E M : Int} (h1 : Best2 A n C) (h2 : Best2 B m D) (h : Best2 (blockC A B n M) (n + m) E) (hM : 0 ≤ M) (hA : ∀ a b, a < n → b < n → 0 ≤ A a b) (hB : ∀ a b, a < m → b < m → 0 ≤ B a b) :
    E = C + D ∨ M ≤ C + D := by
  have hle : E ≤ C + D := by
    obtain ⟨⟨y, a1, a2⟩, -⟩ := h1
    obtain ⟨⟨z, b1, b2⟩, -⟩ := h2
    have hx : Inj (n + m) fun j => if j < n then y j else n + z (j - n) := by
      refine ⟨fun j hj => ?_, fun j k hj hk e => ?_⟩
      · dsimp only
        split
        · have := a1.1 j (by assumption); omega
        · have := b1.1 (j - n) (by omega); omega
      · dsimp only at e
        split at e <;> split at e
        · exact a1.2 j k (by assumption) (by assumption) e
        · have := a1.1 j (by assumption); omega
        · have := a1.1 k (by assumption); omega
        · have := b1.2 (j - n) (k - n) (by omega) (by omega) (by omega); omega
    have e : ac (blockC A B n M) (n + m) (fun j => if j < n then y j else n + z (j - n)) = ac A n y + ac B m z := by
      unfold ac
      rw [sumTo_split, sumTo_congr (g := fun j => A j (y j)) fun j hj => by dsimp only; rw [if_pos hj]; unfold blockC; rw [if_pos ⟨hj, a1.1 j hj⟩], sumTo_congr (n := m) (g := fun j => B j (z j)) fun j hj => by
        dsimp only; rw [if_neg (by omega : ¬ n + j < n), Nat.add_sub_cancel_left]; unfold blockC; rw [if_neg (by omega), if_pos (by omega), Nat.add_sub_cancel_left, Nat.add_sub_cancel_left]]
    have := h.2 _ hx
    rw [e] at this; omega
  obtain ⟨⟨y, hy, e⟩, -⟩ := h
  have hnn : ∀ j, j < n + m → 0 ≤ blockC A B n M j (y j) := fun j hj => by
    have := hy.1 j hj
    unfold blockC
    split
    · exact hA _ _ (by omega) (by omega)
    · split
      · exact hB _ _ (by omega) (by omega)
      · exact hM
  by_cases hoff : ∃ j, j < n + m ∧ ¬ (j < n ↔ y j < n)
  · obtain ⟨j, hj, hne⟩ := hoff
    have h3 := sumTo_ge (f := fun j => blockC A B n M j (y j)) hnn hj
    have h4 : blockC A B n M j (y j) = M := by
      unfold blockC
      rw [if_neg (by omega), if_neg (by omega)]
    rw [h4] at h3
    have : ac (blockC A B n M) (n + m) y = sumTo (n + m) fun j => blockC A B n M j (y j) := rfl
    right; omega
  · have hin : ∀ j, j < n + m → (j < n ↔ y j < n) := fun j hj => Classical.byContradiction fun h => hoff ⟨j, hj, h⟩
    have hy1 : Inj n y := ⟨fun j hj => (hin j (by omega)).1 hj, fun j k hj hk => hy.2 j k (by omega) (by omega)⟩
    have hy2 : Inj m fun j => y (n + j) - n := by
      refine ⟨fun j hj => ?_, fun j k hj hk e2 => ?_⟩
      · have := hy.1 (n + j) (by omega)
        have := hin (n + j) (by omega)
        dsimp only; omega
      · have h5 := hin (n + j) (by omega)
        have h6 := hin (n + k) (by omega)
        have := hy.2 (n + j) (n + k) (by omega) (by omega) (by dsimp only at e2; omega)
        omega
    have e3 : ac (blockC A B n M) (n + m) y = ac A n y + ac B m (fun j => y (n + j) - n) := by
      unfold ac
      rw [sumTo_split, sumTo_congr (g := fun j => A j (y j)) fun j hj => by unfold blockC; rw [if_pos ⟨hj, hy1.1 j hj⟩], sumTo_congr (n := m) (g := fun j => B j (y (n + j) - n)) fun j hj => by
        have := hin (n + j) (by omega)
        unfold blockC; rw [if_neg (by omega), if_pos (by omega), Nat.add_sub_cancel_left]]
    have := h1.2 _ hy1
    have := h2.2 _ hy2
    left; omega

/-! One decision. -/
theorem dec1 {ws vs : Nat → Int} {n : Nat} {cap C D : Int} (h : Best1 ws vs (n + 1) cap C) (h1 : Best1 ws vs n cap D) : C ≤ D + vs n := by
  obtain ⟨⟨t, a1, a2⟩, -⟩ := h1
  have hw : wS ws (n + 1) (fun j => if j < n then t j else false) = wS ws n t := by
    show wS ws n (fun j => if j < n then t j else false) + (if (if n < n then t n else false) = true then ws n else 0) = _
    rw [wS_congr (ws' := ws) (t' := t) (fun _ _ => rfl) fun j hj => if_pos hj, if_neg (Nat.lt_irrefl n)]; simp
  have hv : vS vs (n + 1) (fun j => if j < n then t j else false) = vS vs n t + vs n := by
    show vS vs n (fun j => if j < n then t j else false) + (if (if n < n then t n else false) = true then 0 else vs n) = _
    rw [vS_congr (vs' := vs) (t' := t) (fun _ _ => rfl) fun j hj => if_pos hj, if_neg (Nat.lt_irrefl n)]; simp
  have := h.2 _ (by rw [hw]; exact a1)
  rw [hv] at this; omega
theorem dec1' {ws vs : Nat → Int} {n : Nat} {cap C D : Int} (h : Best1 ws vs (n + 1) cap C) (h1 : Best1 ws vs n (cap - ws n) D) : C ≤ D := by
  obtain ⟨⟨t, a1, a2⟩, -⟩ := h1
  have hw : wS ws (n + 1) (fun j => if j < n then t j else true) = wS ws n t + ws n := by
    show wS ws n (fun j => if j < n then t j else true) + (if (if n < n then t n else true) = true then ws n else 0) = _
    rw [wS_congr (ws' := ws) (t' := t) (fun _ _ => rfl) fun j hj => if_pos hj, if_neg (Nat.lt_irrefl n)]; simp
  have hv : vS vs (n + 1) (fun j => if j < n then t j else true) = vS vs n t := by
    show vS vs n (fun j => if j < n then t j else true) + (if (if n < n then t n else true) = true then 0 else vs n) = _
    rw [vS_congr (vs' := vs) (t' := t) (fun _ _ => rfl) fun j hj => if_pos hj, if_neg (Nat.lt_irrefl n)]; simp
  have := h.2 _ (by rw [hw]; omega)
  rw [hv] at this; omega
theorem dec1_ex {ws vs : Nat → Int} {n : Nat} {cap C : Int} (h : Best1 ws vs (n + 1) cap C) (hw : ∀ j, j < n → 0 ≤ ws j) :
    (∀ D, Best1 ws vs n cap D → D + vs n ≤ C) ∨ (ws n ≤ cap ∧ ∀ D, Best1 ws vs n (cap - ws n) D → D ≤ C) := by
  obtain ⟨⟨t, a1, a2⟩, -⟩ := h
  have e1 : wS ws (n + 1) t = wS ws n t + if t n then ws n else 0 := rfl
  have e2 : vS vs (n + 1) t = vS vs n t + if t n then 0 else vs n := rfl
  rcases ht : t n with _ | _
  · left
    intro D hD
    rw [ht, if_neg (by simp)] at e1 e2
    have := hD.2 t (by omega); omega
  · right
    rw [ht, if_pos rfl] at e1 e2
    have h0 : 0 ≤ wS ws n t := sumTo_nonneg fun j hj => by
      split
      · exact hw j hj
      · exact Int.le_refl _
    exact ⟨by omega, fun D hD => by have := hD.2 t (by omega); omega⟩

theorem dec2 {A : Nat → Nat → Int} {n : Nat} {C D : Int} (h : Best2 A (n + 1) C) (h1 : Best2 A n D) : C ≤ D + A n n := by
  obtain ⟨⟨y, a1, a2⟩, -⟩ := h1
  have hx : Inj (n + 1) fun j => if j < n then y j else n := by
    refine ⟨fun j hj => ?_, fun j k hj hk e => ?_⟩
    · dsimp only
      split
      · have := a1.1 j (by assumption); omega
      · omega
    · dsimp only at e
      split at e <;> split at e
      · exact a1.2 j k (by assumption) (by assumption) e
      · have := a1.1 j (by assumption); omega
      · have := a1.1 k (by assumption); omega
      · omega
  have e : ac A (n + 1) (fun j => if j < n then y j else n) = ac A n y + A n n := by
    show ac A n (fun j => if j < n then y j else n) + A n (if n < n then y n else n) = _
    rw [if_neg (Nat.lt_irrefl n)]
    congr 1
    exact sumTo_congr fun j hj => by dsimp only; rw [if_pos hj]
  have := h.2 _ hx
  rw [e] at this; omega
theorem dec2_ex {A : Nat → Nat → Int} {n : Nat} {D : Int} {y : Nat → Nat} (hy : Inj (n + 1) y) (hn : y n = n) (h1 : Best2 A n D) : D + A n n ≤ ac A (n + 1) y := by
  have hy1 : Inj n y := ⟨fun j hj => by
    have := hy.1 j (by omega)
    have : y j ≠ n := fun e => by have := hy.2 j n (by omega) (by omega) (by omega); omega
    omega, fun j k hj hk => hy.2 j k (by omega) (by omega)⟩
  have := h1.2 y hy1
  have e : ac A (n + 1) y = ac A n y + A n (y n) := rfl
  rw [e, hn]; omega

/-- Two cities in one, the last one: from m to m + 1 one has gone. -/
def joinC (A : Nat → Nat → Int) (m : Nat) (a b : Nat) : Int := if a = m then (if b = m then 0 else A (m + 1) b) else A a b
theorem tc_join (A : Nat → Nat → Int) (p : Nat) {y z : Nat → Nat} (h : ∀ j, j ≤ p → z j = y j ∧ y j ≤ p) (h1 : y (p + 1) = p + 1) (h2 : y (p + 2) = p + 2) (h3 : z (p + 1) = p + 1) : tc A (p + 3) y = tc (joinC A (p + 1)) (p + 2) z + A (p + 1) (p + 2) := by
  have hz0 := (h 0 (by omega)).1
  have hy0 := (h 0 (by omega)).2
  have hpp := h p (Nat.le_refl p)
  have e1 : tc A (p + 3) y = sumTo p (fun j => A (y j) (y ((j + 1) % (p + 3)))) + A (y p) (y ((p + 1) % (p + 3))) + A (y (p + 1)) (y ((p + 1 + 1) % (p + 3))) + A (y (p + 2)) (y ((p + 2 + 1) % (p + 3))) := rfl
  have e2 : tc (joinC A (p + 1)) (p + 2) z = sumTo p (fun j => joinC A (p + 1) (z j) (z ((j + 1) % (p + 2)))) + joinC A (p + 1) (z p) (z ((p + 1) % (p + 2))) + joinC A (p + 1) (z (p + 1)) (z ((p + 1 + 1) % (p + 2))) := rfl
  rw [e1, e2, Nat.mod_eq_of_lt (show p + 1 < p + 3 by omega), Nat.mod_eq_of_lt (show p + 1 + 1 < p + 3 by omega), show p + 2 + 1 = p + 3 from rfl, Nat.mod_self, Nat.mod_eq_of_lt (show p + 1 < p + 2 by omega), show p + 1 + 1 = p + 2 from rfl, Nat.mod_self, h1, h2, h3, hz0, hpp.1]
  have f1 : joinC A (p + 1) (y p) (p + 1) = A (y p) (p + 1) := by unfold joinC; rw [if_neg (by omega)]
  have f2 : joinC A (p + 1) (p + 1) (y 0) = A (p + 2) (y 0) := by unfold joinC; rw [if_pos rfl, if_neg (by omega)]
  rw [f1, f2, sumTo_congr (n := p) (g := fun j => joinC A (p + 1) (z j) (z ((j + 1) % (p + 2)))) fun j hj => by
    have a := h j (by omega)
    have b := h (j + 1) (by omega)
    rw [Nat.mod_eq_of_lt (show j + 1 < p + 3 by omega), Nat.mod_eq_of_lt (show j + 1 < p + 2 by omega), a.1, b.1]
    unfold joinC
    rw [if_neg (by omega)]]
  omega
theorem dec3 {A : Nat → Nat → Int} {p : Nat} {C D : Int} (h : Best3 A (p + 3) C) (h1 : Best3 (joinC A (p + 1)) (p + 2) D) : C ≤ D + A (p + 1) (p + 2) := by
  obtain ⟨⟨y0, a1, a2⟩, -⟩ := h1
  obtain ⟨s, hs, e⟩ := a1.onto (p + 1) (by omega)
  have hz : Inj (p + 2) fun j => y0 ((j + (s + 1)) % (p + 2)) := a1.comp (Inj.shift (p + 2) (s + 1) (by omega))
  have hz1 : y0 ((p + 1 + (s + 1)) % (p + 2)) = p + 1 := by
    rw [show p + 1 + (s + 1) = s + (p + 2) by omega, Nat.add_mod_right, Nat.mod_eq_of_lt hs, e]
  have hzc := tc_shift (joinC A (p + 1)) (show 0 < p + 2 by omega) y0 (s + 1)
  obtain ⟨z, hzd⟩ : ∃ z, (fun j => y0 ((j + (s + 1)) % (p + 2))) = z := ⟨_, rfl⟩
  have hz2 : z (p + 1) = p + 1 := by rw [← hzd]; exact hz1
  rw [hzd] at hz hzc
  have hlt : ∀ j, j ≤ p → z j ≤ p := fun j hj => by
    have := hz.1 j (by omega)
    have : z j ≠ p + 1 := fun e => by have := hz.2 j (p + 1) (by omega) (by omega) (by omega); omega
    omega
  have hx : Inj (p + 3) fun j => if j < p + 2 then z j else p + 2 := by
    refine ⟨fun j hj => ?_, fun j k hj hk e => ?_⟩
    · dsimp only
      split
      · have := hz.1 j (by assumption); omega
      · omega
    · dsimp only at e
      split at e <;> split at e
      · exact hz.2 j k (by assumption) (by assumption) e
      · have := hz.1 j (by assumption); omega
      · have := hz.1 k (by assumption); omega
      · omega
  have := h.2 _ hx
  rw [tc_join A p (z := z) (fun j hj => by rw [if_pos (by omega)]; exact ⟨rfl, hlt j hj⟩) (by rw [if_pos (by omega)]; exact hz2) (by rw [if_neg (by omega)]) hz2] at this
  omega
theorem dec3_ex {A : Nat → Nat → Int} {p : Nat} {D : Int} {y : Nat → Nat} (hy : Inj (p + 3) y) (e1 : y (p + 1) = p + 1) (e2 : y (p + 2) = p + 2) (h1 : Best3 (joinC A (p + 1)) (p + 2) D) : D + A (p + 1) (p + 2) ≤ tc A (p + 3) y := by
  have hlt : ∀ j, j ≤ p → y j ≤ p := fun j hj => by
    have := hy.1 j (by omega)
    have : y j ≠ p + 1 := fun e => by have := hy.2 j (p + 1) (by omega) (by omega) (by omega); omega
    have : y j ≠ p + 2 := fun e => by have := hy.2 j (p + 2) (by omega) (by omega) (by omega); omega
    omega
  have hy1 : Inj (p + 2) y := ⟨fun j hj => by
    by_cases h : j ≤ p
    · have := hlt j h; omega
    · have : j = p + 1 := by omega
      subst this; omega, fun j k hj hk => hy.2 j k (by omega) (by omega)⟩
  have := h1.2 y hy1
  rw [tc_join A p (z := y) (fun j hj => ⟨rfl, hlt j hj⟩) e1 e2 e1]
  omega
end Go.Proofs.YtmfgffmlnfimcaaDoor

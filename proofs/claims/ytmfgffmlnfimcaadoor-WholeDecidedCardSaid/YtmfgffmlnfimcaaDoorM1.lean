/- The least assignment, by prices of rows and columns: what one row more does to the prices, in plain Lean. -/
import Derived.Test.YtmfgffmlnfimcaaDoorM0
namespace Go.Proofs.YtmfgffmlnfimcaaDoor

/-- A function turned at one place. -/
def upd {α : Type} (f : Nat → α) (k : Nat) (v : α) : Nat → α := fun j => if j = k then v else f j
theorem upd_same {α : Type} (f : Nat → α) (k : Nat) (v : α) : upd f k v k = v := if_pos rfl
theorem upd_other {α : Type} (f : Nat → α) {k j : Nat} (h : j ≠ k) (v : α) : upd f k v j = f j := if_neg h

/-- What a row and a column cost beyond their prices; rows and columns from 1 on. -/
def sl (C : Nat → Nat → Int) (row col : Nat → Int) (r c : Nat) : Int := C (r - 1) (c - 1) - row r - col c

/-- Prices that are no loss: nothing costs less than its prices. -/
structure Fair (C : Nat → Nat → Int) (n r : Nat) (row col : Nat → Int) (has : Nat → Nat) : Prop where
  nonneg : ∀ i c, 1 ≤ i → i ≤ n → 1 ≤ c → c ≤ n → 0 ≤ sl C row col i c
  colle : ∀ c, 1 ≤ c → c ≤ n → col c ≤ 0
  rowge : ∀ i, 1 ≤ i → i ≤ n → 0 ≤ row i
  rowz : ∀ i, r < i → i ≤ n → row i = 0

/-- The first k rows have columns. -/
structure Hung (C : Nat → Nat → Int) (n k : Nat) (row col : Nat → Int) (has : Nat → Nat) : Prop where
  fair : Fair C n k row col has
  le : ∀ c, 1 ≤ c → c ≤ n → has c ≤ k
  inj : ∀ c d, 1 ≤ c → c ≤ n → 1 ≤ d → d ≤ n → has c = has d → has c ≠ 0 → c = d
  onto : ∀ i, 1 ≤ i → i ≤ k → ∃ c, 1 ≤ c ∧ c ≤ n ∧ has c = i
  tight : ∀ c, 1 ≤ c → c ≤ n → has c ≠ 0 → sl C row col (has c) c = 0
  free : ∀ c, 1 ≤ c → c ≤ n → has c = 0 → col c = 0

/-- A column that no row has. -/
theorem free_col {n k : Nat} {has : Nat → Nat} (hk : k < n) (le : ∀ c, 1 ≤ c → c ≤ n → has c ≤ k)
    (inj : ∀ c d, 1 ≤ c → c ≤ n → 1 ≤ d → d ≤ n → has c = has d → has c ≠ 0 → c = d) : ∃ c, 1 ≤ c ∧ c ≤ n ∧ has c = 0 := by
  refine Classical.byContradiction fun hno => ?_
  have hne : ∀ c, 1 ≤ c → c ≤ n → has c ≠ 0 := fun c h1 h2 h3 => hno ⟨c, h1, h2, h3⟩
  have hI : Inj n (fun j => has (j + 1) - 1) := by
    refine ⟨fun j hj => ?_, fun j d hj hd e => ?_⟩
    · have := le (j + 1) (by omega) (by omega)
      dsimp only; omega
    · have h1 := hne (j + 1) (by omega) (by omega)
      have h2 := hne (d + 1) (by omega) (by omega)
      dsimp only at e
      have := inj (j + 1) (d + 1) (by omega) (by omega) (by omega) (by omega) (by omega) h1
      omega
  obtain ⟨j, hj, e⟩ := hI.onto (n - 1) (by omega)
  have h1 := hne (j + 1) (by omega) (by omega)
  have := le (j + 1) (by omega) (by omega)
  omega

/-- The most that a number of a problem is. -/
def M31 : Int := 2147483647
def Small (C : Nat → Nat → Int) (n : Nat) : Prop := ∀ r c, r < n → c < n → 0 ≤ C r c ∧ C r c ≤ 2147483647

/-- How large prices get. -/
theorem price_bounds {C : Nat → Nat → Int} {n r : Nat} {row col : Nat → Int} {has : Nat → Nat} (hC : Small C n) (hf : Fair C n r row col has) (hle : ∀ c, 1 ≤ c → c ≤ n → has c ≤ n)
    (htight : ∀ c, 1 ≤ c → c ≤ n → has c ≠ 0 → sl C row col (has c) c = 0) (hfree : ∀ c, 1 ≤ c → c ≤ n → has c = 0 → col c = 0) (hex : ∃ c, 1 ≤ c ∧ c ≤ n ∧ has c = 0) :
    (∀ i, 1 ≤ i → i ≤ n → 0 ≤ row i ∧ row i ≤ 2147483647) ∧ ∀ c, 1 ≤ c → c ≤ n → -2147483647 ≤ col c ∧ col c ≤ 0 := by
  obtain ⟨f, hf1, hf2, hf3⟩ := hex
  have hrow : ∀ i, 1 ≤ i → i ≤ n → 0 ≤ row i ∧ row i ≤ 2147483647 := by
    intro i h1 h2
    have := hf.nonneg i f h1 h2 hf1 hf2
    unfold sl at this
    have h3 := hfree f hf1 hf2 hf3
    have h4 := hC (i - 1) (f - 1) (by omega) (by omega)
    exact ⟨hf.rowge i h1 h2, by omega⟩
  refine ⟨hrow, fun c h1 h2 => ⟨?_, hf.colle c h1 h2⟩⟩
  by_cases hz : has c = 0
  · rw [hfree c h1 h2 hz]; omega
  · have h3 := htight c h1 h2 hz
    unfold sl at h3
    have h4 := hrow (has c) (by omega) (hle c h1 h2)
    have h5 := hC (has c - 1) (c - 1) (by have := hle c h1 h2; omega) (by omega)
    omega

/-- A number that no cost is. -/
def far : Int := 1152921504606846976

/-- A row looks for a column: what is known between two steps. -/
structure GI (C : Nat → Nat → Int) (n r : Nat) (row col : Nat → Int) (has from_ : Nat → Nat) (least : Nat → Int) (seen : Nat → Bool) (at_ : Nat) (rk : Nat → Nat) (m : Nat) : Prop where
  r1 : 1 ≤ r
  rn : r ≤ n
  fair : Fair C n r row col has
  le : ∀ c, 1 ≤ c → c ≤ n → has c < r
  has0 : has 0 = r
  inj : ∀ c d, 1 ≤ c → c ≤ n → 1 ≤ d → d ≤ n → has c = has d → has c ≠ 0 → c = d
  onto : ∀ i, 1 ≤ i → i < r → ∃ c, 1 ≤ c ∧ c ≤ n ∧ has c = i
  tight : ∀ c, 1 ≤ c → c ≤ n → has c ≠ 0 → sl C row col (has c) c = 0
  free : ∀ c, 1 ≤ c → c ≤ n → has c = 0 → col c = 0
  atn : at_ ≤ n
  unseen : seen at_ = false
  seenhas : ∀ c, c ≤ n → seen c = true → has c ≠ 0
  first : at_ = 0 → ∀ c, seen c = false
  next : at_ ≠ 0 → seen 0 = true ∧ least at_ = 0
  leastle : ∀ c d, 1 ≤ c → c ≤ n → seen c = false → d ≤ n → seen d = true → least c ≤ sl C row col (has d) c
  leastfar : (∀ c, seen c = false) → ∀ c, c ≤ n → least c = 1152921504606846976
  leastis : seen 0 = true → ∀ c, 1 ≤ c → c ≤ n → seen c = false → from_ c ≤ n ∧ seen (from_ c) = true ∧ least c = sl C row col (has (from_ c)) c
  chain : ∀ c, 1 ≤ c → c ≤ n → seen c = true → from_ c ≤ n ∧ seen (from_ c) = true ∧ rk (from_ c) < rk c ∧ sl C row col (has (from_ c)) c = 0
  rank : ∀ c, c ≤ n → seen c = true → rk c < m

theorem GI.start {C : Nat → Nat → Int} {n r : Nat} {row col : Nat → Int} {has : Nat → Nat} (h : Hung C n (r - 1) row col has) (h1 : 1 ≤ r) (hr : r ≤ n) (from_ : Nat → Nat) :
    GI C n r row col (upd has 0 r) from_ (fun _ => 1152921504606846976) (fun _ => false) 0 (fun _ => 0) 0 := by
  have hu : ∀ c, 1 ≤ c → upd has 0 r c = has c := fun c hc => upd_other _ (by omega) _
  refine ⟨h1, hr, ⟨h.fair.nonneg, h.fair.colle, h.fair.rowge, fun i hi hn => h.fair.rowz i (by omega) hn⟩, ?_, upd_same _ _ _, ?_, ?_, ?_, ?_, by omega, rfl, ?_, ?_, ?_, ?_, ?_, ?_, ?_, ?_⟩
  · intro c hc hn; rw [hu c hc]; have := h.le c hc hn; omega
  · intro c d hc hcn hd hdn e; rw [hu c hc, hu d hd] at *; exact h.inj c d hc hcn hd hdn e
  · intro i hi hr'
    obtain ⟨c, h1, h2, h3⟩ := h.onto i hi (by omega)
    exact ⟨c, h1, h2, by rw [hu c h1]; exact h3⟩
  · intro c hc hn; rw [hu c hc]; exact h.tight c hc hn
  · intro c hc hn; rw [hu c hc]; exact h.free c hc hn
  · intro c _ h; cases h
  · intro _ _; rfl
  · intro h; exact absurd rfl h
  · intro c d _ _ _ _ h; cases h
  · intro _ _ _; rfl
  · intro h; cases h
  · intro c _ _ h; cases h
  · intro c _ h; cases h

section
variable (n : Nat) (sc : Nat → Int) (seen : Nat → Bool) (least : Nat → Int) (from_ : Nat → Nat) (at_ : Nat)
/-- What the scan of the columns makes of 'least' and 'from': sc c is what the new row costs with column c beyond the prices. -/
def scL (c : Nat) : Int := if seen c = false ∧ sc c < least c then sc c else least c
def scF (c : Nat) : Nat := if seen c = false ∧ sc c < least c then at_ else from_ c
/-- The least of the first k columns that are not seen, and where it is. -/
def scB : Nat → Int × Nat
  | 0 => (1152921504606846976, 0)
  | k + 1 => if seen (k + 1) = false ∧ scL sc seen least (k + 1) < (scB k).1 then (scL sc seen least (k + 1), k + 1) else scB k

theorem scB_le : ∀ k c, 1 ≤ c → c ≤ k → seen c = false → (scB sc seen least k).1 ≤ scL sc seen least c
  | 0, c, h1, h2, _ => by omega
  | k + 1, c, h1, h2, h3 => by
    unfold scB
    by_cases e : c = k + 1
    · subst e
      split
      · exact Int.le_refl _
      · rename_i h
        have : ¬ scL sc seen least (k + 1) < (scB sc seen least k).1 := fun h4 => h ⟨h3, h4⟩
        omega
    · have := scB_le k c h1 (by omega) h3
      split
      · rename_i h; dsimp only; omega
      · exact this

theorem scB_is : ∀ k, ((scB sc seen least k).2 = 0 ∧ (scB sc seen least k).1 = 1152921504606846976) ∨ (1 ≤ (scB sc seen least k).2 ∧ (scB sc seen least k).2 ≤ k ∧ seen (scB sc seen least k).2 = false ∧ (scB sc seen least k).1 = scL sc seen least (scB sc seen least k).2)
  | 0 => .inl ⟨rfl, rfl⟩
  | k + 1 => by
    unfold scB
    split
    · rename_i h; exact .inr ⟨by dsimp only; omega, Nat.le_refl _, h.1, rfl⟩
    · rcases scB_is k with h | h
      · exact .inl h
      · exact .inr ⟨h.1, by omega, h.2.2⟩
end

/-- The rows' prices when the first k columns have been gone through. -/
def rowTo (has : Nat → Nat) (seen : Nat → Bool) (step : Int) (add : Int → Int → Int) (row : Nat → Int) : Nat → Nat → Int
  | 0 => row
  | k + 1 => if seen k = true then upd (rowTo has seen step add row k) (has k) (add (rowTo has seen step add row k (has k)) step) else rowTo has seen step add row k

/-- Each row that a seen column has is raised once. -/
theorem rowTo_is (has : Nat → Nat) (seen : Nat → Bool) (step : Int) (row : Nat → Int) (n : Nat)
    (hinj : ∀ c d, c ≤ n → d ≤ n → seen c = true → seen d = true → has c = has d → c = d) :
    ∀ k, k ≤ n + 1 → ∀ i, rowTo has seen step (· + ·) row k i = row i + (if ∃ c, c < k ∧ seen c = true ∧ has c = i then step else 0)
  | 0, _, i => by
    rw [if_neg (by rintro ⟨c, hc, _⟩; omega)]
    simp [rowTo]
  | k + 1, hk, i => by
    unfold rowTo
    have ih := rowTo_is has seen step row n hinj k (by omega)
    split
    · rename_i hs
      by_cases e : i = has k
      · subst e
        rw [upd_same, ih, if_neg, if_pos ⟨k, by omega, hs, rfl⟩]
        · omega
        · rintro ⟨c, hc, hcs, hce⟩
          have := hinj c k (by omega) (by omega) hcs hs hce
          omega
      · rw [upd_other _ e, ih]
        congr 1
        by_cases hx : ∃ c, c < k ∧ seen c = true ∧ has c = i
        · rw [if_pos hx, if_pos (by obtain ⟨c, h1, h2⟩ := hx; exact ⟨c, by omega, h2⟩)]
        · rw [if_neg hx, if_neg]
          rintro ⟨c, h1, h2, h3⟩
          by_cases e2 : c = k
          · subst e2; exact e h3.symm
          · exact hx ⟨c, by omega, h2, h3⟩
    · rename_i hs
      rw [ih]
      congr 1
      by_cases hx : ∃ c, c < k ∧ seen c = true ∧ has c = i
      · rw [if_pos hx, if_pos (by obtain ⟨c, h1, h2⟩ := hx; exact ⟨c, by omega, h2⟩)]
      · rw [if_neg hx, if_neg]
        rintro ⟨c, h1, h2, h3⟩
        by_cases e2 : c = k
        · subst e2; exact hs h2
        · exact hx ⟨c, by omega, h2, h3⟩


/-- 'least' and 'from' behind the scan; the prices and 'least' behind the update. -/
def leastS (n : Nat) (sc : Nat → Int) (seen : Nat → Bool) (least : Nat → Int) (c : Nat) : Int := if 1 ≤ c ∧ c ≤ n then scL sc seen least c else least c
def fromS (n : Nat) (sc : Nat → Int) (seen : Nat → Bool) (least : Nat → Int) (from_ : Nat → Nat) (at_ : Nat) (c : Nat) : Nat := if 1 ≤ c ∧ c ≤ n then scF sc seen least from_ at_ c else from_ c
def colS (seen : Nat → Bool) (step : Int) (sub : Int → Int → Int) (col : Nat → Int) (c : Nat) : Int := if seen c = true then sub (col c) step else col c
def leastU (seen : Nat → Bool) (step : Int) (sub : Int → Int → Int) (least : Nat → Int) (c : Nat) : Int := if seen c = true then least c else sub (least c) step

/-- What one step does, plain. -/
theorem GI.step {C : Nat → Nat → Int} {n r : Nat} {row col : Nat → Int} {has from_ : Nat → Nat} {least : Nat → Int} {seen : Nat → Bool} {at_ : Nat} {rk : Nat → Nat} {m : Nat}
    (hC : Small C n) (h : GI C n r row col has from_ least seen at_ rk m) (hat : has at_ ≠ 0) :
    let seen' := upd seen at_ true
    let sc := sl C row col (has at_)
    let step := (scB sc seen' least n).1
    let next := (scB sc seen' least n).2
    (0 ≤ step ∧ step ≤ 6442450941) ∧
    GI C n r (rowTo has seen' step (· + ·) row (n + 1)) (colS seen' step (· - ·) col) has (fromS n sc seen' least from_ at_) (leastU seen' step (· - ·) (leastS n sc seen' least)) seen' next (upd rk at_ m) (m + 1) := by
  intro seen' sc step next
  have hs'at : seen' at_ = true := upd_same _ _ _
  have hs'o : ∀ c, c ≠ at_ → seen' c = seen c := fun c hc => upd_other _ hc _
  have hs'f : ∀ c, seen' c = false → seen c = false ∧ c ≠ at_ := by
    intro c hc
    by_cases e : c = at_
    · subst e; rw [hs'at] at hc; cases hc
    · rw [hs'o c e] at hc; exact ⟨hc, e⟩
  have hs't : ∀ c, seen' c = true → seen c = true ∨ c = at_ := by
    intro c hc
    by_cases e : c = at_
    · exact .inr e
    · rw [hs'o c e] at hc; exact .inl hc
  have hs'0 : seen' 0 = true := by
    by_cases e : at_ = 0
    · rw [← e]; exact hs'at
    · rw [hs'o 0 (fun e2 => e e2.symm)]; exact (h.next e).1
  -- rows that a seen column has
  have hasn : ∀ c, c ≤ n → has c ≤ n := by
    intro c hc
    by_cases e : c = 0
    · subst e; rw [h.has0]; exact h.rn
    · have := h.le c (by omega) hc; have := h.rn; omega
  have hasinj : ∀ c d, c ≤ n → d ≤ n → has c = has d → has c ≠ 0 → c = d := by
    intro c d hc hd e hne
    by_cases e1 : c = 0
    · subst e1
      by_cases e2 : d = 0
      · exact e2.symm
      · have := h.le d (by omega) hd; rw [h.has0] at e; omega
    · by_cases e2 : d = 0
      · subst e2; have := h.le c (by omega) hc; rw [h.has0] at e; omega
      · exact h.inj c d (by omega) hc (by omega) hd e hne
  have hseenhas : ∀ c, c ≤ n → seen' c = true → has c ≠ 0 := by
    intro c hc hs
    rcases hs't c hs with h1 | h1
    · exact h.seenhas c hc h1
    · subst h1; exact hat
  have hsinj : ∀ c d, c ≤ n → d ≤ n → seen' c = true → seen' d = true → has c = has d → c = d := fun c d hc hd hsc _ e => hasinj c d hc hd e (hseenhas c hc hsc)
  have hatn := h.atn
  have hrow1 : 1 ≤ has at_ := by omega
  have hrown : has at_ ≤ n := hasn at_ hatn
  -- a free column
  obtain ⟨f, hf1, hf2, hf3⟩ := free_col (n := n) (k := r - 1) (has := has) (by have := h.r1; have := h.rn; omega) (fun c h1 h2 => by have := h.le c h1 h2; omega) h.inj
  have hfs : seen' f = false := by
    rcases hq : seen' f with _ | _
    · rfl
    · exact absurd hf3 (hseenhas f hf2 hq)
  have hbd := price_bounds hC h.fair (fun c h1 h2 => hasn c h2) h.tight h.free ⟨f, hf1, hf2, hf3⟩
  have hscb : ∀ c, 1 ≤ c → c ≤ n → 0 ≤ sc c ∧ sc c ≤ 6442450941 := by
    intro c h1 h2
    refine ⟨h.fair.nonneg _ c hrow1 hrown h1 h2, ?_⟩
    have a := hC (has at_ - 1) (c - 1) (by omega) (by omega)
    have b := hbd.1 _ hrow1 hrown
    have d := hbd.2 c h1 h2
    show C (has at_ - 1) (c - 1) - row (has at_) - col c ≤ 6442450941
    omega
  -- the least behind the scan
  have hsl : ∀ c, scL sc seen' least c ≤ least c := by
    intro c; unfold scL; split
    · rename_i hh; omega
    · exact Int.le_refl _
  have hsl2 : ∀ c, seen' c = false → scL sc seen' least c ≤ sc c := by
    intro c hc; unfold scL; split
    · exact Int.le_refl _
    · rename_i hh
      have : ¬ sc c < least c := fun h4 => hh ⟨hc, h4⟩
      omega
  have hstep : 1 ≤ next ∧ next ≤ n ∧ seen' next = false ∧ step = scL sc seen' least next := by
    rcases scB_is sc seen' least n with h1 | h1
    · exfalso
      have h2 := scB_le sc seen' least n f hf1 hf2 hfs
      have h3 := hsl2 f hfs
      have h4 := hscb f hf1 hf2
      rw [h1.2] at h2
      omega
    · exact h1
  obtain ⟨hn1, hn2, hn3, hn4⟩ := hstep
  have hstle : ∀ c, 1 ≤ c → c ≤ n → seen' c = false → step ≤ scL sc seen' least c := fun c h1 h2 h3 => scB_le sc seen' least n c h1 h2 h3
  -- what 'least' is behind the scan, of the old prices
  have hisS : ∀ c, 1 ≤ c → c ≤ n → seen' c = false → scF sc seen' least from_ at_ c ≤ n ∧ seen' (scF sc seen' least from_ at_ c) = true ∧ scL sc seen' least c = sl C row col (has (scF sc seen' least from_ at_ c)) c := by
    intro c h1 h2 h3
    unfold scF scL
    by_cases hh : seen' c = false ∧ sc c < least c
    · rw [if_pos hh, if_pos hh]
      exact ⟨hatn, hs'at, rfl⟩
    · rw [if_neg hh, if_neg hh]
      have h4 := hs'f c h3
      by_cases e : at_ = 0
      · exfalso
        apply hh
        refine ⟨h3, ?_⟩
        have := h.leastfar (h.first e) c h2
        have := hscb c h1 h2
        omega
      · have := h.leastis (h.next e).1 c h1 h2 h4.1
        refine ⟨this.1, ?_, this.2.2⟩
        have h5 : from_ c ≠ at_ := fun e2 => by rw [e2, h.unseen] at this; exact absurd this.2.1 (by simp)
        rw [hs'o _ h5]; exact this.2.1
  have hleS : ∀ c d, 1 ≤ c → c ≤ n → seen' c = false → d ≤ n → seen' d = true → scL sc seen' least c ≤ sl C row col (has d) c := by
    intro c d h1 h2 h3 h4 h5
    rcases hs't d h5 with h6 | h6
    · exact Int.le_trans (hsl c) (h.leastle c d h1 h2 (hs'f c h3).1 h4 h6)
    · subst h6; exact hsl2 c h3
  have hstep0 : 0 ≤ step := by
    have := hisS next hn1 hn2 hn3
    rw [hn4, this.2.2]
    refine h.fair.nonneg _ next ?_ (hasn _ this.1) hn1 hn2
    have := hseenhas _ this.1 this.2.1
    omega
  have hstepb : step ≤ 6442450941 := by rw [hn4]; exact Int.le_trans (hsl2 next hn3) (hscb next hn1 hn2).2
  refine ⟨⟨hstep0, hstepb⟩, ?_⟩
  have hr' := rowTo_is has seen' step row n hsinj (n + 1) (Nat.le_refl _)
  -- the new prices
  have hcolt : ∀ c, seen' c = true → colS seen' step (· - ·) col c = col c - step := fun c hc => by unfold colS; rw [if_pos hc]
  have hcolf : ∀ c, seen' c = false → colS seen' step (· - ·) col c = col c := fun c hc => by unfold colS; rw [if_neg (by rw [hc]; simp)]
  have hrowt : ∀ c, c ≤ n → seen' c = true → rowTo has seen' step (· + ·) row (n + 1) (has c) = row (has c) + step := fun c hc hs => by rw [hr', if_pos ⟨c, by omega, hs, rfl⟩]
  have hrowge : ∀ i, row i ≤ rowTo has seen' step (· + ·) row (n + 1) i := by intro i; rw [hr']; split <;> omega
  have hrowle : ∀ i, rowTo has seen' step (· + ·) row (n + 1) i ≤ row i + step := by intro i; rw [hr']; split <;> omega
  -- a tight pair stays tight; a seen row and an unseen column come nearer
  have htt : ∀ d c, d ≤ n → seen' d = true → seen' c = true → sl C (rowTo has seen' step (· + ·) row (n + 1)) (colS seen' step (· - ·) col) (has d) c = sl C row col (has d) c := by
    intro d c hd h1 h2
    unfold sl; rw [hrowt d hd h1, hcolt c h2]; omega
  have htf : ∀ d c, d ≤ n → seen' d = true → seen' c = false → sl C (rowTo has seen' step (· + ·) row (n + 1)) (colS seen' step (· - ·) col) (has d) c = sl C row col (has d) c - step := by
    intro d c hd h1 h2
    unfold sl; rw [hrowt d hd h1, hcolf c h2]; omega
  have hff : ∀ d, d ≤ n → has d ≠ 0 → seen' d = false → rowTo has seen' step (· + ·) row (n + 1) (has d) = row (has d) := by
    intro d hd hne hs
    rw [hr', if_neg, Int.add_zero]
    rintro ⟨c, hc, hcs, hce⟩
    have := hasinj c d (by omega) hd hce (by rw [hce]; exact hne)
    subst this
    rw [hs] at hcs; cases hcs
  constructor
  · exact h.r1
  · exact h.rn
  · constructor
    · intro i c h1 h2 h3 h4
      have h0 := h.fair.nonneg i c h1 h2 h3 h4
      rcases hq : seen' c with _ | _
      · -- an unseen column
        by_cases hx : ∃ d, d < n + 1 ∧ seen' d = true ∧ has d = i
        · obtain ⟨d, hd1, hd2, hd3⟩ := hx
          subst hd3
          rw [htf d c (by omega) hd2 hq]
          have := hleS c d h3 h4 hq (by omega) hd2
          have := hstle c h3 h4 hq
          omega
        · unfold sl
          rw [hr', if_neg hx, hcolf c hq]
          unfold sl at h0
          omega
      · unfold sl at h0 ⊢
        rw [hcolt c hq]
        have := hrowle i
        omega
    · intro c h1 h2
      have := h.fair.colle c h1 h2
      unfold colS; dsimp only; split <;> omega
    · intro i h1 h2
      have := h.fair.rowge i h1 h2
      have := hrowge i
      omega
    · intro i h1 h2
      rw [hr', if_neg, Int.add_zero]
      · exact h.fair.rowz i h1 h2
      · rintro ⟨c, hc, _, hce⟩
        by_cases e : c = 0
        · subst e; rw [h.has0] at hce; omega
        · have := h.le c (by omega) (by omega); omega
  · exact h.le
  · exact h.has0
  · exact h.inj
  · exact h.onto
  · intro c h1 h2 h3
    have h0 := h.tight c h1 h2 h3
    rcases hq : seen' c with _ | _
    · unfold sl at h0 ⊢
      rw [hff c h2 h3 hq, hcolf c hq]; exact h0
    · rw [htt c c h2 hq hq]; exact h0
  · intro c h1 h2 h3
    have hq : seen' c = false := by
      rcases hq : seen' c with _ | _
      · rfl
      · exact absurd h3 (hseenhas c h2 hq)
    rw [hcolf c hq]; exact h.free c h1 h2 h3
  · exact hn2
  · exact hn3
  · exact hseenhas
  · intro e; omega
  · intro _
    refine ⟨hs'0, ?_⟩
    unfold leastU
    rw [if_neg (by rw [hn3]; simp)]
    unfold leastS
    rw [if_pos ⟨hn1, hn2⟩, ← hn4]
    exact Int.sub_self _
  · intro c d h1 h2 h3 h4 h5
    unfold leastU leastS
    rw [if_neg (by rw [h3]; simp), if_pos ⟨h1, h2⟩, htf d c h4 h5 h3]
    have := hleS c d h1 h2 h3 h4 h5
    dsimp only
    omega
  · intro hall
    have := hall 0
    rw [hs'0] at this; cases this
  · intro _ c h1 h2 h3
    have h4 := hisS c h1 h2 h3
    have hF : fromS n sc seen' least from_ at_ c = scF sc seen' least from_ at_ c := by unfold fromS; rw [if_pos ⟨h1, h2⟩]
    rw [hF]
    refine ⟨h4.1, h4.2.1, ?_⟩
    unfold leastU leastS
    rw [if_neg (by rw [h3]; simp), if_pos ⟨h1, h2⟩, htf _ c h4.1 h4.2.1 h3, h4.2.2]
  · intro c h1 h2 h3
    have hF : fromS n sc seen' least from_ at_ c = from_ c := by
      unfold fromS
      rw [if_pos ⟨h1, h2⟩]
      unfold scF
      rw [if_neg]
      rintro ⟨h5, _⟩
      rw [h3] at h5; cases h5
    rw [hF]
    rcases hs't c h3 with h5 | h5
    · have h6 := h.chain c h1 h2 h5
      have hc : c ≠ at_ := fun e => by rw [e, h.unseen] at h5; cases h5
      have hfc : from_ c ≠ at_ := fun e => by rw [e, h.unseen] at h6; exact absurd h6.2.1 (by simp)
      refine ⟨h6.1, by rw [hs'o _ hfc]; exact h6.2.1, by rw [upd_other _ hc, upd_other _ hfc]; exact h6.2.2.1, ?_⟩
      rw [htt _ c h6.1 (by rw [hs'o _ hfc]; exact h6.2.1) h3]; exact h6.2.2.2
    · subst h5
      have hn0 : c ≠ 0 := by omega
      have h6 := h.leastis (h.next hn0).1 c h1 h2 h.unseen
      have hfc : from_ c ≠ c := fun e => by rw [e, h.unseen] at h6; exact absurd h6.2.1 (by simp)
      refine ⟨h6.1, by rw [hs'o _ hfc]; exact h6.2.1, ?_, ?_⟩
      · rw [upd_same, upd_other _ hfc]; exact h.rank _ h6.1 h6.2.1
      · rw [htt _ c h6.1 (by rw [hs'o _ hfc]; exact h6.2.1) h3, ← h6.2.2, (h.next hn0).2]
  · intro c h1 h2
    by_cases e : c = at_
    · subst e; rw [upd_same]; omega
    · rw [upd_other _ e]
      rw [hs'o c e] at h2
      have := h.rank c h1 h2; omega
end Go.Proofs.YtmfgffmlnfimcaaDoor

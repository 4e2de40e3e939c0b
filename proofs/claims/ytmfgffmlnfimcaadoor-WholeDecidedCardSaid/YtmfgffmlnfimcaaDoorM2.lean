/- The least assignment: the way back, and what it costs. -/
import Derived.Test.YtmfgffmlnfimcaaDoorM1
import Derived.RowKit
namespace Go.Proofs.YtmfgffmlnfimcaaDoor
open Go.RowKit

def addw (a b : Int) : Int := wrap64 (a + b)
def subw (a b : Int) : Int := wrap64 (a - b)
theorem wrap64_id {x : Int} (h1 : -9223372036854775808 ≤ x) (h2 : x ≤ 9223372036854775807) : wrap64 x = x := by unfold wrap64; omega

theorem rowTo_wrap (has : Nat → Nat) (seen : Nat → Bool) (step : Int) (row : Nat → Int) :
    ∀ k, (∀ j, j < k → seen j = true → -9223372036854775808 ≤ rowTo has seen step (· + ·) row j (has j) + step ∧ rowTo has seen step (· + ·) row j (has j) + step ≤ 9223372036854775807) →
      rowTo has seen step addw row k = rowTo has seen step (· + ·) row k
  | 0, _ => rfl
  | k + 1, h => by
    unfold rowTo
    rw [rowTo_wrap has seen step row k fun j hj => h j (by omega)]
    split
    · rename_i hs
      have := h k (by omega) hs
      rw [show addw (rowTo has seen step (· + ·) row k (has k)) step = rowTo has seen step (· + ·) row k (has k) + step from wrap64_id this.1 this.2]
    · rfl

theorem GI.congr {C : Nat → Nat → Int} {n r : Nat} {row col row2 col2 : Nat → Int} {has from_ : Nat → Nat} {least least2 : Nat → Int} {seen : Nat → Bool} {at_ : Nat} {rk : Nat → Nat} {m : Nat}
    (h : GI C n r row col has from_ least seen at_ rk m) (hr : ∀ i, 1 ≤ i → i ≤ n → row2 i = row i) (hc : ∀ c, 1 ≤ c → c ≤ n → col2 c = col c) (hl : ∀ c, c ≤ n → least2 c = least c) :
    GI C n r row2 col2 has from_ least2 seen at_ rk m := by
  have hasn : ∀ c, c ≤ n → has c ≤ n := by
    intro c hc
    by_cases e : c = 0
    · subst e; rw [h.has0]; exact h.rn
    · have := h.le c (by omega) hc; have := h.rn; omega
  have hs : ∀ i c, 1 ≤ i → i ≤ n → 1 ≤ c → c ≤ n → sl C row2 col2 i c = sl C row col i c := fun i c h1 h2 h3 h4 => by unfold sl; rw [hr i h1 h2, hc c h3 h4]
  have hsh : ∀ d c, d ≤ n → has d ≠ 0 → 1 ≤ c → c ≤ n → sl C row2 col2 (has d) c = sl C row col (has d) c := fun d c hd hne h3 h4 => hs _ c (by omega) (hasn d hd) h3 h4
  constructor
  · exact h.r1
  · exact h.rn
  · exact ⟨fun i c h1 h2 h3 h4 => by rw [hs i c h1 h2 h3 h4]; exact h.fair.nonneg i c h1 h2 h3 h4, fun c h1 h2 => by rw [hc c h1 h2]; exact h.fair.colle c h1 h2, fun i h1 h2 => by rw [hr i h1 h2]; exact h.fair.rowge i h1 h2, fun i h1 h2 => by rw [hr i (by omega) h2]; exact h.fair.rowz i h1 h2⟩
  · exact h.le
  · exact h.has0
  · exact h.inj
  · exact h.onto
  · exact fun c h1 h2 h3 => by rw [hsh c c h2 h3 h1 h2]; exact h.tight c h1 h2 h3
  · exact fun c h1 h2 h3 => by rw [hc c h1 h2]; exact h.free c h1 h2 h3
  · exact h.atn
  · exact h.unseen
  · exact h.seenhas
  · exact h.first
  · exact fun e => ⟨(h.next e).1, by rw [hl _ h.atn]; exact (h.next e).2⟩
  · exact fun c d h1 h2 h3 h4 h5 => by rw [hl c h2, hsh d c h4 (h.seenhas d h4 h5) h1 h2]; exact h.leastle c d h1 h2 h3 h4 h5
  · exact fun h1 c h2 => by rw [hl c h2]; exact h.leastfar h1 c h2
  · intro h0 c h1 h2 h3
    have h4 := h.leastis h0 c h1 h2 h3
    exact ⟨h4.1, h4.2.1, by rw [hl c h2, hsh _ c h4.1 (h.seenhas _ h4.1 h4.2.1) h1 h2]; exact h4.2.2⟩
  · intro c h1 h2 h3
    have h4 := h.chain c h1 h2 h3
    exact ⟨h4.1, h4.2.1, h4.2.2.1, by rw [hsh _ c h4.1 (h.seenhas _ h4.1 h4.2.1) h1 h2]; exact h4.2.2.2⟩
  · exact h.rank

/-- How large the prices are while a row looks. -/
theorem GI.bounds {C : Nat → Nat → Int} {n r : Nat} {row col : Nat → Int} {has from_ : Nat → Nat} {least : Nat → Int} {seen : Nat → Bool} {at_ : Nat} {rk : Nat → Nat} {m : Nat}
    (hC : Small C n) (h : GI C n r row col has from_ least seen at_ rk m) :
    (∀ i, 1 ≤ i → i ≤ n → 0 ≤ row i ∧ row i ≤ 2147483647) ∧ ∀ c, 1 ≤ c → c ≤ n → -2147483647 ≤ col c ∧ col c ≤ 0 := by
  refine price_bounds hC h.fair (fun c h1 h2 => by have := h.le c h1 h2; have := h.rn; omega) h.tight h.free ?_
  exact free_col (n := n) (k := r - 1) (has := has) (by have := h.r1; have := h.rn; omega) (fun c h1 h2 => by have := h.le c h1 h2; omega) h.inj

theorem GI.hasn {C : Nat → Nat → Int} {n r : Nat} {row col : Nat → Int} {has from_ : Nat → Nat} {least : Nat → Int} {seen : Nat → Bool} {at_ : Nat} {rk : Nat → Nat} {m : Nat}
    (h : GI C n r row col has from_ least seen at_ rk m) : ∀ c, c ≤ n → has c ≤ n := by
  intro c hc
  by_cases e : c = 0
  · subst e; rw [h.has0]; exact h.rn
  · have := h.le c (by omega) hc; have := h.rn; omega

theorem scL_bound {C : Nat → Nat → Int} {n r : Nat} {row col : Nat → Int} {has from_ : Nat → Nat} {least : Nat → Int} {seen : Nat → Bool} {at_ : Nat} {rk : Nat → Nat} {m : Nat}
    (hC : Small C n) (h : GI C n r row col has from_ least seen at_ rk m) (hat : has at_ ≠ 0) {c : Nat} (h1 : 1 ≤ c) (h2 : c ≤ n) :
    0 ≤ sl C row col (has at_) c ∧ sl C row col (has at_) c ≤ 6442450941 := by
  have hb := h.bounds hC
  have hn := h.hasn at_ h.atn
  refine ⟨h.fair.nonneg _ c (by omega) hn h1 h2, ?_⟩
  have a := hC (has at_ - 1) (c - 1) (by omega) (by omega)
  have b := hb.1 _ (show 1 ≤ has at_ by omega) hn
  have d := hb.2 c h1 h2
  unfold sl
  omega

/-- What one step does, as the machine reckons. -/
theorem GI.stepw {C : Nat → Nat → Int} {n r : Nat} {row col : Nat → Int} {has from_ : Nat → Nat} {least : Nat → Int} {seen : Nat → Bool} {at_ : Nat} {rk : Nat → Nat} {m : Nat}
    (hC : Small C n) (h : GI C n r row col has from_ least seen at_ rk m) (hat : has at_ ≠ 0) (hlb : ∀ c, c ≤ n → -9000000000000000000 ≤ least c ∧ least c ≤ 9000000000000000000) :
    let seen' := upd seen at_ true
    let sc := sl C row col (has at_)
    let step := (scB sc seen' least n).1
    let next := (scB sc seen' least n).2
    GI C n r (rowTo has seen' step addw row (n + 1)) (colS seen' step subw col) has (fromS n sc seen' least from_ at_) (leastU seen' step subw (leastS n sc seen' least)) seen' next (upd rk at_ m) (m + 1) := by
  intro seen' sc step next
  obtain ⟨⟨hs1, hs2⟩, hg⟩ := h.step hC hat
  have hs1 : 0 ≤ step := hs1
  have hs2 : step ≤ 6442450941 := hs2
  have hb := h.bounds hC
  have hseenhas : ∀ c, c ≤ n → seen' c = true → has c ≠ 0 := hg.seenhas
  have hs'0 : seen' 0 = true := (hg.next (by
    intro e
    have := hg.first e at_
    rw [show upd seen at_ true at_ = true from upd_same _ _ _] at this
    cases this)).1
  have hasn := h.hasn
  have hsinj : ∀ c d, c ≤ n → d ≤ n → seen' c = true → seen' d = true → has c = has d → c = d := by
    intro c d hc hd hsc _ e
    have hne := hseenhas c hc hsc
    by_cases e1 : c = 0
    · subst e1
      by_cases e2 : d = 0
      · exact e2.symm
      · have := h.le d (by omega) hd; rw [h.has0] at e; omega
    · by_cases e2 : d = 0
      · subst e2; have := h.le c (by omega) hc; rw [h.has0] at e; omega
      · exact h.inj c d (by omega) hc (by omega) hd e hne
  have hrow : rowTo has seen' step addw row (n + 1) = rowTo has seen' step (· + ·) row (n + 1) := by
    refine rowTo_wrap has seen' step row (n + 1) fun j hj hs => ?_
    have hne := hseenhas j (by omega) hs
    have hbj := hb.1 (has j) (by omega) (hasn j (by omega))
    rw [rowTo_is has seen' step row n hsinj j (by omega)]
    split <;> omega
  refine hg.congr (fun i _ _ => by rw [hrow]) ?_ ?_
  · intro c h1 h2
    have := hb.2 c h1 h2
    unfold colS
    split
    · exact wrap64_id (by omega) (by omega)
    · rfl
  · intro c h2
    unfold leastU leastS
    split
    · rfl
    · rename_i hs
      split
      · rename_i hc
        have h1 := hc.1
        have hb2 := scL_bound hC h hat h1 h2
        have hb3 := hlb c h2
        have : -9000000000000000000 ≤ scL sc seen' least c ∧ scL sc seen' least c ≤ 9000000000000000000 := by
          unfold scL
          have : sc c = sl C row col (has at_) c := rfl
          split <;> omega
        exact wrap64_id (by omega) (by omega)
      · rename_i hc
        have : c = 0 := by omega
        subst this
        exact absurd hs'0 hs

/-- One column more has been scanned. -/
theorem leastS_next (k : Nat) (sc : Nat → Int) (seen : Nat → Bool) (least : Nat → Int) (j : Nat) : leastS (k + 1) sc seen least j = upd (leastS k sc seen least) (k + 1) (scL sc seen least (k + 1)) j := by
  by_cases e : j = k + 1
  · subst e; rw [upd_same]; unfold leastS; rw [if_pos ⟨by omega, Nat.le_refl _⟩]
  · rw [upd_other _ e]
    unfold leastS
    by_cases h : 1 ≤ j ∧ j ≤ k
    · rw [if_pos h, if_pos ⟨h.1, by omega⟩]
    · rw [if_neg h, if_neg (by omega)]
theorem fromS_next (k : Nat) (sc : Nat → Int) (seen : Nat → Bool) (least : Nat → Int) (from_ : Nat → Nat) (at_ : Nat) (j : Nat) : fromS (k + 1) sc seen least from_ at_ j = upd (fromS k sc seen least from_ at_) (k + 1) (scF sc seen least from_ at_ (k + 1)) j := by
  by_cases e : j = k + 1
  · subst e; rw [upd_same]; unfold fromS; rw [if_pos ⟨by omega, Nat.le_refl _⟩]
  · rw [upd_other _ e]
    unfold fromS
    by_cases h : 1 ≤ j ∧ j ≤ k
    · rw [if_pos h, if_pos ⟨h.1, by omega⟩]
    · rw [if_neg h, if_neg (by omega)]
theorem leastS_old (k : Nat) (sc : Nat → Int) (seen : Nat → Bool) (least : Nat → Int) : leastS k sc seen least (k + 1) = least (k + 1) := by
  unfold leastS; rw [if_neg (by omega)]
theorem fromS_old (k : Nat) (sc : Nat → Int) (seen : Nat → Bool) (least : Nat → Int) (from_ : Nat → Nat) (at_ : Nat) : fromS k sc seen least from_ at_ (k + 1) = from_ (k + 1) := by
  unfold fromS; rw [if_neg (by omega)]
theorem upd_self {α : Type} (f : Nat → α) (k : Nat) (v : α) (h : f k = v) (j : Nat) : upd f k v j = f j := by
  by_cases e : j = k
  · subst e; rw [upd_same, h]
  · exact upd_other _ e _
theorem leastS_zero (sc : Nat → Int) (seen : Nat → Bool) (least : Nat → Int) (j : Nat) : leastS 0 sc seen least j = least j := by
  unfold leastS; rw [if_neg (by omega)]
theorem fromS_zero (sc : Nat → Int) (seen : Nat → Bool) (least : Nat → Int) (from_ : Nat → Nat) (at_ : Nat) (j : Nat) : fromS 0 sc seen least from_ at_ j = from_ j := by
  unfold fromS; rw [if_neg (by omega)]

theorem leastS_nx {c : Nat} (h : 1 ≤ c) (sc : Nat → Int) (seen : Nat → Bool) (least : Nat → Int) (j : Nat) : leastS c sc seen least j = upd (leastS (c - 1) sc seen least) c (scL sc seen least c) j := by
  obtain ⟨k, rfl⟩ : ∃ k, c = k + 1 := ⟨c - 1, by omega⟩
  exact leastS_next k sc seen least j
theorem fromS_nx {c : Nat} (h : 1 ≤ c) (sc : Nat → Int) (seen : Nat → Bool) (least : Nat → Int) (from_ : Nat → Nat) (at_ : Nat) (j : Nat) : fromS c sc seen least from_ at_ j = upd (fromS (c - 1) sc seen least from_ at_) c (scF sc seen least from_ at_ c) j := by
  obtain ⟨k, rfl⟩ : ∃ k, c = k + 1 := ⟨c - 1, by omega⟩
  exact fromS_next k sc seen least from_ at_ j
theorem leastS_od {c : Nat} (h : 1 ≤ c) (sc : Nat → Int) (seen : Nat → Bool) (least : Nat → Int) : leastS (c - 1) sc seen least c = least c := by
  obtain ⟨k, rfl⟩ : ∃ k, c = k + 1 := ⟨c - 1, by omega⟩
  exact leastS_old k sc seen least
theorem fromS_od {c : Nat} (h : 1 ≤ c) (sc : Nat → Int) (seen : Nat → Bool) (least : Nat → Int) (from_ : Nat → Nat) (at_ : Nat) : fromS (c - 1) sc seen least from_ at_ c = from_ c := by
  obtain ⟨k, rfl⟩ : ∃ k, c = k + 1 := ⟨c - 1, by omega⟩
  exact fromS_old k sc seen least from_ at_
theorem scB_nx {c : Nat} (h : 1 ≤ c) (sc : Nat → Int) (seen : Nat → Bool) (least : Nat → Int) {B : Int} {X : Nat} (hB : scB sc seen least (c - 1) = (B, X)) :
    scB sc seen least c = if seen c = false ∧ scL sc seen least c < B then (scL sc seen least c, c) else (B, X) := by
  obtain ⟨k, rfl⟩ : ∃ k, c = k + 1 := ⟨c - 1, by omega⟩
  rw [Nat.add_sub_cancel] at hB
  rw [scB, hB]

/-- So far the prices, and 'least', have been gone through. -/
def colK (seen : Nat → Bool) (step : Int) (col : Nat → Int) (k j : Nat) : Int := if j < k then colS seen step subw col j else col j
def leastK (seen : Nat → Bool) (step : Int) (least : Nat → Int) (k j : Nat) : Int := if j < k then leastU seen step subw least j else least j
theorem colK_next (seen : Nat → Bool) (step : Int) (col : Nat → Int) (k j : Nat) : colK seen step col (k + 1) j = upd (colK seen step col k) k (colS seen step subw col k) j := by
  by_cases e : j = k
  · subst e; rw [upd_same]; unfold colK; rw [if_pos (by omega)]
  · rw [upd_other _ e]; unfold colK
    by_cases h : j < k
    · rw [if_pos h, if_pos (by omega)]
    · rw [if_neg h, if_neg (by omega)]
theorem leastK_next (seen : Nat → Bool) (step : Int) (least : Nat → Int) (k j : Nat) : leastK seen step least (k + 1) j = upd (leastK seen step least k) k (leastU seen step subw least k) j := by
  by_cases e : j = k
  · subst e; rw [upd_same]; unfold leastK; rw [if_pos (by omega)]
  · rw [upd_other _ e]; unfold leastK
    by_cases h : j < k
    · rw [if_pos h, if_pos (by omega)]
    · rw [if_neg h, if_neg (by omega)]
theorem colK_old (seen : Nat → Bool) (step : Int) (col : Nat → Int) (k : Nat) : colK seen step col k k = col k := by unfold colK; rw [if_neg (by omega)]
theorem leastK_old (seen : Nat → Bool) (step : Int) (least : Nat → Int) (k : Nat) : leastK seen step least k k = least k := by unfold leastK; rw [if_neg (by omega)]

/-- How large 'least' is. -/
theorem least_bounds {C : Nat → Nat → Int} {n r : Nat} {row col : Nat → Int} {has from_ : Nat → Nat} {least : Nat → Int} {seen : Nat → Bool} {at_ : Nat} {rk : Nat → Nat} {m : Nat}
    (hC : Small C n) (h : GI C n r row col has from_ least seen at_ rk m) (h0 : seen 0 = true) (old : Nat → Int) (hs : ∀ c, c ≤ n → seen c = true → least c = old c)
    (hlb : ∀ c, c ≤ n → -9000000000000000000 ≤ old c ∧ old c ≤ 9000000000000000000) : ∀ c, c ≤ n → -9000000000000000000 ≤ least c ∧ least c ≤ 9000000000000000000 := by
  intro c hc
  rcases hq : seen c with _ | _
  · have h1 : 1 ≤ c := by
      rcases Nat.eq_zero_or_pos c with e | e
      · subst e; rw [h0] at hq; cases hq
      · exact e
    have h2 := h.leastis h0 c h1 hc hq
    have hb := h.bounds hC
    have hne := h.seenhas _ h2.1 h2.2.1
    have hn := h.hasn _ h2.1
    have a := hC (has (from_ c) - 1) (c - 1) (by omega) (by omega)
    have b := hb.1 _ (show 1 ≤ has (from_ c) by omega) hn
    have d := hb.2 c h1 hc
    rw [h2.2.2]
    unfold sl
    omega
  · rw [hs c hc hq]; exact hlb c hc

/-- One step fewer is to come. -/
def left (n : Nat) (seen : Nat → Bool) : Int := sumTo (n + 1) fun c => if seen c = true then 0 else 1
theorem left_nonneg (n : Nat) (seen : Nat → Bool) : 0 ≤ left n seen := sumTo_nonneg fun j _ => by split <;> decide
theorem left_step {n : Nat} {seen : Nat → Bool} {at_ : Nat} (h1 : at_ ≤ n) (h2 : seen at_ = false) : left n (upd seen at_ true) + 1 = left n seen := by
  unfold left
  rw [sumTo_one (n := n + 1) (f := fun c => if upd seen at_ true c = true then (0 : Int) else 1) (g := fun c => if seen c = true then (0 : Int) else 1) (k := at_) (by omega) (fun j _ hne => by rw [upd_other _ hne])]
  rw [upd_same, h2, if_pos rfl, if_neg (by simp)]
  omega

/-- The way back: each column on the way gets the row of the one ahead; in so many steps. -/
inductive Turned (n : Nat) (from_ : Nat → Nat) : Nat → Nat → (Nat → Nat) → (Nat → Nat) → Prop
  | stop (h : Nat → Nat) : Turned n from_ 0 0 h h
  | go {k at_ : Nat} {h h' : Nat → Nat} (h0 : at_ ≠ 0) (h1 : at_ ≤ n) (h2 : from_ at_ ≤ n) (t : Turned n from_ k (from_ at_) (upd h at_ (h (from_ at_))) h') : Turned n from_ (k + 1) at_ h h'

/-- While the way back is gone: the column that waits for a row is 'at'. -/
structure TI (C : Nat → Nat → Int) (n r : Nat) (row col : Nat → Int) (from_ : Nat → Nat) (seen : Nat → Bool) (rk : Nat → Nat) (h0 : Nat → Nat) (at_ ρ : Nat) (h : Nat → Nat) : Prop where
  atn : at_ ≤ n
  inj : ∀ c d, c ≤ n → d ≤ n → c ≠ at_ → d ≠ at_ → h c = h d → h c ≠ 0 → c = d
  onto : ∀ i, 1 ≤ i → i ≤ r → ∃ c, c ≤ n ∧ c ≠ at_ ∧ h c = i
  le : ∀ c, c ≤ n → h c ≤ r
  tight : ∀ c, 1 ≤ c → c ≤ n → c ≠ at_ → h c ≠ 0 → sl C row col (h c) c = 0
  free : ∀ c, 1 ≤ c → c ≤ n → c ≠ at_ → h c = 0 → col c = 0
  back : at_ ≠ 0 → from_ at_ ≤ n ∧ seen (from_ at_) = true ∧ rk (from_ at_) < ρ ∧ sl C row col (h0 (from_ at_)) at_ = 0
  same : ∀ c, c ≤ n → seen c = true → rk c < ρ → h c = h0 c ∧ c ≠ at_

theorem TI.turned {C : Nat → Nat → Int} {n r : Nat} {row col : Nat → Int} {from_ : Nat → Nat} {seen : Nat → Bool} {rk : Nat → Nat} {h0 : Nat → Nat}
    (hchain : ∀ c, 1 ≤ c → c ≤ n → seen c = true → from_ c ≤ n ∧ seen (from_ c) = true ∧ rk (from_ c) < rk c ∧ sl C row col (h0 (from_ c)) c = 0)
    (hseenhas : ∀ c, c ≤ n → seen c = true → h0 c ≠ 0) :
    ∀ (ρ at_ : Nat) (h : Nat → Nat), TI C n r row col from_ seen rk h0 at_ ρ h → ∃ k h', Turned n from_ k at_ h h' ∧ TI C n r row col from_ seen rk h0 0 0 h' := by
  intro ρ
  induction ρ using Nat.strongRecOn with
  | _ ρ ih =>
    intro at_ h t
    by_cases e : at_ = 0
    · subst e
      exact ⟨0, h, .stop h, ⟨t.atn, t.inj, t.onto, t.le, t.tight, t.free, fun e => absurd rfl e, fun c _ _ hr => by omega⟩⟩
    · obtain ⟨b1, b2, b3, b4⟩ := t.back e
      have hs := t.same _ b1 b2 b3
      have hne : from_ at_ ≠ at_ := hs.2
      have hval : h (from_ at_) = h0 (from_ at_) := hs.1
      have hnz : h (from_ at_) ≠ 0 := by rw [hval]; exact hseenhas _ b1 b2
      have key : TI C n r row col from_ seen rk h0 (from_ at_) (rk (from_ at_)) (upd h at_ (h (from_ at_))) := by
        constructor
        · exact b1
        · intro c d hc hd hca hda hh hz
          by_cases e1 : c = at_
          · subst e1
            by_cases e2 : d = c
            · exact e2.symm
            · rw [upd_same, upd_other _ e2] at hh
              have := t.inj d (from_ c) hd b1 e2 hne hh.symm (by rw [← hh]; exact hnz)
              exact absurd this hda
          · by_cases e2 : d = at_
            · subst e2
              rw [upd_same, upd_other _ e1] at hh
              rw [upd_other _ e1] at hz
              exact absurd (t.inj c (from_ d) hc b1 e1 hne hh hz) hca
            · rw [upd_other _ e1, upd_other _ e2] at hh
              rw [upd_other _ e1] at hz
              exact t.inj c d hc hd e1 e2 hh hz
        · intro i h1 h2
          obtain ⟨c, h3, h4, h5⟩ := t.onto i h1 h2
          by_cases e1 : c = from_ at_
          · subst e1
            exact ⟨at_, t.atn, fun e => hne e.symm, by rw [upd_same]; exact h5⟩
          · exact ⟨c, h3, e1, by rw [upd_other _ h4]; exact h5⟩
        · intro c hc
          by_cases e1 : c = at_
          · subst e1; rw [upd_same]; exact t.le _ b1
          · rw [upd_other _ e1]; exact t.le c hc
        · intro c h1 h2 h3 h4
          by_cases e1 : c = at_
          · subst e1; rw [upd_same, hval]; exact b4
          · rw [upd_other _ e1] at h4 ⊢; exact t.tight c h1 h2 e1 h4
        · intro c h1 h2 h3 h4
          by_cases e1 : c = at_
          · subst e1; rw [upd_same] at h4; exact absurd h4 hnz
          · rw [upd_other _ e1] at h4; exact t.free c h1 h2 e1 h4
        · intro e1
          have := hchain (from_ at_) (by omega) b1 b2
          exact ⟨this.1, this.2.1, this.2.2.1, this.2.2.2⟩
        · intro c h1 h2 h3
          have := t.same c h1 h2 (by omega)
          refine ⟨by rw [upd_other _ this.2]; exact this.1, fun e1 => ?_⟩
          subst e1; omega
      obtain ⟨k, h', hT, hI⟩ := ih (rk (from_ at_)) b3 _ _ key
      exact ⟨k + 1, h', .go e t.atn b1 hT, hI⟩

/-- Where a free column has been come to, the row gets a column. -/
theorem GI.finish {C : Nat → Nat → Int} {n r : Nat} {row col : Nat → Int} {has from_ : Nat → Nat} {least : Nat → Int} {seen : Nat → Bool} {at_ : Nat} {rk : Nat → Nat} {m : Nat}
    (h : GI C n r row col has from_ least seen at_ rk m) (hat : has at_ = 0) : ∃ k h', Turned n from_ k at_ has h' ∧ Hung C n r row col h' ∧ ∀ c, c ≤ n → h' c ≤ n := by
  have hat0 : at_ ≠ 0 := fun e => by subst e; rw [h.has0] at hat; have := h.r1; omega
  have hle : ∀ c, c ≤ n → has c ≤ r := by
    intro c hc
    by_cases e : c = 0
    · subst e; rw [h.has0]; exact Nat.le_refl _
    · have := h.le c (by omega) hc; omega
  have t0 : TI C n r row col from_ seen rk has at_ m has := by
    constructor
    · exact h.atn
    · intro c d hc hd _ _ e hne
      by_cases e1 : c = 0
      · subst e1
        by_cases e2 : d = 0
        · exact e2.symm
        · have := h.le d (by omega) hd; rw [h.has0] at e; omega
      · by_cases e2 : d = 0
        · subst e2; have := h.le c (by omega) hc; rw [h.has0] at e; omega
        · exact h.inj c d (by omega) hc (by omega) hd e hne
    · intro i h1 h2
      by_cases e : i = r
      · exact ⟨0, by omega, fun e2 => hat0 e2.symm, by rw [h.has0]; exact e.symm⟩
      · obtain ⟨c, h3, h4, h5⟩ := h.onto i h1 (by omega)
        exact ⟨c, h4, fun e2 => by subst e2; omega, h5⟩
    · exact hle
    · intro c h1 h2 _ h4; exact h.tight c h1 h2 h4
    · intro c h1 h2 _ h4; exact h.free c h1 h2 h4
    · intro _
      have h6 := h.leastis (h.next hat0).1 at_ (by omega) h.atn h.unseen
      exact ⟨h6.1, h6.2.1, h.rank _ h6.1 h6.2.1, by rw [← h6.2.2, (h.next hat0).2]⟩
    · intro c h1 h2 _
      exact ⟨rfl, fun e => by rw [e, h.unseen] at h2; cases h2⟩
  obtain ⟨k, h', hT, hI⟩ := TI.turned h.chain h.seenhas m at_ has t0
  refine ⟨k, h', hT, ⟨⟨h.fair.nonneg, h.fair.colle, h.fair.rowge, h.fair.rowz⟩, fun c _ h2 => hI.le c h2, ?_, ?_, ?_, ?_⟩, fun c hc => by have := hI.le c hc; have := h.rn; omega⟩
  · intro c d h1 h2 h3 h4 e hne
    exact hI.inj c d h2 h4 (by omega) (by omega) e hne
  · intro i h1 h2
    obtain ⟨c, h3, h4, h5⟩ := hI.onto i h1 h2
    exact ⟨c, by omega, h3, h5⟩
  · intro c h1 h2 h3
    exact hI.tight c h1 h2 (by omega) h3
  · intro c h1 h2 h3
    exact hI.free c h1 h2 (by omega) h3

/-- When all rows have columns nothing costs less. -/
theorem Hung.best {C : Nat → Nat → Int} {n : Nat} {row col : Nat → Int} {has : Nat → Nat} (h : Hung C n n row col has) :
    (∀ c, 1 ≤ c → c ≤ n → has c ≠ 0) ∧ Inj n (fun c => has (c + 1) - 1) ∧ ∀ (x y : Nat → Nat), Inj n y → (∀ c, c < n → x (has (c + 1) - 1) = c) → sumTo n (fun r => C r (x r)) ≤ sumTo n (fun r => C r (y r)) := by
  have hne : ∀ c, 1 ≤ c → c ≤ n → has c ≠ 0 := by
    intro c h1 h2 h3
    -- else the rows would not all have columns
    have hc : ∀ i, ∃ c, i < n → 1 ≤ c ∧ c ≤ n ∧ has c = i + 1 := by
      intro i
      by_cases hi : i < n
      · obtain ⟨c, hh⟩ := h.onto (i + 1) (by omega) (by omega)
        exact ⟨c, fun _ => hh⟩
      · exact ⟨0, fun h => absurd h hi⟩
    obtain ⟨g, hg⟩ := Classical.axiomOfChoice hc
    have hI : Inj n (fun i => g i - 1) := by
      refine ⟨fun j hj => by have := hg j hj; dsimp only; omega, fun j k hj hk e => ?_⟩
      have a := hg j hj
      have b := hg k hk
      dsimp only at e
      have : g j = g k := by omega
      rw [this] at a
      omega
    obtain ⟨j, hj, e⟩ := hI.onto (c - 1) (by omega)
    have a := hg j hj
    have : g j = c := by omega
    rw [this] at a
    omega
  have hI : Inj n (fun c => has (c + 1) - 1) := by
    refine ⟨fun j hj => by have := h.le (j + 1) (by omega) (by omega); dsimp only; omega, fun j k hj hk e => ?_⟩
    have a := hne (j + 1) (by omega) (by omega)
    have b := hne (k + 1) (by omega) (by omega)
    dsimp only at e
    have := h.inj (j + 1) (k + 1) (by omega) (by omega) (by omega) (by omega) (by omega) a
    omega
  refine ⟨hne, hI, fun x y hy hx => ?_⟩
  have e1 : sumTo n (fun r => C r (x r)) = sumTo n (fun c => row (has (c + 1)) + col (c + 1)) := by
    rw [← sumTo_perm hI (fun r => C r (x r))]
    refine sumTo_congr fun c hc => ?_
    have a := hne (c + 1) (by omega) (by omega)
    have t := h.tight (c + 1) (by omega) (by omega) a
    unfold sl at t
    rw [hx c hc]
    rw [Nat.add_sub_cancel] at t
    omega
  have e2 : sumTo n (fun c => row (has (c + 1)) + col (c + 1)) = sumTo n (fun r => row (r + 1)) + sumTo n (fun c => col (c + 1)) := by
    rw [sumTo_add, ← sumTo_perm hI (fun r => row (r + 1))]
    congr 1
    refine sumTo_congr fun c hc => ?_
    have a := hne (c + 1) (by omega) (by omega)
    rw [Nat.sub_add_cancel (by omega)]
  have e3 : sumTo n (fun r => row (r + 1)) + sumTo n (fun c => col (c + 1)) = sumTo n (fun r => row (r + 1) + col (y r + 1)) := by
    rw [sumTo_add, ← sumTo_perm hy (fun c => col (c + 1))]
  rw [e1, e2, e3]
  refine sumTo_le fun r hr => ?_
  have := h.fair.nonneg (r + 1) (y r + 1) (by omega) (by omega) (by omega) (by have := hy.1 r hr; omega)
  unfold sl at this
  rw [Nat.add_sub_cancel, Nat.add_sub_cancel] at this
  omega

end Go.Proofs.YtmfgffmlnfimcaaDoor

/- A law for a region that draws its order: loads are taken first, from cells that stand as they were until a store of the region. -/
import Derived.Test.YtmfgffmlnfimcaaDoorAs
import Derived.Deep.RegionHeld3
import Derived.Deep.RegionLaw
import Derived.StillTail
namespace Go.Proofs.YtmfgffmlnfimcaaDoor
open Go Go.RowKit

section
variable {P : Program} {ops : Array Oper} {Q : Exit → Act → World → Prop} {md : Region.Mode}

/-- Whatever order is picked, and S holds behind each operation until number t has come up. -/
def wpU (P : Program) (md : Region.Mode) (ops : Array Oper) (Q : Exit → Act → World → Prop) (S : World → Prop) (t : Nat) : Nat → Array Bool → Act → World → Prop
  | 0, listed, a, w => Region.ready md ops listed = [] ∧ Q .normal a w
  | f + 1, listed, a, w => (Region.ready md ops listed = [] → Q .normal a w) ∧
    ∀ i ∈ Region.ready md ops listed, wpOp P ops Q i (fun a' w' => ((listed.setIfInBounds i true).getD t true = false → S w') ∧ wpU P md ops Q S t f (listed.setIfInBounds i true) a' w') a w

theorem wpAny_of_U {S : World → Prop} {t : Nat} : ∀ (f : Nat) (listed : Array Bool) (a : Act) (w : World), wpU P md ops Q S t f listed a w → wpAny P md ops Q f listed a w
  | 0, _, _, _, h => h
  | f + 1, _, _, _, h => ⟨h.1, fun i hi => wpOp_mono (fun a' w' h' => wpAny_of_U f _ a' w' h'.2) (h.2 i hi)⟩

/-- Behind number t nothing is asked any more. -/
theorem wpU_of_any {S : World → Prop} {t : Nat} : ∀ (f : Nat) (listed : Array Bool) (a : Act) (w : World), listed.getD t true = true → wpAny P md ops Q f listed a w → wpU P md ops Q S t f listed a w
  | 0, _, _, _, _, h => h
  | f + 1, listed, _, _, ht, h => ⟨h.1, fun i hi => wpOp_mono (fun a' w' h' => by
      have h2 : (listed.setIfInBounds i true).getD t true = true := by
        by_cases e : i = t
        · subst e
          rcases Nat.lt_or_ge i listed.size with h3 | h3
          · simp [h3]
          · simp [h3]
        · rw [getD_set_ne true e]; exact ht
      exact ⟨fun h3 => (by rw [h2] at h3; cases h3), wpU_of_any f _ a' w' h2 h'⟩) (h.2 i hi)⟩

/-- An operation that yields its value in every world that meets S, and for which number t waits, may be taken first. -/
theorem wpU_first {S : World → Prop} {t i : Nat} {oi : Oper} {v : Value} (hi : ops[i]? = some oi) (hsel : ∀ (j : Nat) (o : Oper) cs b, ops[j]? = some o → o.op ≠ .select cs b)
    (hQ : ∀ c a w, Q (.panic c) (a.put oi.dst v) w → Q (.panic c) a w) (hti : ∀ ot, ops[t]? = some ot → ∃ e ∈ ot.after, Region.binds md e = true ∧ e.on = i) :
    ∀ (fuel : Nat) (listed : Array Bool) (a : Act) (w : World),
      (∀ j oj, ops[j]? = some oj → j ≠ i → listed.getD j true = false → (∀ e ∈ oj.after, Region.binds md e = true → e.on ≠ i) → oi.apart ops oj = true) →
      i ∈ Region.ready md ops listed → listed.getD t true = false → t ≠ i → YieldsIf P ops S oi v a → S w →
      wpU P md ops Q S t fuel (listed.setIfInBounds i true) (a.put oi.dst v) w → wpU P md ops Q S t (fuel + 1) listed a w := by
  intro fuel
  induction fuel with
  | zero =>
    intro listed a w _ hr _ _ hy hS H
    refine ⟨fun h => (by rw [h] at hr; cases hr), fun j hj => ?_⟩
    by_cases hji : j = i
    · subst hji; exact hy.wpOp hi hS ⟨fun _ => hS, H⟩
    · have := ready_mono hj hji
      rw [H.1] at this
      cases this
  | succ fuel ih =>
    intro listed a w hfree hr ht hne hy hS H
    refine ⟨fun h => (by rw [h] at hr; cases hr), fun j hj => ?_⟩
    by_cases hji : j = i
    · subst hji; exact hy.wpOp hi hS ⟨fun _ => hS, H⟩
    · have h1 := H.2 j (ready_mono hj hji)
      obtain ⟨hjun, oj, hoj, hall⟩ := mem_ready.1 hj
      have hi0 := (mem_ready.1 hr).1
      have hnot : ∀ e ∈ oj.after, Region.binds md e = true → e.on ≠ i := fun e he hb heq => by
        have h1 := hall e he hb
        rw [heq] at h1
        rcases Nat.lt_or_ge i listed.size with h' | h'
        · simp [h'] at hi0 h1; rw [hi0] at h1; cases h1
        · simp [Array.getElem?_eq_none h'] at h1
      have hjt : j ≠ t := fun e => by
        subst e
        obtain ⟨e, he, hb, hon⟩ := hti oj hoj
        exact hnot e he hb hon
      have h2 := wpOp_putIf hoj (hfree j oj hoj hji hjun hnot) (fun cs b => hsel i oi cs b hi) (fun cs b => hsel j oj cs b hoj) hQ hy h1
      have hfree' : ∀ k ok, ops[k]? = some ok → k ≠ i → (listed.setIfInBounds j true).getD k true = false →
          (∀ e ∈ ok.after, Region.binds md e = true → e.on ≠ i) → oi.apart ops ok = true := fun k ok hk hki hun hno => by
        refine hfree k ok hk hki ?_ hno
        by_cases hjk : j = k
        · subst hjk; exact hjun
        · rw [getD_set_ne true hjk] at hun; exact hun
      have ht' : (listed.setIfInBounds j true).getD t true = false := by rw [getD_set_ne true hjt]; exact ht
      have ht2 : ((listed.setIfInBounds i true).setIfInBounds j true).getD t true = false := by rw [getD_set_ne true hjt, getD_set_ne true (Ne.symm hne)]; exact ht
      refine wpOp_mono (fun a' w' h3 => ⟨fun _ => h3.2.1 ht2, ih (listed.setIfInBounds j true) a' w' hfree' (ready_mono hr (Ne.symm hji)) ht' hne h3.1 (h3.2.1 ht2) ?_⟩) h2
      rw [Array.setIfInBounds_comm _ _ hji]
      exact h3.2.2

theorem wpU_take {S : World → Prop} {t i : Nat} {oi : Oper} {v : Value} {fuel : Nat} {listed : Array Bool} {a : Act} {w : World} (hi : ops[i]? = some oi)
    (hs : Region.noSelect ops = true) (hf : Region.free md ops listed i = true) (hr : (Region.ready md ops listed).contains i = true)
    (hQ : ∀ c a w, Q (.panic c) (a.put oi.dst v) w → Q (.panic c) a w) (hti : Region.waitsFor md ops t i = true) (ht : (!listed.getD t true && t != i) = true) (hy : YieldsIf P ops S oi v a) (hS : S w)
    (h : wpU P md ops Q S t fuel (listed.setIfInBounds i true) (a.put oi.dst v) w) : wpU P md ops Q S t (fuel + 1) listed a w := by
  simp only [Bool.and_eq_true, Bool.not_eq_true', bne_iff_ne, ne_eq] at ht
  refine wpU_first hi (Region.noSelect_spec hs) hQ (fun ot hot => ?_) fuel listed a w (Region.free_spec hi hf) (by simpa using hr) ht.1 ht.2 hy hS h
  obtain ⟨ot', hot', e, he, hb, hon⟩ := Region.waitsFor_spec hti
  rw [hot] at hot'
  cases hot'
  exact ⟨e, he, hb, hon⟩

/-- An operation that yields its value in whatever world may be taken first. -/
theorem wpU_first_pure {S : World → Prop} {t i : Nat} {oi : Oper} {v : Value} (hi : ops[i]? = some oi) (hsel : ∀ (j : Nat) (o : Oper) cs b, ops[j]? = some o → o.op ≠ .select cs b)
    (hQ : ∀ c a w, Q (.panic c) (a.put oi.dst v) w → Q (.panic c) a w) :
    ∀ (fuel : Nat) (listed : Array Bool) (a : Act) (w : World),
      (∀ j oj, ops[j]? = some oj → j ≠ i → listed.getD j true = false → (∀ e ∈ oj.after, Region.binds md e = true → e.on ≠ i) → oi.apart ops oj = true) →
      i ∈ Region.ready md ops listed → t ≠ i → YieldsIf P ops (fun _ => True) oi v a → (listed.getD t true = false → S w) →
      wpU P md ops Q S t fuel (listed.setIfInBounds i true) (a.put oi.dst v) w → wpU P md ops Q S t (fuel + 1) listed a w := by
  intro fuel
  induction fuel with
  | zero =>
    intro listed a w _ hr hne hy hS H
    refine ⟨fun h => (by rw [h] at hr; cases hr), fun j hj => ?_⟩
    by_cases hji : j = i
    · subst hji; exact hy.wpOp hi trivial ⟨fun h => hS (by rwa [getD_set_ne true (Ne.symm hne)] at h), H⟩
    · have := ready_mono hj hji
      rw [H.1] at this
      cases this
  | succ fuel ih =>
    intro listed a w hfree hr hne hy hS H
    refine ⟨fun h => (by rw [h] at hr; cases hr), fun j hj => ?_⟩
    by_cases hji : j = i
    · subst hji; exact hy.wpOp hi trivial ⟨fun h => hS (by rwa [getD_set_ne true (Ne.symm hne)] at h), H⟩
    · have h1 := H.2 j (ready_mono hj hji)
      obtain ⟨hjun, oj, hoj, hall⟩ := mem_ready.1 hj
      have hi0 := (mem_ready.1 hr).1
      have hnot : ∀ e ∈ oj.after, Region.binds md e = true → e.on ≠ i := fun e he hb heq => by
        have h1 := hall e he hb
        rw [heq] at h1
        rcases Nat.lt_or_ge i listed.size with h' | h'
        · simp [h'] at hi0 h1; rw [hi0] at h1; cases h1
        · simp [Array.getElem?_eq_none h'] at h1
      have h2 := wpOp_putIf hoj (hfree j oj hoj hji hjun hnot) (fun cs b => hsel i oi cs b hi) (fun cs b => hsel j oj cs b hoj) hQ hy h1
      have hfree' : ∀ k ok, ops[k]? = some ok → k ≠ i → (listed.setIfInBounds j true).getD k true = false →
          (∀ e ∈ ok.after, Region.binds md e = true → e.on ≠ i) → oi.apart ops ok = true := fun k ok hk hki hun hno => by
        refine hfree k ok hk hki ?_ hno
        by_cases hjk : j = k
        · subst hjk; exact hjun
        · rw [getD_set_ne true hjk] at hun; exact hun
      have ht2 : ∀ w', (((listed.setIfInBounds i true).setIfInBounds j true).getD t true = false → S w') → (listed.setIfInBounds j true).getD t true = false → S w' := fun w' h h3 => by
        refine h ?_
        rw [← Array.setIfInBounds_comm _ _ hji, getD_set_ne true (Ne.symm hne)]
        exact h3
      refine wpOp_mono (fun a' w' h3 => ⟨ht2 w' h3.2.1, ih (listed.setIfInBounds j true) a' w' hfree' (ready_mono hr (Ne.symm hji)) hne h3.1 (ht2 w' h3.2.1) ?_⟩) h2
      rw [Array.setIfInBounds_comm _ _ hji]
      exact h3.2.2
theorem wpU_pure {S : World → Prop} {t i : Nat} {oi : Oper} {v : Value} {fuel : Nat} {listed : Array Bool} {a : Act} {w : World} (hi : ops[i]? = some oi)
    (hs : Region.noSelect ops = true) (hf : Region.free md ops listed i = true) (hr : (Region.ready md ops listed).contains i = true)
    (hQ : ∀ c a w, Q (.panic c) (a.put oi.dst v) w → Q (.panic c) a w) (ht : (t != i) = true) (hy : YieldsIf P ops (fun _ => True) oi v a) (hS : S w)
    (h : wpU P md ops Q S t fuel (listed.setIfInBounds i true) (a.put oi.dst v) w) : wpU P md ops Q S t (fuel + 1) listed a w := by
  simp only [bne_iff_ne, ne_eq] at ht
  exact wpU_first_pure hi (Region.noSelect_spec hs) hQ fuel listed a w (Region.free_spec hi hf) (by simpa using hr) ht hy (fun _ => hS) h

theorem wpU_step {S : World → Prop} {t i : Nat} {o : Oper} {fuel : Nat} {listed : Array Bool} {a : Act} {w : World} (ho : ops[i]? = some o)
    (h : ∀ K' : Act → World → Prop, (∀ a' w', ((listed.setIfInBounds i true).getD t true = false → S w') → wpU P md ops Q S t fuel (listed.setIfInBounds i true) a' w' → K' a' w') → if Region.wanted o (yielded ops a.tmps) = true then Oper.wp P o a w K' Q else K' (a.put o.dst undef) w) :
    wpOp P ops Q i (fun a' w' => ((listed.setIfInBounds i true).getD t true = false → S w') ∧ wpU P md ops Q S t fuel (listed.setIfInBounds i true) a' w') a w :=
  wpOp_step ho fun K' hK => h K' fun a' w' h1 h2 => hK a' w' ⟨h1, h2⟩
theorem wpU_one {S : World → Prop} {t i : Nat} {fuel : Nat} {listed : Array Bool} {a : Act} {w : World} (hr : Region.ready md ops listed = [i])
    (h : wpOp P ops Q i (fun a' w' => ((listed.setIfInBounds i true).getD t true = false → S w') ∧ wpU P md ops Q S t fuel (listed.setIfInBounds i true) a' w') a w) : wpU P md ops Q S t (fuel + 1) listed a w := by
  refine ⟨fun h0 => (by rw [hr] at h0; cases h0), fun j hj => ?_⟩
  rw [hr] at hj
  obtain rfl : j = i := by simpa using hj
  exact h
theorem wpU_two {S : World → Prop} {t i j : Nat} {fuel : Nat} {listed : Array Bool} {a : Act} {w : World} (hr : Region.ready md ops listed = [i, j])
    (h : wpOp P ops Q i (fun a' w' => ((listed.setIfInBounds i true).getD t true = false → S w') ∧ wpU P md ops Q S t fuel (listed.setIfInBounds i true) a' w') a w)
    (h' : wpOp P ops Q j (fun a' w' => ((listed.setIfInBounds j true).getD t true = false → S w') ∧ wpU P md ops Q S t fuel (listed.setIfInBounds j true) a' w') a w) : wpU P md ops Q S t (fuel + 1) listed a w := by
  refine ⟨fun h0 => (by rw [hr] at h0; cases h0), fun k hk => ?_⟩
  rw [hr] at hk
  simp only [List.mem_cons, List.not_mem_nil, or_false] at hk
  rcases hk with rfl | rfl
  · exact h
  · exact h'
theorem wpU_done {S : World → Prop} {t : Nat} {listed : Array Bool} {a : Act} {w : World} (hr : Region.ready md ops listed = []) (h : Q .normal a w) : ∀ fuel, wpU P md ops Q S t fuel listed a w
  | 0 => ⟨hr, h⟩
  | _ + 1 => ⟨fun _ => h, by rw [hr]; simp⟩

theorem wp_region_U {S : World → Prop} (t : Nat) {id : Nat} {a : Act} {w : World} (hm : P.follows .mixedOrders = true) (h : wpU P .any ops (NoPanic Q) S t ops.size (Array.replicate ops.size false) a w.drew) : (Code.region id ops true).wp P Q a w :=
  wp_region_noPanic (wp_region_any hm (wpAny_of_U _ _ _ _ h))
end
end Go.Proofs.YtmfgffmlnfimcaaDoor

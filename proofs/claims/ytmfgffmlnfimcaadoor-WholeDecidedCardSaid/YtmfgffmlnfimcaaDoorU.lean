/- Loads that are kept dominate all choices of items: plain Lean. -/
import Derived.Test.YtmfgffmlnfimcaaDoorK
import Derived.Test.YtmfgffmlnfimcaaDoorT
namespace Go.Proofs.YtmfgffmlnfimcaaDoor

/-- What the items of a choice come to. -/
def pick (f : Nat → Int) (T k : Nat) : Int := sumTo k fun j => if T.testBit j then f j else 0

theorem pick_succ (f : Nat → Int) (T k : Nat) : pick f T (k + 1) = pick f T k + if T.testBit k then f k else 0 := rfl
theorem pick_same (f : Nat → Int) {T T' k : Nat} (h : ∀ j, j < k → T.testBit j = T'.testBit j) : pick f T k = pick f T' k := sumTo_congr fun j hj => by rw [h j hj]
theorem pick_old (f : Nat → Int) {T k : Nat} (h : T < 2 ^ k) : pick f T (k + 1) = pick f T k := by
  rw [pick_succ, Nat.testBit_lt_two_pow h]; simp
theorem or_bit (T k j : Nat) : (T ||| 2 ^ k).testBit j = (T.testBit j || decide (j = k)) := by
  rw [Nat.testBit_or, Nat.testBit_two_pow]
  by_cases h : j = k
  · subst h; simp
  · have : ¬ k = j := fun e => h e.symm
    simp [h, this]
theorem pick_new (f : Nat → Int) {T k : Nat} (_ : T < 2 ^ k) : pick f (T ||| 2 ^ k) (k + 1) = pick f T k + f k := by
  rw [pick_succ, or_bit]
  simp only [decide_true, Bool.or_true, if_true]
  rw [pick_same f (T := T ||| 2 ^ k) (T' := T) fun j hj => by rw [or_bit]; simp; omega]
theorem or_lt {T k : Nat} (h : T < 2 ^ k) : T ||| 2 ^ k < 2 ^ (k + 1) :=
  Nat.or_lt_two_pow (Nat.lt_of_lt_of_le h (Nat.pow_le_pow_right (by decide) (by omega))) (Nat.pow_lt_pow_right (by decide) (by omega))
theorem mod_bit (T k j : Nat) (h : j < k) : (T % 2 ^ k).testBit j = T.testBit j := by rw [Nat.testBit_mod_two_pow]; simp [h]
theorem pick_zero (f : Nat → Int) (k : Nat) : pick f 0 k = 0 := by
  induction k with
  | zero => rfl
  | succ k ih => rw [pick_succ, ih]; simp
theorem pick_range {f : Nat → Int} {T k : Nat} (h : ∀ j, j < k → 0 ≤ f j ∧ f j ≤ 2147483647) : 0 ≤ pick f T k ∧ pick f T k ≤ k * 2147483647 :=
  sumTo_range (Nat.le_refl k) fun j hj => by
    split
    · exact h j hj
    · exact ⟨Int.le_refl _, by decide⟩

/-- The loads kept after k items. -/
structure DP (ws vs : Nat → Int) (cap : Int) (k : Nat) (ls : List LdB) : Prop where
  sound : ∀ l ∈ ls, l.1.s < 2 ^ k ∧ l.1.w = pick ws l.1.s k ∧ l.1.v = pick vs l.1.s k ∧ l.1.w ≤ cap
  full : ∀ T, T < 2 ^ k → pick ws T k ≤ cap → ∃ l ∈ ls, l.1.w ≤ pick ws T k ∧ pick vs T k ≤ l.1.v
  len : ls.length ≤ 2 ^ k

theorem DP.ne {ws vs : Nat → Int} {cap : Int} {k : Nat} {ls : List LdB} (h : DP ws vs cap k ls) (hc : 0 ≤ cap) : ls ≠ [] := by
  obtain ⟨l, h1, _⟩ := h.full 0 (Nat.pow_pos (by decide)) (by rw [pick_zero]; exact hc)
  intro e; rw [e] at h1; cases h1

theorem DP.start (ws vs : Nat → Int) {cap : Int} (hc : 0 ≤ cap) (l : LdB) (hl : l.1 = ⟨0, 0, 0⟩) : DP ws vs cap 0 [l] := by
  refine ⟨fun a ha => ?_, fun T hT _ => ⟨l, by simp, ?_⟩, by simp⟩
  · obtain rfl : a = l := by simpa using ha
    rw [hl]
    exact ⟨by decide, rfl, rfl, hc⟩
  · rw [hl]
    exact ⟨Int.le_refl _, Int.le_refl _⟩

theorem DP.ok {ws vs : Nat → Int} {cap : Int} {k : Nat} {ls : List LdB} (h : DP ws vs cap k ls) (hk : k < 63) (hw : ∀ j, j ≤ k → 0 ≤ ws j ∧ ws j ≤ 2147483647) (hv : ∀ j, j ≤ k → 0 ≤ vs j ∧ vs j ≤ 2147483647) : ∀ l ∈ ls, (l.1.plus (ws k) (vs k) k).ok := by
  intro l hl
  obtain ⟨h1, h2, h3, _⟩ := h.sound l hl
  have a := pick_range (T := l.1.s) fun j (hj : j < k) => hw j (by omega)
  have b := pick_range (T := l.1.s) fun j (hj : j < k) => hv j (by omega)
  have c := hw k (Nat.le_refl _)
  have d := hv k (Nat.le_refl _)
  have e := or_lt h1
  have f : 2 ^ (k + 1) ≤ 2 ^ 63 := Nat.pow_le_pow_right (by decide) (by omega)
  refine ⟨?_, ?_, ?_, ?_, ?_⟩
  · show 0 ≤ l.1.w + ws k; omega
  · show l.1.w + ws k ≤ _; omega
  · show 0 ≤ l.1.v + vs k; omega
  · show l.1.v + vs k ≤ _; omega
  · show l.1.s ||| 2 ^ k < _; omega

theorem DP.next {ws vs : Nat → Int} {cap : Int} {k : Nat} {ls out res : List LdB} (h : DP ws vs cap k ls) (hw : 0 ≤ ws k) (h1 : WithR (ws k) (vs k) cap k ls out) (h2 : BestR (ls ++ out) res) : DP ws vs cap (k + 1) res := by
  have hp : 2 ^ (k + 1) = 2 ^ k + 2 ^ k := by rw [Nat.pow_succ]; omega
  refine ⟨fun m hm => ?_, fun T hT hc => ?_, ?_⟩
  · rcases List.mem_append.1 (h2.sub m hm) with ha | ha
    · obtain ⟨a, b, c, d⟩ := h.sound m ha
      exact ⟨by omega, by rw [pick_old ws a]; exact b, by rw [pick_old vs a]; exact c, d⟩
    · obtain ⟨l, hl, hr, e⟩ := h1.from_ m ha
      obtain ⟨a, b, c, d⟩ := h.sound l hl
      rw [e]
      refine ⟨or_lt a, ?_, ?_, hr⟩
      · show l.1.w + ws k = pick ws (l.1.s ||| 2 ^ k) (k + 1)
        rw [pick_new ws a, b]
      · show l.1.v + vs k = pick vs (l.1.s ||| 2 ^ k) (k + 1)
        rw [pick_new vs a, c]
  · have hmod : T % 2 ^ k < 2 ^ k := Nat.mod_lt _ (Nat.pow_pos (by decide))
    have ew := pick_same ws (T := T % 2 ^ k) (T' := T) (k := k) fun j hj => mod_bit T k j hj
    have ev := pick_same vs (T := T % 2 ^ k) (T' := T) (k := k) fun j hj => mod_bit T k j hj
    rw [pick_succ] at hc ⊢
    rw [pick_succ]
    rcases hb : T.testBit k with _ | _
    · rw [hb] at hc
      simp only [Bool.false_eq_true, if_false, Int.add_zero] at hc ⊢
      obtain ⟨l, hl, a, b⟩ := h.full (T % 2 ^ k) hmod (by omega)
      obtain ⟨m, hm, c, d⟩ := h2.dom l (List.mem_append_left _ hl)
      exact ⟨m, hm, by omega, by omega⟩
    · rw [hb] at hc
      simp only [if_true] at hc ⊢
      obtain ⟨l, hl, a, b⟩ := h.full (T % 2 ^ k) hmod (by omega)
      obtain ⟨m0, hm0, e⟩ := h1.all l hl (by omega)
      obtain ⟨m, hm, c, d⟩ := h2.dom m0 (List.mem_append_right _ hm0)
      rw [e] at c d
      have c' : m.1.w ≤ l.1.w + ws k := c
      have d' : l.1.v + vs k ≤ m.1.v := d
      exact ⟨m, hm, by omega, by omega⟩
  · have a := h2.len
    have b := h1.len
    have c := h.len
    rw [List.length_append] at a
    omega

/-- Choices are all there. -/
theorem mask_of (p : Nat → Bool) : ∀ n, ∃ T, T < 2 ^ n ∧ ∀ j, j < n → T.testBit j = p j
  | 0 => ⟨0, by decide, fun j h => by omega⟩
  | n + 1 => by
    obtain ⟨T, h1, h2⟩ := mask_of p n
    rcases hp : p n with _ | _
    · refine ⟨T, Nat.lt_of_lt_of_le h1 (Nat.pow_le_pow_right (by decide) (by omega)), fun j hj => ?_⟩
      by_cases e : j = n
      · subst e; rw [hp]; exact Nat.testBit_lt_two_pow h1
      · exact h2 j (by omega)
    · refine ⟨T ||| 2 ^ n, or_lt h1, fun j hj => ?_⟩
      rw [or_bit]
      by_cases e : j = n
      · subst e; simp [hp]
      · rw [h2 j (by omega)]; simp [e]

theorem sumTo_sub' (k : Nat) (f g : Nat → Int) : (sumTo k fun j => f j - g j) = sumTo k f - sumTo k g := by
  induction k with
  | zero => rfl
  | succ k ih => simp only [sumTo, ih]; omega

/-- What the best load tells is a best answer. -/
theorem knap_opt (I : Inst) (n : Nat) (hn : I.n = (n : Int)) (hk : I.kind = 1) {ls : List LdB} (h : DP (fun j => I.ws.getD j 0) (fun j => I.vs.getD j 0) I.cap n ls) {top : LdB} (ht : top ∈ ls) (hm : ∀ l ∈ ls, l.1.v ≤ top.1.v) {x : List Int} (hx : x.length = n) (hxb : ∀ j, j < n → x.getD j 0 = if top.1.s.testBit j then 1 else 0) : Opt I x := by
  have hN : I.n.toNat = n := by omega
  obtain ⟨s1, s2, s3, s4⟩ := h.sound top ht
  have hW : ∀ (y : List Int) (T : Nat), (∀ j, j < n → (y.getD j 0 = 1 ↔ T.testBit j = true)) → kW I y n = pick (fun j => I.ws.getD j 0) T n := by
    intro y T hy
    refine sumTo_congr fun j hj => ?_
    by_cases e : y.getD j 0 = 1
    · rw [if_pos e, if_pos ((hy j hj).1 e)]
    · rw [if_neg e, if_neg (fun h => e ((hy j hj).2 h))]
  have hC : ∀ (y : List Int) (T : Nat), (∀ j, j < n → (y.getD j 0 = 0 ∨ y.getD j 0 = 1)) → (∀ j, j < n → (y.getD j 0 = 1 ↔ T.testBit j = true)) → kC I y n = sumTo n (fun j => I.vs.getD j 0) - pick (fun j => I.vs.getD j 0) T n := by
    intro y T h01 hy
    rw [pick, ← sumTo_sub']
    refine sumTo_congr fun j hj => ?_
    rcases h01 j hj with e | e
    · have : ¬ T.testBit j = true := fun h => by have := (hy j hj).2 h; omega
      rw [if_pos e, if_neg this]; omega
    · rw [if_neg (by omega), if_pos ((hy j hj).1 e)]; omega
  have hx1 : ∀ j, j < n → (x.getD j 0 = 1 ↔ top.1.s.testBit j = true) := by
    intro j hj
    rw [hxb j hj]
    cases top.1.s.testBit j <;> simp
  have hx01 : ∀ j, j < n → (x.getD j 0 = 0 ∨ x.getD j 0 = 1) := by
    intro j hj
    rw [hxb j hj]
    cases top.1.s.testBit j <;> simp
  refine ⟨⟨fun _ => ⟨by rw [hN]; exact hx, by rw [hN]; exact hx01, by rw [hN, hW x _ hx1, ← s2]; exact s4⟩, fun h => absurd hk h⟩, fun y hy => ?_⟩
  obtain ⟨hyl, hy01, hyw⟩ := hy.1 hk
  rw [hN] at hy01 hyw
  obtain ⟨T, hT, hTb⟩ := mask_of (fun j => decide (y.getD j 0 = 1)) n
  have hy1 : ∀ j, j < n → (y.getD j 0 = 1 ↔ T.testBit j = true) := fun j hj => by rw [hTb j hj]; simp
  rw [hW y T hy1] at hyw
  obtain ⟨l, hl, _, hlv⟩ := h.full T hT hyw
  have := hm l hl
  unfold costOf
  rw [if_pos hk, if_pos hk, hN, hC x _ hx01 hx1, hC y T hy01 hy1, ← s3]
  omega
end Go.Proofs.YtmfgffmlnfimcaaDoor

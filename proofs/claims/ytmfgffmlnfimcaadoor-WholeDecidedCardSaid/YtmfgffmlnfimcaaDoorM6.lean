/- Best costs, told without answers, and how they move: plain Lean. -/
import Derived.Test.YtmfgffmlnfimcaaDoorM5
namespace Go.Proofs.YtmfgffmlnfimcaaDoor

/-- What items weigh that are taken; what those are worth that are not. -/
def wS (ws : Nat → Int) (n : Nat) (t : Nat → Bool) : Int := sumTo n fun j => if t j then ws j else 0
def vS (vs : Nat → Int) (n : Nat) (t : Nat → Bool) : Int := sumTo n fun j => if t j then 0 else vs j
/-- What an assignment costs. -/
def ac (A : Nat → Nat → Int) (n : Nat) (y : Nat → Nat) : Int := sumTo n fun j => A j (y j)

/-- C is the lowest cost. -/
def Best1 (ws vs : Nat → Int) (n : Nat) (cap C : Int) : Prop := (∃ t, wS ws n t ≤ cap ∧ vS vs n t = C) ∧ ∀ t, wS ws n t ≤ cap → C ≤ vS vs n t
def Best2 (A : Nat → Nat → Int) (n : Nat) (C : Int) : Prop := (∃ y, Inj n y ∧ ac A n y = C) ∧ ∀ y, Inj n y → C ≤ ac A n y
def Best3 (A : Nat → Nat → Int) (n : Nat) (C : Int) : Prop := (∃ y, Inj n y ∧ tc A n y = C) ∧ ∀ y, Inj n y → C ≤ tc A n y

theorem Best1.eq {ws vs : Nat → Int} {n : Nat} {cap C D : Int} (h : Best1 ws vs n cap C) (k : Best1 ws vs n cap D) : C = D := by
  obtain ⟨⟨t, h1, h2⟩, h3⟩ := h
  obtain ⟨⟨u, k1, k2⟩, k3⟩ := k
  have := h3 u k1
  have := k3 t h1
  omega
theorem Best2.eq {A : Nat → Nat → Int} {n : Nat} {C D : Int} (h : Best2 A n C) (k : Best2 A n D) : C = D := by
  obtain ⟨⟨t, h1, h2⟩, h3⟩ := h
  obtain ⟨⟨u, k1, k2⟩, k3⟩ := k
  have := h3 u k1
  have := k3 t h1
  omega
theorem Best3.eq {A : Nat → Nat → Int} {n : Nat} {C D : Int} (h : Best3 A n C) (k : Best3 A n D) : C = D := by
  obtain ⟨⟨t, h1, h2⟩, h3⟩ := h
  obtain ⟨⟨u, k1, k2⟩, k3⟩ := k
  have := h3 u k1
  have := k3 t h1
  omega

theorem wS_congr {ws ws' : Nat → Int} {n : Nat} {t t' : Nat → Bool} (h : ∀ j, j < n → ws j = ws' j) (ht : ∀ j, j < n → t j = t' j) : wS ws n t = wS ws' n t' := sumTo_congr fun j hj => by rw [h j hj, ht j hj]
theorem vS_congr {vs vs' : Nat → Int} {n : Nat} {t t' : Nat → Bool} (h : ∀ j, j < n → vs j = vs' j) (ht : ∀ j, j < n → t j = t' j) : vS vs n t = vS vs' n t' := sumTo_congr fun j hj => by rw [h j hj, ht j hj]
theorem ac_congr {A B : Nat → Nat → Int} {n : Nat} {y z : Nat → Nat} (h : ∀ a b, a < n → b < n → A a b = B a b) (hy : ∀ j, j < n → y j < n) (e : ∀ j, j < n → y j = z j) : ac A n y = ac B n z := sumTo_congr fun j hj => by rw [h j _ hj (hy j hj), e j hj]

theorem Best1.congr {ws vs ws' vs' : Nat → Int} {n : Nat} {cap C : Int} (h : Best1 ws vs n cap C) (e : ∀ j, j < n → ws j = ws' j) (e2 : ∀ j, j < n → vs j = vs' j) : Best1 ws' vs' n cap C := by
  have w := fun t => wS_congr (t := t) (t' := t) e fun _ _ => rfl
  have v := fun t => vS_congr (t := t) (t' := t) e2 fun _ _ => rfl
  obtain ⟨⟨t, h1, h2⟩, h3⟩ := h
  exact ⟨⟨t, by rw [← w]; exact h1, by rw [← v]; exact h2⟩, fun u hu => by rw [← v]; exact h3 u (by rw [w]; exact hu)⟩
theorem Best2.congr {A B : Nat → Nat → Int} {n : Nat} {C : Int} (h : Best2 A n C) (e : ∀ a b, a < n → b < n → A a b = B a b) : Best2 B n C := by
  obtain ⟨⟨y, h1, h2⟩, h3⟩ := h
  exact ⟨⟨y, h1, by rw [← ac_congr e h1.1 fun _ _ => rfl]; exact h2⟩, fun u hu => by rw [← ac_congr e hu.1 fun _ _ => rfl]; exact h3 u hu⟩
theorem Best3.congr {A B : Nat → Nat → Int} {n : Nat} {C : Int} (h : Best3 A n C) (hn : 0 < n) (e : ∀ a b, a < n → b < n → A a b = B a b) : Best3 B n C := by
  obtain ⟨⟨y, h1, h2⟩, h3⟩ := h
  exact ⟨⟨y, h1, by rw [← tc_congr hn (fun _ _ => rfl) e h1.1]; exact h2⟩, fun u hu => by rw [← tc_congr hn (fun _ _ => rfl) e hu.1]; exact h3 u hu⟩

/-! Numbered otherwise. -/
theorem wS_perm (ws : Nat → Int) {n : Nat} {p : Nat → Nat} (hp : Inj n p) (t : Nat → Bool) : wS (fun j => ws (p j)) n (fun j => t (p j)) = wS ws n t := sumTo_perm hp fun j => if t j then ws j else 0
theorem vS_perm (vs : Nat → Int) {n : Nat} {p : Nat → Nat} (hp : Inj n p) (t : Nat → Bool) : vS (fun j => vs (p j)) n (fun j => t (p j)) = vS vs n t := sumTo_perm hp fun j => if t j then 0 else vs j

theorem Best1.perm {ws vs : Nat → Int} {n : Nat} {cap C : Int} (h : Best1 ws vs n cap C) {p : Nat → Nat} (hp : Inj n p) : Best1 (fun j => ws (p j)) (fun j => vs (p j)) n cap C := by
  obtain ⟨⟨t, h1, h2⟩, h3⟩ := h
  obtain ⟨g, hg, e1, e2⟩ := hp.back
  refine ⟨⟨fun j => t (p j), by rw [wS_perm ws hp]; exact h1, by rw [vS_perm vs hp]; exact h2⟩, fun u hu => ?_⟩
  have hw := wS_perm ws hp fun j => u (g j)
  have hv := vS_perm vs hp fun j => u (g j)
  rw [wS_congr (ws' := fun j => ws (p j)) (t' := u) (fun _ _ => rfl) fun j hj => by rw [e1 j hj]] at hw
  rw [vS_congr (vs' := fun j => vs (p j)) (t' := u) (fun _ _ => rfl) fun j hj => by rw [e1 j hj]] at hv
  rw [hv]
  exact h3 _ (by rw [← hw]; exact hu)

/-- An assignment, rows and columns numbered otherwise. -/
theorem ac_perm (A : Nat → Nat → Int) {n : Nat} {p q : Nat → Nat} (hp : Inj n p) {y z : Nat → Nat} (e : ∀ j, j < n → z (p j) = q (y j)) : ac (fun a b => A (p a) (q b)) n y = ac A n z := by
  rw [show ac A n z = sumTo n (fun j => A j (z j)) from rfl, ← sumTo_perm hp fun j => A j (z j)]
  exact sumTo_congr fun j hj => by dsimp only; rw [e j hj]
theorem Best2.perm {A : Nat → Nat → Int} {n : Nat} {C : Int} (h : Best2 A n C) {p q : Nat → Nat} (hp : Inj n p) (hq : Inj n q) : Best2 (fun a b => A (p a) (q b)) n C := by
  obtain ⟨⟨z, h1, h2⟩, h3⟩ := h
  obtain ⟨gp, hgp, e1, e2⟩ := hp.back
  obtain ⟨gq, hgq, f1, f2⟩ := hq.back
  refine ⟨⟨fun j => gq (z (p j)), hgq.comp (h1.comp hp), ?_⟩, fun y hy => ?_⟩
  · rw [ac_perm A hp (z := z) fun j hj => (f2 _ (h1.1 _ (hp.1 j hj))).symm]; exact h2
  · rw [ac_perm A hp (z := fun j => q (y (gp j))) fun j hj => by rw [e1 j hj]]
    exact h3 _ (hq.comp (hy.comp hgp))
theorem Best3.perm {A : Nat → Nat → Int} {n : Nat} {C : Int} (h : Best3 A n C) (hn : 0 < n) {p : Nat → Nat} (hp : Inj n p) : Best3 (fun a b => A (p a) (p b)) n C := by
  obtain ⟨⟨z, h1, h2⟩, h3⟩ := h
  obtain ⟨g, hg, e1, e2⟩ := hp.back
  refine ⟨⟨fun j => g (z j), hg.comp h1, ?_⟩, fun y hy => h3 (fun j => p (y j)) (hp.comp hy)⟩
  rw [← h2]
  exact sumTo_congr fun j hj => by
    dsimp only
    rw [e2 _ (h1.1 j hj), e2 _ (h1.1 _ (Nat.mod_lt _ hn))]

/-! Every answer dearer by as much. -/
theorem Best2.more {A B : Nat → Nat → Int} {n : Nat} {C d : Int} (h : Best2 A n C) (e : ∀ y, Inj n y → ac B n y = ac A n y + d) : Best2 B n (C + d) := by
  obtain ⟨⟨z, h1, h2⟩, h3⟩ := h
  exact ⟨⟨z, h1, by rw [e z h1, h2]⟩, fun y hy => by rw [e y hy]; have := h3 y hy; omega⟩
theorem Best3.more {A B : Nat → Nat → Int} {n : Nat} {C d : Int} (h : Best3 A n C) (e : ∀ y, Inj n y → tc B n y = tc A n y + d) : Best3 B n (C + d) := by
  obtain ⟨⟨z, h1, h2⟩, h3⟩ := h
  exact ⟨⟨z, h1, by rw [e z h1, h2]⟩, fun y hy => by rw [e y hy]; have := h3 y hy; omega⟩

theorem sum_at {n : Nat} {y : Nat → Nat} (hy : Inj n y) {k : Nat} (hk : k < n) (d : Int) : (sumTo n fun j => if y j = k then d else 0) = d := by
  obtain ⟨i, hi, e⟩ := hy.onto k hk
  rw [sumTo_single hi fun j hj hne => by rw [if_neg fun e2 => hne (hy.2 j i hj hi (by omega))], if_pos e]

theorem raised2_row {A : Nat → Nat → Int} {n k : Nat} {d : Int} (hk : k < n) {y : Nat → Nat} : ac (fun a b => A a b + if a = k then d else 0) n y = ac A n y + d := by
  unfold ac
  rw [sumTo_add, sum_at (Inj.id n) hk]
theorem raised2_col {A : Nat → Nat → Int} {n k : Nat} {d : Int} (hk : k < n) {y : Nat → Nat} (hy : Inj n y) : ac (fun a b => A a b + if b = k then d else 0) n y = ac A n y + d := by
  unfold ac
  rw [sumTo_add, sum_at hy hk]
theorem next_ne {n : Nat} (hn : 2 ≤ n) {y : Nat → Nat} (hy : Inj n y) {j : Nat} (hj : j < n) : y j ≠ y ((j + 1) % n) := by
  intro e
  have hm := Nat.mod_lt (j + 1) (show 0 < n by omega)
  have := hy.2 j _ hj hm e
  by_cases h : j + 1 = n
  · rw [h, Nat.mod_self] at this; omega
  · rw [Nat.mod_eq_of_lt (by omega)] at this; omega
theorem raised3_row {A : Nat → Nat → Int} {n k : Nat} {d : Int} (hn : 2 ≤ n) (hk : k < n) {y : Nat → Nat} (hy : Inj n y) : tc (fun a b => A a b + if a = k ∧ a ≠ b then d else 0) n y = tc A n y + d := by
  unfold tc
  have h : (sumTo n fun j => if y j = k ∧ y j ≠ y ((j + 1) % n) then d else 0) = sumTo n fun j => if y j = k then d else 0 := sumTo_congr fun j hj => by
    have := next_ne hn hy hj
    by_cases e : y j = k
    · rw [if_pos e, if_pos ⟨e, this⟩]
    · rw [if_neg e, if_neg fun h => e h.1]
  rw [sumTo_add, h, sum_at hy hk]
theorem raised3_col {A : Nat → Nat → Int} {n k : Nat} {d : Int} (hn : 2 ≤ n) (hk : k < n) {y : Nat → Nat} (hy : Inj n y) : tc (fun a b => A a b + if b = k ∧ a ≠ b then d else 0) n y = tc A n y + d := by
  unfold tc
  have h : (sumTo n fun j => if y ((j + 1) % n) = k ∧ y j ≠ y ((j + 1) % n) then d else 0) = sumTo n fun j => if y ((j + 1) % n) = k then d else 0 := sumTo_congr fun j hj => by
    have := next_ne hn hy hj
    by_cases e : y ((j + 1) % n) = k
    · rw [if_pos e, if_pos ⟨e, this⟩]
    · rw [if_neg e, if_neg fun h => e h.1]
  rw [sumTo_add, h, sum_at (hy.comp (Inj.shift n 1 (by omega))) hk]

/-- An item that weighs nothing. -/
theorem Best1.free {ws vs : Nat → Int} {n : Nat} {cap C : Int} (h : Best1 ws vs n cap C) (hw : ws n = 0) (hv : 0 ≤ vs n) : Best1 ws vs (n + 1) cap C := by
  obtain ⟨⟨t, h1, h2⟩, h3⟩ := h
  refine ⟨⟨fun j => if j < n then t j else true, ?_, ?_⟩, fun u hu => ?_⟩
  · show wS ws n (fun j => if j < n then t j else true) + (if (if n < n then t n else true) = true then ws n else 0) ≤ cap
    rw [wS_congr (ws' := ws) (t' := t) (fun _ _ => rfl) fun j hj => if_pos hj, if_neg (Nat.lt_irrefl n), if_pos rfl, hw]; omega
  · show vS vs n (fun j => if j < n then t j else true) + (if (if n < n then t n else true) = true then 0 else vs n) = C
    rw [vS_congr (vs' := vs) (t' := t) (fun _ _ => rfl) fun j hj => if_pos hj, if_neg (Nat.lt_irrefl n), if_pos rfl]; omega
  · have e1 : wS ws (n + 1) u = wS ws n u + if u n then ws n else 0 := rfl
    have e2 : vS vs (n + 1) u = vS vs n u + if u n then 0 else vs n := rfl
    have hz : (if u n then ws n else 0) = 0 := by split <;> omega
    have := h3 u (by rw [e1, hz] at hu; omega)
    rw [e2]
    split <;> omega

/-! From a best answer. -/
theorem costA {I : Inst} (hk : I.kind = 2) {n : Nat} (hn : I.n = (n : Int)) (x : List Int) : costOf I x = ac (elt I) n fun j => (x.getD j 0).toNat := cost2 hk hn x
theorem Opt.best2 {I : Inst} (hk : I.kind = 2) {n : Nat} (hn : I.n = (n : Int)) {x : List Int} (h : Opt I x) : Best2 (elt I) n (costOf I x) :=
  ⟨⟨_, h.1.inj hn (by omega), (costA hk hn x).symm⟩, fun _ hy => opt2 hk hn h hy⟩
theorem Opt.best3 {I : Inst} (hk : I.kind = 3) {n : Nat} (hn : I.n = (n : Int)) (hn0 : 0 < n) {x : List Int} (h : Opt I x) : Best3 (elt I) n (costOf I x) :=
  ⟨⟨_, h.1.inj hn (by omega), (cost3 hk hn x).symm⟩, fun _ hy => opt3 hk hn hn0 h hy⟩

/-- An answer to a knapsack. -/
def bitL (n : Nat) (t : Nat → Bool) : List Int := (List.range n).map fun j => if t j then 1 else 0
theorem bitL_len (n : Nat) (t : Nat → Bool) : (bitL n t).length = n := by simp [bitL]
theorem bitL_get {n : Nat} (t : Nat → Bool) {j : Nat} (hj : j < n) : (bitL n t).getD j 0 = if t j then 1 else 0 := by
  unfold bitL; simp [List.getD_eq_getElem?_getD, hj]
def gw (I : Inst) (j : Nat) : Int := I.ws.getD j 0
def gv (I : Inst) (j : Nat) : Int := I.vs.getD j 0
theorem cost1 {I : Inst} (hk : I.kind = 1) {n : Nat} (hn : I.n = (n : Int)) {x : List Int} {t : Nat → Bool} (e : ∀ j, j < n → (x.getD j 0 = 0 ↔ t j = false)) : costOf I x = vS (gv I) n t := by
  unfold costOf kC vS
  rw [if_pos hk, hn, Int.toNat_natCast]
  refine sumTo_congr fun j hj => ?_
  have := e j hj
  cases ht : t j
  · rw [if_pos (this.2 ht)]; rfl
  · rw [if_neg fun h => by rw [this.1 h] at ht; cases ht]; rfl
theorem weight1 {I : Inst} {n : Nat} {x : List Int} {t : Nat → Bool} (e : ∀ j, j < n → (x.getD j 0 = 1 ↔ t j = true)) : kW I x n = wS (gw I) n t := by
  unfold kW wS
  refine sumTo_congr fun j hj => ?_
  have := e j hj
  cases ht : t j
  · rw [if_neg fun h => by rw [this.1 h] at ht; cases ht]; rfl
  · rw [if_pos (this.2 ht)]; rfl
theorem feas1 {I : Inst} (hk : I.kind = 1) {n : Nat} (hn : I.n = (n : Int)) {t : Nat → Bool} (h : wS (gw I) n t ≤ I.cap) : Feas I (bitL n t) := by
  refine ⟨fun _ => ⟨by rw [bitL_len, hn, Int.toNat_natCast], fun j hj => ?_, ?_⟩, fun e => absurd hk e⟩
  · rw [hn, Int.toNat_natCast] at hj
    rw [bitL_get t hj]; cases t j <;> simp
  · rw [hn, Int.toNat_natCast, weight1 (t := t) fun j hj => by rw [bitL_get t hj]; cases t j <;> simp]
    exact h
theorem Opt.best1 {I : Inst} (hk : I.kind = 1) {n : Nat} (hn : I.n = (n : Int)) {x : List Int} (h : Opt I x) : Best1 (gw I) (gv I) n I.cap (costOf I x) := by
  obtain ⟨hl, h01, hw⟩ := h.1.1 hk
  rw [hn, Int.toNat_natCast] at h01 hw
  refine ⟨⟨fun j => decide (x.getD j 0 = 1), ?_, ?_⟩, fun t ht => ?_⟩
  · rw [← weight1 (x := x) fun j hj => by simp]; exact hw
  · refine (cost1 hk hn (x := x) fun j hj => ?_).symm
    rcases h01 j hj with e | e <;> rw [e] <;> simp
  · rw [← cost1 hk hn (x := bitL n t) fun j hj => by rw [bitL_get t hj]; cases t j <;> simp]
    exact h.2 _ (feas1 hk hn ht)
end Go.Proofs.YtmfgffmlnfimcaaDoor

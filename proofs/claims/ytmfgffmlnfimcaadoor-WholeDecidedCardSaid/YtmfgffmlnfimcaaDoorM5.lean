/- Best answers of assignments and of tours, and maps between problems: plain Lean. -/
import Derived.Test.YtmfgffmlnfimcaaDoorK
namespace Go.Proofs.YtmfgffmlnfimcaaDoor

/-- A problem with other costs. -/
def setC (I : Inst) (n : Nat) (f : Nat → Nat → Int) : Inst := { I with cost := (List.range n).map fun a => (List.range n).map fun b => f a b }

theorem getD_rows {n : Nat} (f : Nat → List Int) {a : Nat} (ha : a < n) : ((List.range n).map f).getD a [] = f a := by
  simp [List.getD_eq_getElem?_getD, ha]
theorem getD_row {n : Nat} (f : Nat → Int) {a : Nat} (ha : a < n) : ((List.range n).map f).getD a 0 = f a := by
  simp [List.getD_eq_getElem?_getD, ha]

theorem elt_setC (I : Inst) {n : Nat} (f : Nat → Nat → Int) {a b : Nat} (ha : a < n) (hb : b < n) : elt (setC I n f) a b = f a b := by
  unfold elt setC
  dsimp only
  rw [getD_rows _ ha, getD_row _ hb]

theorem setC_len (I : Inst) (n : Nat) (f : Nat → Nat → Int) : (setC I n f).cost.length = n := by simp [setC]
theorem setC_row (I : Inst) {n : Nat} (f : Nat → Nat → Int) {a : Nat} (ha : a < n) : ((setC I n f).cost.getD a []).length = n := by
  unfold setC
  dsimp only
  rw [getD_rows _ ha]; simp

theorem WF.setC {I : Inst} (h : WF I) {n : Nat} (hn : I.n = (n : Int)) (hk : I.kind ≠ 1) {f : Nat → Nat → Int} (hf : ∀ a b, a < n → b < n → numOk (f a b)) (hd : I.kind = 3 → ∀ a, a < n → f a a = 0) : WF (setC I n f) := by
  obtain ⟨h1, h2, h3, h4⟩ := h
  refine ⟨h1, ?_, fun e => absurd e hk, fun _ r hr c hc => ?_⟩
  · rcases h2 with h2 | h2
    · exact absurd h2.1 hk
    · refine .inr ⟨hk, ?_, h2.2.2.1, h2.2.2.2.1, h2.2.2.2.2.1, fun r hr => ?_⟩
      · rw [setC_len]; exact hn.symm
      · rw [setC_len] at hr
        rw [setC_row I f hr]; exact hn.symm
  · rw [setC_len] at hr
    rw [setC_row I f hr] at hc
    have e := elt_setC I f hr hc
    unfold elt at e
    rw [e]
    exact ⟨hf r c hr hc, fun h3 hrc => by subst hrc; exact hd h3 r hr⟩

/-- Numbers as an answer. -/
def natL (n : Nat) (y : Nat → Nat) : List Int := (List.range n).map fun j => ((y j : Nat) : Int)
theorem natL_len (n : Nat) (y : Nat → Nat) : (natL n y).length = n := by simp [natL]
theorem natL_get {n : Nat} (y : Nat → Nat) {j : Nat} (hj : j < n) : (natL n y).getD j 0 = (y j : Nat) := getD_range y hj
theorem natL_perm {n : Nat} {y : Nat → Nat} (h : Inj n y) : PermL n (natL n y) := by
  refine ⟨natL_len n y, fun j hj => ?_, fun j k hj hk e => ?_⟩
  · rw [natL_get y hj]
    have := h.1 j hj
    omega
  · rw [natL_get y hj, natL_get y hk] at e
    exact h.2 j k hj hk (by omega)

/-- What a round costs. -/
def tc (C : Nat → Nat → Int) (n : Nat) (y : Nat → Nat) : Int := sumTo n fun j => C (y j) (y ((j + 1) % n))

theorem tc_congr {C D : Nat → Nat → Int} {n : Nat} {y z : Nat → Nat} (hn : 0 < n) (h : ∀ j, j < n → y j = z j) (hC : ∀ a b, a < n → b < n → C a b = D a b) (hy : ∀ j, j < n → y j < n) : tc C n y = tc D n z :=
  sumTo_congr fun j hj => by
    have hm := Nat.mod_lt (j + 1) hn
    rw [hC _ _ (hy j hj) (hy _ hm), h j hj, h _ hm]

theorem cost2 {I : Inst} (hk : I.kind = 2) {n : Nat} (hn : I.n = (n : Int)) (x : List Int) : costOf I x = sumTo n fun j => elt I j (x.getD j 0).toNat := by
  unfold costOf
  rw [if_neg (by omega), if_pos hk, hn, Int.toNat_natCast]; rfl
theorem cost3 {I : Inst} (hk : I.kind = 3) {n : Nat} (hn : I.n = (n : Int)) (x : List Int) : costOf I x = tc (elt I) n fun j => (x.getD j 0).toNat := by
  unfold costOf
  rw [if_neg (by omega), if_neg (by omega), hn, Int.toNat_natCast]; rfl

theorem feas2 {I : Inst} (hk : I.kind = 2) {n : Nat} (hn : I.n = (n : Int)) {y : Nat → Nat} (h : Inj n y) : Feas I (natL n y) :=
  ⟨fun e => by omega, fun _ => ⟨by rw [hn, Int.toNat_natCast]; exact natL_perm h, fun e => by omega⟩⟩
theorem feas3 {I : Inst} (hk : I.kind = 3) {n : Nat} (hn : I.n = (n : Int)) (hn0 : 0 < n) {y : Nat → Nat} (h : Inj n y) (h0 : y 0 = 0) : Feas I (natL n y) :=
  ⟨fun e => by omega, fun _ => ⟨by rw [hn, Int.toNat_natCast]; exact natL_perm h, fun _ => by rw [natL_get y hn0, h0]; rfl⟩⟩

/-- A best assignment is no dearer than any. -/
theorem opt2 {I : Inst} (hk : I.kind = 2) {n : Nat} (hn : I.n = (n : Int)) {x : List Int} (h : Opt I x) {y : Nat → Nat} (hy : Inj n y) : costOf I x ≤ sumTo n fun j => elt I j (y j) := by
  have := h.2 (natL n y) (feas2 hk hn hy)
  rw [cost2 hk hn (natL n y)] at this
  rwa [sumTo_congr (g := fun j => elt I j (y j)) fun j hj => by rw [natL_get y hj, Int.toNat_natCast]] at this

/-- The same round, begun elsewhere. -/
theorem tc_shift (C : Nat → Nat → Int) {n : Nat} (hn : 0 < n) (y : Nat → Nat) (s : Nat) : (tc C n fun j => y ((j + s) % n)) = tc C n y := by
  unfold tc
  have h := sumTo_perm (Inj.shift n s hn) fun j => C (y j) (y ((j + 1) % n))
  rw [← h]
  refine sumTo_congr fun j hj => ?_
  have e : ((j + s) % n + 1) % n = ((j + 1) % n + s) % n := by
    rw [Nat.mod_add_mod, Nat.mod_add_mod]; congr 1; omega
  rw [e]

/-- A best tour is no dearer than any round. -/
theorem opt3 {I : Inst} (hk : I.kind = 3) {n : Nat} (hn : I.n = (n : Int)) (hn0 : 0 < n) {x : List Int} (h : Opt I x) {y : Nat → Nat} (hy : Inj n y) : costOf I x ≤ tc (elt I) n y := by
  obtain ⟨s, hs, e⟩ := hy.onto 0 hn0
  have hz : Inj n fun j => y ((j + s) % n) := hy.comp (Inj.shift n s hn0)
  have := h.2 (natL n fun j => y ((j + s) % n)) (feas3 hk hn hn0 hz (by show y ((0 + s) % n) = 0; rw [Nat.zero_add, Nat.mod_eq_of_lt hs, e]))
  rw [cost3 hk hn (natL n fun j => y ((j + s) % n)), tc_congr (D := elt I) (z := fun j => y ((j + s) % n)) hn0 (fun j hj => by rw [natL_get _ hj, Int.toNat_natCast]) (fun _ _ _ _ => rfl) (fun j hj => by rw [natL_get _ hj, Int.toNat_natCast]; exact hz.1 j hj), tc_shift _ hn0] at this
  exact this

/-- What an answer is, as numbers. -/
theorem Feas.inj {I : Inst} {n : Nat} (hn : I.n = (n : Int)) (hk : I.kind ≠ 1) {x : List Int} (h : Feas I x) : Inj n fun j => (x.getD j 0).toNat := by
  have := (h.2 hk).1.inj
  rwa [hn, Int.toNat_natCast] at this

/-- TURNED: an assignment's rows and columns exchanged. -/
theorem turned2 {I J : Inst} (_ : I.kind = 2) (_ : J.kind = 2) {n : Nat} (_ : I.n = (n : Int)) (_ : J.n = (n : Int)) (he : ∀ a b, a < n → b < n → elt J a b = elt I b a) {y : Nat → Nat} (hy : Inj n y) {z : Nat → Nat} (hz : ∀ j, j < n → z (y j) = j) :
    (sumTo n fun j => elt I j (z j)) = sumTo n fun j => elt J j (y j) := by
  rw [← sumTo_perm hy fun j => elt I j (z j)]
  refine sumTo_congr fun j hj => ?_
  rw [hz j hj, he j (y j) hj (hy.1 j hj)]

theorem turned2_eq {I J : Inst} (hI : I.kind = 2) (hJ : J.kind = 2) {n : Nat} (hn : I.n = (n : Int)) (hm : J.n = (n : Int)) (he : ∀ a b, a < n → b < n → elt J a b = elt I b a) {x y : List Int} (hx : Opt I x) (hy : Opt J y) : costOf I x = costOf J y := by
  have ix := hx.1.inj hn (by omega)
  have iy := hy.1.inj hm (by omega)
  apply Int.le_antisymm
  · obtain ⟨z, hz, h1, h2⟩ := iy.back
    have := opt2 hI hn hx hz
    rw [turned2 hI hJ hn hm he iy h1] at this
    rw [cost2 hJ hm y]; exact this
  · obtain ⟨z, hz, h1, h2⟩ := ix.back
    have := opt2 hJ hm hy hz
    rw [turned2 hJ hI hm hn (fun a b ha hb => (he b a hb ha).symm) ix h1] at this
    rw [cost2 hI hn x]; exact this

/-- TURNED: a tour the other way round. -/
theorem rev_inj {n : Nat} (hn : 0 < n) : Inj n fun k => (n - k) % n := by
  refine ⟨fun j _ => Nat.mod_lt _ hn, fun j k hj hk e => ?_⟩
  dsimp only at e
  by_cases j0 : j = 0
  · by_cases k0 : k = 0
    · omega
    · rw [j0, Nat.sub_zero, Nat.mod_self, Nat.mod_eq_of_lt (by omega)] at e; omega
  · by_cases k0 : k = 0
    · rw [k0, Nat.sub_zero, Nat.mod_self, Nat.mod_eq_of_lt (by omega)] at e; omega
    · rw [Nat.mod_eq_of_lt (by omega), Nat.mod_eq_of_lt (by omega)] at e; omega

theorem tc_rev (C D : Nat → Nat → Int) {n : Nat} (hn : 0 < n) (hC : ∀ a b, a < n → b < n → D a b = C b a) {y : Nat → Nat} (hy : ∀ j, j < n → y j < n) : (tc C n fun k => y ((n - k) % n)) = tc D n y := by
  unfold tc
  have hp : Inj n fun k => (n - (k + 1) % n) % n := (rev_inj hn).comp (Inj.shift n 1 hn)
  rw [← sumTo_perm hp fun j => D (y j) (y ((j + 1) % n))]
  refine sumTo_congr fun k hk => ?_
  dsimp only
  have hm := Nat.mod_lt (n - (k + 1) % n) hn
  have hm2 := Nat.mod_lt (n - k) hn
  have e : ((n - (k + 1) % n) % n + 1) % n = (n - k) % n := by
    by_cases h : k + 1 = n
    · rw [h, Nat.mod_self, Nat.sub_zero, Nat.mod_self, show n - k = 1 by omega]
    · rw [Nat.mod_eq_of_lt (show k + 1 < n by omega), Nat.mod_eq_of_lt (show n - (k + 1) < n by omega), show n - (k + 1) + 1 = n - k by omega]
  rw [e, hC _ _ (hy _ hm) (hy _ hm2)]

theorem turned3_eq {I J : Inst} (hI : I.kind = 3) (hJ : J.kind = 3) {n : Nat} (hn0 : 0 < n) (hn : I.n = (n : Int)) (hm : J.n = (n : Int)) (he : ∀ a b, a < n → b < n → elt J a b = elt I b a) {x y : List Int} (hx : Opt I x) (hy : Opt J y) : costOf I x = costOf J y := by
  have ix := hx.1.inj hn (by omega)
  have iy := hy.1.inj hm (by omega)
  apply Int.le_antisymm
  · have := opt3 hI hn hn0 hx (iy.comp (rev_inj hn0))
    rw [tc_rev (elt I) (elt J) hn0 he iy.1] at this
    rw [cost3 hJ hm y]; exact this
  · have := opt3 hJ hm hn0 hy (ix.comp (rev_inj hn0))
    rw [tc_rev (elt J) (elt I) hn0 (fun a b ha hb => (he b a hb ha).symm) ix.1] at this
    rw [cost3 hI hn x]; exact this
end Go.Proofs.YtmfgffmlnfimcaaDoor

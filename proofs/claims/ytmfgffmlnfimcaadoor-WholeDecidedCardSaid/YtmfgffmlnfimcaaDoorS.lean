/- Loads: how they lie in memory; the walks of exact.with, of its order, and of worse. -/
import Derived.Test.YtmfgffmlnfimcaaDoorO
import Derived.Test.YtmfgffmlnfimcaaDoorQ
import Derived.Deep.AppendLies
import Derived.Deep.RegionHeld3
namespace Go.Proofs.YtmfgffmlnfimcaaDoor
open Go Go.RowKit Go.Shelf Go.Sort

/-- A load: what it weighs, what it is worth, which items it has. -/
structure Ld where
  w : Int
  v : Int
  s : Nat
deriving Inhabited

/-- A load that is small. -/
def Ld.ok (l : Ld) : Prop := 0 ≤ l.w ∧ l.w ≤ 137438953408 ∧ 0 ≤ l.v ∧ l.v ≤ 137438953408 ∧ l.s < 9223372036854775808
abbrev LdB := { l : Ld // l.ok }
instance : Inhabited LdB := ⟨⟨⟨0, 0, 0⟩, ⟨by decide, by decide, by decide, by decide, by decide⟩⟩⟩

/-- Its cells. -/
def ldC (l : LdB) : List Value := [.int .i64 l.1.w, .int .i64 l.1.v, .int .u64 (l.1.s : Nat), .int .u64 0]
def ldV (l : LdB) : Value := .agg #[.int .i64 l.1.w, .int .i64 l.1.v, .int .u64 (l.1.s : Nat), .int .u64 0]

/-- A load's four cells in memory. -/
def LdAt (w : World) (g j : Nat) (l : LdB) : Prop :=
  w.cell? ⟨g, j * 4, none⟩ = some (.int .i64 l.1.w) ∧ w.cell? ⟨g, j * 4 + 1, none⟩ = some (.int .i64 l.1.v) ∧ w.cell? ⟨g, j * 4 + 2, none⟩ = some (.int .u64 (l.1.s : Nat)) ∧ w.cell? ⟨g, j * 4 + 3, none⟩ = some (.int .u64 0)

/-- A slice of loads reads. -/
def LdsAt (w : World) (g : Nat) (ls : List LdB) : Prop := ∀ j, j < ls.length → LdAt w g j ls[j]!

theorem LdsAt.keep {w w' : World} {g : Nat} {ls : List LdB} (h : LdsAt w g ls) (hb : Below w.heap.size w w') : LdsAt w' g ls := fun j hj =>
  have h1 := h j hj
  ⟨cell_keep hb h1.1, cell_keep hb h1.2.1, cell_keep hb h1.2.2.1, cell_keep hb h1.2.2.2⟩

/-- Loads in a row of the call's own. -/
def OwnL (w : World) (base : Nat) (v : Value) (ls : List LdB) : Prop := w.ownsRow base 72 4 v ls.length (ls.flatMap ldC)

theorem flat_length (ls : List LdB) : (ls.flatMap ldC).length = ls.length * 4 := by
  induction ls with
  | nil => rfl
  | cons l ls ih => rw [List.flatMap_cons, List.length_append, ih, List.length_cons]; show 4 + _ = _; omega

theorem flat_get : ∀ (ls : List LdB) (j k : Nat), j < ls.length → k < 4 → (ls.flatMap ldC)[j * 4 + k]? = (ldC ls[j]!)[k]?
  | [], j, k, hj, _ => by simp at hj
  | l :: ls, 0, k, _, hk => by
    rw [List.flatMap_cons, List.getElem?_append_left (by show 0 * 4 + k < 4; omega), Nat.zero_mul, Nat.zero_add]
    rfl
  | l :: ls, j + 1, k, hj, hk => by
    rw [List.flatMap_cons, List.getElem?_append_right (by show 4 ≤ _; omega)]
    have := flat_get ls j k (by simpa using hj) hk
    rw [show (j + 1) * 4 + k - (ldC l).length = j * 4 + k by show (j + 1) * 4 + k - 4 = _; omega, this]
    simp

/-- Where such a row lies. -/
theorem OwnL.lies {w : World} {base : Nat} {v : Value} {ls : List LdB} (h : OwnL w base v ls) (hx : ls ≠ []) :
    ∃ g cap, v = .slice (some ⟨g, 0, none⟩) ls.length cap ∧ base ≤ g ∧ g < w.heap.size ∧ ls.length ≤ cap ∧ cap ≤ maxLen ∧ LdsAt w g ls ∧ ∀ i, w.frozen? ⟨g, i, none⟩ = false := by
  obtain ⟨_, h2⟩ := h
  rcases h2 with ⟨_, h3⟩ | ⟨g, cap, cur, e, hb, hg, hn, hcm, hcs, ht⟩
  · exact absurd (List.eq_nil_of_length_eq_zero h3) hx
  · have hcell : ∀ j k, j < ls.length → k < 4 → w.cell? ⟨g, j * 4 + k, none⟩ = (ldC ls[j]!)[k]? := by
      intro j k hj hk
      rw [blk_cell hg]
      have h4 : (cur.toList.take (ls.length * 4))[j * 4 + k]? = (ls.flatMap ldC)[j * 4 + k]? := by rw [ht]
      rw [List.getElem?_take, if_pos (by omega), flat_get ls j k hj hk, Array.getElem?_toList] at h4
      exact h4
    exact ⟨g, cap, e, hb, heap_lt hg, hn, hcm, fun j hj => ⟨hcell j 0 hj (by decide), hcell j 1 hj (by decide), hcell j 2 hj (by decide), hcell j 3 hj (by decide)⟩, fun i => blk_free hg i⟩

/-- Behind one more load. -/
theorem OwnL.snoc {w : World} {base : Nat} {v : Value} {ls : List LdB} {l : LdB} (h : w.ownsRow base 72 4 v (ls.length + 1) (ls.flatMap ldC ++ ldC l)) : OwnL w base v (ls ++ [l]) := by
  unfold OwnL
  rw [List.length_append, List.flatMap_append]
  simpa using h

theorem OwnL.nil (w : World) (base : Nat) : OwnL w base (.slice none 0 0) [] := World.ownsRow_nil w base 72 4

theorem OwnL.below {w w' : World} {base : Nat} {v : Value} {xs : List LdB} (h : OwnL w base v xs) (hg : w.grownBy w' v.ownBlock) (hb : base ≤ w.heap.size) : Below base w w' := by
  refine (Below.refl base w).grown hg hb fun k hk => ?_
  rcases h.2 with ⟨e, _⟩ | ⟨g, cap, cur, e, hb, _⟩
  · rw [e] at hk; cases hk
  · rw [e] at hk
    have : k = g := by cases hk; rfl
    omega

theorem grow2 (w : World) (o1 o2 : Obj) : (w.alloc o1).alloc o2 = grow w #[o1, o2] := by
  rw [alloc_eq_grow, alloc_eq_grow, grow_grow]; rfl

theorem worse_any (a b : LdB) (w : World) : Calls Tryd.prog 50 #[ldV a, ldV b] w fun e w' => e = .returned (.bool (decide (b.1.w ≤ a.1.w) && decide (a.1.v ≤ b.1.v))) ∧ ∃ os, w' = grow w os := by
  simp only [ldV]
  generalize a.1.w = aw
  generalize a.1.v = av
  generalize b.1.w = bw
  generalize b.1.v = bv
  generalize a.1.s = as_
  generalize b.1.s = bs
  by_cases c1 : bw ≤ aw
  · by_cases c2 : av ≤ bv
    · go_enter Tryd.func50, Tryd.ntmps50
      go_wp2
      go_ret
      exact ⟨by simp [c1, c2], _, grow2 _ _ _⟩
    · go_enter Tryd.func50, Tryd.ntmps50
      go_wp2
      go_ret
      exact ⟨by simp [c2], _, grow2 _ _ _⟩
  · go_enter Tryd.func50, Tryd.ntmps50
    go_wp2
    go_ret
    exact ⟨by rw [decide_eq_false (show ¬ bw ≤ aw by omega)]; rfl, _, grow2 _ _ _⟩

def ldCmp (a b : LdB) : Int := if a.1.w ≠ b.1.w then a.1.w - b.1.w else b.1.v - a.1.v

theorem cmp_any (a b : LdB) (w : World) : Calls Tryd.prog 49 #[ldV a, ldV b] w fun e w' => e = .returned (.int .i64 (ldCmp a b)) ∧ ∃ os, w' = grow w os := by
  obtain ⟨a1, a2, a3, a4, -⟩ := a.2
  obtain ⟨b1, b2, b3, b4, -⟩ := b.2
  simp only [ldV, ldCmp]
  generalize a.1.w = aw at *
  generalize a.1.v = av at *
  generalize b.1.w = bw at *
  generalize b.1.v = bv at *
  generalize a.1.s = as_
  generalize b.1.s = bs
  by_cases c1 : aw = bw
  · subst c1
    rw [if_neg (by simp)]
    go_enter Tryd.func49, Tryd.ntmps49
    go_wp2
    go_ret
    exact ⟨rfl, _, grow2 _ _ _⟩
  · have c1' : (aw == bw) = false := by simp; exact c1
    rw [if_pos c1]
    go_enter Tryd.func49, Tryd.ntmps49
    go_wp2
    go_ret
    exact ⟨rfl, _, grow2 _ _ _⟩

theorem ldLt (x y : LdB) : ltOf ldCmp x y = true ↔ x.1.w < y.1.w ∨ (x.1.w = y.1.w ∧ y.1.v < x.1.v) := by
  unfold ltOf ldCmp
  rw [decide_eq_true_eq]
  split <;> omega

theorem ldNl (x y : LdB) : ltOf ldCmp x y = false ↔ ¬ (x.1.w < y.1.w ∨ (x.1.w = y.1.w ∧ y.1.v < x.1.v)) := by
  rw [← ldLt]; simp

theorem ldCmp_swo : SWO (ltOf ldCmp) := by
  refine ⟨fun x => ?_, fun x y z => ?_, fun x y z => ?_⟩
  · rw [ldNl]; omega
  · rw [ldLt, ldLt, ldLt]; omega
  · rw [ldNl, ldNl, ldNl]; omega

theorem below_grow {w w' : World} {base : Nat} (h : Below base w w') (hb : base ≤ w.heap.size) (os : Array Obj) : Below base w (grow w' os) := by
  refine ⟨h.os, h.tape, h.output, ?_, fun k hk => ?_⟩
  · have := h.size
    simp only [grow, Array.size_append]; omega
  · rw [← h.block k hk]
    have := h.size
    simp only [grow]
    rw [Array.getElem?_append_left (by omega)]

theorem below_sortK {w : World} {base g n : Nat} (hg : base ≤ g) (hb : base ≤ w.heap.size) (d : Array LdB) (os : Array Obj) : Below base w (sortWorldK ldC 4 w g 0 n d os) := by
  unfold sortWorldK
  refine below_grow (w := w) (w' := putRowK ldC 4 (Sort.ahead w n) g 0 d) ⟨rfl, rfl, rfl, ?_, fun k hk => ?_⟩ hb os
  · rw [putRowK, size_putRow]; exact Nat.le_refl _
  · simp only [putRowK, putRow, mapBlock, Sort.ahead]
    rw [Array.getElem?_modify, if_neg (by omega)]

theorem ldC_get (l : LdB) : (ldC l)[0]! = .int .i64 l.1.w ∧ (ldC l)[1]! = .int .i64 l.1.v ∧ (ldC l)[2]! = .int .u64 (l.1.s : Nat) ∧ (ldC l)[3]! = .int .u64 0 := ⟨rfl, rfl, rfl, rfl⟩

theorem holdsK_of {w : World} {g : Nat} {ls : List LdB} (h : LdsAt w g ls) (hf : ∀ i, w.frozen? ⟨g, i, none⟩ = false) : HoldsK ldC 4 w g 0 ls.toArray := by
  intro t ht
  have ht' : t < ls.toArray.size * 4 := by rw [size_flatK] at ht; exact ht
  refine ⟨?_, hf _⟩
  rw [get_flatK _ _ _ _ ht', Nat.zero_add]
  have hj : t / 4 < ls.length := by have : t < ls.length * 4 := by simpa using ht'
                                    omega
  obtain ⟨a, b, c, d⟩ := h (t / 4) hj
  obtain ⟨e0, e1, e2, e3⟩ := ldC_get (ls.toArray[t / 4]!)
  have hl : ls.toArray[t / 4]! = ls[t / 4]! := by simp
  rw [hl] at e0 e1 e2 e3 ⊢
  have hm : t % 4 = 0 ∨ t % 4 = 1 ∨ t % 4 = 2 ∨ t % 4 = 3 := by omega
  rcases hm with hm | hm | hm | hm
  · rw [hm, e0, show t = t / 4 * 4 by omega, show t / 4 * 4 / 4 = t / 4 by omega]; exact a
  · rw [hm, e1, show t = t / 4 * 4 + 1 by omega, show (t / 4 * 4 + 1) / 4 = t / 4 by omega]; exact b
  · rw [hm, e2, show t = t / 4 * 4 + 2 by omega, show (t / 4 * 4 + 2) / 4 = t / 4 by omega]; exact c
  · rw [hm, e3, show t = t / 4 * 4 + 3 by omega]; exact d

theorem of_holdsK {w : World} {g : Nat} {d : Array LdB} (h : HoldsK ldC 4 w g 0 d) : LdsAt w g d.toList := by
  intro j hj
  have hj' : j < d.size := by simpa using hj
  have hl : d.toList[j]! = d[j]! := by simp [hj']
  rw [hl]
  obtain ⟨e0, e1, e2, e3⟩ := ldC_get d[j]!
  have hc : ∀ k, k < 4 → w.cell? ⟨g, j * 4 + k, none⟩ = some ((ldC d[j]!)[k]!) := by
    intro k hk
    have h1 := (h (j * 4 + k) (by rw [size_flatK]; omega)).1
    rw [get_flatK _ _ _ _ (by omega), Nat.zero_add, show (j * 4 + k) / 4 = j by omega, show (j * 4 + k) % 4 = k by omega] at h1
    exact h1
  have c0 := hc 0 (by decide)
  have c1 := hc 1 (by decide)
  have c2 := hc 2 (by decide)
  have c3 := hc 3 (by decide)
  rw [e0] at c0
  rw [e1] at c1
  rw [e2] at c2
  rw [e3] at c3
  exact ⟨c0, c1, c2, c3⟩

/-- The loads, in whatever order. -/
theorem sort_any (w : World) (base : Nat) (v : Value) (ls : List LdB) (h : OwnL w base v ls) (hx : ls ≠ []) (hl : ls.length ≤ 1000000) (hbs : base ≤ w.heap.size) :
    Calls Tryd.prog 48 #[v, .func (.func 49) #[] #[]] w fun e w' => e = .returned (.tuple #[]) ∧ (∃ g c ls', v = .slice (some ⟨g, 0, none⟩) ls.length c ∧ ls'.Perm ls ∧ ls.length ≤ c ∧ g < w'.heap.size ∧ LdsAt w' g ls') ∧ Below base w w' := by
  obtain ⟨g, cap, rfl, hb, hg, hcap, hcm, hA, hf⟩ := h.lies hx
  have hH := holdsK_of hA hf
  have hcmp : CmpLays Tryd.prog 49 #[] ldC 4 ldCmp g 0 ls.toArray.size w := by
    intro m os dk hs x y
    refine (cmp_any x y _).mono ?_
    rintro e w' ⟨rfl, os', rfl⟩
    exact ⟨rfl, 0, os', rfl⟩
  have hs := AnyQ.slices_SortFunc Tryd.sortLoad 4 Tryd.isAgg72 Tryd.sizeOf72 ldC (fun _ => rfl) (fun x v hv => by simp [ldC] at hv; rcases hv with h | h | h | h <;> subst h <;> rfl) ldCmp ldCmp_swo 49 #[] g 0 cap ls.toArray w
    (enters_of Tryd.func49 (by kernel_rfl) rfl) hcmp hH hg (by simp; omega)
  refine hs.mono ?_
  rintro e w' ⟨rfl, d', n, os, hp, -, rfl⟩
  refine ⟨rfl, ⟨g, cap, d'.toList, rfl, ?_, hcap, ?_, of_holdsK (holdsK_sortWorldK_c ldC 4 w g 0 ls.toArray d' n os hH hg hp.1)⟩, below_sortK hb hbs d' os⟩
  · have h1 := hp.2.2
    have h2 : d'.extract 0 ls.toArray.size = d' := by rw [← hp.1]; simp
    have h3 : ls.toArray.extract 0 ls.toArray.size = ls.toArray := by simp
    rw [h2, h3] at h1
    simpa using h1
  · exact Nat.lt_of_lt_of_le hg (size_sortWorldK_c ldC 4 w g 0 n d' os)
end Go.Proofs.YtmfgffmlnfimcaaDoor

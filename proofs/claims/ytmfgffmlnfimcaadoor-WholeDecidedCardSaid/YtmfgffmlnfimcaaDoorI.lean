/- The walk of exact's grow: a new row looks for a column. -/
import Derived.Test.YtmfgffmlnfimcaaDoorH
namespace Go.Proofs.YtmfgffmlnfimcaaDoor
open Go Go.RowKit Go.Deep

/-- The blocks that a row's search writes. -/
def G4 (g1 g2 g3 g4 : Nat) (k : Nat) : Prop := k = g1 ∨ k = g2 ∨ k = g3 ∨ k = g4
/-- No two are one. -/
def Apart (p g1 g2 g3 g4 gl gs : Nat) : Prop :=
  p ≠ g1 ∧ p ≠ g2 ∧ p ≠ g3 ∧ p ≠ g4 ∧ p ≠ gl ∧ p ≠ gs ∧ g1 ≠ g2 ∧ g1 ≠ g3 ∧ g1 ≠ g4 ∧ g1 ≠ gl ∧ g1 ≠ gs ∧ g2 ≠ g3 ∧ g2 ≠ g4 ∧ g2 ≠ gl ∧ g2 ≠ gs ∧ g3 ≠ g4 ∧ g3 ≠ gl ∧ g3 ≠ gs ∧ g4 ≠ gl ∧ g4 ≠ gs ∧ gl ≠ gs

/-- What memory holds while a row looks. -/
structure MG (w : World) (p : Nat) (A : Option Addr) (c n g1 g2 g3 g4 gl gs : Nat) (row col : Nat → Int) (has from_ : Nat → Nat) (least : Nat → Int) (seen : Nat → Bool) (wr : World) : Prop where
  pb : PB wr p A c n g1 g2 g3 g4
  a1 : Arr wr g1 (n + 1) row
  a2 : Arr wr g2 (n + 1) col
  a3 : ArrN wr g3 (n + 1) has
  a4 : ArrN wr g4 (n + 1) from_
  al : Arr wr gl (n + 1) least
  a5 : ArrB wr gs (n + 1) seen
  k : Keep (G4 g1 g2 g3 g4) w wr

section
variable {w : World} {p : Nat} {A : Option Addr} {c n g1 g2 g3 g4 gl gs : Nat} {row col : Nat → Int} {has from_ : Nat → Nat} {least : Nat → Int} {seen : Nat → Bool} {wr : World}
theorem MG.drewN (h : MG w p A c n g1 g2 g3 g4 gl gs row col has from_ least seen wr) (m : Nat) : MG w p A c n g1 g2 g3 g4 gl gs row col has from_ least seen (wr.drewN m) :=
  ⟨h.pb, h.a1, h.a2, h.a3, h.a4, h.al, h.a5, h.k.drewN m⟩
theorem MG.drew (h : MG w p A c n g1 g2 g3 g4 gl gs row col has from_ least seen wr) : MG w p A c n g1 g2 g3 g4 gl gs row col has from_ least seen wr.drew :=
  ⟨h.pb, h.a1, h.a2, h.a3, h.a4, h.al, h.a5, h.k.drew⟩
theorem MG.set1 (h : MG w p A c n g1 g2 g3 g4 gl gs row col has from_ least seen wr) (hd : Apart p g1 g2 g3 g4 gl gs) (j : Nat) (x : Int) : MG w p A c n g1 g2 g3 g4 gl gs (upd row j x) col has from_ least seen (wr.setCell ⟨g1, j, none⟩ (.int .i64 x)) := by
  obtain ⟨d1, d2, d3, d4, d5, d6, d7, d8, d9, d10, d11, d12, d13, d14, d15, d16, d17, d18, d19, d20, d21⟩ := hd
  exact ⟨heap_far h.pb (by show p ≠ g1; first | assumption | (apply Ne.symm; assumption)) _, h.a1.set j x, h.a2.far (by show g2 ≠ g1; first | assumption | (apply Ne.symm; assumption)) _, h.a3.far (by show g3 ≠ g1; first | assumption | (apply Ne.symm; assumption)) _, h.a4.far (by show g4 ≠ g1; first | assumption | (apply Ne.symm; assumption)) _, h.al.far (by show gl ≠ g1; first | assumption | (apply Ne.symm; assumption)) _, h.a5.far (by show gs ≠ g1; first | assumption | (apply Ne.symm; assumption)) _, h.k.setCell (.inl rfl) _⟩
theorem MG.set2 (h : MG w p A c n g1 g2 g3 g4 gl gs row col has from_ least seen wr) (hd : Apart p g1 g2 g3 g4 gl gs) (j : Nat) (x : Int) : MG w p A c n g1 g2 g3 g4 gl gs row (upd col j x) has from_ least seen (wr.setCell ⟨g2, j, none⟩ (.int .i64 x)) := by
  obtain ⟨d1, d2, d3, d4, d5, d6, d7, d8, d9, d10, d11, d12, d13, d14, d15, d16, d17, d18, d19, d20, d21⟩ := hd
  exact ⟨heap_far h.pb (by show p ≠ g2; first | assumption | (apply Ne.symm; assumption)) _, h.a1.far (by show g1 ≠ g2; first | assumption | (apply Ne.symm; assumption)) _, h.a2.set j x, h.a3.far (by show g3 ≠ g2; first | assumption | (apply Ne.symm; assumption)) _, h.a4.far (by show g4 ≠ g2; first | assumption | (apply Ne.symm; assumption)) _, h.al.far (by show gl ≠ g2; first | assumption | (apply Ne.symm; assumption)) _, h.a5.far (by show gs ≠ g2; first | assumption | (apply Ne.symm; assumption)) _, h.k.setCell (.inr (.inl rfl)) _⟩
theorem MG.set4 (h : MG w p A c n g1 g2 g3 g4 gl gs row col has from_ least seen wr) (hd : Apart p g1 g2 g3 g4 gl gs) (j : Nat) (x : Nat) : MG w p A c n g1 g2 g3 g4 gl gs row col has (upd from_ j x) least seen (wr.setCell ⟨g4, j, none⟩ (.int .i64 (x : Nat))) := by
  obtain ⟨d1, d2, d3, d4, d5, d6, d7, d8, d9, d10, d11, d12, d13, d14, d15, d16, d17, d18, d19, d20, d21⟩ := hd
  exact ⟨heap_far h.pb (by show p ≠ g4; first | assumption | (apply Ne.symm; assumption)) _, h.a1.far (by show g1 ≠ g4; first | assumption | (apply Ne.symm; assumption)) _, h.a2.far (by show g2 ≠ g4; first | assumption | (apply Ne.symm; assumption)) _, h.a3.far (by show g3 ≠ g4; first | assumption | (apply Ne.symm; assumption)) _, h.a4.set j x, h.al.far (by show gl ≠ g4; first | assumption | (apply Ne.symm; assumption)) _, h.a5.far (by show gs ≠ g4; first | assumption | (apply Ne.symm; assumption)) _, h.k.setCell (.inr (.inr (.inr rfl))) _⟩
theorem MG.setL (h : MG w p A c n g1 g2 g3 g4 gl gs row col has from_ least seen wr) (hd : Apart p g1 g2 g3 g4 gl gs) (hl : w.heap.size ≤ gl) (j : Nat) (x : Int) : MG w p A c n g1 g2 g3 g4 gl gs row col has from_ (upd least j x) seen (wr.setCell ⟨gl, j, none⟩ (.int .i64 x)) := by
  obtain ⟨d1, d2, d3, d4, d5, d6, d7, d8, d9, d10, d11, d12, d13, d14, d15, d16, d17, d18, d19, d20, d21⟩ := hd
  exact ⟨heap_far h.pb (by show p ≠ gl; first | assumption | (apply Ne.symm; assumption)) _, h.a1.far (by show g1 ≠ gl; first | assumption | (apply Ne.symm; assumption)) _, h.a2.far (by show g2 ≠ gl; first | assumption | (apply Ne.symm; assumption)) _, h.a3.far (by show g3 ≠ gl; first | assumption | (apply Ne.symm; assumption)) _, h.a4.far (by show g4 ≠ gl; first | assumption | (apply Ne.symm; assumption)) _, h.al.set j x, h.a5.far (by show gs ≠ gl; first | assumption | (apply Ne.symm; assumption)) _, h.k.setNew hl _⟩
theorem MG.setS (h : MG w p A c n g1 g2 g3 g4 gl gs row col has from_ least seen wr) (hd : Apart p g1 g2 g3 g4 gl gs) (hl : w.heap.size ≤ gs) (j : Nat) (x : Bool) : MG w p A c n g1 g2 g3 g4 gl gs row col has from_ least (upd seen j x) (wr.setCell ⟨gs, j, none⟩ (.bool x)) := by
  obtain ⟨d1, d2, d3, d4, d5, d6, d7, d8, d9, d10, d11, d12, d13, d14, d15, d16, d17, d18, d19, d20, d21⟩ := hd
  exact ⟨heap_far h.pb (by show p ≠ gs; first | assumption | (apply Ne.symm; assumption)) _, h.a1.far (by show g1 ≠ gs; first | assumption | (apply Ne.symm; assumption)) _, h.a2.far (by show g2 ≠ gs; first | assumption | (apply Ne.symm; assumption)) _, h.a3.far (by show g3 ≠ gs; first | assumption | (apply Ne.symm; assumption)) _, h.a4.far (by show g4 ≠ gs; first | assumption | (apply Ne.symm; assumption)) _, h.al.far (by show gl ≠ gs; first | assumption | (apply Ne.symm; assumption)) _, h.a5.set j x, h.k.setNew hl _⟩
theorem MG.congr (h : MG w p A c n g1 g2 g3 g4 gl gs row col has from_ least seen wr) {row' col' : Nat → Int} {from' : Nat → Nat} {least' : Nat → Int} (e1 : ∀ j, j < n + 1 → row j = row' j) (e2 : ∀ j, j < n + 1 → col j = col' j) (e4 : ∀ j, j < n + 1 → from_ j = from' j) (el : ∀ j, j < n + 1 → least j = least' j) :
    MG w p A c n g1 g2 g3 g4 gl gs row' col' has from' least' seen wr := ⟨h.pb, h.a1.congr e1, h.a2.congr e2, h.a3, h.a4.congr e4, h.al.congr el, h.a5, h.k⟩
end

/-- What a row's search leaves. -/
def Grown (C : Nat → Nat → Int) (n r p : Nat) (A : Option Addr) (c g1 g2 g3 g4 : Nat) (w : World) (e : Ending) (w' : World) : Prop :=
  ∃ (at_ : Nat) (row col : Nat → Int) (has from_ : Nat → Nat) (k : Nat) (h' : Nat → Nat), e = .returned (.int .i64 at_) ∧ PB w' p A c n g1 g2 g3 g4 ∧ Arr w' g1 (n + 1) row ∧ Arr w' g2 (n + 1) col ∧ ArrN w' g3 (n + 1) has ∧ ArrN w' g4 (n + 1) from_ ∧
    Keep (G4 g1 g2 g3 g4) w w' ∧ Turned n from_ k at_ has h' ∧ Hung C n r row col h' ∧ ∀ c, c ≤ n → h' c ≤ n

end Go.Proofs.YtmfgffmlnfimcaaDoor

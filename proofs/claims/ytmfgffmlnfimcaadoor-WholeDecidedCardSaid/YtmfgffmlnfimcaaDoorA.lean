/- How slices of whole numbers, rows of such slices and a problem lie in memory: plain words, without the program. -/
import Derived.WalkKit
import Derived.Deep.LoopGhost
import Derived.Maps.AppendAt
import Derived.Deep.Draws
namespace Go.Proofs.YtmfgffmlnfimcaaDoor
open Go.RowKit

/-- The longest that a slice is that came in (the form's reach, in elements of eight bytes). -/
def big : Nat := 17592186044000

/-- What a slice of ints reads. -/
def IntsAt (w : World) (A : Option Addr) (xs : List Int) : Prop :=
  0 < xs.length → ∃ ad, A = some ad ∧ ∀ j, j < xs.length → w.cell? (ad.add j) = some (.int .i64 (xs.getD j 0))

/-- What a slice of slices of ints reads. -/
def RowsAt (w : World) (A : Option Addr) (xss : List (List Int)) : Prop :=
  0 < xss.length → ∃ ad, A = some ad ∧ ∀ j, j < xss.length → ∃ B c, w.cell? (ad.add j) = some (.slice B (xss.getD j []).length c) ∧ (xss.getD j []).length ≤ c ∧ IntsAt w B (xss.getD j [])

theorem cell_keep {w w' : World} (h : Below w.heap.size w w') {a : Addr} {v : Value} (hc : w.cell? a = some v) : w'.cell? a = some v :=
  (h.cell (World.block_lt_of_cell? w a hc)).trans hc

theorem IntsAt.keep {w w' : World} {A : Option Addr} {xs : List Int} (h : IntsAt w A xs) (hb : Below w.heap.size w w') : IntsAt w' A xs := by
  intro hn
  obtain ⟨ad, e, hc⟩ := h hn
  exact ⟨ad, e, fun j hj => cell_keep hb (hc j hj)⟩

theorem RowsAt.keep {w w' : World} {A : Option Addr} {xss : List (List Int)} (h : RowsAt w A xss) (hb : Below w.heap.size w w') : RowsAt w' A xss := by
  intro hn
  obtain ⟨ad, e, hc⟩ := h hn
  refine ⟨ad, e, fun j hj => ?_⟩
  obtain ⟨B, c, h1, h2, h3⟩ := hc j hj
  exact ⟨B, c, cell_keep hb h1, h2, h3.keep hb⟩

theorem IntsAt.at_ {w : World} {A : Option Addr} {xs : List Int} (h : IntsAt w A xs) {j : Nat} (hj : j < xs.length) : ∃ ad, A = some ad ∧ w.cell? (ad.add j) = some (.int .i64 (xs.getD j 0)) := by
  obtain ⟨ad, e, hc⟩ := h (by omega)
  exact ⟨ad, e, hc j hj⟩

theorem RowsAt.at_ {w : World} {A : Option Addr} {xss : List (List Int)} (h : RowsAt w A xss) {j : Nat} (hj : j < xss.length) : ∃ ad B c, A = some ad ∧ w.cell? (ad.add j) = some (.slice B (xss.getD j []).length c) ∧ (xss.getD j []).length ≤ c ∧ IntsAt w B (xss.getD j []) := by
  obtain ⟨ad, e, hc⟩ := h (by omega)
  obtain ⟨B, c, h⟩ := hc j hj
  exact ⟨ad, B, c, e, h⟩

theorem bcell {W w1 : World} (hb : Below W.heap.size W w1) : (∀ b o, b < W.heap.size → w1.cell? ⟨b, o, none⟩ = W.cell? ⟨b, o, none⟩) ∧ (∀ b o, b < W.heap.size → w1.frozen? ⟨b, o, none⟩ = W.frozen? ⟨b, o, none⟩) :=
  ⟨fun b o h => hb.cell (p := ⟨b, o, none⟩) h, fun b o h => hb.frozen (p := ⟨b, o, none⟩) h⟩

theorem below_drewN {B : Nat} {w W : World} (h : Below B w W) (n : Nat) : Below B w (W.drewN n) := ⟨h.os, h.tape, h.output, h.size, h.block⟩

/-- One block, then what leaves all as it was. -/
theorem keep_box {w w' : World} {o : Obj} (h : Below (w.alloc o).heap.size (w.alloc o) w') : Below w.heap.size w w' :=
  ((Below.refl _ _).alloc (Nat.le_refl _) o).trans (h.mono (by simp))

theorem keep_trans {w w1 w2 : World} (h : Below w.heap.size w w1) (k : Below w1.heap.size w1 w2) : Below w.heap.size w w2 := h.trans (k.mono h.size)

theorem heap_new (w : World) (o : Obj) (n : Nat) (h : n = w.heap.size) : (w.alloc o).heap[n]? = some o := by subst h; exact heap_alloc_new w o
theorem heap_old (w : World) (o : Obj) (n : Nat) (h : n < w.heap.size) : (w.alloc o).heap[n]? = w.heap[n]? := Below.heap_alloc w o n h
theorem heap_old' {w : World} {n : Nat} {x : Obj} (h : w.heap[n]? = some x) (o : Obj) : (w.alloc o).heap[n]? = some x := (Below.heap_alloc w o n (Array.getElem?_eq_some_iff.1 h).1).trans h
theorem heap_lt {w : World} {n : Nat} {x : Obj} (h : w.heap[n]? = some x) : n < w.heap.size := (Array.getElem?_eq_some_iff.1 h).1
theorem heap_keep {w w1 : World} {n : Nat} {x : Obj} (h : w.heap[n]? = some x) (hb : Below w.heap.size w w1) : w1.heap[n]? = some x := (hb.block n (heap_lt h)).trans h
theorem heap_set {w : World} {g : Nat} {t : TypeId} {cs : Array Value} (h : w.heap[g]? = some (.cells cs t (0, 0))) (i : Nat) (u : Value) : (w.setCell ⟨g, i, none⟩ u).heap[g]? = some (.cells (cs.setIfInBounds i u) t (0, 0)) := by
  simp only [World.setCell, Array.getElem?_modify, h]
  simp
theorem heap_far {w : World} {g : Nat} {x : Obj} (h : w.heap[g]? = some x) {p : Addr} (hp : g ≠ p.block) (u : Value) : (w.setCell p u).heap[g]? = some x := (Below.heap_setCell w p u g hp).trans h
theorem blk_cell {w : World} {g : Nat} {t : TypeId} {cs : Array Value} (h : w.heap[g]? = some (.cells cs t (0, 0))) (i : Nat) : w.cell? ⟨g, i, none⟩ = cs[i]? := cell_of_row w g i cs t (0, 0) h
theorem blk_free {w : World} {g : Nat} {t : TypeId} {cs : Array Value} (h : w.heap[g]? = some (.cells cs t (0, 0))) (i : Nat) : w.frozen? ⟨g, i, none⟩ = false := by simp [World.frozen?, h]
theorem blk2 {w : World} {g : Nat} {t : TypeId} {a b : Value} (h : w.heap[g]? = some (.cells #[a, b] t (0, 0))) :
    w.cell? ⟨g, 0, none⟩ = some a ∧ w.cell? ⟨g, 1, none⟩ = some b ∧ w.frozen? ⟨g, 0, none⟩ = false ∧ w.frozen? ⟨g, 1, none⟩ = false ∧ g < w.heap.size :=
  ⟨blk_cell h 0, blk_cell h 1, blk_free h 0, blk_free h 1, heap_lt h⟩

/-- A problem, as plain numbers and lists. -/
structure Inst where
  kind : Int
  n : Int
  cap : Int
  ws : List Int
  vs : List Int
  cost : List (List Int)

/-- The value that Go hands on for a problem, in a world. -/
def InstAt (w : World) (v : Value) (I : Inst) : Prop :=
  ∃ A1 c1 A2 c2 A3 c3, v = .agg #[.int .i64 I.kind, .int .i64 I.n, .int .i64 I.cap, .slice A1 I.ws.length c1, .slice A2 I.vs.length c2, .slice A3 I.cost.length c3] ∧
    I.ws.length ≤ c1 ∧ I.vs.length ≤ c2 ∧ I.cost.length ≤ c3 ∧ I.ws.length ≤ big ∧ I.vs.length ≤ big ∧ I.cost.length ≤ big ∧ (∀ r, (I.cost.getD r []).length ≤ big) ∧
    IntsAt w A1 I.ws ∧ IntsAt w A2 I.vs ∧ RowsAt w A3 I.cost

theorem InstAt.keep {w w' : World} {v : Value} {I : Inst} (h : InstAt w v I) (hb : Below w.heap.size w w') : InstAt w' v I := by
  obtain ⟨A1, c1, A2, c2, A3, c3, e, h1, h2, h3, h4, h5, h6, h7, h8, h9, h10⟩ := h
  exact ⟨A1, c1, A2, c2, A3, c3, e, h1, h2, h3, h4, h5, h6, h7, h8.keep hb, h9.keep hb, h10.keep hb⟩

/-- The most a number of a problem is. -/
def top : Int := 2147483647
def numOk (x : Int) : Prop := 0 ≤ x ∧ x ≤ 2147483647
instance (x : Int) : Decidable (numOk x) := by unfold numOk; infer_instance

def sizeOk (kind n : Int) : Prop := (kind = 1 ∧ 1 ≤ n ∧ n ≤ 64) ∨ ((kind = 2 ∨ kind = 3) ∧ 1 ≤ n ∧ n ≤ 24)
def shapeOk (I : Inst) : Prop :=
  (I.kind = 1 ∧ I.ws.length = I.n ∧ I.vs.length = I.n ∧ I.cost.length = 0) ∨
  (I.kind ≠ 1 ∧ I.cost.length = I.n ∧ I.cap = 0 ∧ I.ws.length = 0 ∧ I.vs.length = 0 ∧ ∀ r, r < I.cost.length → (I.cost.getD r []).length = I.n)
def itemsOk (I : Inst) : Prop := numOk I.cap ∧ ∀ k, k < I.n.toNat → numOk (I.ws.getD k 0) ∧ numOk (I.vs.getD k 0)
def rowsOk (I : Inst) : Prop := ∀ r, r < I.cost.length → ∀ c, c < (I.cost.getD r []).length → numOk ((I.cost.getD r []).getD c 0) ∧ (I.kind = 3 → r = c → (I.cost.getD r []).getD c 0 = 0)

/-- A problem in form. -/
def WF (I : Inst) : Prop := sizeOk I.kind I.n ∧ shapeOk I ∧ (I.kind = 1 → itemsOk I) ∧ (I.kind ≠ 1 → rowsOk I)

end Go.Proofs.YtmfgffmlnfimcaaDoor

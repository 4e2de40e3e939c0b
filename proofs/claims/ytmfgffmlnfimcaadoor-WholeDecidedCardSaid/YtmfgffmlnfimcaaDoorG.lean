/- Arrays of the call's own in memory, and what a call leaves as it was. -/
import Derived.Test.YtmfgffmlnfimcaaDoorA
import Derived.Test.YtmfgffmlnfimcaaDoorM1
import Derived.OwnWalk
import Derived.Deep.OwnRows
namespace Go.Proofs.YtmfgffmlnfimcaaDoor
open Go Go.RowKit

/-- All blocks but those of S are as they were; new ones may have come. -/
structure Keep (S : Nat → Prop) (w w' : World) : Prop where
  os : w'.os = w.os
  tape : w'.tape = w.tape
  output : w'.output = w.output
  size : w.heap.size ≤ w'.heap.size
  block : ∀ k, k < w.heap.size → ¬ S k → w'.heap[k]? = w.heap[k]?

theorem Keep.refl (S : Nat → Prop) (w : World) : Keep S w w := ⟨rfl, rfl, rfl, Nat.le_refl _, fun _ _ _ => rfl⟩
theorem Keep.trans {S : Nat → Prop} {a b c : World} (h : Keep S a b) (k : Keep S b c) : Keep S a c :=
  ⟨k.os.trans h.os, k.tape.trans h.tape, k.output.trans h.output, Nat.le_trans h.size k.size, fun i hi hs => (k.block i (Nat.lt_of_lt_of_le hi h.size) hs).trans (h.block i hi hs)⟩
theorem Keep.weaken {S T : Nat → Prop} {a b : World} (h : Keep S a b) (hs : ∀ k, k < a.heap.size → S k → T k) : Keep T a b :=
  ⟨h.os, h.tape, h.output, h.size, fun i hi ht => h.block i hi fun hq => ht (hs i hi hq)⟩
theorem Keep.of_below {S : Nat → Prop} {a b : World} (h : Below a.heap.size a b) : Keep S a b := ⟨h.os, h.tape, h.output, h.size, fun i hi _ => h.block i hi⟩
theorem Keep.below {S : Nat → Prop} {a b : World} (h : Keep S a b) {B : Nat} (hB : B ≤ a.heap.size) (hs : ∀ k, k < B → ¬ S k) : Below B a b :=
  ⟨h.os, h.tape, h.output, h.size, fun i hi => h.block i (by omega) (hs i hi)⟩
theorem Keep.alloc {S : Nat → Prop} {a b : World} (h : Keep S a b) (o : Obj) : Keep S a (b.alloc o) := h.trans (.of_below ((Below.refl _ _).alloc (Nat.le_refl _) o))
theorem Keep.drewN {S : Nat → Prop} {a b : World} (h : Keep S a b) (n : Nat) : Keep S a (b.drewN n) := h.trans (.of_below (below_drewN (Below.refl _ _) n))
theorem Keep.drew {S : Nat → Prop} {a b : World} (h : Keep S a b) : Keep S a b.drew := h.trans (.of_below (Below.refl _ _).drew)
theorem Keep.setCell {S : Nat → Prop} {a b : World} (h : Keep S a b) {p : Addr} (hp : S p.block) (u : Value) : Keep S a (b.setCell p u) :=
  h.trans ⟨rfl, rfl, rfl, by simp [World.setCell], fun k _ hk => Below.heap_setCell _ _ _ _ (fun e => hk (by rw [e]; exact hp))⟩
theorem Keep.setNew {S : Nat → Prop} {a b : World} (h : Keep S a b) {p : Addr} (hp : a.heap.size ≤ p.block) (u : Value) : Keep S a (b.setCell p u) :=
  ⟨h.os, h.tape, h.output, by have := h.size; simpa [World.setCell] using this, fun k hk hs => (Below.heap_setCell _ _ _ _ (by omega)).trans (h.block k hk hs)⟩
theorem Keep.heap {S : Nat → Prop} {a b : World} (h : Keep S a b) {k : Nat} {x : Obj} (hk : a.heap[k]? = some x) (hs : ¬ S k) : b.heap[k]? = some x := (h.block k (heap_lt hk) hs).trans hk
theorem Keep.cell {S : Nat → Prop} {a b : World} (h : Keep S a b) {p : Addr} {v : Value} (hc : a.cell? p = some v) (hs : ¬ S p.block) : b.cell? p = some v :=
  (World.cell?_of_block (h.block p.block (World.block_lt_of_cell? a p hc) hs)).trans hc

/-- A block whose first n cells are told. -/
def Row (w : World) (g : Nat) (t : TypeId) (n : Nat) (f : Nat → Value) : Prop :=
  ∃ cs : Array Value, w.heap[g]? = some (.cells cs t (0, 0)) ∧ n ≤ cs.size ∧ ∀ j, j < n → cs[j]? = some (f j)
/-- Ints, bools. -/
def Arr (w : World) (g n : Nat) (f : Nat → Int) : Prop := Row w g 3 n fun j => .int .i64 (f j)
def ArrB (w : World) (g n : Nat) (f : Nat → Bool) : Prop := Row w g 4 n fun j => .bool (f j)

theorem Row.lt {w : World} {g : Nat} {t : TypeId} {n : Nat} {f : Nat → Value} (h : Row w g t n f) : g < w.heap.size := by
  obtain ⟨cs, h1, _⟩ := h; exact heap_lt h1
theorem Row.cell {w : World} {g : Nat} {t : TypeId} {n : Nat} {f : Nat → Value} (h : Row w g t n f) {j : Nat} (hj : j < n) : w.cell? ⟨g, j, none⟩ = some (f j) := by
  obtain ⟨cs, h1, h2, h3⟩ := h
  rw [blk_cell h1, h3 j hj]
theorem Row.free {w : World} {g : Nat} {t : TypeId} {n : Nat} {f : Nat → Value} (h : Row w g t n f) (j : Nat) : w.frozen? ⟨g, j, none⟩ = false := by
  obtain ⟨cs, h1, _⟩ := h
  exact blk_free h1 j
theorem Row.keep {S : Nat → Prop} {w w' : World} {g : Nat} {t : TypeId} {n : Nat} {f : Nat → Value} (h : Row w g t n f) (hk : Keep S w w') (hs : ¬ S g) : Row w' g t n f := by
  obtain ⟨cs, h1, h2⟩ := h
  exact ⟨cs, hk.heap h1 hs, h2⟩
theorem Row.far {w : World} {g : Nat} {t : TypeId} {n : Nat} {f : Nat → Value} (h : Row w g t n f) {p : Addr} (hp : g ≠ p.block) (u : Value) : Row (w.setCell p u) g t n f := by
  obtain ⟨cs, h1, h2⟩ := h
  exact ⟨cs, heap_far h1 hp u, h2⟩
theorem Row.set {w : World} {g : Nat} {t : TypeId} {n : Nat} {f : Nat → Value} (h : Row w g t n f) (j : Nat) (u : Value) : Row (w.setCell ⟨g, j, none⟩ u) g t n (upd f j u) := by
  obtain ⟨cs, h1, h2, h3⟩ := h
  refine ⟨_, heap_set h1 j u, by simpa using h2, fun i hi => ?_⟩
  rw [Array.getElem?_setIfInBounds]
  by_cases e : j = i
  · subst e; rw [if_pos rfl, if_pos (by omega), upd_same]
  · rw [if_neg e, h3 i hi, upd_other _ (fun e2 => e e2.symm)]
theorem Row.congr {w : World} {g : Nat} {t : TypeId} {n : Nat} {f f' : Nat → Value} (h : Row w g t n f) (e : ∀ j, j < n → f j = f' j) : Row w g t n f' := by
  obtain ⟨cs, h1, h2, h3⟩ := h
  exact ⟨cs, h1, h2, fun j hj => by rw [h3 j hj, e j hj]⟩

theorem Row.alloc {w : World} {g : Nat} {t : TypeId} {n : Nat} {f : Nat → Value} (h : Row w g t n f) (o : Obj) : Row (w.alloc o) g t n f := by
  obtain ⟨cs, h1, h2⟩ := h
  exact ⟨cs, heap_old' h1 o, h2⟩
theorem Row.made (w : World) (t : TypeId) (z : Value) (m : Nat) : Row (w.alloc (.cells (madeCells #[z] m) t)) w.heap.size t m (fun _ => z) := by
  refine ⟨_, heap_new w _ _ rfl, by simp [madeCells], fun j hj => ?_⟩
  simp [madeCells, hj, Nat.mod_one]

theorem Arr.set {w : World} {g n : Nat} {f : Nat → Int} (h : Arr w g n f) (j : Nat) (x : Int) : Arr (w.setCell ⟨g, j, none⟩ (.int .i64 x)) g n (upd f j x) :=
  (Row.set h j (.int .i64 x)).congr fun i _ => by by_cases e : i = j <;> simp [upd, e]
theorem ArrB.set {w : World} {g n : Nat} {f : Nat → Bool} (h : ArrB w g n f) (j : Nat) (x : Bool) : ArrB (w.setCell ⟨g, j, none⟩ (.bool x)) g n (upd f j x) :=
  (Row.set h j (.bool x)).congr fun i _ => by by_cases e : i = j <;> simp [upd, e]
theorem Arr.congr {w : World} {g n : Nat} {f f' : Nat → Int} (h : Arr w g n f) (e : ∀ j, j < n → f j = f' j) : Arr w g n f' := Row.congr h fun j hj => by rw [e j hj]
theorem ArrB.congr {w : World} {g n : Nat} {f f' : Nat → Bool} (h : ArrB w g n f) (e : ∀ j, j < n → f j = f' j) : ArrB w g n f' := Row.congr h fun j hj => by rw [e j hj]

theorem add_pos (ad : Addr) {k : Nat} (h : 0 < k) : ad.add k = ⟨ad.block, ad.off + k, none⟩ := by unfold Addr.add; rw [if_neg (by omega)]

/-- Ints that are natural numbers. -/
def ArrN (w : World) (g n : Nat) (f : Nat → Nat) : Prop := Row w g 3 n fun j => .int .i64 (f j : Nat)
theorem ArrN.set {w : World} {g n : Nat} {f : Nat → Nat} (h : ArrN w g n f) (j : Nat) (x : Nat) : ArrN (w.setCell ⟨g, j, none⟩ (.int .i64 (x : Nat))) g n (upd f j x) :=
  (Row.set h j (.int .i64 (x : Nat))).congr fun i _ => by by_cases e : i = j <;> simp [upd, e]
theorem ArrN.congr {w : World} {g n : Nat} {f f' : Nat → Nat} (h : ArrN w g n f) (e : ∀ j, j < n → f j = f' j) : ArrN w g n f' := Row.congr h fun j hj => by rw [e j hj]
theorem Arr.cell {w : World} {g n : Nat} {f : Nat → Int} (h : Arr w g n f) {j : Nat} (hj : j < n) : w.cell? ⟨g, j, none⟩ = some (.int .i64 (f j)) := Row.cell h hj
theorem ArrB.cell {w : World} {g n : Nat} {f : Nat → Bool} (h : ArrB w g n f) {j : Nat} (hj : j < n) : w.cell? ⟨g, j, none⟩ = some (.bool (f j)) := Row.cell h hj
theorem ArrN.cell {w : World} {g n : Nat} {f : Nat → Nat} (h : ArrN w g n f) {j : Nat} (hj : j < n) : w.cell? ⟨g, j, none⟩ = some (.int .i64 (f j : Nat)) := Row.cell h hj

end Go.Proofs.YtmfgffmlnfimcaaDoor

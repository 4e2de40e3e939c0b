/- The walks of exact's prices: slack, turn, grow. -/
import Derived.Test.YtmfgffmlnfimcaaDoorF
import Derived.Test.YtmfgffmlnfimcaaDoorG
import Derived.Test.YtmfgffmlnfimcaaDoorM2
namespace Go.Proofs.YtmfgffmlnfimcaaDoor
open Go Go.RowKit

/-- The prices' block. -/
def PB (w : World) (p : Nat) (A : Option Addr) (c n g1 g2 g3 g4 : Nat) : Prop :=
  w.heap[p]? = some (.cells #[.slice A n c, .slice (some ⟨g1, 0, none⟩) (n + 1) (n + 1), .slice (some ⟨g2, 0, none⟩) (n + 1) (n + 1), .slice (some ⟨g3, 0, none⟩) (n + 1) (n + 1), .slice (some ⟨g4, 0, none⟩) (n + 1) (n + 1)] 62 (0, 0))

theorem PB.cells {w : World} {p : Nat} {A : Option Addr} {c n g1 g2 g3 g4 : Nat} (h : PB w p A c n g1 g2 g3 g4) :
    w.cell? ⟨p, 0, none⟩ = some (.slice A n c) ∧ w.cell? ⟨p, 1, none⟩ = some (.slice (some ⟨g1, 0, none⟩) (n + 1) (n + 1)) ∧ w.cell? ⟨p, 2, none⟩ = some (.slice (some ⟨g2, 0, none⟩) (n + 1) (n + 1)) ∧
    w.cell? ⟨p, 3, none⟩ = some (.slice (some ⟨g3, 0, none⟩) (n + 1) (n + 1)) ∧ w.cell? ⟨p, 4, none⟩ = some (.slice (some ⟨g4, 0, none⟩) (n + 1) (n + 1)) :=
  ⟨blk_cell h 0, blk_cell h 1, blk_cell h 2, blk_cell h 3, blk_cell h 4⟩

set_option maxHeartbeats 1000000 in
theorem turn_any (n p : Nat) (A : Option Addr) (c g1 g2 g3 g4 : Nat) (from_ h h' : Nat → Nat) (k at_ : Nat) (w : World) (_ : n ≤ 24)
    (hp : PB w p A c n g1 g2 g3 g4) (hpg : p ≠ g3) (h43 : g4 ≠ g3) (h3 : ArrN w g3 (n + 1) h) (h4 : ArrN w g4 (n + 1) from_) (hT : Turned n from_ k at_ h h') :
    Calls Tryd.prog 37 #[.pointer (some ⟨p, 0, none⟩), .int .i64 at_] w fun e w' => e = .returned (.tuple #[]) ∧ ArrN w' g3 (n + 1) h' ∧ Keep (· = g3) w w' := by
  have HP := Lib.hid hp
  have H3 := Lib.hid h3
  have H4 := Lib.hid h4
  have HT := Lib.hid hT
  have HPG := Lib.hid hpg
  have H43 := Lib.hid h43
  clear hp h3 h4 hT hpg h43
  go_enter Tryd.func37, Tryd.ntmps37
  go_wp2
  go_loopg [1] k (fun g v1 wr => ∃ (a : Nat) (hh : Nat → Nat), v1 = .int .i64 a ∧ Hid (Turned n from_ g a hh h') ∧ Hid (ArrN wr g3 (n + 1) hh) ∧ Hid (Keep (· = g3) w wr))
  case atStart => exact ⟨at_, h, rfl, HT, H3, Lib.hid (Keep.refl _ _)⟩
  case round =>
    obtain ⟨a, hh, rfl, HTa, HAr, HK⟩ := hrel
    have hpr : PB wr p A c n g1 g2 g3 g4 := HK.out.heap HP.out (by exact HPG.out)
    obtain ⟨-, -, -, hc3, hc4⟩ := hpr.cells
    by_cases ha : a = 0
    · have ha' : ((a : Int) != 0) = false := by simp [ha]
      have HA := Lib.hid ha
      clear ha
      go_wp2
      go_end0
      refine ⟨rfl, ?_, HK.out⟩
      have t := HTa.out
      rw [HA.out] at t
      cases t with
      | stop => exact HAr.out
      | go h0 => exact absurd rfl h0
    · have ha' : ((a : Int) != 0) = true := by simp [ha]
      obtain ⟨g', hg, han, hfn, ht⟩ : ∃ g', gk = g' + 1 ∧ a ≤ n ∧ from_ a ≤ n ∧ Turned n from_ g' (from_ a) (upd hh a (hh (from_ a))) h' := by
        have t := HTa.out
        cases t with
        | stop => exact absurd rfl ha
        | go h0 h1 h2 t => exact ⟨_, rfl, h1, h2, t⟩
      have HG := Lib.hid hg
      have HN := Lib.hid ht
      have hca := ArrN.cell (Row.keep H4.out HK.out H43.out) (show a < n + 1 by omega)
      obtain ⟨f, hf⟩ : ∃ f, from_ a = f := ⟨_, rfl⟩
      rw [hf] at hca hfn
      have hcf := ArrN.cell HAr.out (show f < n + 1 by omega)
      have hcx := ArrN.cell HAr.out (show a < n + 1 by omega)
      have hfx := Row.free HAr.out a
      have hi1 : (a : Int) < (n : Int) + 1 := by omega
      have hi2 : (f : Int) < (n : Int) + 1 := by omega
      have HF := Lib.hid hf
      clear hg ht hf ha
      go_wp2
      go_region
      all_goals go_wp2
      go_roundg g'
      case measure => have := HG.out; omega
      case rel =>
        have hn' := HN.out
        rw [HF.out] at hn'
        exact ⟨f, upd hh a (hh f), rfl, Lib.hid hn', Lib.hid (ArrN.set HAr.out a (hh f)), Lib.hid ((HK.out.setCell (p := ⟨g3, a, none⟩) rfl _).drew)⟩

set_option maxHeartbeats 1000000 in
theorem slack_any (n p : Nat) (A : Option Addr) (c g1 g2 g3 g4 : Nat) (xss : List (List Int)) (row col : Nat → Int) (r cc : Nat) (w : World) (hn : n ≤ 24) (hr1 : 1 ≤ r) (hrn : r ≤ n) (hc1 : 1 ≤ cc) (hcn : cc ≤ n)
    (hp : PB w p A c n g1 g2 g3 g4) (hl : xss.length = n) (hll : ∀ i, i < n → (xss.getD i []).length = n) (hA : RowsAt w A xss) (h1 : w.cell? ⟨g1, r, none⟩ = some (.int .i64 (row r))) (h2 : w.cell? ⟨g2, cc, none⟩ = some (.int .i64 (col cc)))
    (b1 : 0 ≤ (xss.getD (r - 1) []).getD (cc - 1) 0 ∧ (xss.getD (r - 1) []).getD (cc - 1) 0 ≤ 2147483647) (b2 : 0 ≤ row r ∧ row r ≤ 2147483647) (b3 : -2147483647 ≤ col cc ∧ col cc ≤ 0) :
    Calls Tryd.prog 47 #[.pointer (some ⟨p, 0, none⟩), .int .i64 r, .int .i64 cc] w fun e w' => e = .returned (.int .i64 (sl (fun a b => (xss.getD a []).getD b 0) row col r cc)) ∧ ∃ q, w' = w.drewN q := by
  obtain ⟨r', rfl⟩ : ∃ r', r = r' + 1 := ⟨r - 1, by omega⟩
  obtain ⟨c', rfl⟩ : ∃ c', cc = c' + 1 := ⟨cc - 1, by omega⟩
  simp only [Nat.add_sub_cancel] at b1
  obtain ⟨ad, B, cb, e1, hx, hxc, hB⟩ := hA.at_ (j := r') (by omega)
  obtain ⟨ad2, e2, hy⟩ := hB.at_ (j := c') (by rw [hll r' (by omega)]; omega)
  rw [hll r' (by omega)] at hx hxc
  subst e1 e2
  unfold sl
  simp only [Nat.add_sub_cancel]
  generalize (xss.getD r' []).getD c' 0 = X at *
  generalize row (r' + 1) = R at *
  generalize col (c' + 1) = K at *
  obtain ⟨hq0, hq1, hq2, -, -⟩ := hp.cells
  have i1 : (r' : Int) < (n : Int) := by omega
  have i2 : (c' : Int) < (n : Int) := by omega
  have i3 : ((r' + 1 : Nat) : Int) < (n : Int) + 1 := by omega
  have i4 : ((c' + 1 : Nat) : Int) < (n : Int) + 1 := by omega
  clear hp hl hll hA hB
  go_enter Tryd.func47, Tryd.ntmps47
  go_wp2
  go_quiet (fail)
  all_goals go_wp2
  go_ret
  exact ⟨rfl, _, rfl⟩
end Go.Proofs.YtmfgffmlnfimcaaDoor

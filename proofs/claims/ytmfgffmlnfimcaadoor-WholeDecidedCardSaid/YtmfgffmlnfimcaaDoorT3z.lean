/- WholeDecided, whole. -/
import Derived.Test.YtmfgffmlnfimcaaDoorT3k
namespace Go.Proofs.YtmfgffmlnfimcaaDoor
open Go Go.RowKit Go.Shelf Go.Sort Go.Deep

theorem decided_any (I : Inst) (v : Value) (w : World) (hv : InstAt w v I) (hT : TabW w) (an : Nat) (han : an < 256) : Calls Tryd.prog 3 #[v, .int .u8 (an : Nat)] w fun e w' => e = .returned (.bool true) ∧ Below w.heap.size w w' := by
  by_cases h : WF I ∧ isLarge I = true
  · rcases h.1.kinds with hk | hk | hk
    · obtain ⟨n, hn, h1, -⟩ := h.1.knap hk
      obtain ⟨m, rfl⟩ : ∃ m, n = m + 1 := ⟨n - 1, by omega⟩
      exact decided_1 I h.1 h.2 hk v w hv hT an _ m hn han rfl
    · obtain ⟨n, hn, h1, -⟩ := h.1.rows (by omega)
      obtain ⟨m, rfl⟩ : ∃ m, n = m + 1 := ⟨n - 1, by omega⟩
      exact decided_2 I h.1 h.2 hk v w hv hT an _ m hn han rfl
    · obtain ⟨n, hn, h1, -⟩ := h.1.rows (by omega)
      by_cases h3 : n < 3
      · exact decided_3s I h.1 h.2 hk v _ w hv hn h3
      · obtain ⟨p, rfl⟩ : ∃ p, n = p + 3 := ⟨n - 3, by omega⟩
        exact decided_3 I h.1 h.2 hk v w hv hT an _ p hn han rfl
  · exact decided_no I h v _ w hv
end Go.Proofs.YtmfgffmlnfimcaaDoor

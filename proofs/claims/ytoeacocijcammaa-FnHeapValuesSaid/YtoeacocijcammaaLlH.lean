/- The program's moves of a heap: sortedHeaps, heapMoves. -/
import Derived.Test.YtoeacocijcammaaLlG
import Derived.Test.YtoeacocijcammaaMvP
import Derived.Test.YtoeacocijcammaaHvA
namespace Go.Proofs.Ytoeacocijcammaa
open Go.RowKit

theorem c_sortedHeaps (base g c : Nat) (rs : List Row) (w : World) (h : OwnL w base (some ⟨g, 0, none⟩) c rs) (hn : rs.length ≤ 1000000) (hl : ∀ s ∈ rs, s.xs.length ≤ 100000000) :
    Calls Try.prog 63 #[.slice (some ⟨g, 0, none⟩) rs.length c] w (SrtP w base g c rs) := by
  have HS := c_Sort base g c rs w h hn hl
  have H := Lib.hid h
  have hl' := Lib.hid hl
  clear h hl
  obtain ⟨n, hn0⟩ : ∃ n, Hid (rs.length = n) := ⟨_, Lib.hid rfl⟩
  rw [hn0.out] at HS hn ⊢
  go_enter Try.func63, Try.ntmps63
  go_wp2_with fail
  refine HS.mono ?_
  rintro e w1 ⟨rfl, rs1, e1, hp, hs, o1, g1⟩
  have E1 := Lib.hid e1
  have HC := c_CompactFunc base g c rs1 w1 o1 (by rw [e1]; exact hn) (fun s hs => hl'.out s (hp.mem_iff.1 hs))
  rw [e1] at HC
  have G1 := Lib.hid g1
  have fin : Hid (cpt (nums rs1) = putAll [] (nums rs)) := Lib.hid (cpt_putAll hs (fun x => (hp.map Row.xs).mem_iff))
  have HP := Lib.hid (fun r (hr : r ∈ rs1) => hp.mem_iff.1 hr)
  clear e1 hp hs o1 g1
  go_wp2_with fail
  refine HC.mono ?_
  rintro e w2 ⟨rs2, rfl, o2, e2, g2, s2⟩
  have O2 := Lib.hid o2
  have E2 := Lib.hid e2
  have G2 := Lib.hid g2
  have S2 := Lib.hid s2
  clear o2 e2 g2 s2
  go_wp2_with fail
  go_ret
  exact ⟨rs2, rfl, O2.out, E2.out.trans fin.out, grown_trans G1.out G2.out, fun r hr => HP.out r (S2.out r hr)⟩
end Go.Proofs.Ytoeacocijcammaa

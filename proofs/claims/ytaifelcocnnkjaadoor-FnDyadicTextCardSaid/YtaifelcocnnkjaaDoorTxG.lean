/- Draws of texts; what is split is put together again. -/
import Derived.Test.YtaifelcocnnkjaaDoorTxF
import Derived.Test.YtaifelcocnnkjaaDoorCurN
namespace Go.Proofs.YtaifelcocnnkjaaDoor
open Go.RowKit

theorem RdS.of_cells {w : World} {b : Nat} {t : TypeId} {xs : List ByteArray} (h : w.heap[b]? = some (.cells (xs.map Value.string).toArray t (0, 0))) : RdS w (some ⟨b, 0, none⟩) xs.length xs := by
  refine ⟨by simp, fun _ => ⟨b, 0, rfl, fun i u hu => ?_⟩⟩
  simp [World.cell?, h] at hu ⊢
  exact hu
/-- One of some texts. -/
def OfP (w : World) (g : Nat) (A : Option Addr) (n c : Nat) (bs : List Int) (m : Int) (xs : List ByteArray) (e : Ending) (w' : World) : Prop :=
  ∃ x : ByteArray, e = .returned (.string x) ∧ x ∈ xs ∧ Cur w' g A n c bs m ∧ w.grownBy w' (some g)
theorem c_of (B : Option Addr) (c' : Nat) (xs : List ByteArray) (hxs : 0 < xs.length) (hl : xs.length ≤ 100000000)
    (g : Nat) (hB : ∀ b off, B = some ⟨b, off, none⟩ → b ≠ g) (A : Option Addr) (n c : Nat) (bs : List Int) (m : Int) (w : World) (hr : RdS w B xs.length xs) (hc : Cur w g A n c bs m) (hm : m ≤ 1000000000000) (hn : n ≤ 1099511627776) :
    Calls Tryd.prog 46 #[.pointer (some ⟨g, 0, none⟩), .slice B xs.length c'] w (OfP w g A n c bs (m + 2) xs) := by
  go_enter Tryd.func46, Tryd.ntmps46
  go_wp2_with fail
  refine (c_pick xs.length g A n c bs m _ hc hm hn (by omega) (by omega)).mono ?_
  rintro e w1 ⟨x, rfl, x0, x1, hc1, gr⟩
  obtain ⟨k, rfl⟩ := Int.eq_ofNat_of_zero_le x0
  have hk : k < xs.length := by omega
  have hr1 : RdS w1 B xs.length xs := RdV.grown hr (fun _ => hB) gr
  obtain ⟨b, off, rfl, _, hcx⟩ := hr1.at_ hk
  have hmem : Hid (xs.getD k ByteArray.empty ∈ xs) := Lib.hid (by simp [hk])
  generalize xs.getD k ByteArray.empty = y at *
  go_wp2_with fail
  exact bodyPost_ret (results_tmp rfl _ _ _) rfl ⟨y, rfl, hmem.out, hc1, gr⟩
end Go.Proofs.YtaifelcocnnkjaaDoor

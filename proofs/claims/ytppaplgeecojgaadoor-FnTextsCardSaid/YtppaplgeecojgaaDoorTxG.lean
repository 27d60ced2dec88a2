/- Draws of texts; what is split is put together again. -/
import Derived.Test.YtppaplgeecojgaaDoorTxF
import Derived.Test.YtppaplgeecojgaaDoorCur
namespace Go.Proofs.YtppaplgeecojgaaDoor
open Go.RowKit

theorem RdS.of_cells {w : World} {b : Nat} {t : TypeId} {xs : List ByteArray} (h : w.heap[b]? = some (.cells (xs.map Value.string).toArray t (0, 0))) : RdS w (some ⟨b, 0, none⟩) xs.length xs := by
  refine ⟨by simp, fun _ => ⟨b, 0, rfl, fun i u hu => ?_⟩⟩
  simp [World.cell?, h] at hu ⊢
  exact hu
theorem cur_new {w : World} {A : Option Addr} {n c : Nat} {bs : List Int} (hr : RdV w A n (bs.map (Value.int .u8))) (hf : Fits .u8 bs) :
    Cur (w.alloc (.cells #[.slice A n c, .int .i64 0, .int .u64 0] 57)) w.heap.size A n c bs 0 :=
  ⟨⟨0, 0, heap_alloc_new _ _, by omega, by omega, rfl⟩, hr.below ((Below.refl _ _).alloc (Nat.le_refl _) _), hf, fun hn b off e => by
    obtain ⟨b', off', hA, hb, _⟩ := hr.at_ hn
    rw [hA] at e
    injection e with e
    injection e with e1
    omega⟩
/-- What is known of a code that came in. -/
def Code8 (w : World) (A : Option Addr) (n : Nat) (bs : List Int) : Prop := RdV w A n (bs.map (Value.int .u8)) ∧ Fits .u8 bs ∧ n ≤ 65536
theorem Code8.below {w w' : World} {A : Option Addr} {n : Nat} {bs : List Int} (h : Code8 w A n bs) (hb : Below w.heap.size w w') : Code8 w' A n bs :=
  ⟨h.1.below hb, h.2.1, h.2.2⟩
/-- One of some texts. -/
def OfP (w : World) (g : Nat) (A : Option Addr) (n c : Nat) (bs : List Int) (m : Int) (xs : List ByteArray) (e : Ending) (w' : World) : Prop :=
  ∃ x : ByteArray, e = .returned (.string x) ∧ x ∈ xs ∧ Cur w' g A n c bs m ∧ w.grownBy w' (some g)
theorem c_of (B : Option Addr) (c' : Nat) (xs : List ByteArray) (hxs : 0 < xs.length) (hl : xs.length ≤ 100000000)
    (g : Nat) (hB : ∀ b off, B = some ⟨b, off, none⟩ → b ≠ g) (A : Option Addr) (n c : Nat) (bs : List Int) (m : Int) (w : World) (hr : RdS w B xs.length xs) (hc : Cur w g A n c bs m) (hm : m ≤ 1000000000000) (hn : n ≤ 1099511627776) :
    Calls Tryd.prog 42 #[.pointer (some ⟨g, 0, none⟩), .slice B xs.length c'] w (OfP w g A n c bs (m + 2) xs) := by
  go_enter Tryd.func42, Tryd.ntmps42
  go_wp2_with fail
  refine (c_pick xs.length g A n c bs m _ hc hm hn (by omega) (by omega)).mono ?_
  rintro e w1 ⟨x, rfl, x0, x1, hc1, gr⟩
  obtain ⟨k, rfl⟩ := Int.eq_ofNat_of_zero_le x0
  have hk : k < xs.length := by omega
  have hr1 : RdS w1 B xs.length xs := RdV.grown hr (fun _ => hB) gr
  obtain ⟨b, off, rfl, _, hcx⟩ := hr1.at_ hk
  have hmem : Hid (xs.getD k ByteArray.empty ∈ xs) := Lib.hid (by simp [hk])
  generalize xs.getD k ByteArray.empty = y at *
  go_wp2_with fail
  exact bodyPost_ret (results_tmp rfl _ _ _) rfl ⟨y, rfl, hmem.out, hc1, gr⟩
/-- A short text. -/
def ShortP (w : World) (g : Nat) (A : Option Addr) (n c : Nat) (bs : List Int) (m : Int) (e : Ending) (w' : World) : Prop :=
  ∃ x : ByteArray, e = .returned (.string x) ∧ x.size ≤ 10 ∧ Cur w' g A n c bs m ∧ w.grownBy w' (some g)
theorem short_of (xs : List ByteArray) (h : xs.all (fun x => decide (x.size ≤ 10)) = true) : ∀ x ∈ xs, x.size ≤ 10 := fun x hx => by
  simpa using List.all_eq_true.1 h x hx
set_option maxHeartbeats 1000000 in
theorem c_any1 (g : Nat) (A : Option Addr) (n c : Nat) (bs : List Int) (m : Int) (w : World) (hc : Cur w g A n c bs m) (hm : m ≤ 900000000000) (hn : n ≤ 1099511627776) :
    Calls Tryd.prog 43 #[.pointer (some ⟨g, 0, none⟩)] w (ShortP w g A n c bs (m + 2)) := by
  obtain ⟨xs, hxs⟩ : ∃ xs : List ByteArray, xs = [⟨#[]⟩, ⟨#[97]⟩, ⟨#[97, 44, 98]⟩, ⟨#[115, 111, 109, 101, 32, 119, 111, 114, 100, 115]⟩, ⟨#[120, 35, 121]⟩, ⟨#[45, 49, 50]⟩, ⟨#[0, 255]⟩, ⟨#[44, 44]⟩, ⟨#[48]⟩] := ⟨_, rfl⟩
  have hsh := Lib.hid (short_of xs (by rw [hxs]; decide))
  have hl : xs.length = 9 := by rw [hxs]; rfl
  have hr : RdS (w.alloc (.cells (xs.map Value.string).toArray 9)) (some ⟨w.heap.size, 0, none⟩) xs.length xs := RdS.of_cells (heap_alloc_new _ _)
  have HO := Lib.hid (c_of (some ⟨w.heap.size, 0, none⟩) 9 xs (by omega) (by omega) g (fun b off e => by injection e with e; injection e with e; have := hc.lt; omega) A n c bs m _ hr (hc.below ((Below.refl _ _).alloc (Nat.le_refl _) _)) (by omega) hn)
  rw [hl, hxs] at HO
  clear hr hl
  go_enter Tryd.func43, Tryd.ntmps43
  go_wp2_with fail
  refine HO.out.mono ?_
  rintro e w1 ⟨x, rfl, hx, hc1, gr⟩
  rw [← hxs] at hx
  have HX := Lib.hid (hsh.out x hx)
  clear hxs hx
  go_wp2_with fail
  exact bodyPost_ret (results_tmp rfl _ _ _) rfl ⟨x, rfl, HX.out, hc1, grown_trans (World.grownBy_alloc w _ (some g)) gr⟩
end Go.Proofs.YtppaplgeecojgaaDoor

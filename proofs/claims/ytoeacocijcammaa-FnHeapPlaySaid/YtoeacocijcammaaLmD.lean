/- The program's reached positions: filled, reached. -/
import Derived.Test.YtoeacocijcammaaLmC
namespace Go.Proofs.Ytoeacocijcammaa
open Go.RowKit

theorem fil_take_succ {hs : List Int} {k : Nat} (h : k < hs.length) : fil (hs.take (k + 1)) = if 0 < hs.getD k 0 then fil (hs.take k) ++ [hs.getD k 0] else fil (hs.take k) := by
  unfold fil
  rw [List.take_succ_eq_append_getElem h, List.filter_append]
  by_cases h0 : 0 < hs.getD k 0
  · rw [if_pos h0]; simp [h] at h0 ⊢; simp [h0]
  · rw [if_neg h0]; simp [h] at h0 ⊢; simpa using h0
set_option maxHeartbeats 800000 in
theorem c_filled (A : Option Addr) (n c : Nat) (hs : List Int) (w : World) (rd : RdI w A n hs) (hn : n ≤ 1000000) :
    Calls Try.prog 69 #[.slice A n c] w fun e w' => ∃ g c', e = .returned (.slice (some ⟨g, 0, none⟩) (fil hs).length c') ∧ OwnI w' w.heap.size (some ⟨g, 0, none⟩) c' (fil hs) ∧ Below w.heap.size w w' := by
  have hl : Hid (hs.length = n) := Lib.hid rd.len
  go_enter Try.func69, Try.ntmps69
  go_wp2_with fail
  go_loopg [3, 9] n (fun m v i wx => ∃ (k g c' : Nat) (wy : World), wy = wx ∧ k ≤ n ∧ m = n - k ∧ i = .int .i64 k ∧ v = .slice (some ⟨g, 0, none⟩) (fil (hs.take k)).length c' ∧ Hid (OwnI wy w.heap.size (some ⟨g, 0, none⟩) c' (fil (hs.take k))) ∧ Hid (Below w.heap.size w wy))
  case atStart => exact ⟨0, w.heap.size, 0, _, rfl, Nat.zero_le _, rfl, rfl, rfl, Lib.hid (own_lit0 w _ _ (Nat.le_refl _)), Lib.hid ((Below.refl _ _).alloc (Nat.le_refl _) _)⟩
  case round =>
    obtain ⟨k, g, c', wy, rfl, hk, rfl, rfl, rfl, ho, hb⟩ := hrel
    by_cases hlt : k < n
    · obtain ⟨b, off, rfl, _, hcx⟩ := (rd.below hb.out).at_ hlt
      have hsn := Lib.hid (fil_take_succ (hs := hs) (k := k) (by rw [hl.out]; exact hlt))
      have hfl : (fil (hs.take k)).length ≤ k := by
        have h1 := List.length_filter_le (fun x => decide (0 < x)) (hs.take k)
        unfold fil; rw [List.length_take] at h1; omega
      generalize hs.getD k 0 = x at *
      obtain ⟨L, hL⟩ : ∃ L, Hid (fil (hs.take k) = L) := ⟨_, Lib.hid rfl⟩
      rw [hL.out] at hsn hfl ho ⊢
      have hB : w.heap.size ≤ wy.heap.size := hb.out.size
      have k1 : (k : Int) < (n : Int) := by omega
      by_cases h0 : 0 < x
      · rw [if_pos h0] at hsn
        go_wp2_with (at_builtin; refine app1 _ 22 3 (.int .i64 0) 8 Try.underlying22 hI_int rfl rfl (.tmp 15) (.tmp 17) rfl w.heap.size _ _ _ rfl ho.out (.int .i64 x) rfl rfl (by omega) (by omega) hB ?_; intro g' cap' w' h1 h2 h3)
        have fo : Hid (OwnI w' w.heap.size (some ⟨g', 0, none⟩) cap' (fil (hs.take (k + 1)))) := Lib.hid (by
          unfold OwnI; rw [hsn.out, List.length_append, List.map_append]; exact h1)
        have fb : Hid (Below w.heap.size w w') := Lib.hid (hb.out.grown h2 hB (fun q hq => (ho.out.lt q hq).1))
        have fl : Hid ((fil (hs.take (k + 1))).length = L.length + 1) := Lib.hid (by rw [hsn.out]; simp)
        clear h1 h2 h3
        go_roundg (n - (k + 1))
        case measure => omega
        case rel => exact ⟨k + 1, g', cap', _, rfl, by omega, rfl, by go_num, by rw [fl.out], fo, fb⟩
      · rw [if_neg h0] at hsn
        go_wp2_with fail
        go_roundg (n - (k + 1))
        case measure => omega
        case rel => exact ⟨k + 1, g, c', _, rfl, by omega, rfl, by go_num, by rw [hsn.out], by rw [hsn.out]; exact ho, hb⟩
    · obtain rfl : k = n := by omega
      have fin : Hid (hs.take k = hs) := Lib.hid (List.take_of_length_le (by rw [hl.out]; exact Nat.le_refl _))
      rw [fin.out] at ho ⊢
      go_wp2_with fail
      go_ret
      exact ⟨g, c', rfl, ho.out, hb.out⟩

/-- Rows that are read, none in block g. -/
def Far (w : World) (g : Nat) (rs : List Row) : Prop := ∀ r ∈ rs, r.rd w ∧ (0 < r.xs.length → r.blk ≠ some g)
theorem row_blk_lt {w : World} {r : Row} (h : r.rd w) (hn : 0 < r.xs.length) : ∃ k, r.blk = some k ∧ k < w.heap.size := by
  obtain ⟨b, off, hA, hb, _⟩ := RdV.at_ h hn
  exact ⟨b, by unfold Row.blk Row.val; rw [hA]; rfl, hb⟩
theorem Far.below {w w' : World} {g : Nat} {rs : List Row} (h : Far w g rs) (hb : Below w.heap.size w w') : Far w' g rs := fun r hr => ⟨RdI.below (h r hr).1 hb, (h r hr).2⟩
theorem Far.grown {w w' : World} {g : Nat} {rs : List Row} (h : Far w g rs) (hg : w.grownBy w' (some g)) : Far w' g rs := fun r hr => by
  obtain ⟨h1, h2⟩ := h r hr
  refine ⟨RdV.grown h1 (fun hn b off hA => ?_) hg, h2⟩
  intro e; subst e
  exact h2 hn (by unfold Row.blk Row.val; rw [hA]; rfl)
theorem Far.move {w : World} {g g' : Nat} {rs : List Row} (h : Far w g rs) (hg : g' = g ∨ w.heap.size ≤ g') : Far w g' rs := fun r hr => by
  obtain ⟨h1, h2⟩ := h r hr
  refine ⟨h1, fun hn e => ?_⟩
  rcases hg with rfl | hg
  · exact h2 hn e
  · obtain ⟨k, e2, hk⟩ := row_blk_lt h1 hn
    rw [e2] at e
    have := Option.some.inj e
    omega
/-- A slice that is read, not in block g. -/
def FarV (w : World) (g : Nat) (A : Option Addr) (n : Nat) (us : List Value) : Prop := RdV w A n us ∧ (0 < n → ∀ b off, A = some ⟨b, off, none⟩ → b ≠ g)
theorem FarV.below {w w' : World} {g n : Nat} {A : Option Addr} {us : List Value} (h : FarV w g A n us) (hb : Below w.heap.size w w') : FarV w' g A n us := ⟨h.1.below hb, h.2⟩
theorem FarV.grown {w w' : World} {g n : Nat} {A : Option Addr} {us : List Value} (h : FarV w g A n us) (hg : w.grownBy w' (some g)) : FarV w' g A n us := ⟨RdV.grown h.1 h.2 hg, h.2⟩
theorem FarV.move {w : World} {g g' n : Nat} {A : Option Addr} {us : List Value} (h : FarV w g A n us) (hg : g' = g ∨ w.heap.size ≤ g') : FarV w g' A n us := by
  refine ⟨h.1, fun hn b off hA e => ?_⟩
  rcases hg with rfl | hg
  · exact h.2 hn b off hA e
  · obtain ⟨b', off', e2, hb, _⟩ := RdV.at_ h.1 hn
    rw [hA] at e2
    cases e2
    omega
/-- What is owned lies elsewhere than an older block. -/
theorem OwnL.far {w : World} {base : Nat} {A : Option Addr} {c g : Nat} {rs : List Row} (h : OwnL w base A c rs) (hg : g < base) : Far w g rs ∧ FarV w g A rs.length (rs.map Row.val) := by
  refine ⟨fun r hr => ⟨(h.rows r hr).rd, fun _ e => ?_⟩, h.rd.1, fun _ b off hA e => ?_⟩
  · have := ((h.rows r hr).lt g e).1; omega
  · subst hA e
    have := (h.outer.lt b rfl).1; omega
/-- A row of newer memory is appended. -/
theorem OwnL.addNew {wx w1 w' : World} {base g c g' cap : Nat} {rs : List Row} {r : Row} (ho : OwnL wx base (some ⟨g, 0, none⟩) c rs) (hb : base ≤ wx.heap.size) (b1 : Below wx.heap.size wx w1) (hr : r.own w1 wx.heap.size)
    (h1 : w'.ownsRow base 22 1 (.slice (some ⟨g', 0, none⟩) (rs.length + 1) cap) (rs.length + 1) (rs.map Row.val ++ [r.val])) (h2 : w1.grownBy w' (some g)) (h3 : some g = some g' ∨ w1.heap.size ≤ g') : OwnL w' base (some ⟨g', 0, none⟩) cap (rs ++ [r]) := by
  have hlt := (ho.outer.lt g rfl).2
  refine OwnL.add (ho.below b1) h1 h2 h3 (own_low hr hb) ?_ ?_
  · cases e : r.blk with
    | none => exact .inl rfl
    | some k =>
      refine .inr (fun e2 => ?_)
      have e3 : k = g := Option.some.inj e2
      have := (hr.lt k e).1
      omega
  · intro s hs
    cases e : s.blk with
    | none => exact .inl rfl
    | some k =>
      refine .inr (fun e2 => ?_)
      have h4 := ((ho.rows s hs).lt k e).2
      have h5 := (hr.lt k e2.symm).1
      omega
end Go.Proofs.Ytoeacocijcammaa

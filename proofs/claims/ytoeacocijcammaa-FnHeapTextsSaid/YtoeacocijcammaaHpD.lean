/- ReadCode: the contracts, the walk of its law. -/
import Derived.Test.YtoeacocijcammaaHpC
import Derived.Test.YtoeacocijcammaaMarks
import Derived.Lib.Strings
namespace Go.Proofs.Ytoeacocijcammaa
open Go.RowKit

def digs (s : ByteArray) : List Int := (s.data.toList.drop 1).map fun b => (b.toNat : Int) - 48
theorem digs_len (s : ByteArray) : (digs s).length = s.size - 1 := by simp [digs]
theorem digs_take {s : ByteArray} {k : Nat} (hk : k + 1 < s.size) : (digs s).take (k + 1) = (digs s).take k ++ [((s[k + 1]).toNat : Int) - 48] := by
  rw [List.take_succ_eq_append_getElem (by rw [digs_len]; omega)]
  simp [digs]
  rfl
def readOk (s : ByteArray) : Bool := decide (2 ≤ s.size) && decide (s.size ≤ 7) && (((s.data.toList.getD 0 0).toNat : Int) == 46) && goodC (digs s)
def readC (s : ByteArray) : List Int × Bool := if readOk s then (digs s, true) else ([], false)

theorem first_eq {s : ByteArray} (h : 0 < s.size) : s.data.toList.getD 0 0 = s[0] := by
  cases s with | mk d =>
    cases d with | mk l =>
      cases l with
      | nil => simp [ByteArray.size] at h
      | cons a l => rfl
theorem readC_len {s : ByteArray} (h : ¬ (2 ≤ s.size ∧ s.size ≤ 7)) : readC s = ([], false) := by
  have : readOk s = false := by
    rw [← Bool.not_eq_true]
    simp only [readOk, Bool.and_eq_true, decide_eq_true_eq]
    exact fun k => h ⟨k.1.1.1, k.1.1.2⟩
  simp [readC, this]
theorem readC_dot {s : ByteArray} (hp : 0 < s.size) (h : ((s[0].toNat : Int) == 46) = false) : readC s = ([], false) := by
  unfold readC readOk
  rw [first_eq hp, h]
  simp
theorem u46 {b : UInt8} (h : ((b.toNat : Int) == 46) = true) : b = 46 := by
  have := beq_iff_eq.1 h
  apply UInt8.toNat_inj.1
  show b.toNat = 46
  omega
theorem readC_code {s : ByteArray} (h : goodC (digs s) = false) : readC s = ([], false) := by simp [readC, readOk, h]
theorem readC_ok {s : ByteArray} (hp : 2 ≤ s.size) (h7 : s.size ≤ 7) (h : ((s[0].toNat : Int) == 46) = true) (hg : goodC (digs s) = true) : readC s = (digs s, true) := by
  unfold readC readOk
  rw [first_eq (s := s) (by omega), h, hg, decide_eq_true hp, decide_eq_true h7]
  rfl
set_option maxHeartbeats 1600000 in
theorem c_ReadCode (s : ByteArray) (w : World) (hs : s.size ≤ 1048576) :
    Calls Try.prog 21 #[.string s] w (ListP w (readC s)) := by
  by_cases h0 : s.size = 0
  · obtain rfl : s = ⟨#[]⟩ := by
      cases s with | mk d => simp [ByteArray.size] at h0; rw [h0]
    have fin : Hid (readC ⟨#[]⟩ = ([], false)) := Lib.hid rfl
    go_enter Try.func21, Try.ntmps21
    go_wp2_with fail
    exact bodyPost_ret (results_tmp2 rfl _ _ _) rfl (ListP.none fin.out rfl (Below.refl _ _))
  have hp : 0 < s.size := by omega
  have hne : s.toList.isEmpty = false := by
    rw [ByteArray.toList_eq]
    cases hx : s.data.toList with
    | nil => have := congrArg List.length hx; simp at this; simp [ByteArray.size, this] at hp
    | cons a l => rfl
  by_cases h7 : 7 < s.size
  · skip
    have fin : Hid (readC s = ([], false)) := Lib.hid (readC_len (by omega))
    cases h46 : ((s[0].toNat : Int) == 46)
    · have h46' : ((s[0].toNat : Int) != 46) = !((s[0].toNat : Int) == 46) := rfl
      rw [h46] at h46'
      go_enter Try.func21, Try.ntmps21
      go_wp2_with fail
      exact bodyPost_ret (results_tmp2 rfl _ _ _) rfl (ListP.none fin.out rfl (Below.refl _ _))
    · have hu46 := u46 h46
      clear h46
      go_enter Try.func21, Try.ntmps21
      go_wp2_with fail
      exact bodyPost_ret (results_tmp2 rfl _ _ _) rfl (ListP.none fin.out rfl (Below.refl _ _))
  skip
  cases h46 : ((s[0].toNat : Int) == 46)
  · have fin : Hid (readC s = ([], false)) := Lib.hid (readC_dot hp h46)
    have h46' : ((s[0].toNat : Int) != 46) = !((s[0].toNat : Int) == 46) := rfl
    rw [h46] at h46'
    go_enter Try.func21, Try.ntmps21
    go_wp2_with fail
    exact bodyPost_ret (results_tmp2 rfl _ _ _) rfl (ListP.none fin.out rfl (Below.refl _ _))
  · have hu46 := u46 h46
    have H46 := Lib.hid h46
    clear h46
    go_enter Try.func21, Try.ntmps21
    go_wp2_with fail
    go_loopw [4, 5] (fun o i wr => ∃ (k g cap : Nat), k + 1 ≤ s.size ∧ i = .int .i64 ((k : Int) + 1) ∧ o = .slice (some ⟨g, 0, none⟩) k cap ∧
      wr.ownsRow w.heap.size 3 1 (.slice (some ⟨g, 0, none⟩) k cap) k (((digs s).take k).map (Value.int .i64)) ∧ w.heap.size ≤ g ∧ Below w.heap.size w wr) (fun _ i _ => s.size - (intOf i).toNat)
    case atStart => exact ⟨0, w.heap.size, 0, by omega, rfl, rfl, own_lit0 w _ _ (Nat.le_refl _), Nat.le_refl _, by go_grown⟩
    case round =>
      rename_i wr
      obtain ⟨k, g, cap, hk, rfl, rfl, hown, hgw, hb⟩ := hrel
      by_cases hlt : k + 1 < s.size
      · have ht := Lib.hid (digs_take hlt)
        have Hb := Lib.hid hb
        have hL : k + 1 ≤ 100000000 := by omega
        have hB : w.heap.size ≤ wr.heap.size := Hb.out.size
        have hu : s[k + 1].toNat < 256 := s[k + 1].toNat_lt
        have hz : ((k : Int) + 1).toNat = k + 1 := by omega
        clear hb
        go_wp2_with (at_builtin; refine app1 _ 22 3 (.int .i64 0) 8 Try.underlying22 hI_int rfl rfl (.tmp 25) (.tmp 31) rfl w.heap.size _ _ _ rfl hown (.int .i64 ((s[k + 1].toNat : Int) - 48)) rfl rfl hL (by omega) hB ?_; intro g' cap' w' h1 h2 h3)
        go_roundw
        case rel =>
          refine ⟨k + 1, g', cap', by omega, by go_num, rfl, ?_, ?_, Hb.out.grown h2 hB (by intro j hj; have := Option.some.inj (show some g = some j from hj); omega)⟩
          · rw [ht.out, List.map_append]; exact h1
          · rcases h3 with h3 | h3
            · have := Option.some.inj (show some g = some g' from h3); omega
            · omega
        case measure => simp [intOf]; omega
      · have hk' : k = (digs s).length := by rw [digs_len]; omega
        rw [hk', List.take_length] at hown
        subst hk'
        cases hg : goodC (digs s)
        · have fin : Hid (readC s = ([], false)) := Lib.hid (readC_code hg)
          go_wp2_with (go_at_call 23; refine (c_GoodCode _ _ (digs s) _ (RdV.of_own hown)).mono ?_; rintro e w' ⟨rfl, rfl⟩)
          exact bodyPost_ret (results_tmp2 rfl _ _ _) rfl (ListP.none fin.out rfl hb)
        · have fin : Hid (readC s = (digs s, true)) := Lib.hid (readC_ok (by have := (goodC_iff.1 hg).1; rw [digs_len] at this; omega) (by omega) H46.out hg)
          go_wp2_with (go_at_call 23; refine (c_GoodCode _ _ (digs s) _ (RdV.of_own hown)).mono ?_; rintro e w' ⟨rfl, rfl⟩)
          exact bodyPost_ret (results_tmp2 rfl _ _ _) rfl ⟨_, _, by rw [fin.out]; rfl, by rw [fin.out]; exact hown, hb⟩
end Go.Proofs.Ytoeacocijcammaa

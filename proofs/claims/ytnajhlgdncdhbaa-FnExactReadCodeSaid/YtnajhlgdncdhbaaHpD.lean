/- ReadCode: the contracts, the walk of its law. -/
import Derived.Test.YtnajhlgdncdhbaaHpC
import Derived.Test.YtnajhlgdncdhbaaMarks
import Derived.Lib.Strings
namespace Go.Proofs.Ytnajhlgdncdhbaa
open Go.RowKit

def digs (s : ByteArray) : List Int := (s.data.toList.drop 1).map fun b => (b.toNat : Int) - 48
theorem digs_len (s : ByteArray) : (digs s).length = s.size - 1 := by simp [digs]
theorem digs_take {s : ByteArray} {k : Nat} (hk : k + 1 < s.size) : (digs s).take (k + 1) = (digs s).take k ++ [((s[k + 1]).toNat : Int) - 48] := by
  rw [List.take_succ_eq_append_getElem (by rw [digs_len]; omega)]
  simp [digs]
  rfl
def readOk (s : ByteArray) : Bool := decide (2 ≤ s.size) && decide (s.size ≤ 7) && (((s.data.toList.getD 0 0).toNat : Int) == 46) && goodC (digs s)
def readC (s : ByteArray) : List Int × Bool := if readOk s then (digs s, true) else ([], false)
/-- A new slice of ints and a bool. -/
def ListP (w : World) (m : List Int × Bool) (e : Ending) (w' : World) : Prop :=
  ∃ A c, e = .returned (.tuple #[.slice A m.1.length c, .bool m.2]) ∧ OwnI w' w.heap.size A c m.1 ∧ Below w.heap.size w w'
theorem ListP.none {w w' : World} {m : List Int × Bool} {e : Ending} (h : m = ([], false)) (he : e = .returned (.tuple #[.slice none 0 0, .bool false])) (hb : Below w.heap.size w w') : ListP w m e w' := by
  subst h; exact ⟨_, _, he, OwnI.nil _ _, hb⟩
theorem hI_int : (Try.prog.info? 3).map (fun i => (i.zero, i.size, i.bytes)) = some (some (.int .i64 0), 1, 8) := by kernel_rfl

theorem first_eq {s : ByteArray} (h : 0 < s.size) : s.data.toList.getD 0 0 = s[0] := by
  cases s with | mk d =>
    cases d with | mk l =>
      cases l with
      | nil => simp [ByteArray.size] at h
      | cons a l => rfl
theorem readC_len {s : ByteArray} (h : ¬ (2 ≤ s.size ∧ s.size ≤ 7)) : readC s = ([], false) := by
  have : readOk s = false := by
    rw [← Bool.not_eq_true]
    simp only [readOk, Bool.and_eq_true, decide_eq_true_eq]
    exact fun k => h ⟨k.1.1.1, k.1.1.2⟩
  simp [readC, this]
theorem readC_dot {s : ByteArray} (hp : 0 < s.size) (h : ((s[0].toNat : Int) == 46) = false) : readC s = ([], false) := by
  unfold readC readOk
  rw [first_eq hp, h]
  simp
theorem u46 {b : UInt8} (h : ((b.toNat : Int) == 46) = true) : b = 46 := by
  have := beq_iff_eq.1 h
  apply UInt8.toNat_inj.1
  show b.toNat = 46
  omega
theorem readC_code {s : ByteArray} (h : goodC (digs s) = false) : readC s = ([], false) := by simp [readC, readOk, h]
theorem readC_ok {s : ByteArray} (hp : 2 ≤ s.size) (h7 : s.size ≤ 7) (h : ((s[0].toNat : Int) == 46) = true) (hg : goodC (digs s) = true) : readC s = (digs s, true) := by
  unfold readC readOk
  rw [first_eq (s := s) (by omega), h, hg, decide_eq_true hp, decide_eq_true h7]
  rfl
theorem results_tmp2 {fn : Func} {t u : Tmp} (h : fn.results = #[.tmp t, .tmp u]) (tmps : Array Value) (P : Program) (w : World) : (results fn tmps).run P w = .ok (.tuple #[tmps.getD t undef, tmps.getD u undef]) w := by
  simp [results, h]
set_option maxHeartbeats 1600000 in
theorem c_ReadCode (s : ByteArray) (w : World) (hs : s.size ≤ 1048576) :
    Calls Try.prog 27 #[.string s] w (ListP w (readC s)) := by
  by_cases h0 : s.size = 0
  · obtain rfl : s = ⟨#[]⟩ := by
      cases s with | mk d => simp [ByteArray.size] at h0; rw [h0]
    have fin : Hid (readC ⟨#[]⟩ = ([], false)) := Lib.hid rfl
    go_enter Try.func27, Try.ntmps27
    go_wp2_with fail
    exact bodyPost_ret (results_tmp2 rfl _ _ _) rfl (ListP.none fin.out rfl (Below.refl _ _))
  have hp : 0 < s.size := by omega
  have hne : s.toList.isEmpty = false := by
    rw [ByteArray.toList_eq]
    cases hx : s.data.toList with
    | nil => have := congrArg List.length hx; simp at this; simp [ByteArray.size, this] at hp
    | cons a l => rfl
  by_cases h7 : 7 < s.size
  · skip
    have fin : Hid (readC s = ([], false)) := Lib.hid (readC_len (by omega))
    cases h46 : ((s[0].toNat : Int) == 46)
    · have h46' : ((s[0].toNat : Int) != 46) = !((s[0].toNat : Int) == 46) := rfl
      rw [h46] at h46'
      go_enter Try.func27, Try.ntmps27
      go_wp2_with fail
      exact bodyPost_ret (results_tmp2 rfl _ _ _) rfl (ListP.none fin.out rfl (Below.refl _ _))
    · have hu46 := u46 h46
      clear h46
      go_enter Try.func27, Try.ntmps27
      go_wp2_with fail
      exact bodyPost_ret (results_tmp2 rfl _ _ _) rfl (ListP.none fin.out rfl (Below.refl _ _))
  skip
  cases h46 : ((s[0].toNat : Int) == 46)
  · have fin : Hid (readC s = ([], false)) := Lib.hid (readC_dot hp h46)
    have h46' : ((s[0].toNat : Int) != 46) = !((s[0].toNat : Int) == 46) := rfl
    rw [h46] at h46'
    go_enter Try.func27, Try.ntmps27
    go_wp2_with fail
    exact bodyPost_ret (results_tmp2 rfl _ _ _) rfl (ListP.none fin.out rfl (Below.refl _ _))
  · have hu46 := u46 h46
    have H46 := Lib.hid h46
    clear h46
    go_enter Try.func27, Try.ntmps27
    go_wp2_with fail
    go_loopw [4, 5] (fun o i wr => ∃ (k g cap : Nat), k + 1 ≤ s.size ∧ i = .int .i64 ((k : Int) + 1) ∧ o = .slice (some ⟨g, 0, none⟩) k cap ∧
      wr.ownsRow w.heap.size 3 1 (.slice (some ⟨g, 0, none⟩) k cap) k (((digs s).take k).map (Value.int .i64)) ∧ w.heap.size ≤ g ∧ Below w.heap.size w wr) (fun _ i _ => s.size - (intOf i).toNat)
    case atStart => exact ⟨0, w.heap.size, 0, by omega, rfl, rfl, own_lit0 w _ _ (Nat.le_refl _), Nat.le_refl _, by go_grown⟩
    case round =>
      rename_i wr
      obtain ⟨k, g, cap, hk, rfl, rfl, hown, hgw, hb⟩ := hrel
      by_cases hlt : k + 1 < s.size
      · have ht := Lib.hid (digs_take hlt)
        have Hb := Lib.hid hb
        have hL : k + 1 ≤ 100000000 := by omega
        have hB : w.heap.size ≤ wr.heap.size := Hb.out.size
        have hu : s[k + 1].toNat < 256 := s[k + 1].toNat_lt
        have hz : ((k : Int) + 1).toNat = k + 1 := by omega
        clear hb
        go_wp2_with (at_builtin; refine app1 _ 28 3 (.int .i64 0) 8 Try.underlying28 hI_int rfl rfl (.tmp 25) (.tmp 31) rfl w.heap.size _ _ _ rfl hown (.int .i64 ((s[k + 1].toNat : Int) - 48)) rfl rfl hL (by omega) hB ?_; intro g' cap' w' h1 h2 h3)
        go_roundw
        case rel =>
          refine ⟨k + 1, g', cap', by omega, by go_num, rfl, ?_, ?_, Hb.out.grown h2 hB (by intro j hj; have := Option.some.inj (show some g = some j from hj); omega)⟩
          · rw [ht.out, List.map_append]; exact h1
          · rcases h3 with h3 | h3
            · have := Option.some.inj (show some g = some g' from h3); omega
            · omega
        case measure => simp [intOf]; omega
      · have hk' : k = (digs s).length := by rw [digs_len]; omega
        rw [hk', List.take_length] at hown
        subst hk'
        cases hg : goodC (digs s)
        · have fin : Hid (readC s = ([], false)) := Lib.hid (readC_code hg)
          go_wp2_with (go_at_call 18; refine (c_GoodCode _ _ (digs s) _ (RdV.of_own hown)).mono ?_; rintro e w' ⟨rfl, rfl⟩)
          exact bodyPost_ret (results_tmp2 rfl _ _ _) rfl (ListP.none fin.out rfl hb)
        · have fin : Hid (readC s = (digs s, true)) := Lib.hid (readC_ok (by have := (goodC_iff.1 hg).1; rw [digs_len] at this; omega) (by omega) H46.out hg)
          go_wp2_with (go_at_call 18; refine (c_GoodCode _ _ (digs s) _ (RdV.of_own hown)).mono ?_; rintro e w' ⟨rfl, rfl⟩)
          exact bodyPost_ret (results_tmp2 rfl _ _ _) rfl ⟨_, _, by rw [fin.out]; rfl, by rw [fin.out]; exact hown, hb⟩
set_option maxHeartbeats 1600000 in
theorem s_ReadCode (s : ByteArray) (w : World) (hs : s.size ≤ 1048576) :
    Calls Try.prog 26 #[.string s] w (ListP w (readC s)) := by
  by_cases h0 : s.size < 2
  · have hin : inB (s.size : Int) 2 7 = false := inB_false.2 (by omega)
    have fin : Hid (readC s = ([], false)) := Lib.hid (readC_len (by omega))
    go_enter Try.func26, Try.ntmps26
    go_wp2_with (go_at_call 45; refine (c_l1In _ _ _ _).mono ?_; rintro e w' ⟨rfl, rfl⟩)
    exact bodyPost_ret (results_tmp2 rfl _ _ _) rfl (ListP.none fin.out rfl (Below.refl _ _))
  have hp : 0 < s.size := by omega
  skip
  by_cases h7 : 7 < s.size
  · have hin : inB (s.size : Int) 2 7 = false := inB_false.2 (by omega)
    have fin : Hid (readC s = ([], false)) := Lib.hid (readC_len (by omega))
    cases h46 : ((s[0].toNat : Int) == 46)
    all_goals
      have h46' : ((s[0].toNat : Int) != 46) = !((s[0].toNat : Int) == 46) := rfl
      rw [h46] at h46'
      go_enter Try.func26, Try.ntmps26
      go_wp2_with (go_at_call 45; refine (c_l1In _ _ _ _).mono ?_; rintro e w' ⟨rfl, rfl⟩)
      exact bodyPost_ret (results_tmp2 rfl _ _ _) rfl (ListP.none fin.out rfl (Below.refl _ _))
  have hin : inB (s.size : Int) 2 7 = true := inB_true.2 (by omega)
  cases h46 : ((s[0].toNat : Int) == 46)
  · have fin : Hid (readC s = ([], false)) := Lib.hid (readC_dot hp h46)
    have h46' : ((s[0].toNat : Int) != 46) = !((s[0].toNat : Int) == 46) := rfl
    rw [h46] at h46'
    go_enter Try.func26, Try.ntmps26
    go_wp2_with (go_at_call 45; refine (c_l1In _ _ _ _).mono ?_; rintro e w' ⟨rfl, rfl⟩)
    exact bodyPost_ret (results_tmp2 rfl _ _ _) rfl (ListP.none fin.out rfl (Below.refl _ _))
  · have h46' : ((s[0].toNat : Int) != 46) = !((s[0].toNat : Int) == 46) := rfl
    rw [h46] at h46'
    go_enter Try.func26, Try.ntmps26
    go_wp2_with (go_at_call 45; refine (c_l1In _ _ _ _).mono ?_; rintro e w' ⟨rfl, rfl⟩)
    go_loopw [4, 5] (fun o i wr => ∃ (k g cap : Nat), k + 1 ≤ s.size ∧ i = .int .i64 ((k : Int) + 1) ∧ o = .slice (some ⟨g, 0, none⟩) k cap ∧
      wr.ownsRow w.heap.size 3 1 (.slice (some ⟨g, 0, none⟩) k cap) k (((digs s).take k).map (Value.int .i64)) ∧ w.heap.size ≤ g ∧ Below w.heap.size w wr) (fun _ i _ => s.size - (intOf i).toNat)
    case atStart => exact ⟨0, w.heap.size, 0, by omega, rfl, rfl, own_lit0 w _ _ (Nat.le_refl _), Nat.le_refl _, by go_grown⟩
    case round =>
      rename_i wr
      obtain ⟨k, g, cap, hk, rfl, rfl, hown, hgw, hb⟩ := hrel
      by_cases hlt : k + 1 < s.size
      · have ht := Lib.hid (digs_take hlt)
        have Hb := Lib.hid hb
        have hL : k + 1 ≤ 100000000 := by omega
        have hB : w.heap.size ≤ wr.heap.size := Hb.out.size
        have hu : s[k + 1].toNat < 256 := s[k + 1].toNat_lt
        have hz : ((k : Int) + 1).toNat = k + 1 := by omega
        clear hb
        go_wp2_with (at_builtin; refine app1 _ 28 3 (.int .i64 0) 8 Try.underlying28 hI_int rfl rfl (.tmp 22) (.tmp 28) rfl w.heap.size _ _ _ rfl hown (.int .i64 ((s[k + 1].toNat : Int) - 48)) rfl rfl hL (by omega) hB ?_; intro g' cap' w' h1 h2 h3)
        go_roundw
        case rel =>
          refine ⟨k + 1, g', cap', by omega, by go_num, rfl, ?_, ?_, Hb.out.grown h2 hB (by intro j hj; have := Option.some.inj (show some g = some j from hj); omega)⟩
          · rw [ht.out, List.map_append]; exact h1
          · rcases h3 with h3 | h3
            · have := Option.some.inj (show some g = some g' from h3); omega
            · omega
        case measure => simp [intOf]; omega
      · have hk' : k = (digs s).length := by rw [digs_len]; omega
        rw [hk', List.take_length] at hown
        subst hk'
        cases hg : goodC (digs s)
        · have fin : Hid (readC s = ([], false)) := Lib.hid (readC_code hg)
          go_wp2_with (go_at_call 16; refine (s_GoodCode _ _ (digs s) _ (RdV.of_own hown) (by rw [digs_len]; omega)).mono ?_; rintro e w' ⟨rfl, rfl⟩)
          exact bodyPost_ret (results_tmp2 rfl _ _ _) rfl (ListP.none fin.out rfl hb)
        · have fin : Hid (readC s = (digs s, true)) := Lib.hid (readC_ok (by omega) (by omega) h46 hg)
          go_wp2_with (go_at_call 16; refine (s_GoodCode _ _ (digs s) _ (RdV.of_own hown) (by rw [digs_len]; omega)).mono ?_; rintro e w' ⟨rfl, rfl⟩)
          exact bodyPost_ret (results_tmp2 rfl _ _ _) rfl ⟨_, _, by rw [fin.out]; rfl, by rw [fin.out]; exact hown, hb⟩
set_option maxHeartbeats 1600000 in
theorem w_FnExactReadCode (s : ByteArray) (w : World) (hs : s.size ≤ maxLen) :
    Calls Try.prog 8 #[.string s] w fun e w' => e = .returned (.bool true) ∧ Below w.heap.size w w' := by
  unfold maxLen at hs
  by_cases hn : s.size ≤ 1048576
  · obtain ⟨m, Hm⟩ : ∃ m, Hid (readC s = m) := ⟨_, Lib.hid rfl⟩
    have hl : Hid (m.1.length ≤ 1048576) := Lib.hid (by
      rw [← Hm.out]; unfold readC; split
      · show (digs s).length ≤ _
        rw [digs_len]; omega
      · simp)
    have HS : ∀ w, Calls Try.prog 26 #[.string s] w (ListP w m) := fun w => by have := s_ReadCode s w hn; rwa [Hm.out] at this
    have HC : ∀ w, Calls Try.prog 27 #[.string s] w (ListP w m) := fun w => by have := c_ReadCode s w hn; rwa [Hm.out] at this
    obtain ⟨xs, ok⟩ := m
    have hl : xs.length ≤ 1048576 := hl.out
    go_enter Try.func8, Try.ntmps8
    go_wp2_with fail
    refine (HS _).mono ?_
    rintro e w1 ⟨A, c, rfl, o1, b1⟩
    go_wp2_with fail
    refine (HC _).mono ?_
    rintro e w2 ⟨A', c', rfl, o2, b2⟩
    have B2 := Below.next b1 b2
    have r1 := o1.rd.below b2
    have r2 := o2.rd
    go_wp2_with fail
    refine (c_eqIntS_same _ _ _ _ _ xs _ r2 r1 hl).mono ?_
    rintro e w3 ⟨rfl, q3⟩
    have B3 := Below.next B2 q3.below
    have o3 := own_below o2 q3.below
    have r1 := r1.q q3
    go_wp2_with fail
    refine (c_markIntS _ _ _ xs _ _ o3 (by omega) (by decide) (by decide)).mono ?_
    rintro e w4 ⟨rfl, o4, g4⟩
    have r1 := RdI.grown r1 o3 (OwnI.old o1 (Nat.le_refl _)) g4
    have B4 := B3.grown g4 B3.size (fun k hk => Nat.le_trans b1.size (o3.lt k hk).1)
    have r4 : RdI w4 A' xs.length (mks 1 xs.length) := RdV.of_own o4
    have hk0 : (0 : Int) ≤ 1 + (xs.length : Int) := by omega
    go_wp2_with fail
    refine (c_heldIntS _ _ _ _ _ r4 (by omega) (by decide) (by decide)).mono ?_
    rintro e w5 ⟨rfl, rfl⟩
    go_wp2_with fail
    refine (HC _).mono ?_
    rintro e w5 ⟨A3, c3, rfl, o5, b5⟩
    have B5 := Below.next B4 b5
    have r1 := r1.below b5
    have r4 := r4.below b5
    go_wp2_with fail
    refine (c_eqIntS_same _ _ _ _ _ xs _ o5.rd r1 hl).mono ?_
    rintro e w6 ⟨rfl, q6⟩
    have B6 := Below.next B5 q6.below
    have r4 := r4.q q6
    go_wp2_with fail
    refine (c_heldIntS _ _ _ _ _ r4 (by omega) (by decide) (by decide)).mono ?_
    rintro e w7 ⟨rfl, rfl⟩
    go_wp2_with fail
    go_ret
    exact ⟨rfl, B6⟩
  · go_enter Try.func8, Try.ntmps8
    go_wp2_with fail
    go_ret
    exact ⟨rfl, Below.refl _ _⟩
end Go.Proofs.Ytnajhlgdncdhbaa

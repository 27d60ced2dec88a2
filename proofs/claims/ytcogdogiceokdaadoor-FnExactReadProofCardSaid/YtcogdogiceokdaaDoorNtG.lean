/- Reading a number's text, by the program (strconv.Atoi); the walk of the law on ReadNum. -/
import Derived.Test.YtcogdogiceokdaaDoorNtF
import Derived.Stop.LaidErr
import Derived.LaidLaws
import Derived.Lib.AtoiTie
import Derived.Lib.AtoiBound
namespace Go.Proofs.YtcogdogiceokdaaDoor
open Go.RowKit

/-- The library's error of syntax is there. -/
def SynV (w : World) : Prop := ∃ tp p, w.var? Tryd.prog "strconv.ErrSyntax" = some #[.iface tp p]
theorem g_syn : Tryd.prog.globalNamed "strconv.ErrSyntax" = some 4 := by kernel_rfl
theorem SynV.below {w w' : World} (h : SynV w) (hb : Below w.heap.size w w') : SynV w' := by
  obtain ⟨tp, p, h⟩ := h
  exact ⟨tp, p, Joins.var_stays g_syn h hb (Nat.le_refl _)⟩
theorem star_err : "*errors.errorString" = "*" ++ "errors.errorString" := by decide
theorem row_err (u : TypeId) (h : Tryd.prog.typeName? 3 u = some "*errors.errorString") : u = 132 :=
  typeName_ptr_named (nm := "errors.errorString") (by rw [← star_err]; kernel_rfl) (by kernel_rfl) (by decide) u (by rw [← star_err]; exact h)
theorem syn_of {W : World} {r : List (String × DataW Unit)} (h : laidMet Tryd.prog (("strconv.ErrSyntax", .iface "*errors.errorString" (.ptr (.agg [.lit (.string [105, 110, 118, 97, 108, 105, 100, 32, 115, 121, 110, 116, 97, 120])]))) :: r) W) : SynV W := by
  obtain ⟨a, s, hv, _⟩ := laid_sentinel h g_syn (by kernel_rfl) Tryd.underlying71 row_err Tryd.underlying132 Tryd.underlying134 rfl rfl Tryd.underlying9 (by kernel_rfl) (by kernel_rfl)
  exact ⟨_, _, hv⟩
theorem numB_len7 {n : Int} (h0 : -999999 ≤ n) (h1 : n ≤ 999999) : (numB n).length ≤ 7 := by
  unfold numB
  split
  · have := digB_len 5 n.natAbs (by omega); simp; omega
  · have := digB_len 5 n.toNat (by omega); omega
theorem numT_in {n : Int} (h0 : -999999 ≤ n) (h1 : n ≤ 999999) : numT n = (strOfNums (numB n), true) := by unfold numT; rw [if_pos]; simp; omega
theorem numT_out {n : Int} (h : ¬ (-999999 ≤ n ∧ n ≤ 999999)) : numT n = (ByteArray.empty, false) := by unfold numT; rw [if_neg]; simp; omega
set_option maxHeartbeats 1600000 in
theorem c_ReadNum (s : ByteArray) (w : World) (hs : s.size ≤ 1048576) (ht : Tab w) (hv : SynV w) :
    Calls Tryd.prog 43 #[.string s] w fun e w' => e = .returned (.tuple #[.int .i64 (readT s).1, .bool (readT s).2]) ∧ Below w.heap.size w w' := by
  by_cases h7 : s.size ≤ 7
  · have h71 : ¬ (7 : Int) < (s.size : Int) := by omega
    have hlen : s.data.toList.length = s.size := by simp
    cases ha : Lib.atoi s.data.toList with
    | none =>
      have hno : numOf s = none := by unfold numOf; rw [ha]
      have fin := Lib.hid (readT_none hno)
      have hall := Lib.atoiAll_short s.data.toList (by omega)
      rw [ha] at hall
      obtain ⟨tp, p, hvar⟩ := hv
      have HA := Lib.hid (Tryd.strconv_Atoi_syntax_var s (by omega) hall tp p w hvar)
      clear hno hall hvar ha
      go_enter Tryd.func43, Tryd.ntmps43
      go_wp2_with (go_at_call 57; refine HA.out.mono ?_; rintro e w1 ⟨N, rfl, _, _, b1⟩)
      go_ret2
      exact ⟨ret_iv2 fin.out, b1⟩
    | some n =>
      have HA := Lib.hid (Tryd.strconv_Atoi s n (by omega) ha w)
      have hbd := Lib.atoi_bound ha (by omega)
      by_cases hr : -999999 ≤ n ∧ n ≤ 999999
      · have HT := fun w h => c_NumText n w h
        rw [numT_in hr.1 hr.2] at HT
        have HT := Lib.hid HT
        by_cases he : strOfNums (numB n) = s
        · have fin := Lib.hid (readT_some (numOf_some.2 ⟨hr.1, hr.2, he⟩))
          have hz : ((strOfNums (numB n)).toList == s.toList) = true := by rw [he]; simp
          clear he ha hr
          go_enter Tryd.func43, Tryd.ntmps43
          go_wp2_with (go_at_call 57; refine HA.out.mono ?_; rintro e w1 ⟨rfl, x, rfl⟩)
          have b1 : Below w.heap.size w (Lib.bytesWorld w 5 x) := Lib.bytesWorld_below _ _ _
          have ht1 := ht.below b1
          refine (HT.out _ ht1).mono ?_
          rintro e w2 ⟨rfl, b2⟩
          have b3 := Below.next b1 b2
          go_wp2_with fail
          go_ret2
          exact ⟨ret_iv2 fin.out, b3⟩
        · have hno : numOf s = none := by
            unfold numOf; rw [ha]; exact if_neg (fun k => he k.2.2)
          have fin := Lib.hid (readT_none hno)
          have hz := str_ne he
          clear he ha hr hno
          go_enter Tryd.func43, Tryd.ntmps43
          go_wp2_with (go_at_call 57; refine HA.out.mono ?_; rintro e w1 ⟨rfl, x, rfl⟩)
          have b1 : Below w.heap.size w (Lib.bytesWorld w 5 x) := Lib.bytesWorld_below _ _ _
          have ht1 := ht.below b1
          refine (HT.out _ ht1).mono ?_
          rintro e w2 ⟨rfl, b2⟩
          have b3 := Below.next b1 b2
          go_wp2_with fail
          go_ret2
          exact ⟨ret_iv2 fin.out, b3⟩
      · have HT := fun w h => c_NumText n w h
        rw [numT_out hr] at HT
        have HT := Lib.hid HT
        have hno : numOf s = none := by
          unfold numOf; rw [ha]; exact if_neg (fun k => hr ⟨k.1, k.2.1⟩)
        have fin := Lib.hid (readT_none hno)
        clear ha hr hno
        go_enter Tryd.func43, Tryd.ntmps43
        go_wp2_with (go_at_call 57; refine HA.out.mono ?_; rintro e w1 ⟨rfl, x, rfl⟩)
        have b1 : Below w.heap.size w (Lib.bytesWorld w 5 x) := Lib.bytesWorld_below _ _ _
        have ht1 := ht.below b1
        refine (HT.out _ ht1).mono ?_
        rintro e w2 ⟨rfl, b2⟩
        have b3 := Below.next b1 b2
        go_wp2_with fail
        go_ret2
        exact ⟨ret_iv2 fin.out, b3⟩
  · have hno : numOf s = none := numOf_none fun n k => by
      have h1 := congrArg ByteArray.size k.2.2
      rw [strOfNums_size] at h1
      have := numB_len7 k.1 k.2.1
      omega
    have fin := Lib.hid (readT_none hno)
    have h71 : (7 : Int) < (s.size : Int) := by omega
    clear hno
    go_enter Tryd.func43, Tryd.ntmps43
    go_wp2_with fail
    go_ret2
    exact ⟨ret_iv2 fin.out, Below.refl _ _⟩
end Go.Proofs.YtcogdogiceokdaaDoor

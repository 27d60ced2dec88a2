/- Texts of numbers come back: the plain law. -/
import Derived.Test.YtaifelcocnnkjaaDoorNtL
namespace Go.Proofs.YtaifelcocnnkjaaDoor
open Go.RowKit

theorem itoa_ne (n : Int) : 0 < (Lib.itoa n).length := by
  unfold Lib.itoa
  split
  · simp
  · have := decDigits_ne n.toNat
    rcases h : Lib.decDigits n.toNat with _ | ⟨a, l⟩
    · exact absurd h this
    · simp
theorem isdy_pos {s : ByteArray} {t p : Int} (h : IsDy s t p) : 0 < s.size := by
  have e : s.data.toList.length = s.size := by simp
  have h1 := itoa_ne t
  by_cases hp : p = 0
  · subst hp
    rw [isdy_list0 h] at e
    omega
  · rw [isdy_list1 h hp, List.length_append] at e
    omega
theorem dyB_pos {t p : Int} (hg : gd t p = true) : 0 < (dyB t p).size := isdy_pos ⟨hg, rfl⟩
/-- What is read of a good number's text. -/
theorem back_ok {t p t' p' : Int} {ok : Bool} (hg : gd t p = true) (h : ReadOk (dyB t p) t' p' ok) : t' = t ∧ p' = p ∧ ok = true := h.same (read_yes hg rfl)
/-- What is read of no text. -/
theorem back_no {t' p' : Int} {ok : Bool} (h : ReadOk ByteArray.empty t' p' ok) : t' = 0 ∧ p' = 0 ∧ ok = false :=
  h.same (read_no (fun t p k => by have := isdy_pos k; exact absurd this (by decide)))
/-- What is read of DyadicText's answer. -/
theorem back_dyT {t p t' p' : Int} {ok : Bool} (h : ReadOk (dyT t p).1 t' p' ok) : ok = (dyT t p).2 ∧ (ok = true → t' = t ∧ p' = p) ∧ (dyT t p).2 = gd t p := by
  unfold dyT at h ⊢
  cases hg : gd t p
  · rw [hg] at h
    obtain ⟨_, _, rfl⟩ := back_no h
    exact ⟨rfl, (fun e => by cases e), rfl⟩
  · rw [hg] at h
    obtain ⟨rfl, rfl, rfl⟩ := back_ok hg h
    exact ⟨rfl, (fun _ => ⟨rfl, rfl⟩), rfl⟩
end Go.Proofs.YtaifelcocnnkjaaDoor

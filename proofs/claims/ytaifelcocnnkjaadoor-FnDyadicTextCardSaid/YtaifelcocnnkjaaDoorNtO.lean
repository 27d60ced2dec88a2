/- Reading a dyadic number's text, by the reference. -/
import Derived.Test.YtaifelcocnnkjaaDoorNtN
namespace Go.Proofs.YtaifelcocnnkjaaDoor
open Go.RowKit

theorem part_size (s : ByteArray) (b : UInt8) : ∀ k, ∀ x ∈ (partsTo s b k).1, x.size ≤ s.size
  | 0, x, h => by cases h
  | k + 1, x, h => by
    rw [partsTo] at h
    split at h
    · rcases List.mem_append.1 h with h | h
      · exact part_size s b k x h
      · rw [List.mem_singleton.1 h]; simp; omega
    · exact part_size s b k x h
theorem split_size {s : ByteArray} {b : UInt8} {x : ByteArray} (h : x ∈ splitL s b) : x.size ≤ s.size := by
  rw [splitL] at h
  rcases List.mem_append.1 h with h | h
  · exact part_size s b _ x h
  · rw [List.mem_singleton.1 h]; simp
theorem topS_neg {t : ByteArray} (h0 : 0 < t.size) (h : t[0]'h0 = 45) : topS t.data.toList = -(dig9 (t.extract 1 t.size).data.toList) := by
  rw [ext_drop]
  have h1 := getT h0
  rw [h] at h1
  rcases hl : t.data.toList with _ | ⟨a, l⟩
  · rw [hl] at h1; cases h1
  · rw [hl] at h1
    injection h1 with h1
    subst h1
    simp [topS]
theorem topS_pos {t : ByteArray} (h : ∀ h0 : 0 < t.size, ¬ t[0]'h0 = 45) : topS t.data.toList = dig9 t.data.toList := by
  unfold topS
  rw [if_neg]
  intro e
  rcases hl : t.data.toList with _ | ⟨a, l⟩
  · rw [hl] at e; cases e
  · have h0 : 0 < t.size := by
      have h2 : t.data.toList.length = t.size := by simp
      rw [hl] at h2; simp at h2; omega
    have h1 := getT h0
    rw [hl] at e h1
    injection e with e
    injection h1 with h1
    exact h h0 (by rw [← h1, e])
theorem dk {w : World} {a : Addr} {v : Value} {n : Nat} (h : w.cell? a = some v) : (w.drewN n).cell? a = some v := by simpa [go_sem] using h
theorem fk {w : World} {a : Addr} {n : Nat} (h : w.frozen? a = false) : (w.drewN n).frozen? a = false := by simpa [go_sem] using h

set_option maxHeartbeats 3200000 in
theorem s_read_neg_one (s hd : ByteArray) (w : World) (hs : s.size ≤ 1048576) (hl : splitL s 47 = hd :: []) (h0 : 0 < hd.size) (h45 : hd[0]'h0 = 45) :
    Calls Tryd.prog 21 #[.string s] w (ReadP s w) := by
  have HL : ∀ w, Calls Tryd.prog 35 #[.string s, .int .u8 47] w (StrsP w (splitL s 47)) := fun w => s_l1Split s 47 w hs
  have hds : hd.size ≤ s.size := split_size (s := s) (b := 47) (by rw [hl]; exact List.mem_cons_self ..)
  have hu := Lib.hid (fun (t p : Int) (h : IsDy s t p) => spec_one hl h)
  rw [topS_neg h0 h45] at hu
  rw [hl] at HL
  have HL := Lib.hid HL
  have HD := Lib.hid (fun w => s_l2Digits (hd.extract 1 hd.size) w (by simp; omega))
  have hdb := dig9_bd (hd.extract 1 hd.size).data.toList
  generalize dig9 (hd.extract 1 hd.size).data.toList = v0 at *
  have hp : (0 : Int) < (hd.size : Int) := by omega
  have hp1 : (1 : Int) ≤ (hd.size : Int) := by omega
  have hwv : IntKind.i64.wrap (-v0) = -v0 := IntWalk.i64_in _ (by omega)
  obtain ⟨v, hv⟩ : ∃ v, v = -v0 := ⟨_, rfl⟩
  rw [← hv] at hu
  clear hl
  go_enter Tryd.func21, Tryd.ntmps21
  go_wp2_with fail
  refine (HL.out _).mono ?_
  rintro e w1 ⟨A, c, rfl, o1, b1⟩
  obtain ⟨b, off, rfl, hb, hc⟩ := RdV.at_ o1.rd (k := 0) (by simp)
  have c0 : w1.cell? ⟨b, off, none⟩ = some (.string hd) := hc 0 _ rfl
  have k0 : w1.cell? ⟨w.heap.size, 0, none⟩ = some (.int .i64 0) := bkeep b1 _ _ (by simp [go_sem])
  have k1 : w1.cell? ⟨w.heap.size, 1, none⟩ = some (.int .i64 0) := bkeep b1 _ _ (by simp [go_sem])
  have f0 : ∀ o, w1.frozen? ⟨w.heap.size, o, none⟩ = false := fun o => ((bcell b1).2 _ _ (by simp)).trans (by simp [go_sem])
  have hsz : w.heap.size + 1 ≤ w1.heap.size := by simpa using b1.size
  have B1 := Lib.hid (Below.next (by go_grown : Below w.heap.size w (w.alloc (.cells #[.int .i64 0, .int .i64 0] 41))) b1)
  clear b1 hc o1
  simp only [List.length_cons, List.length_nil] at *
  go_wp2_with fail
  refine (HD.out _).mono ?_
  rintro e w2 ⟨rfl, rfl⟩
  clear HD
  go_upto_region 10 with fail
  rw [← hv]
  clear hv hwv
  have y0 := alloc_keep (.cells #[.int .i64 v, .int .i64 0] 41) k0
  have y1 := alloc_keep (.cells #[.int .i64 v, .int .i64 0] 41) k1
  have z0 : (w1.alloc (.cells #[.int .i64 v, .int .i64 0] 41)).cell? ⟨w1.heap.size, 0, none⟩ = some (.int .i64 v) := by simp [go_sem]
  have z1 : (w1.alloc (.cells #[.int .i64 v, .int .i64 0] 41)).cell? ⟨w1.heap.size, 1, none⟩ = some (.int .i64 0) := by simp [go_sem]
  have e0 : ∀ o, (w1.alloc (.cells #[.int .i64 v, .int .i64 0] 41)).frozen? ⟨w.heap.size, o, none⟩ = false := fun o => ((bcell ((Below.refl w1.heap.size w1).alloc (Nat.le_refl _) _)).2 _ _ (by omega)).trans (f0 o)
  have e1 : ∀ o, (w1.alloc (.cells #[.int .i64 v, .int .i64 0] 41)).frozen? ⟨w1.heap.size, o, none⟩ = false := fun o => by simp [go_sem]
  have BB : Hid (Below w.heap.size w (w1.alloc (.cells #[.int .i64 v, .int .i64 0] 41))) := Lib.hid (B1.out.alloc (by omega) _)
  have hB := BB.out.size
  have HG := fun w => s_l2Good v 0 w
  cases hg : gd v 0
  · have fin := Lib.hid (read_bad hu.out hg)
    rw [hg] at HG
    clear hg
    go_wp2_with fail
    refine (HG _).mono ?_
    rintro e w5 ⟨rfl, b5⟩
    have e0 : ∀ o, w5.frozen? ⟨w.heap.size, o, none⟩ = false := fun o => ((bcell b5).2 _ _ (cell_lt y0)).trans (e0 o)
    have y0 := bkeep b5 _ _ y0
    have y1 := bkeep b5 _ _ y1
    have z0 := bkeep b5 _ _ z0
    have z1 := bkeep b5 _ _ z1
    have BB := Lib.hid (Below.next BB.out b5)
    clear b5
    go_wp2_with fail
    exact bodyPost_ret (res_rv _ _ rfl rfl rfl (two_set y0 y1).1 (two_set y0 y1).2) rfl ⟨_, _, _, rfl, fin.out, (BB.out.setCell (Nat.le_refl _) _).setCell (Nat.le_refl _) _⟩
  · have hrg := gd_rng hg
    have HT := Lib.hid (fun w => s_l2Text v 0 w (by omega) (by omega) (by omega) (by omega))
    rw [hg] at HG
    by_cases he : dyB v 0 = s
    · have fin := Lib.hid (read_yes hg he)
      have hz2 : ((dyB v 0).toList == s.toList) = true := by simp [he]
      generalize dyB v 0 = Z at *
      clear hg he hrg
      go_wp2_with fail
      refine (HG _).mono ?_
      rintro e w5 ⟨rfl, b5⟩
      have e0 : ∀ o, w5.frozen? ⟨w.heap.size, o, none⟩ = false := fun o => ((bcell b5).2 _ _ (cell_lt y0)).trans (e0 o)
      have y0 := bkeep b5 _ _ y0
      have y1 := bkeep b5 _ _ y1
      have z0 := bkeep b5 _ _ z0
      have z1 := bkeep b5 _ _ z1
      have BB := Lib.hid (Below.next BB.out b5)
      clear b5
      go_wp2_with fail
      refine (HT.out _).mono ?_
      rintro e w6 ⟨rfl, b6⟩
      have e0 : ∀ o, w6.frozen? ⟨w.heap.size, o, none⟩ = false := fun o => ((bcell b6).2 _ _ (cell_lt y0)).trans (e0 o)
      have y0 := bkeep b6 _ _ y0
      have y1 := bkeep b6 _ _ y1
      have z0 := bkeep b6 _ _ z0
      have z1 := bkeep b6 _ _ z1
      have BB := Lib.hid (Below.next BB.out b6)
      clear b6
      go_wp2_with fail
      exact bodyPost_ret (res_rv _ _ rfl rfl rfl (two_set y0 y1).1 (two_set y0 y1).2) rfl ⟨_, _, _, rfl, fin.out, (BB.out.setCell (Nat.le_refl _) _).setCell (Nat.le_refl _) _⟩
    · have fin := Lib.hid (read_other hu.out he)
      have hz2 := str_ne he
      generalize dyB v 0 = Z at *
      clear hg he hrg
      go_wp2_with fail
      refine (HG _).mono ?_
      rintro e w5 ⟨rfl, b5⟩
      have e0 : ∀ o, w5.frozen? ⟨w.heap.size, o, none⟩ = false := fun o => ((bcell b5).2 _ _ (cell_lt y0)).trans (e0 o)
      have y0 := bkeep b5 _ _ y0
      have y1 := bkeep b5 _ _ y1
      have z0 := bkeep b5 _ _ z0
      have z1 := bkeep b5 _ _ z1
      have BB := Lib.hid (Below.next BB.out b5)
      clear b5
      go_wp2_with fail
      refine (HT.out _).mono ?_
      rintro e w6 ⟨rfl, b6⟩
      have e0 : ∀ o, w6.frozen? ⟨w.heap.size, o, none⟩ = false := fun o => ((bcell b6).2 _ _ (cell_lt y0)).trans (e0 o)
      have y0 := bkeep b6 _ _ y0
      have y1 := bkeep b6 _ _ y1
      have z0 := bkeep b6 _ _ z0
      have z1 := bkeep b6 _ _ z1
      have BB := Lib.hid (Below.next BB.out b6)
      clear b6
      go_wp2_with fail
      exact bodyPost_ret (res_rv _ _ rfl rfl rfl (two_set y0 y1).1 (two_set y0 y1).2) rfl ⟨_, _, _, rfl, fin.out, (BB.out.setCell (Nat.le_refl _) _).setCell (Nat.le_refl _) _⟩
set_option maxHeartbeats 3200000 in
theorem s_read_neg_two (s hd : ByteArray) (w1s : ByteArray) (r : List ByteArray) (w : World) (hs : s.size ≤ 1048576) (hl : splitL s 47 = hd :: w1s :: r) (h0 : 0 < hd.size) (h45 : hd[0]'h0 = 45) :
    Calls Tryd.prog 21 #[.string s] w (ReadP s w) := by
  have HL : ∀ w, Calls Tryd.prog 35 #[.string s, .int .u8 47] w (StrsP w (splitL s 47)) := fun w => s_l1Split s 47 w hs
  have hds : hd.size ≤ s.size := split_size (s := s) (b := 47) (by rw [hl]; exact List.mem_cons_self ..)
  have hu := Lib.hid (fun (k : Nat) (hk : k ≤ 16) (hall : ∀ j, j < k → ¬ strOfNums (numB (2 ^ j)) = w1s) (hend : k = 16 ∨ strOfNums (numB (2 ^ k)) = w1s) (t p : Int) (h : IsDy s t p) => spec_two hl hk hall hend h)
  rw [topS_neg h0 h45] at hu
  rw [hl] at HL
  have HL := Lib.hid HL
  have HD := Lib.hid (fun w => s_l2Digits (hd.extract 1 hd.size) w (by simp; omega))
  have hdb := dig9_bd (hd.extract 1 hd.size).data.toList
  generalize dig9 (hd.extract 1 hd.size).data.toList = v0 at *
  have hp : (0 : Int) < (hd.size : Int) := by omega
  have hp1 : (1 : Int) ≤ (hd.size : Int) := by omega
  have hwv : IntKind.i64.wrap (-v0) = -v0 := IntWalk.i64_in _ (by omega)
  obtain ⟨v, hv⟩ : ∃ v, v = -v0 := ⟨_, rfl⟩
  rw [← hv] at hu
  clear hl
  go_enter Tryd.func21, Tryd.ntmps21
  go_wp2_with fail
  refine (HL.out _).mono ?_
  rintro e w1 ⟨A, c, rfl, o1, b1⟩
  obtain ⟨b, off, rfl, hb, hc⟩ := RdV.at_ o1.rd (k := 0) (by simp)
  have c0 : w1.cell? ⟨b, off, none⟩ = some (.string hd) := hc 0 _ rfl
  have c1 : w1.cell? ⟨b, off + 1, none⟩ = some (.string w1s) := hc 1 _ rfl
  have k0 : w1.cell? ⟨w.heap.size, 0, none⟩ = some (.int .i64 0) := bkeep b1 _ _ (by simp [go_sem])
  have k1 : w1.cell? ⟨w.heap.size, 1, none⟩ = some (.int .i64 0) := bkeep b1 _ _ (by simp [go_sem])
  have f0 : ∀ o, w1.frozen? ⟨w.heap.size, o, none⟩ = false := fun o => ((bcell b1).2 _ _ (by simp)).trans (by simp [go_sem])
  have hsz : w.heap.size + 1 ≤ w1.heap.size := by simpa using b1.size
  have B1 := Lib.hid (Below.next (by go_grown : Below w.heap.size w (w.alloc (.cells #[.int .i64 0, .int .i64 0] 41))) b1)
  clear b1 hc o1
  simp only [List.length_cons] at *
  go_wp2_with fail
  refine (HD.out _).mono ?_
  rintro e w2 ⟨rfl, rfl⟩
  clear HD
  go_upto_region 7 with fail
  rw [← hv]
  clear hv hwv
  have y0 := alloc_keep (.cells #[.int .i64 v, .int .i64 0] 41) k0
  have y1 := alloc_keep (.cells #[.int .i64 v, .int .i64 0] 41) k1
  have z0 : (w1.alloc (.cells #[.int .i64 v, .int .i64 0] 41)).cell? ⟨w1.heap.size, 0, none⟩ = some (.int .i64 v) := by simp [go_sem]
  have z1 : (w1.alloc (.cells #[.int .i64 v, .int .i64 0] 41)).cell? ⟨w1.heap.size, 1, none⟩ = some (.int .i64 0) := by simp [go_sem]
  have e0 : ∀ o, (w1.alloc (.cells #[.int .i64 v, .int .i64 0] 41)).frozen? ⟨w.heap.size, o, none⟩ = false := fun o => ((bcell ((Below.refl w1.heap.size w1).alloc (Nat.le_refl _) _)).2 _ _ (by omega)).trans (f0 o)
  have e1 : ∀ o, (w1.alloc (.cells #[.int .i64 v, .int .i64 0] 41)).frozen? ⟨w1.heap.size, o, none⟩ = false := fun o => by simp [go_sem]
  have d1 := alloc_keep (.cells #[.int .i64 v, .int .i64 0] 41) c1
  have BB : Hid (Below w.heap.size w (w1.alloc (.cells #[.int .i64 v, .int .i64 0] 41))) := Lib.hid (B1.out.alloc (by omega) _)
  have hlen : (1 : Int) < ((r.length : Int) + 1 + 1) := by omega
  go_wp2_with fail
  go_loopg [32] 16 (fun m _ wr => ∃ k : Nat, k ≤ 16 ∧ m = 16 - k ∧ Hid (∀ j, j < k → ¬ strOfNums (numB (2 ^ j)) = w1s) ∧ wr.cell? ⟨w.heap.size, 0, none⟩ = some (.int .i64 0) ∧ wr.cell? ⟨w.heap.size, 1, none⟩ = some (.int .i64 0) ∧ wr.cell? ⟨w1.heap.size, 0, none⟩ = some (.int .i64 v) ∧ wr.cell? ⟨w1.heap.size, 1, none⟩ = some (.int .i64 (k : Int)) ∧ wr.cell? ⟨b, off + 1, none⟩ = some (.string w1s) ∧ (∀ o, wr.frozen? ⟨w.heap.size, o, none⟩ = false) ∧ (∀ o, wr.frozen? ⟨w1.heap.size, o, none⟩ = false) ∧ Below w.heap.size w wr)
  case atStart => exact ⟨0, by omega, rfl, Lib.hid (fun j h => absurd h (Nat.not_lt_zero j)), y0, y1, z0, z1, d1, e0, e1, BB.out⟩
  case round =>
    clear y0 y1 z0 z1 d1 e0 e1 BB B1 k0 k1 f0 c0 c1
    obtain ⟨k, hk, rfl, hall, y0, y1, z0, z1, d1, e0, e1, BB⟩ := hrel
    have BB := Lib.hid BB
    have hp := pw_bd (p := (k : Int)) (by omega)
    rw [Int.toNat_natCast] at hp
    obtain ⟨X, hX⟩ : ∃ X, X = (2 : Int) ^ k := ⟨_, rfl⟩
    have hw0 : wrap64 (2 ^ k) = X := by rw [← hX]; exact IntWalk.wrap64_in _ ⟨by omega, by omega⟩
    have hpu : IntKind.u64.wrap (k : Int) = (k : Int) := IntWalk.u64_in _ (by omega)
    rw [← hX] at hp
    have HN := Lib.hid (fun w => s_l1Num X w (Int.le_trans (by decide) hp.1) (Int.le_trans hp.2 (by decide)))
    have HNq := Lib.hid (fun (m : Nat) (w : World) => Q.quiet (n := m) (HN.out (w.drewN m)))
    by_cases hk16 : k < 16
    · have hki : (k : Int) < 16 := by omega
      have hki2 : decide ((k : Int) < 16) = true := decide_eq_true hki
      by_cases hXb : strOfNums (numB X) = w1s
      · have hu2 : Hid (∀ t p, IsDy s t p → t = v ∧ p = (k : Int)) := Lib.hid (fun t p h => hu.out k hk hall.out (.inr (by rw [← hX]; exact hXb)) t p h)
        have hz1 : ((strOfNums (numB X)).toList == w1s.toList) = true := by simp [hXb]
        generalize strOfNums (numB X) = N at *
        clear hX hall hu HN hXb
        go_upto_region 8 with fail
        go_quiet ((go_at_call 52; exact HNq.out _ _))
        have y0 := dk (n := nq) y0
        have y1 := dk (n := nq) y1
        have z0 := dk (n := nq) z0
        have z1 := dk (n := nq) z1
        have e0 : ∀ o, (wr.drewN nq).frozen? ⟨w.heap.size, o, none⟩ = false := fun o => fk (e0 o)
        have BB := Lib.hid (Below.next BB.out (Q.below ⟨nq, rfl⟩))
        have hB := BB.out.size
        have HG := fun w => s_l2Good v (k : Int) w
        cases hg : gd v (k : Int)
        · have fin := Lib.hid (read_bad hu2.out hg)
          rw [hg] at HG
          clear hg
          go_wp2_with fail
          refine (HG _).mono ?_
          rintro e w5 ⟨rfl, b5⟩
          have e0 : ∀ o, w5.frozen? ⟨w.heap.size, o, none⟩ = false := fun o => ((bcell b5).2 _ _ (cell_lt y0)).trans (e0 o)
          have y0 := bkeep b5 _ _ y0
          have y1 := bkeep b5 _ _ y1
          have z0 := bkeep b5 _ _ z0
          have z1 := bkeep b5 _ _ z1
          have BB := Lib.hid (Below.next BB.out b5)
          clear b5
          go_wp2_with fail
          exact bodyPost_ret (res_rv _ _ rfl rfl rfl (two_set y0 y1).1 (two_set y0 y1).2) rfl ⟨_, _, _, rfl, fin.out, (BB.out.setCell (Nat.le_refl _) _).setCell (Nat.le_refl _) _⟩
        · have hrg := gd_rng hg
          have HT := Lib.hid (fun w => s_l2Text v (k : Int) w (by omega) (by omega) (by omega) (by omega))
          rw [hg] at HG
          by_cases he : dyB v (k : Int) = s
          · have fin := Lib.hid (read_yes hg he)
            have hz2 : ((dyB v (k : Int)).toList == s.toList) = true := by simp [he]
            generalize dyB v (k : Int) = Z at *
            clear hg he hrg
            go_wp2_with fail
            refine (HG _).mono ?_
            rintro e w5 ⟨rfl, b5⟩
            have e0 : ∀ o, w5.frozen? ⟨w.heap.size, o, none⟩ = false := fun o => ((bcell b5).2 _ _ (cell_lt y0)).trans (e0 o)
            have y0 := bkeep b5 _ _ y0
            have y1 := bkeep b5 _ _ y1
            have z0 := bkeep b5 _ _ z0
            have z1 := bkeep b5 _ _ z1
            have BB := Lib.hid (Below.next BB.out b5)
            clear b5
            go_wp2_with fail
            refine (HT.out _).mono ?_
            rintro e w6 ⟨rfl, b6⟩
            have e0 : ∀ o, w6.frozen? ⟨w.heap.size, o, none⟩ = false := fun o => ((bcell b6).2 _ _ (cell_lt y0)).trans (e0 o)
            have y0 := bkeep b6 _ _ y0
            have y1 := bkeep b6 _ _ y1
            have z0 := bkeep b6 _ _ z0
            have z1 := bkeep b6 _ _ z1
            have BB := Lib.hid (Below.next BB.out b6)
            clear b6
            go_wp2_with fail
            exact bodyPost_ret (res_rv _ _ rfl rfl rfl (two_set y0 y1).1 (two_set y0 y1).2) rfl ⟨_, _, _, rfl, fin.out, (BB.out.setCell (Nat.le_refl _) _).setCell (Nat.le_refl _) _⟩
          · have fin := Lib.hid (read_other hu2.out he)
            have hz2 := str_ne he
            generalize dyB v (k : Int) = Z at *
            clear hg he hrg
            go_wp2_with fail
            refine (HG _).mono ?_
            rintro e w5 ⟨rfl, b5⟩
            have e0 : ∀ o, w5.frozen? ⟨w.heap.size, o, none⟩ = false := fun o => ((bcell b5).2 _ _ (cell_lt y0)).trans (e0 o)
            have y0 := bkeep b5 _ _ y0
            have y1 := bkeep b5 _ _ y1
            have z0 := bkeep b5 _ _ z0
            have z1 := bkeep b5 _ _ z1
            have BB := Lib.hid (Below.next BB.out b5)
            clear b5
            go_wp2_with fail
            refine (HT.out _).mono ?_
            rintro e w6 ⟨rfl, b6⟩
            have e0 : ∀ o, w6.frozen? ⟨w.heap.size, o, none⟩ = false := fun o => ((bcell b6).2 _ _ (cell_lt y0)).trans (e0 o)
            have y0 := bkeep b6 _ _ y0
            have y1 := bkeep b6 _ _ y1
            have z0 := bkeep b6 _ _ z0
            have z1 := bkeep b6 _ _ z1
            have BB := Lib.hid (Below.next BB.out b6)
            clear b6
            go_wp2_with fail
            exact bodyPost_ret (res_rv _ _ rfl rfl rfl (two_set y0 y1).1 (two_set y0 y1).2) rfl ⟨_, _, _, rfl, fin.out, (BB.out.setCell (Nat.le_refl _) _).setCell (Nat.le_refl _) _⟩
      · have hall2 : Hid (∀ j, j < k + 1 → ¬ strOfNums (numB (2 ^ j)) = w1s) := Lib.hid (fun j hj => by
          rcases Nat.lt_or_ge j k with h | h
          · exact hall.out j h
          · obtain rfl : j = k := by omega
            rw [← hX]; exact hXb)
        have hz1 := str_ne hXb
        generalize strOfNums (numB X) = N at *
        clear hX hall HN hXb
        go_upto_region 8 with fail
        go_quiet ((go_at_call 52; exact HNq.out _ _))
        have y0 := dk (n := nq) y0
        have y1 := dk (n := nq) y1
        have z0 := dk (n := nq) z0
        have z1 := dk (n := nq) z1
        have d1 := dk (n := nq) d1
        have e0 : ∀ o, (wr.drewN nq).frozen? ⟨w.heap.size, o, none⟩ = false := fun o => fk (e0 o)
        have e1 : ∀ o, (wr.drewN nq).frozen? ⟨w1.heap.size, o, none⟩ = false := fun o => fk (e1 o)
        have BB := Lib.hid (Below.next BB.out (Q.below ⟨nq, rfl⟩))
        have hB := BB.out.size
        go_wp2_with fail
        go_roundg (16 - (k + 1))
        case measure => omega
        case rel => exact ⟨k + 1, by omega, rfl, hall2, setCell_keep y0 (by simp <;> omega), setCell_keep y1 (by simp <;> omega), setCell_keep z0 (by simp), World.cell?_setCell_same _ _ _ z1, setCell_keep d1 (by simp <;> omega), fun o => by simp [go_sem, e0], fun o => by simp [go_sem, e1], BB.out.setCell (Nat.le_of_succ_le hsz) _⟩
    · have hu2 : Hid (∀ t p, IsDy s t p → t = v ∧ p = (k : Int)) := Lib.hid (fun t p h => hu.out k hk hall.out (.inl (by omega)) t p h)
      clear hX hall hu HN
      have hki : ¬ (k : Int) < 16 := by omega
      have hki2 : decide ((k : Int) < 16) = false := decide_eq_false hki
      go_upto_region 8 with fail
      go_quiet (fail)
      have y0 := dk (n := nq) y0
      have y1 := dk (n := nq) y1
      have z0 := dk (n := nq) z0
      have z1 := dk (n := nq) z1
      have e0 : ∀ o, (wr.drewN nq).frozen? ⟨w.heap.size, o, none⟩ = false := fun o => fk (e0 o)
      have BB := Lib.hid (Below.next BB.out (Q.below ⟨nq, rfl⟩))
      have hB := BB.out.size
      have HG := fun w => s_l2Good v (k : Int) w
      cases hg : gd v (k : Int)
      · have fin := Lib.hid (read_bad hu2.out hg)
        rw [hg] at HG
        clear hg
        go_wp2_with fail
        refine (HG _).mono ?_
        rintro e w5 ⟨rfl, b5⟩
        have e0 : ∀ o, w5.frozen? ⟨w.heap.size, o, none⟩ = false := fun o => ((bcell b5).2 _ _ (cell_lt y0)).trans (e0 o)
        have y0 := bkeep b5 _ _ y0
        have y1 := bkeep b5 _ _ y1
        have z0 := bkeep b5 _ _ z0
        have z1 := bkeep b5 _ _ z1
        have BB := Lib.hid (Below.next BB.out b5)
        clear b5
        go_wp2_with fail
        exact bodyPost_ret (res_rv _ _ rfl rfl rfl (two_set y0 y1).1 (two_set y0 y1).2) rfl ⟨_, _, _, rfl, fin.out, (BB.out.setCell (Nat.le_refl _) _).setCell (Nat.le_refl _) _⟩
      · have hrg := gd_rng hg
        have HT := Lib.hid (fun w => s_l2Text v (k : Int) w (by omega) (by omega) (by omega) (by omega))
        rw [hg] at HG
        by_cases he : dyB v (k : Int) = s
        · have fin := Lib.hid (read_yes hg he)
          have hz2 : ((dyB v (k : Int)).toList == s.toList) = true := by simp [he]
          generalize dyB v (k : Int) = Z at *
          clear hg he hrg
          go_wp2_with fail
          refine (HG _).mono ?_
          rintro e w5 ⟨rfl, b5⟩
          have e0 : ∀ o, w5.frozen? ⟨w.heap.size, o, none⟩ = false := fun o => ((bcell b5).2 _ _ (cell_lt y0)).trans (e0 o)
          have y0 := bkeep b5 _ _ y0
          have y1 := bkeep b5 _ _ y1
          have z0 := bkeep b5 _ _ z0
          have z1 := bkeep b5 _ _ z1
          have BB := Lib.hid (Below.next BB.out b5)
          clear b5
          go_wp2_with fail
          refine (HT.out _).mono ?_
          rintro e w6 ⟨rfl, b6⟩
          have e0 : ∀ o, w6.frozen? ⟨w.heap.size, o, none⟩ = false := fun o => ((bcell b6).2 _ _ (cell_lt y0)).trans (e0 o)
          have y0 := bkeep b6 _ _ y0
          have y1 := bkeep b6 _ _ y1
          have z0 := bkeep b6 _ _ z0
          have z1 := bkeep b6 _ _ z1
          have BB := Lib.hid (Below.next BB.out b6)
          clear b6
          go_wp2_with fail
          exact bodyPost_ret (res_rv _ _ rfl rfl rfl (two_set y0 y1).1 (two_set y0 y1).2) rfl ⟨_, _, _, rfl, fin.out, (BB.out.setCell (Nat.le_refl _) _).setCell (Nat.le_refl _) _⟩
        · have fin := Lib.hid (read_other hu2.out he)
          have hz2 := str_ne he
          generalize dyB v (k : Int) = Z at *
          clear hg he hrg
          go_wp2_with fail
          refine (HG _).mono ?_
          rintro e w5 ⟨rfl, b5⟩
          have e0 : ∀ o, w5.frozen? ⟨w.heap.size, o, none⟩ = false := fun o => ((bcell b5).2 _ _ (cell_lt y0)).trans (e0 o)
          have y0 := bkeep b5 _ _ y0
          have y1 := bkeep b5 _ _ y1
          have z0 := bkeep b5 _ _ z0
          have z1 := bkeep b5 _ _ z1
          have BB := Lib.hid (Below.next BB.out b5)
          clear b5
          go_wp2_with fail
          refine (HT.out _).mono ?_
          rintro e w6 ⟨rfl, b6⟩
          have e0 : ∀ o, w6.frozen? ⟨w.heap.size, o, none⟩ = false := fun o => ((bcell b6).2 _ _ (cell_lt y0)).trans (e0 o)
          have y0 := bkeep b6 _ _ y0
          have y1 := bkeep b6 _ _ y1
          have z0 := bkeep b6 _ _ z0
          have z1 := bkeep b6 _ _ z1
          have BB := Lib.hid (Below.next BB.out b6)
          clear b6
          go_wp2_with fail
          exact bodyPost_ret (res_rv _ _ rfl rfl rfl (two_set y0 y1).1 (two_set y0 y1).2) rfl ⟨_, _, _, rfl, fin.out, (BB.out.setCell (Nat.le_refl _) _).setCell (Nat.le_refl _) _⟩
set_option maxHeartbeats 3200000 in
theorem s_read_pos_one (s hd : ByteArray) (w : World) (hs : s.size ≤ 1048576) (hl : splitL s 47 = hd :: []) (h0 : 0 < hd.size) (h45 : ¬ hd[0]'h0 = 45) :
    Calls Tryd.prog 21 #[.string s] w (ReadP s w) := by
  have HL : ∀ w, Calls Tryd.prog 35 #[.string s, .int .u8 47] w (StrsP w (splitL s 47)) := fun w => s_l1Split s 47 w hs
  have hds : hd.size ≤ s.size := split_size (s := s) (b := 47) (by rw [hl]; exact List.mem_cons_self ..)
  have hu := Lib.hid (fun (t p : Int) (h : IsDy s t p) => spec_one hl h)
  rw [topS_pos (fun _ => h45)] at hu
  rw [hl] at HL
  have HL := Lib.hid HL
  have HD := Lib.hid (fun w => s_l2Digits hd w (by omega))
  have hdb := dig9_bd hd.data.toList
  generalize dig9 hd.data.toList = v0 at *
  have hp : (0 : Int) < (hd.size : Int) := by omega
  have h45 : (((hd[0]'h0).toNat : Int) == 45) = false := by
    rw [beq_eq_false_iff_ne]
    intro e
    exact h45 (UInt8.toNat_inj.1 (by show _ = 45; omega))
  obtain ⟨v, hv⟩ : ∃ v, v = v0 := ⟨_, rfl⟩
  rw [← hv] at hu
  clear hl
  go_enter Tryd.func21, Tryd.ntmps21
  go_wp2_with fail
  refine (HL.out _).mono ?_
  rintro e w1 ⟨A, c, rfl, o1, b1⟩
  obtain ⟨b, off, rfl, hb, hc⟩ := RdV.at_ o1.rd (k := 0) (by simp)
  have c0 : w1.cell? ⟨b, off, none⟩ = some (.string hd) := hc 0 _ rfl
  have k0 : w1.cell? ⟨w.heap.size, 0, none⟩ = some (.int .i64 0) := bkeep b1 _ _ (by simp [go_sem])
  have k1 : w1.cell? ⟨w.heap.size, 1, none⟩ = some (.int .i64 0) := bkeep b1 _ _ (by simp [go_sem])
  have f0 : ∀ o, w1.frozen? ⟨w.heap.size, o, none⟩ = false := fun o => ((bcell b1).2 _ _ (by simp)).trans (by simp [go_sem])
  have hsz : w.heap.size + 1 ≤ w1.heap.size := by simpa using b1.size
  have B1 := Lib.hid (Below.next (by go_grown : Below w.heap.size w (w.alloc (.cells #[.int .i64 0, .int .i64 0] 41))) b1)
  clear b1 hc o1
  simp only [List.length_cons, List.length_nil] at *
  go_wp2_with fail
  refine (HD.out _).mono ?_
  rintro e w2 ⟨rfl, rfl⟩
  clear HD
  go_upto_region 10 with fail
  subst hv
  have y0 := alloc_keep (.cells #[.int .i64 v, .int .i64 0] 41) k0
  have y1 := alloc_keep (.cells #[.int .i64 v, .int .i64 0] 41) k1
  have z0 : (w1.alloc (.cells #[.int .i64 v, .int .i64 0] 41)).cell? ⟨w1.heap.size, 0, none⟩ = some (.int .i64 v) := by simp [go_sem]
  have z1 : (w1.alloc (.cells #[.int .i64 v, .int .i64 0] 41)).cell? ⟨w1.heap.size, 1, none⟩ = some (.int .i64 0) := by simp [go_sem]
  have e0 : ∀ o, (w1.alloc (.cells #[.int .i64 v, .int .i64 0] 41)).frozen? ⟨w.heap.size, o, none⟩ = false := fun o => ((bcell ((Below.refl w1.heap.size w1).alloc (Nat.le_refl _) _)).2 _ _ (by omega)).trans (f0 o)
  have e1 : ∀ o, (w1.alloc (.cells #[.int .i64 v, .int .i64 0] 41)).frozen? ⟨w1.heap.size, o, none⟩ = false := fun o => by simp [go_sem]
  have BB : Hid (Below w.heap.size w (w1.alloc (.cells #[.int .i64 v, .int .i64 0] 41))) := Lib.hid (B1.out.alloc (by omega) _)
  have hB := BB.out.size
  have HG := fun w => s_l2Good v 0 w
  cases hg : gd v 0
  · have fin := Lib.hid (read_bad hu.out hg)
    rw [hg] at HG
    clear hg
    go_wp2_with fail
    refine (HG _).mono ?_
    rintro e w5 ⟨rfl, b5⟩
    have e0 : ∀ o, w5.frozen? ⟨w.heap.size, o, none⟩ = false := fun o => ((bcell b5).2 _ _ (cell_lt y0)).trans (e0 o)
    have y0 := bkeep b5 _ _ y0
    have y1 := bkeep b5 _ _ y1
    have z0 := bkeep b5 _ _ z0
    have z1 := bkeep b5 _ _ z1
    have BB := Lib.hid (Below.next BB.out b5)
    clear b5
    go_wp2_with fail
    exact bodyPost_ret (res_rv _ _ rfl rfl rfl (two_set y0 y1).1 (two_set y0 y1).2) rfl ⟨_, _, _, rfl, fin.out, (BB.out.setCell (Nat.le_refl _) _).setCell (Nat.le_refl _) _⟩
  · have hrg := gd_rng hg
    have HT := Lib.hid (fun w => s_l2Text v 0 w (by omega) (by omega) (by omega) (by omega))
    rw [hg] at HG
    by_cases he : dyB v 0 = s
    · have fin := Lib.hid (read_yes hg he)
      have hz2 : ((dyB v 0).toList == s.toList) = true := by simp [he]
      generalize dyB v 0 = Z at *
      clear hg he hrg
      go_wp2_with fail
      refine (HG _).mono ?_
      rintro e w5 ⟨rfl, b5⟩
      have e0 : ∀ o, w5.frozen? ⟨w.heap.size, o, none⟩ = false := fun o => ((bcell b5).2 _ _ (cell_lt y0)).trans (e0 o)
      have y0 := bkeep b5 _ _ y0
      have y1 := bkeep b5 _ _ y1
      have z0 := bkeep b5 _ _ z0
      have z1 := bkeep b5 _ _ z1
      have BB := Lib.hid (Below.next BB.out b5)
      clear b5
      go_wp2_with fail
      refine (HT.out _).mono ?_
      rintro e w6 ⟨rfl, b6⟩
      have e0 : ∀ o, w6.frozen? ⟨w.heap.size, o, none⟩ = false := fun o => ((bcell b6).2 _ _ (cell_lt y0)).trans (e0 o)
      have y0 := bkeep b6 _ _ y0
      have y1 := bkeep b6 _ _ y1
      have z0 := bkeep b6 _ _ z0
      have z1 := bkeep b6 _ _ z1
      have BB := Lib.hid (Below.next BB.out b6)
      clear b6
      go_wp2_with fail
      exact bodyPost_ret (res_rv _ _ rfl rfl rfl (two_set y0 y1).1 (two_set y0 y1).2) rfl ⟨_, _, _, rfl, fin.out, (BB.out.setCell (Nat.le_refl _) _).setCell (Nat.le_refl _) _⟩
    · have fin := Lib.hid (read_other hu.out he)
      have hz2 := str_ne he
      generalize dyB v 0 = Z at *
      clear hg he hrg
      go_wp2_with fail
      refine (HG _).mono ?_
      rintro e w5 ⟨rfl, b5⟩
      have e0 : ∀ o, w5.frozen? ⟨w.heap.size, o, none⟩ = false := fun o => ((bcell b5).2 _ _ (cell_lt y0)).trans (e0 o)
      have y0 := bkeep b5 _ _ y0
      have y1 := bkeep b5 _ _ y1
      have z0 := bkeep b5 _ _ z0
      have z1 := bkeep b5 _ _ z1
      have BB := Lib.hid (Below.next BB.out b5)
      clear b5
      go_wp2_with fail
      refine (HT.out _).mono ?_
      rintro e w6 ⟨rfl, b6⟩
      have e0 : ∀ o, w6.frozen? ⟨w.heap.size, o, none⟩ = false := fun o => ((bcell b6).2 _ _ (cell_lt y0)).trans (e0 o)
      have y0 := bkeep b6 _ _ y0
      have y1 := bkeep b6 _ _ y1
      have z0 := bkeep b6 _ _ z0
      have z1 := bkeep b6 _ _ z1
      have BB := Lib.hid (Below.next BB.out b6)
      clear b6
      go_wp2_with fail
      exact bodyPost_ret (res_rv _ _ rfl rfl rfl (two_set y0 y1).1 (two_set y0 y1).2) rfl ⟨_, _, _, rfl, fin.out, (BB.out.setCell (Nat.le_refl _) _).setCell (Nat.le_refl _) _⟩
set_option maxHeartbeats 3200000 in
theorem s_read_pos_two (s hd : ByteArray) (w1s : ByteArray) (r : List ByteArray) (w : World) (hs : s.size ≤ 1048576) (hl : splitL s 47 = hd :: w1s :: r) (h0 : 0 < hd.size) (h45 : ¬ hd[0]'h0 = 45) :
    Calls Tryd.prog 21 #[.string s] w (ReadP s w) := by
  have HL : ∀ w, Calls Tryd.prog 35 #[.string s, .int .u8 47] w (StrsP w (splitL s 47)) := fun w => s_l1Split s 47 w hs
  have hds : hd.size ≤ s.size := split_size (s := s) (b := 47) (by rw [hl]; exact List.mem_cons_self ..)
  have hu := Lib.hid (fun (k : Nat) (hk : k ≤ 16) (hall : ∀ j, j < k → ¬ strOfNums (numB (2 ^ j)) = w1s) (hend : k = 16 ∨ strOfNums (numB (2 ^ k)) = w1s) (t p : Int) (h : IsDy s t p) => spec_two hl hk hall hend h)
  rw [topS_pos (fun _ => h45)] at hu
  rw [hl] at HL
  have HL := Lib.hid HL
  have HD := Lib.hid (fun w => s_l2Digits hd w (by omega))
  have hdb := dig9_bd hd.data.toList
  generalize dig9 hd.data.toList = v0 at *
  have hp : (0 : Int) < (hd.size : Int) := by omega
  have h45 : (((hd[0]'h0).toNat : Int) == 45) = false := by
    rw [beq_eq_false_iff_ne]
    intro e
    exact h45 (UInt8.toNat_inj.1 (by show _ = 45; omega))
  obtain ⟨v, hv⟩ : ∃ v, v = v0 := ⟨_, rfl⟩
  rw [← hv] at hu
  clear hl
  go_enter Tryd.func21, Tryd.ntmps21
  go_wp2_with fail
  refine (HL.out _).mono ?_
  rintro e w1 ⟨A, c, rfl, o1, b1⟩
  obtain ⟨b, off, rfl, hb, hc⟩ := RdV.at_ o1.rd (k := 0) (by simp)
  have c0 : w1.cell? ⟨b, off, none⟩ = some (.string hd) := hc 0 _ rfl
  have c1 : w1.cell? ⟨b, off + 1, none⟩ = some (.string w1s) := hc 1 _ rfl
  have k0 : w1.cell? ⟨w.heap.size, 0, none⟩ = some (.int .i64 0) := bkeep b1 _ _ (by simp [go_sem])
  have k1 : w1.cell? ⟨w.heap.size, 1, none⟩ = some (.int .i64 0) := bkeep b1 _ _ (by simp [go_sem])
  have f0 : ∀ o, w1.frozen? ⟨w.heap.size, o, none⟩ = false := fun o => ((bcell b1).2 _ _ (by simp)).trans (by simp [go_sem])
  have hsz : w.heap.size + 1 ≤ w1.heap.size := by simpa using b1.size
  have B1 := Lib.hid (Below.next (by go_grown : Below w.heap.size w (w.alloc (.cells #[.int .i64 0, .int .i64 0] 41))) b1)
  clear b1 hc o1
  simp only [List.length_cons] at *
  go_wp2_with fail
  refine (HD.out _).mono ?_
  rintro e w2 ⟨rfl, rfl⟩
  clear HD
  go_upto_region 7 with fail
  subst hv
  have y0 := alloc_keep (.cells #[.int .i64 v, .int .i64 0] 41) k0
  have y1 := alloc_keep (.cells #[.int .i64 v, .int .i64 0] 41) k1
  have z0 : (w1.alloc (.cells #[.int .i64 v, .int .i64 0] 41)).cell? ⟨w1.heap.size, 0, none⟩ = some (.int .i64 v) := by simp [go_sem]
  have z1 : (w1.alloc (.cells #[.int .i64 v, .int .i64 0] 41)).cell? ⟨w1.heap.size, 1, none⟩ = some (.int .i64 0) := by simp [go_sem]
  have e0 : ∀ o, (w1.alloc (.cells #[.int .i64 v, .int .i64 0] 41)).frozen? ⟨w.heap.size, o, none⟩ = false := fun o => ((bcell ((Below.refl w1.heap.size w1).alloc (Nat.le_refl _) _)).2 _ _ (by omega)).trans (f0 o)
  have e1 : ∀ o, (w1.alloc (.cells #[.int .i64 v, .int .i64 0] 41)).frozen? ⟨w1.heap.size, o, none⟩ = false := fun o => by simp [go_sem]
  have d1 := alloc_keep (.cells #[.int .i64 v, .int .i64 0] 41) c1
  have BB : Hid (Below w.heap.size w (w1.alloc (.cells #[.int .i64 v, .int .i64 0] 41))) := Lib.hid (B1.out.alloc (by omega) _)
  have hlen : (1 : Int) < ((r.length : Int) + 1 + 1) := by omega
  go_wp2_with fail
  go_loopg [32] 16 (fun m _ wr => ∃ k : Nat, k ≤ 16 ∧ m = 16 - k ∧ Hid (∀ j, j < k → ¬ strOfNums (numB (2 ^ j)) = w1s) ∧ wr.cell? ⟨w.heap.size, 0, none⟩ = some (.int .i64 0) ∧ wr.cell? ⟨w.heap.size, 1, none⟩ = some (.int .i64 0) ∧ wr.cell? ⟨w1.heap.size, 0, none⟩ = some (.int .i64 v) ∧ wr.cell? ⟨w1.heap.size, 1, none⟩ = some (.int .i64 (k : Int)) ∧ wr.cell? ⟨b, off + 1, none⟩ = some (.string w1s) ∧ (∀ o, wr.frozen? ⟨w.heap.size, o, none⟩ = false) ∧ (∀ o, wr.frozen? ⟨w1.heap.size, o, none⟩ = false) ∧ Below w.heap.size w wr)
  case atStart => exact ⟨0, by omega, rfl, Lib.hid (fun j h => absurd h (Nat.not_lt_zero j)), y0, y1, z0, z1, d1, e0, e1, BB.out⟩
  case round =>
    clear y0 y1 z0 z1 d1 e0 e1 BB B1 k0 k1 f0 c0 c1
    obtain ⟨k, hk, rfl, hall, y0, y1, z0, z1, d1, e0, e1, BB⟩ := hrel
    have BB := Lib.hid BB
    have hp := pw_bd (p := (k : Int)) (by omega)
    rw [Int.toNat_natCast] at hp
    obtain ⟨X, hX⟩ : ∃ X, X = (2 : Int) ^ k := ⟨_, rfl⟩
    have hw0 : wrap64 (2 ^ k) = X := by rw [← hX]; exact IntWalk.wrap64_in _ ⟨by omega, by omega⟩
    have hpu : IntKind.u64.wrap (k : Int) = (k : Int) := IntWalk.u64_in _ (by omega)
    rw [← hX] at hp
    have HN := Lib.hid (fun w => s_l1Num X w (Int.le_trans (by decide) hp.1) (Int.le_trans hp.2 (by decide)))
    have HNq := Lib.hid (fun (m : Nat) (w : World) => Q.quiet (n := m) (HN.out (w.drewN m)))
    by_cases hk16 : k < 16
    · have hki : (k : Int) < 16 := by omega
      have hki2 : decide ((k : Int) < 16) = true := decide_eq_true hki
      by_cases hXb : strOfNums (numB X) = w1s
      · have hu2 : Hid (∀ t p, IsDy s t p → t = v ∧ p = (k : Int)) := Lib.hid (fun t p h => hu.out k hk hall.out (.inr (by rw [← hX]; exact hXb)) t p h)
        have hz1 : ((strOfNums (numB X)).toList == w1s.toList) = true := by simp [hXb]
        generalize strOfNums (numB X) = N at *
        clear hX hall hu HN hXb
        go_upto_region 8 with fail
        go_quiet ((go_at_call 52; exact HNq.out _ _))
        have y0 := dk (n := nq) y0
        have y1 := dk (n := nq) y1
        have z0 := dk (n := nq) z0
        have z1 := dk (n := nq) z1
        have e0 : ∀ o, (wr.drewN nq).frozen? ⟨w.heap.size, o, none⟩ = false := fun o => fk (e0 o)
        have BB := Lib.hid (Below.next BB.out (Q.below ⟨nq, rfl⟩))
        have hB := BB.out.size
        have HG := fun w => s_l2Good v (k : Int) w
        cases hg : gd v (k : Int)
        · have fin := Lib.hid (read_bad hu2.out hg)
          rw [hg] at HG
          clear hg
          go_wp2_with fail
          refine (HG _).mono ?_
          rintro e w5 ⟨rfl, b5⟩
          have e0 : ∀ o, w5.frozen? ⟨w.heap.size, o, none⟩ = false := fun o => ((bcell b5).2 _ _ (cell_lt y0)).trans (e0 o)
          have y0 := bkeep b5 _ _ y0
          have y1 := bkeep b5 _ _ y1
          have z0 := bkeep b5 _ _ z0
          have z1 := bkeep b5 _ _ z1
          have BB := Lib.hid (Below.next BB.out b5)
          clear b5
          go_wp2_with fail
          exact bodyPost_ret (res_rv _ _ rfl rfl rfl (two_set y0 y1).1 (two_set y0 y1).2) rfl ⟨_, _, _, rfl, fin.out, (BB.out.setCell (Nat.le_refl _) _).setCell (Nat.le_refl _) _⟩
        · have hrg := gd_rng hg
          have HT := Lib.hid (fun w => s_l2Text v (k : Int) w (by omega) (by omega) (by omega) (by omega))
          rw [hg] at HG
          by_cases he : dyB v (k : Int) = s
          · have fin := Lib.hid (read_yes hg he)
            have hz2 : ((dyB v (k : Int)).toList == s.toList) = true := by simp [he]
            generalize dyB v (k : Int) = Z at *
            clear hg he hrg
            go_wp2_with fail
            refine (HG _).mono ?_
            rintro e w5 ⟨rfl, b5⟩
            have e0 : ∀ o, w5.frozen? ⟨w.heap.size, o, none⟩ = false := fun o => ((bcell b5).2 _ _ (cell_lt y0)).trans (e0 o)
            have y0 := bkeep b5 _ _ y0
            have y1 := bkeep b5 _ _ y1
            have z0 := bkeep b5 _ _ z0
            have z1 := bkeep b5 _ _ z1
            have BB := Lib.hid (Below.next BB.out b5)
            clear b5
            go_wp2_with fail
            refine (HT.out _).mono ?_
            rintro e w6 ⟨rfl, b6⟩
            have e0 : ∀ o, w6.frozen? ⟨w.heap.size, o, none⟩ = false := fun o => ((bcell b6).2 _ _ (cell_lt y0)).trans (e0 o)
            have y0 := bkeep b6 _ _ y0
            have y1 := bkeep b6 _ _ y1
            have z0 := bkeep b6 _ _ z0
            have z1 := bkeep b6 _ _ z1
            have BB := Lib.hid (Below.next BB.out b6)
            clear b6
            go_wp2_with fail
            exact bodyPost_ret (res_rv _ _ rfl rfl rfl (two_set y0 y1).1 (two_set y0 y1).2) rfl ⟨_, _, _, rfl, fin.out, (BB.out.setCell (Nat.le_refl _) _).setCell (Nat.le_refl _) _⟩
          · have fin := Lib.hid (read_other hu2.out he)
            have hz2 := str_ne he
            generalize dyB v (k : Int) = Z at *
            clear hg he hrg
            go_wp2_with fail
            refine (HG _).mono ?_
            rintro e w5 ⟨rfl, b5⟩
            have e0 : ∀ o, w5.frozen? ⟨w.heap.size, o, none⟩ = false := fun o => ((bcell b5).2 _ _ (cell_lt y0)).trans (e0 o)
            have y0 := bkeep b5 _ _ y0
            have y1 := bkeep b5 _ _ y1
            have z0 := bkeep b5 _ _ z0
            have z1 := bkeep b5 _ _ z1
            have BB := Lib.hid (Below.next BB.out b5)
            clear b5
            go_wp2_with fail
            refine (HT.out _).mono ?_
            rintro e w6 ⟨rfl, b6⟩
            have e0 : ∀ o, w6.frozen? ⟨w.heap.size, o, none⟩ = false := fun o => ((bcell b6).2 _ _ (cell_lt y0)).trans (e0 o)
            have y0 := bkeep b6 _ _ y0
            have y1 := bkeep b6 _ _ y1
            have z0 := bkeep b6 _ _ z0
            have z1 := bkeep b6 _ _ z1
            have BB := Lib.hid (Below.next BB.out b6)
            clear b6
            go_wp2_with fail
            exact bodyPost_ret (res_rv _ _ rfl rfl rfl (two_set y0 y1).1 (two_set y0 y1).2) rfl ⟨_, _, _, rfl, fin.out, (BB.out.setCell (Nat.le_refl _) _).setCell (Nat.le_refl _) _⟩
      · have hall2 : Hid (∀ j, j < k + 1 → ¬ strOfNums (numB (2 ^ j)) = w1s) := Lib.hid (fun j hj => by
          rcases Nat.lt_or_ge j k with h | h
          · exact hall.out j h
          · obtain rfl : j = k := by omega
            rw [← hX]; exact hXb)
        have hz1 := str_ne hXb
        generalize strOfNums (numB X) = N at *
        clear hX hall HN hXb
        go_upto_region 8 with fail
        go_quiet ((go_at_call 52; exact HNq.out _ _))
        have y0 := dk (n := nq) y0
        have y1 := dk (n := nq) y1
        have z0 := dk (n := nq) z0
        have z1 := dk (n := nq) z1
        have d1 := dk (n := nq) d1
        have e0 : ∀ o, (wr.drewN nq).frozen? ⟨w.heap.size, o, none⟩ = false := fun o => fk (e0 o)
        have e1 : ∀ o, (wr.drewN nq).frozen? ⟨w1.heap.size, o, none⟩ = false := fun o => fk (e1 o)
        have BB := Lib.hid (Below.next BB.out (Q.below ⟨nq, rfl⟩))
        have hB := BB.out.size
        go_wp2_with fail
        go_roundg (16 - (k + 1))
        case measure => omega
        case rel => exact ⟨k + 1, by omega, rfl, hall2, setCell_keep y0 (by simp <;> omega), setCell_keep y1 (by simp <;> omega), setCell_keep z0 (by simp), World.cell?_setCell_same _ _ _ z1, setCell_keep d1 (by simp <;> omega), fun o => by simp [go_sem, e0], fun o => by simp [go_sem, e1], BB.out.setCell (Nat.le_of_succ_le hsz) _⟩
    · have hu2 : Hid (∀ t p, IsDy s t p → t = v ∧ p = (k : Int)) := Lib.hid (fun t p h => hu.out k hk hall.out (.inl (by omega)) t p h)
      clear hX hall hu HN
      have hki : ¬ (k : Int) < 16 := by omega
      have hki2 : decide ((k : Int) < 16) = false := decide_eq_false hki
      go_upto_region 8 with fail
      go_quiet (fail)
      have y0 := dk (n := nq) y0
      have y1 := dk (n := nq) y1
      have z0 := dk (n := nq) z0
      have z1 := dk (n := nq) z1
      have e0 : ∀ o, (wr.drewN nq).frozen? ⟨w.heap.size, o, none⟩ = false := fun o => fk (e0 o)
      have BB := Lib.hid (Below.next BB.out (Q.below ⟨nq, rfl⟩))
      have hB := BB.out.size
      have HG := fun w => s_l2Good v (k : Int) w
      cases hg : gd v (k : Int)
      · have fin := Lib.hid (read_bad hu2.out hg)
        rw [hg] at HG
        clear hg
        go_wp2_with fail
        refine (HG _).mono ?_
        rintro e w5 ⟨rfl, b5⟩
        have e0 : ∀ o, w5.frozen? ⟨w.heap.size, o, none⟩ = false := fun o => ((bcell b5).2 _ _ (cell_lt y0)).trans (e0 o)
        have y0 := bkeep b5 _ _ y0
        have y1 := bkeep b5 _ _ y1
        have z0 := bkeep b5 _ _ z0
        have z1 := bkeep b5 _ _ z1
        have BB := Lib.hid (Below.next BB.out b5)
        clear b5
        go_wp2_with fail
        exact bodyPost_ret (res_rv _ _ rfl rfl rfl (two_set y0 y1).1 (two_set y0 y1).2) rfl ⟨_, _, _, rfl, fin.out, (BB.out.setCell (Nat.le_refl _) _).setCell (Nat.le_refl _) _⟩
      · have hrg := gd_rng hg
        have HT := Lib.hid (fun w => s_l2Text v (k : Int) w (by omega) (by omega) (by omega) (by omega))
        rw [hg] at HG
        by_cases he : dyB v (k : Int) = s
        · have fin := Lib.hid (read_yes hg he)
          have hz2 : ((dyB v (k : Int)).toList == s.toList) = true := by simp [he]
          generalize dyB v (k : Int) = Z at *
          clear hg he hrg
          go_wp2_with fail
          refine (HG _).mono ?_
          rintro e w5 ⟨rfl, b5⟩
          have e0 : ∀ o, w5.frozen? ⟨w.heap.size, o, none⟩ = false := fun o => ((bcell b5).2 _ _ (cell_lt y0)).trans (e0 o)
          have y0 := bkeep b5 _ _ y0
          have y1 := bkeep b5 _ _ y1
          have z0 := bkeep b5 _ _ z0
          have z1 := bkeep b5 _ _ z1
          have BB := Lib.hid (Below.next BB.out b5)
          clear b5
          go_wp2_with fail
          refine (HT.out _).mono ?_
          rintro e w6 ⟨rfl, b6⟩
          have e0 : ∀ o, w6.frozen? ⟨w.heap.size, o, none⟩ = false := fun o => ((bcell b6).2 _ _ (cell_lt y0)).trans (e0 o)
          have y0 := bkeep b6 _ _ y0
          have y1 := bkeep b6 _ _ y1
          have z0 := bkeep b6 _ _ z0
          have z1 := bkeep b6 _ _ z1
          have BB := Lib.hid (Below.next BB.out b6)
          clear b6
          go_wp2_with fail
          exact bodyPost_ret (res_rv _ _ rfl rfl rfl (two_set y0 y1).1 (two_set y0 y1).2) rfl ⟨_, _, _, rfl, fin.out, (BB.out.setCell (Nat.le_refl _) _).setCell (Nat.le_refl _) _⟩
        · have fin := Lib.hid (read_other hu2.out he)
          have hz2 := str_ne he
          generalize dyB v (k : Int) = Z at *
          clear hg he hrg
          go_wp2_with fail
          refine (HG _).mono ?_
          rintro e w5 ⟨rfl, b5⟩
          have e0 : ∀ o, w5.frozen? ⟨w.heap.size, o, none⟩ = false := fun o => ((bcell b5).2 _ _ (cell_lt y0)).trans (e0 o)
          have y0 := bkeep b5 _ _ y0
          have y1 := bkeep b5 _ _ y1
          have z0 := bkeep b5 _ _ z0
          have z1 := bkeep b5 _ _ z1
          have BB := Lib.hid (Below.next BB.out b5)
          clear b5
          go_wp2_with fail
          refine (HT.out _).mono ?_
          rintro e w6 ⟨rfl, b6⟩
          have e0 : ∀ o, w6.frozen? ⟨w.heap.size, o, none⟩ = false := fun o => ((bcell b6).2 _ _ (cell_lt y0)).trans (e0 o)
          have y0 := bkeep b6 _ _ y0
          have y1 := bkeep b6 _ _ y1
          have z0 := bkeep b6 _ _ z0
          have z1 := bkeep b6 _ _ z1
          have BB := Lib.hid (Below.next BB.out b6)
          clear b6
          go_wp2_with fail
          exact bodyPost_ret (res_rv _ _ rfl rfl rfl (two_set y0 y1).1 (two_set y0 y1).2) rfl ⟨_, _, _, rfl, fin.out, (BB.out.setCell (Nat.le_refl _) _).setCell (Nat.le_refl _) _⟩
set_option maxHeartbeats 3200000 in
theorem s_read_nil_one (s hd : ByteArray) (w : World) (hs : s.size ≤ 1048576) (hl : splitL s 47 = hd :: []) (h0 : hd.size = 0) :
    Calls Tryd.prog 21 #[.string s] w (ReadP s w) := by
  have HL : ∀ w, Calls Tryd.prog 35 #[.string s, .int .u8 47] w (StrsP w (splitL s 47)) := fun w => s_l1Split s 47 w hs
  have hds : hd.size ≤ s.size := split_size (s := s) (b := 47) (by rw [hl]; exact List.mem_cons_self ..)
  have hu := Lib.hid (fun (t p : Int) (h : IsDy s t p) => spec_one hl h)
  rw [topS_pos (fun h => absurd h (by omega))] at hu
  rw [hl] at HL
  have HL := Lib.hid HL
  have HD := Lib.hid (fun w => s_l2Digits hd w (by omega))
  have hdb := dig9_bd hd.data.toList
  generalize dig9 hd.data.toList = v0 at *
  have hp : ¬ (0 : Int) < (hd.size : Int) := by omega
  clear h0
  obtain ⟨v, hv⟩ : ∃ v, v = v0 := ⟨_, rfl⟩
  rw [← hv] at hu
  clear hl
  go_enter Tryd.func21, Tryd.ntmps21
  go_wp2_with fail
  refine (HL.out _).mono ?_
  rintro e w1 ⟨A, c, rfl, o1, b1⟩
  obtain ⟨b, off, rfl, hb, hc⟩ := RdV.at_ o1.rd (k := 0) (by simp)
  have c0 : w1.cell? ⟨b, off, none⟩ = some (.string hd) := hc 0 _ rfl
  have k0 : w1.cell? ⟨w.heap.size, 0, none⟩ = some (.int .i64 0) := bkeep b1 _ _ (by simp [go_sem])
  have k1 : w1.cell? ⟨w.heap.size, 1, none⟩ = some (.int .i64 0) := bkeep b1 _ _ (by simp [go_sem])
  have f0 : ∀ o, w1.frozen? ⟨w.heap.size, o, none⟩ = false := fun o => ((bcell b1).2 _ _ (by simp)).trans (by simp [go_sem])
  have hsz : w.heap.size + 1 ≤ w1.heap.size := by simpa using b1.size
  have B1 := Lib.hid (Below.next (by go_grown : Below w.heap.size w (w.alloc (.cells #[.int .i64 0, .int .i64 0] 41))) b1)
  clear b1 hc o1
  simp only [List.length_cons, List.length_nil] at *
  go_wp2_with fail
  refine (HD.out _).mono ?_
  rintro e w2 ⟨rfl, rfl⟩
  clear HD
  go_upto_region 10 with fail
  subst hv
  have y0 := alloc_keep (.cells #[.int .i64 v, .int .i64 0] 41) k0
  have y1 := alloc_keep (.cells #[.int .i64 v, .int .i64 0] 41) k1
  have z0 : (w1.alloc (.cells #[.int .i64 v, .int .i64 0] 41)).cell? ⟨w1.heap.size, 0, none⟩ = some (.int .i64 v) := by simp [go_sem]
  have z1 : (w1.alloc (.cells #[.int .i64 v, .int .i64 0] 41)).cell? ⟨w1.heap.size, 1, none⟩ = some (.int .i64 0) := by simp [go_sem]
  have e0 : ∀ o, (w1.alloc (.cells #[.int .i64 v, .int .i64 0] 41)).frozen? ⟨w.heap.size, o, none⟩ = false := fun o => ((bcell ((Below.refl w1.heap.size w1).alloc (Nat.le_refl _) _)).2 _ _ (by omega)).trans (f0 o)
  have e1 : ∀ o, (w1.alloc (.cells #[.int .i64 v, .int .i64 0] 41)).frozen? ⟨w1.heap.size, o, none⟩ = false := fun o => by simp [go_sem]
  have BB : Hid (Below w.heap.size w (w1.alloc (.cells #[.int .i64 v, .int .i64 0] 41))) := Lib.hid (B1.out.alloc (by omega) _)
  have hB := BB.out.size
  have HG := fun w => s_l2Good v 0 w
  cases hg : gd v 0
  · have fin := Lib.hid (read_bad hu.out hg)
    rw [hg] at HG
    clear hg
    go_wp2_with fail
    refine (HG _).mono ?_
    rintro e w5 ⟨rfl, b5⟩
    have e0 : ∀ o, w5.frozen? ⟨w.heap.size, o, none⟩ = false := fun o => ((bcell b5).2 _ _ (cell_lt y0)).trans (e0 o)
    have y0 := bkeep b5 _ _ y0
    have y1 := bkeep b5 _ _ y1
    have z0 := bkeep b5 _ _ z0
    have z1 := bkeep b5 _ _ z1
    have BB := Lib.hid (Below.next BB.out b5)
    clear b5
    go_wp2_with fail
    exact bodyPost_ret (res_rv _ _ rfl rfl rfl (two_set y0 y1).1 (two_set y0 y1).2) rfl ⟨_, _, _, rfl, fin.out, (BB.out.setCell (Nat.le_refl _) _).setCell (Nat.le_refl _) _⟩
  · have hrg := gd_rng hg
    have HT := Lib.hid (fun w => s_l2Text v 0 w (by omega) (by omega) (by omega) (by omega))
    rw [hg] at HG
    by_cases he : dyB v 0 = s
    · have fin := Lib.hid (read_yes hg he)
      have hz2 : ((dyB v 0).toList == s.toList) = true := by simp [he]
      generalize dyB v 0 = Z at *
      clear hg he hrg
      go_wp2_with fail
      refine (HG _).mono ?_
      rintro e w5 ⟨rfl, b5⟩
      have e0 : ∀ o, w5.frozen? ⟨w.heap.size, o, none⟩ = false := fun o => ((bcell b5).2 _ _ (cell_lt y0)).trans (e0 o)
      have y0 := bkeep b5 _ _ y0
      have y1 := bkeep b5 _ _ y1
      have z0 := bkeep b5 _ _ z0
      have z1 := bkeep b5 _ _ z1
      have BB := Lib.hid (Below.next BB.out b5)
      clear b5
      go_wp2_with fail
      refine (HT.out _).mono ?_
      rintro e w6 ⟨rfl, b6⟩
      have e0 : ∀ o, w6.frozen? ⟨w.heap.size, o, none⟩ = false := fun o => ((bcell b6).2 _ _ (cell_lt y0)).trans (e0 o)
      have y0 := bkeep b6 _ _ y0
      have y1 := bkeep b6 _ _ y1
      have z0 := bkeep b6 _ _ z0
      have z1 := bkeep b6 _ _ z1
      have BB := Lib.hid (Below.next BB.out b6)
      clear b6
      go_wp2_with fail
      exact bodyPost_ret (res_rv _ _ rfl rfl rfl (two_set y0 y1).1 (two_set y0 y1).2) rfl ⟨_, _, _, rfl, fin.out, (BB.out.setCell (Nat.le_refl _) _).setCell (Nat.le_refl _) _⟩
    · have fin := Lib.hid (read_other hu.out he)
      have hz2 := str_ne he
      generalize dyB v 0 = Z at *
      clear hg he hrg
      go_wp2_with fail
      refine (HG _).mono ?_
      rintro e w5 ⟨rfl, b5⟩
      have e0 : ∀ o, w5.frozen? ⟨w.heap.size, o, none⟩ = false := fun o => ((bcell b5).2 _ _ (cell_lt y0)).trans (e0 o)
      have y0 := bkeep b5 _ _ y0
      have y1 := bkeep b5 _ _ y1
      have z0 := bkeep b5 _ _ z0
      have z1 := bkeep b5 _ _ z1
      have BB := Lib.hid (Below.next BB.out b5)
      clear b5
      go_wp2_with fail
      refine (HT.out _).mono ?_
      rintro e w6 ⟨rfl, b6⟩
      have e0 : ∀ o, w6.frozen? ⟨w.heap.size, o, none⟩ = false := fun o => ((bcell b6).2 _ _ (cell_lt y0)).trans (e0 o)
      have y0 := bkeep b6 _ _ y0
      have y1 := bkeep b6 _ _ y1
      have z0 := bkeep b6 _ _ z0
      have z1 := bkeep b6 _ _ z1
      have BB := Lib.hid (Below.next BB.out b6)
      clear b6
      go_wp2_with fail
      exact bodyPost_ret (res_rv _ _ rfl rfl rfl (two_set y0 y1).1 (two_set y0 y1).2) rfl ⟨_, _, _, rfl, fin.out, (BB.out.setCell (Nat.le_refl _) _).setCell (Nat.le_refl _) _⟩
set_option maxHeartbeats 3200000 in
theorem s_read_nil_two (s hd : ByteArray) (w1s : ByteArray) (r : List ByteArray) (w : World) (hs : s.size ≤ 1048576) (hl : splitL s 47 = hd :: w1s :: r) (h0 : hd.size = 0) :
    Calls Tryd.prog 21 #[.string s] w (ReadP s w) := by
  have HL : ∀ w, Calls Tryd.prog 35 #[.string s, .int .u8 47] w (StrsP w (splitL s 47)) := fun w => s_l1Split s 47 w hs
  have hds : hd.size ≤ s.size := split_size (s := s) (b := 47) (by rw [hl]; exact List.mem_cons_self ..)
  have hu := Lib.hid (fun (k : Nat) (hk : k ≤ 16) (hall : ∀ j, j < k → ¬ strOfNums (numB (2 ^ j)) = w1s) (hend : k = 16 ∨ strOfNums (numB (2 ^ k)) = w1s) (t p : Int) (h : IsDy s t p) => spec_two hl hk hall hend h)
  rw [topS_pos (fun h => absurd h (by omega))] at hu
  rw [hl] at HL
  have HL := Lib.hid HL
  have HD := Lib.hid (fun w => s_l2Digits hd w (by omega))
  have hdb := dig9_bd hd.data.toList
  generalize dig9 hd.data.toList = v0 at *
  have hp : ¬ (0 : Int) < (hd.size : Int) := by omega
  clear h0
  obtain ⟨v, hv⟩ : ∃ v, v = v0 := ⟨_, rfl⟩
  rw [← hv] at hu
  clear hl
  go_enter Tryd.func21, Tryd.ntmps21
  go_wp2_with fail
  refine (HL.out _).mono ?_
  rintro e w1 ⟨A, c, rfl, o1, b1⟩
  obtain ⟨b, off, rfl, hb, hc⟩ := RdV.at_ o1.rd (k := 0) (by simp)
  have c0 : w1.cell? ⟨b, off, none⟩ = some (.string hd) := hc 0 _ rfl
  have c1 : w1.cell? ⟨b, off + 1, none⟩ = some (.string w1s) := hc 1 _ rfl
  have k0 : w1.cell? ⟨w.heap.size, 0, none⟩ = some (.int .i64 0) := bkeep b1 _ _ (by simp [go_sem])
  have k1 : w1.cell? ⟨w.heap.size, 1, none⟩ = some (.int .i64 0) := bkeep b1 _ _ (by simp [go_sem])
  have f0 : ∀ o, w1.frozen? ⟨w.heap.size, o, none⟩ = false := fun o => ((bcell b1).2 _ _ (by simp)).trans (by simp [go_sem])
  have hsz : w.heap.size + 1 ≤ w1.heap.size := by simpa using b1.size
  have B1 := Lib.hid (Below.next (by go_grown : Below w.heap.size w (w.alloc (.cells #[.int .i64 0, .int .i64 0] 41))) b1)
  clear b1 hc o1
  simp only [List.length_cons] at *
  go_wp2_with fail
  refine (HD.out _).mono ?_
  rintro e w2 ⟨rfl, rfl⟩
  clear HD
  go_upto_region 7 with fail
  subst hv
  have y0 := alloc_keep (.cells #[.int .i64 v, .int .i64 0] 41) k0
  have y1 := alloc_keep (.cells #[.int .i64 v, .int .i64 0] 41) k1
  have z0 : (w1.alloc (.cells #[.int .i64 v, .int .i64 0] 41)).cell? ⟨w1.heap.size, 0, none⟩ = some (.int .i64 v) := by simp [go_sem]
  have z1 : (w1.alloc (.cells #[.int .i64 v, .int .i64 0] 41)).cell? ⟨w1.heap.size, 1, none⟩ = some (.int .i64 0) := by simp [go_sem]
  have e0 : ∀ o, (w1.alloc (.cells #[.int .i64 v, .int .i64 0] 41)).frozen? ⟨w.heap.size, o, none⟩ = false := fun o => ((bcell ((Below.refl w1.heap.size w1).alloc (Nat.le_refl _) _)).2 _ _ (by omega)).trans (f0 o)
  have e1 : ∀ o, (w1.alloc (.cells #[.int .i64 v, .int .i64 0] 41)).frozen? ⟨w1.heap.size, o, none⟩ = false := fun o => by simp [go_sem]
  have d1 := alloc_keep (.cells #[.int .i64 v, .int .i64 0] 41) c1
  have BB : Hid (Below w.heap.size w (w1.alloc (.cells #[.int .i64 v, .int .i64 0] 41))) := Lib.hid (B1.out.alloc (by omega) _)
  have hlen : (1 : Int) < ((r.length : Int) + 1 + 1) := by omega
  go_wp2_with fail
  go_loopg [32] 16 (fun m _ wr => ∃ k : Nat, k ≤ 16 ∧ m = 16 - k ∧ Hid (∀ j, j < k → ¬ strOfNums (numB (2 ^ j)) = w1s) ∧ wr.cell? ⟨w.heap.size, 0, none⟩ = some (.int .i64 0) ∧ wr.cell? ⟨w.heap.size, 1, none⟩ = some (.int .i64 0) ∧ wr.cell? ⟨w1.heap.size, 0, none⟩ = some (.int .i64 v) ∧ wr.cell? ⟨w1.heap.size, 1, none⟩ = some (.int .i64 (k : Int)) ∧ wr.cell? ⟨b, off + 1, none⟩ = some (.string w1s) ∧ (∀ o, wr.frozen? ⟨w.heap.size, o, none⟩ = false) ∧ (∀ o, wr.frozen? ⟨w1.heap.size, o, none⟩ = false) ∧ Below w.heap.size w wr)
  case atStart => exact ⟨0, by omega, rfl, Lib.hid (fun j h => absurd h (Nat.not_lt_zero j)), y0, y1, z0, z1, d1, e0, e1, BB.out⟩
  case round =>
    clear y0 y1 z0 z1 d1 e0 e1 BB B1 k0 k1 f0 c0 c1
    obtain ⟨k, hk, rfl, hall, y0, y1, z0, z1, d1, e0, e1, BB⟩ := hrel
    have BB := Lib.hid BB
    have hp := pw_bd (p := (k : Int)) (by omega)
    rw [Int.toNat_natCast] at hp
    obtain ⟨X, hX⟩ : ∃ X, X = (2 : Int) ^ k := ⟨_, rfl⟩
    have hw0 : wrap64 (2 ^ k) = X := by rw [← hX]; exact IntWalk.wrap64_in _ ⟨by omega, by omega⟩
    have hpu : IntKind.u64.wrap (k : Int) = (k : Int) := IntWalk.u64_in _ (by omega)
    rw [← hX] at hp
    have HN := Lib.hid (fun w => s_l1Num X w (Int.le_trans (by decide) hp.1) (Int.le_trans hp.2 (by decide)))
    have HNq := Lib.hid (fun (m : Nat) (w : World) => Q.quiet (n := m) (HN.out (w.drewN m)))
    by_cases hk16 : k < 16
    · have hki : (k : Int) < 16 := by omega
      have hki2 : decide ((k : Int) < 16) = true := decide_eq_true hki
      by_cases hXb : strOfNums (numB X) = w1s
      · have hu2 : Hid (∀ t p, IsDy s t p → t = v ∧ p = (k : Int)) := Lib.hid (fun t p h => hu.out k hk hall.out (.inr (by rw [← hX]; exact hXb)) t p h)
        have hz1 : ((strOfNums (numB X)).toList == w1s.toList) = true := by simp [hXb]
        generalize strOfNums (numB X) = N at *
        clear hX hall hu HN hXb
        go_upto_region 8 with fail
        go_quiet ((go_at_call 52; exact HNq.out _ _))
        have y0 := dk (n := nq) y0
        have y1 := dk (n := nq) y1
        have z0 := dk (n := nq) z0
        have z1 := dk (n := nq) z1
        have e0 : ∀ o, (wr.drewN nq).frozen? ⟨w.heap.size, o, none⟩ = false := fun o => fk (e0 o)
        have BB := Lib.hid (Below.next BB.out (Q.below ⟨nq, rfl⟩))
        have hB := BB.out.size
        have HG := fun w => s_l2Good v (k : Int) w
        cases hg : gd v (k : Int)
        · have fin := Lib.hid (read_bad hu2.out hg)
          rw [hg] at HG
          clear hg
          go_wp2_with fail
          refine (HG _).mono ?_
          rintro e w5 ⟨rfl, b5⟩
          have e0 : ∀ o, w5.frozen? ⟨w.heap.size, o, none⟩ = false := fun o => ((bcell b5).2 _ _ (cell_lt y0)).trans (e0 o)
          have y0 := bkeep b5 _ _ y0
          have y1 := bkeep b5 _ _ y1
          have z0 := bkeep b5 _ _ z0
          have z1 := bkeep b5 _ _ z1
          have BB := Lib.hid (Below.next BB.out b5)
          clear b5
          go_wp2_with fail
          exact bodyPost_ret (res_rv _ _ rfl rfl rfl (two_set y0 y1).1 (two_set y0 y1).2) rfl ⟨_, _, _, rfl, fin.out, (BB.out.setCell (Nat.le_refl _) _).setCell (Nat.le_refl _) _⟩
        · have hrg := gd_rng hg
          have HT := Lib.hid (fun w => s_l2Text v (k : Int) w (by omega) (by omega) (by omega) (by omega))
          rw [hg] at HG
          by_cases he : dyB v (k : Int) = s
          · have fin := Lib.hid (read_yes hg he)
            have hz2 : ((dyB v (k : Int)).toList == s.toList) = true := by simp [he]
            generalize dyB v (k : Int) = Z at *
            clear hg he hrg
            go_wp2_with fail
            refine (HG _).mono ?_
            rintro e w5 ⟨rfl, b5⟩
            have e0 : ∀ o, w5.frozen? ⟨w.heap.size, o, none⟩ = false := fun o => ((bcell b5).2 _ _ (cell_lt y0)).trans (e0 o)
            have y0 := bkeep b5 _ _ y0
            have y1 := bkeep b5 _ _ y1
            have z0 := bkeep b5 _ _ z0
            have z1 := bkeep b5 _ _ z1
            have BB := Lib.hid (Below.next BB.out b5)
            clear b5
            go_wp2_with fail
            refine (HT.out _).mono ?_
            rintro e w6 ⟨rfl, b6⟩
            have e0 : ∀ o, w6.frozen? ⟨w.heap.size, o, none⟩ = false := fun o => ((bcell b6).2 _ _ (cell_lt y0)).trans (e0 o)
            have y0 := bkeep b6 _ _ y0
            have y1 := bkeep b6 _ _ y1
            have z0 := bkeep b6 _ _ z0
            have z1 := bkeep b6 _ _ z1
            have BB := Lib.hid (Below.next BB.out b6)
            clear b6
            go_wp2_with fail
            exact bodyPost_ret (res_rv _ _ rfl rfl rfl (two_set y0 y1).1 (two_set y0 y1).2) rfl ⟨_, _, _, rfl, fin.out, (BB.out.setCell (Nat.le_refl _) _).setCell (Nat.le_refl _) _⟩
          · have fin := Lib.hid (read_other hu2.out he)
            have hz2 := str_ne he
            generalize dyB v (k : Int) = Z at *
            clear hg he hrg
            go_wp2_with fail
            refine (HG _).mono ?_
            rintro e w5 ⟨rfl, b5⟩
            have e0 : ∀ o, w5.frozen? ⟨w.heap.size, o, none⟩ = false := fun o => ((bcell b5).2 _ _ (cell_lt y0)).trans (e0 o)
            have y0 := bkeep b5 _ _ y0
            have y1 := bkeep b5 _ _ y1
            have z0 := bkeep b5 _ _ z0
            have z1 := bkeep b5 _ _ z1
            have BB := Lib.hid (Below.next BB.out b5)
            clear b5
            go_wp2_with fail
            refine (HT.out _).mono ?_
            rintro e w6 ⟨rfl, b6⟩
            have e0 : ∀ o, w6.frozen? ⟨w.heap.size, o, none⟩ = false := fun o => ((bcell b6).2 _ _ (cell_lt y0)).trans (e0 o)
            have y0 := bkeep b6 _ _ y0
            have y1 := bkeep b6 _ _ y1
            have z0 := bkeep b6 _ _ z0
            have z1 := bkeep b6 _ _ z1
            have BB := Lib.hid (Below.next BB.out b6)
            clear b6
            go_wp2_with fail
            exact bodyPost_ret (res_rv _ _ rfl rfl rfl (two_set y0 y1).1 (two_set y0 y1).2) rfl ⟨_, _, _, rfl, fin.out, (BB.out.setCell (Nat.le_refl _) _).setCell (Nat.le_refl _) _⟩
      · have hall2 : Hid (∀ j, j < k + 1 → ¬ strOfNums (numB (2 ^ j)) = w1s) := Lib.hid (fun j hj => by
          rcases Nat.lt_or_ge j k with h | h
          · exact hall.out j h
          · obtain rfl : j = k := by omega
            rw [← hX]; exact hXb)
        have hz1 := str_ne hXb
        generalize strOfNums (numB X) = N at *
        clear hX hall HN hXb
        go_upto_region 8 with fail
        go_quiet ((go_at_call 52; exact HNq.out _ _))
        have y0 := dk (n := nq) y0
        have y1 := dk (n := nq) y1
        have z0 := dk (n := nq) z0
        have z1 := dk (n := nq) z1
        have d1 := dk (n := nq) d1
        have e0 : ∀ o, (wr.drewN nq).frozen? ⟨w.heap.size, o, none⟩ = false := fun o => fk (e0 o)
        have e1 : ∀ o, (wr.drewN nq).frozen? ⟨w1.heap.size, o, none⟩ = false := fun o => fk (e1 o)
        have BB := Lib.hid (Below.next BB.out (Q.below ⟨nq, rfl⟩))
        have hB := BB.out.size
        go_wp2_with fail
        go_roundg (16 - (k + 1))
        case measure => omega
        case rel => exact ⟨k + 1, by omega, rfl, hall2, setCell_keep y0 (by simp <;> omega), setCell_keep y1 (by simp <;> omega), setCell_keep z0 (by simp), World.cell?_setCell_same _ _ _ z1, setCell_keep d1 (by simp <;> omega), fun o => by simp [go_sem, e0], fun o => by simp [go_sem, e1], BB.out.setCell (Nat.le_of_succ_le hsz) _⟩
    · have hu2 : Hid (∀ t p, IsDy s t p → t = v ∧ p = (k : Int)) := Lib.hid (fun t p h => hu.out k hk hall.out (.inl (by omega)) t p h)
      clear hX hall hu HN
      have hki : ¬ (k : Int) < 16 := by omega
      have hki2 : decide ((k : Int) < 16) = false := decide_eq_false hki
      go_upto_region 8 with fail
      go_quiet (fail)
      have y0 := dk (n := nq) y0
      have y1 := dk (n := nq) y1
      have z0 := dk (n := nq) z0
      have z1 := dk (n := nq) z1
      have e0 : ∀ o, (wr.drewN nq).frozen? ⟨w.heap.size, o, none⟩ = false := fun o => fk (e0 o)
      have BB := Lib.hid (Below.next BB.out (Q.below ⟨nq, rfl⟩))
      have hB := BB.out.size
      have HG := fun w => s_l2Good v (k : Int) w
      cases hg : gd v (k : Int)
      · have fin := Lib.hid (read_bad hu2.out hg)
        rw [hg] at HG
        clear hg
        go_wp2_with fail
        refine (HG _).mono ?_
        rintro e w5 ⟨rfl, b5⟩
        have e0 : ∀ o, w5.frozen? ⟨w.heap.size, o, none⟩ = false := fun o => ((bcell b5).2 _ _ (cell_lt y0)).trans (e0 o)
        have y0 := bkeep b5 _ _ y0
        have y1 := bkeep b5 _ _ y1
        have z0 := bkeep b5 _ _ z0
        have z1 := bkeep b5 _ _ z1
        have BB := Lib.hid (Below.next BB.out b5)
        clear b5
        go_wp2_with fail
        exact bodyPost_ret (res_rv _ _ rfl rfl rfl (two_set y0 y1).1 (two_set y0 y1).2) rfl ⟨_, _, _, rfl, fin.out, (BB.out.setCell (Nat.le_refl _) _).setCell (Nat.le_refl _) _⟩
      · have hrg := gd_rng hg
        have HT := Lib.hid (fun w => s_l2Text v (k : Int) w (by omega) (by omega) (by omega) (by omega))
        rw [hg] at HG
        by_cases he : dyB v (k : Int) = s
        · have fin := Lib.hid (read_yes hg he)
          have hz2 : ((dyB v (k : Int)).toList == s.toList) = true := by simp [he]
          generalize dyB v (k : Int) = Z at *
          clear hg he hrg
          go_wp2_with fail
          refine (HG _).mono ?_
          rintro e w5 ⟨rfl, b5⟩
          have e0 : ∀ o, w5.frozen? ⟨w.heap.size, o, none⟩ = false := fun o => ((bcell b5).2 _ _ (cell_lt y0)).trans (e0 o)
          have y0 := bkeep b5 _ _ y0
          have y1 := bkeep b5 _ _ y1
          have z0 := bkeep b5 _ _ z0
          have z1 := bkeep b5 _ _ z1
          have BB := Lib.hid (Below.next BB.out b5)
          clear b5
          go_wp2_with fail
          refine (HT.out _).mono ?_
          rintro e w6 ⟨rfl, b6⟩
          have e0 : ∀ o, w6.frozen? ⟨w.heap.size, o, none⟩ = false := fun o => ((bcell b6).2 _ _ (cell_lt y0)).trans (e0 o)
          have y0 := bkeep b6 _ _ y0
          have y1 := bkeep b6 _ _ y1
          have z0 := bkeep b6 _ _ z0
          have z1 := bkeep b6 _ _ z1
          have BB := Lib.hid (Below.next BB.out b6)
          clear b6
          go_wp2_with fail
          exact bodyPost_ret (res_rv _ _ rfl rfl rfl (two_set y0 y1).1 (two_set y0 y1).2) rfl ⟨_, _, _, rfl, fin.out, (BB.out.setCell (Nat.le_refl _) _).setCell (Nat.le_refl _) _⟩
        · have fin := Lib.hid (read_other hu2.out he)
          have hz2 := str_ne he
          generalize dyB v (k : Int) = Z at *
          clear hg he hrg
          go_wp2_with fail
          refine (HG _).mono ?_
          rintro e w5 ⟨rfl, b5⟩
          have e0 : ∀ o, w5.frozen? ⟨w.heap.size, o, none⟩ = false := fun o => ((bcell b5).2 _ _ (cell_lt y0)).trans (e0 o)
          have y0 := bkeep b5 _ _ y0
          have y1 := bkeep b5 _ _ y1
          have z0 := bkeep b5 _ _ z0
          have z1 := bkeep b5 _ _ z1
          have BB := Lib.hid (Below.next BB.out b5)
          clear b5
          go_wp2_with fail
          refine (HT.out _).mono ?_
          rintro e w6 ⟨rfl, b6⟩
          have e0 : ∀ o, w6.frozen? ⟨w.heap.size, o, none⟩ = false := fun o => ((bcell b6).2 _ _ (cell_lt y0)).trans (e0 o)
          have y0 := bkeep b6 _ _ y0
          have y1 := bkeep b6 _ _ y1
          have z0 := bkeep b6 _ _ z0
          have z1 := bkeep b6 _ _ z1
          have BB := Lib.hid (Below.next BB.out b6)
          clear b6
          go_wp2_with fail
          exact bodyPost_ret (res_rv _ _ rfl rfl rfl (two_set y0 y1).1 (two_set y0 y1).2) rfl ⟨_, _, _, rfl, fin.out, (BB.out.setCell (Nat.le_refl _) _).setCell (Nat.le_refl _) _⟩
theorem s_ReadDyadic (s : ByteArray) (w : World) (hs : s.size ≤ 1048576) :
    Calls Tryd.prog 21 #[.string s] w (ReadP s w) := by
  obtain ⟨hd, r, hl⟩ := splitL_ne s 47
  rcases Nat.eq_zero_or_pos hd.size with h0 | h0
  · cases r with
    | nil => exact s_read_nil_one s hd w hs hl h0
    | cons w1s r => exact s_read_nil_two s hd w1s r w hs hl h0
  · by_cases h45 : hd[0]'h0 = 45
    · cases r with
      | nil => exact s_read_neg_one s hd w hs hl h0 h45
      | cons w1s r => exact s_read_neg_two s hd w1s r w hs hl h0 h45
    · cases r with
      | nil => exact s_read_pos_one s hd w hs hl h0 h45
      | cons w1s r => exact s_read_pos_two s hd w1s r w hs hl h0 h45
end Go.Proofs.YtaifelcocnnkjaaDoor

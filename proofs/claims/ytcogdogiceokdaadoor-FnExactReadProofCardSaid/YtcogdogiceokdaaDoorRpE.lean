/- A claim is read: the program's readClaim. -/
import Derived.Test.YtcogdogiceokdaaDoorRpB
import Derived.Test.YtcogdogiceokdaaDoorRpC
namespace Go.Proofs.YtcogdogiceokdaaDoor
open Go.RowKit

/-- What strings.Cut at a blank hands back. -/
def cutR (s : ByteArray) : ByteArray × ByteArray × Bool :=
  if Lib.indexByte s.data.toList 32 = -1 then (s, ⟨#[]⟩, false) else (s.extract 0 (Lib.indexByte s.data.toList 32).toNat, s.extract ((Lib.indexByte s.data.toList 32).toNat + 1) s.size, true)
theorem cutR_no {s : ByteArray} (h : Lib.indexByte s.data.toList 32 = -1) : cutR s = (s, ⟨#[]⟩, false) := if_pos h
theorem cutR_yes {s : ByteArray} {i : Nat} (h : Lib.indexByte s.data.toList 32 = i) : cutR s = (s.extract 0 i, s.extract (i + 1) s.size, true) := by
  unfold cutR
  rw [h, if_neg (by omega)]
  rfl
theorem cutR_cases (s : ByteArray) : Lib.indexByte s.data.toList 32 = -1 ∨ ∃ i : Nat, Lib.indexByte s.data.toList 32 = i ∧ i < s.size := by
  have h1 := Lib.indexByte_ge s.data.toList 32
  by_cases e : Lib.indexByte s.data.toList 32 = -1
  · exact .inl e
  · obtain ⟨i, hi⟩ := Int.eq_ofNat_of_zero_le (show 0 ≤ Lib.indexByte s.data.toList 32 by omega)
    refine .inr ⟨i, hi, ?_⟩
    obtain ⟨h3, _⟩ := Lib.indexByte_some hi
    obtain ⟨hlt, _⟩ := List.getElem?_eq_some_iff.1 h3
    have : s.data.toList.length = s.size := Array.length_toList
    omega
theorem cutR_size (s : ByteArray) : (cutR s).1.size ≤ s.size ∧ (cutR s).2.1.size ≤ s.size := by
  rcases cutR_cases s with h | ⟨i, h, hl⟩
  · rw [cutR_no h]
    exact ⟨Nat.le_refl _, Nat.zero_le _⟩
  · rw [cutR_yes h]
    simp only [ByteArray.size_extract]
    omega
theorem okC_parts {s p0 p1 p2 : ByteArray} (h : splitL s 58 = [p0, p1, p2]) : okC s = ((cutR p0).2.2 && ((readT (cutR p0).1).2 && (readT (cutR p0).2.1).2) && (okL p1 && okL p2)) := by
  unfold okC shp abB ptB
  rw [h]
  simp only [List.getD_cons_zero, List.getD_cons_succ]
  rcases cutR_cases p0 with hc | ⟨i, hc, _⟩
  · rw [cutR_no hc, decide_eq_false (cut_no hc)]
    simp
  · rw [cutR_yes hc]
    rcases cut_yes hc with e | ⟨e1, e2⟩
    · rw [e]
      simp
    · rw [decide_eq_false e1, e2]
      simp
theorem rdC_parts {s p0 p1 p2 : ByteArray} (h : splitL s 58 = [p0, p1, p2]) (hok : okC s = true) : rdC s = ([(readT (cutR p0).1).1, (readT (cutR p0).2.1).1], [rdL p1, rdL p2]) := by
  rw [okC_parts h] at hok
  unfold rdC abB ptB
  rw [h]
  simp only [List.getD_cons_zero, List.getD_cons_succ]
  rcases cutR_cases p0 with hc | ⟨i, hc, _⟩
  · rw [cutR_no hc] at hok
    simp at hok
  · rw [cutR_yes hc] at hok ⊢
    rcases cut_yes hc with e | ⟨e1, e2⟩
    · rw [e]
      rfl
    · rw [e2] at hok
      simp at hok
theorem okC_three {s : ByteArray} (h : ¬ (splitL s 58).length = 3) : okC s = false := by
  unfold okC shp
  rw [decide_eq_false h]
  rfl
theorem three_of {l : List ByteArray} (h : l.length = 3) : ∃ p0 p1 p2, l = [p0, p1, p2] := by
  match l, h with
  | [a, b, c], _ => exact ⟨a, b, c, rfl⟩
theorem numsR_snd (s : ByteArray) : (numsR s).2 = okL s := by
  cases h : okL s
  · rw [numsR_no h]
  · rw [numsR_yes h]
theorem numsR_fst {s : ByteArray} (h : okL s = true) : (numsR s).1 = rdL s := by rw [numsR_yes h]
/-- What the program's readClaim hands back. -/
def ClaimR (s : ByteArray) (w : World) (e : Ending) (w' : World) : Prop :=
  ∃ (i1 i2 : Int) (r1 r2 : Row), e = .returned (.tuple #[.agg #[.int .i64 i1, .int .i64 i2, r1.val, r2.val], .bool (okC s)]) ∧ Below w.heap.size w w' ∧
    (okC s = true → rdC s = ([i1, i2], [r1.xs, r2.xs]) ∧ r1.own w' w.heap.size ∧ r2.own w' w.heap.size ∧ Apart r1.blk r2.blk)
theorem words_at {w : World} {g n c : Nat} {l : List ByteArray} (h : OwnS w w.heap.size (some ⟨g, 0, none⟩) n l ∨ OwnS w c (some ⟨g, 0, none⟩) n l) {k : Nat} {x : ByteArray} (hk : l[k]? = some x) : w.cell? ⟨g, k, none⟩ = some (.string x) := by
  have key : ∀ b, OwnS w b (some ⟨g, 0, none⟩) n l → w.cell? ⟨g, k, none⟩ = some (.string x) := fun b h => by
    have hl := (List.getElem?_eq_some_iff.1 hk).1
    obtain ⟨b', off, e1, _, hc⟩ := (OwnS.rd h).at_ hl
    injection e1 with e1
    injection e1 with e1 e2
    subst e1 e2
    rw [Nat.zero_add] at hc
    rw [hc, List.getD_eq_getElem?_getD, hk]
    rfl
  rcases h with h | h
  · exact key _ h
  · exact key _ h
theorem res_claim2 {fn : Func} {s t : Nat} (tmps : Array Value) (w : World) {b : Nat} {i1 i2 : Int} {v1 v2 : Value} (h : fn.results = #[.cell s 47, .tmp t])
    (hp : tmps.getD s undef = .pointer (some ⟨b, 0, none⟩)) (hc : w.cell? ⟨b, 0, none⟩ = some (.int .i64 i1) ∧ w.cell? ⟨b, 1, none⟩ = some (.int .i64 i2) ∧ w.cell? ⟨b, 2, none⟩ = some v1 ∧ w.cell? ⟨b, 3, none⟩ = some v2) :
    (results fn tmps).run Tryd.prog w = .ok (.tuple #[.agg #[.int .i64 i1, .int .i64 i2, v1, v2], tmps.getD t undef]) w := by
  obtain ⟨h0, h1, h2, h3⟩ := hc
  simp only [Array.getD_eq_getD_getElem?] at hp
  simp only [results, h]
  simp [hp, go_sem, h0, h1, h2, h3]
theorem c_Cut (s : ByteArray) (w : World) (hs : s.size ≤ 1048576) :
    Calls Tryd.prog 42 #[.string s, .string ⟨#[32]⟩] w fun e w' => e = .returned (.tuple #[.string (cutR s).1, .string (cutR s).2.1, .bool (cutR s).2.2]) ∧ Q w w' := by
  rcases cutR_cases s with h | ⟨i, h, hl⟩
  · rw [cutR_no h]
    exact B_cut_no s w h
  · rw [cutR_yes h]
    exact B_cut_hit s i w h hl hs
set_option maxRecDepth 100000 in
set_option maxHeartbeats 3200000 in
theorem c_readClaim (s : ByteArray) (w : World) (hs : s.size ≤ 1048576) (ht : Tab w) (hv : SynV w) :
    Calls Tryd.prog 27 #[.string s] w (ClaimR s w) := by
  have HT := Lib.hid ht
  have HV := Lib.hid hv
  have HSp := Lib.hid (fun w => c_Split s 58 w hs)
  have HM := Lib.hid (fun x (hx : x ∈ splitL s 58) => Nat.le_trans (splitL_mem hx) hs)
  have HP := Lib.hid (fun p0 p1 p2 h => okC_parts (s := s) (p0 := p0) (p1 := p1) (p2 := p2) h)
  have HR := Lib.hid (fun p0 p1 p2 h => rdC_parts (s := s) (p0 := p0) (p1 := p1) (p2 := p2) h)
  have H3 := Lib.hid (okC_three (s := s))
  have hcnt := splitL_count s 58
  unfold ClaimR
  clear ht hv
  generalize okC s = ok at *
  generalize rdC s = dd at *
  generalize splitL s 58 = W at *
  go_enter Tryd.func27, Tryd.ntmps27
  go_wp2_with fail
  refine (HSp.out _).mono ?_
  rintro e w1 ⟨rfl, o1, b1⟩
  have B1 : Hid (Below w.heap.size w w1) := Lib.hid (Below.next ((Below.refl _ _).alloc (Nat.le_refl _) _) b1)
  have k0 : w1.cell? ⟨w.heap.size, 0, none⟩ = some (.int .i64 0) := bkeep b1 _ _ (by simp [go_sem])
  have k1 : w1.cell? ⟨w.heap.size, 1, none⟩ = some (.int .i64 0) := bkeep b1 _ _ (by simp [go_sem])
  have k2 : w1.cell? ⟨w.heap.size, 2, none⟩ = some (.slice none 0 0) := bkeep b1 _ _ (by simp [go_sem])
  have k3 : w1.cell? ⟨w.heap.size, 3, none⟩ = some (.slice none 0 0) := bkeep b1 _ _ (by simp [go_sem])
  have f0 : ∀ o, w1.frozen? ⟨w.heap.size, o, none⟩ = false := fun o => ((bcell b1).2 _ _ (by simp [go_sem])).trans (by simp [go_sem])
  have O1 := Lib.hid o1
  have hs1 := b1.size
  simp only [World.size_alloc] at O1 hs1 ⊢
  clear o1 b1
  by_cases h3 : W.length = 3
  · obtain ⟨p0, p1, p2, rfl⟩ := three_of h3
    have hok := HP.out p0 p1 p2 rfl
    have hdd := HR.out p0 p1 p2 rfl
    have z0 := HM.out p0 (by simp)
    have z1 := HM.out p1 (by simp)
    have z2 := HM.out p2 (by simp)
    have zc := cutR_size p0
    have N1 := Lib.hid (c_readNumbers p1 · z1)
    have N2 := Lib.hid (c_readNumbers p2 · z2)
    have C0 := Lib.hid (c_Cut p0 · z0)
    have R1 := Lib.hid (c_ReadNum (cutR p0).1 · (by omega))
    have R2 := Lib.hid (c_ReadNum (cutR p0).2.1 · (by omega))
    have hn1 := numsR_snd p1
    have hn2 := numsR_snd p2
    have hf1 := numsR_fst (s := p1)
    have hf2 := numsR_fst (s := p2)
    have c0 := words_at (.inr O1.out) (k := 0) (x := p0) rfl
    have c1 := words_at (.inr O1.out) (k := 1) (x := p1) rfl
    have c2 := words_at (.inr O1.out) (k := 2) (x := p2) rfl
    rw [← hn1, ← hn2] at hok
    rw [← hn1] at hf1
    rw [← hn2] at hf2
    have HOK := Lib.hid hok
    have HDD := Lib.hid hdd
    have HF1 := Lib.hid hf1
    have HF2 := Lib.hid hf2
    clear HSp HM HP HR H3 O1 hok hdd hf1 hf2 hn1 hn2 h3 hcnt z0 z1 z2 zc hs
    generalize readT (cutR p0).1 = t1 at *
    generalize readT (cutR p0).2.1 = t2 at *
    generalize cutR p0 = q at *
    generalize numsR p1 = m1 at *
    generalize numsR p2 = m2 at *
    generalize rdL p1 = l1 at *
    generalize rdL p2 = l2 at *
    obtain ⟨q1, q2, sp⟩ := q
    obtain ⟨a, one⟩ := t1
    obtain ⟨b, two⟩ := t2
    obtain ⟨xs, three⟩ := m1
    obtain ⟨ys, four⟩ := m2
    simp only at HOK HDD HF1 HF2 C0 R1 R2 
    have C1 : Hid (Below w1.heap.size w1 w1) := Lib.hid (Below.refl _ _)
    have KK : Hid ((w1.cell? ⟨w.heap.size, 0, none⟩ = some (.int .i64 0) ∧ w1.cell? ⟨w.heap.size, 1, none⟩ = some (.int .i64 0) ∧ w1.cell? ⟨w.heap.size, 2, none⟩ = some (.slice none 0 0) ∧ w1.cell? ⟨w.heap.size, 3, none⟩ = some (.slice none 0 0)) ∧ ∀ o, w1.frozen? ⟨w.heap.size, o, none⟩ = false) := Lib.hid ⟨⟨k0, k1, k2, k3⟩, f0⟩
    have CC := Lib.hid (And.intro c1 c2)
    have lw : w.heap.size < w1.heap.size := cell_lt k0
    clear k0 k1 k2 k3 f0 c1 c2
    go_wp2_with fail
    refine (C0.out _).mono ?_
    rintro e w2 ⟨rfl, q2⟩
    have B2 := Lib.hid (Below.next B1.out q2.below)
    have C2 := Lib.hid (Below.next C1.out q2.below)
    clear q2 B1 C1 c0
    go_wp2_with fail
    refine (R1.out _ (HT.out.below B2.out) (HV.out.below B2.out)).mono ?_
    rintro e w3 ⟨rfl, b3⟩
    have B3 := Lib.hid (Below.next B2.out b3)
    have C3 := Lib.hid (Below.next C2.out b3)
    clear b3 B2 C2
    go_wp2_with fail
    refine (R2.out _ (HT.out.below B3.out) (HV.out.below B3.out)).mono ?_
    rintro e w4 ⟨rfl, b4⟩
    have B4 := Lib.hid (Below.next B3.out b4)
    have C4 := Lib.hid (Below.next C3.out b4)
    have c1 := bkeep C4.out _ _ CC.out.1
    clear b4 B3 C3
    go_wp2_with fail
    refine (N1.out _ (HT.out.below B4.out) (HV.out.below B4.out)).mono ?_
    rintro e w5 ⟨A1, d1, rfl, o5, b5⟩
    have O5 := Lib.hid o5
    have B5 := Lib.hid (Below.next B4.out b5)
    have C5 := Lib.hid (Below.next C4.out b5)
    have l4 : w1.heap.size ≤ w4.heap.size := C4.out.size
    have c2 := bkeep C5.out _ _ CC.out.2
    clear o5 b5 B4 C4 c1
    simp only at O5
    go_wp2_with fail
    refine (N2.out _ (HT.out.below B5.out) (HV.out.below B5.out)).mono ?_
    rintro e w6 ⟨A2, d2, rfl, o6, b6⟩
    have O6 := Lib.hid o6
    have B6 := Lib.hid (Below.next B5.out b6)
    have C6 := Lib.hid (Below.next C5.out b6)
    have O5' : Hid (OwnI w6 w4.heap.size A1 d1 xs) := Lib.hid (own_below O5.out b6)
    have l5 : w1.heap.size ≤ w5.heap.size := C5.out.size
    have AP : Hid (Apart (Row.mk A1 d1 xs).blk (Row.mk A2 d2 ys).blk) := Lib.hid (Apart.lt (fun k hk => (O5.out.lt k hk).2) (fun k hk => (o6.lt k hk).1))
    clear o6 b6 B5 C5 c2 O5
    simp only at O6
    go_upto_region 9 with fail
    go_cut [71] (fun v wx => wx = w6 ∧ v = .bool (!ok))
    case first =>
      have HO := HOK.out
      clear HOK HDD HF1 HF2 HT HV KK CC O5' O6 AP C6 B6 N1 N2 C0 R1 R2 lw l4 l5 hs1
      cases sp
      · rw [Bool.false_and, Bool.false_and] at HO
        subst HO
        go_wp2_with fail
        go_meet
        case rel => exact ⟨rfl, rfl⟩
      · cases one
        · rw [Bool.false_and, Bool.and_false, Bool.false_and] at HO
          subst HO
          go_wp2_with fail
          go_meet
          case rel => exact ⟨rfl, rfl⟩
        · cases two
          · rw [Bool.and_false, Bool.and_false, Bool.false_and] at HO
            subst HO
            go_wp2_with fail
            go_meet
            case rel => exact ⟨rfl, rfl⟩
          · cases three
            · rw [Bool.false_and, Bool.and_false] at HO
              subst HO
              go_wp2_with fail
              go_meet
              case rel => exact ⟨rfl, rfl⟩
            · cases four
              · rw [Bool.and_false, Bool.and_false] at HO
                subst HO
                go_wp2_with fail
                go_meet
                case rel => exact ⟨rfl, rfl⟩
              · replace HO : ok = true := HO
                subst HO
                go_wp2_with fail
                go_meet
                case rel => exact ⟨rfl, rfl⟩
    case rest =>
      obtain ⟨rfl, rfl⟩ := hcut
      have k0 := bkeep C6.out _ _ KK.out.1.1
      have k1 := bkeep C6.out _ _ KK.out.1.2.1
      have k2 := bkeep C6.out _ _ KK.out.1.2.2.1
      have k3 := bkeep C6.out _ _ KK.out.1.2.2.2
      have f0 : ∀ o, wc.frozen? ⟨w.heap.size, o, none⟩ = false := fun o => ((bcell C6.out).2 _ _ lw).trans (KK.out.2 o)
      cases ok
      · clear HOK HDD HF1 HF2 O5' O6 AP
        have K := Lib.hid (And.intro k0 (And.intro k1 (And.intro k2 k3)))
        go_wp2_with fail
        refine bodyPost_ret (res_claim2 _ _ rfl rfl (four_set K.out.1 K.out.2.1 K.out.2.2.1 K.out.2.2.2)) rfl ⟨0, 0, ⟨none, 0, []⟩, ⟨none, 0, []⟩, rfl, ?_, fun h => by cases h⟩
        exact (((B6.out.setCell (Nat.le_refl _) _).setCell (Nat.le_refl _) _).setCell (Nat.le_refl _) _).setCell (Nat.le_refl _) _
      · have hxs : xs = l1 := HF1.out (by have := HOK.out; revert this; cases three <;> simp)
        have hys : ys = l2 := HF2.out (by have := HOK.out; revert this; cases four <;> simp)
        have DD := Lib.hid (HDD.out rfl)
        rw [← hxs, ← hys] at DD
        clear HOK HDD HF1 HF2 hxs hys
        have K := Lib.hid (And.intro k0 (And.intro k1 (And.intro k2 k3)))
        go_wp2_with fail
        refine bodyPost_ret (res_claim2 _ _ rfl rfl (four_set K.out.1 K.out.2.1 K.out.2.2.1 K.out.2.2.2)) rfl ⟨a, b, ⟨A1, d1, xs⟩, ⟨A2, d2, ys⟩, rfl, ?_, ⟨DD.out, ?_, ?_, AP.out⟩⟩
        · exact (((B6.out.setCell (Nat.le_refl _) _).setCell (Nat.le_refl _) _).setCell (Nat.le_refl _) _).setCell (Nat.le_refl _) _
        · exact own_low (own_set (own_set (own_set (own_set O5'.out (show w.heap.size < w4.heap.size by omega) _) (show w.heap.size < w4.heap.size by omega) _) (show w.heap.size < w4.heap.size by omega) _) (show w.heap.size < w4.heap.size by omega) _) (by omega)
        · exact own_low (own_set (own_set (own_set (own_set O6.out (show w.heap.size < w5.heap.size by omega) _) (show w.heap.size < w5.heap.size by omega) _) (show w.heap.size < w5.heap.size by omega) _) (show w.heap.size < w5.heap.size by omega) _) (by omega)
  · have h3I : ¬ (W.length : Int) = 3 := by omega
    have hno := H3.out h3
    subst hno
    have K := Lib.hid (And.intro k0 (And.intro k1 (And.intro k2 k3)))
    clear HSp HM HP HR H3 O1 h3 hcnt
    go_wp2_with fail
    refine bodyPost_ret (res_claim2 _ _ rfl rfl (four_set K.out.1 K.out.2.1 K.out.2.2.1 K.out.2.2.2)) rfl ⟨0, 0, ⟨none, 0, []⟩, ⟨none, 0, []⟩, rfl, ?_, fun h => by cases h⟩
    exact (((B1.out.setCell (Nat.le_refl _) _).setCell (Nat.le_refl _) _).setCell (Nat.le_refl _) _).setCell (Nat.le_refl _) _
end Go.Proofs.YtcogdogiceokdaaDoor

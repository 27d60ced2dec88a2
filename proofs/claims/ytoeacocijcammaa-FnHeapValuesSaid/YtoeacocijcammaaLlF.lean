/- slices.CompactFunc over rows of the call's own. -/
import Derived.Test.YtoeacocijcammaaLlE
namespace Go.Proofs.Ytoeacocijcammaa
open Go.RowKit

theorem set_mid {α : Type} {l m : List α} {k : Nat} (hk : l.length = k) (hm : k < m.length) (v : α) : (l ++ m.drop k).set k v = l ++ [v] ++ m.drop (k + 1) := by
  rw [List.set_append_right _ _ (by omega), hk, Nat.sub_self, List.drop_eq_getElem_cons hm, List.set_cons_zero, List.append_assoc]
  rfl
theorem get_mid {α : Type} {l m : List α} {k j : Nat} (hk : l.length = k) (hj : k ≤ j) : (l ++ m.drop k)[j]? = m[j]? := by
  rw [List.getElem?_append_right (by omega), hk, List.getElem?_drop]
  congr 1; omega
/-- What CompactFunc leaves. -/
def CptP (w : World) (base g c : Nat) (rs : List Row) (e : Ending) (w' : World) : Prop :=
  ∃ rs' : List Row, e = .returned (.slice (some ⟨g, 0, none⟩) rs'.length c) ∧ OwnL w' base (some ⟨g, 0, none⟩) c rs' ∧ nums rs' = cpt (nums rs) ∧ w.grownBy w' (some g) ∧ ∀ r ∈ rs', r ∈ rs
theorem OwnL.sub {w w' : World} {base g c : Nat} {rs rs' : List Row} (h : OwnL w base (some ⟨g, 0, none⟩) c rs) (hs : rs'.Sublist rs) (hg : w.grownBy w' (some g))
    (ho : w'.ownsRow base 22 1 (.slice (some ⟨g, 0, none⟩) rs'.length c) rs'.length (rs'.map Row.val)) : OwnL w' base (some ⟨g, 0, none⟩) c rs' :=
  ⟨ho, fun r hr => own_kept (h.rows r (hs.subset hr)) hg (h.away r (hs.subset hr)), fun r hr => h.away r (hs.subset hr), h.apart.sublist hs⟩
theorem OwnL.cellR {w : World} {base g c : Nat} {rs : List Row} (h : OwnL w base (some ⟨g, 0, none⟩) c rs) {j : Nat} (hj : j < rs.length) : w.cell? ⟨g, j, none⟩ = some (.slice rs[j].A rs[j].xs.length rs[j].c) := by
  rw [h.outer.cellAt j (by omega)]
  simp [hj, Row.val]
/-- Within the second loop: what was kept lies ahead, the rest as it was. -/
structure Mid (w wr : World) (base g c : Nat) (rs : List Row) (t kk : Nat) : Prop where
  row : wr.ownsRow base 22 1 (.slice (some ⟨g, 0, none⟩) rs.length c) rs.length ((cptR (rs.take t) ++ rs.drop kk).map Row.val)
  len : (cptR (rs.take t)).length = kk
  lt : kk + 1 ≤ t
  le : t ≤ rs.length
  grown : w.grownBy wr (some g)
namespace Mid
variable {w wr : World} {base g c : Nat} {rs : List Row} {t kk : Nat}
theorem cell (h : Mid w wr base g c rs t kk) {j : Nat} (hk : kk ≤ j) (hj : j < rs.length) : wr.cell? ⟨g, j, none⟩ = some (.slice rs[j].A rs[j].xs.length rs[j].c) := by
  rw [h.row.cellAt j (by omega), List.getElem?_map, get_mid h.len hk]
  simp [hj, Row.val]
theorem rds (h : Mid w wr base g c rs t kk) (ho : OwnL w base (some ⟨g, 0, none⟩) c rs) : ∀ r ∈ rs, r.rd wr :=
  RdL.grown ho.outer (fun r hr => ⟨(ho.rows r hr).rd, fun _ e => by
    rcases ho.away r hr with h1 | h1
    · rw [h1] at e; cases e
    · exact h1 (e.trans rfl)⟩) h.grown
theorem drew (h : Mid w wr base g c rs t kk) {w' : World} (q : Q wr w') : Mid w w' base g c rs t kk := by
  obtain ⟨n, rfl⟩ := q
  exact ⟨own_heap h.row rfl, h.len, h.lt, h.le, grown_drewN h.grown n⟩
theorem skip (h : Mid w wr base g c rs t kk) (h0 : 0 < t) (ht : t < rs.length) (he : (nums rs).getD t [] = (nums rs).getD (t - 1) []) : Mid w wr base g c rs (t + 1) kk := by
  have e : cptR (rs.take (t + 1)) = cptR (rs.take t) := by rw [cptR_snoc h0 ht, if_pos he, List.append_nil]
  exact ⟨by rw [e]; exact h.row, by rw [e]; exact h.len, Nat.le_succ_of_le h.lt, ht, h.grown⟩
theorem keep (h : Mid w wr base g c rs t kk) (h0 : 0 < t) (ht : t < rs.length) (he : (nums rs).getD t [] ≠ (nums rs).getD (t - 1) []) : Mid w (wr.setCell ⟨g, kk, none⟩ (.slice rs[t].A rs[t].xs.length rs[t].c)) base g c rs (t + 1) (kk + 1) := by
  have e : cptR (rs.take (t + 1)) = cptR (rs.take t) ++ [rs[t]] := by rw [cptR_snoc h0 ht, if_neg he]
  obtain ⟨h1, h2⟩ := h.row.stored kk rs[t].val
  have hk := h.lt
  have e2 : ((cptR (rs.take t) ++ rs.drop kk).map Row.val).set kk rs[t].val = (cptR (rs.take (t + 1)) ++ rs.drop (kk + 1)).map Row.val := by
    rw [← List.map_set, set_mid h.len (by omega), e]
  rw [e2] at h1
  exact ⟨h1, by rw [e]; simp [h.len], by omega, ht, h.grown.trans h2⟩
theorem fin (h : Mid w wr base g c rs rs.length kk) (ho : OwnL w base (some ⟨g, 0, none⟩) c rs) (vs : List Value) : CptP w base g c rs (.returned (.slice (some ⟨g, 0, none⟩) kk c)) (wr.setCells g kk vs) := by
  obtain ⟨us', h1, h2, h3⟩ := own_setCells vs kk wr _ h.row
  have hk := h.lt
  have h4 := own_cut h1 (i := kk) (by omega)
  have hl := h.len
  rw [List.take_length] at hl
  have e : us'.take kk = (cptR rs).map Row.val := by
    rw [h2, List.map_append, List.take_left' (by rw [List.length_map]; exact h.len), List.take_length]
  rw [e] at h4
  refine ⟨cptR rs, by rw [hl], ho.sub (cptR_sub rs) (h.grown.trans h3) (by rw [hl]; exact h4), cptR_nums rs, h.grown.trans h3, fun r hr => (cptR_sub rs).subset hr⟩
end Mid
theorem q_grown {w w' : World} (q : Q w w') (row : Option Nat) : w.grownBy w' row := by
  obtain ⟨m, rfl⟩ := q; exact grown_drewN (grownBy_refl _ _) m
theorem Mid.start {w wr : World} {base g c k : Nat} {rs : List Row} (ho : OwnL w base (some ⟨g, 0, none⟩) c rs) (q : Q w wr) (h0 : 0 < k) (hk : k < rs.length) (hall : cptR (rs.take k) = rs.take k) (he : (nums rs).getD k [] = (nums rs).getD (k - 1) []) : Mid w wr base g c rs (k + 1) k := by
  have e : cptR (rs.take (k + 1)) = rs.take k := by rw [cptR_snoc h0 hk, if_pos he, List.append_nil, hall]
  exact ⟨by rw [e, List.take_append_drop]; exact (ho.q q).outer, by rw [e]; simp; omega, Nat.le_refl _, hk, q_grown q _⟩
theorem CptP.same {w w' : World} {base g c n : Nat} {rs : List Row} (e : cptR rs = rs) (hn : rs.length = n) (ho : OwnL w' base (some ⟨g, 0, none⟩) c rs) (hg : w.grownBy w' (some g)) : CptP w base g c rs (.returned (.slice (some ⟨g, 0, none⟩) n c)) w' :=
  ⟨rs, by rw [hn], ho, by rw [← cptR_nums, e], hg, fun _ h => h⟩
theorem zero_row (w : World) : (zeroValue 22).run Try.prog w = .ok (.slice none 0 0) w := Try.zeroValue22 w

set_option maxRecDepth 100000 in
set_option maxHeartbeats 3200000 in
theorem c_CompactFunc (base g c : Nat) (rs : List Row) (w : World) (h : OwnL w base (some ⟨g, 0, none⟩) c rs) (hn : rs.length ≤ 1000000) (hl : ∀ s ∈ rs, s.xs.length ≤ 100000000) :
    Calls Try.prog 78 #[.slice (some ⟨g, 0, none⟩) rs.length c, .func (.func 79) #[] #[]] w (CptP w base g c rs) := by
  obtain ⟨n, hn0⟩ : ∃ n, Hid (rs.length = n) := ⟨_, Lib.hid rfl⟩
  have hcap : n ≤ c := by rw [← hn0.out]; exact own_cap h.outer
  rw [hn0.out]
  rw [hn0.out] at hn
  have H := Lib.hid h
  clear h
  by_cases h2 : n < 2
  · have e : Hid (cptR rs = rs) := Lib.hid (by
      have := hn0.out
      cases rs with
      | nil => rfl
      | cons x l => cases l with
        | nil => rfl
        | cons y l => simp at this; omega)
    go_enter Try.func78, Try.ntmps78
    go_wp2_with fail
    go_ret
    exact CptP.same e.out hn0.out H.out (grownBy_refl _ _)
  · go_enter Try.func78, Try.ntmps78
    go_wp2_with fail
    go_loopw [5] (fun i wr => ∃ k : Nat, 1 ≤ k ∧ k ≤ n ∧ i = .int .i64 k ∧ Q w wr ∧ Hid (cptR (rs.take k) = rs.take k)) (fun i _ => n - (intOf i).toNat)
    case atStart => exact ⟨1, Nat.le_refl _, by omega, rfl, Q.refl _, Lib.hid (cptR_one rs)⟩
    case round =>
      rename_i wr
      obtain ⟨k, hk1, hk, rfl, q, hall⟩ := hrel
      by_cases hlt : k < n
      · have ho := H.out.q q
        have hkr : k < rs.length := by rw [hn0.out]; exact hlt
        have c1 := ho.cellR hkr
        have c0 := ho.cellR (j := k - 1) (by omega)
        have r1 := (ho.rows rs[k] (List.getElem_mem _)).rd
        have r0 := (ho.rows (rs[k - 1]'(by omega)) (List.getElem_mem _)).rd
        have l1 := hl rs[k] (List.getElem_mem _)
        have l0 := hl (rs[k - 1]'(by omega)) (List.getElem_mem _)
        have hsn := Lib.hid (cptR_snoc (l := rs) (k := k) (by omega) hkr)
        have hnk : Hid ((nums rs).getD k [] = rs[k].xs ∧ (nums rs).getD (k - 1) [] = (rs[k - 1]'(by omega)).xs) := Lib.hid ⟨by simp [hkr], by simp [show k - 1 < rs.length by omega]⟩
        have hts : Hid (rs.take (k + 1) = rs.take k ++ [rs[k]]) := Lib.hid (List.take_succ_eq_append_getElem hkr)
        generalize hx : rs[k] = x at *
        generalize hy : rs[k - 1]'(by omega) = y at *
        have Hx := Lib.hid hx
        have Hy := Lib.hid hy
        have Q' := Lib.hid q
        have HO := Lib.hid ho
        clear hx hy ho q
        cases hb : decide (x.xs = y.xs)
        · have HB := Lib.hid (fun (m : Nat) => Q.quiet (n := m) (c_eqRow x y false hb (wr.drewN m) (RdI.q r1 ((Q.refl wr).drew m)) (RdI.q r0 ((Q.refl wr).drew m)) l1 l0))
          have hxy : Hid (x.xs ≠ y.xs) := Lib.hid (of_decide_eq_false hb)
          clear hb r1 r0
          have k0 : (0 : Int) ≤ (k : Int) - 1 := by omega
          have k1 : (k : Int) - 1 < n := by omega
          have k2 : (k : Int) < n := by omega
          have k3 : ((k : Int) - 1).toNat = k - 1 := by omega
          have k4 : IntKind.i64.wrap ((k : Int) - 1) = (k : Int) - 1 := IntWalk.i64_in _ (by omega)
          go_wp2_with fail
          go_quiet ((go_at_call 79; exact HB.out _))
          clear k3 k4
          go_wp2_with fail
          go_roundw
          case rel =>
            refine ⟨k + 1, by omega, by omega, by go_num, Q'.out.drew _, Lib.hid ?_⟩
            rw [hsn.out, hts.out, hall.out, if_neg (by rw [hnk.out.1, hnk.out.2]; exact hxy.out)]
          case measure => simp [intOf]; omega
        · have HB := Lib.hid (fun (m : Nat) => Q.quiet (n := m) (c_eqRow x y true hb (wr.drewN m) (RdI.q r1 ((Q.refl wr).drew m)) (RdI.q r0 ((Q.refl wr).drew m)) l1 l0))
          have hxy : Hid (x.xs = y.xs) := Lib.hid (of_decide_eq_true hb)
          clear hb r1 r0
          have k0 : (0 : Int) ≤ (k : Int) - 1 := by omega
          have k1 : (k : Int) - 1 < n := by omega
          have k2 : (k : Int) < n := by omega
          have k3 : ((k : Int) - 1).toNat = k - 1 := by omega
          have k4 : IntKind.i64.wrap ((k : Int) - 1) = (k : Int) - 1 := IntWalk.i64_in _ (by omega)
          have k5 : ¬ c = k := by omega
          have k6 : k ≤ n := by omega
          have k7 : k ≤ c := by omega
          go_wp2_with fail
          go_quiet ((go_at_call 79; exact HB.out _))
          clear k3 k4
          go_wp2_with fail
          clear k0 k1 k2 c1 c0
          go_loopw [5, 7] (fun a b wy => ∃ (kk k2 : Nat) (wx : World), wx = wy ∧ a = .int .i64 kk ∧ b = .int .i64 k2 ∧ 1 ≤ k2 ∧ k + k2 ≤ n ∧ Hid (Mid w wx base g c rs (k + k2) kk)) (fun _ b _ => n - (intOf b).toNat)
          case atStart => exact ⟨k, 1, _, rfl, rfl, rfl, Nat.le_refl _, by omega, Lib.hid (Mid.start H.out (Q'.out.drew _) (by omega) hkr hall.out (by rw [hnk.out.1, hnk.out.2, hxy.out]))⟩
          case round =>
            obtain ⟨kk, k2, wx, rfl, rfl, rfl, h1, hle, hm⟩ := hrel
            have hkk := hm.out.lt
            by_cases hlt2 : k + k2 < n
            · have htr : k + k2 < rs.length := by rw [hn0.out]; exact hlt2
              have d1 := hm.out.cell (j := k + k2) (by omega) htr
              have d0 := hm.out.cell (j := k + (k2 - 1)) (by omega) (by omega)
              have dk := hm.out.cell (j := kk) (by omega) (by omega)
              have fk := hm.out.row.frozenAt kk
              have r1 := hm.out.rds H.out rs[k + k2] (List.getElem_mem _)
              have r0 := hm.out.rds H.out (rs[k + (k2 - 1)]'(by omega)) (List.getElem_mem _)
              have l1 := hl rs[k + k2] (List.getElem_mem _)
              have l0 := hl (rs[k + (k2 - 1)]'(by omega)) (List.getElem_mem _)
              have hnk : Hid ((nums rs).getD (k + k2) [] = rs[k + k2].xs ∧ (nums rs).getD (k + k2 - 1) [] = (rs[k + (k2 - 1)]'(by omega)).xs) := Lib.hid ⟨by simp [htr], by simp [show k + k2 - 1 = k + (k2 - 1) by omega, show k + (k2 - 1) < rs.length by omega]⟩
              have hkeep := Lib.hid (fun h => Mid.keep hm.out (by omega) htr h)
              have hskip := Lib.hid (fun h => Mid.skip hm.out (by omega) htr h)
              generalize hx : rs[k + k2] = x at *
              generalize hy : rs[k + (k2 - 1)]'(by omega) = y at *
              have Hx := Lib.hid hx
              have Hy := Lib.hid hy
              clear hx hy
              have k0 : (0 : Int) ≤ (k2 : Int) - 1 := by omega
              have k1 : (k2 : Int) - 1 < ((n - k : Nat) : Int) := by omega
              have k8 : (k2 : Int) < ((n - k : Nat) : Int) := by omega
              have k3 : ((k2 : Int) - 1).toNat = k2 - 1 := by omega
              have k4 : IntKind.i64.wrap ((k2 : Int) - 1) = (k2 : Int) - 1 := IntWalk.i64_in _ (by omega)
              have k9 : k2 < n - k := by omega
              cases hb : decide (x.xs = y.xs)
              · have HB := Lib.hid (fun (m : Nat) => Q.quiet (n := m) (c_eqRow x y false hb (wx.drewN m) (RdI.q r1 ((Q.refl wx).drew m)) (RdI.q r0 ((Q.refl wx).drew m)) l1 l0))
                have hkeep := Lib.hid (hkeep.out (by rw [hnk.out.1, hnk.out.2]; exact of_decide_eq_false hb))
                clear hb r1 r0 hskip
                go_wp2_with fail
                go_quiet ((go_at_call 79; exact HB.out _))
                clear k3 k4
                go_wp2_with fail
                go_roundw
                case rel => exact ⟨kk + 1, k2 + 1, _, rfl, by go_num, by go_num, by omega, by omega, Lib.hid (hkeep.out.drew (Q.drew (Q.refl _) _))⟩
                case measure => simp [intOf]; omega
              · have HB := Lib.hid (fun (m : Nat) => Q.quiet (n := m) (c_eqRow x y true hb (wx.drewN m) (RdI.q r1 ((Q.refl wx).drew m)) (RdI.q r0 ((Q.refl wx).drew m)) l1 l0))
                have hskip := Lib.hid (hskip.out (by rw [hnk.out.1, hnk.out.2]; exact of_decide_eq_true hb))
                clear hb r1 r0 hkeep dk fk
                go_wp2_with fail
                go_quiet ((go_at_call 79; exact HB.out _))
                clear k3 k4
                go_wp2_with fail
                go_roundw
                case rel => exact ⟨kk, k2 + 1, _, rfl, rfl, by go_num, by omega, by omega, Lib.hid (hskip.out.drew (Q.drew (Q.refl _) _))⟩
                case measure => simp [intOf]; omega
            · have hend : k + k2 = n := by omega
              have hm2 : Hid (Mid w wx base g c rs rs.length kk) := Lib.hid (by have := hm.out; rwa [hend, ← hn0.out] at this)
              have hcl : ∀ ty, (Builtin.clear_ #[23] ty #[.slice (some ⟨g, kk, none⟩) (n - kk) (c - kk)]).run Try.prog wx = .ok (.tuple #[]) (wx.setCells g kk (List.replicate (n - kk) (.slice none 0 0))) :=
                fun ty => Lib.run_clear_slice wx _ _ ty _ Try.underlying23 zero_row rfl rfl g kk _ _ (by omega)
                  (fun j hj => by rw [hm2.out.cell (by omega) (by rw [hn0.out]; omega)]; rfl) (fun j hj => hm2.out.row.frozenAt _)
              have e1 : kk ≤ n := by omega
              have e2 : kk ≤ c := by omega
              have e3 : ¬ c = kk := by omega
              clear hend hm
              go_wp2_with fail
              go_ret
              exact hm2.out.fin H.out _
      · obtain rfl : k = n := by omega
        have e : Hid (cptR rs = rs) := Lib.hid (by have := hall.out; rwa [← hn0.out, List.take_length] at this)
        go_wp2_with fail
        go_ret
        exact CptP.same e.out hn0.out (H.out.q q) (q_grown q _)
end Go.Proofs.Ytoeacocijcammaa

/- The reference's ReadProof. -/
import Derived.Test.YtcogdogiceokdaaDoorRpG
import Derived.Test.YtcogdogiceokdaaDoorPtB
namespace Go.Proofs.YtcogdogiceokdaaDoor
open Go.RowKit

theorem own_boxesL (w : World) (u : Value) : OwnA (((w.alloc (.cells #[u] 30)).alloc (.cells #[] 47)).alloc (.cells #[.slice (some ⟨w.heap.size + 1, 0, none⟩) 0 0] 30)) w.heap.size
    [bItem w.heap.size u, cItem (some ⟨w.heap.size + 1, 0, none⟩) 0 [], bItem (w.heap.size + 1 + 1) (.slice (some ⟨w.heap.size + 1, 0, none⟩) 0 0)] := by
  refine ⟨fun it hi => ?_, ?_⟩
  · simp only [List.mem_cons, List.not_mem_nil, or_false] at hi
    rcases hi with rfl | rfl | rfl
    · exact World.ownsRow.alloc (World.ownsRow.alloc (World.ownsRow_lit w #[u] 1 (Nat.le_refl _) (by decide) rfl) _) _
    · have := World.ownsRow_lit (base := w.heap.size) (e := 47) (size := 4) (w.alloc (.cells #[u] 30)) #[] 0 (by simp) (by decide) rfl
      have := World.ownsRow.alloc this (.cells #[.slice (some ⟨w.heap.size + 1, 0, none⟩) 0 0] 30)
      simpa [cItem, Item.own] using this
    · have := World.ownsRow_lit (base := w.heap.size) (e := 30) (size := 1) ((w.alloc (.cells #[u] 30)).alloc (.cells #[] 47)) #[.slice (some ⟨w.heap.size + 1, 0, none⟩) 0 0] 1 (by simp; omega) (by decide) rfl
      simpa [bItem, Item.own] using this
  · simp only [List.pairwise_cons, List.mem_cons, List.not_mem_nil, or_false, forall_eq_or_imp, forall_eq, List.Pairwise.nil, and_true, false_implies, implies_true]
    refine ⟨⟨.inr fun e => ?_, .inr fun e => ?_⟩, .inr fun e => ?_⟩
    · have := Option.some.inj (show some w.heap.size = some (w.heap.size + 1) from e)
      omega
    · have := Option.some.inj (show some w.heap.size = some (w.heap.size + 1 + 1) from e)
      omega
    · have := Option.some.inj (show some (w.heap.size + 1) = some (w.heap.size + 1 + 1) from e)
      omega
theorem strsP_at {w' : World} {base : Nat} {A : Option Addr} {c : Nat} {l : List ByteArray} (h : OwnS w' base A c l) (hl : 0 < l.length) : ∃ g, A = some ⟨g, 0, none⟩ ∧ base ≤ g ∧ g < w'.heap.size ∧ ∀ (k : Nat) (x : ByteArray), l[k]? = some x → w'.cell? ⟨g, k, none⟩ = some (.string x) := by
  rcases h.2 with ⟨_, h0⟩ | ⟨g, cap, cur, e, hg, hb, _⟩
  · omega
  · injection e with e1
    subst e1
    exact ⟨g, rfl, hg, (Array.getElem?_eq_some_iff.1 hb).1, fun k x hk => words_at (.inr h) hk⟩
/-- A claim's box. -/
def kItem (b : Nat) (u0 u1 u2 u3 : Value) : Item := ⟨47, 4, .slice (some ⟨b, 0, none⟩) 1 1, 1, [u0, u1, u2, u3]⟩
/-- Since the region's beginning these have been made. -/
structure Mk (w0 w : World) (L : List Item) : Prop where
  own : OwnA w w0.heap.size L
  since : Below w0.heap.size w0 w
theorem Mk.nil (w0 : World) : Mk w0 w0 [] := ⟨OwnA.mk (fun it hi => by cases hi) List.Pairwise.nil, Below.refl _ _⟩
theorem Mk.below {w0 w w' : World} {L : List Item} (h : Mk w0 w L) (hb : Below w.heap.size w w') : Mk w0 w' L := ⟨h.own.below hb, Below.next h.since hb⟩
theorem Mk.drew {w0 w : World} {L : List Item} (h : Mk w0 w L) : Mk w0 w.drew L := h.below (Below.refl _ _).drew
theorem Mk.row {w0 w w' : World} {L : List Item} (h : Mk w0 w L) {A : Option Addr} {c : Nat} {xs : List Int} (o : OwnI w' w.heap.size A c xs) (hb : Below w.heap.size w w') : Mk w0 w' (L ++ [Row.item ⟨A, c, xs⟩]) := by
  have h1 := h.below hb
  refine ⟨h1.own.snoc (it := Row.item ⟨A, c, xs⟩) (own_low o h.since.size) fun x hx => Apart.lt (fun k hk => ((h.own.own x hx).lt k hk).2) (fun k hk => (World.ownsRow.lt o k hk).1), h1.since⟩
theorem Mk.box {w0 w : World} {L : List Item} (h : Mk w0 w L) (u0 u1 u2 u3 : Value) : Mk w0 (w.alloc (.cells #[u0, u1, u2, u3] 47)) (L ++ [kItem w.heap.size u0 u1 u2 u3]) := by
  have hb : Below w.heap.size w (w.alloc (.cells #[u0, u1, u2, u3] 47)) := (Below.refl _ _).alloc (Nat.le_refl _) _
  have h1 := h.below hb
  refine ⟨h1.own.snoc (it := kItem w.heap.size u0 u1 u2 u3) (World.ownsRow_lit w #[u0, u1, u2, u3] 1 h.since.size (by decide) rfl) fun x hx => Apart.lt (fun k hk => ((h.own.own x hx).lt k hk).2) (fun k hk => ?_), h1.since⟩
  have := Option.some.inj (show some w.heap.size = some k from hk)
  omega
theorem OwnA.perm {w : World} {base : Nat} {L L' : List Item} (h : OwnA w base L) (p : L.Perm L') : OwnA w base L' :=
  ⟨fun it hi => h.own it (p.mem_iff.2 hi), (List.Perm.pairwise_iff (fun {a b} (h : Apart (Item.blk a) (Item.blk b)) => h.symm) p).1 h.apart⟩
theorem OwnA.store4 {w : World} {base b : Nat} {pre post : List Item} {u0 u1 u2 u3 : Value} (h : OwnA w base (pre ++ kItem b u0 u1 u2 u3 :: post)) (v0 v1 v2 v3 : Value) :
    OwnA ((((w.setCell ⟨b, 0, none⟩ v0).setCell ⟨b, 1, none⟩ v1).setCell ⟨b, 2, none⟩ v2).setCell ⟨b, 3, none⟩ v3) base (pre ++ kItem b v0 v1 v2 v3 :: post) := by
  have s0 := World.ownsRow.stored (h.own (kItem b u0 u1 u2 u3) (by simp)) 0 v0
  have s1 := s0.1.stored 1 v1
  have s2 := s1.1.stored 2 v2
  have s3 := s2.1.stored 3 v3
  exact h.turn (it' := kItem b v0 v1 v2 v3) s3.1 (((s0.2.trans s1.2).trans s2.2).trans s3.2) (.inl rfl)
theorem box_cells {w : World} {base b : Nat} {L : List Item} {u0 u1 u2 u3 : Value} (h : OwnA w base L) (hm : kItem b u0 u1 u2 u3 ∈ L) :
    w.cell? ⟨b, 0, none⟩ = some u0 ∧ w.cell? ⟨b, 1, none⟩ = some u1 ∧ w.cell? ⟨b, 2, none⟩ = some u2 ∧ w.cell? ⟨b, 3, none⟩ = some u3 ∧ ∀ o, w.frozen? ⟨b, o, none⟩ = false := by
  have ho := h.own _ hm
  exact ⟨World.ownsRow.cellAt ho 0 (show 0 < 1 * 4 by decide), World.ownsRow.cellAt ho 1 (show 1 < 1 * 4 by decide), World.ownsRow.cellAt ho 2 (show 2 < 1 * 4 by decide), World.ownsRow.cellAt ho 3 (show 3 < 1 * 4 by decide), fun o => World.ownsRow.frozenAt ho o⟩
theorem boxA {w0 w : World} {b : Nat} {u0 u1 u2 u3 : Value} {r r' : Row} (h : Mk w0 w ([] ++ [kItem b u0 u1 u2 u3] ++ [Row.item r] ++ [Row.item r'])) :
    w.cell? ⟨b, 0, none⟩ = some u0 ∧ w.cell? ⟨b, 1, none⟩ = some u1 ∧ w.cell? ⟨b, 2, none⟩ = some u2 ∧ w.cell? ⟨b, 3, none⟩ = some u3 ∧ ∀ o, w.frozen? ⟨b, o, none⟩ = false := box_cells h.own (by simp)
theorem boxB {w0 w : World} {b : Nat} {u0 u1 u2 u3 : Value} {r r' : Row} (h : Mk w0 w ([] ++ [Row.item r] ++ [kItem b u0 u1 u2 u3] ++ [Row.item r'])) :
    w.cell? ⟨b, 0, none⟩ = some u0 ∧ w.cell? ⟨b, 1, none⟩ = some u1 ∧ w.cell? ⟨b, 2, none⟩ = some u2 ∧ w.cell? ⟨b, 3, none⟩ = some u3 ∧ ∀ o, w.frozen? ⟨b, o, none⟩ = false := box_cells h.own (by simp)
theorem set4_keep {w : World} {a : Addr} {u : Value} (h : w.cell? a = some u) {b : Nat} (hb : ¬ a.block = b) {v0 v1 v2 v3 : Value} : ((((w.setCell ⟨b, 0, none⟩ v0).setCell ⟨b, 1, none⟩ v1).setCell ⟨b, 2, none⟩ v2).setCell ⟨b, 3, none⟩ v3).cell? a = some u := by
  have key : ∀ (w : World) (o : Nat) (v : Value), (w.setCell ⟨b, o, none⟩ v).cell? a = w.cell? a := fun w o v => World.cell?_setCell_other _ _ _ _ (fun e => hb (by rw [← e]))
  rw [key, key, key, key]
  exact h
theorem below_four {w0 w : World} {b base : Nat} (h : Below base w0 w) (hb : base ≤ b) (v0 v1 v2 v3 : Value) : Below base w0 ((((w.setCell ⟨b, 0, none⟩ v0).setCell ⟨b, 1, none⟩ v1).setCell ⟨b, 2, none⟩ v2).setCell ⟨b, 3, none⟩ v3) :=
  (((h.setCell hb _).setCell hb _).setCell hb _).setCell hb _
theorem armX {w0 w : World} {r1 r2 : Row} (h : Mk w0 w ([] ++ [Row.item r1] ++ [Row.item r2])) (v0 v1 v2 v3 : Value) :
    OwnA (w.alloc (.cells #[v0, v1, v2, v3] 47)) w0.heap.size [kItem w.heap.size v0 v1 v2 v3, Row.item r1, Row.item r2] ∧ Below w0.heap.size w0 (w.alloc (.cells #[v0, v1, v2, v3] 47)) := by
  have h1 := h.box v0 v1 v2 v3
  exact ⟨h1.own.perm (List.perm_append_comm (l₁ := [Row.item r1, Row.item r2]) (l₂ := [kItem w.heap.size v0 v1 v2 v3])), h1.since⟩
theorem armY {w0 w : World} {b : Nat} {u0 u1 u2 u3 : Value} {r1 r2 : Row} (h : Mk w0 w ([] ++ [Row.item r1] ++ [kItem b u0 u1 u2 u3] ++ [Row.item r2])) (v0 v1 v2 v3 : Value) :
    OwnA ((((w.setCell ⟨b, 0, none⟩ v0).setCell ⟨b, 1, none⟩ v1).setCell ⟨b, 2, none⟩ v2).setCell ⟨b, 3, none⟩ v3) w0.heap.size [kItem b v0 v1 v2 v3, Row.item r1, Row.item r2] ∧ Below w0.heap.size w0 ((((w.setCell ⟨b, 0, none⟩ v0).setCell ⟨b, 1, none⟩ v1).setCell ⟨b, 2, none⟩ v2).setCell ⟨b, 3, none⟩ v3) := by
  have h1 := OwnA.store4 (pre := [Row.item r1]) (post := [Row.item r2]) h.own v0 v1 v2 v3
  exact ⟨h1.perm (List.Perm.swap _ _ _), below_four h.since ((h.own.own (kItem b u0 u1 u2 u3) (by simp)).lt b rfl).1 _ _ _ _⟩
theorem armZ {w0 w : World} {b : Nat} {u0 u1 u2 u3 : Value} {r1 r2 : Row} (h : Mk w0 w ([] ++ [kItem b u0 u1 u2 u3] ++ [Row.item r1] ++ [Row.item r2])) (v0 v1 v2 v3 : Value) :
    OwnA ((((w.setCell ⟨b, 0, none⟩ v0).setCell ⟨b, 1, none⟩ v1).setCell ⟨b, 2, none⟩ v2).setCell ⟨b, 3, none⟩ v3) w0.heap.size [kItem b v0 v1 v2 v3, Row.item r1, Row.item r2] ∧ Below w0.heap.size w0 ((((w.setCell ⟨b, 0, none⟩ v0).setCell ⟨b, 1, none⟩ v1).setCell ⟨b, 2, none⟩ v2).setCell ⟨b, 3, none⟩ v3) := by
  have h1 := OwnA.store4 (pre := []) (post := [Row.item r1, Row.item r2]) h.own v0 v1 v2 v3
  exact ⟨h1, below_four h.since ((h.own.own (kItem b u0 u1 u2 u3) (by simp)).lt b rfl).1 _ _ _ _⟩
theorem OwnA.kset0 {w : World} {base b : Nat} {L : List Item} {u0 u1 u2 u3 : Value} (h : OwnA w base (kItem b u0 u1 u2 u3 :: L)) (v : Value) : OwnA (w.setCell ⟨b, 0, none⟩ v) base (kItem b v u1 u2 u3 :: L) := by
  have s0 := World.ownsRow.stored (h.own (kItem b u0 u1 u2 u3) (by simp)) 0 v
  exact OwnA.turn (pre := []) (it' := kItem b v u1 u2 u3) h s0.1 s0.2 (.inl rfl)
theorem OwnA.kset1 {w : World} {base b : Nat} {L : List Item} {u0 u1 u2 u3 : Value} (h : OwnA w base (kItem b u0 u1 u2 u3 :: L)) (v : Value) : OwnA (w.setCell ⟨b, 1, none⟩ v) base (kItem b u0 v u2 u3 :: L) := by
  have s0 := World.ownsRow.stored (h.own (kItem b u0 u1 u2 u3) (by simp)) 1 v
  exact OwnA.turn (pre := []) (it' := kItem b u0 v u2 u3) h s0.1 s0.2 (.inl rfl)
set_option maxRecDepth 100000 in
set_option maxHeartbeats 3200000 in
theorem s_ReadProof (s : ByteArray) (w : World) (hs : s.size ≤ 1048576) :
    Calls Tryd.prog 10 #[.string s] w (ProofR (readP s) w) := by
  obtain ⟨m, hm⟩ : ∃ m, Hid (readP s = m) := ⟨_, Lib.hid rfl⟩
  rw [hm.out]
  by_cases h4 : s.size ≤ 4000
  · have h4I : ¬ (4000 : Int) < (s.size : Int) := by omega
    by_cases h0 : s.size = 0
    · have hz2 : s.toList.isEmpty = true := by rw [isE, decide_eq_true h0]
      have fin : Hid (m = ([], true)) := Lib.hid (hm.out.symm.trans (readP_zero h0))
      have HSp := Lib.hid (fun w => s_l1Split s 59 w hs)
      have HN := List.length_pos_iff.2 (splitL_ne s 59)
      have hcnt := splitL_count s 59
      have hz3 : (s.toList == s.toList) = true := beq_self_eq_true _
      have hse := Lib.hid (size_zero h0)
      clear hm h0 h4
      generalize splitL s 59 = W at *
      have HNI : (0 : Int) < (W.length : Int) := by omega
      have Wb := Lib.hid (own_boxesL w (.slice none 0 0))
      go_enter Tryd.func10, Tryd.ntmps10
      go_wp2_with fail
      refine (HSp.out _).mono ?_
      rintro e w1 ⟨B, d, rfl, o1, b1⟩
      have S1 : Hid (St w1 w.heap.size w.heap.size (w.heap.size + 1 + 1) B d W (.slice (some ⟨w.heap.size + 1, 0, none⟩) 0 0) (some ⟨w.heap.size + 1, 0, none⟩) 0 []) := Lib.hid (St.startL Wb.out b1 (by simp; omega) o1)
      have B1 : Hid (Below w.heap.size w w1) := Lib.hid (Below.next (by go_grown) b1)
      have c1z := box_cell S1.out.o1
      have HTo := Lib.hid (s_l15Told (some ⟨w.heap.size + 1, 0, none⟩) 0 0 [] w1 S1.out.claims.rd (Nat.zero_le _) (Nat.zero_le _) (fun e he => by cases he))
      have HTx := Lib.hid (fun W' (hb : Below w1.heap.size w1 W') => s_l15Text (some ⟨w.heap.size + 1, 0, none⟩) 0 0 [] W' (S1.out.claims.rd.below hb) (Nat.zero_le _) (Nat.zero_le _) rfl (fun k d h => by cases h))
      rw [show told (dats []) = true from rfl] at HTo
      clear o1 b1 Wb HSp
      go_wp2_with fail
      go_loopg [6] 0 (fun mm i wx => wx = w1 ∧ i = .int .i64 0)
      case atStart => exact ⟨rfl, rfl⟩
      case round =>
        obtain ⟨rfl, rfl⟩ := hrel
        go_wp2_with fail
        refine HTo.out.mono ?_
        rintro e w2 ⟨rfl, b2⟩
        have S2 := Lib.hid (S1.out.below b2)
        have B2 := Lib.hid (Below.next B1.out b2)
        have k1 := box_cell S2.out.o1
        have HX := Lib.hid (HTx.out w2 b2)
        clear c1z b2 S1 B1 HTo HTx
        go_wp2_with fail
        refine HX.out.mono ?_
        rintro e w3 ⟨T, rfl, hT, b3⟩
        have hTe : strOfNums T = s := by rw [hT.told rfl, hse.out]; rfl
        have S3 := Lib.hid (S2.out.below b3)
        have B3 := Lib.hid (Below.next B2.out b3)
        have k0 := box_cell S3.out.o0
        have f0 := box_free S3.out.o0
        have K0 := Lib.hid k0
        clear k1
        have k1 := box_cell S3.out.o1
        rw [hTe]
        clear hTe hT HX S2 B2 b3
        go_wp2_with fail
        refine bodyPost_ret (res_proof2 _ _ rfl rfl (World.cell?_setCell_same _ _ _ K0.out)) rfl (ProofR.yes (es := []) fin.out rfl rfl (S3.out.put0 _) ?_)
        exact B3.out.setCell (Nat.le_refl _) _
    · have hz2 : s.toList.isEmpty = false := by rw [isE, decide_eq_false h0]
      have HSp := Lib.hid (fun w => s_l1Split s 59 w hs)
      have hcnt := splitL_count s 59
      have HM := Lib.hid (fun x (hx : x ∈ splitL s 59) => Nat.le_trans (splitL_mem hx) hs)
      have HB := Lib.hid (fun (k : Nat) (x : ByteArray) (hk : (splitL s 59)[k]? = some x) (hx : shp x = false) => hm.out.symm.trans (readP_shp (by rw [wordsB_some h0]; exact hk) hx))
      have HG := Lib.hid (fun (h : ∀ (j : Nat) (x : ByteArray), (splitL s 59)[j]? = some x → shp x = true) => hm.out.symm.trans (readP_end h4 (by rw [wordsB_some h0]; exact all_take h)))
      have HF := Lib.hid (fun (h : ∀ (j : Nat) (x : ByteArray), (splitL s 59)[j]? = some x → shp x = true) => dsB_flat (s := s) (by rw [wordsB_some h0]; exact all_take h))
      have HN := Lib.hid (List.length_pos_iff.2 (splitL_ne s 59))
      have hds : dsB s = (splitL s 59).map rdC := by unfold dsB; rw [wordsB_some h0]
      rw [hds] at HG HF
      clear hm hds h0
      generalize splitL s 59 = W at *
      have Wb := Lib.hid (own_boxesL w (.slice none 0 0))
      go_enter Tryd.func10, Tryd.ntmps10
      go_wp2_with fail
      refine (HSp.out _).mono ?_
      rintro e w1 ⟨B, d, rfl, o1, b1⟩
      have S1 : Hid (St w1 w.heap.size w.heap.size (w.heap.size + 1 + 1) B d W (.slice (some ⟨w.heap.size + 1, 0, none⟩) 0 0) (some ⟨w.heap.size + 1, 0, none⟩) 0 []) := Lib.hid (St.startL Wb.out b1 (by simp; omega) o1)
      have B1 : Hid (Below w.heap.size w w1) := Lib.hid (Below.next (by go_grown) b1)
      obtain ⟨gw, rfl, _⟩ := strsP_at o1 HN.out
      clear o1 b1 Wb HSp
      go_wp2_with fail
      go_loopg [6] W.length (fun mm i wx => ∃ (k c : Nat) (A : Option Addr) (es : List El) (wz : World), wz = wx ∧ k ≤ W.length ∧ mm = W.length - k ∧ i = .int .i64 k ∧ Hid (es.length = k) ∧ Hid (dats es = (W.take k).map rdC) ∧
        Hid (∀ (j : Nat) (x : ByteArray), j < k → W[j]? = some x → shp x = true) ∧ Hid (St wz w.heap.size w.heap.size (w.heap.size + 1 + 1) (some ⟨gw, 0, none⟩) d W (.slice A k c) A c es) ∧ Hid (Below w.heap.size w wz))
      case atStart => exact ⟨0, 0, _, [], _, rfl, Nat.zero_le _, rfl, rfl, Lib.hid rfl, Lib.hid rfl, Lib.hid (fun j x hj => by omega), S1, B1⟩
      case round =>
        obtain ⟨k, c, A, es, wz, rfl, hk, rfl, rfl, hel, hd, hinv, hst, hb⟩ := hrel
        clear S1 B1
        by_cases hlt : k < W.length
        · have hltI : (k : Int) < (W.length : Int) := by omega
          have hxk := Lib.hid (getD_strs hlt)
          obtain ⟨g, e1, _, hc⟩ := hst.out.words hxk.out
          injection e1 with e1
          injection e1 with e1
          subst e1
          have hd2 : Hid ((dats es) ++ [rdC (W.getD k ByteArray.empty)] = (W.take (k + 1)).map rdC) := Lib.hid (by rw [map_snoc _ hxk.out, ← hd.out])
          have hxs := HM.out (W.getD k ByteArray.empty) (List.mem_of_getElem? hxk.out)
          generalize W.getD k ByteArray.empty = x at *
          have HP1 := Lib.hid (s_l1Split x 58 wz hxs)
          have hPn := List.length_pos_iff.2 (splitL_ne x 58)
          have hPc := splitL_count x 58
          have hPs := Lib.hid (fun y (hy : y ∈ splitL x 58) => Nat.le_trans (splitL_mem hy) hxs)
          obtain ⟨shx, hshx⟩ : ∃ z, Hid (shp x = z) := ⟨_, Lib.hid rfl⟩
          have hsh2 : Hid (shx = (decide ((splitL x 58).length = 3) && decide ((splitL ((splitL x 58).getD 0 ByteArray.empty) 32).length = 2))) := Lib.hid (by rw [← hshx.out]; rfl)
          have hrx : Hid (rdC x = ([(readT ((splitL ((splitL x 58).getD 0 ByteArray.empty) 32).getD 0 ByteArray.empty)).1, (readT ((splitL ((splitL x 58).getD 0 ByteArray.empty) 32).getD 1 ByteArray.empty)).1], [rdL ((splitL x 58).getD 1 ByteArray.empty), rdL ((splitL x 58).getD 2 ByteArray.empty)])) := Lib.hid rfl
          have hq0 := getD_strs hPn
          have hqs := hPs.out _ (List.mem_of_getElem? hq0)
          generalize splitL x 58 = P at *
          have HP2 := Lib.hid (fun w => s_l1Split (P.getD 0 ByteArray.empty) 32 w hqs)
          have hAn := List.length_pos_iff.2 (splitL_ne (P.getD 0 ByteArray.empty) 32)
          have hAc := splitL_count (P.getD 0 ByteArray.empty) 32
          have hAs := Lib.hid (fun y (hy : y ∈ splitL (P.getD 0 ByteArray.empty) 32) => Nat.le_trans (splitL_mem hy) hqs)
          generalize splitL (P.getD 0 ByteArray.empty) 32 = Q2 at *
          generalize P.getD 0 ByteArray.empty = q0 at *
          by_cases h3 : P.length = 3
          · by_cases h2 : Q2.length = 2
            · obtain ⟨p0, p1, p2, rfl⟩ := three_of h3
              obtain ⟨a0, a1, rfl⟩ : ∃ a0 a1, Q2 = [a0, a1] := by
                match Q2, h2 with
                | [a, b], _ => exact ⟨a, b, rfl⟩
              obtain rfl : p0 = q0 := by simpa using hq0
              simp only [List.getD_cons_zero, List.getD_cons_succ] at hrx
              have hshT : shx = true := hsh2.out
              subst hshT
              have hinv2 : Hid (∀ (j : Nat) (x : ByteArray), j < k + 1 → W[j]? = some x → shp x = true) := Lib.hid (fun j y hj hy => by
                by_cases e : j = k
                · subst e
                  rw [hxk.out] at hy
                  cases hy
                  exact hshx.out
                · exact hinv.out j y (by omega) hy)
              have L1 := Lib.hid (fun w => s_l15List p1 w (hPs.out p1 (by simp)))
              have L2 := Lib.hid (fun w => s_l15List p2 w (hPs.out p2 (by simp)))
              have R1 := Lib.hid (fun w => s_l1Read a0 w (hAs.out a0 (by simp)))
              have R2 := Lib.hid (fun w => s_l1Read a1 w (hAs.out a1 (by simp)))
              clear hPs hAs hinv h3 h2 hq0 hqs hPn hPc hAn hAc hsh2 hshx HB HG HF HM hd
              generalize rdL p1 = l1 at *
              generalize rdL p2 = l2 at *
              generalize readT a0 = t0 at *
              generalize readT a1 = t1 at *
              obtain ⟨n0, ok0⟩ := t0
              obtain ⟨n1, ok1⟩ := t1
              simp only at R1 R2 hrx
              go_wp2_with fail
              refine HP1.out.mono ?_
              rintro e w2 ⟨A2, d2, rfl, o2, b2⟩
              obtain ⟨g2, rfl, _, hg2, hc2⟩ := strsP_at o2 (by simp)
              have c20 := hc2 0 _ rfl
              have c21 := hc2 1 _ rfl
              have c22 := hc2 2 _ rfl
              have S2 := Lib.hid (hst.out.below b2)
              have B2 := Lib.hid (Below.next hb.out b2)
              clear hc2 o2 b2 hst hb HP1
              go_wp2_with fail
              refine (HP2.out _).mono ?_
              rintro e w3 ⟨A3, d3, rfl, o3, b3⟩
              obtain ⟨g3, rfl, _, hg3, hc3⟩ := strsP_at o3 (by simp)
              have c30 := hc3 0 _ rfl
              have c31 := hc3 1 _ rfl
              have c21 := bkeep b3 _ _ c21
              have c22 := bkeep b3 _ _ c22
              have S3 := Lib.hid (S2.out.below b3)
              have B3 := Lib.hid (Below.next B2.out b3)
              have C3 := Lib.hid (And.intro c30 c31)
              clear hc3 o3 b3 S2 B2 HP2 c20 hg2 hc c30 c31
              go_upto_region 12 with fail
              go_cut [9] (fun v wx => ∃ (b c1 c2 : Nat) (A1 A2 : Option Addr) (wy : World), wy = wx ∧ v = .pointer (some ⟨b, 0, none⟩) ∧ Hid (OwnA wy w3.heap.size [kItem b (.int .i64 0) (.int .i64 0) (.slice A1 l1.length c1) (.slice A2 l2.length c2), Row.item ⟨A1, c1, l1⟩, Row.item ⟨A2, c2, l2⟩]) ∧ Hid (Below w3.heap.size w3 wy))
              case first =>
                have mk := Mk.nil w3
                have q1 := c21
                have q2 := c22
                have lg : g2 < w3.heap.size := cell_lt c21
                have n1 : ¬ g2 = w3.heap.size := by omega
                have hz : w3.heap.size ≤ w3.heap.size := Nat.le_refl _
                go_region_held3 (fun w' => w'.cell? ⟨g2, 1, none⟩ = some (.string p1) ∧ w'.cell? ⟨g2, 2, none⟩ = some (.string p2) ∧ Below w3.heap.size w3 w')
                  ((refine ⟨?_, ?_, ?_⟩; (first | with_reducible exact q1 | with_reducible exact cell_alloc q1 _ | with_reducible (refine set4_keep q1 ?_ <;> assumption) | exact q1 | exact cell_alloc q1 _); (first | with_reducible exact q2 | with_reducible exact cell_alloc q2 _ | with_reducible (refine set4_keep q2 ?_ <;> assumption) | exact q2 | exact cell_alloc q2 _); (first | with_reducible exact mk.since | with_reducible exact mk.since.drew | with_reducible exact mk.since.alloc hz _ | with_reducible exact (mk.since.alloc hz _).drew | (with_reducible (refine Below.setCell (Below.setCell (Below.setCell (Below.setCell mk.since ?_ _) ?_ _) ?_ _) ?_ _) <;> first | assumption | exact Nat.le_refl _))))
                  (first
                    | (go_at_call_of 24 p1; refine (L1.out _).mono ?_; rintro e w' ⟨A, c, rfl, o, b⟩; have hk := bkeep b; have hz : w3.heap.size ≤ w'.heap.size := Nat.le_trans (Below.size (And.right (And.right (by assumption)))) b.size; have n1 : ¬ g2 = w'.heap.size := (by omega); have q1 : w'.cell? ⟨g2, 1, none⟩ = some (.string p1) := hk _ _ (And.left (by assumption)); have q2 : w'.cell? ⟨g2, 2, none⟩ = some (.string p2) := hk _ _ (And.left (And.right (by assumption))); have mk := Mk.row (by first | with_reducible exact mk | with_reducible exact Mk.drew mk | with_reducible exact Mk.box mk _ _ _ _ | with_reducible exact Mk.drew (Mk.box mk _ _ _ _)) o b; (try (obtain ⟨x0, x1, x2, x3, xf⟩ := boxA mk)); (try (obtain ⟨x0, x1, x2, x3, xf⟩ := boxB mk)))
                    | (go_at_call_of 24 p2; refine (L2.out _).mono ?_; rintro e w' ⟨A, c, rfl, o, b⟩; have hk := bkeep b; have hz : w3.heap.size ≤ w'.heap.size := Nat.le_trans (Below.size (And.right (And.right (by assumption)))) b.size; have n1 : ¬ g2 = w'.heap.size := (by omega); have q1 : w'.cell? ⟨g2, 1, none⟩ = some (.string p1) := hk _ _ (And.left (by assumption)); have q2 : w'.cell? ⟨g2, 2, none⟩ = some (.string p2) := hk _ _ (And.left (And.right (by assumption))); have mk := Mk.row (by first | with_reducible exact mk | with_reducible exact Mk.drew mk | with_reducible exact Mk.box mk _ _ _ _ | with_reducible exact Mk.drew (Mk.box mk _ _ _ _)) o b; (try (obtain ⟨x0, x1, x2, x3, xf⟩ := boxA mk)); (try (obtain ⟨x0, x1, x2, x3, xf⟩ := boxB mk))))
                all_goals
                  go_wp2_with fail
                  go_meet
                  case rel =>
                    first
                      | exact ⟨_, _, _, _, _, _, rfl, rfl, Lib.hid (armX mk _ _ _ _).1, Lib.hid (armX mk _ _ _ _).2⟩
                      | exact ⟨_, _, _, _, _, _, rfl, rfl, Lib.hid (armY mk _ _ _ _).1, Lib.hid (armY mk _ _ _ _).2⟩
                      | exact ⟨_, _, _, _, _, _, rfl, rfl, Lib.hid (armZ mk _ _ _ _).1, Lib.hid (armZ mk _ _ _ _).2⟩
              case rest =>
                obtain ⟨b, e1, e2, A1, A2, wy, rfl, rfl, hO, hB⟩ := hcut
                have lb := ((hO.out.own _ (List.mem_cons_self ..)).lt b rfl).1
                have l3 : w.heap.size + 1 + 1 < w3.heap.size := ((St.o1 S3.out).lt _ rfl).2
                have m0 : ¬ w.heap.size + 1 + 1 = b := by omega
                have m1 : ¬ b = w.heap.size + 1 + 1 := by omega
                have m2 : ¬ g3 = b := by omega
                have m3 : ¬ b = g3 := by omega
                have c30 := bkeep hB.out _ _ C3.out.1
                clear c21 c22 L1 L2
                go_wp2_with fail
                refine (R1.out _).mono ?_
                rintro e w4 ⟨rfl, q4⟩
                have hO4 := Lib.hid (hO.out.below q4.below)
                have hB4 := Lib.hid (Below.next hB.out q4.below)
                obtain ⟨x0, x1, x2, x3, xf⟩ := box_cells hO4.out (List.mem_cons_self ..)
                have c31 := bkeep hB4.out _ _ C3.out.2
                have hO5 := Lib.hid (hO4.out.kset0 (.int .i64 n0))
                have hB5 := Lib.hid (hB4.out.setCell (p := ⟨b, 0, none⟩) lb (.int .i64 n0))
                clear q4 hO hB c30 R1 hO4
                go_wp2_with fail
                refine (R2.out _).mono ?_
                rintro e w5 ⟨rfl, q5⟩
                have hO6 := Lib.hid (hO5.out.below q5.below)
                have hB6 := Lib.hid (Below.next hB5.out q5.below)
                clear x0 x1 x2 x3 xf c31
                obtain ⟨x0, x1, x2, x3, xf⟩ := box_cells hO6.out (List.mem_cons_self ..)
                have S5 := Lib.hid (S3.out.below hB6.out)
                have y1 := box_cell S5.out.o1
                have hO7 := Lib.hid (hO6.out.kset1 (.int .i64 n1))
                have hB7 := Lib.hid (hB6.out.setCell (p := ⟨b, 1, none⟩) lb (.int .i64 n1))
                have hap : Hid (Apart (Row.blk ⟨A1, e1, l1⟩) (Row.blk ⟨A2, e2, l2⟩)) := Lib.hid (by
                  have := hO7.out.apart
                  simp only [List.pairwise_cons, List.mem_cons, List.not_mem_nil, or_false, forall_eq] at this
                  exact this.2.1)
                have o1 := Lib.hid (hO7.out.own (Row.item ⟨A1, e1, l1⟩) (by simp))
                have o2 := Lib.hid (hO7.out.own (Row.item ⟨A2, e2, l2⟩) (by simp))
                have hB0 : w.heap.size ≤ w3.heap.size := by omega
                clear q5 hO5 hB5 hB4 R2 hO6 hB6 hO7 S5
                have hd3 : Hid (dats (es ++ [⟨[n0, n1], [⟨A1, e1, l1⟩, ⟨A2, e2, l2⟩]⟩]) = (W.take (k + 1)).map rdC) := Lib.hid (by
                  rw [← hd2.out, hrx.out]
                  simp [dats, El.dat])
                go_wp2_with (at_builtin; refine St.app S3.out hB0 hB7.out o1.out o2.out hap.out w5.heap.size (by simp) rfl (.tmp 72) (.tmp 74) rfl hel.out rfl rfl (by omega) ?_; intro g' cap' w' st' hsz bb; have k1' := box_cell st'.o1; have f1' := box_free st'.o1)
                go_roundg (W.length - (k + 1))
                case measure => omega
                case rel =>
                  refine ⟨k + 1, cap', some ⟨g', 0, none⟩, _, _, rfl, by omega, rfl, by go_num, Lib.hid (by simp [hel.out]), hd3, hinv2, Lib.hid (st'.put1 _), Lib.hid ?_⟩
                  exact (below_tr B3.out bb).setCell (show w.heap.size ≤ w.heap.size + 1 + 1 by omega) _
            · obtain ⟨p0, p1, p2, rfl⟩ := three_of h3
              obtain rfl : p0 = q0 := by simpa using hq0
              have h2I : ¬ (Q2.length : Int) = 2 := by omega
              have hshF : shp x = false := by rw [hshx.out, hsh2.out, decide_eq_false h2, Bool.and_false]
              clear h3 hPn
              have fin : Hid (m = ([], false)) := Lib.hid (HB.out k x hxk.out hshF)
              clear hPs hAs hinv hq0 hqs HG HF HM HB hd hd2 hrx hsh2 hshx hPc hAc
              go_wp2_with fail
              refine HP1.out.mono ?_
              rintro e w2 ⟨A2, d2, rfl, o2, b2⟩
              obtain ⟨g2, rfl, _, hg2, hc2⟩ := strsP_at o2 (by simp)
              have c20 := hc2 0 _ rfl
              have S2 := Lib.hid (hst.out.below b2)
              have B2 := Lib.hid (Below.next hb.out b2)
              clear hc2 o2 b2 hst hb HP1
              go_wp2_with fail
              refine (HP2.out _).mono ?_
              rintro e w3 ⟨A3, d3, rfl, o3, b3⟩
              have S3 := Lib.hid (S2.out.below b3)
              have B3 := Lib.hid (Below.next B2.out b3)
              clear o3 b3 S2 B2 HP2 c20 hg2 hc
              have k0 := box_cell S3.out.o0
              have f0 := box_free S3.out.o0
              have K0 := Lib.hid k0
              go_wp2_with fail
              refine bodyPost_ret (res_proof2 _ _ rfl rfl (World.cell?_setCell_same _ _ _ K0.out)) rfl (ProofR.no fin.out rfl ?_)
              exact B3.out.setCell (Nat.le_refl _) _
          · have h3I : ¬ (P.length : Int) = 3 := by omega
            have hshF : shp x = false := by rw [hshx.out, hsh2.out, decide_eq_false h3, Bool.false_and]
            have HQ0 := Lib.hid hq0
            have fin : Hid (m = ([], false)) := Lib.hid (HB.out k x hxk.out hshF)
            clear hPs hAs hinv hq0 hqs HG HF HM HB hd hd2 hrx hsh2 hshx hPc hAc
            go_wp2_with fail
            refine HP1.out.mono ?_
            rintro e w2 ⟨A2, d2, rfl, o2, b2⟩
            obtain ⟨g2, rfl, _, hg2, hc2⟩ := strsP_at o2 hPn
            have c20 := hc2 0 _ HQ0.out
            have S2 := Lib.hid (hst.out.below b2)
            have B2 := Lib.hid (Below.next hb.out b2)
            clear hc2 o2 b2 hst hb HP1
            go_wp2_with fail
            refine (HP2.out _).mono ?_
            rintro e w3 ⟨A3, d3, rfl, o3, b3⟩
            have S3 := Lib.hid (S2.out.below b3)
            have B3 := Lib.hid (Below.next B2.out b3)
            clear o3 b3 S2 B2 HP2 c20 hg2 hc
            have k0 := box_cell S3.out.o0
            have f0 := box_free S3.out.o0
            have K0 := Lib.hid k0
            go_wp2_with fail
            refine bodyPost_ret (res_proof2 _ _ rfl rfl (World.cell?_setCell_same _ _ _ K0.out)) rfl (ProofR.no fin.out rfl ?_)
            exact B3.out.setCell (Nat.le_refl _) _
        · obtain rfl : k = W.length := by omega
          have hall : Hid (∀ (j : Nat) (x : ByteArray), W[j]? = some x → shp x = true) := Lib.hid (fun j x hj => hinv.out j x (List.getElem?_eq_some_iff.1 hj).1 hj)
          have hdd : Hid (dats es = W.map rdC) := Lib.hid (by have := hd.out; rwa [List.take_length] at this)
          have hG := HG.out hall.out
          have hF := HF.out hall.out
          rw [← hdd.out] at hG hF
          have htt : tots es ≤ 1048576 := by rw [tots_of_dats rfl]; omega
          have hrd := hst.out.claims.rdn hel.out
          have HTo := Lib.hid (s_l15Told A W.length c es wz hrd (by omega) htt (tots_rows htt))
          have c1z := box_cell hst.out.o1
          have hnn : ¬ (W.length : Int) < (W.length : Int) := by omega
          cases htold : told (dats es)
          · have fin : Hid (m = ([], false)) := Lib.hid (by rw [hG, proofC_no htold, if_neg (fun h => by cases h.1)])
            rw [htold] at HTo
            clear hG hF HG HF hinv hd hall htt hrd HB HM hcnt hlt htold
            go_wp2_with fail
            refine HTo.out.mono ?_
            rintro e w2 ⟨rfl, b2⟩
            have S2 := Lib.hid (hst.out.below b2)
            have B2 := Lib.hid (Below.next hb.out b2)
            have k0 := box_cell S2.out.o0
            have f0 := box_free S2.out.o0
            have K0 := Lib.hid k0
            clear c1z b2 hst hb HTo
            go_wp2_with fail
            refine bodyPost_ret (res_proof2 _ _ rfl rfl (World.cell?_setCell_same _ _ _ K0.out)) rfl (ProofR.no fin.out rfl ?_)
            exact B2.out.setCell (Nat.le_refl _) _
          · have ht2 := told_iff.1 htold
            have HTx := Lib.hid (fun W' (hb : Below wz.heap.size wz W') => s_l15Text A W.length c es W' (hrd.below hb) (by omega) htt ht2.1 ht2.2.1)
            rw [proofC_yes htold] at hG
            have HR := Lib.hid htold
            rw [htold] at HTo
            have HG2 := Lib.hid hG
            clear hG hF HG HF hinv hd hall htt hrd HB HM hcnt hlt htold ht2
            go_wp2_with fail
            refine HTo.out.mono ?_
            rintro e w2 ⟨rfl, b2⟩
            have S2 := Lib.hid (hst.out.below b2)
            have B2 := Lib.hid (Below.next hb.out b2)
            have k1 := box_cell S2.out.o1
            have HX := Lib.hid (HTx.out w2 b2)
            clear c1z b2 hst hb HTo HTx
            go_wp2_with fail
            refine HX.out.mono ?_
            rintro e w3 ⟨T, rfl, hT, b3⟩
            have hTe := hT.told HR.out
            have S3 := Lib.hid (S2.out.below b3)
            have B3 := Lib.hid (Below.next B2.out b3)
            have k0 := box_cell S3.out.o0
            have f0 := box_free S3.out.o0
            have K0 := Lib.hid k0
            clear k1
            have k1 := box_cell S3.out.o1
            by_cases hts : strOfNums T = s
            · have fin : Hid (m = (dats es, true)) := Lib.hid (by rw [HG2.out, ← hTe, if_pos ⟨by first | trivial | rfl, hts⟩])
              have hz3 := strs_eq hts
              clear hts hT hTe HG2 HX S2 B2 b3
              go_wp2_with fail
              refine bodyPost_ret (res_proof2 _ _ rfl rfl (World.cell?_setCell_same _ _ _ K0.out)) rfl (ProofR.yes fin.out hel.out rfl (S3.out.put0 _) ?_)
              exact B3.out.setCell (Nat.le_refl _) _
            · have fin : Hid (m = ([], false)) := Lib.hid (by rw [HG2.out, ← hTe, if_neg (fun h => hts h.2)])
              have hz3 := strs_ne hts
              clear hts hT hTe HG2 HX S2 B2 b3
              go_wp2_with fail
              refine bodyPost_ret (res_proof2 _ _ rfl rfl (World.cell?_setCell_same _ _ _ K0.out)) rfl (ProofR.no fin.out rfl ?_)
              exact B3.out.setCell (Nat.le_refl _) _
  · have h4I : (4000 : Int) < (s.size : Int) := by omega
    have fin : Hid (m = ([], false)) := Lib.hid (hm.out.symm.trans (readP_long h4))
    clear h4 hm
    go_enter Tryd.func10, Tryd.ntmps10
    go_wp2_with fail
    refine bodyPost_ret (res_proof2 _ _ rfl rfl ?_) rfl (ProofR.no fin.out rfl ?_)
    · simp [go_sem]
    · go_grown
end Go.Proofs.YtcogdogiceokdaaDoor

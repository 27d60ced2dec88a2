/- Claims of the call's own are marked; the marks are held. -/
import Derived.Test.YtcogdogiceokdaaDoorRpC
namespace Go.Proofs.YtcogdogiceokdaaDoor
open Go.RowKit

/-- Claims of the call's own, and other things beside them. -/
structure OwnX (w : World) (base : Nat) (X : List Item) (A : Option Addr) (c : Nat) (es : List El) : Prop where
  all : OwnA w base (X ++ cItems A c es)
  fit : ∀ e ∈ es, e.is.length = 2 ∧ e.rs.length = 2
theorem OwnA.right {w : World} {base : Nat} {X L : List Item} (h : OwnA w base (X ++ L)) : OwnA w base L := ⟨fun it hi => h.own it (List.mem_append.2 (.inr hi)), (List.pairwise_append.1 h.apart).2.1⟩
theorem OwnX.claims {w : World} {base : Nat} {X : List Item} {A : Option Addr} {c : Nat} {es : List El} (h : OwnX w base X A c es) : OwnC w base A c es := ⟨h.all.right, h.fit⟩
theorem OwnX.below {w w' : World} {base : Nat} {X : List Item} {A : Option Addr} {c : Nat} {es : List El} (h : OwnX w base X A c es) (hb : Below w.heap.size w w') : OwnX w' base X A c es := ⟨h.all.below hb, h.fit⟩
theorem OwnX.outer {w : World} {base : Nat} {X : List Item} {A : Option Addr} {c : Nat} {es : List El} (h : OwnX w base X A c es) : w.ownsRow base 47 4 (.slice A es.length c) es.length (es.flatMap El.cells) := h.claims.outer
section
variable {w w' : World} {base : Nat} {A : Option Addr} {c : Nat}
theorem set_two_mid (P Q : List Value) (a b c d x y : Value) {m : Nat} (hm : P.length = m) : ((P ++ ([a, b, c, d] ++ Q)).set m x).set (m + 1) y = P ++ ([x, y, c, d] ++ Q) := by
  subst hm
  rw [List.set_append_right _ _ (Nat.le_refl _), Nat.sub_self, List.set_append_right _ _ (by omega), Nat.add_sub_cancel_left]
  rfl
/-- The two numbers of one claim are written anew. -/
theorem OwnX.set2 {g c : Nat} {X : List Item} {pre post : List El} {i1 i2 x y : Int} {rs : List Row} (h : OwnX w base X (some ⟨g, 0, none⟩) c (pre ++ ⟨[i1, i2], rs⟩ :: post)) {j : Nat} (hj : pre.length = j) :
    OwnX ((w.setCell ⟨g, j * 4, none⟩ (.int .i64 x)).setCell ⟨g, j * 4 + 1, none⟩ (.int .i64 y)) base X (some ⟨g, 0, none⟩) c (pre ++ ⟨[x, y], rs⟩ :: post) := by
  have hc : ∀ e ∈ pre, e.cells.length = 4 := fun e he => El.cells_len (h.fit e (List.mem_append.2 (.inl he))).1 (h.fit e (List.mem_append.2 (.inl he))).2
  have hrs : rs.length = 2 := (h.fit ⟨[i1, i2], rs⟩ (by simp)).2
  obtain ⟨r1, r2, rfl⟩ : ∃ r1 r2, rs = [r1, r2] := by
    match rs, hrs with
    | [r1, r2], _ => exact ⟨r1, r2, rfl⟩
  have s1 := h.outer.stored (j * 4) (.int .i64 x)
  have s2 := s1.1.stored (j * 4 + 1) (.int .i64 y)
  have e1 : (((pre ++ ⟨[i1, i2], [r1, r2]⟩ :: post).flatMap El.cells).set (j * 4) (.int .i64 x)).set (j * 4 + 1) (.int .i64 y) = (pre ++ ⟨[x, y], [r1, r2]⟩ :: post).flatMap El.cells := by
    rw [List.flatMap_append, List.flatMap_cons, List.flatMap_append, List.flatMap_cons]
    exact set_two_mid _ _ _ _ _ _ _ _ (by rw [flat_len hc, hj])
  have el : (pre ++ ⟨[x, y], [r1, r2]⟩ :: post).length = (pre ++ ⟨[i1, i2], [r1, r2]⟩ :: post).length := by simp
  have s3 := s2.1
  rw [e1] at s3
  have H2 : OwnA w base (X ++ cItem (some ⟨g, 0, none⟩) c (pre ++ ⟨[i1, i2], [r1, r2]⟩ :: post) :: (((pre ++ ⟨[i1, i2], [r1, r2]⟩ :: post).flatMap El.rs).map Row.item)) := h.all
  have H3 := H2.turn (it' := cItem (some ⟨g, 0, none⟩) c (pre ++ ⟨[x, y], [r1, r2]⟩ :: post)) (by unfold cItem Item.own; simp only [el]; exact s3) (s1.2.trans s2.2) (.inl rfl)
  refine ⟨?_, fun e he => ?_⟩
  · unfold cItems
    rw [show (pre ++ ⟨[x, y], [r1, r2]⟩ :: post).flatMap El.rs = (pre ++ ⟨[i1, i2], [r1, r2]⟩ :: post).flatMap El.rs by simp]
    exact H3
  · rcases List.mem_append.1 he with he | he
    · exact h.fit e (List.mem_append.2 (.inl he))
    · rcases List.mem_cons.1 he with rfl | he
      · exact ⟨rfl, rfl⟩
      · exact h.fit e (List.mem_append.2 (.inr (List.mem_cons_of_mem _ he)))
/-- A row of one claim is written anew. -/
theorem OwnX.row_turn {X : List Item} {pre post : List El} {is : List Int} {rp rq : List Row} {r : Row} {ys : List Int} (h : OwnX w base X A c (pre ++ ⟨is, rp ++ r :: rq⟩ :: post)) (hy : ys.length = r.xs.length)
    (ho : w'.ownsRow base 3 1 (.slice r.A r.xs.length r.c) r.xs.length (ys.map (Value.int .i64))) (hg : w.grownBy w' (Value.slice r.A r.xs.length r.c).ownBlock) : OwnX w' base X A c (pre ++ ⟨is, rp ++ ⟨r.A, r.c, ys⟩ :: rq⟩ :: post) := by
  have hval : (Row.mk r.A r.c ys).val = r.val := by unfold Row.val; simp only [hy]
  have hcell : (pre ++ ⟨is, rp ++ ⟨r.A, r.c, ys⟩ :: rq⟩ :: post).flatMap El.cells = (pre ++ ⟨is, rp ++ r :: rq⟩ :: post).flatMap El.cells := by
    simp only [List.flatMap_append, List.flatMap_cons, El.cells, List.map_append, List.map_cons, hval]
  have hit : cItem A c (pre ++ ⟨is, rp ++ ⟨r.A, r.c, ys⟩ :: rq⟩ :: post) = cItem A c (pre ++ ⟨is, rp ++ r :: rq⟩ :: post) := by
    unfold cItem
    rw [hcell]
    simp
  have H2 : OwnA w base ((X ++ cItem A c (pre ++ ⟨is, rp ++ r :: rq⟩ :: post) :: ((pre.flatMap El.rs).map Row.item ++ rp.map Row.item)) ++ Row.item r :: (rq.map Row.item ++ (post.flatMap El.rs).map Row.item)) := by
    have := h.all
    unfold cItems at this
    simpa using this
  have H3 := H2.turn (w' := w') (it' := Row.item ⟨r.A, r.c, ys⟩) (by unfold Row.item Item.own; simp only [hy]; rw [hval]; exact ho) hg (.inl (by unfold Row.item Item.blk; rw [hval]))
  refine ⟨?_, fun e he => ?_⟩
  · unfold cItems
    rw [hit]
    simpa using H3
  · rcases List.mem_append.1 he with he | he
    · exact h.fit e (List.mem_append.2 (.inl he))
    · rcases List.mem_cons.1 he with rfl | he
      · have := h.fit ⟨is, rp ++ r :: rq⟩ (by simp)
        simpa using this
      · exact h.fit e (List.mem_append.2 (.inr (List.mem_cons_of_mem _ he)))
end
theorem OwnC.here {w : World} {base : Nat} {A : Option Addr} {c j : Nat} {pre post : List El} {e : El} (h : OwnC w base A c (pre ++ e :: post)) (hj : pre.length = j) : ∃ g i1 i2 A1 c1 xs A2 c2 ys, A = some ⟨g, 0, none⟩ ∧ base ≤ g ∧ e = ⟨[i1, i2], [⟨A1, c1, xs⟩, ⟨A2, c2, ys⟩]⟩ ∧
    w.cell? ⟨g, j * 4, none⟩ = some (.int .i64 i1) ∧ w.cell? ⟨g, j * 4 + 1, none⟩ = some (.int .i64 i2) ∧ w.cell? ⟨g, j * 4 + 2, none⟩ = some (.slice A1 xs.length c1) ∧ w.cell? ⟨g, j * 4 + 3, none⟩ = some (.slice A2 ys.length c2) ∧ (∀ o, w.frozen? ⟨g, o, none⟩ = false) ∧ OwnI w base A1 c1 xs ∧ OwnI w base A2 c2 ys := by
  have hlt : j < (pre ++ e :: post).length := by rw [List.length_append, List.length_cons]; omega
  obtain ⟨b, off, i1, i2, A1, c1, xs, A2, c2, ys, rfl, hb, he, _, _, q0, q1, q2, q3⟩ := h.rd.claim hlt
  obtain ⟨g, e1, hg, _⟩ := h.at_ (by omega)
  injection e1 with e1
  injection e1 with e1 e2
  subst e1 e2
  rw [Nat.zero_add] at q0 q1 q2 q3
  have hee : e = ⟨[i1, i2], [⟨A1, c1, xs⟩, ⟨A2, c2, ys⟩]⟩ := by
    rw [List.getElem?_append_right (by omega), hj, Nat.sub_self] at he
    simpa using he
  have hm : e ∈ pre ++ e :: post := List.mem_append.2 (.inr (List.mem_cons_self ..))
  refine ⟨b, i1, i2, A1, c1, xs, A2, c2, ys, rfl, hg, hee, q0, q1, q2, q3, fun o => h.outer.frozenAt o, ?_, ?_⟩
  · exact h.row hm (r := ⟨A1, c1, xs⟩) (by rw [hee]; simp)
  · exact h.row hm (r := ⟨A2, c2, ys⟩) (by rw [hee]; simp)
theorem OwnX.there {w : World} {base g : Nat} {c j : Nat} {pre post : List El} {i1 i2 : Int} {A1 A2 : Option Addr} {c1 c2 : Nat} {xs ys : List Int} {X : List Item} (h : OwnX w base X (some ⟨g, 0, none⟩) c (pre ++ ⟨[i1, i2], [⟨A1, c1, xs⟩, ⟨A2, c2, ys⟩]⟩ :: post)) (hj : pre.length = j) :
    w.cell? ⟨g, j * 4 + 3, none⟩ = some (.slice A2 ys.length c2) ∧ OwnI w base A1 c1 xs ∧ OwnI w base A2 c2 ys := by
  obtain ⟨g', i1', i2', A1', c1', xs', A2', c2', ys', e1, _, e2, _, _, _, q3, _, p1, p2⟩ := h.claims.here hj
  injection e1 with e1
  injection e1 with e1
  simp only [El.mk.injEq, List.cons.injEq, and_true, Row.mk.injEq] at e2
  obtain ⟨_, ⟨a1, a2, a3⟩, a4, a5, a6⟩ := e2
  rw [e1, a1, a2, a3, a4, a5, a6]
  exact ⟨q3, p1, p2⟩
theorem below_two {w : World} {base g : Nat} (h : base ≤ g) (a b : Nat) (x y : Value) : Below base w ((w.setCell ⟨g, a, none⟩ x).setCell ⟨g, b, none⟩ y) :=
  ((Below.refl base w).setCell h _).setCell h _
theorem below_grows {w w' : World} {base : Nat} {E : TypeId} {v : Value} {n : Nat} {us : List Value} (h : w.ownsRow base E 1 v n us) (hg : w.grownBy w' v.ownBlock) (hb : base ≤ w.heap.size) : Below base w w' :=
  ⟨hg.os, hg.tape, hg.output, hg.size, fun b hlt => hg.block b (by omega) (fun e => by have := (h.lt b e.symm).1; omega)⟩
theorem below_tr {b : Nat} {x y z : World} (h : Below b x y) (k : Below b y z) : Below b x z := Below.trans h k
theorem OwnC.size {w : World} {base : Nat} {A : Option Addr} {c : Nat} {es : List El} (h : OwnC w base A c es) (hn : 0 < es.length) : base ≤ w.heap.size := by
  obtain ⟨g, _, h1, h2⟩ := h.at_ hn
  omega
set_option maxRecDepth 100000 in
set_option maxHeartbeats 1600000 in
theorem c_markClaimC (A : Option Addr) (c n base : Nat) (X : List Item) (es : List El) (k : Int) (w : World) (h : OwnX w base X A c es) (hl : es.length = n) (hn : n ≤ 1048576) (ht : tots es ≤ 1048576) (h0 : 0 ≤ k) (h1 : k ≤ 1000000) :
    Calls Tryd.prog 28 #[.slice A n c, .int .i64 k] w fun e w' => e = .returned (.int .i64 (k + 2 * (n : Int) + (tots es : Int))) ∧ OwnX w' base X A c (mkEs k es) ∧ Below base w w' := by
  have HO := Lib.hid h
  have HL : Hid (es.length = n) := Lib.hid hl
  have HT := Lib.hid ht
  clear h hl
  obtain ⟨R, hR⟩ : ∃ R, Hid (k + 2 * (n : Int) + (tots es : Int) = R) := ⟨_, Lib.hid rfl⟩
  rw [hR.out]
  go_enter Tryd.func28, Tryd.ntmps28
  go_wp2_with fail
  go_loopg [1, 5] n (fun mm a i wx => ∃ (j : Nat) (x : Int) (pre post : List El) (wz : World), wz = wx ∧ j ≤ n ∧ mm = n - j ∧ i = .int .i64 j ∧ a = .int .i64 x ∧ Hid (x = k + 2 * (j : Int) + (tots pre : Int)) ∧ Hid (es = pre ++ post ∧ pre.length = j) ∧ Hid (OwnX wz base X A c (mkEs k pre ++ post)) ∧ Hid (Below base w wz))
  case atStart => exact ⟨0, k, [], es, _, rfl, Nat.zero_le _, rfl, rfl, rfl, Lib.hid (by simp [tots]), Lib.hid ⟨rfl, rfl⟩, HO, Lib.hid (Below.refl _ _)⟩
  case round =>
    obtain ⟨j, x, pre, post, wz, rfl, hj, rfl, rfl, rfl, hx, hes, ho, hb⟩ := hrel
    by_cases hlt : j < n
    · have hltI : (j : Int) < (n : Int) := by omega
      obtain ⟨e, rest, rfl⟩ : ∃ e rest, post = e :: rest := by
        cases post with
        | nil =>
          have := HL.out
          rw [hes.out.1, List.append_nil, hes.out.2] at this
          omega
        | cons e rest => exact ⟨e, rest, rfl⟩
      have hmk : Hid ((mkEs k pre).length = j) := Lib.hid (by rw [mkEs_len]; exact hes.out.2)
      obtain ⟨g, i1, i2, A1, c1, xs, A2, c2, ys, rfl, hgb, rfl, k0, k1, k2, k3, hf, _, _⟩ := ho.out.claims.here hmk.out
      have hsz : base ≤ wz.heap.size := ho.out.claims.size (by rw [List.length_append, List.length_cons]; omega)
      have hll : tots pre + (xs.length + ys.length) ≤ 1048576 := by
        have := HT.out
        rw [hes.out.1, tots_app, tots_cons] at this
        simp [El.tot] at this
        omega
      have hx0 : 0 ≤ x := by have := hx.out; omega
      have hx1 : x ≤ 10000000 := by have := hx.out; omega
      have f0 := hf (j * 4)
      have f1 := hf (j * 4 + 1)
      have O1 : Hid (OwnX ((wz.setCell ⟨g, j * 4, none⟩ (.int .i64 x)).setCell ⟨g, j * 4 + 1, none⟩ (.int .i64 (x + 1))) base X (some ⟨g, 0, none⟩) c (mkEs k pre ++ ⟨[x, x + 1], [⟨A1, c1, xs⟩, ⟨A2, c2, ys⟩]⟩ :: rest)) := Lib.hid (ho.out.set2 hmk.out)
      have B1 : Hid (Below base w ((wz.setCell ⟨g, j * 4, none⟩ (.int .i64 x)).setCell ⟨g, j * 4 + 1, none⟩ (.int .i64 (x + 1)))) := Lib.hid (below_tr hb.out (below_two hgb _ _ _ _))
      clear hf ho hb
      go_wp2_with fail
      obtain ⟨_, p1, _⟩ := O1.out.there hmk.out
      have P1 := Lib.hid p1
      clear p1 k0 k1 k2 k3 f0 f1
      refine (c_markIntS A1 c1 base xs (x + 1 + 1) _ P1.out (by omega) (by omega) (by omega)).mono ?_
      rintro e w1 ⟨rfl, m1, v1⟩
      have O2 : Hid (OwnX w1 base X (some ⟨g, 0, none⟩) c (mkEs k pre ++ ⟨[x, x + 1], [⟨A1, c1, mks (x + 2) xs.length⟩, ⟨A2, c2, ys⟩]⟩ :: rest)) := Lib.hid (by
        rw [Int.add_assoc] at m1
        exact OwnX.row_turn (rp := []) O1.out (mks_len _ _) m1 v1)
      have B2 : Hid (Below base w w1) := Lib.hid (below_tr B1.out (below_grows P1.out v1 (by simpa using hsz)))
      clear O1 B1 P1 m1 v1
      obtain ⟨q3, _, p2⟩ := O2.out.there hmk.out
      have hsz1 : base ≤ w1.heap.size := O2.out.claims.size (by rw [List.length_append, List.length_cons]; omega)
      have P2 := Lib.hid p2
      clear p2
      go_wp2_with fail
      refine (c_markIntS A2 c2 base ys (x + 1 + 1 + (xs.length : Int)) _ P2.out (by omega) (by omega) (by omega)).mono ?_
      rintro e w2 ⟨rfl, m2, v2⟩
      have O3 : Hid (OwnX w2 base X (some ⟨g, 0, none⟩) c (mkEs k pre ++ ⟨[x, x + 1], [⟨A1, c1, mks (x + 2) xs.length⟩, ⟨A2, c2, mks (x + 2 + (xs.length : Int)) ys.length⟩]⟩ :: rest)) := Lib.hid (by
        rw [show x + 1 + 1 + (xs.length : Int) = x + 2 + (xs.length : Int) by omega] at m2
        exact OwnX.row_turn (rp := [Row.mk A1 c1 (mks (x + 2) xs.length)]) O2.out (mks_len _ _) m2 v2)
      have B3 : Hid (Below base w w2) := Lib.hid (below_tr B2.out (below_grows P2.out v2 hsz1))
      clear O2 B2 P2 m2 v2
      have hx2 : Hid (x + 1 + 1 + (xs.length : Int) + (ys.length : Int) = k + 2 * ((j + 1 : Nat) : Int) + (tots (pre ++ [⟨[i1, i2], [⟨A1, c1, xs⟩, ⟨A2, c2, ys⟩]⟩]) : Int)) := Lib.hid (by
        have := hx.out
        rw [tots_app]
        simp [tots, El.tot] at this ⊢
        omega)
      have hes2 : Hid (es = (pre ++ [⟨[i1, i2], [⟨A1, c1, xs⟩, ⟨A2, c2, ys⟩]⟩]) ++ rest ∧ (pre ++ [(⟨[i1, i2], [⟨A1, c1, xs⟩, ⟨A2, c2, ys⟩]⟩ : El)]).length = j + 1) := Lib.hid (And.intro (by rw [hes.out.1]; simp) (by simp [hes.out.2]))
      have O4 : Hid (OwnX w2 base X (some ⟨g, 0, none⟩) c (mkEs k (pre ++ [⟨[i1, i2], [⟨A1, c1, xs⟩, ⟨A2, c2, ys⟩]⟩]) ++ rest)) := Lib.hid (by
        rw [mkEs_snoc, hes.out.2, ← hx.out, List.append_assoc]
        exact O3.out)
      clear O3 hx hes
      go_wp2_with fail
      go_roundg (n - (j + 1))
      case measure => omega
      case rel => exact ⟨j + 1, _, _, rest, _, rfl, by omega, rfl, by go_num, rfl, hx2, hes2, O4, B3⟩
    · obtain rfl : j = n := by omega
      have hp : Hid (es = pre ∧ post = []) := Lib.hid (by
        have h1 := hes.out.1
        have h2 := hes.out.2
        have h3 := HL.out
        rw [h1, List.length_append, h2] at h3
        have h4 : post = [] := List.length_eq_zero_iff.1 (by omega)
        subst h4
        exact ⟨by rw [h1, List.append_nil], rfl⟩)
      have hf : x = R := by rw [← hR.out, hx.out, hp.out.1]
      have O4 : Hid (OwnX wz base X A c (mkEs k es)) := Lib.hid (by
        have := ho.out
        rw [hp.out.2, List.append_nil] at this
        rw [hp.out.1]
        exact this)
      subst hf
      go_wp2_with fail
      go_ret
      exact ⟨rfl, O4.out, hb.out⟩
set_option maxHeartbeats 800000 in
theorem c_markProofC (A : Option Addr) (c n base : Nat) (X : List Item) (es : List El) (k : Int) (w : World) (h : OwnX w base X A c es) (hbs : base ≤ w.heap.size) (hl : es.length = n) (hn : n ≤ 1048576) (ht : tots es ≤ 1048576) (h0 : 0 ≤ k) (h1 : k ≤ 1000000) :
    Calls Tryd.prog 12 #[.agg #[.slice A n c], .int .i64 k] w fun e w' => e = .returned (.int .i64 (k + 2 * (n : Int) + (tots es : Int))) ∧ OwnX w' base X A c (mkEs k es) ∧ Below base w w' := by
  have HM := Lib.hid (fun W (hb : Below w.heap.size w W) => c_markClaimC A c n base X es k W (h.below hb) hl hn ht h0 h1)
  obtain ⟨R, hR⟩ : ∃ R, k + 2 * (n : Int) + (tots es : Int) = R := ⟨_, rfl⟩
  rw [hR] at HM ⊢
  clear h hR
  go_enter Tryd.func12, Tryd.ntmps12
  go_wp2_with fail
  refine (HM.out _ (by go_grown)).mono ?_
  rintro e w1 ⟨rfl, o1, v1⟩
  have O1 := Lib.hid o1
  have V1 := Lib.hid (below_tr ((Below.refl base w).alloc hbs _) v1)
  clear o1 v1 HM
  go_wp2_with fail
  go_ret
  exact ⟨rfl, O1.out, V1.out⟩
set_option maxRecDepth 100000 in
set_option maxHeartbeats 1600000 in
theorem c_heldClaimC (A : Option Addr) (c n : Nat) (es : List El) (k : Int) (w : World) (rd : RdE 2 2 w A n (mkEs k es)) (hn : n ≤ 1048576) (ht : tots es ≤ 1048576) (hfit : ∀ e ∈ es, e.is.length = 2 ∧ e.rs.length = 2) (h0 : 0 ≤ k) (h1 : k ≤ 1000000) :
    Calls Tryd.prog 29 #[.slice A n c, .int .i64 k] w fun e w' => e = .returned (.int .i64 (k + 2 * (n : Int) + (tots es : Int))) ∧ w = w' := by
  have RD := Lib.hid rd
  have HF := Lib.hid hfit
  have HT := Lib.hid ht
  have HL : Hid (es.length = n) := Lib.hid (by rw [← rd.len, mkEs_len])
  clear rd hfit
  obtain ⟨R, hR⟩ : ∃ R, Hid (k + 2 * (n : Int) + (tots es : Int) = R) := ⟨_, Lib.hid rfl⟩
  rw [hR.out]
  go_enter Tryd.func29, Tryd.ntmps29
  go_wp2_with fail
  go_loopg [1, 5] n (fun mm a i wx => ∃ (j : Nat) (x : Int), w = wx ∧ j ≤ n ∧ mm = n - j ∧ i = .int .i64 j ∧ a = .int .i64 x ∧ Hid (x = k + 2 * (j : Int) + (tots (es.take j) : Int)))
  case atStart => exact ⟨0, k, rfl, Nat.zero_le _, rfl, rfl, rfl, Lib.hid (by simp [tots])⟩
  case round =>
    obtain ⟨j, x, rfl, hj, rfl, rfl, rfl, hx⟩ := hrel
    by_cases hlt : j < n
    · have hltI : (j : Int) < (n : Int) := by omega
      obtain ⟨b, off, i1, i2, A1, c1, xs, A2, c2, ys, rfl, _, he, r1, r2, q0, q1, q2, q3⟩ := RD.out.claim hlt
      have hjl : j < es.length := by rw [HL.out]; exact hlt
      have hej : es[j]? = some es[j] := List.getElem?_eq_getElem hjl
      have hm := mkEs_at hej k
      rw [← hx.out, he] at hm
      have htk := tots_succ hej
      have hfj := HF.out es[j] (List.getElem_mem hjl)
      have htt : tots (es.take (j + 1)) ≤ 1048576 := by
        have h3 : tots (es.take (j + 1)) + tots (es.drop (j + 1)) = tots es := by rw [← tots_app, List.take_append_drop]
        have := HT.out
        omega
      generalize es[j] = e at *
      obtain ⟨is, rs⟩ := e
      obtain ⟨_, hr2⟩ := hfj
      match rs, hr2 with
      | [r, s], _ =>
        have hm := Option.some.inj hm
        simp only [mkE, El.mk.injEq, List.cons.injEq, and_true, Row.mk.injEq] at hm
        obtain ⟨⟨rfl, rfl⟩, ⟨rfl, rfl, rfl⟩, rfl, rfl, rfl⟩ := hm
        simp only [mks_len] at r1 r2 q2 q3
        generalize hn1 : r.xs.length = n1 at *
        generalize hn2 : s.xs.length = n2 at *
        have htk2 : tots (es.take (j + 1)) = tots (es.take j) + (n1 + n2) := by rw [htk]; simp [El.tot, hn1, hn2]
        have hx2 : Hid (i1 + 1 + 1 + (n1 : Int) + (n2 : Int) = k + 2 * ((j + 1 : Nat) : Int) + (tots (es.take (j + 1)) : Int)) := Lib.hid (by rw [htk2, hx.out]; push_cast; omega)
        have hx0 : 0 ≤ i1 := by have := hx.out; omega
        have hx1 : i1 ≤ 10000000 := by have := hx.out; omega
        have HE1 := Lib.hid (c_heldIntS r.A n1 r.c (i1 + 1 + 1) w (by rw [Int.add_assoc]; exact r1) (by omega) (by omega) (by omega))
        have HE2 := Lib.hid (c_heldIntS s.A n2 s.c (i1 + 1 + 1 + (n1 : Int)) w (by rw [show i1 + 1 + 1 + (n1 : Int) = i1 + 2 + (n1 : Int) by omega]; exact r2) (by omega) (by omega) (by omega))
        have z1 : ¬ i1 + 1 + 1 + (n1 : Int) < 0 := by omega
        have z2 : ¬ i1 + 1 + 1 + (n1 : Int) + (n2 : Int) < 0 := by omega
        clear he htk htk2 hej hx r1 r2 hjl hn1 hn2
        go_wp2_with fail
        refine HE1.out.mono ?_
        rintro e w' ⟨rfl, rfl⟩
        go_wp2_with fail
        refine HE2.out.mono ?_
        rintro e w' ⟨rfl, rfl⟩
        go_wp2_with fail
        go_roundg (n - (j + 1))
        case measure => omega
        case rel => exact ⟨j + 1, _, rfl, by omega, rfl, by go_num, rfl, hx2⟩
    · obtain rfl : j = n := by omega
      have hf : x = R := by rw [← hR.out, hx.out, List.take_of_length_le (by rw [HL.out]; exact Nat.le_refl _)]
      subst hf
      go_wp2_with fail
      go_ret
      exact ⟨rfl, rfl⟩
set_option maxHeartbeats 800000 in
theorem c_heldProofC (A : Option Addr) (c n : Nat) (es : List El) (k : Int) (w : World) (rd : RdE 2 2 w A n (mkEs k es)) (hn : n ≤ 1048576) (ht : tots es ≤ 1048576) (hfit : ∀ e ∈ es, e.is.length = 2 ∧ e.rs.length = 2) (h0 : 0 ≤ k) (h1 : k ≤ 1000000) :
    Calls Tryd.prog 13 #[.agg #[.slice A n c], .int .i64 k] w fun e w' => e = .returned (.int .i64 (k + 2 * (n : Int) + (tots es : Int))) ∧ Below w.heap.size w w' := by
  have HM := Lib.hid (fun W (hb : Below w.heap.size w W) => c_heldClaimC A c n es k W (rd.below hb) hn ht hfit h0 h1)
  obtain ⟨R, hR⟩ : ∃ R, k + 2 * (n : Int) + (tots es : Int) = R := ⟨_, rfl⟩
  have hR0 : ¬ R < 0 := by omega
  rw [hR] at HM ⊢
  clear rd hR
  go_enter Tryd.func13, Tryd.ntmps13
  go_wp2_with fail
  refine (HM.out _ (by go_grown)).mono ?_
  rintro e w1 ⟨rfl, rfl⟩
  clear HM
  go_wp2_with fail
  go_ret
  exact ⟨rfl, by go_grown⟩
end Go.Proofs.YtcogdogiceokdaaDoor

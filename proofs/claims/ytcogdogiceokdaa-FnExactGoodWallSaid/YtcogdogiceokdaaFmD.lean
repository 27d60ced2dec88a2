/- Slices of structs are copied: the loop's middle; forms. -/
import Derived.Test.YtcogdogiceokdaaFmC
namespace Go.Proofs.Ytcogdogiceokdaa
open Go.RowKit

theorem run_make_rows {P : Program} (t e : TypeId) (z : Value) (size bytes : Nat) (ht : P.underlying t = some (.slice e)) (hinfo : (P.info? e).map (fun i => (i.zero, i.size, i.bytes)) = some (some z, size, bytes))
    (n : Nat) (hbytes : bytes * n ≤ 281474976710656) (h63 : n ≤ 9223372036854775807) (w : World) :
    (Instr.makeSlice t (.int .i64 (n : Int)) (.int .i64 (n : Int))).run P w = .ok (.slice (some ⟨w.heap.size, 0, none⟩) n n) (w.alloc (.cells (madeCells z.cells (n * size)) e)) := by
  obtain ⟨i, hi, hzz⟩ := Option.map_eq_some_iff.1 hinfo
  simp only [Prod.mk.injEq] at hzz
  obtain ⟨hz, hs, hb⟩ := hzz
  subst hs hb
  have hb' : (i.bytes : Int) * (n : Int) ≤ 281474976710656 := by
    have h : ((i.bytes * n : Nat) : Int) ≤ 281474976710656 := by omega
    rwa [Int.natCast_mul] at h
  have hr := run_make (P := P) w t e i z ht hi hz .i64 .i64 n n (by omega) (Int.le_refl _) hb' (by omega)
  simpa using hr
theorem rowIs_new (w : World) (c : Array Value) (t : TypeId) {n : Nat} (hn : c.size = n) : (w.alloc (.cells c t)).rowIs w.heap.size t n (fun j => c.getD j undef) := by
  subst hn
  exact World.rowIs_alloc w c t _ (fun i hi => by simp [Array.getD, hi])
/-- The loop's middle: the first k structs are written. -/
structure Mid (p q : Nat) (t : TypeId) (w : World) (g n k : Nat) (es : List El) (f : Nat → Value) : Prop where
  row : w.rowIs g t (n * (p + q)) f
  said : ∀ j, j < k * (p + q) → f j = (es.flatMap El.cells).getD j undef
  len : es.length = k
  fit : ∀ e ∈ es, e.is.length = p ∧ e.rs.length = q
  rows : ∀ e ∈ es, ∀ r ∈ e.rs, r.own w (g + 1)
  apart : (es.flatMap El.rs).Pairwise fun r s => r.blk = none ∨ r.blk ≠ s.blk
theorem Mid.start {p q : Nat} {t : TypeId} {w : World} {g n : Nat} {f : Nat → Value} (h : w.rowIs g t (n * (p + q)) f) : Mid p q t w g n 0 [] f :=
  ⟨h, fun j hj => by omega, rfl, fun e he => by simp at he, fun e he => by simp at he, by simp⟩
theorem Mid.own {p q : Nat} {t : TypeId} {w : World} {g n base : Nat} {es : List El} {f : Nat → Value} (h : Mid p q t w g n n es f) (hb : base ≤ g) : OwnE p q t w base g n es :=
  ⟨hb, h.row.congr h.said, h.len, h.fit, h.rows, h.apart⟩
theorem Mid.below {p q : Nat} {t : TypeId} {w w' : World} {g n k : Nat} {es : List El} {f : Nat → Value} (h : Mid p q t w g n k es f) (hb : Below w.heap.size w w') : Mid p q t w' g n k es f :=
  ⟨h.row.of_block (hb.block g h.row.lt), h.said, h.len, h.fit, fun e he r hr => own_below (h.rows e he r hr) hb, h.apart⟩
theorem Mid.step {p q : Nat} {t : TypeId} {wz w1 w2 : World} {g n k : Nat} {es : List El} {e : El} {f f' : Nat → Value} (h : Mid p q t wz g n k es f) (b1 : Below wz.heap.size wz w1)
    (hset : ∀ base E v m us, g < base → w1.ownsRow base E 1 v m us → w2.ownsRow base E 1 v m us) (hrow : w2.rowIs g t (n * (p + q)) f')
    (hsaid : ∀ j, j < (k + 1) * (p + q) → f' j = ((es ++ [e]).flatMap El.cells).getD j undef) (hfit : e.is.length = p ∧ e.rs.length = q) (hr : ∀ r ∈ e.rs, r.own w1 wz.heap.size)
    (hap : e.rs.Pairwise fun r s => r.blk = none ∨ r.blk ≠ s.blk) : Mid p q t w2 g n (k + 1) (es ++ [e]) f' := by
  have hg := h.row.lt
  refine ⟨hrow, hsaid, by simp [h.len], ?_, ?_, ?_⟩
  · intro x hx
    rcases List.mem_append.1 hx with hx | hx
    · exact h.fit x hx
    · obtain rfl := List.mem_singleton.1 hx
      exact hfit
  · intro x hx r hrr
    rcases List.mem_append.1 hx with hx | hx
    · exact hset _ _ _ _ _ (by omega) (own_below (h.rows x hx r hrr) b1)
    · obtain rfl := List.mem_singleton.1 hx
      exact hset _ _ _ _ _ (by omega) (own_low (hr r hrr) (by omega))
  · rw [List.flatMap_append, List.pairwise_append]
    refine ⟨h.apart, by simpa using hap, fun a ha b hb => ?_⟩
    obtain ⟨x, hx, hxa⟩ := List.mem_flatMap.1 ha
    have hb' : b ∈ e.rs := by simpa using hb
    cases ea : a.blk with
    | none => exact .inl rfl
    | some i =>
      right
      intro e2
      have h1 := ((h.rows x hx a hxa).lt i ea).2
      have h2 := ((hr b hb').lt i e2.symm).1
      omega
theorem dats_step {es es' : List El} {k : Nat} {e x : El} (hd : dats es' = (dats es).take k) (he : es[k]? = some e) (hx : x.dat = e.dat) : dats (es' ++ [x]) = (dats es).take (k + 1) := by
  obtain ⟨hk, h⟩ := List.getElem?_eq_some_iff.1 he
  have hk2 : k < (dats es).length := by simpa using hk
  rw [List.take_succ_eq_append_getElem hk2, ← hd]
  unfold dats
  rw [List.map_append]
  simp [h, hx]
theorem hI_node : (Try.prog.info? 70).map (fun i => (i.zero, i.size, i.bytes)) = some (some (.agg #[.slice none 0 0, .slice none 0 0]), 2, 48) := by kernel_rfl
/-- A copy of a slice of structs. -/
def CopyP (p q : Nat) (t : TypeId) (es : List El) (w : World) (e : Ending) (w' : World) : Prop :=
  ∃ g es', e = .returned (.slice (some ⟨g, 0, none⟩) es.length es.length) ∧ OwnE p q t w' w.heap.size g es.length es' ∧ dats es' = dats es ∧ Below w.heap.size w w'
set_option maxRecDepth 100000 in
set_option maxHeartbeats 3200000 in
theorem c_toNodeS (A : Option Addr) (c : Nat) (es : List El) (w : World) (rd : RdE 0 2 w A es.length es) (hn : es.length ≤ 1048576) (hl : ∀ e ∈ es, ∀ r ∈ e.rs, r.xs.length ≤ 1048576) :
    Calls Try.prog 32 #[.slice A es.length c] w (CopyP 0 2 70 es w) := by
  have RD := Lib.hid rd
  have HL := Lib.hid hl
  clear rd hl
  obtain ⟨n, hnn⟩ : ∃ n, es.length = n := ⟨_, rfl⟩
  have HN := Lib.hid hnn
  unfold CopyP
  rw [hnn] at RD hn ⊢
  clear hnn
  have hmk := run_make_rows (P := Try.prog) 34 70 (.agg #[.slice none 0 0, .slice none 0 0]) 2 48 Try.underlying34 hI_node n (by omega) (by omega)
  go_enter Try.func32, Try.ntmps32
  go_wp2_with fail
  clear hmk
  have hrow0 := rowIs_new w (madeCells (Value.agg #[.slice none 0 0, .slice none 0 0]).cells (n * 2)) 70 (size_madeCells _ _)
  have M0 := Lib.hid (Mid.start (p := 0) (q := 2) hrow0)
  have B0 : Hid (Below w.heap.size w (w.alloc (.cells (madeCells (Value.agg #[.slice none 0 0, .slice none 0 0]).cells (n * 2)) 70))) := Lib.hid ((Below.refl _ _).alloc (Nat.le_refl _) _)
  clear hrow0
  go_loopg [4] n (fun mm i wx => ∃ (k : Nat) (es' : List El) (f : Nat → Value) (wz : World), wz = wx ∧ k ≤ n ∧ mm = n - k ∧ i = .int .i64 k ∧ Hid (Mid 0 2 70 wz w.heap.size n k es' f) ∧ Hid (dats es' = (dats es).take k) ∧ Hid (Below w.heap.size w wz))
  case atStart => exact ⟨0, [], _, _, rfl, Nat.zero_le _, rfl, rfl, M0, Lib.hid rfl, B0⟩
  case round =>
    obtain ⟨k, es', f, wz, rfl, hk, rfl, rfl, hM, hd, hb⟩ := hrel
    clear M0 B0
    by_cases hlt : k < n
    · have hltI : (k : Int) < (n : Int) := by omega
      obtain ⟨b, off, A1, d1, xs, A2, d2, ys, rfl, _, he, r1, r2, hc0, hc1⟩ := (RD.out.below hb.out).node hlt
      have hm := HL.out _ (List.mem_of_getElem? he)
      have HT := Lib.hid (c_toNode A1 A2 d1 d2 xs ys wz r1 r2 (hm ⟨A1, d1, xs⟩ (by simp)) (hm ⟨A2, d2, ys⟩ (by simp)))
      have HE := Lib.hid he
      clear he hm r1 r2
      go_wp2_with fail
      refine HT.out.mono ?_
      rintro e w1 ⟨g1, g2, rfl, gne, o1, o2, b1⟩
      have O1 := Lib.hid o1
      have O2 := Lib.hid o2
      have B1 := Lib.hid b1
      have GN := Lib.hid gne
      have hrow1 := (hM.out.below b1).row
      have hs0 := hrow1.cell (i := k * 2) (by omega)
      have hs1 := hrow1.cell (i := k * 2 + 1) (by omega)
      have hf0 := hrow1.frozen (k * 2)
      have hf1 := hrow1.frozen (k * 2 + 1)
      have HR := Lib.hid hrow1
      clear HT o1 o2 b1 gne hrow1
      go_wp2_with fail
      go_roundg (n - (k + 1))
      case measure => omega
      case rel =>
        have hlen : (es'.flatMap El.cells).length = k * 2 := by
          rw [flat_len (m := 2) (fun e he => El.cells_len (hM.out.fit e he).1 (hM.out.fit e he).2), hM.out.len]
        refine ⟨k + 1, es' ++ [⟨[], [⟨some ⟨g1, 0, none⟩, xs.length, xs⟩, ⟨some ⟨g2, 0, none⟩, ys.length, ys⟩]⟩], _, _, rfl, by omega, rfl, by go_num, Lib.hid (hM.out.step B1.out (fun base E v m us hg ho => own_set (own_set ho hg _) hg _) ((HR.out.set (k * 2) _).set (k * 2 + 1) _) ?_ ⟨rfl, rfl⟩ ?_ ?_), Lib.hid ?_, Lib.hid ?_⟩
        · intro j hj
          rw [List.flatMap_append, List.flatMap_singleton]
          show _ = (es'.flatMap El.cells ++ [Value.slice (some ⟨g1, 0, none⟩) xs.length xs.length, Value.slice (some ⟨g2, 0, none⟩) ys.length ys.length]).getD j undef
          rw [getD_two hlen]
          by_cases e1 : j = k * 2 + 1
          · simp [e1]
          · by_cases e2 : j = k * 2
            · simp [e2]
            · simp only [e1, e2, if_false]
              exact hM.out.said j (by omega)
        · intro r hr
          simp only [List.mem_cons, List.not_mem_nil, or_false] at hr
          rcases hr with rfl | rfl
          · exact O1.out
          · exact O2.out
        · simp only [List.pairwise_cons, List.mem_cons, List.not_mem_nil, or_false, forall_eq, List.Pairwise.nil, and_true]
          refine ⟨.inr fun e2 => GN.out ?_, fun _ h => by cases h⟩
          have : some g1 = some g2 := e2
          injection this
        · exact dats_step hd.out HE.out rfl
        · exact ((Below.next hb.out B1.out).setCell (Nat.le_refl _) _).setCell (Nat.le_refl _) _
    · obtain rfl : k = n := by omega
      have hdd : Hid (dats es' = dats es) := Lib.hid (by rw [hd.out, List.take_of_length_le (by simp [HN.out])])
      go_wp2_with fail
      exact bodyPost_ret (results_tmp rfl _ _ _) rfl ⟨w.heap.size, es', rfl, hM.out.own (Nat.le_refl _), hdd.out, hb.out⟩
/-- A copy of a struct of a slice of structs. -/
def CopyS (p q : Nat) (t : TypeId) (es : List El) (w : World) (e : Ending) (w' : World) : Prop :=
  ∃ g es', e = .returned (.agg #[.slice (some ⟨g, 0, none⟩) es.length es.length]) ∧ OwnE p q t w' w.heap.size g es.length es' ∧ dats es' = dats es ∧ Below w.heap.size w w'
theorem res_form {fn : Func} {s : Nat} (tmps : Array Value) (w : World) {b : Nat} {A1 : Option Addr} {n1 c1 : Nat} (h : fn.results = #[.cell s 36])
    (hp : tmps.getD s undef = .pointer (some ⟨b, 0, none⟩)) (hx : w.cell? ⟨b, 0, none⟩ = some (.slice A1 n1 c1)) :
    (results fn tmps).run Try.prog w = .ok (.agg #[.slice A1 n1 c1]) w := by
  simp only [Array.getD_eq_getD_getElem?] at hp
  simp only [results, h]
  simp [hp, go_sem, hx]
theorem own_setE {p q : Nat} {t : TypeId} {w : World} {base g n : Nat} {es : List El} (h : OwnE p q t w base g n es) {a : Addr} (hb : a.block < base) (x : Value) : OwnE p q t (w.setCell a x) base g n es := by
  have := h.low
  exact ⟨h.low, h.row.setOther (by omega) _, h.len, h.fit, fun e he r hr => own_set (h.rows e he r hr) (by omega) _, h.apart⟩
set_option maxHeartbeats 800000 in
theorem c_toForm (A : Option Addr) (c : Nat) (es : List El) (w : World) (rd : RdE 0 2 w A es.length es) (hn : es.length ≤ 1048576) (hl : ∀ e ∈ es, ∀ r ∈ e.rs, r.xs.length ≤ 1048576) :
    Calls Try.prog 13 #[.agg #[.slice A es.length c]] w (CopyS 0 2 70 es w) := by
  have HN := Lib.hid (fun W (hb : Below w.heap.size w W) => c_toNodeS A c es W (rd.below hb) hn hl)
  clear rd hl
  go_enter Try.func13, Try.ntmps13
  go_wp2_with fail
  refine (HN.out _ (by go_grown)).mono ?_
  rintro e w1 ⟨g, es', rfl, o1, d1, b1⟩
  have O1 := Lib.hid o1
  have D1 := Lib.hid d1
  have m0 : w1.cell? ⟨w.heap.size + 1, 0, none⟩ = some (.slice none 0 0) := bkeep b1 _ _ (by simp [go_sem])
  have l0 : w1.cell? ⟨w.heap.size + 1 + 1, 0, none⟩ = some (.slice none 0 0) := bkeep b1 _ _ (by simp [go_sem])
  have f0 : ∀ o, w1.frozen? ⟨w.heap.size + 1, o, none⟩ = false := fun o => ((bcell b1).2 _ _ (by simp [go_sem])).trans (by simp [go_sem])
  have f1 : ∀ o, w1.frozen? ⟨w.heap.size + 1 + 1, o, none⟩ = false := fun o => ((bcell b1).2 _ _ (by simp [go_sem])).trans (by simp [go_sem])
  have B1 : Hid (Below w.heap.size w w1) := Lib.hid (Below.next (by go_grown) b1)
  have m0s : (w1.setCell ⟨w.heap.size + 1 + 1, 0, none⟩ (.slice (some ⟨g, 0, none⟩) es.length es.length)).cell? ⟨w.heap.size + 1, 0, none⟩ = some (.slice none 0 0) := by rw [World.cell?_setCell_other _ _ _ _ (by simp)]; exact m0
  have r0 : ((w1.setCell ⟨w.heap.size + 1 + 1, 0, none⟩ (.slice (some ⟨g, 0, none⟩) es.length es.length)).setCell ⟨w.heap.size + 1, 0, none⟩ (.slice (some ⟨g, 0, none⟩) es.length es.length)).cell? ⟨w.heap.size + 1, 0, none⟩ = some (.slice (some ⟨g, 0, none⟩) es.length es.length) := World.cell?_setCell_same _ _ _ m0s
  have O2 : Hid (OwnE 0 2 70 w1 (w.heap.size + 3) g es.length es') := Lib.hid (by
    have := O1.out.low
    simp at this
    exact ⟨by omega, O1.out.row, O1.out.len, O1.out.fit, O1.out.rows, O1.out.apart⟩)
  clear O1 o1 d1 b1 HN
  go_wp2_with fail
  refine bodyPost_ret (res_form _ _ rfl rfl r0) rfl ⟨g, es', rfl, ?_, D1.out, ?_⟩
  · exact (own_setE (own_setE O2.out (show w.heap.size + 1 + 1 < w.heap.size + 3 by omega) _) (show w.heap.size + 1 < w.heap.size + 3 by omega) _).lower (by omega)
  · exact (B1.out.setCell (show w.heap.size ≤ w.heap.size + 1 + 1 by omega) _).setCell (show w.heap.size ≤ w.heap.size + 1 by omega) _
end Go.Proofs.Ytcogdogiceokdaa

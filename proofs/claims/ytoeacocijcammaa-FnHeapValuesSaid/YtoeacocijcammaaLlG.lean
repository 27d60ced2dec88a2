/- The program's sorted lists of heaps: slices.SortFunc by compareHeaps, then CompactFunc. -/
import Derived.Test.YtoeacocijcammaaLlF
namespace Go.Proofs.Ytoeacocijcammaa
open Go.RowKit

section
variable {α : Type} [Inhabited α] {enc : α → Value} {w : World} {base g c n m : Nat} {E : TypeId} {d d' : Array α} {os : Array Obj}
theorem holds_own (h : w.ownsRow base E 1 (.slice (some ⟨g, 0, none⟩) n c) n (d.toList.map enc)) : Go.Sort.Holds enc w g 0 d := by
  intro j hj
  have hl : d.size = n := by have := h.1; simp at this; omega
  rw [Nat.zero_add]
  refine ⟨?_, h.frozenAt j⟩
  rw [h.cellAt j (by omega)]
  simp [hj]
theorem heap_sortW {cur : Array Value} {fr : Nat × Nat} (hb : w.heap[g]? = some (.cells cur E fr)) : (sortWorld enc w g 0 m d os).heap[g]? = some (.cells (Go.Sort.putCells enc 0 d cur) E fr) := by
  have hg : g < w.heap.size := (Array.getElem?_eq_some_iff.1 hb).1
  unfold sortWorld
  rw [Go.Sort.heap_grow_old _ _ (by simpa using hg)]
  simp [Go.Sort.putRow, Go.Sort.mapBlock, Go.Sort.ahead, Array.getElem?_modify, hb, Go.Sort.onCells]
theorem grownBy_sortW : w.grownBy (sortWorld enc w g 0 m d os) (some g) := by
  unfold sortWorld
  refine ⟨rfl, rfl, rfl, by simp, fun k hk hne => ?_⟩
  rw [Go.Sort.heap_grow_old _ _ (by simpa using hk)]
  have : g ≠ k := fun e => hne (by rw [e])
  simp [Go.Sort.putRow, Go.Sort.mapBlock, Go.Sort.ahead, Array.getElem?_modify, this]
theorem own_sortW {us : List Value} (h : w.ownsRow base E 1 (.slice (some ⟨g, 0, none⟩) n c) n us) (hd : d.size = n) : (sortWorld enc w g 0 m d os).ownsRow base E 1 (.slice (some ⟨g, 0, none⟩) n c) n (d.toList.map enc) := by
  rcases h.2 with ⟨h', _⟩ | ⟨g', cap', cur, h', hb, hg, hnc, hcm, hcs, htake⟩
  · cases h'
  · cases h'
    refine ⟨by simp [hd], .inr ⟨g, c, _, rfl, hb, heap_sortW hg, hnc, hcm, by simp [Go.Sort.putCells, hcs], ?_⟩⟩
    rw [Nat.mul_one]
    apply List.ext_getElem?
    intro j
    by_cases hj : j < n
    · rw [List.getElem?_take_of_lt hj, Array.getElem?_toList]
      have h1 : j < d.size := by omega
      have h2 : j < cur.size := by omega
      simp [Go.Sort.putCells, h1, h2]
    · rw [List.getElem?_take_eq_none (by omega), List.getElem?_eq_none (by simp; omega)]
end
/-- A row that is read in w, and lies not in block g. -/
def Good (w : World) (g : Nat) (r : Row) : Prop := r.rd w ∧ (0 < r.xs.length → r.blk ≠ some g) ∧ r.xs.length ≤ 100000000
abbrev GRow (w : World) (g : Nat) : Type := { r : Row // Good w g r }
instance (w : World) (g : Nat) : Inhabited (GRow w g) := ⟨⟨⟨none, 0, []⟩, RdV.nil, fun h => absurd h (by decide), by decide⟩⟩
def gEnc {w : World} {g : Nat} (r : GRow w g) : Value := .slice r.1.A r.1.xs.length r.1.c
def gCmp {w : World} {g : Nat} (r s : GRow w g) : Int := cmpH r.1.xs s.1.xs
theorem gLt {w : World} {g : Nat} (r s : GRow w g) : ltOf gCmp r s = decide (LtH r.1.xs s.1.xs) := rfl
theorem gSWO (w : World) (g : Nat) : Go.Sort.SWO (ltOf (gCmp (w := w) (g := g))) where
  irrefl x := by rw [gLt]; exact decide_eq_false (LtH.irrefl _)
  trans x y z h1 h2 := by
    rw [gLt] at *
    exact decide_eq_true ((of_decide_eq_true h1).trans (of_decide_eq_true h2))
  ntrans x y z h1 h2 := by
    rw [gLt] at *
    have n1 := of_decide_eq_false h1
    have n2 := of_decide_eq_false h2
    refine decide_eq_false (fun h => ?_)
    rcases LtH.tri x.1.xs y.1.xs with h3 | h3 | h3
    · exact n1 h3
    · rw [h3] at h; exact n2 h
    · rcases LtH.tri y.1.xs z.1.xs with h4 | h4 | h4
      · exact n2 h4
      · rw [h4] at h3; exact LtH.asymm h h3
      · exact LtH.asymm h (h4.trans h3)
theorem grow_one (w : World) (o : Obj) : w.alloc o = Go.Sort.grow (w.drewN 0) #[o] := by
  rw [← World.alloc_eq]
  simp [Go.Sort.grow, World.drewN]
theorem gReads (w : World) (g : Nat) {base c n : Nat} {E : TypeId} {us : List Value} (ho : w.ownsRow base E 1 (.slice (some ⟨g, 0, none⟩) n c) n us) (size : Nat) : CmpLays1 Try.prog 77 #[] (gEnc (w := w) (g := g)) gCmp g 0 size w := by
  intro m os dk _ x y
  have rd : ∀ r : GRow w g, r.1.rd (sortWorld gEnc w g 0 m dk os) := by
    intro r
    obtain ⟨r, h1, h2, h3⟩ := r
    refine RdV.grown h1 (fun hn b off hA => ?_) grownBy_sortW
    intro e; subst e
    exact h2 hn (by unfold Row.blk Row.val; rw [hA]; rfl)
  have h := c_compareHeaps x.1.A y.1.A _ _ x.1.c y.1.c x.1.xs y.1.xs _ (rd x) (rd y) x.2.2.2 y.2.2.2
  exact h.mono fun e w' ⟨he, o, hw⟩ => ⟨he, 0, #[o], by rw [hw]; exact grow_one _ _⟩
theorem enters_cmp : ∀ args w, (callFunc 77 args).run Try.prog w = .ok (.enter 77 args) w := enters_of Try.func77 (by kernel_rfl) rfl

/-- What the sort and the compaction leave. -/
def SrtP (w : World) (base g c : Nat) (rs : List Row) (e : Ending) (w' : World) : Prop :=
  ∃ rs' : List Row, e = .returned (.slice (some ⟨g, 0, none⟩) rs'.length c) ∧ OwnL w' base (some ⟨g, 0, none⟩) c rs' ∧ nums rs' = putAll [] (nums rs) ∧ w.grownBy w' (some g) ∧ ∀ r ∈ rs', r ∈ rs
theorem c_Sort (base g c : Nat) (rs : List Row) (w : World) (h : OwnL w base (some ⟨g, 0, none⟩) c rs) (hn : rs.length ≤ 1000000) (hl : ∀ s ∈ rs, s.xs.length ≤ 100000000) :
    Calls Try.prog 76 #[.slice (some ⟨g, 0, none⟩) rs.length c, .func (.func 77) #[] #[]] w fun e w' => e = .returned (.tuple #[]) ∧
      ∃ rs' : List Row, rs'.length = rs.length ∧ rs'.Perm rs ∧ Ris (nums rs') ∧ OwnL w' base (some ⟨g, 0, none⟩) c rs' ∧ w.grownBy w' (some g) := by
  have good : ∀ r ∈ rs, Good w g r := fun r hr => ⟨(h.rows r hr).rd, fun _ e => by
    rcases h.away r hr with h1 | h1
    · rw [h1] at e; cases e
    · exact h1 (e.trans rfl), hl r hr⟩
  let ds : List (GRow w g) := rs.attachWith (Good w g) good
  have eds : ds.map Subtype.val = rs := List.attachWith_map_subtype_val good
  have hds : ds.length = rs.length := by rw [← eds]; simp
  have evs : ds.map gEnc = rs.map Row.val := by rw [← eds, List.map_map]; rfl
  have ho : w.ownsRow base 22 1 (.slice (some ⟨g, 0, none⟩) rs.length c) rs.length (ds.toArray.toList.map gEnc) := by
    rw [List.toList_toArray, evs]; exact h.outer
  have hc := Try.slices_SortFunc (gEnc (w := w) (g := g)) (fun _ => rfl) gCmp (gSWO w g) 77 #[] g 0 c ds.toArray w enters_cmp (gReads w g h.outer _) (holds_own ho) ((h.outer.lt g rfl).2) (by simp [hds]; omega)
  simp only [List.size_toArray, hds] at hc
  refine hc.mono fun e w' ⟨he, d', m, os, hp, hs, hw⟩ => ⟨he, ?_⟩
  have hd' : d'.size = rs.length := by have := hp.1; simp [hds] at this; exact this
  refine ⟨d'.toList.map Subtype.val, by simp [hd'], ?_, ?_, ?_, by rw [hw]; exact grownBy_sortW⟩
  · have := hp.2.2
    rw [show rs.length = d'.size from hd'.symm, Array.extract_size] at this
    have e3 : ds.toArray.extract 0 d'.size = ds.toArray := by rw [hd', ← hds]; simp
    rw [e3] at this
    have := this.map Subtype.val
    rwa [List.toList_toArray, eds] at this
  · unfold Ris nums
    rw [List.map_map, List.pairwise_map, List.pairwise_iff_getElem]
    intro i j hi hj hij
    have hi' : i < d'.size := by simpa using hi
    have hj' : j < d'.size := by simpa using hj
    have := hs i j (Nat.zero_le _) hij (by omega)
    rw [gLt] at this
    have := of_decide_eq_false this
    simpa [hi', hj'] using this
  · have hperm : (d'.toList.map Subtype.val).Perm rs := by
      have := hp.2.2
      rw [show rs.length = d'.size from hd'.symm, Array.extract_size] at this
      have e3 : ds.toArray.extract 0 d'.size = ds.toArray := by rw [hd', ← hds]; simp
      rw [e3] at this
      have := this.map Subtype.val
      rwa [List.toList_toArray, eds] at this
    have hlen : (d'.toList.map Subtype.val).length = rs.length := by simp [hd']
    rw [hw]
    refine ⟨?_, fun r hr => own_kept (h.rows r (hperm.mem_iff.1 hr)) grownBy_sortW (h.away r (hperm.mem_iff.1 hr)), fun r hr => h.away r (hperm.mem_iff.1 hr), ?_⟩
    · rw [hlen]
      have := own_sortW (enc := gEnc) (m := m) (os := os) (d := d') h.outer hd'
      have e4 : (d'.toList.map Subtype.val).map Row.val = d'.toList.map gEnc := by rw [List.map_map]; rfl
      rw [e4]; exact this
    · exact (hperm.pairwise_iff (fun {a b} hab => by
        rcases hab with hab | hab
        · cases e : b.blk with
          | none => exact .inl rfl
          | some k => exact .inr (by rw [hab]; simp)
        · exact .inr (fun e => hab e.symm))).2 h.apart
end Go.Proofs.Ytoeacocijcammaa

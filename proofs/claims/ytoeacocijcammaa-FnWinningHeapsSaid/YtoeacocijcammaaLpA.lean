/- Draws of codes. -/
import Derived.Test.YtoeacocijcammaaCur
import Derived.Test.YtoeacocijcammaaCurN
import Derived.Test.YtoeacocijcammaaApp
import Derived.Test.YtoeacocijcammaaMarks
import Derived.Test.YtoeacocijcammaaLlA
import Derived.Deep.DeepCutAuto
import Derived.Deep.WholeRow
import Derived.Deep.CutBlock
import Derived.Deep.LoopGhost
import Derived.StillTailTactics
namespace Go.Proofs.Ytoeacocijcammaa
open Go.RowKit

/-- append of a slice that is read to a slice of the call's own. -/
theorem app_rd {P : Program} {ops : Array Oper} {rest : List Oper} {o : Oper} {a : Act} {Q : Exit → Act → World → Prop} (w : World) (T E : TypeId) (z : Value) (bytes : Nat)
    (hT : P.underlying T = some (.slice E)) (hI : (P.info? E).map (fun i => (i.zero, i.size, i.bytes)) = some (some z, 1, bytes)) (hz : z.cells.size = 1) (hgd : o.guard = none) (s x : Operand)
    (ho : o.op = .call { callee := .builtin .append, args := #[s, x], argTypes := #[T, T] })
    (base : Nat) (g0 n c0 : Nat) (xs : List Value) (hs : a.eval s = .slice (some ⟨g0, 0, none⟩) n c0) (hown : w.ownsRow base E 1 (.slice (some ⟨g0, 0, none⟩) n c0) n xs) (b off m c : Nat) (us : List Value) (hus : us.length = m)
    (hcells : ∀ j u, us[j]? = some u → w.cell? ⟨b, off + j, none⟩ = some u) (hone : ∀ u ∈ us, u.oneCell' = true)
    (hx : a.eval x = .slice (some ⟨b, off, none⟩) m c) (hlen : n + m ≤ 100000000) (hby : bytes ≤ 1000) (hbase : base ≤ w.heap.size)
    (h : ∀ g cap w', w'.ownsRow base E 1 (.slice (some ⟨g, 0, none⟩) (n + m) cap) (n + m) (xs ++ us) → w.grownBy w' (some g0) → wpList P ops Q rest (a.put o.dst (.slice (some ⟨g, 0, none⟩) (n + m) cap)) w') :
    wpList P ops Q (o :: rest) a w := by
  obtain ⟨i, hi, hz0, hz1, hz2⟩ := info_parts hI
  refine wpList_append_own_at w hgd s x T ho base E i z 1 bytes hT hi hz0 hz1 hz2 hz (by decide) _ n xs hs hown ⟨b, off, none⟩ m c us hx (by omega) (fun j u hj => by
    have := hcells j u hj
    simp only [Addr.add]
    split
    · rename_i h0; subst h0; simpa using this
    · exact this) hone (by unfold maxLen; omega) ?_ hbase ?_
  · have : (n + m) * bytes ≤ 100000000 * 1000 := Nat.mul_le_mul hlen hby
    omega
  · intro v' w' h1 h2 h3 h4
    rcases h1.2 with ⟨he, hn⟩ | ⟨g, cap, cur, he, r⟩
    · have := (h3.1 he).1
      cases this
    · subst he
      exact h g cap w' h1 h2
theorem RdV.of_cells {w : World} {b : Nat} {t : TypeId} {us : List Value} (h : w.heap[b]? = some (.cells us.toArray t (0, 0))) : RdV w (some ⟨b, 0, none⟩) us.length us := by
  refine ⟨by simp, fun _ => ⟨b, 0, rfl, fun i u hu => ?_⟩⟩
  simp [World.cell?, h] at hu ⊢
  exact hu
theorem RdI.of_cells {w : World} {b : Nat} {t : TypeId} {xs : List Int} (h : w.heap[b]? = some (.cells (xs.map (Value.int .i64)).toArray t (0, 0))) : RdI w (some ⟨b, 0, none⟩) xs.length xs := by
  have := RdV.of_cells h
  rwa [List.length_map] at this
/-- Some lists of numbers, laid one behind the other. -/
structure Ls (w0 w : World) (N : Nat) (l : List (Nat × List Int)) : Prop where
  size : w.heap.size = N
  below : Below w0.heap.size w0 w
  rd : ∀ p ∈ l, w0.heap.size ≤ p.1 ∧ RdI w (some ⟨p.1, 0, none⟩) p.2.length p.2
theorem Ls.start (w : World) : Ls w w w.heap.size [] := ⟨rfl, Below.refl _ _, fun p hp => by simp at hp⟩
theorem Ls.add {w0 w : World} {N : Nat} {l : List (Nat × List Int)} (h : Ls w0 w N l) (ys : List Int) : Ls w0 (w.alloc (.cells (ys.map (Value.int .i64)).toArray 3)) (N + 1) (l ++ [(N, ys)]) := by
  refine ⟨by rw [← h.size]; simp, h.below.alloc h.below.size _, fun p hp => ?_⟩
  rcases List.mem_append.1 hp with hp | hp
  · exact ⟨(h.rd p hp).1, (h.rd p hp).2.below ((Below.refl _ _).alloc (Nat.le_refl _) _)⟩
  · obtain rfl := List.mem_singleton.1 hp
    rw [← h.size]
    exact ⟨h.below.size, RdI.of_cells (heap_alloc_new _ _)⟩
def litV (p : Nat × List Int) : Value := .slice (some ⟨p.1, 0, none⟩) p.2.length p.2.length
/-- A list of such lists. -/
def Kn (w0 w : World) (N K : Nat) : Prop := w0.heap.size ≤ N ∧ N < w.heap.size ∧
  ∀ k, k < K → ∃ b ys, w0.heap.size ≤ b ∧ w.cell? ⟨N, k, none⟩ = some (.slice (some ⟨b, 0, none⟩) ys.length ys.length) ∧ RdI w (some ⟨b, 0, none⟩) ys.length ys ∧ ys.length ≤ 4
theorem Ls.kn {w0 w : World} {N : Nat} {l : List (Nat × List Int)} (h : Ls w0 w N l) (h4 : ∀ p ∈ l, p.2.length ≤ 4) : Kn w0 (w.alloc (.cells (l.map litV).toArray 22)) N l.length := by
  refine ⟨by rw [← h.size]; exact h.below.size, by rw [← h.size]; simp, fun k hk => ?_⟩
  have hm : l[k] ∈ l := List.getElem_mem hk
  refine ⟨l[k].1, l[k].2, (h.rd _ hm).1, ?_, (h.rd _ hm).2.below ((Below.refl _ _).alloc (Nat.le_refl _) _), h4 _ hm⟩
  have hr : RdV (w.alloc (.cells (l.map litV).toArray 22)) (some ⟨w.heap.size, 0, none⟩) l.length (l.map litV) := by
    have := RdV.of_cells (us := l.map litV) (heap_alloc_new w (.cells (l.map litV).toArray 22))
    rwa [List.length_map] at this
  obtain ⟨_, _, e, _, hc⟩ := hr.at_ hk
  cases e
  have := hc k (litV l[k]) (by simp [hk])
  rw [Nat.zero_add, h.size] at this
  exact this
theorem Kn.grown {w0 w w' : World} {N K g : Nat} (h : Kn w0 w N K) (hg : w.grownBy w' (some g)) (hlt : g < w0.heap.size) : Kn w0 w' N K := by
  obtain ⟨h2, h3, h4⟩ := h
  refine ⟨h2, Nat.lt_of_lt_of_le h3 hg.size, fun k hk => ?_⟩
  obtain ⟨b, ys, hb, hc, hr, hl⟩ := h4 k hk
  refine ⟨b, ys, hb, (World.cell?_of_block (a := ⟨N, k, none⟩) (hg.block N h3 (fun e => by have := Option.some.inj e; omega))).trans hc, RdV.grown hr (fun _ b' off e => by cases e; omega) hg, hl⟩
theorem grown_mid {w wx w' : World} {g : Nat} {row : Option Nat} (h : w.grownBy wx (some g)) (hg : wx.grownBy w' row) (hr : ∀ k, row = some k → w.heap.size ≤ k) : w.grownBy w' (some g) :=
  ⟨hg.os.trans h.os, hg.tape.trans h.tape, hg.output.trans h.output, Nat.le_trans h.size hg.size, fun i hi hne => (hg.block i (Nat.lt_of_lt_of_le hi h.size) (fun e => by have := hr i e.symm; omega)).trans (h.block i hi hne)⟩
theorem grown_of_below {w w' : World} (row : Option Nat) (hb : Below w.heap.size w w') : w.grownBy w' row := ⟨hb.os, hb.tape, hb.output, hb.size, fun k hk _ => hb.block k hk⟩
/-- A list of the draw's own, and the cursor. -/
structure Ds (w wx : World) (g : Nat) (A : Option Addr) (n c : Nat) (bs : List Int) (M : Int) (B : Option Addr) (cap : Nat) (L : List Int) : Prop where
  own : OwnI wx w.heap.size B cap L
  cur : Cur wx g A n c bs M
  grown : w.grownBy wx (some g)
namespace Ds
variable {w wx w' : World} {g n c cap : Nat} {A B : Option Addr} {bs L : List Int} {M M' : Int}
theorem next (h : Ds w wx g A n c bs M B cap L) (hlt : g < w.heap.size) (hc : Cur w' g A n c bs M') (hg : wx.grownBy w' (some g)) : Ds w w' g A n c bs M' B cap L :=
  ⟨own_kept h.own hg (by
    cases e : (Value.slice B L.length cap).ownBlock with
    | none => exact .inl rfl
    | some k => exact .inr (fun e2 => by
        have := Option.some.inj e2
        have := (h.own.lt k e).1
        omega)), hc, grown_trans h.grown hg⟩
theorem alloc (h : Ds w wx g A n c bs M B cap L) (o : Obj) : Ds w (wx.alloc o) g A n c bs M B cap L :=
  ⟨h.own.alloc o, h.cur.below ((Below.refl _ _).alloc (Nat.le_refl _) _), grown_mid h.grown (World.grownBy_alloc wx o none) (fun k e => by cases e)⟩
theorem app (h : Ds w wx g A n c bs M B cap L) (hlt : g < w.heap.size) (hold : 0 < n → ∀ b off, A = some ⟨b, off, none⟩ → b < w.heap.size) {g' cap' : Nat} {L' : List Int}
    (h1 : OwnI w' w.heap.size (some ⟨g', 0, none⟩) cap' L') (h2 : wx.grownBy w' (Value.slice B L.length cap).ownBlock) : Ds w w' g A n c bs M (some ⟨g', 0, none⟩) cap' L' := by
  have hk : ∀ k, (Value.slice B L.length cap).ownBlock = some k → w.heap.size ≤ k := fun k e => (h.own.lt k e).1
  refine ⟨h1, ?_, grown_mid h.grown h2 hk⟩
  obtain ⟨⟨at', seed, hh, r⟩, hr, hf, hne⟩ := h.cur
  have hgx : g < wx.heap.size := Nat.lt_of_lt_of_le hlt h.grown.size
  refine ⟨⟨at', seed, (h2.block g hgx (fun e => by have := hk g e.symm; omega)).trans hh, r⟩, ⟨hr.1, fun hn => ?_⟩, hf, hne⟩
  obtain ⟨b, off, hA, hb, hc⟩ := hr.at_ hn
  have hbw := hold hn b off hA
  exact ⟨b, off, hA, fun i u hu => (World.cell?_of_block (a := ⟨b, off + i, none⟩) (h2.block b hb (fun e => by have := hk b e.symm; omega))).trans (hc i u hu)⟩
theorem nil (h : Ds w wx g A n c bs M B cap L) : Ds w wx g A n c bs M none 0 [] := ⟨⟨rfl, .inl ⟨rfl, rfl⟩⟩, h.cur, h.grown⟩
theorem lit (h : Ds w wx g A n c bs M B cap L) : Ds w (wx.alloc (.cells #[] 3)) g A n c bs M (some ⟨wx.heap.size, 0, none⟩) 0 [] :=
  ⟨own_lit0 wx 3 _ h.grown.size, h.cur.below ((Below.refl _ _).alloc (Nat.le_refl _) _), grown_mid h.grown (World.grownBy_alloc wx _ none) (fun k e => by cases e)⟩
theorem more (h : Ds w wx g A n c bs M B cap L) (hm : M ≤ M') : Ds w wx g A n c bs M' B cap L := ⟨h.own, h.cur.more hm, h.grown⟩
end Ds
theorem Cur.old {w : World} {g : Nat} {A : Option Addr} {n c : Nat} {bs : List Int} {m : Int} (h : Cur w g A n c bs m) : 0 < n → ∀ b off, A = some ⟨b, off, none⟩ → b < w.heap.size := fun h0 b off e => by
  obtain ⟨b', off', hA, hb, _⟩ := h.2.1.at_ h0
  rw [hA] at e
  injection e with e
  injection e with e1
  omega
end Go.Proofs.Ytoeacocijcammaa

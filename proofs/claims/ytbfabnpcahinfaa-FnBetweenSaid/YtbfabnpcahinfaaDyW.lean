/- Bytes that were cut: the contract of vCut. -/
import Derived.Test.YtbfabnpcahinfaaDyV
import Derived.Test.YtbfabnpcahinfaaApp
import Derived.Laws.AppendOwnNone
namespace Go.Proofs.Ytbfabnpcahinfaa
open Go.RowKit

/-- append of some cells to a new empty slice. -/
theorem app_from {P : Program} {ops : Array Oper} {rest : List Oper} {o : Oper} {a : Act} {Q : Exit → Act → World → Prop} (w : World) (T E : TypeId) (z : Value) (bytes : Nat)
    (hT : P.underlying T = some (.slice E)) (hI : (P.info? E).map (fun i => (i.zero, i.size, i.bytes)) = some (some z, 1, bytes)) (hz : z.cells.size = 1) (hgd : o.guard = none) (s x : Operand)
    (ho : o.op = .call { callee := .builtin .append, args := #[s, x], argTypes := #[T, T] })
    (ad : Addr) (m c : Nat) (us : List Value) (hus : us.length = m) (hcells : ∀ j u, us[j]? = some u → w.cell? (ad.add j) = some u) (hone : ∀ u ∈ us, u.oneCell' = true)
    (hs : a.eval s = .slice (some ⟨w.heap.size, 0, none⟩) 0 0) (hx : a.eval x = .slice (some ad) m c) (hlen : m ≤ 100000000) (hby : bytes ≤ 1000)
    (h : ∀ g' cap w', w'.ownsRow w.heap.size E 1 (.slice (some ⟨g', 0, none⟩) m cap) m us → Below w.heap.size w w' → wpList P ops Q rest (a.put o.dst (.slice (some ⟨g', 0, none⟩) m cap)) w') :
    wpList P ops Q (o :: rest) a (w.alloc (.cells #[] E)) := by
  obtain ⟨i, hi, hz0, hz1, hz2⟩ := info_parts hI
  refine wpList_append_own_at (w.alloc (.cells #[] E)) hgd s x T ho w.heap.size E i z 1 bytes hT hi hz0 hz1 hz2 hz (by decide) _ 0 [] hs (World.ownsRow_lit w #[] 0 (Nat.le_refl _) (Nat.zero_le _) rfl) ad m c us hx (by omega)
    (fun j u hj => cell_alloc (hcells j u hj) _) hone (by unfold maxLen; omega) ?_ (by simp) ?_
  · have : (0 + m) * bytes ≤ 100000000 * 1000 := Nat.mul_le_mul (by omega) hby
    omega
  · intro v' w' h1 h2 h3 h4
    rw [Nat.zero_add] at h1
    rcases h1.2 with ⟨he, hn⟩ | ⟨g', cap, cur, he, r⟩
    · have := (h3.1 he).1
      cases this
    · subst he
      refine h g' cap w' h1 ?_
      exact ((Below.refl _ _).alloc (Nat.le_refl _) _).grown h2 (by simp) (fun k hk => by have := Option.some.inj (show some w.heap.size = some k from hk); omega)
theorem hI_u8 : (Try.prog.info? 5).map (fun i => (i.zero, i.size, i.bytes)) = some (some (.int .u8 0), 1, 1) := by kernel_rfl
/-- Bytes, new. -/
def CutP (w : World) (e : Ending) (w' : World) : Prop := ∃ A n c bs, e = .returned (.slice A n c) ∧ Code8 w' A n bs ∧ Below w.heap.size w w'
theorem fits_snoc {bs : List Int} {x : Int} (h : Fits .u8 bs) (h0 : (Lit.int .u8 x).wf = true) : Fits .u8 (bs ++ [x]) := by
  intro y hy
  rcases List.mem_append.1 hy with hy | hy
  · exact h y hy
  · obtain rfl := List.mem_singleton.1 hy
    exact h0
theorem u8_one (bs : List Int) : ∀ u ∈ bs.map (Value.int .u8), u.oneCell' = true := fun u hu => by
  obtain ⟨x, _, rfl⟩ := List.mem_map.1 hu
  rfl
set_option maxHeartbeats 1000000 in
theorem c_vCut (A : Option Addr) (n c : Nat) (bs : List Int) (w : World) (hc : Code8 w A n bs) (hn : n ≤ 65536) (hcap : n ≤ c) (hnil : A = none → c = 0) :
    Calls Try.prog 42 #[.slice A n c, .int .i64 1] w (CutP w) := by
  obtain ⟨hr, hf, _⟩ := hc
  by_cases h1 : 1 ≤ n
  · obtain ⟨b, off, rfl, _, hcell⟩ := hr.at_ (k := 0) (by omega)
    have hl : bs.length = n := by have := hr.len; simpa using this
    have h2 : ¬ (n : Int) < 1 := by omega
    have hcl : ∀ j u, ((bs.drop 1).map (Value.int .u8))[j]? = some u → w.cell? ((⟨b, off + 1, none⟩ : Addr).add j) = some u := by
      intro j u hu
      have := hcell (1 + j) u (by simpa [Nat.add_comm] using hu)
      rw [← Nat.add_assoc] at this
      simp only [Addr.add]
      by_cases h0 : j = 0
      · subst h0; simpa using this
      · simpa [h0] using this
    have hfd : Fits .u8 (bs.drop 1 ++ [1]) := fits_snoc (fun x hx => hf x (List.mem_of_mem_drop hx)) (by decide)
    clear hcell hr hnil
    by_cases hc1 : c = 1
    · subst hc1
      obtain rfl : n = 1 := by omega
      have hf1 : Fits .u8 [(1 : Int)] := fun x hx => by
        obtain rfl := List.mem_singleton.1 hx
        decide
      clear hcl hfd
      go_enter Try.func42, Try.ntmps42
      go_wp2_with (at_builtin; first
        | (refine app_from _ 46 5 (.int .u8 0) 1 Try.underlying46 hI_u8 rfl rfl (.tmp 11) (.tmp 14) rfl ⟨b, off, none⟩ 0 0 [] rfl (fun j u h => by simp at h) (fun u h => by simp at h) rfl rfl (by omega) (by omega) ?_; intro g cap w1 o1 b1; have hb1 := b1.size)
        | (refine app1 _ 46 5 (.int .u8 0) 1 Try.underlying46 hI_u8 rfl rfl (.tmp 15) (.tmp 18) rfl w.heap.size _ 0 _ rfl o1 (.int .u8 1) rfl rfl (by omega) (by omega) hb1 ?_; intro g2 cap2 w2 o2 gr2 h3; refine Hid.out ?_))
      refine Lib.hid ?_
      have B2 : Below w.heap.size w w2 := b1.grown gr2 hb1 (fun k hk => by have := o1.lt g rfl; have := Option.some.inj (show some g = some k from hk); omega)
      have R2 := RdV.of_own o2
      clear o1 b1 o2 gr2 h3
      go_wp2_with fail
      exact bodyPost_ret (results_tmp rfl _ _ _) rfl ⟨_, _, _, [1], rfl, ⟨R2, hf1, by omega⟩, B2⟩
    · have hc2 : ¬ c - 1 = 0 := by omega
      have hc3 : ¬ (c : Int) - 1 = 0 := by omega
      have hc4 : (c - 1 == 0) = false := by simp; omega
      go_enter Try.func42, Try.ntmps42
      go_wp2_with (at_builtin; first
        | (refine app_from _ 46 5 (.int .u8 0) 1 Try.underlying46 hI_u8 rfl rfl (.tmp 11) (.tmp 14) rfl ⟨b, off + 1, none⟩ (n - 1) (c - 1) ((bs.drop 1).map (Value.int .u8)) (by simp; omega) hcl (u8_one _) rfl rfl (by omega) (by omega) ?_; intro g cap w1 o1 b1; have hb1 := b1.size)
        | (refine app1 _ 46 5 (.int .u8 0) 1 Try.underlying46 hI_u8 rfl rfl (.tmp 15) (.tmp 18) rfl w.heap.size _ (n - 1) _ rfl o1 (.int .u8 1) rfl rfl (by omega) (by omega) hb1 ?_; intro g2 cap2 w2 o2 gr2 h3; refine Hid.out ?_))
      refine Lib.hid ?_
      have B2 : Below w.heap.size w w2 := b1.grown gr2 hb1 (fun k hk => by have := o1.lt g rfl; have := Option.some.inj (show some g = some k from hk); omega)
      have R2 := RdV.of_own o2
      have hlen : n - 1 + 1 ≤ 65537 := by omega
      rw [show (bs.drop 1).map (Value.int .u8) ++ [Value.int .u8 1] = (bs.drop 1 ++ [1]).map (Value.int .u8) by simp] at R2
      rw [show n - 1 + 1 = n by omega] at R2 hlen
      clear o1 b1 o2 gr2 h3 hcl
      go_wp2_with fail
      exact bodyPost_ret (results_tmp rfl _ _ _) rfl ⟨_, _, _, _, rfl, ⟨R2, hfd, hlen⟩, B2⟩
  · have hn0 : n = 0 := by omega
    have hl : bs.length = n := by have := hr.len; simpa using this
    have hbs : bs = [] := by rw [hn0] at hl; exact List.eq_nil_of_length_eq_zero hl
    have hfd : Fits .u8 [(0 : Int)] := fun x hx => by
      obtain rfl := List.mem_singleton.1 hx
      decide
    subst hn0
    clear hr hf hbs hl h1
    obtain ⟨i, hi, hz0, hz1, hz2⟩ := info_parts hI_u8
    rcases A with _ | ad
    · obtain rfl := hnil rfl
      clear hnil
      have o0 := own_lit0 w 5 w.heap.size (Nat.le_refl _)
      go_enter Try.func42, Try.ntmps42
      go_wp2_with (at_builtin; first
        | (refine wpList_append_own_none (by rfl) (.tmp 11) (.tmp 14) 46 rfl w.heap.size 5 i 1 Try.underlying46 hi _ 0 [] rfl o0 rfl ?_)
        | (refine app1n _ (w.heap.size + 1) (by simp) 46 5 (.int .u8 0) 1 Try.underlying46 hI_u8 rfl rfl (.tmp 15) (.tmp 18) rfl w.heap.size _ 0 _ rfl o0 (.int .u8 0) rfl rfl (by omega) (by omega) (by simp) ?_; intro g2 cap2 w2 o2 gr2 h3; refine Hid.out ?_))
      refine Lib.hid ?_
      have B2 : Below w.heap.size w w2 := ((Below.refl _ _).alloc (Nat.le_refl _) _).grown gr2 (by simp) (fun k hk => by have := Option.some.inj (show some w.heap.size = some k from hk); omega)
      have R2 := RdV.of_own o2
      clear o0 o2 gr2 h3
      go_wp2_with fail
      exact bodyPost_ret (results_tmp rfl _ _ _) rfl ⟨_, _, _, [0], rfl, ⟨R2, hfd, by omega⟩, B2⟩
    · clear hnil
      go_enter Try.func42, Try.ntmps42
      go_wp2_with (at_builtin; first
        | (refine app_from _ 46 5 (.int .u8 0) 1 Try.underlying46 hI_u8 rfl rfl (.tmp 11) (.tmp 14) rfl ad 0 c [] rfl (fun j u h => by simp at h) (fun u h => by simp at h) rfl rfl (by omega) (by omega) ?_; intro g cap w1 o1 b1; have hb1 := b1.size)
        | (refine app1 _ 46 5 (.int .u8 0) 1 Try.underlying46 hI_u8 rfl rfl (.tmp 15) (.tmp 18) rfl w.heap.size _ 0 _ rfl o1 (.int .u8 0) rfl rfl (by omega) (by omega) hb1 ?_; intro g2 cap2 w2 o2 gr2 h3; refine Hid.out ?_))
      refine Lib.hid ?_
      have B2 : Below w.heap.size w w2 := b1.grown gr2 hb1 (fun k hk => by have := o1.lt g rfl; have := Option.some.inj (show some g = some k from hk); omega)
      have R2 := RdV.of_own o2
      clear o1 b1 o2 gr2 h3
      go_wp2_with fail
      exact bodyPost_ret (results_tmp rfl _ _ _) rfl ⟨_, _, _, [0], rfl, ⟨R2, hfd, by omega⟩, B2⟩
end Go.Proofs.Ytbfabnpcahinfaa

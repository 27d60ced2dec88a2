/- Plain facts on nim multiplication: the product by halves of the bits, its bounds, its laws (no program here). -/
namespace Go.Proofs.Ytoaknbeekflnaaa.Nim

/-- The nim product of two numbers below 2^(2^k). -/
def M : Nat → Nat → Nat → Nat
  | 0, a, b => a * b
  | k + 1, a, b =>
    ((M k (a / 2 ^ 2 ^ k ^^^ a % 2 ^ 2 ^ k) (b / 2 ^ 2 ^ k ^^^ b % 2 ^ 2 ^ k) ^^^ M k (a % 2 ^ 2 ^ k) (b % 2 ^ 2 ^ k)) * 2 ^ 2 ^ k) ^^^
      (M k (a % 2 ^ 2 ^ k) (b % 2 ^ 2 ^ k) ^^^ M k (M k (a / 2 ^ 2 ^ k) (b / 2 ^ 2 ^ k)) (2 ^ (2 ^ k - 1)))

theorem xor_mul_pow (a b n : Nat) : (a ^^^ b) * 2 ^ n = a * 2 ^ n ^^^ b * 2 ^ n := by
  rw [← Nat.shiftLeft_eq, ← Nat.shiftLeft_eq, ← Nat.shiftLeft_eq, Nat.shiftLeft_xor_distrib]

theorem two_pow_sq (k : Nat) : (2 : Nat) ^ 2 ^ (k + 1) = 2 ^ 2 ^ k * 2 ^ 2 ^ k := by
  rw [← Nat.pow_add, Nat.pow_succ]; congr 1; omega

theorem top_lt {k a : Nat} (h : a < 2 ^ 2 ^ (k + 1)) : a / 2 ^ 2 ^ k < 2 ^ 2 ^ k := by
  rw [two_pow_sq] at h
  exact Nat.div_lt_of_lt_mul h

theorem low_lt (k a : Nat) : a % 2 ^ 2 ^ k < 2 ^ 2 ^ k := Nat.mod_lt _ (Nat.two_pow_pos _)

theorem half_lt (k : Nat) : 2 ^ (2 ^ k - 1) < 2 ^ 2 ^ k :=
  Nat.pow_lt_pow_right (by omega) (by have := Nat.two_pow_pos k; omega)

theorem xlt {n a b : Nat} (ha : a < 2 ^ n) (hb : b < 2 ^ n) : a ^^^ b < 2 ^ n := Nat.xor_lt_two_pow ha hb

theorem mul_pow_lt {k a : Nat} (h : a < 2 ^ 2 ^ k) : a * 2 ^ 2 ^ k < 2 ^ 2 ^ (k + 1) := by
  rw [two_pow_sq]
  exact Nat.mul_lt_mul_of_pos_right h (Nat.two_pow_pos _)

theorem le_next (k : Nat) : 2 ^ 2 ^ k ≤ 2 ^ 2 ^ (k + 1) :=
  Nat.pow_le_pow_right (by omega) (Nat.pow_le_pow_right (by omega) (by omega))

theorem M_lt : ∀ (k a b : Nat), a < 2 ^ 2 ^ k → b < 2 ^ 2 ^ k → M k a b < 2 ^ 2 ^ k
  | 0, a, b, ha, hb => by
    simp only [Nat.pow_zero, Nat.pow_one] at ha hb ⊢
    have : a = 0 ∨ a = 1 := by omega
    rcases this with rfl | rfl <;> simp [M]; omega
  | k + 1, a, b, ha, hb => by
    have h1 := top_lt ha
    have h2 := top_lt hb
    have l1 := low_lt k a
    have l2 := low_lt k b
    unfold M
    have lo := M_lt k _ _ l1 l2
    have hi := M_lt k _ _ h1 h2
    have bo := M_lt k _ _ (xlt h1 l1) (xlt h2 l2)
    have hp := M_lt k _ _ hi (half_lt k)
    exact xlt (mul_pow_lt (xlt bo lo)) (Nat.lt_of_lt_of_le (xlt lo hp) (le_next k))

theorem M_comm : ∀ (k a b : Nat), M k a b = M k b a
  | 0, a, b => Nat.mul_comm a b
  | k + 1, a, b => by
    unfold M
    rw [M_comm k (a / 2 ^ 2 ^ k ^^^ a % 2 ^ 2 ^ k), M_comm k (a % 2 ^ 2 ^ k), M_comm k (a / 2 ^ 2 ^ k)]

theorem one_div (k : Nat) : 1 / 2 ^ 2 ^ k = 0 := Nat.div_eq_of_lt (Nat.one_lt_two_pow (by have := Nat.two_pow_pos k; omega))
theorem one_mod (k : Nat) : 1 % 2 ^ 2 ^ k = 1 := Nat.mod_eq_of_lt (Nat.one_lt_two_pow (by have := Nat.two_pow_pos k; omega))

theorem M_zero_left : ∀ (k b : Nat), M k 0 b = 0
  | 0, b => Nat.zero_mul b
  | k + 1, b => by
    unfold M
    simp [M_zero_left k]

theorem M_zero_right (k a : Nat) : M k a 0 = 0 := by rw [M_comm, M_zero_left]

theorem xor_top_low (k a : Nat) : (a / 2 ^ 2 ^ k) * 2 ^ 2 ^ k ^^^ a % 2 ^ 2 ^ k = a := by
  apply Nat.eq_of_testBit_eq
  intro i
  simp only [Nat.testBit_xor, Nat.testBit_mul_two_pow, Nat.testBit_mod_two_pow, Nat.testBit_div_two_pow]
  by_cases h : 2 ^ k ≤ i
  · simp [h, Nat.sub_add_cancel h, show ¬ i < 2 ^ k from by omega]
  · simp [h, show i < 2 ^ k from by omega]

theorem M_one_right : ∀ (k a : Nat), M k a 1 = a
  | 0, a => Nat.mul_one a
  | k + 1, a => by
    unfold M
    rw [one_div, one_mod, Nat.zero_xor, M_one_right k, M_one_right k, M_zero_right, M_zero_left, Nat.xor_zero, Nat.xor_assoc, Nat.xor_self, Nat.xor_zero]
    exact xor_top_low k a

theorem M_one_left (k a : Nat) : M k 1 a = a := by rw [M_comm, M_one_right]

theorem M_small {k a b : Nat} (h : a < 2 ∨ b < 2) : M k a b = a * b := by
  rcases h with h | h
  · have : a = 0 ∨ a = 1 := by omega
    rcases this with rfl | rfl
    · rw [M_zero_left, Nat.zero_mul]
    · rw [M_one_left, Nat.one_mul]
  · have : b = 0 ∨ b = 1 := by omega
    rcases this with rfl | rfl
    · rw [M_zero_right, Nat.mul_zero]
    · rw [M_one_right, Nat.mul_one]

theorem M_down {k a b : Nat} (ha : a < 2 ^ 2 ^ k) (hb : b < 2 ^ 2 ^ k) : M (k + 1) a b = M k a b := by
  conv => lhs; unfold M
  rw [Nat.div_eq_of_lt ha, Nat.div_eq_of_lt hb, Nat.mod_eq_of_lt ha, Nat.mod_eq_of_lt hb, Nat.zero_xor, Nat.zero_xor, Nat.xor_self, Nat.zero_mul, M_zero_left, M_zero_left, Nat.zero_xor, Nat.xor_zero]

theorem rearr (a b c d e f g h : Nat) : ((a ^^^ b) ^^^ (c ^^^ d)) ^^^ ((e ^^^ f) ^^^ (g ^^^ h)) = ((a ^^^ c) ^^^ (e ^^^ g)) ^^^ ((b ^^^ d) ^^^ (f ^^^ h)) := by ac_rfl

theorem M_xor_left : ∀ (k a b c : Nat), a < 2 ^ 2 ^ k → b < 2 ^ 2 ^ k → c < 2 ^ 2 ^ k → M k (a ^^^ b) c = M k a c ^^^ M k b c
  | 0, a, b, c, ha, hb, hc => by
    simp only [Nat.pow_zero, Nat.pow_one] at ha hb hc
    have ha : a = 0 ∨ a = 1 := by omega
    have hb : b = 0 ∨ b = 1 := by omega
    have hc : c = 0 ∨ c = 1 := by omega
    rcases ha with rfl | rfl <;> rcases hb with rfl | rfl <;> rcases hc with rfl | rfl <;> rfl
  | k + 1, a, b, c, ha, hb, hc => by
    have a1 := top_lt ha
    have b1 := top_lt hb
    have c1 := top_lt hc
    have a0 := low_lt k a
    have b0 := low_lt k b
    have c0 := low_lt k c
    conv => lhs; unfold M
    conv => rhs; unfold M
    rw [Nat.xor_div_two_pow, Nat.xor_mod_two_pow]
    rw [show (a / 2 ^ 2 ^ k ^^^ b / 2 ^ 2 ^ k) ^^^ (a % 2 ^ 2 ^ k ^^^ b % 2 ^ 2 ^ k) = (a / 2 ^ 2 ^ k ^^^ a % 2 ^ 2 ^ k) ^^^ (b / 2 ^ 2 ^ k ^^^ b % 2 ^ 2 ^ k) from by ac_rfl]
    rw [M_xor_left k _ _ _ (xlt a1 a0) (xlt b1 b0) (xlt c1 c0), M_xor_left k _ _ _ a0 b0 c0, M_xor_left k _ _ _ a1 b1 c1,
      M_xor_left k _ _ _ (M_lt k _ _ a1 c1) (M_lt k _ _ b1 c1) (half_lt k)]
    rw [show ∀ x y z t : Nat, (x ^^^ y) ^^^ (z ^^^ t) = (x ^^^ z) ^^^ (y ^^^ t) from fun x y z t => by ac_rfl]
    rw [xor_mul_pow]
    rw [show ∀ x y z t u v : Nat, (x ^^^ y) ^^^ ((z ^^^ t) ^^^ (u ^^^ v)) = (x ^^^ (z ^^^ u)) ^^^ (y ^^^ (t ^^^ v)) from fun x y z t u v => by ac_rfl]

theorem M_xor_right {k a b c : Nat} (ha : a < 2 ^ 2 ^ k) (hb : b < 2 ^ 2 ^ k) (hc : c < 2 ^ 2 ^ k) : M k c (a ^^^ b) = M k c a ^^^ M k c b := by
  rw [M_comm k c, M_xor_left k a b c ha hb hc, M_comm k a, M_comm k b]

/-- The nim product of two nimbers. -/
def nm (a b : Nat) : Nat := M 3 a b
theorem nm_lt {a b : Nat} (ha : a < 256) (hb : b < 256) : nm a b < 256 := M_lt 3 a b ha hb
theorem nm_comm (a b : Nat) : nm a b = nm b a := M_comm 3 a b
theorem nm_xl {a b c : Nat} (ha : a < 256) (hb : b < 256) (hc : c < 256) : nm (a ^^^ b) c = nm a c ^^^ nm b c := M_xor_left 3 a b c ha hb hc
theorem nm_xr {a b c : Nat} (ha : a < 256) (hb : b < 256) (hc : c < 256) : nm c (a ^^^ b) = nm c a ^^^ nm c b := M_xor_right (k := 3) ha hb hc
theorem nm_one (a : Nat) : nm a 1 = a := M_one_right 3 a
theorem one_nm (a : Nat) : nm 1 a = a := M_one_left 3 a
theorem nm_zero (a : Nat) : nm a 0 = 0 := M_zero_right 3 a
theorem zero_nm (a : Nat) : nm 0 a = 0 := M_zero_left 3 a

/-- What holds of the powers of two and of sums holds of all. -/
theorem span {P : Nat → Prop} (h0 : P 0) (hx : ∀ a b, a < 256 → b < 256 → P a → P b → P (a ^^^ b)) (hb : ∀ i < 8, P (2 ^ i)) : ∀ a < 256, P a := by
  have key : ∀ n, n ≤ 8 → ∀ a, a < 2 ^ n → P a := by
    intro n
    induction n with
    | zero => intro _ a ha; obtain rfl : a = 0 := by simp at ha; exact ha
              exact h0
    | succ n ih =>
      intro hn a ha
      have hP : (2 : Nat) ^ n ≤ 2 ^ 8 := Nat.pow_le_pow_right (by omega) (by omega)
      have hP' : (2 : Nat) ^ n < 256 := Nat.lt_of_lt_of_le (Nat.pow_lt_pow_right (by omega) (show n < 8 from by omega)) (by decide)
      by_cases h : a < 2 ^ n
      · exact ih (by omega) a h
      · have hlt : a % 2 ^ n < 2 ^ n := Nat.mod_lt _ (Nat.two_pow_pos n)
        have hd : a / 2 ^ n = 1 := by
          apply Nat.div_eq_of_lt_le <;> rw [Nat.pow_succ] at ha <;> omega
        have e : a = 2 ^ n ^^^ a % 2 ^ n := by
          have h2 := Nat.div_add_mod a (2 ^ n)
          rw [hd, Nat.mul_one] at h2
          have h3 : 2 ^ n + a % 2 ^ n = 2 ^ n ^^^ a % 2 ^ n := by
            have := Nat.two_pow_add_eq_or_of_lt hlt 1
            rw [Nat.mul_one] at this
            rw [this]
            apply Nat.eq_of_testBit_eq
            intro i
            simp only [Nat.testBit_or, Nat.testBit_xor, Nat.testBit_two_pow, Nat.testBit_mod_two_pow]
            by_cases hi : n = i
            · simp [hi]
            · simp [hi]
          omega
        rw [e]
        exact hx _ _ hP' (by omega) (hb n (by omega)) (ih (by omega) _ hlt)
  intro a ha
  exact key 8 (by omega) a ha

theorem assoc_base : ((List.range 8).all fun i => (List.range 8).all fun j => (List.range 8).all fun l => nm (nm (2 ^ i) (2 ^ j)) (2 ^ l) == nm (2 ^ i) (nm (2 ^ j) (2 ^ l))) = true := by decide +kernel

theorem nm_assoc {a b c : Nat} (ha : a < 256) (hb : b < 256) (hc : c < 256) : nm (nm a b) c = nm a (nm b c) := by
  refine span (P := fun a => nm (nm a b) c = nm a (nm b c)) (by simp [zero_nm]) ?_ ?_ a ha
  · intro x y hx hy h1 h2
    rw [nm_xl hx hy hb, nm_xl (nm_lt hx hb) (nm_lt hy hb) hc, h1, h2, nm_xl hx hy (nm_lt hb hc)]
  · intro i hi
    have hi' : 2 ^ i < 256 := Nat.lt_of_lt_of_le (Nat.pow_lt_pow_right (by omega) hi) (by decide)
    refine span (P := fun b => nm (nm (2 ^ i) b) c = nm (2 ^ i) (nm b c)) (by simp [zero_nm, nm_zero]) ?_ ?_ b hb
    · intro x y hx hy h1 h2
      rw [nm_xr hx hy hi', nm_xl (nm_lt hi' hx) (nm_lt hi' hy) hc, h1, h2, nm_xl hx hy hc, nm_xr (nm_lt hx hc) (nm_lt hy hc) hi']
    · intro j hj
      have hj' : 2 ^ j < 256 := Nat.lt_of_lt_of_le (Nat.pow_lt_pow_right (by omega) hj) (by decide)
      refine span (P := fun c => nm (nm (2 ^ i) (2 ^ j)) c = nm (2 ^ i) (nm (2 ^ j) c)) (by simp [nm_zero]) ?_ ?_ c hc
      · intro x y hx hy h1 h2
        rw [nm_xr hx hy (nm_lt hi' hj'), h1, h2, nm_xr hx hy hj', nm_xr (nm_lt hj' hx) (nm_lt hj' hy) hi']
      · intro l hl
        have := assoc_base
        simp only [List.all_eq_true, List.mem_range, beq_iff_eq] at this
        exact this i hi j hj l hl

/-- A power as the program reckons it. -/
def pw (a : Nat) : Nat → Nat
  | 0 => 1
  | n + 1 => nm (pw a n) a
theorem pw_lt {a : Nat} (ha : a < 256) : ∀ n, pw a n < 256
  | 0 => by simp [pw]
  | n + 1 => nm_lt (pw_lt ha n) ha
theorem pw_add {a : Nat} (ha : a < 256) (m : Nat) : ∀ n, pw a (m + n) = nm (pw a m) (pw a n)
  | 0 => by simp [pw, nm_one]
  | n + 1 => by
    rw [← Nat.add_assoc, pw, pw_add ha m n, pw, nm_assoc (pw_lt ha m) (pw_lt ha n) ha]
theorem pw_dbl {a : Nat} (ha : a < 256) (n : Nat) : pw a (2 * n) = nm (pw a n) (pw a n) := by rw [show 2 * n = n + n from by omega, pw_add ha]
theorem pw_mul {a b : Nat} (ha : a < 256) (hb : b < 256) : ∀ n, pw (nm a b) n = nm (pw a n) (pw b n)
  | 0 => by simp [pw, nm_one]
  | n + 1 => by
    rw [pw, pw_mul ha hb n, pw, pw, nm_assoc (pw_lt ha n) (pw_lt hb n) (nm_lt ha hb), nm_assoc (pw_lt ha n) ha (nm_lt (pw_lt hb n) hb),
      ← nm_assoc (pw_lt hb n) ha hb, ← nm_assoc ha (pw_lt hb n) hb, nm_comm (pw b n) a]

/-- x to the 255th by squares. -/
def sq (x : Nat) : Nat := nm x x
def chain (x : Nat) : Nat :=
  let x2 := sq x
  let x4 := sq x2
  let x8 := sq x4
  let x16 := sq x8
  let x32 := sq x16
  let x64 := sq x32
  let x128 := sq x64
  nm x (nm x2 (nm x4 (nm x8 (nm x16 (nm x32 (nm x64 x128))))))
theorem chain_eq {x : Nat} (hx : x < 256) : chain x = pw x 255 := by
  have h1 : pw x 1 = x := by simp [pw, one_nm]
  have e2 : sq x = pw x 2 := by rw [show 2 = 2 * 1 from rfl, pw_dbl hx, h1]; rfl
  have e4 : sq (pw x 2) = pw x 4 := by rw [show 4 = 2 * 2 from rfl, pw_dbl hx]; rfl
  have e8 : sq (pw x 4) = pw x 8 := by rw [show 8 = 2 * 4 from rfl, pw_dbl hx]; rfl
  have e16 : sq (pw x 8) = pw x 16 := by rw [show 16 = 2 * 8 from rfl, pw_dbl hx]; rfl
  have e32 : sq (pw x 16) = pw x 32 := by rw [show 32 = 2 * 16 from rfl, pw_dbl hx]; rfl
  have e64 : sq (pw x 32) = pw x 64 := by rw [show 64 = 2 * 32 from rfl, pw_dbl hx]; rfl
  have e128 : sq (pw x 64) = pw x 128 := by rw [show 128 = 2 * 64 from rfl, pw_dbl hx]; rfl
  unfold chain
  simp only [e2, e4, e8, e16, e32, e64, e128]
  rw [← pw_add hx 64 128, ← pw_add hx 32, ← pw_add hx 16, ← pw_add hx 8, ← pw_add hx 4, ← pw_add hx 2]
  conv => lhs; arg 1; rw [← h1]
  rw [← pw_add hx 1]
theorem order_base : ((List.range 256).all fun x => x == 0 || chain x == 1) = true := by decide +kernel
theorem pw_255 {x : Nat} (h0 : 0 < x) (hx : x < 256) : pw x 255 = 1 := by
  have := order_base
  simp only [List.all_eq_true, List.mem_range, Bool.or_eq_true, beq_iff_eq] at this
  rcases this x hx with h | h
  · omega
  · rw [← chain_eq hx, h]
theorem pw_one {a : Nat} : pw a 1 = a := by simp [pw, one_nm]
/-- The inverse. -/
theorem inv_right {a : Nat} (h0 : 0 < a) (ha : a < 256) : nm a (pw a 254) = 1 := by
  rw [nm_comm, ← pw_255 h0 ha]; rfl
theorem inv_only {a x : Nat} (h0 : 0 < a) (ha : a < 256) (hx : x < 256) (h : nm a x = 1) : x = pw a 254 := by
  have h1 : nm (pw a 254) (nm a x) = pw a 254 := by rw [h, nm_one]
  rw [← nm_assoc (pw_lt ha _) ha hx, nm_comm (pw a 254), inv_right h0 ha, one_nm] at h1
  exact h1
theorem pw_256 {a : Nat} (ha : a < 256) : pw a 256 = a := by
  rcases Nat.eq_zero_or_pos a with rfl | h
  · show nm (pw 0 255) 0 = 0
    rw [nm_zero]
  · show nm (pw a 255) a = a
    rw [pw_255 h ha, one_nm]
/-- The root. -/
theorem root_sq {a : Nat} (ha : a < 256) : nm (pw a 128) (pw a 128) = a := by
  rw [← pw_dbl ha, pw_256 ha]
theorem root_only {a x : Nat} (hx : x < 256) (h : nm x x = a) : x = pw a 128 := by
  rw [← h, pw_mul hx hx, ← pw_dbl hx, pw_256 hx]
end Go.Proofs.Ytoaknbeekflnaaa.Nim

/- Values of heaps: a machine that finds the values of many codes side by side, a lane for each code, and what it shows. -/
namespace Go.Proofs.Ytoeacocijcammaa.Lan
/-- Works a number out ahead of going on. -/
def frc {α : Type} (x : Nat) (k : Nat → α) : α := match Nat.add x 1 with
  | 0 => k 0
  | n + 1 => k n
theorem frc_eq {α : Type} (x : Nat) (k : Nat → α) : frc x k = k x := rfl
structure P7 where
  (a0 a1 a2 a3 a4 a5 a6 : Nat)
def P7.at (p : P7) : Nat → Nat
  | 0 => p.a0
  | 1 => p.a1
  | 2 => p.a2
  | 3 => p.a3
  | 4 => p.a4
  | 5 => p.a5
  | _ => p.a6
def lev (t w s : Nat) : Nat := Nat.lor (Nat.xor t (Nat.land t w)) (Nat.shiftLeft (Nat.land t w) s)
def pr4 (W F : Nat) (x y : P7) : Nat := lev (lev (lev (lev F (Nat.xor x.a0 y.a0) (Nat.mul 1 W)) (Nat.xor x.a1 y.a1) (Nat.mul 2 W)) (Nat.xor x.a2 y.a2) (Nat.mul 4 W)) (Nat.xor x.a3 y.a3) (Nat.mul 8 W)
def pr5 (W F : Nat) (x y : P7) : Nat := lev (pr4 W F x y) (Nat.xor x.a4 y.a4) (Nat.mul 16 W)
def pr6 (W F : Nat) (x y : P7) : Nat := lev (pr5 W F x y) (Nat.xor x.a5 y.a5) (Nat.mul 32 W)
def pr7 (W F : Nat) (x y : P7) : Nat := lev (pr6 W F x y) (Nat.xor x.a6 y.a6) (Nat.mul 64 W)
structure Ent where
  pl : P7
  g1 : Nat
  g2 : Nat
  g4 : Nat
def sums (pr : P7 → P7 → Nat) : Nat → List Ent → List Ent → Nat → Nat
  | 0, _, _, S => S
  | n + 1, xs, ys, S => match xs with
    | [] => S
    | x :: xs => match ys with
      | [] => S
      | y :: ys => frc (Nat.lor S (pr x.pl y.pl)) fun S => sums pr n xs ys S
def revN : Nat → List Ent → List Ent → List Ent
  | 0, _, acc => acc
  | n + 1, l, acc => match l with
    | [] => acc
    | x :: l => revN n l (x :: acc)
structure Dig where
  d1 : Nat
  d2 : Nat
  d4 : Nat
def tab : List Dig → List Ent → Nat → Nat
  | [], _, T => T
  | d :: ds, es, T => match es with
    | [] => T
    | e :: es => frc (Nat.lor T (Nat.lor (Nat.land d.d1 e.g1) (Nat.lor (Nat.land d.d2 e.g2) (Nat.land d.d4 e.g4)))) fun T => tab ds es T
def ones (W q : Nat) : Nat := Nat.sub (Nat.pow 2 (Nat.mul (Nat.pow 2 q) W)) 1
def scan (W T : Nat) : Nat → Nat
  | 0 => T
  | q + 1 => frc (scan W T q) fun Q => Nat.land Q (Nat.lor (Nat.shiftLeft Q (Nat.mul (Nat.pow 2 q) W)) (ones W q))
def fold (W : Nat) : Nat → Nat → Nat
  | 0, t => t
  | q + 1, t => frc (Nat.lor t (Nat.shiftRight t (Nat.mul (Nat.pow 2 q) W))) fun t => fold W q t
def rep (W t : Nat) : Nat → Nat
  | 0 => t
  | q + 1 => frc (rep W t q) fun t => Nat.lor t (Nat.shiftLeft t (Nat.mul (Nat.pow 2 q) W))
/-- What sets the numbers apart in the lanes 0 .. 63, which stand for no code. -/
def tag (n : Nat) : Nat := Nat.mod n 18446744073709551616
def plane (W F q O n i b : Nat) : Nat :=
  frc (Nat.lor (Nat.land O b) (tag (Nat.shiftLeft (Nat.add (Nat.mul n 8) i) 16))) fun t => frc (Nat.land (fold W q t) F) fun t => rep W t i
def planes {α : Type} (W F q O n : Nat) (B : P7) (k : P7 → α) : α :=
  frc (plane W F q O n 0 B.a0) fun r0 => frc (plane W F q O n 1 B.a1) fun r1 => frc (plane W F q O n 2 B.a2) fun r2 => frc (plane W F q O n 3 B.a3) fun r3 =>
  frc (plane W F q O n 4 B.a4) fun r4 => frc (plane W F q O n 5 B.a5) fun r5 => frc (plane W F q O n 6 B.a6) fun r6 => k ⟨r0, r1, r2, r3, r4, r5, r6⟩
def run (pr : P7 → P7 → Nat) (W F q X : Nat) (B : P7) (D : List Dig) : Nat → Nat → List Ent → Nat → Nat
  | 0, _, _, fl => fl
  | fuel + 1, n, st, fl =>
    frc (tab D st (tag n)) fun T =>
    frc (Nat.lor (Nat.shiftLeft (scan W T q) (Nat.mul 1 W)) F) fun E =>
    frc (Nat.xor E (Nat.land E T)) fun O =>
    planes W F q O n B fun pl =>
    frc (Nat.sub n 1) fun n1 =>
    frc (sums pr (Nat.div n 2) st (revN n1 st []) (tag n)) fun S =>
    frc (Nat.lor fl (Nat.shiftRight O X)) fun fl =>
    frc (Nat.add n 1) fun n =>
    run pr W F q X B D fuel n (⟨pl, 0, O, S⟩ :: st) fl
/-- Bit i of the lane's number, 2^n lanes. -/
def pat (i : Nat) : Nat → Nat
  | 0 => 0
  | n + 1 => if i = n then Nat.shiftLeft (2 ^ 2 ^ n - 1) (2 ^ n) else frc (pat i n) fun p => Nat.lor p (Nat.shiftLeft p (2 ^ n))
/-- The tables below 2^n whose number has bit i. -/
def bmask (W i : Nat) : Nat → Nat
  | 0 => 0
  | n + 1 => if i = n then Nat.shiftLeft (ones W n) (Nat.mul (Nat.pow 2 n) W) else frc (bmask W i n) fun p => Nat.lor p (Nat.shiftLeft p (Nat.mul (Nat.pow 2 n) W))
def forceD {α : Type} : List Dig → (List Dig → α) → α
  | [], k => k []
  | x :: xs, k => frc x.d1 fun a => frc x.d2 fun b => frc x.d4 fun c => forceD xs fun xs => k (⟨a, b, c⟩ :: xs)
def forceP {α : Type} (p : P7) (k : P7 → α) : α :=
  frc p.a0 fun a0 => frc p.a1 fun a1 => frc p.a2 fun a2 => frc p.a3 fun a3 => frc p.a4 fun a4 => frc p.a5 fun a5 => frc p.a6 fun a6 => k ⟨a0, a1, a2, a3, a4, a5, a6⟩
/-- The bits of a code that the lane tells: those that are not fixed. -/
def free (fx : List (Nat × Bool)) : List Nat := (List.range 18).filter fun i => (fx.lookup i).isNone
/-- Bit i of the code: fixed, or told by the lane. -/
def bitP (F n : Nat) (fx : List (Nat × Bool)) (i : Nat) : Nat := match fx.lookup i with
  | some b => if b then F else 0
  | none => Nat.shiftLeft (pat ((free fx).idxOf i) n) 64
def digs (W F q n : Nat) (fx : List (Nat × Bool)) : List Dig := (List.range 6).map fun k =>
  ⟨rep W (bitP F n fx (3 * k)) q, rep W (bitP F n fx (3 * k + 1)) q, rep W (bitP F n fx (3 * k + 2)) q⟩
/-- The lanes whose code has a value of 2^q or more at a heap to hs. -/
def go (pr : Nat → Nat → P7 → P7 → Nat) (fx : List (Nat × Bool)) (q hs : Nat) : Nat :=
  frc (free fx).length fun n => frc (2 ^ n + 64) fun W => frc (2 ^ W - 1) fun F => frc (Nat.mul (Nat.pow 2 q) W) fun X =>
  forceP ⟨bmask W 0 q, bmask W 1 q, bmask W 2 q, bmask W 3 q, bmask W 4 q, bmask W 5 q, bmask W 6 q⟩ fun B => forceD (digs W F q n fx) fun D =>
  run (pr W F) W F q X B D hs 1 [⟨⟨0, 0, 0, 0, 0, 0, 0⟩, F, 0, 0⟩] 0
end Go.Proofs.Ytoeacocijcammaa.Lan

/- The field of 256 elements in plain Lean: the product bit by bit, its laws, polynomials as lists of coefficients, how many zeros one has, and the polynomial through points. -/
namespace Go.Proofs.Ytmnnhmbolbepcaa.Gf

/-! ## The product -/

/-- the double of an element -/
def dbl (a : UInt8) : UInt8 := (a <<< 1) ^^^ ((a >>> 7) * 29)

/-- the loop of the product: what has been gathered, the element doubled, the bits that are left -/
def mulGo : Nat → UInt8 → UInt8 → UInt8 → UInt8
  | 0, out, _, _ => out
  | n + 1, out, a, b => mulGo n (if b &&& 1 = 1 then out ^^^ a else out) (dbl a) (b >>> 1)

def mul (a b : UInt8) : UInt8 := mulGo 8 0 a b

/-- the same as a sum -/
def mulR : Nat → UInt8 → UInt8 → UInt8
  | 0, _, _ => 0
  | n + 1, a, b => (if b &&& 1 = 1 then a else 0) ^^^ mulR n (dbl a) (b >>> 1)

theorem x_comm (a b : UInt8) : a ^^^ b = b ^^^ a := UInt8.xor_comm a b
theorem x_assoc (a b c : UInt8) : a ^^^ b ^^^ c = a ^^^ (b ^^^ c) := UInt8.xor_assoc a b c
theorem x_self (a : UInt8) : a ^^^ a = 0 := UInt8.xor_self
theorem x_zero (a : UInt8) : a ^^^ 0 = a := UInt8.xor_zero
theorem zero_x (a : UInt8) : 0 ^^^ a = a := UInt8.zero_xor
instance : Std.Associative (α := UInt8) (fun a b => a ^^^ b) := ⟨x_assoc⟩
instance : Std.Commutative (α := UInt8) (fun a b => a ^^^ b) := ⟨x_comm⟩

theorem x_left (a b c : UInt8) : a ^^^ (b ^^^ c) = b ^^^ (a ^^^ c) := by rw [← x_assoc, x_comm a b, x_assoc]
theorem x_four (a b c d : UInt8) : (a ^^^ b) ^^^ (c ^^^ d) = (a ^^^ c) ^^^ (b ^^^ d) := by rw [x_assoc, x_assoc, x_left b c d]
theorem x_can (a b : UInt8) : a ^^^ (a ^^^ b) = b := by rw [← x_assoc, x_self, zero_x]
theorem x_can' (a b : UInt8) : (a ^^^ b) ^^^ b = a := by rw [x_assoc, x_self, x_zero]
theorem x_eq_zero {a b : UInt8} : a ^^^ b = 0 ↔ a = b := by
  constructor
  · intro h; have := x_can' a b; rw [h, zero_x] at this; exact this.symm
  · rintro rfl; exact x_self _
theorem x_inj {a b c : UInt8} (h : a ^^^ c = b ^^^ c) : a = b := by rw [← x_can' a c, h, x_can']
theorem x_inj_left {a b c : UInt8} (h : c ^^^ a = c ^^^ b) : a = b := by rw [← x_can c a, h, x_can]

theorem mulGo_eq (n : Nat) : ∀ (o a b : UInt8), mulGo n o a b = o ^^^ mulR n a b := by
  induction n with
  | zero => intro o a b; simp [mulGo, mulR]
  | succ n ih =>
    intro o a b
    rw [mulGo, mulR, ih]
    by_cases h : b &&& 1 = 1
    · rw [if_pos h, if_pos h, x_assoc]
    · rw [if_neg h, if_neg h, zero_x]

theorem mul_eq (a b : UInt8) : mul a b = mulR 8 a b := by rw [mul, mulGo_eq, zero_x]

/-- every element is told by a check of 256 numbers -/
theorem all256 {P : UInt8 → Prop} [DecidablePred P] (h : ∀ i : Fin 256, P (UInt8.ofFin i)) : ∀ a, P a := fun a => h a.toFin

/-- the bits of an element -/
theorem bits8 : ∀ a : UInt8, a = (a &&& 1) ^^^ (a &&& 2) ^^^ (a &&& 4) ^^^ (a &&& 8) ^^^ (a &&& 16) ^^^ (a &&& 32) ^^^ (a &&& 64) ^^^ (a &&& 128) :=
  all256 (by decide +kernel)

theorem bit_or (a : UInt8) : (a &&& 1 = 0 ∨ a &&& 1 = 1) ∧ (a &&& 2 = 0 ∨ a &&& 2 = 2) ∧ (a &&& 4 = 0 ∨ a &&& 4 = 4) ∧ (a &&& 8 = 0 ∨ a &&& 8 = 8) ∧
    (a &&& 16 = 0 ∨ a &&& 16 = 16) ∧ (a &&& 32 = 0 ∨ a &&& 32 = 32) ∧ (a &&& 64 = 0 ∨ a &&& 64 = 64) ∧ (a &&& 128 = 0 ∨ a &&& 128 = 128) := by
  revert a; exact all256 (by decide +kernel)

def basis : List UInt8 := [1, 2, 4, 8, 16, 32, 64, 128]

/-- what holds of 0, of sums and of the eight powers holds of each element -/
theorem span {P : UInt8 → Prop} (h0 : P 0) (hx : ∀ a b, P a → P b → P (a ^^^ b)) (hb : ∀ a, a ∈ basis → P a) (a : UInt8) : P a := by
  rw [bits8 a]
  obtain ⟨h1, h2, h3, h4, h5, h6, h7, h8⟩ := bit_or a
  have pick : ∀ {z b : UInt8}, b ∈ basis → (z = 0 ∨ z = b) → P z := by
    rintro z b hm (rfl | rfl)
    · exact h0
    · exact hb _ hm
  refine hx _ _ (hx _ _ (hx _ _ (hx _ _ (hx _ _ (hx _ _ (hx _ _ ?_ ?_) ?_) ?_) ?_) ?_) ?_) ?_
  · exact pick (b := 1) (by decide) h1
  · exact pick (b := 2) (by decide) h2
  · exact pick (b := 4) (by decide) h3
  · exact pick (b := 8) (by decide) h4
  · exact pick (b := 16) (by decide) h5
  · exact pick (b := 32) (by decide) h6
  · exact pick (b := 64) (by decide) h7
  · exact pick (b := 128) (by decide) h8

theorem top_or (a : UInt8) : a >>> 7 = 0 ∨ a >>> 7 = 1 := by revert a; exact all256 (by decide +kernel)

theorem dbl_x (a b : UInt8) : dbl (a ^^^ b) = dbl a ^^^ dbl b := by
  unfold dbl
  rw [UInt8.shiftLeft_xor, UInt8.shiftRight_xor, x_four]
  congr 1
  rcases top_or a with h | h <;> rcases top_or b with h' | h' <;> rw [h, h'] <;> decide

theorem low_or (a : UInt8) : a &&& 1 = 0 ∨ a &&& 1 = 1 := (bit_or a).1

theorem low_x (a b : UInt8) : (a ^^^ b) &&& 1 = (a &&& 1) ^^^ (b &&& 1) := by
  apply UInt8.toNat_inj.1
  simp only [UInt8.toNat_and, UInt8.toNat_xor]
  exact Nat.and_xor_distrib_right

theorem mulR_x_left (n : Nat) : ∀ (a a' b : UInt8), mulR n (a ^^^ a') b = mulR n a b ^^^ mulR n a' b := by
  induction n with
  | zero => intro a a' b; simp [mulR]
  | succ n ih =>
    intro a a' b
    rw [mulR, mulR, mulR, dbl_x, ih, x_four]
    congr 1
    by_cases h : b &&& 1 = 1 <;> simp [h]

theorem mulR_x_right (n : Nat) : ∀ (a b b' : UInt8), mulR n a (b ^^^ b') = mulR n a b ^^^ mulR n a b' := by
  induction n with
  | zero => intro a b b'; simp [mulR]
  | succ n ih =>
    intro a b b'
    rw [mulR, mulR, mulR, UInt8.shiftRight_xor, ih, x_four]
    congr 1
    have e : (b ^^^ b') &&& 1 = (b &&& 1) ^^^ (b' &&& 1) := low_x b b'
    rw [e]
    rcases low_or b with h | h <;> rcases low_or b' with h' | h' <;> rw [h, h'] <;> simp

theorem mul_x_left (a a' b : UInt8) : mul (a ^^^ a') b = mul a b ^^^ mul a' b := by simp only [mul_eq, mulR_x_left]
theorem mul_x_right (a b b' : UInt8) : mul a (b ^^^ b') = mul a b ^^^ mul a b' := by simp only [mul_eq, mulR_x_right]
theorem mul_zero (a : UInt8) : mul a 0 = 0 := by have := mul_x_right a 0 0; rw [x_self, x_self] at this; exact this
theorem zero_mul (a : UInt8) : mul 0 a = 0 := by have := mul_x_left 0 0 a; rw [x_self, x_self] at this; exact this

theorem comm_basis : ∀ a ∈ basis, ∀ b ∈ basis, mul a b = mul b a := by decide +kernel
theorem assoc_basis : ∀ a ∈ basis, ∀ b ∈ basis, ∀ c ∈ basis, mul (mul a b) c = mul a (mul b c) := by decide +kernel

theorem mul_comm (a b : UInt8) : mul a b = mul b a := by
  refine span (P := fun a => mul a b = mul b a) (by rw [mul_zero, zero_mul]) (fun x y hx hy => by rw [mul_x_left, mul_x_right, hx, hy]) (fun a ha => ?_) a
  exact span (P := fun b => mul a b = mul b a) (by rw [mul_zero, zero_mul]) (fun x y hx hy => by rw [mul_x_left, mul_x_right, hx, hy]) (fun b hb => comm_basis a ha b hb) b

theorem mul_assoc (a b c : UInt8) : mul (mul a b) c = mul a (mul b c) := by
  refine span (P := fun a => mul (mul a b) c = mul a (mul b c)) (by simp only [zero_mul]) (fun x y hx hy => by simp only [mul_x_left, hx, hy]) (fun a ha => ?_) a
  refine span (P := fun b => mul (mul a b) c = mul a (mul b c)) (by simp only [zero_mul, mul_zero]) (fun x y hx hy => by simp only [mul_x_left, mul_x_right, hx, hy]) (fun b hb => ?_) b
  exact span (P := fun c => mul (mul a b) c = mul a (mul b c)) (by simp only [mul_zero]) (fun x y hx hy => by simp only [mul_x_right, hx, hy]) (fun c hc => assoc_basis a ha b hb c hc) c

instance : Std.Associative mul := ⟨mul_assoc⟩
instance : Std.Commutative mul := ⟨mul_comm⟩

theorem mul_one (a : UInt8) : mul a 1 = a := by revert a; exact all256 (by decide +kernel)
theorem one_mul (a : UInt8) : mul 1 a = a := by rw [mul_comm, mul_one]

/-! ## What gives 1 -/

/-- the loop of the power 254 -/
def invGo : Nat → UInt8 → UInt8 → UInt8
  | 0, out, _ => out
  | n + 1, out, a => invGo n (mul out (mul a a)) (mul a a)

def inv (a : UInt8) : UInt8 := invGo 7 1 a

theorem mul_inv_all : ∀ a : UInt8, a = 0 ∨ mul a (inv a) = 1 := all256 (by decide +kernel)
theorem inv_zero : inv 0 = 0 := by decide +kernel
theorem mul_inv {a : UInt8} (h : a ≠ 0) : mul a (inv a) = 1 := (mul_inv_all a).resolve_left h
theorem inv_mul {a : UInt8} (h : a ≠ 0) : mul (inv a) a = 1 := by rw [mul_comm, mul_inv h]

theorem mul_eq_zero {a b : UInt8} (h : mul a b = 0) : a = 0 ∨ b = 0 := by
  by_cases ha : a = 0
  · exact .inl ha
  · right
    have : mul (inv a) (mul a b) = 0 := by rw [h, mul_zero]
    rwa [← mul_assoc, inv_mul ha, one_mul] at this
theorem mul_ne_zero {a b : UInt8} (ha : a ≠ 0) (hb : b ≠ 0) : mul a b ≠ 0 := fun h => (mul_eq_zero h).elim ha hb
theorem one_ne : (1 : UInt8) ≠ 0 := by decide
theorem inv_ne {a : UInt8} (h : a ≠ 0) : inv a ≠ 0 := fun e => by have := mul_inv h; rw [e, mul_zero] at this; exact one_ne this.symm
theorem inv_of {a b : UInt8} (h : mul a b = 1) : b = inv a := by
  have ha : a ≠ 0 := by rintro rfl; rw [zero_mul] at h; exact one_ne h.symm
  calc b = mul (mul (inv a) a) b := by rw [inv_mul ha, one_mul]
    _ = inv a := by rw [mul_assoc, h, mul_one]
theorem inv_inv (a : UInt8) : inv (inv a) = a := by
  by_cases h : a = 0
  · subst h; rw [inv_zero, inv_zero]
  · exact (inv_of (inv_mul h)).symm
theorem mul_can {a b c : UInt8} (ha : a ≠ 0) (h : mul a b = mul a c) : b = c := by
  have : mul a (b ^^^ c) = 0 := by rw [mul_x_right, h, x_self]
  exact x_eq_zero.1 ((mul_eq_zero this).resolve_left ha)

/-! ## Polynomials -/

def eval : List UInt8 → UInt8 → UInt8
  | [], _ => 0
  | c :: l, x => c ^^^ mul x (eval l x)

theorem eval_nil (x : UInt8) : eval [] x = 0 := rfl
theorem eval_cons (c : UInt8) (l : List UInt8) (x : UInt8) : eval (c :: l) x = c ^^^ mul x (eval l x) := rfl

/-- the quotient by (x + r), of what stands behind the first coefficient -/
def quot (r : UInt8) : List UInt8 → List UInt8
  | [] => []
  | d :: l => eval (d :: l) r :: quot r l

theorem quot_length (r : UInt8) (l : List UInt8) : (quot r l).length = l.length := by
  induction l with
  | nil => rfl
  | cons d l ih => simp [quot, ih]

theorem eval_quot (r x : UInt8) (l : List UInt8) : mul x (eval l x) ^^^ mul r (eval l r) = mul (x ^^^ r) (eval (quot r l) x) := by
  induction l with
  | nil => simp [eval, quot, mul_zero]
  | cons d l ih =>
    rw [quot, eval_cons (eval (d :: l) r), mul_x_right, ← mul_assoc (x ^^^ r) x, mul_comm (x ^^^ r) x, mul_assoc x, ← ih, eval_cons, eval_cons]
    simp only [mul_x_right, mul_x_left]
    generalize mul x (mul x (eval l x)) = A
    generalize mul x (mul r (eval l r)) = B
    generalize mul r (mul r (eval l r)) = C
    generalize mul x d = D
    generalize mul r d = E
    calc D ^^^ A ^^^ (E ^^^ C) = D ^^^ A ^^^ (E ^^^ C) ^^^ (B ^^^ B) := by rw [x_self, x_zero]
      _ = _ := by ac_rfl

theorem quot_zero (r : UInt8) (l : List UInt8) (h : ∀ c ∈ quot r l, c = 0) : (∀ c ∈ l, c = 0) ∧ eval l r = 0 := by
  induction l with
  | nil => exact ⟨by simp, rfl⟩
  | cons d l ih =>
    have h1 := h (eval (d :: l) r) (by simp [quot])
    obtain ⟨hl, hr⟩ := ih (fun c hc => h c (by simp [quot, hc]))
    refine ⟨?_, h1⟩
    have hd : d = 0 := by rw [eval_cons, hr, mul_zero, x_zero] at h1; exact h1
    intro c hc
    rcases List.mem_cons.1 hc with e | hc
    · rw [e, hd]
    · exact hl c hc

/-- a polynomial that is 0 at as many places as it has coefficients has zeros for coefficients -/
theorem roots (n : Nat) : ∀ (l rs : List UInt8), l.length = n → rs.length = n → rs.Nodup → (∀ r ∈ rs, eval l r = 0) → ∀ c ∈ l, c = 0 := by
  induction n with
  | zero => intro l rs hl _ _ _ c hc; rw [List.length_eq_zero_iff.1 hl] at hc; simp at hc
  | succ n ih =>
    intro l rs hl hr hn hz
    match l, rs, hl, hr with
    | c :: l, r :: rs, hl, hr =>
      have hr0 := hz r (by simp)
      have hq : ∀ y ∈ quot r l, y = 0 := by
        refine ih (quot r l) rs (by rw [quot_length]; simpa using hl) (by simpa using hr) (List.nodup_cons.1 hn).2 ?_
        intro s hs
        have hs0 := hz s (by simp [hs])
        have hne : s ^^^ r ≠ 0 := fun e => by rw [x_eq_zero.1 e] at hs; exact (List.nodup_cons.1 hn).1 hs
        have e := eval_quot r s l
        have e2 : mul s (eval l s) ^^^ mul r (eval l r) = 0 := by
          rw [eval_cons] at hs0 hr0
          rw [← x_eq_zero.1 hs0, ← x_eq_zero.1 hr0, x_self]
        rw [e2] at e
        exact (mul_eq_zero e.symm).resolve_left hne
      obtain ⟨h1, h2⟩ := quot_zero r l hq
      rw [eval_cons, h2, mul_zero, x_zero] at hr0
      intro y hy
      rcases List.mem_cons.1 hy with e | hy
      · rw [e, hr0]
      · exact h1 y hy

theorem eval_zeros (l : List UInt8) (x : UInt8) (h : ∀ c ∈ l, c = 0) : eval l x = 0 := by
  induction l with
  | nil => rfl
  | cons c l ih => rw [eval_cons, ih (fun y hy => h y (by simp [hy])), h c (by simp), mul_zero, x_self]

/-- the sum of two of one length -/
def add : List UInt8 → List UInt8 → List UInt8
  | a :: l, b :: m => (a ^^^ b) :: add l m
  | _, _ => []

theorem add_length : ∀ (l m : List UInt8), l.length = m.length → (add l m).length = l.length
  | [], [], _ => rfl
  | a :: l, b :: m, h => by simp [add, add_length l m (by simpa using h)]

theorem eval_add (x : UInt8) : ∀ (l m : List UInt8), l.length = m.length → eval (add l m) x = eval l x ^^^ eval m x
  | [], [], _ => by simp [add, eval]
  | a :: l, b :: m, h => by
    rw [add, eval_cons, eval_cons, eval_cons, eval_add x l m (by simpa using h), mul_x_right, x_four]

theorem add_zero_eq : ∀ (l m : List UInt8), l.length = m.length → (∀ c ∈ add l m, c = 0) → l = m
  | [], [], _, _ => rfl
  | a :: l, b :: m, h, hz => by
    have h1 := x_eq_zero.1 (hz (a ^^^ b) (by simp [add]))
    rw [h1, add_zero_eq l m (by simpa using h) (fun c hc => hz c (by simp [add, hc]))]

/-- a function that is a polynomial of n coefficients -/
def Poly (n : Nat) (f : UInt8 → UInt8) : Prop := ∃ l : List UInt8, l.length = n ∧ ∀ x, f x = eval l x

theorem Poly.add {n : Nat} {f g : UInt8 → UInt8} (hf : Poly n f) (hg : Poly n g) : Poly n (fun x => f x ^^^ g x) := by
  obtain ⟨l, hl, el⟩ := hf
  obtain ⟨m, hm, em⟩ := hg
  exact ⟨Gf.add l m, by rw [add_length l m (by omega), hl], fun x => by show f x ^^^ g x = _; rw [eval_add x l m (by omega), el, em]⟩

def scale (c : UInt8) (l : List UInt8) : List UInt8 := l.map (mul c)
theorem eval_scale (c x : UInt8) (l : List UInt8) : eval (scale c l) x = mul c (eval l x) := by
  induction l with
  | nil => simp [scale, eval, mul_zero]
  | cons d l ih =>
    show mul c d ^^^ mul x (eval (scale c l) x) = mul c (d ^^^ mul x (eval l x))
    rw [ih, mul_x_right]; congr 1; ac_rfl

theorem Poly.scale {n : Nat} {f : UInt8 → UInt8} (c : UInt8) (hf : Poly n f) : Poly n (fun x => mul (f x) c) := by
  obtain ⟨l, hl, el⟩ := hf
  exact ⟨Gf.scale c l, by simp [Gf.scale, hl], fun x => by show mul (f x) c = _; rw [eval_scale, el, mul_comm]⟩

theorem eval_append_zero (l : List UInt8) (x : UInt8) : eval (l ++ [0]) x = eval l x := by
  induction l with
  | nil => rw [List.nil_append, eval_cons, eval_nil, mul_zero, x_self]
  | cons c l ih => rw [List.cons_append, eval_cons, eval_cons, ih]

theorem Poly.up {n : Nat} {f : UInt8 → UInt8} (hf : Poly n f) : Poly (n + 1) f := by
  obtain ⟨l, hl, el⟩ := hf
  exact ⟨l ++ [0], by simp [hl], fun x => by rw [eval_append_zero, el]⟩

theorem Poly.shift {n : Nat} {f : UInt8 → UInt8} (hf : Poly n f) : Poly (n + 1) (fun x => mul x (f x)) := by
  obtain ⟨l, hl, el⟩ := hf
  exact ⟨0 :: l, by simp [hl], fun x => by show mul x (f x) = _; rw [eval_cons, zero_x, el]⟩

theorem Poly.linear {n : Nat} {f : UInt8 → UInt8} (r : UInt8) (hf : Poly n f) : Poly (n + 1) (fun x => mul (f x) (x ^^^ r)) := by
  have h1 := hf.shift
  have h2 := (hf.scale r).up
  obtain ⟨l, hl, el⟩ := h1.add h2
  exact ⟨l, hl, fun x => by rw [← el]; show mul (f x) (x ^^^ r) = mul x (f x) ^^^ mul (f x) r; rw [mul_x_right, mul_comm x (f x)]⟩

theorem Poly.zero (n : Nat) : Poly n (fun _ => 0) := by
  refine ⟨List.replicate n 0, by simp, fun x => (eval_zeros _ x ?_).symm⟩
  intro c hc
  exact (List.mem_replicate.1 hc).2

theorem Poly.const (c : UInt8) : Poly 1 (fun _ => c) := ⟨[c], rfl, fun x => by simp [eval, mul_zero]⟩
theorem Poly.of (l : List UInt8) : Poly l.length (eval l) := ⟨l, rfl, fun _ => rfl⟩
theorem Poly.congr {n : Nat} {f g : UInt8 → UInt8} (hf : Poly n f) (h : ∀ x, g x = f x) : Poly n g := by
  obtain ⟨l, hl, el⟩ := hf
  exact ⟨l, hl, fun x => by rw [h, el]⟩

/-- two polynomials that are one at as many places as they have coefficients are one everywhere -/
theorem Poly.same {n : Nat} {f g : UInt8 → UInt8} (hf : Poly n f) (hg : Poly n g) (rs : List UInt8) (hn : rs.Nodup) (hl : rs.length = n)
    (h : ∀ r ∈ rs, f r = g r) (x : UInt8) : f x = g x := by
  obtain ⟨l, hl', el⟩ := hf.add hg
  have hz := roots n l rs hl' hl hn (fun r hr => by rw [← el]; show f r ^^^ g r = 0; rw [h r hr, x_self])
  have e : f x ^^^ g x = eval l x := el x
  rw [eval_zeros l x hz] at e
  exact x_eq_zero.1 e

/-! ## The polynomial through points -/

/-- one row of the sum: the factors of the others -/
def row (x at' : UInt8) (xs : List UInt8) (p : UInt8) : UInt8 := xs.foldl (fun p o => if o = at' then p else mul p (mul (x ^^^ o) (inv (at' ^^^ o)))) p

/-- the sum over the points -/
def through (all : List UInt8) (x : UInt8) : List UInt8 → List UInt8 → UInt8
  | a :: xs, y :: ys => row x a all y ^^^ through all x xs ys
  | _, _ => 0

def lag (xs ys : List UInt8) (x : UInt8) : UInt8 := through xs x xs ys

theorem row_cons (x a o : UInt8) (xs : List UInt8) (p : UInt8) : row x a (o :: xs) p = row x a xs (if o = a then p else mul p (mul (x ^^^ o) (inv (a ^^^ o)))) := rfl

theorem row_self (a : UInt8) (xs : List UInt8) : ∀ p, row a a xs p = p := by
  induction xs with
  | nil => intro p; rfl
  | cons o xs ih =>
    intro p
    rw [row_cons, ih]
    by_cases h : o = a
    · rw [if_pos h]
    · rw [if_neg h, mul_inv (fun e => h (x_eq_zero.1 e).symm), mul_one]

theorem row_zero (x a : UInt8) (xs : List UInt8) : row x a xs 0 = 0 := by
  induction xs with
  | nil => rfl
  | cons o xs ih =>
    rw [row_cons]
    by_cases h : o = a
    · rw [if_pos h, ih]
    · rw [if_neg h, zero_mul, ih]

theorem row_other (b a : UInt8) (h : b ≠ a) (xs : List UInt8) (hb : b ∈ xs) : ∀ p, row b a xs p = 0 := by
  induction xs with
  | nil => simp at hb
  | cons o xs ih =>
    intro p
    rw [row_cons]
    by_cases e : o = b
    · subst e
      rw [if_neg h, x_self, zero_mul, mul_zero, row_zero]
    · exact ih (by rcases List.mem_cons.1 hb with e' | h'; exact absurd e'.symm e; exact h') _

/-- how many there are beside one -/
theorem row_poly (a : UInt8) (xs : List UInt8) : ∀ (m : Nat) (f : UInt8 → UInt8), Poly m f → Poly (m + (xs.filter (· ≠ a)).length) (fun x => row x a xs (f x)) := by
  induction xs with
  | nil => intro m f hf; exact hf
  | cons o xs ih =>
    intro m f hf
    by_cases h : o = a
    · have := ih m f hf
      refine (show List.filter (· ≠ a) (o :: xs) = List.filter (· ≠ a) xs by simp [h]) ▸ this.congr (fun x => by rw [row_cons, if_pos h])
    · have := ih (m + 1) (fun x => mul (f x) (mul (x ^^^ o) (inv (a ^^^ o)))) (((hf.linear o).scale (inv (a ^^^ o))).congr (fun x => by rw [mul_assoc]))
      have e : List.filter (· ≠ a) (o :: xs) = o :: List.filter (· ≠ a) xs := by simp [h]
      rw [e, List.length_cons, show m + ((xs.filter (· ≠ a)).length + 1) = m + 1 + (xs.filter (· ≠ a)).length from by omega]
      exact this.congr (fun x => by rw [row_cons, if_neg h])

theorem filter_ne_length {a : UInt8} : ∀ {xs : List UInt8}, xs.Nodup → a ∈ xs → (xs.filter (· ≠ a)).length + 1 = xs.length
  | [], _, h => by simp at h
  | o :: xs, hn, h => by
    obtain ⟨h1, h2⟩ := List.nodup_cons.1 hn
    by_cases e : o = a
    · subst e
      have : List.filter (· ≠ o) (o :: xs) = xs := by
        rw [List.filter_cons]; simp only [ne_eq, not_true_eq_false, decide_false, Bool.false_eq_true, if_false]
        exact List.filter_eq_self.2 (fun y hy => by simpa using fun (e : y = o) => h1 (by rw [← e]; exact hy))
      rw [this]; rfl
    · have : List.filter (· ≠ a) (o :: xs) = o :: List.filter (· ≠ a) xs := by simp [e]
      rw [this, List.length_cons, List.length_cons, filter_ne_length h2 (by rcases List.mem_cons.1 h with e' | h'; exact absurd e'.symm e; exact h')]

theorem through_poly (all : List UInt8) (hn : all.Nodup) : ∀ (xs ys : List UInt8), (∀ a ∈ xs, a ∈ all) → Poly all.length (fun x => through all x xs ys)
  | [], _, _ => Poly.zero _
  | _ :: _, [], _ => Poly.zero _
  | a :: xs, y :: ys, h => by
    have h1 := row_poly a all 1 (fun _ => y) (Poly.const y)
    rw [show 1 + (all.filter (· ≠ a)).length = all.length from by have := filter_ne_length hn (h a (by simp)); omega] at h1
    exact (h1.add (through_poly all hn xs ys (fun b hb => h b (by simp [hb])))).congr (fun _ => rfl)

/-- it has as many coefficients as there are points -/
theorem lag_poly {xs : List UInt8} (hn : xs.Nodup) (ys : List UInt8) : Poly xs.length (lag xs ys) := through_poly xs hn xs ys (fun _ h => h)

theorem through_none (all : List UInt8) (b : UInt8) (hb : b ∈ all) : ∀ (xs ys : List UInt8), b ∉ xs → through all b xs ys = 0
  | [], _, _ => rfl
  | _ :: _, [], _ => rfl
  | a :: xs, y :: ys, h => by
    show row b a all y ^^^ through all b xs ys = 0
    rw [row_other b a (fun (e : b = a) => h (by simp [e])) all hb, through_none all b hb xs ys (fun h' => h (by simp [h'])), x_self]

theorem through_at (all : List UInt8) : ∀ (xs ys : List UInt8), xs.Nodup → (∀ a ∈ xs, a ∈ all) → xs.length = ys.length →
    ∀ (i : Nat) (hi : i < xs.length) (hj : i < ys.length), through all xs[i] xs ys = ys[i]
  | [], _, _, _, _, i, hi, _ => by simp at hi
  | a :: xs, [], _, _, h, _, _, _ => by simp at h
  | a :: xs, y :: ys, hn, hm, h, i, hi, hj => by
    obtain ⟨h1, h2⟩ := List.nodup_cons.1 hn
    cases i with
    | zero =>
      show row a a all y ^^^ through all a xs ys = y
      rw [row_self, through_none all a (hm a (by simp)) xs ys h1, x_zero]
    | succ i =>
      have hi' : i < xs.length := by simpa using hi
      have hj' : i < ys.length := by simpa using hj
      show row xs[i] a all y ^^^ through all xs[i] xs ys = ys[i]
      rw [row_other xs[i] a (fun e => h1 (by rw [← e]; exact List.getElem_mem hi')) all (hm _ (by simp)), zero_x]
      exact through_at all xs ys h2 (fun b hb => hm b (by simp [hb])) (by simpa using h) i hi' hj'

/-- its value at each point is that point's -/
theorem lag_at {xs ys : List UInt8} (hn : xs.Nodup) (h : xs.length = ys.length) (i : Nat) (hi : i < xs.length) (hj : i < ys.length) : lag xs ys xs[i] = ys[i] :=
  through_at xs xs ys hn (fun _ h => h) h i hi hj

/-- whatever polynomial of so many coefficients has these values is this one -/
theorem lag_is {xs ys : List UInt8} (hn : xs.Nodup) (h : xs.length = ys.length) {f : UInt8 → UInt8} (hf : Poly xs.length f)
    (hv : ∀ (i : Nat) (hi : i < xs.length) (hj : i < ys.length), f xs[i] = ys[i]) (x : UInt8) : lag xs ys x = f x := by
  refine Poly.same (lag_poly hn ys) hf xs hn rfl (fun r hr => ?_) x
  obtain ⟨i, hi, rfl⟩ := List.getElem_of_mem hr
  rw [lag_at hn h i hi (by omega), hv i hi (by omega)]

/-! ## The other text's product -/

/-- the product without remainder, from the lowest bit on -/
def refUp (a b : UInt8) : Nat → Nat
  | 0 => 0
  | i + 1 => if b.toNat.testBit i = true then refUp a b i ^^^ (a.toNat <<< i) else refUp a b i

/-- the remainder, from the highest power on -/
def refDown (x : Nat) : Nat → Nat
  | 0 => x
  | k + 1 => if (refDown x k).testBit (14 - k) = true then refDown x k ^^^ (285 <<< (14 - k - 8)) else refDown x k

def refMul (a b : UInt8) : UInt8 := UInt8.ofNat (refDown (refUp a b 8) 7)

theorem nx_four (a b c d : Nat) : (a ^^^ b) ^^^ (c ^^^ d) = (a ^^^ c) ^^^ (b ^^^ d) := by
  rw [Nat.xor_assoc, Nat.xor_assoc, ← Nat.xor_assoc b c d, Nat.xor_comm b c, Nat.xor_assoc c b d]

theorem refUp_left (a a' b : UInt8) : ∀ n, refUp (a ^^^ a') b n = refUp a b n ^^^ refUp a' b n
  | 0 => by simp [refUp]
  | n + 1 => by
    rw [refUp, refUp, refUp, refUp_left a a' b n]
    by_cases h : b.toNat.testBit n = true
    · rw [if_pos h, if_pos h, if_pos h, UInt8.toNat_xor, Nat.shiftLeft_xor_distrib, nx_four]
    · rw [if_neg h, if_neg h, if_neg h]

theorem refUp_right (a b b' : UInt8) : ∀ n, refUp a (b ^^^ b') n = refUp a b n ^^^ refUp a b' n
  | 0 => by simp [refUp]
  | n + 1 => by
    rw [refUp, refUp, refUp, refUp_right a b b' n, UInt8.toNat_xor, Nat.testBit_xor]
    generalize a.toNat <<< n = s
    generalize refUp a b n = x
    generalize refUp a b' n = y
    cases b.toNat.testBit n <;> cases b'.toNat.testBit n <;> simp
    · rw [Nat.xor_assoc]
    · rw [Nat.xor_assoc, Nat.xor_assoc, Nat.xor_comm y s]
    · rw [nx_four, Nat.xor_self, Nat.xor_zero]

theorem refDown_x (x y : Nat) : ∀ n, refDown (x ^^^ y) n = refDown x n ^^^ refDown y n
  | 0 => rfl
  | n + 1 => by
    rw [refDown, refDown, refDown, refDown_x x y n, Nat.testBit_xor]
    generalize 285 <<< (14 - n - 8) = s
    generalize refDown x n = p
    generalize refDown y n = q
    cases p.testBit (14 - n) <;> cases q.testBit (14 - n) <;> simp
    · rw [Nat.xor_assoc]
    · rw [Nat.xor_assoc, Nat.xor_assoc, Nat.xor_comm q s]
    · rw [nx_four, Nat.xor_self, Nat.xor_zero]

theorem refMul_left (a a' b : UInt8) : refMul (a ^^^ a') b = refMul a b ^^^ refMul a' b := by
  unfold refMul; rw [refUp_left, refDown_x, UInt8.ofNat_xor]
theorem refMul_right (a b b' : UInt8) : refMul a (b ^^^ b') = refMul a b ^^^ refMul a b' := by
  unfold refMul; rw [refUp_right, refDown_x, UInt8.ofNat_xor]
theorem refMul_basis : ∀ a ∈ basis, ∀ b ∈ basis, refMul a b = mul a b := by decide +kernel
theorem refMul_zero (a : UInt8) : refMul a 0 = 0 := by have := refMul_right a 0 0; rw [x_self, x_self] at this; exact this
theorem zero_refMul (a : UInt8) : refMul 0 a = 0 := by have := refMul_left 0 0 a; rw [x_self, x_self] at this; exact this

theorem refMul_eq (a b : UInt8) : refMul a b = mul a b := by
  refine span (P := fun a => refMul a b = mul a b) (by rw [zero_refMul, zero_mul]) (fun x y hx hy => by rw [refMul_left, mul_x_left, hx, hy]) (fun a ha => ?_) a
  exact span (P := fun b => refMul a b = mul a b) (by rw [refMul_zero, mul_zero]) (fun x y hx hy => by rw [refMul_right, mul_x_right, hx, hy]) (fun b hb => refMul_basis a ha b hb) b

/-- the other text's sum of powers, from a sum and a power on -/
def powers (x : UInt8) : List UInt8 → UInt8 → UInt8 → UInt8
  | [], s, _ => s
  | c :: l, s, p => powers x l (s ^^^ mul c p) (mul p x)

theorem powers_eq (x : UInt8) : ∀ (l : List UInt8) (s p : UInt8), powers x l s p = s ^^^ mul p (eval l x)
  | [], s, p => by rw [powers, eval_nil, mul_zero, x_zero]
  | c :: l, s, p => by
    rw [powers, powers_eq x l, eval_cons, mul_x_right, mul_assoc, x_assoc, mul_comm c p]

theorem powers_eval (x : UInt8) (l : List UInt8) : powers x l 0 1 = eval l x := by rw [powers_eq, one_mul, zero_x]

/-- the loop of a value, from the highest coefficient on -/
theorem horner (x : UInt8) (l : List UInt8) : l.reverse.foldl (fun o c => mul o x ^^^ c) 0 = eval l x := by
  rw [List.foldl_reverse]
  induction l with
  | nil => rfl
  | cons c l ih => rw [List.foldr_cons, ih, eval_cons, x_comm c, mul_comm x]

end Go.Proofs.Ytmnnhmbolbepcaa.Gf

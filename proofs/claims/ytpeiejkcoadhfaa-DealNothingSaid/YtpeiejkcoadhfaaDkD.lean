/- Polynomials: plain, and the program's. -/
import Derived.Test.YtpeiejkcoadhfaaDkB
import Derived.Test.YtpeiejkcoadhfaaDkC
import Derived.Test.YtpeiejkcoadhfaaPDealSecretx1
import Derived.Test.YtpeiejkcoadhfaaDkA
import Derived.StillTailTactics
set_option linter.all false
/- The field of 256 elements as a type of its own, and polynomials over it: plain lists. -/
namespace Go.Proofs.Ytpeiejkcoadhfaa
/-- An element. -/
structure F where
  v : Nat
  lt : v < 256
theorem F.ext {a b : F} (h : a.v = b.v) : a = b := by
  cases a; cases b; simp only at h; subst h; rfl
instance : DecidableEq F := fun a b => if h : a.v = b.v then isTrue (F.ext h) else isFalse (fun e => h (by rw [e]))
instance : Zero F := ⟨⟨0, by omega⟩⟩
instance : One F := ⟨⟨1, by omega⟩⟩
instance : Inhabited F := ⟨0⟩
theorem xor_lt {a b : Nat} (ha : a < 256) (hb : b < 256) : a ^^^ b < 256 := Nat.xor_lt_two_pow (n := 8) ha hb
instance : Add F := ⟨fun a b => ⟨a.v ^^^ b.v, xor_lt a.lt b.lt⟩⟩
instance : Mul F := ⟨fun a b => ⟨Gf.mulN a.v b.v, mulN_lt _ _ a.lt b.lt⟩⟩
def F.inv (a : F) : F := ⟨invN a.v, invN_lt a.v⟩
theorem F.add_v (a b : F) : (a + b).v = a.v ^^^ b.v := rfl
theorem F.mul_v (a b : F) : (a * b).v = Gf.mulN a.v b.v := rfl
theorem F.zero_v : (0 : F).v = 0 := rfl
theorem F.one_v : (1 : F).v = 1 := rfl
theorem F.add_comm (a b : F) : a + b = b + a := F.ext (Nat.xor_comm _ _)
theorem F.add_assoc (a b c : F) : a + b + c = a + (b + c) := F.ext (Nat.xor_assoc _ _ _)
theorem F.add_zero (a : F) : a + 0 = a := F.ext (Nat.xor_zero _)
theorem F.zero_add (a : F) : 0 + a = a := F.ext (Nat.zero_xor _)
theorem F.add_self (a : F) : a + a = 0 := F.ext (Nat.xor_self _)
theorem F.mul_comm (a b : F) : a * b = b * a := F.ext (mul_comm' _ _ a.lt b.lt)
theorem F.mul_assoc (a b c : F) : a * b * c = a * (b * c) := F.ext (mul_assoc' _ _ _ a.lt b.lt c.lt)
theorem F.mul_one (a : F) : a * 1 = a := F.ext (mul_one' _ a.lt)
theorem F.one_mul (a : F) : 1 * a = a := by rw [F.mul_comm, F.mul_one]
theorem F.mul_zero (a : F) : a * 0 = 0 := F.ext (Gf.mul_0 a.v a.lt).2
theorem F.zero_mul (a : F) : 0 * a = 0 := F.ext (Gf.mul_0 a.v a.lt).1
theorem F.mul_add (a b c : F) : a * (b + c) = a * b + a * c := F.ext (mul_xor_r _ _ _ a.lt b.lt c.lt)
theorem F.add_mul (a b c : F) : (a + b) * c = a * c + b * c := F.ext (Gf.mulN_xor _ _ _)
theorem F.mul_inv (a : F) (h : a ≠ 0) : a * a.inv = 1 := F.ext (mul_one_inv _ a.lt (fun e => h (F.ext e)))
theorem F.mul_eq_zero {a b : F} (h : a * b = 0) : a = 0 ∨ b = 0 := by
  by_cases ha : a = 0
  · exact .inl ha
  · right
    have : a.inv * (a * b) = 0 := by rw [h, F.mul_zero]
    rwa [← F.mul_assoc, F.mul_comm a.inv a, F.mul_inv a ha, F.one_mul] at this
theorem F.add_eq_zero {a b : F} (h : a + b = 0) : a = b := by
  have : a + b + b = b := by rw [h, F.zero_add]
  rwa [F.add_assoc, F.add_self, F.add_zero] at this
theorem F.add_left_comm (a b c : F) : a + (b + c) = b + (a + c) := by rw [← F.add_assoc, F.add_comm a b, F.add_assoc]
theorem F.add4 (a b c d : F) : (a + b) + (c + d) = (a + c) + (b + d) := by
  rw [F.add_assoc, F.add_assoc, F.add_left_comm b c d]
theorem F.one_ne : (1 : F) ≠ 0 := fun h => by have := congrArg F.v h; cases this
theorem F.inv_ne {a : F} (h : a ≠ 0) : a.inv ≠ 0 := fun e => by
  have := F.mul_inv a h
  rw [e, F.mul_zero] at this
  exact F.one_ne this.symm

/-! ### polynomials -/
def cf (p : List F) (i : Nat) : F := p.getD i 0
/-- The same coefficients. -/
def Eqv (p q : List F) : Prop := ∀ i, cf p i = cf q i
def ev : List F → F → F
  | [], _ => 0
  | a :: p, x => a + ev p x * x
def addP : List F → List F → List F
  | [], q => q
  | p, [] => p
  | a :: p, b :: q => (a + b) :: addP p q
def scP (a : F) (p : List F) : List F := p.map (a * ·)
def mulP : List F → List F → List F
  | [], _ => []
  | a :: p, q => addP (scP a q) (0 :: mulP p q)
def trimP : List F → List F
  | [] => []
  | a :: p => match trimP p with
    | [] => if a = 0 then [] else [a]
    | b :: q => a :: b :: q

theorem cf_nil (i : Nat) : cf [] i = 0 := rfl
theorem cf_zero (a : F) (p : List F) : cf (a :: p) 0 = a := rfl
theorem cf_succ (a : F) (p : List F) (i : Nat) : cf (a :: p) (i + 1) = cf p i := rfl
theorem cf_add : ∀ (p q : List F) (i : Nat), cf (addP p q) i = cf p i + cf q i
  | [], q, i => by simp [addP, cf_nil, F.zero_add]
  | a :: p, [], i => by simp [addP, cf_nil, F.add_zero]
  | a :: p, b :: q, 0 => rfl
  | a :: p, b :: q, i + 1 => by simp only [addP, cf_succ]; exact cf_add p q i
theorem cf_sc (a : F) : ∀ (p : List F) (i : Nat), cf (scP a p) i = a * cf p i
  | [], i => by simp [scP, cf_nil, F.mul_zero]
  | b :: p, 0 => rfl
  | b :: p, i + 1 => by simp only [scP, List.map_cons, cf_succ]; exact cf_sc a p i
theorem cf_ge (p : List F) (i : Nat) (h : p.length ≤ i) : cf p i = 0 := by
  unfold cf
  rw [List.getD_eq_getElem?_getD, List.getElem?_eq_none h]; rfl
theorem Eqv.refl (p : List F) : Eqv p p := fun _ => rfl
theorem Eqv.symm {p q : List F} (h : Eqv p q) : Eqv q p := fun i => (h i).symm
theorem Eqv.trans {p q r : List F} (h : Eqv p q) (k : Eqv q r) : Eqv p r := fun i => (h i).trans (k i)
theorem Eqv.tail {a b : F} {p q : List F} (h : Eqv (a :: p) (b :: q)) : a = b ∧ Eqv p q := ⟨h 0, fun i => h (i + 1)⟩
theorem Eqv.add {p p' q q' : List F} (h : Eqv p p') (k : Eqv q q') : Eqv (addP p q) (addP p' q') := fun i => by rw [cf_add, cf_add, h i, k i]
theorem Eqv.cons (a : F) {p q : List F} (h : Eqv p q) : Eqv (a :: p) (a :: q) := fun i => by
  cases i with
  | zero => rfl
  | succ i => exact h i
theorem Eqv.sc (a : F) {p q : List F} (h : Eqv p q) : Eqv (scP a p) (scP a q) := fun i => by rw [cf_sc, cf_sc, h i]

theorem ev_add : ∀ (p q : List F) (x : F), ev (addP p q) x = ev p x + ev q x
  | [], q, x => by simp [addP, ev, F.zero_add]
  | a :: p, [], x => by simp [addP, ev, F.add_zero]
  | a :: p, b :: q, x => by simp only [addP, ev, ev_add p q x, F.add_mul]; exact F.add4 _ _ _ _
theorem ev_sc (a : F) : ∀ (p : List F) (x : F), ev (scP a p) x = a * ev p x
  | [], x => by simp [scP, ev, F.mul_zero]
  | b :: p, x => by
    have := ev_sc a p x
    simp only [scP] at this
    simp only [scP, List.map_cons, ev, this, F.mul_add, F.mul_assoc]
theorem ev_mul : ∀ (p q : List F) (x : F), ev (mulP p q) x = ev p x * ev q x
  | [], q, x => by simp [mulP, ev, F.zero_mul]
  | a :: p, q, x => by
    simp only [mulP, ev_add, ev_sc, ev, ev_mul p q x, F.zero_add, F.add_mul]
    rw [F.mul_assoc, F.mul_assoc, F.mul_comm x]
theorem ev_nought {p : List F} (h : ∀ i, cf p i = 0) (x : F) : ev p x = 0 := by
  induction p with
  | nil => rfl
  | cons a p ih =>
    have h0 := h 0
    rw [cf_zero] at h0
    rw [ev, h0, ih (fun i => h (i + 1)), F.zero_mul, F.zero_add]
theorem ev_eqv : ∀ (p q : List F) (_ : Eqv p q) (x : F), ev p x = ev q x
  | [], q, h, x => (ev_nought (fun i => (h i).symm) x).symm
  | a :: p, [], h, x => ev_nought (fun i => h i) x
  | a :: p, b :: q, h, x => by rw [ev, ev, h.tail.1, ev_eqv p q h.tail.2 x]

theorem cf_trim : ∀ (p : List F), Eqv (trimP p) p
  | [] => Eqv.refl _
  | a :: p => by
    have ih := cf_trim p
    unfold trimP
    cases h : trimP p with
    | nil =>
      rw [h] at ih
      simp only
      split
      · rename_i ha
        subst ha
        intro i
        cases i with
        | zero => rfl
        | succ i => exact ih i
      · exact Eqv.cons a ih
    | cons b q =>
      rw [h] at ih
      exact Eqv.cons a ih
theorem trim_nought {p : List F} (h : ∀ i, cf p i = 0) : trimP p = [] := by
  induction p with
  | nil => rfl
  | cons a p ih =>
    unfold trimP
    rw [ih (fun i => h (i + 1))]
    simp only
    rw [if_pos (show a = 0 from h 0)]
theorem trim_eqv : ∀ (p q : List F), Eqv p q → trimP p = trimP q
  | [], q, h => (trim_nought (fun i => (h i).symm)).symm
  | a :: p, [], h => trim_nought (fun i => h i)
  | a :: p, b :: q, h => by
    unfold trimP
    rw [trim_eqv p q h.tail.2, h.tail.1]
theorem trim_trim (p : List F) : trimP (trimP p) = trimP p := trim_eqv _ _ (cf_trim p)
theorem ev_trim (p : List F) (x : F) : ev (trimP p) x = ev p x := ev_eqv _ _ (cf_trim p) x
theorem trim_length (p : List F) : (trimP p).length ≤ p.length := by
  induction p with
  | nil => exact Nat.le_refl _
  | cons a p ih =>
    unfold trimP
    cases h : trimP p with
    | nil => simp only; split <;> simp
    | cons b q => rw [h] at ih; simpa using ih
/-- The last coefficient of what is trimmed is not 0. -/
theorem trim_last (p : List F) (h : trimP p ≠ []) : cf (trimP p) ((trimP p).length - 1) ≠ 0 := by
  induction p with
  | nil => exact absurd rfl h
  | cons a p ih =>
    unfold trimP at h ⊢
    cases hp : trimP p with
    | nil =>
      rw [hp] at h
      simp only at h ⊢
      split
      · rename_i ha; rw [if_pos ha] at h; exact absurd rfl h
      · rename_i ha; exact ha
    | cons b q =>
      rw [hp] at ih
      have := ih (by simp)
      simp only [List.length_cons, Nat.add_sub_cancel] at this ⊢
      exact this
theorem trim_le {p : List F} {n : Nat} (h : ∀ i, n ≤ i → cf p i = 0) : (trimP p).length ≤ n := by
  rcases Nat.lt_or_ge n (trimP p).length with hl | hl
  · have h1 := trim_last p (by intro e; rw [e] at hl; simp at hl)
    rw [cf_trim p, h _ (by omega)] at h1
    exact absurd rfl h1
  · exact hl
theorem trim_eq_self {p : List F} (h : p ≠ [] → cf p (p.length - 1) ≠ 0) : trimP p = p := by
  have hle := trim_length p
  rcases Nat.lt_or_ge (trimP p).length p.length with hl | hl
  · have h1 := h (by intro e; rw [e] at hl; simp at hl)
    rw [← cf_trim p, cf_ge _ _ (by omega)] at h1
    exact absurd rfl h1
  · have hl : (trimP p).length = p.length := by omega
    apply List.ext_getElem hl
    intro i h1 h2
    have := cf_trim p i
    unfold cf at this
    rwa [List.getD_eq_getElem?_getD, List.getD_eq_getElem?_getD, List.getElem?_eq_getElem h1, List.getElem?_eq_getElem h2] at this
end Go.Proofs.Ytpeiejkcoadhfaa
/- Polynomials over the field: products, roots, what goes through points. -/
namespace Go.Proofs.Ytpeiejkcoadhfaa
theorem mulP_zero {p : List F} (h : ∀ i, cf p i = 0) (q : List F) : ∀ i, cf (mulP p q) i = 0 := by
  induction p with
  | nil => intro i; rfl
  | cons a p ih =>
    intro i
    have h0 := h 0
    rw [cf_zero] at h0
    simp only [mulP, cf_add, cf_sc, h0, F.zero_mul, F.zero_add]
    cases i with
    | zero => rfl
    | succ i => exact ih (fun j => h (j + 1)) i
theorem Eqv.mul : ∀ {p p' q q' : List F}, Eqv p p' → Eqv q q' → Eqv (mulP p q) (mulP p' q')
  | [], p', q, q', h, _ => fun i => (mulP_zero (fun j => (h j).symm) q' i).symm
  | a :: p, [], q, q', h, _ => fun i => mulP_zero (fun j => h j) q i
  | a :: p, b :: p', q, q', h, k => by
    simp only [mulP]
    rw [h.tail.1]
    exact (k.sc b).add (Eqv.cons 0 (Eqv.mul h.tail.2 k))
theorem cf_mul_nil_r (p : List F) : ∀ i, cf (mulP p []) i = 0 := by
  induction p with
  | nil => intro i; rfl
  | cons a p ih =>
    intro i
    simp only [mulP, cf_add, cf_sc, cf_nil, F.mul_zero, F.zero_add]
    cases i with
    | zero => rfl
    | succ i => exact ih i
/-- Length's bound: a product has no coefficient beyond. -/
theorem cf_mul_ge : ∀ (p q : List F) (n m : Nat), (∀ i, n ≤ i → cf p i = 0) → (∀ i, m ≤ i → cf q i = 0) → ∀ i, n + m ≤ i + 1 → 0 < n → cf (mulP p q) i = 0
  | [], _, _, _, _, _ => fun _ _ _ => rfl
  | a :: p, q, 0, m, hp, hq => fun _ _ h => absurd h (by omega)
  | a :: p, q, n + 1, m, hp, hq => fun i hi _ => by
    simp only [mulP, cf_add, cf_sc]
    rw [hq i (by omega), F.mul_zero, F.zero_add]
    cases i with
    | zero => rfl
    | succ i =>
      rw [cf_succ]
      rcases Nat.eq_zero_or_pos n with hn | hn
      · subst hn
        exact mulP_zero (fun j => hp (j + 1) (by omega)) q i
      · exact cf_mul_ge p q n m (fun j hj => hp (j + 1) (by omega)) hq i (by omega) hn
/-- The top coefficient of a product. -/
theorem cf_mul_top : ∀ (p q : List F) (n m : Nat), (∀ i, n < i → cf p i = 0) → (∀ i, m < i → cf q i = 0) → cf (mulP p q) (n + m) = cf p n * cf q m
  | [], _, _, _, _, _ => by rw [cf_nil, F.zero_mul]; rfl
  | a :: p, q, 0, m, hp, hq => by
    simp only [mulP, cf_add, cf_sc, cf_zero, Nat.zero_add]
    have : cf (0 :: mulP p q) m = 0 := by
      cases m with
      | zero => rfl
      | succ m => exact mulP_zero (fun j => hp (j + 1) (by omega)) q m
    rw [this, F.add_zero]
  | a :: p, q, n + 1, m, hp, hq => by
    simp only [mulP, cf_add, cf_sc, cf_succ]
    rw [hq _ (by omega), F.mul_zero, F.zero_add, show n + 1 + m = (n + m) + 1 by omega, cf_succ]
    exact cf_mul_top p q n m (fun j hj => hp (j + 1) (by omega)) hq

/-- All points are unlike. -/
def Unl (xs : List F) : Prop := xs.Nodup
/-- A quotient by (x + root): what is left is the value at the root. -/
def quo : List F → F → List F
  | [], _ => []
  | a :: p, x => ev p x :: quo p x
theorem quo_length : ∀ (p : List F) (x : F), (quo p x).length = p.length
  | [], _ => rfl
  | a :: p, x => by simp [quo, quo_length p x]
theorem cf_quo_ge : ∀ (p : List F) (x : F) (n : Nat), (∀ i, n < i → cf p i = 0) → ∀ i, n ≤ i → cf (quo p x) i = 0
  | [], _, _, _, _, _ => rfl
  | a :: p, x, n, hp, 0, hi => by
    obtain rfl : n = 0 := by omega
    rw [quo, cf_zero]
    exact ev_nought (fun j => hp (j + 1) (by omega)) x
  | a :: p, x, n, hp, i + 1, hi => by
    rw [quo, cf_succ]
    rcases Nat.eq_zero_or_pos n with hn | hn
    · subst hn
      exact cf_quo_ge p x 0 (fun j hj => hp (j + 1) (by omega)) i (by omega)
    · exact cf_quo_ge p x (n - 1) (fun j hj => hp (j + 1) (by omega)) i (by omega)
/-- p = (x + X) quo + value. -/
theorem quo_spec : ∀ (p : List F) (x : F) (i : Nat), cf p i = (if i = 0 then ev p x else 0) + (cf (quo p x) i * x + (if i = 0 then 0 else cf (quo p x) (i - 1)))
  | [], x, i => by cases i <;> simp [cf_nil, ev, quo, F.zero_mul, F.add_zero]
  | a :: p, x, 0 => by
    simp only [cf_zero, quo, ev, if_true, F.add_zero]
    rw [F.add_assoc, F.add_self, F.add_zero]
  | a :: p, x, i + 1 => by
    have ih := quo_spec p x i
    simp only [cf_succ, quo, Nat.add_sub_cancel, if_neg (Nat.succ_ne_zero i), F.zero_add]
    cases i with
    | zero =>
      simp only [if_true] at ih
      rw [cf_zero, ih, F.add_zero, F.add_comm]
    | succ i =>
      simp only [if_neg (Nat.succ_ne_zero i), F.zero_add, Nat.add_sub_cancel] at ih
      rw [cf_succ, ih]
theorem ev_quo : ∀ (p : List F) (x y : F), ev p y = ev p x + (x + y) * ev (quo p x) y
  | [], x, y => by simp [ev, quo, F.mul_zero, F.add_zero]
  | a :: p, x, y => by
    have ih := ev_quo p x y
    simp only [ev, quo]
    have e1 : (ev p x + (x + y) * ev (quo p x) y) * y = ev p x * y + (x + y) * (ev (quo p x) y * y) := by rw [F.add_mul, F.mul_assoc]
    have e2 : (x + y) * (ev p x + ev (quo p x) y * y) = (ev p x * x + ev p x * y) + (x + y) * (ev (quo p x) y * y) := by rw [F.mul_add, F.mul_comm (x + y) (ev p x), F.mul_add]
    rw [ih, e1, e2, F.add_assoc a, F.add_assoc (ev p x * x) (ev p x * y), ← F.add_assoc (ev p x * x) (ev p x * x), F.add_self, F.zero_add]
/-- As many roots as coefficients: none but noughts. -/
theorem few_roots : ∀ (n : Nat) (p xs : List F), (∀ i, n ≤ i → cf p i = 0) → Unl xs → n ≤ xs.length → (∀ x ∈ xs, ev p x = 0) → ∀ i, cf p i = 0
  | 0, p, _, hp, _, _, _ => fun i => hp i (by omega)
  | n + 1, p, [], _, _, hl, _ => absurd hl (by simp)
  | n + 1, p, x :: xs, hp, hu, hl, hr => by
    have hx : ev p x = 0 := hr x (List.mem_cons_self ..)
    have hu' := List.nodup_cons.1 hu
    have hq : ∀ i, cf (quo p x) i = 0 := few_roots n (quo p x) xs (fun i hi => cf_quo_ge p x n (fun j hj => hp j (by omega)) i hi) hu'.2 (by simpa using hl) (fun y hy => by
      have h1 := ev_quo p x y
      rw [hx, hr y (List.mem_cons_of_mem _ hy), F.zero_add] at h1
      rcases F.mul_eq_zero h1.symm with h2 | h2
      · exact absurd (F.add_eq_zero h2 ▸ hy) hu'.1
      · exact h2)
    intro i
    rw [quo_spec p x i, hx, hq i, F.zero_mul, F.zero_add]
    split
    · exact F.add_zero 0
    · rw [hq, F.add_zero]
theorem same_values {n : Nat} {p q xs : List F} (hp : ∀ i, n ≤ i → cf p i = 0) (hq : ∀ i, n ≤ i → cf q i = 0) (hu : Unl xs) (hl : n ≤ xs.length) (h : ∀ x ∈ xs, ev p x = ev q x) : Eqv p q := by
  have := few_roots n (addP p q) xs (fun i hi => by rw [cf_add, hp i hi, hq i hi, F.add_zero]) hu hl (fun x hx => by rw [ev_add, h x hx, F.add_self])
  intro i
  have h1 := this i
  rw [cf_add] at h1
  exact F.add_eq_zero h1

/-! ### the polynomial that is 0 at some points -/
def lin (x : F) : List F := [x, 1]
def roots (xs : List F) : List F := xs.foldl (fun p x => trimP (mulP p (lin x))) [1]
theorem ev_lin (x y : F) : ev (lin x) y = x + y := by
  simp [lin, ev, F.zero_mul, F.add_zero, F.one_mul]
theorem roots_snoc (xs : List F) (x : F) : roots (xs ++ [x]) = trimP (mulP (roots xs) (lin x)) := by simp [roots]
theorem snoc_ind {P : List F → Prop} (h0 : P []) (h1 : ∀ xs x, P xs → P (xs ++ [x])) (xs : List F) : P xs := by
  have : ∀ (n : Nat) (l : List F), l.length = n → P l := by
    intro n
    induction n with
    | zero => intro l hl; rw [List.eq_nil_of_length_eq_zero hl]; exact h0
    | succ n ih =>
      intro l hl
      have hne : l ≠ [] := by intro e; rw [e] at hl; simp at hl
      rw [← List.dropLast_concat_getLast hne]
      exact h1 _ _ (ih _ (by rw [List.length_dropLast, hl]; rfl))
  exact this xs.length xs rfl
theorem ev_roots (xs : List F) (y : F) : ev (roots xs) y = 0 ↔ y ∈ xs := by
  induction xs using snoc_ind with
  | h0 => simp [roots, ev, F.zero_mul, F.add_zero, F.one_ne]
  | h1 xs x ih =>
    rw [roots_snoc, ev_trim, ev_mul, ev_lin]
    constructor
    · intro h
      rcases F.mul_eq_zero h with h | h
      · exact List.mem_append_left _ (ih.1 h)
      · rw [F.add_eq_zero h]; exact List.mem_append_right _ (List.mem_singleton.2 rfl)
    · intro h
      rcases List.mem_append.1 h with h | h
      · rw [ih.2 h, F.zero_mul]
      · rw [List.mem_singleton.1 h, F.add_self, F.mul_zero]
theorem roots_top (xs : List F) : cf (roots xs) xs.length = 1 ∧ ∀ i, xs.length < i → cf (roots xs) i = 0 := by
  induction xs using snoc_ind with
  | h0 => exact ⟨rfl, fun i hi => by cases i with
    | zero => exact absurd hi (Nat.lt_irrefl _)
    | succ i => rfl⟩
  | h1 xs x ih =>
    have hl1 : ∀ i, 1 < i → cf (lin x) i = 0 := fun i hi => cf_ge _ _ (by simp [lin]; omega)
    rw [roots_snoc, List.length_append, List.length_singleton]
    refine ⟨by rw [cf_trim, cf_mul_top _ _ _ 1 ih.2 hl1, ih.1]; exact F.one_mul 1, fun i hi => ?_⟩
    rw [cf_trim]
    exact cf_mul_ge _ _ (xs.length + 1) 2 (fun j hj => ih.2 j (by omega)) (fun j hj => hl1 j (by omega)) i (by omega) (by omega)
theorem roots_length (xs : List F) : (roots xs).length = xs.length + 1 := by
  have h1 := roots_top xs
  have h3 : trimP (roots xs) = roots xs := by
    induction xs using snoc_ind with
    | h0 => simp [roots, trimP, F.one_ne]
    | h1 xs x _ => rw [roots_snoc, trim_trim]
  have h2 : (trimP (roots xs)).length ≤ xs.length + 1 := trim_le (fun i hi => h1.2 i (by omega))
  rw [h3] at h2
  rcases Nat.lt_or_ge xs.length (roots xs).length with h | h
  · omega
  · have := cf_ge _ _ h
    rw [h1.1] at this
    exact absurd this F.one_ne

/-! ### what goes through points -/
/-- s is THE polynomial through the points: as short as can be. -/
def Thru (xs ys s : List F) : Prop := trimP s = s ∧ s.length ≤ xs.length ∧ ∀ i, i < xs.length → ev s (xs.getD i 0) = ys.getD i 0
theorem mem_getD {xs : List F} {x : F} (h : x ∈ xs) : ∃ i, i < xs.length ∧ xs.getD i 0 = x := by
  obtain ⟨i, hi, rfl⟩ := List.mem_iff_getElem.1 h
  exact ⟨i, hi, by rw [List.getD_eq_getElem?_getD, List.getElem?_eq_getElem hi]; rfl⟩
theorem getD_mem {xs : List F} {i : Nat} (h : i < xs.length) : xs.getD i 0 ∈ xs := by
  rw [List.getD_eq_getElem?_getD, List.getElem?_eq_getElem h]
  exact List.getElem_mem h
theorem nodup_inj {xs : List F} (hu : Unl xs) {i j : Nat} (hi : i < xs.length) (hj : j < xs.length) (h : xs[i] = xs[j]) : i = j := by
  have hp := List.pairwise_iff_getElem.1 hu
  rcases Nat.lt_trichotomy i j with h1 | h1 | h1
  · exact absurd h (hp i j hi hj h1)
  · exact h1
  · exact absurd h.symm (hp j i hj hi h1)
theorem getD_inj {xs : List F} (hu : Unl xs) {i j : Nat} (hi : i < xs.length) (hj : j < xs.length) (h : xs.getD i 0 = xs.getD j 0) : i = j := by
  rw [List.getD_eq_getElem?_getD, List.getD_eq_getElem?_getD, List.getElem?_eq_getElem hi, List.getElem?_eq_getElem hj] at h
  exact nodup_inj hu hi hj h
theorem thru_unique {xs ys s t : List F} (hu : Unl xs) (h : Thru xs ys s) (k : Thru xs ys t) : s = t := by
  rw [← h.1, ← k.1]
  refine trim_eqv _ _ (same_values (n := xs.length) (xs := xs) (fun i hi => cf_ge _ _ (by have := h.2.1; omega)) (fun i hi => cf_ge _ _ (by have := k.2.1; omega)) hu (Nat.le_refl _) (fun x hx => ?_))
  obtain ⟨i, hi, rfl⟩ := mem_getD hx
  rw [h.2.2 i hi, k.2.2 i hi]
/-- What takes part at point i alone. -/
def Basis (xs : List F) (i : Nat) (p : List F) : Prop := (∀ j, xs.length ≤ j → cf p j = 0) ∧ (∀ j, j < xs.length → j ≠ i → ev p (xs.getD j 0) = 0) ∧ ev p (xs.getD i 0) ≠ 0
/-- So many terms are in. -/
def ThruTo (xs ys s : List F) (n : Nat) : Prop := trimP s = s ∧ s.length ≤ xs.length ∧ ∀ i, i < xs.length → ev s (xs.getD i 0) = if i < n then ys.getD i 0 else 0
theorem thru_start (xs ys : List F) : ThruTo xs ys [] 0 := ⟨rfl, Nat.zero_le _, fun i _ => by rw [if_neg (by omega)]; rfl⟩
theorem thru_step {xs ys s p q : List F} {n : Nat} (h : ThruTo xs ys s n) (hn : n < xs.length) (hb : Basis xs n p) (hq : Eqv q (mulP p [ys.getD n 0 * (ev p (xs.getD n 0)).inv])) : ThruTo xs ys (trimP (addP s q)) (n + 1) := by
  obtain ⟨h1, h2, h3⟩ := h
  obtain ⟨b1, b2, b3⟩ := hb
  have hev : ∀ x, ev q x = ev p x * (ys.getD n 0 * (ev p (xs.getD n 0)).inv) := fun x => by
    rw [ev_eqv _ _ hq x, ev_mul]
    simp [ev, F.zero_mul, F.add_zero]
  refine ⟨trim_trim _, trim_le (fun i hi => ?_), fun i hi => ?_⟩
  · rw [cf_add, cf_ge s i (by omega), F.zero_add, hq i]
    exact cf_mul_ge _ _ xs.length 1 (fun j hj => b1 j hj) (fun j hj => cf_ge _ _ (by simp; omega)) i (by omega) (by omega)
  · rw [ev_trim, ev_add, h3 i hi, hev]
    by_cases hin : i = n
    · subst hin
      rw [if_neg (by omega), if_pos (by omega), F.zero_add, F.mul_comm (ys.getD i 0), ← F.mul_assoc, F.mul_inv _ b3, F.one_mul]
    · rw [b2 i hi hin, F.zero_mul, F.add_zero]
      by_cases h4 : i < n
      · rw [if_pos h4, if_pos (by omega)]
      · rw [if_neg h4, if_neg (by omega)]
theorem thru_end {xs ys s : List F} {n : Nat} (h : ThruTo xs ys s n) (hn : n = xs.length) : Thru xs ys s := ⟨h.1, h.2.1, fun i hi => by rw [h.2.2 i hi, if_pos (by omega)]⟩
/-- The product of the others is a basis. -/
theorem basis_others {xs : List F} (hu : Unl xs) {i : Nat} (hi : i < xs.length) : Basis xs i (roots (xs.take i ++ xs.drop (i + 1))) := by
  have hl : (xs.take i ++ xs.drop (i + 1)).length = xs.length - 1 := by rw [List.length_append, List.length_take, List.length_drop]; omega
  have hat : ∀ j, j < xs.length → j ≠ i → xs.getD j 0 ∈ xs.take i ++ xs.drop (i + 1) := fun j hj hne => by
    rw [List.getD_eq_getElem?_getD, List.getElem?_eq_getElem hj]
    rcases Nat.lt_or_ge j i with h | h
    · refine List.mem_append_left _ (List.mem_iff_getElem.2 ⟨j, by rw [List.length_take]; omega, ?_⟩)
      simp
    · refine List.mem_append_right _ (List.mem_iff_getElem.2 ⟨j - (i + 1), by rw [List.length_drop]; omega, ?_⟩)
      rw [List.getElem_drop]
      simp only [show i + 1 + (j - (i + 1)) = j by omega]
      rfl
  have hnot : xs.getD i 0 ∉ xs.take i ++ xs.drop (i + 1) := fun h => by
    rw [List.getD_eq_getElem?_getD, List.getElem?_eq_getElem hi] at h
    rcases List.mem_append.1 h with h | h
    · obtain ⟨j, hj, he⟩ := List.mem_iff_getElem.1 h
      rw [List.length_take] at hj
      rw [List.getElem_take] at he
      have := nodup_inj hu (by omega) hi he
      omega
    · obtain ⟨j, hj, he⟩ := List.mem_iff_getElem.1 h
      rw [List.length_drop] at hj
      rw [List.getElem_drop] at he
      have := nodup_inj hu (by omega) hi he
      omega
  refine ⟨fun j hj => cf_ge _ _ (by rw [roots_length, hl]; omega), fun j hj hne => (ev_roots _ _).2 (hat j hj hne), fun h => hnot ((ev_roots _ _).1 h)⟩
/-- .. and so is the quotient of all by one. -/
theorem basis_quo {xs q r : List F} (hu : Unl xs) {i : Nat} (hi : i < xs.length) (hq : ∀ j, cf (roots xs) j = cf (mulP q (lin (xs.getD i 0))) j + cf r j) (hr : r.length ≤ 1) : Basis xs i q := by
  have hx : ev (roots xs) (xs.getD i 0) = 0 := (ev_roots _ _).2 (getD_mem hi)
  have hev : ∀ y, ev (roots xs) y = ev q y * (xs.getD i 0 + y) + ev r y := fun y => by
    rw [ev_eqv _ (addP (mulP q (lin (xs.getD i 0))) r) (fun j => by rw [cf_add]; exact hq j), ev_add, ev_mul, ev_lin]
  have hr0 : ∀ y, ev r y = 0 := by
    have h1 := hev (xs.getD i 0)
    rw [hx, F.add_self, F.mul_zero, F.zero_add] at h1
    match r, hr with
    | [], _ => exact fun _ => rfl
    | [a], _ =>
      intro y
      have h2 : a = 0 := by simpa [ev, F.zero_mul, F.add_zero] using h1.symm
      simp [ev, h2, F.zero_mul, F.add_zero]
  have hrc : ∀ j, cf r j = 0 := by
    match r, hr, hr0 0 with
    | [], _, _ => exact fun _ => rfl
    | [a], _, h =>
      have h2 : a = 0 := by simpa [ev, F.zero_mul, F.add_zero] using h
      intro j
      cases j with
      | zero => exact h2
      | succ j => rfl
  have b1 : ∀ j, xs.length ≤ j → cf q j = 0 := by
    have htop : ∀ m, (∀ j, m < j → cf q j = 0) → cf q m = cf (mulP q (lin (xs.getD i 0))) (m + 1) := fun m hm => by
      rw [cf_mul_top q _ m 1 hm (fun j hj => cf_ge _ _ (by simp [lin]; omega))]
      exact (F.mul_one _).symm
    have : ∀ d m, q.length - m = d → xs.length ≤ m → cf q m = 0 ∧ ∀ j, m < j → cf q j = 0 := by
      intro d
      induction d with
      | zero => exact fun m hd _ => ⟨cf_ge _ _ (by omega), fun j hj => cf_ge _ _ (by omega)⟩
      | succ d ih =>
        intro m hd hm
        have h1 := ih (m + 1) (by omega) (by omega)
        have h2 : ∀ j, m < j → cf q j = 0 := fun j hj => by
          rcases Nat.lt_or_ge (m + 1) j with h | h
          · exact h1.2 j h
          · obtain rfl : j = m + 1 := by omega
            exact h1.1
        refine ⟨?_, h2⟩
        rw [htop m h2]
        have h3 := hq (m + 1)
        rw [(roots_top xs).2 _ (by omega), hrc, F.add_zero] at h3
        exact h3.symm
    exact fun j hj => (this _ j rfl hj).1
  have b2 : ∀ j, j < xs.length → j ≠ i → ev q (xs.getD j 0) = 0 := fun j hj hne => by
    have h1 := hev (xs.getD j 0)
    rw [(ev_roots _ _).2 (getD_mem hj), hr0, F.add_zero] at h1
    rcases F.mul_eq_zero h1.symm with h2 | h2
    · exact h2
    · exact absurd (getD_inj hu hi hj (F.add_eq_zero h2)) (Ne.symm hne)
  refine ⟨b1, b2, fun h => ?_⟩
  have hz := few_roots xs.length q xs b1 hu (Nat.le_refl _) (fun y hy => by
    obtain ⟨j, hj, rfl⟩ := mem_getD hy
    by_cases hji : j = i
    · subst hji; exact h
    · exact b2 j hj hji)
  have h1 := (roots_top xs).1
  rw [hq, mulP_zero hz, hrc, F.add_zero] at h1
  exact F.one_ne h1.symm
end Go.Proofs.Ytpeiejkcoadhfaa
/- Polynomials in memory: Clone, Degree, trim, Backward, Eval. -/
namespace Go.Proofs.Ytpeiejkcoadhfaa
open Go.RowKit Go.Shelf Go.Proofs.YtpeiejkcoadhfaaW.PrintWords Go.Proofs.YtpeiejkcoadhfaaW.PrintMore
attribute [local go_sem] Oper.semAt_some

theorem heap1 (w : World) (a : Obj) : ∃ w2, w2 = w.alloc a ∧ w2.heap.size = w.heap.size + 1 ∧ w2.heap[w.heap.size]? = some a ∧ Below w.heap.size w w2 :=
  ⟨_, rfl, by simp, blk_new _ _, below_alloc (Below.refl _ _) _⟩
theorem heap2 (w : World) (a b : Obj) : ∃ w2, w2 = (w.alloc a).alloc b ∧ w2.heap.size = w.heap.size + 2 ∧ w2.heap[w.heap.size]? = some a ∧ w2.heap[w.heap.size + 1]? = some b ∧ Below w.heap.size w w2 := by
  obtain ⟨w1, e, hz, h0, hb⟩ := heap1 w a
  refine ⟨_, rfl, by simp, ?_, ?_, below_alloc (below_alloc (Below.refl _ _) _) _⟩
  · rw [← e]; exact blk_alloc h0 _
  · have := blk_new (w.alloc a) b
    rwa [World.size_alloc] at this
theorem heap3 (w : World) (a b c : Obj) : ∃ w2, w2 = ((w.alloc a).alloc b).alloc c ∧ w2.heap.size = w.heap.size + 3 ∧ w2.heap[w.heap.size]? = some a ∧ w2.heap[w.heap.size + 1]? = some b ∧ w2.heap[w.heap.size + 1 + 1]? = some c ∧ Below w.heap.size w w2 := by
  obtain ⟨w1, e, hz, h0, h1, hb⟩ := heap2 w a b
  refine ⟨_, rfl, by simp, ?_, ?_, ?_, below_alloc (below_alloc (below_alloc (Below.refl _ _) _) _) _⟩
  · rw [← e]; exact blk_alloc h0 _
  · rw [← e]; exact blk_alloc h1 _
  · have := blk_new ((w.alloc a).alloc b) c
    rwa [World.size_alloc, World.size_alloc] at this
theorem heap4 (w : World) (a b c d : Obj) : ∃ w2, w2 = (((w.alloc a).alloc b).alloc c).alloc d ∧ w2.heap.size = w.heap.size + 4 ∧ w2.heap[w.heap.size]? = some a ∧ w2.heap[w.heap.size + 1]? = some b ∧ w2.heap[w.heap.size + 1 + 1]? = some c ∧ w2.heap[w.heap.size + 1 + 1 + 1]? = some d ∧ Below w.heap.size w w2 := by
  obtain ⟨w1, e, hz, h0, h1, h2, hb⟩ := heap3 w a b c
  refine ⟨_, rfl, by simp, ?_, ?_, ?_, ?_, below_alloc (below_alloc (below_alloc (below_alloc (Below.refl _ _) _) _) _) _⟩
  · rw [← e]; exact blk_alloc h0 _
  · rw [← e]; exact blk_alloc h1 _
  · rw [← e]; exact blk_alloc h2 _
  · have := blk_new (((w.alloc a).alloc b).alloc c) d
    rwa [World.size_alloc, World.size_alloc, World.size_alloc] at this
def encF (a : F) : Value := .int .u8 (a.v : Int)
/-- Elements of the field, as bytes. -/
abbrev fk : Kd F := Kd.scalar encF (fun _ => rfl)
abbrev fks : Kd (List F) := Kd.slice 5 fk
def bs (p : List F) : List Int := p.map fun a => (a.v : Int)
theorem bs_length (p : List F) : (bs p).length = p.length := by simp [bs]
theorem bs_getD (p : List F) (i : Nat) : (bs p).getD i 0 = ((p.getD i 0).v : Int) := by
  unfold bs
  rw [List.getD_eq_getElem?_getD, List.getD_eq_getElem?_getD, List.getElem?_map]
  cases h : p[i]? <;> rfl
theorem rd_bs (p : List F) (i : Nat) : rd (bs p) (i : Int) = ((p.getD i 0).v : Int) := by
  unfold rd
  rw [Int.toNat_natCast, bs_getD]
theorem C_bs {w : World} {A : Option Addr} {n : Nat} {p : List F} : Kd.C u8 w A n (bs p) ↔ Kd.C fk w A n p := by
  constructor
  · intro h
    have hr := Kd.reads_of_C (enc := Value.int .u8) (d := (0 : Int)) (h1 := fun _ => rfl) h
    refine Kd.C_of_reads (d := (0 : F)) ⟨by rw [← bs_length]; exact hr.1, hr.2.1, fun hn => ?_⟩
    obtain ⟨ad, e, hc⟩ := hr.2.2 hn
    exact ⟨ad, e, fun j hj => by rw [hc j hj, bs_getD]; rfl⟩
  · intro h
    have hr := Kd.reads_of_C (enc := encF) (d := (0 : F)) (h1 := fun _ => rfl) h
    refine Kd.C_of_reads (d := (0 : Int)) ⟨by rw [bs_length]; exact hr.1, hr.2.1, fun hn => ?_⟩
    obtain ⟨ad, e, hc⟩ := hr.2.2 hn
    exact ⟨ad, e, fun j hj => by rw [hc j hj, bs_getD]; rfl⟩

/-- slices.Clone: new memory. -/
theorem Clone_any (w : World) (A : Option Addr) (n c : Nat) (p : List F) (hr : Kd.C fk w A n p) (hx : n ≤ 140737488355328) :
    Calls Try.prog 95 #[.slice A n c] w fun e w' => ∃ A' c', e = .returned (.slice A' n c') ∧ Kd.R fk 5 w' w.heap.size (fun _ => True) (.slice A' n c') p ∧ Below w.heap.size w w' := by
  obtain rfl : p.length = n := Kd.C_len hr
  cases A with
  | none =>
    have hl : p.length = 0 := by
      rcases Nat.eq_zero_or_pos p.length with h | h
      · exact h
      · obtain ⟨ad, e, _⟩ := hr.2.2 h; cases e
    have hxs : p = [] := List.eq_nil_of_length_eq_zero hl
    subst hxs
    have kq := fun W : World => Lib.run_eql_slice_nil (P := Try.prog) W 36 5 none 0 c 0 0 Try.underlying36
    go_enter Try.func95, Try.ntmps95
    go_wp2
    go_ret
    exact ⟨none, 0, rfl, Kd.R_nil _ _ _ _ _, Below.refl _ _⟩
  | some a =>
    have kq := fun W : World => Lib.run_eql_slice_nil (P := Try.prog) W 36 5 (some a) p.length c 0 0 Try.underlying36
    obtain ⟨v', w1, hrun, hq, hg, hat⟩ := R_append_row (P := Try.prog) encF (0 : F) (w.alloc (.cells #[] 5)) w.heap.size 36 36 5 _ 1 Try.underlying36 info5 rfl (c := c) (R_empty fk 5 w w.heap.size (Nat.le_refl _)) (Kd.C_below hr (below_alloc (Below.refl _ _) _)) (by simp; omega) (by omega) (by simp) (fun _ _ => trivial)
    obtain ⟨A', c', rfl⟩ := Kd.R_slice hq
    rw [List.nil_append] at hrun hq
    have hb : Below w.heap.size w w1 := (below_alloc (Below.refl _ _) _).grown hg (by simp) (fun k hk => by have : k = w.heap.size := by simpa [Value.ownBlock] using hk.symm
                                                                                                            omega)
    have HT := Aside0.mk (And.intro hq hb)
    have HR := Aside0.mk hrun
    clear hrun hq hg hat hb hr
    go_enter Try.func95, Try.ntmps95
    go_wp2_with (at_builtin; refine wpList_append_run rfl _ _ _ _ rfl rfl rfl HR.out ?_)
    go_ret
    exact ⟨A', c', rfl, HT.out.1, HT.out.2⟩

/-- What is trimmed is a beginning. -/
theorem trim_take (p : List F) : p.take (trimP p).length = trimP p := by
  induction p with
  | nil => rfl
  | cons a p ih =>
    unfold trimP
    cases h : trimP p with
    | nil =>
      simp only
      split
      · rfl
      · simp
    | cons b q =>
      rw [h] at ih
      simp only [List.length_cons, List.take_succ_cons] at ih ⊢
      rw [ih]
theorem wr_pred (a : Nat) (h : a ≤ 9223372036854775807) : wrap64 ((a : Int) - 1) = (a : Int) - 1 := by
  unfold wrap64; omega
theorem degree_l0 (p : List F) (hl : p.length ≤ 1099511627776) (d : Nat) : ∀ (q : Nat), (trimP p).length + d ≤ p.length → d < q → PDealSecret.poly_Degree.l0 q (bs p) (((trimP p).length + d : Nat) - 1 : Int) = some (((trimP p).length : Nat) - 1 : Int) := by
  induction d with
  | zero =>
    intro q _ hq
    obtain ⟨q, rfl⟩ : ∃ m, q = m + 1 := ⟨q - 1, by omega⟩
    simp only [PDealSecret.poly_Degree.l0]
    rcases Nat.eq_zero_or_pos (trimP p).length with h0 | h0
    · rw [h0, if_neg (by omega)]
    · have hne : trimP p ≠ [] := by intro e; rw [e] at h0; simp at h0
      have hla := trim_last p hne
      rw [cf_trim p] at hla
      have hle := trim_length p
      obtain ⟨m, hm⟩ : ∃ m, (trimP p).length = m + 1 := ⟨(trimP p).length - 1, by omega⟩
      rw [hm] at hla hle ⊢
      have e : ((m + 1 + 0 : Nat) - 1 : Int) = (m : Int) := by omega
      rw [e, if_pos (by omega), if_pos (by omega), bs_length, if_pos (by omega), rd_bs, if_neg]
      intro h
      exact hla (F.ext (by have : (p.getD m 0).v = 0 := by omega
                           exact this))
  | succ d ih =>
    intro q hle hq
    obtain ⟨q, rfl⟩ : ∃ m, q = m + 1 := ⟨q - 1, by omega⟩
    simp only [PDealSecret.poly_Degree.l0]
    have hz : cf p ((trimP p).length + d) = 0 := by rw [← cf_trim p]; exact cf_ge _ _ (by omega)
    have hz2 : (p.getD ((trimP p).length + d) 0).v = 0 := congrArg F.v hz
    have ih := ih q (by omega) (by omega)
    generalize (trimP p).length = m at *
    have e : ((m + (d + 1) : Nat) - 1 : Int) = ((m + d : Nat) : Int) := by omega
    rw [e, if_pos (by omega), if_pos (by omega), bs_length, if_pos (by omega), rd_bs, hz2, if_pos (by rfl), wr_pred _ (by omega)]
    exact ih
theorem Degree_any (w : World) (A : Option Addr) (n c : Nat) (p : List F) (hC : Kd.C fk w A n p) (hc : n ≤ c) (hl : n ≤ 1099511627776) :
    Calls Try.prog 134 #[.slice A n c] w fun e w' => e = .returned (.int .i64 (((trimP p).length : Int) - 1)) ∧ Drawn0 w w' := by
  have hn := Kd.C_len hC
  have hle := trim_length p
  have hd := degree_l0 p (by omega) (p.length - (trimP p).length) (p.length + 1) (by omega) (by omega)
  have hf : PDealSecret.poly_Degree.f (p.length + 1) (bs p) = some (((trimP p).length : Int) - 1) := by
    unfold PDealSecret.poly_Degree.f
    rw [bs_length, wr_pred _ (by omega)]
    rw [show (trimP p).length + (p.length - (trimP p).length) = p.length by omega] at hd
    exact hd
  have := PDealSecret.poly_Degree.calls _ A c (bs p) _ w (by rw [bs_length, hn]; exact C_bs.2 hC) (by rw [bs_length, hn]; exact hc) hf
  rw [bs_length, hn] at this
  exact this
/-- trim: a beginning of what it is given, in the same memory. -/
theorem trim_any (w : World) (A : Option Addr) (n c : Nat) (p : List F) (hC : Kd.C fk w A n p) (hc : n ≤ c) (hl : n ≤ 1099511627776) :
    Calls Try.prog 123 #[.slice A n c] w fun e w' => e = .returned (.slice A (trimP p).length (trimP p).length) ∧ Drawn0 w w' := by
  have hn := Kd.C_len hC
  have hle := trim_length p
  have HD := Aside0.mk (Degree_any w A n c p hC hc hl)
  obtain ⟨m, hm⟩ : ∃ m, m = (trimP p).length := ⟨_, rfl⟩
  rw [← hm] at HD ⊢
  have hmn : m ≤ n := by omega
  obtain ⟨i5, hi5, _, _, _⟩ := info_parts info5
  have kt := to_run (P := Try.prog) 36 5 Try.underlying36 hi5 A n c m hmn hc
  have hmI : (m : Int) ≤ (n : Int) := by omega
  clear hm hle hn hC hi5
  go_enter Try.func123, Try.ntmps123
  go_wp2_with (first | (go_at_call 134; refine HD.out.mono ?_; rintro e w1 ⟨rfl, ⟨k, rfl⟩⟩) | (go_at_call 80; refine (Clip_any _ _ _ _ (by omega)).mono ?_; rintro e w1 ⟨rfl, rfl⟩))
  go_ret
  exact ⟨rfl, ⟨_, rfl⟩⟩
end Go.Proofs.Ytpeiejkcoadhfaa
/- slices.Backward, poly.Eval. -/
namespace Go.Proofs.Ytpeiejkcoadhfaa
open Go.RowKit Go.Shelf Go.Proofs.YtpeiejkcoadhfaaW.PrintWords Go.Proofs.YtpeiejkcoadhfaaW.PrintMore
attribute [local go_sem] Oper.semAt_some

def pairF (x : Nat × F) : Array Value := #[.int .i64 (x.1 : Int), encF x.2]
/-- What has come, from the end on, when so many are left. -/
def backTo (p : List F) (m : Nat) : List (Nat × F) := (List.range (p.length - m)).map fun j => (p.length - 1 - j, p.getD (p.length - 1 - j) 0)
theorem backTo_length (p : List F) (m : Nat) : (backTo p m).length = p.length - m := by simp [backTo]
theorem backTo_step (p : List F) (m : Nat) (h : m < p.length) : backTo p m = backTo p (m + 1) ++ [(m, p.getD m 0)] := by
  unfold backTo
  rw [show p.length - m = (p.length - (m + 1)) + 1 by omega, List.range_succ, List.map_append, List.map_singleton, show p.length - 1 - (p.length - (m + 1)) = m by omega]
theorem backTo_all (p : List F) : backTo p p.length = [] := by simp [backTo]
theorem backTo_vals (p : List F) : (backTo p 0).map (·.2) = p.reverse := by
  apply List.ext_getElem
  · simp [backTo]
  · intro i h1 h2
    simp [backTo] at h1
    simp only [backTo, List.getElem_map, List.getElem_range, List.getElem_reverse]
    rw [List.getD_eq_getElem?_getD, List.getElem?_eq_getElem (by omega)]
    rfl
theorem ev_foldr (p : List F) (x : F) : p.foldr (fun c s => s * x + c) 0 = ev p x := by
  induction p with
  | nil => rfl
  | cons a p ih => rw [List.foldr_cons, ih, ev, F.add_comm]
def horner (x : F) (l : List (Nat × F)) : F := l.foldl (fun s c => s * x + c.2) 0
theorem horner_all (p : List F) (x : F) : horner x (backTo p 0) = ev p x := by
  have h : horner x (backTo p 0) = ((backTo p 0).map (·.2)).foldl (fun s c => s * x + c) 0 := by
    unfold horner
    rw [List.foldl_map]
  rw [h, backTo_vals, List.foldl_reverse, ev_foldr]
theorem horner_snoc (x : F) (l : List (Nat × F)) (c : Nat × F) : horner x (l ++ [c]) = horner x l * x + c.2 := by simp [horner]

set_option maxRecDepth 100000 in
set_option maxHeartbeats 1600000 in
theorem back_seq (S : Nat → Prop) (w : World) (b : Nat) (A : Option Addr) (n c : Nat) (p : List F) (hC : Kd.C fk w A n p) (hl : n ≤ 1099511627776)
    (hb : w.heap[b]? = some (.cells #[.slice A n c] 36 (0, 0))) (hS : ¬ S b) (hA : ∀ ad, A = some ad → 0 < n → ¬ S ad.block) :
    SeqF Try.prog 135 #[.pointer (some ⟨b, 0, none⟩)] pairF (fun pre x _ => pre.length < n ∧ x = (n - 1 - pre.length, p.getD (n - 1 - pre.length) 0)) S (fun xs => xs = backTo p 0) w := by
  intro l J W hW hJ hY h0
  obtain rfl : p.length = n := Kd.C_len hC
  refine callsIn_of_wp Try.func135 rfl trivial ?_ rfl
  simp only [Try.ntmps135, List.size_toArray, List.length_cons, List.length_nil, Nat.reduceAdd, Nat.reduceSub, Array.replicate_succ, Array.replicate_zero, List.push_toArray, List.append_toArray, List.nil_append, List.cons_append]
  have hblt : ∀ ad, A = some ad → 0 < p.length → ad.block < w.heap.size := fun ad ha hn => by
    obtain ⟨ad', e, hc⟩ := (Kd.reads_of_C (enc := encF) (d := (0 : F)) (h1 := fun _ => rfl) hC).2.2 hn
    rw [ha] at e
    injection e with e
    subst e
    have h1 := World.block_lt_of_cell? w _ (hc 0 hn)
    rwa [add_zero'] at h1
  have HBS : Aside0 (∀ {W1 : World}, Fr (fun k => S k ∨ w.heap.size ≤ k) w W1 → W1.cell? ⟨b, 0, none⟩ = some (.slice A p.length c)) := ⟨fun hf => cell_at (hf.blk hb (fun h => h.elim hS (fun h => by have := blk_lt hb; omega))) rfl⟩
  have HCW : Aside0 (∀ {W1 : World}, Fr (fun k => S k ∨ w.heap.size ≤ k) w W1 → Kd.C fk W1 A p.length p) := ⟨fun hf => C_fr (0 : F) hC hf (fun ad ha hn h => h.elim (hA ad ha hn) (fun h => by have := hblt ad ha hn; omega))⟩
  have c0 := HBS.out (Fr.of_below hW _)
  have HY := Aside0.mk hY
  have HJ := Aside0.mk hJ
  have H0 := Aside0.mk h0
  have HW := Aside0.mk hW
  clear hY hJ h0 hW hblt hC hb hS hA
  gi_wp2
  gi_loopw [3] (fun v3 wr => ∃ (m : Nat), m ≤ p.length ∧ v3 = .int .i64 ((m : Int) - 1) ∧ Aside0 (J (backTo p m) wr) ∧ Aside0 (Fr (fun k => S k ∨ w.heap.size ≤ k) w wr)) (fun v3 _ => (intOf v3 + 1).toNat)
  case atStart => exact ⟨p.length, by omega, rfl, ⟨by rw [backTo_all]; exact H0.out⟩, ⟨Fr.of_below HW.out _⟩⟩
  case round =>
    obtain ⟨m, hm, rfl, HR, HF⟩ := hrel
    clear H0 HW c0
    rcases Nat.eq_zero_or_pos m with hm0 | hm0
    · subst hm0
      gi_wp2
      go_end0
      exact ⟨⟨_, rfl⟩, _, rfl, HR.out⟩
    · obtain ⟨m, rfl⟩ : ∃ k, m = k + 1 := ⟨m - 1, by omega⟩
      have c1 := HBS.out HF.out
      have hCr := HCW.out HF.out
      obtain ⟨ad, rfl, hcell⟩ := (Kd.reads_of_C (enc := encF) (d := (0 : F)) (h1 := fun _ => rfl) hCr).2.2 (by omega)
      have c2 := hcell m (by omega)
      have hpre : (backTo p (m + 1)).length = p.length - (m + 1) := backTo_length _ _
      obtain ⟨fn, tmps, assign, body, hy, hR⟩ := HY.out (backTo p (m + 1)) (m, p.getD m 0) wr HR.out ⟨by omega, by rw [hpre, show p.length - 1 - (p.length - (m + 1)) = m by omega]⟩
      obtain ⟨x, hx⟩ : ∃ x, x = p.getD m 0 := ⟨_, rfl⟩
      rw [← hx] at hy hR c2
      have hy' : (Instr.yield l #[.int .i64 (m : Int), encF x]).run Try.prog wr = .ok (.round l fn tmps assign body) wr := hy
      have hsn := backTo_step p m (by omega)
      rw [← hx] at hsn
      have HSN := Aside0.mk hsn
      have hmI : (m : Int) < (p.length : Int) := by omega
      have hidx : (((m + 1 : Nat) : Int) - 1) = (m : Int) := by omega
      rw [hidx]
      clear hy hcell hpre hsn hx HY hCr hidx
      unfold encF at c2 hy'
      gi_wp2
      refine hR.mono ?_
      rintro ee W' ⟨rfl, hj', hf'⟩
      have HF' := Aside0.mk (HF.out.trans' hf')
      have HJ' := Aside0.mk hj'
      clear hj' hf'
      gi_wp2
      go_roundw
      case rel => exact ⟨m, by omega, rfl, ⟨by rw [HSN.out]; exact HJ'.out⟩, HF'⟩
      case measure => simp only [intOf]; omega

theorem Backward_any (w : World) (v : Value) (hv : v.oneCell' = true) : Calls Try.prog 133 #[v] w fun e w' => e = .returned (.func (.func 135) #[] #[.pointer (some ⟨w.heap.size, 0, none⟩)]) ∧ w' = w.alloc (.cells #[v] 36) := by
  go_enter Try.func133, Try.ntmps133
  go_wp2
  go_ret
  exact ⟨rfl, rfl⟩
/-- Drawn, and nothing else. -/
theorem xorF (a b : F) : bits .xor .u8 (a.v : Int) (b.v : Int) = ((a + b).v : Int) := u8_xor a.v b.v a.lt b.lt
theorem MulF (w : World) (g : Nat) (a b : F) (hF : Fld w g) : Calls Try.prog 31 #[.pointer (some ⟨g, 0, none⟩), .int .u8 (a.v : Int), .int .u8 (b.v : Int)] w fun e w' => e = .returned (.int .u8 ((a * b).v : Int)) ∧ Drawn0 w w' := Mul_any w g a.v b.v hF a.lt b.lt
theorem fld_lt {w : World} {g : Nat} (h : Fld w g) : g < w.heap.size := by
  obtain ⟨cs, hc, _⟩ := h
  exact blk_lt hc
/-- So far summed. -/
def EvI (x : F) (w2 : World) (o : Nat) (pre : List (Nat × F)) (W : World) : Prop := W.heap[o]? = some (.cells #[.int .u8 ((horner x pre).v : Int)] 5 (0, 0)) ∧ Fr (fun k => k = o) w2 W

set_option maxRecDepth 100000 in
set_option maxHeartbeats 1600000 in
theorem Eval_any (w : World) (g : Nat) (A : Option Addr) (n c : Nat) (p : List F) (x : F) (hF : Fld w g) (hC : Kd.C fk w A n p) (hl : n ≤ 1099511627776) :
    Calls Try.prog 122 #[.pointer (some ⟨g, 0, none⟩), .slice A n c, .int .u8 (x.v : Int)] w fun e w' => e = .returned (.int .u8 ((ev p x).v : Int)) ∧ Fr (fun _ => False) w w' := by
  obtain rfl : p.length = n := Kd.C_len hC
  have HC := Aside0.mk hC
  have HF := Aside0.mk hF
  clear hC hF
  refine (callsIn_wide (n := 3)).1 (callsIn_of_wp_marks Try.func122 rfl trivial ?_ rfl)
  simp only [Try.ntmps122, List.size_toArray, List.length_cons, List.length_nil, Nat.reduceAdd, Nat.reduceSub, Array.replicate_succ, Array.replicate_zero, List.push_toArray, List.append_toArray, List.nil_append, List.cons_append]
  gi_wp2_with (refine ⟨trivial, ?_⟩; gi_at_call 133; refine (callsIn_wide.2 (Backward_any _ _ rfl)).mono ?_; rintro e W' ⟨rfl, rfl⟩)
  obtain ⟨w2, hw2, hz2, g0, g1, g2, g3, hb2⟩ := heap4 w (Obj.cells #[Value.pointer (some { block := g, off := 0 })] 23) (Obj.cells #[Value.int IntKind.u8 x.v] 5) (Obj.cells #[Value.int IntKind.u8 0] 5) (Obj.cells #[Value.slice A p.length c] 36)
  rw [← hw2]
  clear hw2
  have HF2 := Aside0.mk (HF.out.fr (Fr.of_below hb2 (fun _ => False)) (fun h => h))
  have HC2 := Aside0.mk (Kd.C_below HC.out hb2)
  have hgs : g < w.heap.size := fld_lt HF.out
  have hAs : ∀ ad, A = some ad → 0 < p.length → ad.block < w.heap.size := fun ad ha hn => by
    obtain ⟨ad', e, hc⟩ := (Kd.reads_of_C (enc := encF) (d := (0 : F)) (h1 := fun _ => rfl) HC.out).2.2 hn
    rw [ha] at e
    injection e with e
    subst e
    have h1 := World.block_lt_of_cell? w _ (hc 0 hn)
    rwa [add_zero'] at h1
  obtain ⟨s, hs⟩ : ∃ s, s = w.heap.size := ⟨_, rfl⟩
  rw [← hs] at hz2 g0 g1 g2 g3 hgs hAs ⊢
  refine range_fr (P := Try.prog) (gf := 135) (lb := #[.pointer (some ⟨s + 1 + 1 + 1, 0, none⟩)]) rfl (fun _ _ => rfl) (encs := pairF) (Rel := fun pre x _ => pre.length < p.length ∧ x = (p.length - 1 - pre.length, p.getD (p.length - 1 - pre.length) 0)) (S := fun j => j = s + 1 + 1) (Full := fun xs => xs = backTo p 0)
    (back_seq _ w2 (s + 1 + 1 + 1) A p.length c p HC2.out hl g3 (by omega) (fun ad ha hn h => by have := hAs ad ha hn; omega)) (fun _ => rfl) (fun j hj => by omega)
    (EvI x w2 (s + 1 + 1)) ?_ (fun pre y W W' h _ => h) ⟨g2, Fr.refl _ _⟩
    (fun y => { tmps := #[Value.pointer (some { block := g, off := 0 }), Value.slice A p.length c, Value.int IntKind.u8 ↑x.v,
          Value.pointer (some { block := s, off := 0 }), undef,
          Value.pointer (some { block := s + 1, off := 0 }), Value.int IntKind.u8 0,
          Value.pointer (some { block := s + 1 + 1, off := 0 }), undef, encF y.2, Value.slice A p.length c,
          Value.func (Fn.func 135) #[] #[Value.pointer (some { block := s + 1 + 1 + 1, off := 0 })], .int .i64 (y.1 : Int),
          encF y.2, undef, undef, undef, undef, undef, undef, undef], defers := [] }) ?_ ?_ ?_
  · rintro pre W W' ⟨hv, hf⟩ hk
    exact ⟨hk.blk hv (fun h => by omega), hf.trans hk (fun k h => .inr h.1)⟩
  · intro l pre y W K hr hK
    clear hr
    subst hs
    rw [show pairF y = #[.int .i64 (y.1 : Int), encF y.2] from rfl, zip2]
    gi_wp2
    exact hK
  · rintro l pre y W hsz ⟨hv, hf⟩ -
    have c0 : W.cell? ⟨s, 0, none⟩ = some (.pointer (some ⟨g, 0, none⟩)) := cell_at (hf.blk g0 (by omega)) rfl
    have c1 : W.cell? ⟨s + 1, 0, none⟩ = some (.int .u8 (x.v : Int)) := cell_at (hf.blk g1 (by omega)) rfl
    obtain ⟨h0, hh0⟩ : ∃ h0, h0 = horner x pre := ⟨_, rfl⟩
    rw [← hh0] at hv
    have c2 : W.cell? ⟨s + 1 + 1, 0, none⟩ = some (.int .u8 (h0.v : Int)) := cell_at hv rfl
    have z2 : W.frozen? ⟨s + 1 + 1, 0, none⟩ = false := frozen_at hv
    have HM := Aside0.mk (MulF W g h0 x (HF2.out.fr hf (by omega)))
    have HV := Aside0.mk hv
    have HFr := Aside0.mk hf
    have HH := Aside0.mk hh0
    have HX := Aside0.mk (xorF (h0 * x) y.2)
    obtain ⟨m, hm⟩ : ∃ m, m = h0 * x := ⟨_, rfl⟩
    rw [← hm] at HM HX
    have HMM := Aside0.mk hm
    have HS := Aside0.mk hs
    clear hv hf hh0 g0 g1 g2 g3 hm hz2 hs
    unfold encF
    gi_wp2_with (refine ⟨trivial, ?_⟩; gi_at_call 31; refine (CallsIn.inRound l (callsIn_wide.2 HM.out)).mono ?_; rintro e W' ⟨rfl, ⟨k, rfl⟩⟩)
    rw [HX.out]
    gi_wp2
    refine ⟨((((Fr.refl _ W).drewN k).set_ (p := ⟨s + 1 + 1, 0, none⟩) (.inl (.inl rfl)) _)), ?_, (HFr.out.drewN k).set_ (p := ⟨s + 1 + 1, 0, none⟩) (.inl rfl) _⟩
    rw [horner_snoc, ← HH.out, ← HMM.out]
    exact blk_set (blk_drewN HV.out k) 0 _
  · rintro ys W hF ⟨hv, hf⟩ hK
    subst hF
    rw [horner_all] at hv
    have c1 : W.cell? ⟨s + 1 + 1, 0, none⟩ = some (.int .u8 ((ev p x).v : Int)) := cell_at hv rfl
    have hfw : Fr (fun _ => False) w W := (Fr.of_below hb2 _).trans hf (fun k hk => .inr (by omega))
    obtain ⟨D, hD⟩ : ∃ D, D = w2.heap.size := ⟨_, rfl⟩
    have HF := Aside0.mk hfw
    have HD := Aside0.mk (show w.heap.size ≤ D by omega)
    rw [← hD] at hK ⊢
    clear hf hfw hz2 hv g0 g1 g2 g3 hD
    subst hs
    gi_wp2
    refine ⟨by simp, .inl ⟨_, _, rfl, run_takeDeferred hK, ?_⟩⟩
    refine ⟨_, results_tmp rfl _ _ _, rfl, ?_⟩
    exact HF.out.trans (fr_shut W D _) (fun i hi => .inr (by have := HD.out; omega))
end Go.Proofs.Ytpeiejkcoadhfaa
/- poly.Add, Mul, Roots. -/
namespace Go.Proofs.Ytpeiejkcoadhfaa
open Go.RowKit Go.Shelf Go.Proofs.YtpeiejkcoadhfaaW.PrintWords Go.Proofs.YtpeiejkcoadhfaaW.PrintMore

theorem cf_set (l : List F) (k : Nat) (v : F) (h : k < l.length) (i : Nat) : cf (l.set k v) i = if i = k then v else cf l i := by
  unfold cf
  rw [List.getD_eq_getElem?_getD, List.getD_eq_getElem?_getD, List.getElem?_set]
  by_cases hi : k = i
  · subst hi
    rw [if_pos rfl, if_pos h, if_pos rfl]; rfl
  · rw [if_neg hi, if_neg (fun e => hi e.symm)]
/-- A polynomial that is read, in new memory. -/
def RF (w : World) (base : Nat) (B : Option Addr) (q : List F) : Prop := Kd.C fk w B q.length q ∧ (0 < q.length → ∀ j, OB B j → base ≤ j ∧ ∃ cells, w.heap[j]? = some (.cells cells 5 (0, 0)))
theorem RF_of_R {w : World} {base : Nat} {ok : Nat → Prop} {B : Option Addr} {n c : Nat} {q : List F} (h : Kd.R fk 5 w base ok (.slice B n c) q) : RF w base B q := by
  have h1 := Kd.R_reads' h
  refine ⟨h1.2.2, fun _ j hj => ⟨(ob_base (Kd.Q_of_R h) j hj).1, Kd.R_typed h j (ob_own hj)⟩⟩
theorem RF_trim {w : World} {base : Nat} {B : Option Addr} {q : List F} (h : RF w base B q) : RF w base B (trimP q) := by
  have hle := trim_length q
  have h1 := to_C (0 : F) (trimP q).length h.1 hle
  rw [trim_take] at h1
  exact ⟨h1, fun hp => h.2 (by omega)⟩
theorem RF_lower {w : World} {base base' : Nat} {B : Option Addr} {q : List F} (h : RF w base B q) (hb : base' ≤ base) : RF w base' B q :=
  ⟨h.1, fun hp j hj => ⟨Nat.le_trans hb (h.2 hp j hj).1, (h.2 hp j hj).2⟩⟩
theorem C_fr' {S : Nat → Prop} {w w1 : World} {A : Option Addr} {n : Nat} {p : List F} (h : Kd.C fk w A n p) (hf : Fr S w w1) (hs : ∀ j, OB A j → 0 < n → ¬ S j) : Kd.C fk w1 A n p :=
  C_fr (0 : F) h hf (fun ad ha hn => hs ad.block ⟨ad, ha, rfl⟩ hn)
theorem RF_fr {S : Nat → Prop} {w w1 : World} {base : Nat} {B : Option Addr} {q : List F} (h : RF w base B q) (hf : Fr S w w1) (hs : ∀ j, base ≤ j → j < w.heap.size → ¬ S j) : RF w1 base B q := by
  refine ⟨C_fr' h.1 hf (fun j hj hn => ?_), fun hp j hj => ?_⟩
  · obtain ⟨h1, cells, h2⟩ := h.2 hn j hj
    exact hs j h1 (blk_lt h2)
  · obtain ⟨h1, cells, h2⟩ := h.2 hp j hj
    exact ⟨h1, cells, hf.blk h2 (hs j h1 (blk_lt h2))⟩
theorem RF_len {w : World} {base : Nat} {B : Option Addr} {p q : List F} (h : RF w base B p) (e : p = q) : RF w base B q := e ▸ h

set_option maxRecDepth 100000 in
set_option maxHeartbeats 800000 in
theorem Add_le (w : World) (A B : Option Addr) (n m c d : Nat) (p q : List F) (hp : Kd.C fk w A n p) (hq : Kd.C fk w B m q) (hnm : m ≤ n) (hl : n ≤ 1099511627776) (X Y : Value) (hX : (X = .slice A n c ∧ Y = .slice B m d) ∨ (X = .slice B m d ∧ Y = .slice A n c ∧ m < n)) :
    Calls Try.prog 86 #[X, Y] w fun e w' => ∃ D, e = .returned (.slice D (trimP (addP p q)).length (trimP (addP p q)).length) ∧ RF w' w.heap.size D (trimP (addP p q)) ∧ Fr (fun _ => False) w w' := by
  have hpn := Kd.C_len hp
  have hqn := Kd.C_len hq
  have HK := Aside0.mk (Clone_any w A n c p hp (by omega))
  have HQ := Aside0.mk hq
  have HP := Aside0.mk hpn
  have HQN := Aside0.mk hqn
  clear hp hq hpn hqn
  have core : ∀ (Q : Exit → Act → World → Prop), True := fun _ => trivial
  clear core
  rcases hX with ⟨rfl, rfl⟩ | ⟨rfl, rfl, hlt⟩
  all_goals
    go_enter Try.func86, Try.ntmps86
    go_wp2_with (go_at_call 95; refine HK.out.mono ?_; rintro e w1 ⟨A', c', rfl, hR, hb⟩)
    have HR := Aside0.mk hR
    have HB := Aside0.mk hb
    have HC := Aside0.mk (Kd.C_below HQ.out hb)
    clear hR hb
    go_loopw [19] (fun v19 wr => ∃ (k : Nat) (zs : List F), k ≤ m ∧ v19 = .int .i64 k ∧ Aside0 (zs.length = n ∧ ∀ i, cf zs i = cf p i + (if i < k then cf q i else 0)) ∧ Aside0 (Kd.R fk 5 wr w.heap.size (fun _ => True) (.slice A' n c') zs) ∧ Aside0 (Fr (fun j => OB A' j) w1 wr)) (fun v19 _ => m - (intOf v19).toNat)
    case atStart => exact ⟨0, p, by omega, rfl, ⟨HP.out, fun i => by rw [if_neg (by omega), F.add_zero]⟩, HR, ⟨Fr.refl _ _⟩⟩
    case round =>
      obtain ⟨k, zs, hk, rfl, HZ, HR2, HF⟩ := hrel
      by_cases hkm : k < m
      · obtain ⟨gb, rfl, hgb, _, _, hx, hfz, hset⟩ := R_at (0 : F) HR2.out k (by omega)
        have hqc : Kd.C fk wr B m q := C_fr' HC.out HF.out (fun j hj hn hob => by
          have h1 := (ob_base (Kd.Q_of_R HR.out) j hob).1
          obtain ⟨ad, e, hc⟩ := (Kd.reads_of_C (enc := encF) (d := (0 : F)) (h1 := fun _ => rfl) HQ.out).2.2 hn
          obtain ⟨ad', e', rfl⟩ := hj
          rw [e'] at e
          injection e with e
          subst e
          have h2 := World.block_lt_of_cell? w _ (hc 0 hn)
          rw [add_zero'] at h2
          omega)
        obtain ⟨ad, rfl, hcell⟩ := (Kd.reads_of_C (enc := encF) (d := (0 : F)) (h1 := fun _ => rfl) hqc).2.2 (by omega)
        have hqk := hcell k hkm
        have hz1 : zs.getD k 0 = p.getD k 0 := by
          have := HZ.out.2 k
          rw [if_neg (by omega), F.add_zero] at this
          exact this
        rw [hz1] at hx
        obtain ⟨a, ha⟩ : ∃ a, a = p.getD k 0 := ⟨_, rfl⟩
        obtain ⟨b, hb⟩ : ∃ b, b = q.getD k 0 := ⟨_, rfl⟩
        rw [← ha] at hx
        rw [← hb] at hqk
        have hxr := xorF a b
        have HS := Aside0.mk (hset (a + b))
        have HZ2 : Aside0 ((zs.set k (a + b)).length = n ∧ ∀ i, cf (zs.set k (a + b)) i = cf p i + (if i < k + 1 then cf q i else 0)) := ⟨by rw [List.length_set]; exact HZ.out.1, fun i => by
          rw [cf_set _ _ _ (by rw [HZ.out.1]; omega)]
          by_cases hik : i = k
          · subst hik
            rw [if_pos rfl, if_pos (by omega), ha, hb]; rfl
          · rw [if_neg hik, HZ.out.2 i]
            by_cases h1 : i < k
            · rw [if_pos h1, if_pos (by omega)]
            · rw [if_neg h1, if_neg (by omega)]⟩
        unfold encF at hx hqk
        have hknI : (k : Int) < (n : Int) := by omega
        clear hset hz1 ha hb hcell hqc
        go_wp2
        go_roundw
        case rel => exact ⟨k + 1, _, by omega, by go_num, HZ2, HS, ⟨HF.out.set_ (p := ⟨gb, k, none⟩) (.inl ⟨_, rfl, rfl⟩) _⟩⟩
        case measure => simp [intOf]; omega
      · obtain rfl : k = m := by omega
        have hcr := R_C HR2.out
        have hcd : n ≤ c' := (Kd.R_reads' HR2.out).2.1
        have HT := Aside0.mk (trim_any wr A' n c' zs hcr hcd hl)
        have he : trimP zs = trimP (addP p q) := trim_eqv _ _ (fun i => by
          rw [HZ.out.2 i, cf_add]
          by_cases h1 : i < k
          · rw [if_pos h1]
          · rw [if_neg h1, cf_ge q i (by rw [HQN.out]; omega)])
        rw [he] at HT
        have HE := Aside0.mk he
        clear hcr he
        go_wp2_with (go_at_call 123; refine HT.out.mono ?_; rintro e w2 ⟨rfl, hd⟩)
        go_ret
        refine ⟨A', rfl, ?_, ?_⟩
        · have h1 := RF_len (RF_trim (RF_of_R HR2.out)) HE.out
          obtain ⟨j, rfl⟩ := hd
          exact RF_fr h1 ((Fr.refl (fun _ => False) wr).drewN j) (fun _ _ _ h => h)
        · have h1 : Fr (fun _ => False) w wr := (Fr.of_below HB.out (fun _ => False)).trans HF.out (fun j hj => .inr (ob_base (Kd.Q_of_R HR.out) j hj).1)
          exact h1.below_ hd.below
theorem Add_any (w : World) (A B : Option Addr) (n m c d : Nat) (p q : List F) (hp : Kd.C fk w A n p) (hq : Kd.C fk w B m q) (hl : n ≤ 1099511627776) (hl2 : m ≤ 1099511627776) :
    Calls Try.prog 86 #[.slice A n c, .slice B m d] w fun e w' => ∃ D, e = .returned (.slice D (trimP (addP p q)).length (trimP (addP p q)).length) ∧ RF w' w.heap.size D (trimP (addP p q)) ∧ Fr (fun _ => False) w w' := by
  rcases Nat.lt_or_ge n m with h | h
  · have e : trimP (addP p q) = trimP (addP q p) := trim_eqv _ _ (fun i => by rw [cf_add, cf_add, F.add_comm])
    rw [e]
    exact Add_le w B A m n d c q p hq hp (by omega) hl2 _ _ (.inr ⟨rfl, rfl, h⟩)
  · exact Add_le w A B n m c d p q hp hq h hl _ _ (.inl ⟨rfl, rfl⟩)
end Go.Proofs.Ytpeiejkcoadhfaa
/- poly.Mul, Roots. -/
namespace Go.Proofs.Ytpeiejkcoadhfaa
open Go.RowKit Go.Shelf Go.Proofs.YtpeiejkcoadhfaaW.PrintWords Go.Proofs.YtpeiejkcoadhfaaW.PrintMore
open Go.BigFrame

theorem cf_mul_take : ∀ (p q : List F) (k i : Nat), cf (mulP (p.take (k + 1)) q) i = cf (mulP (p.take k) q) i + (if k ≤ i then cf p k * cf q (i - k) else 0)
  | [], q, k, i => by simp [mulP, cf_nil, F.zero_mul, F.add_zero]
  | a :: p, q, 0, i => by
    simp only [List.take_succ_cons, List.take_zero, mulP, cf_add, cf_sc, cf_nil, F.zero_add, Nat.zero_le, if_true, cf_zero, Nat.sub_zero]
    cases i with
    | zero => rw [cf_zero, F.add_zero]
    | succ i => rw [cf_succ, cf_nil, F.add_zero]
  | a :: p, q, k + 1, i => by
    simp only [List.take_succ_cons, mulP, cf_add, cf_sc, F.add_assoc]
    congr 1
    cases i with
    | zero => rw [cf_zero, cf_zero, if_neg (by omega), F.add_zero]
    | succ i =>
      rw [cf_succ, cf_succ, cf_mul_take p q k i, cf_succ]
      by_cases h : k ≤ i
      · rw [if_pos h, if_pos (by omega), show i + 1 - (k + 1) = i - k by omega]
      · rw [if_neg h, if_neg (by omega)]
theorem mul_take_all (p q : List F) : mulP (p.take p.length) q = mulP p q := by rw [List.take_length]
/-- So far multiplied: k rows, j of the next one. -/
def MulSt (p q zs : List F) (k j : Nat) : Prop := zs.length = p.length + q.length ∧ ∀ i, i < p.length + q.length → cf zs i = cf (mulP (p.take k) q) i + (if k ≤ i ∧ i < k + j then cf p k * cf q (i - k) else 0)
theorem mulSt_start (p q : List F) : MulSt p q (List.replicate (p.length + q.length) 0) 0 0 := by
  refine ⟨by simp, fun i _ => ?_⟩
  rw [if_neg (by omega), F.add_zero, List.take_zero]
  unfold cf
  rw [List.getD_eq_getElem?_getD, List.getElem?_replicate]
  split <;> rfl
theorem mulSt_step {p q zs : List F} {k j : Nat} (h : MulSt p q zs k j) (hk : k < p.length) (hj : j < q.length) (v : F) (hv : v = cf zs (k + j) + cf p k * cf q j) : MulSt p q (zs.set (k + j) v) k (j + 1) := by
  obtain ⟨h1, h2⟩ := h
  refine ⟨by rw [List.length_set]; exact h1, fun i hi => ?_⟩
  rw [cf_set _ _ _ (by omega)]
  by_cases e : i = k + j
  · subst e
    rw [if_pos rfl, hv, h2 _ hi, if_neg (by omega), F.add_zero, if_pos (by omega), Nat.add_sub_cancel_left]
  · rw [if_neg e, h2 i hi]
    by_cases h3 : k ≤ i ∧ i < k + j
    · rw [if_pos h3, if_pos (by omega)]
    · rw [if_neg h3, if_neg (by omega)]
theorem mulSt_row {p q zs : List F} {k : Nat} (h : MulSt p q zs k q.length) : MulSt p q zs (k + 1) 0 := by
  obtain ⟨h1, h2⟩ := h
  refine ⟨h1, fun i hi => ?_⟩
  rw [h2 i hi, cf_mul_take, if_neg (show ¬ (k + 1 ≤ i ∧ i < k + 1 + 0) by omega), F.add_zero]
  by_cases h3 : k ≤ i
  · rw [if_pos h3]
    by_cases h4 : i < k + q.length
    · rw [if_pos ⟨h3, h4⟩]
    · rw [if_neg (by omega), cf_ge q (i - k) (by omega), F.mul_zero]
  · rw [if_neg h3, if_neg (by omega)]
theorem mulSt_end {p q zs : List F} (h : MulSt p q zs p.length 0) : trimP zs = trimP (mulP p q) := by
  refine trim_eqv _ _ (fun i => ?_)
  rcases Nat.lt_or_ge i (p.length + q.length) with hi | hi
  · rw [h.2 i hi, mul_take_all, if_neg (by omega), F.add_zero]
  · rw [cf_ge zs i (by rw [h.1]; exact hi)]
    cases p with
    | nil => rfl
    | cons a p =>
      exact (cf_mul_ge (a :: p) q (p.length + 1) q.length (fun j hj => cf_ge _ _ (by simpa using hj)) (fun j hj => cf_ge _ _ hj) i (by simp at hi; omega) (by omega)).symm

theorem R_zerosF (W : World) (base : Nat) (ok : Nat → Prop) (k : Nat) (hk : k ≤ 281474976710656) (hb : base ≤ W.heap.size) (hok : ok W.heap.size) : Kd.R fk 5 (W.alloc (.cells (Array.replicate k (.int .u8 0)) 5)) base ok (.slice (some ⟨W.heap.size, 0, none⟩) k k) (List.replicate k 0) := by
  refine Kd.R_of_own ?_ (fun j hj => ?_)
  · refine ⟨by rw [encs_length, Nat.mul_one], .inr ⟨W.heap.size, k, Array.replicate k (.int .u8 0), by simp, hb, blk_new _ _, by simp, by simp only [maxLen]; omega, by simp, ?_⟩⟩
    simp [encs, encF, F.zero_v]
  · have : W.heap.size = j := by simpa [Value.ownBlock] using hj
    exact this ▸ hok
/-- A byte that is read, behind a frame of new blocks. -/
theorem C_at {w wr : World} {A : Option Addr} {n : Nat} {p : List F} {S : Nat → Prop} (h : Kd.C fk w A n p) (hf : Fr S w wr) (hS : ∀ j, S j → w.heap.size ≤ j) (k : Nat) (hk : k < n) : ∃ ad, A = some ad ∧ wr.cell? (ad.add k) = some (.int .u8 ((p.getD k 0).v : Int)) := by
  obtain ⟨ad, e, hc⟩ := (Kd.reads_of_C (enc := encF) (d := (0 : F)) (h1 := fun _ => rfl) h).2.2 (by omega)
  refine ⟨ad, e, hf.cell (hc k hk) (fun hb => ?_)⟩
  have h1 := World.block_lt_of_cell? w _ (hc k hk)
  have := hS _ hb
  omega

set_option maxRecDepth 100000 in
set_option maxHeartbeats 1600000 in
theorem MulP_any (w : World) (g : Nat) (A B : Option Addr) (n m c d : Nat) (p q : List F) (hF : Fld w g) (hp : Kd.C fk w A n p) (hq : Kd.C fk w B m q) (hl : n + m ≤ 1099511627776) :
    Calls Try.prog 87 #[.pointer (some ⟨g, 0, none⟩), .slice A n c, .slice B m d] w fun e w' => ∃ D, e = .returned (.slice D (trimP (mulP p q)).length (trimP (mulP p q)).length) ∧ RF w' w.heap.size D (trimP (mulP p q)) ∧ Fr (fun _ => False) w w' := by
  have hpn := Kd.C_len hp
  have hqn := Kd.C_len hq
  have HP := Aside0.mk hp
  have HQ := Aside0.mk hq
  have HPN := Aside0.mk hpn
  have HQN := Aside0.mk hqn
  have HF := Aside0.mk hF
  have hmk := fun W : World => make_u8 (P := Try.prog) 36 5 Try.underlying36 info5 (n + m) (by omega) W
  rw [Int.natCast_add] at hmk
  have hR0 := R_zerosF w w.heap.size (fun _ => True) (n + m) (by omega) (Nat.le_refl _) trivial
  have HR0 := Aside0.mk hR0
  have H0 : Aside0 (MulSt p q (List.replicate (n + m) 0) 0 0) := ⟨by rw [← hpn, ← hqn]; exact mulSt_start p q⟩
  clear hp hq hpn hqn hF hR0
  go_enter Try.func87, Try.ntmps87
  go_wp2
  go_loopw [20] (fun v20 wr => ∃ (k : Nat) (zs : List F), k ≤ n ∧ v20 = .int .i64 k ∧ Aside0 (MulSt p q zs k 0) ∧ Aside0 (Kd.R fk 5 wr w.heap.size (fun _ => True) (.slice (some ⟨w.heap.size, 0, none⟩) (n + m) (n + m)) zs) ∧ Aside0 (Below w.heap.size w wr)) (fun v20 _ => n - (intOf v20).toNat)
  case atStart => exact ⟨0, _, by omega, rfl, H0, HR0, ⟨below_alloc (Below.refl _ _) _⟩⟩
  case round =>
    clear H0 HR0 hmk
    obtain ⟨k, zs, hk, rfl, HZ, HR, HB⟩ := hrel
    obtain ⟨wo, rfl⟩ : ∃ wo : World, wo = wr := ⟨_, rfl⟩
    by_cases hlt : k < n
    · obtain ⟨adA, rfl, hca⟩ := C_at HP.out (Fr.of_below HB.out (fun _ => False)) (fun _ h => h.elim) k hlt
      obtain ⟨a, ha⟩ : ∃ a, a = p.getD k 0 := ⟨_, rfl⟩
      rw [← ha] at hca
      have HAA := Aside0.mk ha
      clear ha
      go_wp2
      go_loopw [27] (fun v27 wr => ∃ (j : Nat) (ys : List F), j ≤ m ∧ v27 = .int .i64 j ∧ Aside0 (MulSt p q ys k j) ∧ Aside0 (Kd.R fk 5 wr w.heap.size (fun _ => True) (.slice (some ⟨w.heap.size, 0, none⟩) (n + m) (n + m)) ys) ∧ Aside0 (Below w.heap.size w wr)) (fun v27 _ => m - (intOf v27).toNat)
      case atStart => exact ⟨0, zs, by omega, rfl, HZ, HR, HB⟩
      case round =>
        clear HZ HR HB hca
        obtain ⟨j, ys, hj, rfl, HY, HR, HB⟩ := hrel
        by_cases hjm : j < m
        · obtain ⟨adB, rfl, hcb⟩ := C_at HQ.out (Fr.of_below HB.out (fun _ => False)) (fun _ h => h.elim) j hjm
          obtain ⟨b, hb⟩ : ∃ b, b = q.getD j 0 := ⟨_, rfl⟩
          obtain ⟨gb, e, _, _, _, hx, hfz, hset⟩ := R_at (0 : F) HR.out (k + j) (by omega)
          injection e with e
          injection e with e _ _
          subst e
          obtain ⟨z, hz⟩ : ∃ z, z = ys.getD (k + j) 0 := ⟨_, rfl⟩
          rw [← hz] at hx
          rw [← hb] at hcb
          have hst := mulSt_step HY.out (by rw [HPN.out]; exact hlt) (by rw [HQN.out]; exact hjm) (z + a * b) (by rw [hz, HAA.out, hb]; rfl)
          have hxr := xorF z (a * b)
          have HS := Aside0.mk (And.intro hst (hset (z + a * b)))
          have HFW := Aside0.mk (HF.out.fr (Fr.of_below HB.out (fun _ => False)) (fun h => h))
          have HMU := Aside0.mk (fun t => MulF (wr.drewN t) g a b (HFW.out.drew))
          unfold encF at hx
          have hkj : (k : Int) + (j : Int) < (n : Int) + (m : Int) := by omega
          have hkj0 : (0 : Int) ≤ (k : Int) + (j : Int) := by omega
          have hkjn : ((k : Int) + (j : Int)).toNat = k + j := by omega
          have hwr : IntKind.i64.wrap ((k : Int) + (j : Int)) = (k : Int) + (j : Int) := IntWalk.i64_in _ ⟨by omega, by omega⟩
          generalize a * b = ab at HS hxr HMU
          clear hset hst hz hb
          go_wp2
          refine wp_region_drawn_tail 11 (by kernel_rfl) (by kernel_rfl) ?_
          simp only [List.take_succ_cons, List.take_zero, List.drop_succ_cons, List.drop_zero]
          repeat (first | go_big_quiet_skip | (go_big_quiet_want; go_big_quiet_op; first | go_big_quiet_on | (apply Exists.intro; refine ⟨fun t => ?_, ?_⟩; (go_at_call 31; exact quiet_drawn (HMU.out t)); go_big_quiet_on)))
          refine wpQuiet_nil ?_
          rintro _ ⟨t, rfl⟩
          go_wp2
          go_roundw
          case rel => exact ⟨j + 1, _, by omega, by go_num, ⟨HS.out.1⟩, ⟨Kd.R_drewN HS.out.2 t⟩, ⟨below_drawN (HB.out.setCell (p := ⟨w.heap.size, k + j, none⟩) (Nat.le_refl _) _) t⟩⟩
          case measure => simp [intOf]; omega
        · obtain rfl : j = m := by omega
          have hst : Aside0 (MulSt p q ys (k + 1) 0) := ⟨mulSt_row (HQN.out.symm ▸ HY.out)⟩
          go_wp2
          go_roundw
          case rel => exact ⟨k + 1, ys, by omega, by go_num, hst, HR, HB⟩
          case measure => simp [intOf]; omega
    · obtain rfl : k = n := by omega
      have he := mulSt_end (HPN.out.symm ▸ HZ.out : MulSt p q zs p.length 0)
      have HT := Aside0.mk (trim_any wo (some ⟨w.heap.size, 0, none⟩) (k + m) (k + m) zs (R_C HR.out) (Nat.le_refl _) hl)
      rw [he] at HT
      have HE := Aside0.mk he
      clear he
      go_wp2_with (go_at_call 123; refine HT.out.mono ?_; rintro e w2 ⟨rfl, hd⟩)
      go_ret
      refine ⟨_, rfl, ?_, (Fr.of_below HB.out _).below_ hd.below⟩
      have h1 := RF_len (RF_trim (RF_of_R HR.out)) HE.out
      obtain ⟨j, rfl⟩ := hd
      exact RF_fr h1 ((Fr.refl (fun _ => False) wo).drewN j) (fun _ _ _ h => h)
end Go.Proofs.Ytpeiejkcoadhfaa
/- poly.Roots, Div. -/
namespace Go.Proofs.Ytpeiejkcoadhfaa
open Go.RowKit Go.Shelf Go.Proofs.YtpeiejkcoadhfaaW.PrintWords Go.Proofs.YtpeiejkcoadhfaaW.PrintMore
open Go.BigFrame

theorem R_litF (W : World) (base : Nat) (ok : Nat → Prop) (p : List F) (hn : p.length ≤ 1000) (hb : base ≤ W.heap.size) (hok : ok W.heap.size) : Kd.R fk 5 (W.alloc (.cells (p.map encF).toArray 5)) base ok (.slice (some ⟨W.heap.size, 0, none⟩) p.length p.length) p := by
  refine Kd.R_of_own ?_ (fun j hj => ?_)
  · exact own_lit_of W base 5 p hb (by omega)
  · have : W.heap.size = j := by simpa [Value.ownBlock] using hj
    exact this ▸ hok
set_option maxRecDepth 100000 in
set_option maxHeartbeats 800000 in
theorem Roots_any (w : World) (g : Nat) (A : Option Addr) (n c : Nat) (xs : List F) (hF : Fld w g) (hx : Kd.C fk w A n xs) (hl : n ≤ 1000000) :
    Calls Try.prog 83 #[.pointer (some ⟨g, 0, none⟩), .slice A n c] w fun e w' => ∃ D, e = .returned (.slice D (n + 1) (n + 1)) ∧ RF w' w.heap.size D (roots xs) ∧ Fr (fun _ => False) w w' := by
  have hxn := Kd.C_len hx
  have HX := Aside0.mk hx
  have HXN := Aside0.mk hxn
  have HF := Aside0.mk hF
  have HR0 := Aside0.mk (RF_of_R (R_litF w w.heap.size (fun _ => True) [1] (by decide) (Nat.le_refl _) trivial))
  clear hx hxn hF
  go_enter Try.func83, Try.ntmps83
  go_wp2
  go_loopw [5, 11] (fun v5 v11 wr => ∃ (k L : Nat) (D : Option Addr), k ≤ n ∧ v11 = .int .i64 k ∧ v5 = .slice D L L ∧ Aside0 (L = k + 1) ∧ Aside0 (RF wr w.heap.size D (roots (xs.take k))) ∧ Aside0 (Below w.heap.size w wr)) (fun _ v11 _ => n - (intOf v11).toNat)
  case atStart => exact ⟨0, 1, some ⟨w.heap.size, 0, none⟩, by omega, rfl, rfl, ⟨rfl⟩, HR0, ⟨below_alloc (Below.refl _ _) _⟩⟩
  case round =>
    clear HR0
    obtain ⟨k, L, D, hk, rfl, rfl, HL, HR, HB⟩ := hrel
    by_cases hlt : k < n
    · obtain ⟨ad, rfl, hc⟩ := C_at HX.out (Fr.of_below HB.out (fun _ => False)) (fun _ h => h.elim) k hlt
      obtain ⟨x, hx⟩ : ∃ x, x = xs.getD k 0 := ⟨_, rfl⟩
      rw [← hx] at hc
      have hrl := roots_length (xs.take k)
      have htl : (xs.take k).length = k := by rw [List.length_take, HXN.out]; omega
      rw [htl, ← HL.out] at hrl
      have hb1 : Below wr.heap.size wr (wr.alloc (.cells #[.int .u8 (x.v : Int), .int .u8 1] 5)) := below_alloc (Below.refl _ _) _
      have hq := R_C (R_litF wr wr.heap.size (fun _ => True) (lin x) (by simp [lin]) (Nat.le_refl _) trivial)
      have c1 := MulP_any (wr.alloc (.cells #[.int .u8 (x.v : Int), .int .u8 1] 5)) g D (some ⟨wr.heap.size, 0, none⟩) L 2 L 2 (roots (xs.take k)) (lin x) ((HF.out.fr (Fr.of_below HB.out (fun _ => False)) (fun h => h)).fr (Fr.of_below hb1 (fun _ => False)) (fun h => h)) (by rw [← hrl]; exact Kd.C_below HR.out.1 hb1) hq (by have := HL.out; omega)
      have hsn : trimP (mulP (roots (xs.take k)) (lin x)) = roots (xs.take (k + 1)) := by
        rw [List.take_add_one, List.getElem?_eq_getElem (by rw [HXN.out]; exact hlt), Option.toList_some, roots_snoc, hx, List.getD_eq_getElem?_getD, List.getElem?_eq_getElem (by rw [HXN.out]; exact hlt)]
        rfl
      have hrl2 : (roots (xs.take (k + 1))).length = k + 2 := by rw [roots_length, List.length_take, HXN.out]; omega
      rw [hsn, hrl2] at c1
      have HC1 := Aside0.mk c1
      have HB1 := Aside0.mk (HB.out.trans (hb1.mono HB.out.size))
      clear c1 hq hb1 hrl htl hsn hrl2 hx
      go_wp2_with (go_at_call 87; (with_reducible refine HC1.out.mono ?_); rintro e w2 ⟨D2, rfl, hR2, hf2⟩; have HR2 := Aside0.mk hR2; have HF2 := Aside0.mk hf2; clear hR2 hf2)
      go_roundw
      case rel => exact ⟨k + 1, k + 2, D2, by omega, by go_num, rfl, ⟨rfl⟩, ⟨RF_lower HR2.out (by have := HB.out.size; simp; omega)⟩, ⟨HB1.out.trans (HF2.out.below (by exact HB1.out.size) (fun _ h => h.elim))⟩⟩
      case measure => simp [intOf]; omega
    · obtain rfl : k = n := by omega
      go_wp2
      go_ret
      have e : xs.take k = xs := List.take_of_length_le (by rw [HXN.out]; exact Nat.le_refl _)
      have h1 := HR.out
      rw [e] at h1
      have hL := HL.out
      subst hL
      exact ⟨D, rfl, h1, Fr.of_below HB.out _⟩
end Go.Proofs.Ytpeiejkcoadhfaa
/- poly.Div. -/
namespace Go.Proofs.Ytpeiejkcoadhfaa
open Go.RowKit Go.Shelf Go.Proofs.YtpeiejkcoadhfaaW.PrintWords Go.Proofs.YtpeiejkcoadhfaaW.PrintMore
open Go.BigFrame

theorem mul_add_left : ∀ (a b q : List F), Eqv (mulP (addP a b) q) (addP (mulP a q) (mulP b q))
  | [], b, q => fun i => by rw [show addP [] b = b from rfl, cf_add, show mulP [] q = [] from rfl, cf_nil, F.zero_add]
  | a :: p, [], q => fun i => by rw [show addP (a :: p) [] = a :: p from rfl, cf_add, show mulP [] q = [] from rfl, cf_nil, F.add_zero]
  | a :: p, b :: r, q => fun i => by
    have ih := mul_add_left p r q
    simp only [addP, mulP, cf_add, cf_sc, F.add_mul]
    have h : cf (0 :: mulP (addP p r) q) i = cf (0 :: mulP p q) i + cf (0 :: mulP r q) i := by
      cases i with
      | zero => rw [cf_zero, cf_zero, cf_zero, F.add_zero]
      | succ i => rw [cf_succ, cf_succ, cf_succ, ih i, cf_add]
    rw [h]
    exact F.add4 _ _ _ _
theorem mul_shift (c : F) (d : List F) : ∀ (s i : Nat), cf (mulP (List.replicate s 0 ++ [c]) d) i = if s ≤ i then c * cf d (i - s) else 0
  | 0, i => by
    simp only [List.replicate_zero, List.nil_append, mulP, cf_add, cf_sc, Nat.zero_le, if_true, Nat.sub_zero]
    cases i with
    | zero => rw [cf_zero, F.add_zero]
    | succ i => rw [cf_succ, cf_nil, F.add_zero]
  | s + 1, i => by
    simp only [List.replicate_succ, List.cons_append, mulP, cf_add, cf_sc, F.zero_mul, F.zero_add]
    cases i with
    | zero => rw [cf_zero, if_neg (by omega)]
    | succ i =>
      rw [cf_succ, mul_shift c d s i]
      by_cases h : s ≤ i
      · rw [if_pos h, if_pos (by omega), show i + 1 - (s + 1) = i - s by omega]
      · rw [if_neg h, if_neg (by omega)]
theorem cf_shift (c : F) (s i : Nat) : cf (List.replicate s 0 ++ [c]) i = if i = s then c else 0 := by
  unfold cf
  rw [List.getD_eq_getElem?_getD, List.getElem?_append, List.length_replicate]
  by_cases h : i < s
  · rw [if_pos h, List.getElem?_replicate, if_pos h, if_neg (by omega)]; rfl
  · rw [if_neg h]
    by_cases e : i = s
    · subst e; rw [Nat.sub_self, if_pos rfl]; rfl
    · rw [if_neg e, List.getElem?_eq_none (by simp; omega)]; rfl
theorem mul_set {q : List F} (d : List F) {s : Nat} (c : F) (hs : s < q.length) (h0 : cf q s = 0) (i : Nat) : cf (mulP (q.set s c) d) i = cf (mulP q d) i + (if s ≤ i then c * cf d (i - s) else 0) := by
  have e : Eqv (q.set s c) (addP q (List.replicate s 0 ++ [c])) := fun j => by
    rw [cf_set _ _ _ hs, cf_add, cf_shift]
    by_cases hj : j = s
    · subst hj; rw [if_pos rfl, if_pos rfl, h0, F.zero_add]
    · rw [if_neg hj, if_neg hj, F.add_zero]
  rw [Eqv.mul e (Eqv.refl d) i, mul_add_left _ _ _ i, cf_add, mul_shift]

/-- A division under way. -/
def DivSt (p d q r : List F) (low : Nat) : Prop := q.length = p.length ∧ r.length = p.length ∧ (∀ i, cf p i = cf (mulP q d) i + cf r i) ∧ ∀ i, i + low < (trimP r).length → cf q i = 0
theorem div_start (p d : List F) (low : Nat) : DivSt p d (List.replicate p.length 0) p low := by
  have hz : ∀ i, cf (List.replicate p.length (0 : F)) i = 0 := fun i => by
    unfold cf
    rw [List.getD_eq_getElem?_getD, List.getElem?_replicate]
    split <;> rfl
  exact ⟨by simp, rfl, fun i => by rw [mulP_zero hz d i, F.zero_add], fun i _ => hz i⟩
/-- One step: what is taken off at t, the remainder's top. -/
theorem div_step {p d q r r' : List F} {low t : Nat} (h : DivSt p d q r low) (ht : (trimP r).length = t + 1) (hl : low ≤ t) (hd : (trimP d).length = low + 1) (c : F) (hc : c = cf r t * (cf d low).inv)
    (hr' : r'.length = p.length ∧ ∀ i, cf r' i = cf r i + (if t - low ≤ i ∧ i < t - low + (low + 1) then c * cf d (i - (t - low)) else 0)) : DivSt p d (q.set (t - low) c) r' low ∧ (trimP r').length ≤ t := by
  obtain ⟨h1, h2, h3, h4⟩ := h
  have htl : t < p.length := by have := trim_length r; omega
  have hdz : ∀ j, low < j → cf d j = 0 := fun j hj => by rw [← cf_trim d]; exact cf_ge _ _ (by omega)
  have hd0 : cf d low ≠ 0 := by
    have := trim_last d (by intro e; rw [e] at hd; simp at hd)
    rw [cf_trim, hd] at this
    exact this
  have hr0 : ∀ j, t < j → cf r j = 0 := fun j hj => by rw [← cf_trim r]; exact cf_ge _ _ (by omega)
  have hlen : (trimP r').length ≤ t := trim_le (fun i hi => by
    rw [hr'.2 i]
    rcases Nat.eq_or_lt_of_le hi with e | h5
    · subst e
      rw [if_pos (by omega), show t - (t - low) = low by omega, hc, F.mul_assoc, F.mul_comm _ (cf d low), F.mul_inv _ hd0, F.mul_one, F.add_self]
    · rw [hr0 i h5, if_neg (by omega), F.add_zero])
  refine ⟨⟨by rw [List.length_set]; exact h1, hr'.1, fun i => ?_, fun i hi => ?_⟩, hlen⟩
  · rw [mul_set d c (by omega) (h4 _ (by omega)), hr'.2 i, h3 i]
    have e : (if t - low ≤ i then c * cf d (i - (t - low)) else 0) = (if t - low ≤ i ∧ i < t - low + (low + 1) then c * cf d (i - (t - low)) else 0) := by
      by_cases h5 : t - low ≤ i
      · rw [if_pos h5]
        by_cases h6 : i < t - low + (low + 1)
        · rw [if_pos ⟨h5, h6⟩]
        · rw [if_neg (by omega), hdz _ (by omega), F.mul_zero]
      · rw [if_neg h5, if_neg (by omega)]
    rw [e, F.add4, F.add_self, F.add_zero]
  · rw [cf_set _ _ _ (by omega), if_neg (by omega)]
    exact h4 i (by omega)

theorem InvF (w : World) (g : Nat) (a : F) (hF : Fld w g) : Calls Try.prog 32 #[.pointer (some ⟨g, 0, none⟩), .int .u8 (a.v : Int)] w fun e w' => e = .returned (.tuple #[.int .u8 (a.inv.v : Int), .bool (decide (a.v ≠ 0))]) ∧ Drawn0 w w' := Inv_any w g a.v hF a.lt
set_option maxRecDepth 100000 in
set_option maxHeartbeats 1600000 in
theorem DivP_any (w : World) (g : Nat) (A B : Option Addr) (n m c c2 : Nat) (p d : List F) (low : Nat) (hF : Fld w g) (hp : Kd.C fk w A n p) (hd : Kd.C fk w B m d) (hmc : m ≤ c2) (hl : n ≤ 1000000) (hl2 : m ≤ 1000000) (hlow : (trimP d).length = low + 1) :
    Calls Try.prog 130 #[.pointer (some ⟨g, 0, none⟩), .slice A n c, .slice B m c2] w fun e w' => ∃ X Y q r, e = .returned (.tuple #[.slice X (trimP q).length (trimP q).length, .slice Y (trimP r).length (trimP r).length, .bool true]) ∧
      RF w' w.heap.size X (trimP q) ∧ RF w' w.heap.size Y (trimP r) ∧ (∀ i, cf p i = cf (mulP q d) i + cf r i) ∧ (trimP r).length ≤ low ∧ Fr (fun _ => False) w w' := by
  have hpn := Kd.C_len hp
  have hdm := Kd.C_len hd
  have hle := trim_length d
  have hlm : low < m := by omega
  have HD := Aside0.mk (Degree_any w B m c2 d hd hmc (by omega))
  rw [hlow] at HD
  have HP := Aside0.mk hp
  have HDD := Aside0.mk hd
  have HPN := Aside0.mk hpn
  have HF := Aside0.mk hF
  have HLOW := Aside0.mk hlow
  have hl0 : ¬ (low : Int) < 0 := by omega
  have hl1 : (low : Int) < (m : Int) := by omega
  clear hp hd hpn hdm hF hle hlow
  obtain ⟨adB, rfl, hcb⟩ := C_at HDD.out (Fr.refl (fun _ => False) w) (fun _ h => h.elim) low hlm
  obtain ⟨dl, hdl⟩ : ∃ dl, dl = d.getD low 0 := ⟨_, rfl⟩
  rw [← hdl] at hcb
  have HI := Aside0.mk (fun t => InvF (w.drewN t) g dl HF.out.drew)
  have HDL := Aside0.mk hdl
  have HK := Aside0.mk (fun t => Clone_any (w.drewN t) A n c p (C_drewN HP.out t) (by omega))
  have hmk := fun W : World => make_u8 (P := Try.prog) 36 5 Try.underlying36 info5 n (by omega) W
  clear hdl
  go_enter Try.func130, Try.ntmps130
  go_wp2_with (first
    | (go_at_call 134; (with_reducible refine HD.out.mono ?_); rintro e w1 ⟨rfl, ⟨k, rfl⟩⟩)
    | (go_at_call 32; (with_reducible refine (HI.out _).mono ?_); rintro e w1 ⟨rfl, ⟨k2, rfl⟩⟩)
    | (go_at_call 95; (with_reducible refine (HK.out _).mono ?_); rintro e w1 ⟨R, cr, rfl, hR, hb⟩; have HR := Aside0.mk hR; have HB := Aside0.mk hb; clear hR hb))
  have hz1 : w.heap.size ≤ w1.heap.size := HB.out.size
  have hrR : Kd.R fk 5 w1 w.heap.size (fun j => j < w1.heap.size) (.slice R n cr) p := Kd.R_mono (Kd.R_bound HR.out) (fun j hj => hj.2.2.1)
  obtain ⟨gq, hgq⟩ : ∃ gq, gq = w1.heap.size := ⟨_, rfl⟩
  have hb0 : Below w.heap.size w w1 := ⟨HB.out.os, HB.out.tape, HB.out.output, HB.out.size, HB.out.block⟩
  obtain ⟨wz, hwz⟩ : ∃ wz, wz = w1.alloc (Obj.cells (Array.replicate n (Value.int IntKind.u8 0)) 5) := ⟨_, rfl⟩
  have hbz : Below w1.heap.size w1 wz := by rw [hwz]; exact below_alloc (Below.refl _ _) _
  have hqR : Kd.R fk 5 wz w.heap.size (fun j => j = gq) (.slice (some ⟨gq, 0, none⟩) n n) (List.replicate n 0) := by
    rw [hwz, hgq]; exact R_zerosF w1 w.heap.size _ n (by omega) hz1 rfl
  have hrR2 := Kd.R_below hrR hbz
  rw [← hgq] at hrR2
  have HQ := Aside0.mk hqR
  have HR2 := Aside0.mk hrR2
  have HBZ := Aside0.mk (hb0.trans (hbz.mono hb0.size))
  have hrc : n ≤ cr := (Kd.R_reads' hrR2).2.1
  have HD2 := Aside0.mk (Degree_any wz R n cr p (R_C hrR2) hrc (by omega))
  rw [← hgq, ← hwz]
  have HZ := Aside0.mk (And.intro hz1 hgq)
  have HST : Aside0 (DivSt p d (List.replicate n 0) p low) := ⟨by rw [← HPN.out]; exact div_start p d low⟩
  clear hrR hqR hrR2 hb0 hwz hbz hz1 hgq HR HB hmk HK
  refine HD2.out.mono ?_
  rintro e w3 ⟨rfl, ⟨k3, rfl⟩⟩
  clear HD2
  go_wp2
  go_loopw [12] (fun v12 wr => ∃ (T : Nat) (qs rs : List F), v12 = .int .i64 ((T : Int) - 1) ∧ Aside0 (T = (trimP rs).length) ∧ Aside0 (DivSt p d qs rs low) ∧ Aside0 (Kd.R fk 5 wr w.heap.size (fun j => j < gq) (.slice R n cr) rs) ∧ Aside0 (Kd.R fk 5 wr w.heap.size (fun j => j = gq) (.slice (some ⟨gq, 0, none⟩) n n) qs) ∧ Aside0 (Below w.heap.size w wr)) (fun v12 _ => (intOf v12 + 1).toNat)
  case atStart => exact ⟨_, _, p, rfl, ⟨rfl⟩, HST, ⟨Kd.R_drewN HR2.out _⟩, ⟨Kd.R_drewN HQ.out _⟩, ⟨below_drawN HBZ.out _⟩⟩
  case round =>
    clear HST HR2 HQ HBZ
    obtain ⟨T, qs, rs, rfl, HT, HS, HR, HQ, HB⟩ := hrel
    obtain ⟨wo, rfl⟩ : ∃ wo : World, wo = wr := ⟨_, rfl⟩
    by_cases hT : low < T
    · obtain ⟨s, rfl⟩ : ∃ s, T = s + low + 1 := ⟨T - low - 1, by omega⟩
      have hidx : (((s + low + 1 : Nat) : Int) - 1) = (s : Int) + (low : Int) := by omega
      rw [hidx]
      have htn : s + low < n := by
        have h1 := HT.out
        have h2 := trim_length rs
        have h3 := HS.out.2.1
        have h4 := HPN.out
        omega
      obtain ⟨gr, rfl, hgr0, _, hgr, hx, _, _⟩ := R_at (0 : F) HR.out (s + low) htn
      obtain ⟨z, hz⟩ : ∃ z, z = rs.getD (s + low) 0 := ⟨_, rfl⟩
      rw [← hz] at hx
      unfold encF at hx
      have hcbo := HB.out.cell (p := adB.add low) (by have := World.block_lt_of_cell? w _ hcb; exact this)
      have hFo : Fld wo g := HF.out.fr (Fr.of_below HB.out (fun _ => False)) (fun h => h)
      have HM1 := Aside0.mk (MulF wo g z dl.inv hFo)
      obtain ⟨cc, hcc⟩ : ∃ cc, cc = z * dl.inv := ⟨_, rfl⟩
      rw [← hcc] at HM1
      obtain ⟨gq', e, _, _, _, hqx, hqz, hqset⟩ := R_at (0 : F) HQ.out s (by omega)
      injection e with e
      injection e with e _ _
      subst e
      have HQS := Aside0.mk (hqset cc)
      have hgne : gr ≠ gq := by omega
      have HRS := Aside0.mk (Kd.R_far HR.out (p := ⟨gq, s, none⟩) (fun k hk => by show k ≠ gq; omega) (encF cc))
      unfold encF at hqx HQS HRS
      have HBS := Aside0.mk (HB.out.setCell (p := ⟨gq, s, none⟩) (by have := HZ.out; show w.heap.size ≤ gq; omega) (.int .u8 (cc.v : Int)))
      have HCC := Aside0.mk (And.intro hcc hz)
      have hsl : (s : Int) + (low : Int) < (n : Int) := by omega
      have hs0 : (0 : Int) ≤ (s : Int) + (low : Int) := by omega
      have hge : (low : Int) ≤ (s : Int) + (low : Int) := by omega
      have hsn : ((s : Int) + (low : Int)).toNat = s + low := by omega
      have hs1 : (s : Int) < (n : Int) := by omega
      clear hqset hcc hz hidx
      go_wp2_with (go_at_call 31; (with_reducible refine HM1.out.mono ?_); rintro e w4 ⟨rfl, ⟨k4, rfl⟩⟩)
      go_loopw [55] (fun v55 wr => ∃ (j : Nat) (ys : List F), j ≤ low + 1 ∧ v55 = .int .i64 j ∧ Aside0 (ys.length = p.length ∧ ∀ i, cf ys i = cf rs i + (if s ≤ i ∧ i < s + j then cc * cf d (i - s) else 0)) ∧ Aside0 (Kd.R fk 5 wr w.heap.size (fun j => j < gq) (.slice (some ⟨gr, 0, none⟩) n cr) ys) ∧ Aside0 (Kd.R fk 5 wr w.heap.size (fun j => j = gq) (.slice (some ⟨gq, 0, none⟩) n n) (qs.set s cc)) ∧ Aside0 (Below w.heap.size w wr)) (fun v55 _ => low + 1 - (intOf v55).toNat)
      case atStart => exact ⟨0, rs, by omega, rfl, ⟨HS.out.2.1, fun i => by rw [if_neg (by omega), F.add_zero]⟩, ⟨Kd.R_drewN HRS.out _⟩, ⟨Kd.R_drewN HQS.out _⟩, ⟨below_drawN HBS.out _⟩⟩
      case round =>
        clear HRS HQS HBS hx hqx hqz hcbo hFo HM1
        obtain ⟨j, ys, hj, rfl, HY, HR2, HQ2, HB2⟩ := hrel
        by_cases hjl : j < low + 1
        · obtain ⟨adB', e, hcb2⟩ := C_at HDD.out (Fr.of_below HB2.out (fun _ => False)) (fun _ h => h.elim) j (by omega)
          injection e with e
          subst e
          obtain ⟨b, hb⟩ : ∃ b, b = d.getD j 0 := ⟨_, rfl⟩
          rw [← hb] at hcb2
          obtain ⟨gb, e, _, _, _, hy, hfz, hset⟩ := R_at (0 : F) HR2.out (s + j) (by omega)
          injection e with e
          injection e with e _ _
          subst e
          obtain ⟨y, hyy⟩ : ∃ y, y = ys.getD (s + j) 0 := ⟨_, rfl⟩
          rw [← hyy] at hy
          unfold encF at hy
          have hF2 : Fld wr g := HF.out.fr (Fr.of_below HB2.out (fun _ => False)) (fun h => h)
          have HMU := Aside0.mk (fun t => MulF (wr.drewN t) g cc b hF2.drew)
          have hxr := xorF y (cc * b)
          have HS2 := Aside0.mk (hset (y + cc * b))
          have hgne2 : gr ≠ gq := hgne
          have HQ3 := Aside0.mk (Kd.R_far HQ2.out (p := ⟨gr, s + j, none⟩) (fun k hk => by show k ≠ gr; omega) (encF (y + cc * b)))
          have HB3 := Aside0.mk (HB2.out.setCell (p := ⟨gr, s + j, none⟩) hgr0 (encF (y + cc * b)))
          have HY2 : Aside0 ((ys.set (s + j) (y + cc * b)).length = p.length ∧ ∀ i, cf (ys.set (s + j) (y + cc * b)) i = cf rs i + (if s ≤ i ∧ i < s + (j + 1) then cc * cf d (i - s) else 0)) := ⟨by rw [List.length_set]; exact HY.out.1, fun i => by
            rw [cf_set _ _ _ (by rw [HY.out.1, HPN.out]; omega)]
            by_cases hi : i = s + j
            · subst hi
              rw [if_pos rfl, if_pos (by omega), Nat.add_sub_cancel_left, hyy, hb]
              have h2 := HY.out.2 (s + j)
              rw [if_neg (by omega), F.add_zero] at h2
              have h3 : ys.getD (s + j) 0 = cf rs (s + j) := h2
              rw [h3]; rfl
            · rw [if_neg hi, HY.out.2 i]
              by_cases h4 : s ≤ i ∧ i < s + j
              · rw [if_pos h4, if_pos (by omega)]
              · rw [if_neg h4, if_neg (by omega)]⟩
          unfold encF at HS2 HQ3 HB3
          generalize cc * b = cb at HMU hxr HS2 HQ3 HB3 HY2
          have hsj : (s : Int) + (j : Int) < (n : Int) := by omega
          have hsj0 : (0 : Int) ≤ (s : Int) + (j : Int) := by omega
          have hsjn : ((s : Int) + (j : Int)).toNat = s + j := by omega
          have hw1 : IntKind.i64.wrap ((s : Int) + (j : Int)) = (s : Int) + (j : Int) := IntWalk.i64_in _ ⟨by omega, by omega⟩
          have hw2 : IntKind.i64.wrap ((s : Int) + (low : Int) - (low : Int)) = (s : Int) := by rw [show (s : Int) + (low : Int) - (low : Int) = (s : Int) by omega]; exact IntWalk.i64_in _ ⟨by omega, by omega⟩
          have hw3 : IntKind.i64.wrap (s : Int) = (s : Int) := IntWalk.i64_in _ ⟨by omega, by omega⟩
          have hjm : (j : Int) < (m : Int) := by omega
          have hjl2 : (j : Int) < (low : Int) + 1 := by omega
          clear hset hb hyy
          go_wp2
          refine wp_region_drawn_tail 16 (by kernel_rfl) (by kernel_rfl) ?_
          simp only [List.take_succ_cons, List.take_zero, List.drop_succ_cons, List.drop_zero]
          repeat (first | go_big_quiet_skip | (go_big_quiet_want; go_big_quiet_op; first | go_big_quiet_on | (apply Exists.intro; refine ⟨fun t => ?_, ?_⟩; (go_at_call 31; exact quiet_drawn (HMU.out t)); go_big_quiet_on)))
          refine wpQuiet_nil ?_
          rintro _ ⟨t, rfl⟩
          go_wp2
          go_roundw
          case rel => exact ⟨j + 1, _, by omega, by go_num, HY2, ⟨Kd.R_drewN HS2.out t⟩, ⟨Kd.R_drewN HQ3.out t⟩, ⟨below_drawN HB3.out t⟩⟩
          case measure => simp [intOf]; omega
        · obtain rfl : j = low + 1 := by omega
          have hstep := div_step (r' := ys) HS.out (t := s + low) (by rw [← HT.out]) (by omega) HLOW.out cc (by rw [HCC.out.1, HCC.out.2, HDL.out]; rfl) ⟨HY.out.1, by rw [Nat.add_sub_cancel]; exact HY.out.2⟩
          rw [Nat.add_sub_cancel] at hstep
          have HSTEP := Aside0.mk hstep.1
          have hlt := hstep.2
          have HD3 := Aside0.mk (Degree_any wr (some ⟨gr, 0, none⟩) n cr ys (R_C HR2.out) hrc (by omega))
          obtain ⟨T', hT'⟩ : ∃ T', T' = (trimP ys).length := ⟨_, rfl⟩
          rw [← hT'] at HD3 hlt
          have HT' := Aside0.mk hT'
          clear hstep hT'
          go_wp2_with (go_at_call 134; (with_reducible refine HD3.out.mono ?_); rintro e w5 ⟨rfl, ⟨k5, rfl⟩⟩)
          go_roundw
          case rel => exact ⟨T', _, ys, rfl, HT', HSTEP, ⟨Kd.R_drewN HR2.out k5⟩, ⟨Kd.R_drewN HQ2.out k5⟩, ⟨below_drawN HB2.out k5⟩⟩
          case measure => simp only [intOf]; omega
    · have hTI : ¬ (low : Int) ≤ (T : Int) - 1 := by omega
      have HT1 := Aside0.mk (fun t => trim_any (wo.drewN t) (some ⟨gq, 0, none⟩) n n qs (C_drewN (R_C HQ.out) t) (Nat.le_refl _) (by omega))
      have HT2 := Aside0.mk (fun t => trim_any (wo.drewN t) R n cr rs (C_drewN (R_C HR.out) t) hrc (by omega))
      have HT0 := Aside0.mk (trim_any wo (some ⟨gq, 0, none⟩) n n qs (R_C HQ.out) (Nat.le_refl _) (by omega))
      have hTr : (trimP rs).length ≤ low := by rw [← HT.out]; omega
      have HTR := Aside0.mk hTr
      clear hTr
      go_wp2_with fail
      (with_reducible refine HT0.out.mono ?_)
      rintro e w4 ⟨rfl, ⟨k4, rfl⟩⟩
      go_wp2_with fail
      (with_reducible refine (HT2.out k4).mono ?_)
      rintro e w5 ⟨rfl, ⟨k5, rfl⟩⟩
      go_wp2
      go_ret3
      refine ⟨some ⟨gq, 0, none⟩, R, qs, rs, rfl, ?_, ?_, HS.out.2.2.1, HTR.out, ?_⟩
      · exact RF_fr (RF_trim (RF_of_R HQ.out)) ((Fr.refl (fun _ => False) wo).drewN (k4 + k5)) (fun _ _ _ h => h)
      · exact RF_fr (RF_trim (RF_of_R HR.out)) ((Fr.refl (fun _ => False) wo).drewN (k4 + k5)) (fun _ _ _ h => h)
      · exact (Fr.of_below HB.out _).drewN (k4 + k5)
end Go.Proofs.Ytpeiejkcoadhfaa
/- poly.others' iterator. -/
namespace Go.Proofs.Ytpeiejkcoadhfaa
open Go.RowKit Go.Shelf Go.Proofs.YtpeiejkcoadhfaaW.PrintWords Go.Proofs.YtpeiejkcoadhfaaW.PrintMore
attribute [local go_sem] Oper.semAt_some

abbrev Oth : Type := Nat × (Option Addr × List F)
def encO (x : Oth) : Array Value := #[.int .i64 (x.1 : Int), .slice x.2.1 x.2.2.length x.2.2.length]
def RelO (xs : List F) (b : Nat) (pre : List Oth) (x : Oth) (W : World) : Prop := pre.length < xs.length ∧ x.1 = pre.length ∧ RF W b x.2.1 x.2.2 ∧ Basis xs x.1 x.2.2 ∧ x.2.2.length ≤ xs.length
theorem lin_trim (x : F) : trimP (lin x) = lin x := by simp [lin, trimP, F.one_ne]

set_option maxRecDepth 100000 in
set_option maxHeartbeats 1600000 in
theorem others_seq (S : Nat → Prop) (w : World) (bf bx g : Nat) (A : Option Addr) (n c : Nat) (xs : List F) (hF : Fld w g) (hx : Kd.C fk w A n xs) (hl : n ≤ 1000) (hu : Unl xs) (hS : ∀ k, S k → k < w.heap.size)
    (hg : ¬ S g) (hA : ∀ j, OB A j → 0 < n → ¬ S j) (hbf : w.heap[bf]? = some (.cells #[.pointer (some ⟨g, 0, none⟩)] 23 (0, 0))) (hbx : w.heap[bx]? = some (.cells #[.slice A n c] 36 (0, 0))) (hSf : ¬ S bf) (hSx : ¬ S bx) :
    SeqG Try.prog 132 #[.pointer (some ⟨bf, 0, none⟩), .pointer (some ⟨bx, 0, none⟩)] encO (RelO xs w.heap.size) S (fun ys => ys.length = n) w := by
  intro l J W hW hWz hJ hY h0
  obtain rfl : xs.length = n := Kd.C_len hx
  refine callsIn_of_wp Try.func132 rfl trivial ?_ rfl
  simp only [Try.ntmps132, List.size_toArray, List.length_cons, List.length_nil, Nat.reduceAdd, Nat.reduceSub, Array.replicate_succ, Array.replicate_zero, List.push_toArray, List.append_toArray, List.nil_append, List.cons_append]
  have hAlt : ∀ j, OB A j → 0 < xs.length → j < w.heap.size := fun j hj hn => by
    obtain ⟨ad, e, rfl⟩ := hj
    obtain ⟨ad', e', hc⟩ := (Kd.reads_of_C (enc := encF) (d := (0 : F)) (h1 := fun _ => rfl) hx).2.2 hn
    rw [e] at e'
    injection e' with e'
    subst e'
    have h1 := World.block_lt_of_cell? w _ (hc 0 hn)
    rwa [add_zero'] at h1
  -- what stays
  have HBF : Aside0 (∀ {W1 : World}, Fr (fun k => S k ∨ k = w.heap.size ∨ k = w.heap.size + 1) W W1 → W1.cell? ⟨bf, 0, none⟩ = some (.pointer (some ⟨g, 0, none⟩)) ∧ W1.cell? ⟨bx, 0, none⟩ = some (.slice A xs.length c) ∧ Fld W1 g ∧ Kd.C fk W1 A xs.length xs) := ⟨fun {W1} hf => by
    have h1 := blk_lt hbf
    have h2 := blk_lt hbx
    have h3 := fld_lt hF
    refine ⟨cell_at (hf.blk (blk_below hbf hW) (fun h => ?_)) rfl, cell_at (hf.blk (blk_below hbx hW) (fun h => ?_)) rfl, (hF.fr (Fr.of_below hW (fun _ => False)) (fun h => h)).fr hf (fun h => ?_), C_fr' (Kd.C_below hx hW) hf (fun j hj hn h => ?_)⟩
    · rcases h with h | h | h
      · exact hSf h
      · omega
      · omega
    · rcases h with h | h | h
      · exact hSx h
      · omega
      · omega
    · rcases h with h | h | h
      · exact hg h
      · omega
      · omega
    · have := hAlt j hj hn
      rcases h with h | h | h
      · exact hA j hj hn h
      · omega
      · omega⟩
  obtain ⟨c1, c2, hF1, hx1⟩ := HBF.out (Fr.refl _ W)
  have HR := Aside0.mk (Roots_any W g A xs.length c xs hF1 hx1 (by omega))
  have HY := Aside0.mk hY
  have HJ := Aside0.mk hJ
  have H0 := Aside0.mk h0
  have HU := Aside0.mk hu
  have HWZ := Aside0.mk hWz
  have HS := Aside0.mk hS
  have HWB := Aside0.mk hW
  clear hY hJ h0 hW hAlt hx hbf hbx hSf hSx hA hg hF hF1 hx1 hu hWz hS
  gi_wp2_with (refine ⟨trivial, ?_⟩; gi_at_call 83; refine (callsIn_wide.2 HR.out).mono ?_; rintro e W1 ⟨D, rfl, hD, hfD⟩; obtain ⟨c3, c4, hF3, hx3⟩ := HBF.out (hfD.mono (fun _ h => h.elim)); have HD := Aside0.mk hD; have HFD := Aside0.mk hfD; clear hD hfD hF3 hx3)
  clear c1 c2 c3 c4
  gi_loopw [15] (fun v15 wr => ∃ (k : Nat) (ys : List Oth), k ≤ xs.length ∧ v15 = .int .i64 k ∧ ys.length = k ∧ Aside0 (J ys wr) ∧ Aside0 (Fr (fun k => S k ∨ k = w.heap.size ∨ k = w.heap.size + 1) W1 wr)) (fun v15 _ => xs.length - (intOf v15).toNat)
  case atStart => exact ⟨0, [], by omega, rfl, rfl, ⟨HJ.out _ _ _ H0.out (HFD.out.below (Nat.le_refl _) (fun _ h => h.elim))⟩, ⟨Fr.refl _ _⟩⟩
  case round =>
    clear H0 HR
    obtain ⟨k, ys, hk, rfl, hys, HJy, HFr⟩ := hrel
    have HYS := Aside0.mk hys
    clear hys
    by_cases hlt : k < xs.length
    · obtain ⟨c1, c2, hF1, hx1⟩ := HBF.out ((HFD.out.mono (fun _ h => h.elim)).trans' HFr.out)
      obtain ⟨adx, rfl, hcx⟩ := C_at hx1 (Fr.refl (fun _ => False) wr) (fun _ h => h.elim) k hlt
      obtain ⟨x, hx⟩ : ∃ x, x = xs.getD k 0 := ⟨_, rfl⟩
      rw [← hx] at hcx
      have hDr := RF_fr HD.out HFr.out (fun j hj _ h => by
        have h1 := HWZ.out
        rcases h with h | h | h
        · have := HS.out j h; omega
        · omega
        · omega)
      have hrl := roots_length xs
      have hb1 : Below wr.heap.size wr (wr.alloc (.cells #[.int .u8 (x.v : Int), .int .u8 1] 5)) := below_alloc (Below.refl _ _) _
      have hd := R_C (R_litF wr wr.heap.size (fun _ => True) (lin x) (by simp [lin]) (Nat.le_refl _) trivial)
      have c5 := DivP_any (wr.alloc (.cells #[.int .u8 (x.v : Int), .int .u8 1] 5)) g D (some ⟨wr.heap.size, 0, none⟩) (xs.length + 1) 2 (xs.length + 1) 2 (roots xs) (lin x) 1 (hF1.fr (Fr.of_below hb1 (fun _ => False)) (fun h => h)) (by rw [← hrl]; exact Kd.C_below hDr.1 hb1) hd (by omega) (by omega) (by omega) (by rw [lin_trim]; rfl)
      have HC5 := Aside0.mk c5
      have HX := Aside0.mk hx
      have HB1 := Aside0.mk hb1
      clear c5 hd hrl hDr hb1 hx hF1 hx1
      have HPO : Aside0 (∀ (X : Option Addr) (q r : List F) (W3 : World), RF W3 (wr.alloc (.cells #[.int .u8 (x.v : Int), .int .u8 1] 5)).heap.size X (trimP q) → (∀ i, cf (roots xs) i = cf (mulP q (lin x)) i + cf r i) → (trimP r).length ≤ 1 → Fr (fun _ => False) (wr.alloc (.cells #[.int .u8 (x.v : Int), .int .u8 1] 5)) W3 →
          YieldAt Fence.wide 1 Try.prog l #[.int .i64 (k : Int), .slice X (trimP q).length (trimP q).length] W3 fun e W' => e = .returned (.bool true) ∧ J (ys ++ [(k, X, trimP q)]) W' ∧ Fr (fun k => S k ∨ k = w.heap.size ∨ k = w.heap.size + 1) W1 W') := ⟨fun X q r W3 hX hqr hr1 hf3 => by
        have hbas : Basis xs k (trimP q) := basis_quo HU.out hlt (r := trimP r) (fun j => by
          rw [hqr j, ← HX.out]
          congr 1
          · exact Eqv.mul (cf_trim q).symm (Eqv.refl _) j
          · exact (cf_trim r j).symm) hr1
        have hlen : (trimP q).length ≤ xs.length := by
          have := trim_le (p := trimP q) (n := xs.length) (fun i hi => hbas.1 i hi)
          rwa [trim_trim] at this
        have hb3 : Below wr.heap.size wr W3 := HB1.out.trans ((hf3.below (Nat.le_refl _) (fun _ h => h.elim)).mono HB1.out.size)
        have hsz : w.heap.size ≤ (wr.alloc (.cells #[.int .u8 (x.v : Int), .int .u8 1] 5)).heap.size := by
          have h1 := HWZ.out
          have h2 := HFD.out.size
          have h3 := HFr.out.size
          have h4 := HB1.out.size
          omega
        refine (HY.out ys (k, X, trimP q) W3 (HJ.out _ _ _ HJy.out hb3) ⟨by rw [HYS.out]; exact hlt, HYS.out.symm, RF_lower hX hsz, hbas, hlen⟩).mono ?_
        rintro e W' ⟨he, hj, hf⟩
        exact ⟨he, hj, (HFr.out.below_ hb3).trans' hf⟩⟩
      gi_wp2_with (refine ⟨trivial, ?_⟩; gi_at_call 130; refine (callsIn_wide.2 HC5.out).mono ?_; rintro e W3 ⟨X, Y, q, r, rfl, hX, hYr, hqr, hr1, hf3⟩; obtain ⟨fn, tmps, assign, body, hy, hRd⟩ := HPO.out X q r W3 hX hqr hr1 hf3; clear hX hYr hqr hr1 hf3)
      refine hRd.mono ?_
      rintro ee W' ⟨rfl, hj', hf'⟩
      have HF' := Aside0.mk hf'
      have HJ' := Aside0.mk hj'
      clear hj' hf'
      gi_wp2
      go_roundw
      case rel => exact ⟨k + 1, _, by omega, by go_num, by rw [List.length_append, HYS.out]; rfl, HJ', HF'⟩
      case measure => simp only [intOf]; omega
    · obtain rfl : k = xs.length := by omega
      gi_wp2
      go_end0
      exact ⟨⟨_, rfl⟩, ys, HYS.out, HJy.out⟩
end Go.Proofs.Ytpeiejkcoadhfaa
/- Results that lie in two cells. -/
namespace Go.Proofs.Ytpeiejkcoadhfaa
open Go.RowKit Go.Shelf
theorem results_cell2 {fn : Func} {a b : Tmp} {t u : TypeId} (h : fn.results = #[.cell a t, .cell b u]) (tmps : Array Value) (P : Program) (w : World) {p q : Addr} {x y : Value} (ha : tmps.getD a undef = .pointer (some p)) (hb : tmps.getD b undef = .pointer (some q))
    (hx : (loadVar t p).run P w = .ok x w) (hy : (loadVar u q).run P w = .ok y w) : (results fn tmps).run P w = .ok (.tuple #[x, y]) w := by
  rw [Array.getD_eq_getD_getElem?] at ha hb
  simp [results, h, ha, hb, asAddr, hx, hy]
theorem load36 {w : World} {p : Addr} {A : Option Addr} {n c : Nat} (h : w.cell? p = some (.slice A n c)) : (loadVar 36 p).run Try.prog w = .ok (.slice A n c) w := by
  go_simp
theorem load4 {w : World} {p : Addr} {b : Bool} (h : w.cell? p = some (.bool b)) : (loadVar 4 p).run Try.prog w = .ok (.bool b) w := by
  go_simp
end Go.Proofs.Ytpeiejkcoadhfaa
/- poly.Through. -/
namespace Go.Proofs.Ytpeiejkcoadhfaa
open Go.RowKit Go.Shelf Go.Proofs.YtpeiejkcoadhfaaW.PrintWords Go.Proofs.YtpeiejkcoadhfaaW.PrintMore
open Go.BigFrame
attribute [local go_sem] Oper.semAt_some

theorem others_any (w : World) (v u : Value) (hv : v.oneCell' = true) (hu : u.oneCell' = true) : Calls Try.prog 121 #[v, u] w fun e w' => e = .returned (.func (.func 132) #[] #[.pointer (some ⟨w.heap.size, 0, none⟩), .pointer (some ⟨w.heap.size + 1, 0, none⟩)]) ∧ w' = (w.alloc (.cells #[v] 23)).alloc (.cells #[u] 36) := by
  go_enter Try.func121, Try.ntmps121
  go_wp2
  go_ret
  exact ⟨rfl, rfl⟩

theorem RF_abd {w w1 : World} {base b0 : Nat} {B : Option Addr} {q : List F} (h : RF w base B q) (hf : Fr (fun k => b0 ≤ k ∧ ∃ o, w.heap[k]? = some o ∧ o.isCells = false) w w1) : RF w1 base B q := by
  have hn : 0 < q.length → ∀ j, OB B j → ¬ (b0 ≤ j ∧ ∃ o, w.heap[j]? = some o ∧ o.isCells = false) := fun hp j hj ⟨_, o, ho, hc⟩ => by
    obtain ⟨_, cells, h2⟩ := h.2 hp j hj
    rw [h2] at ho
    injection ho with ho
    rw [← ho] at hc
    simp [Obj.isCells] at hc
  refine ⟨C_fr' h.1 hf (fun j hj hp => hn hp j hj), fun hp j hj => ?_⟩
  obtain ⟨h1, cells, h2⟩ := h.2 hp j hj
  exact ⟨h1, cells, hf.blk h2 (hn hp j hj)⟩
theorem RF_nil (w : World) (base : Nat) : RF w base none [] := ⟨Kd.C_nil _ _, fun h => absurd h (by simp)⟩
theorem DivF (w : World) (g : Nat) (a b : F) (hF : Fld w g) (hb : b ≠ 0) : Calls Try.prog 33 #[.pointer (some ⟨g, 0, none⟩), .int .u8 (a.v : Int), .int .u8 (b.v : Int)] w fun e w' => e = .returned (.tuple #[.int .u8 ((a * b.inv).v : Int), .bool true]) ∧ Drawn0 w w' := by
  have h := Div_any w g a.v b.v hF a.lt b.lt
  have hd : decide (b.v ≠ 0) = true := by
    rw [decide_eq_true_eq]
    intro e
    exact hb (F.ext e)
  rw [hd] at h
  exact h
/-- So far summed. -/
def ThrI (xs ys : List F) (w2 : World) (o : Nat) (pre : List Oth) (W : World) : Prop := ∃ D sm, W.heap[o]? = some (.cells #[.slice D sm.length sm.length] 36 (0, 0)) ∧ RF W w2.heap.size D sm ∧ ThruTo xs ys sm pre.length ∧ Fr (fun k => k = o) w2 W

set_option maxRecDepth 100000 in
set_option maxHeartbeats 1600000 in
theorem Through_any (w : World) (g : Nat) (A B : Option Addr) (n c d : Nat) (xs ys : List F) (hF : Fld w g) (hx : Kd.C fk w A n xs) (hy : Kd.C fk w B n ys) (hl : n ≤ 1000) (hu : Unl xs) :
    Calls Try.prog 85 #[.pointer (some ⟨g, 0, none⟩), .slice A n c, .slice B n d] w fun e w' => ∃ D s, e = .returned (.tuple #[.slice D s.length s.length, .bool true]) ∧ RF w' w.heap.size D s ∧ Thru xs ys s ∧ Fr (fun _ => False) w w' := by
  obtain rfl : xs.length = n := Kd.C_len hx
  have HYL := Aside0.mk (Kd.C_len hy)
  have HX := Aside0.mk hx
  have HY := Aside0.mk hy
  have HF := Aside0.mk hF
  have HU := Aside0.mk hu
  clear hx hy hF hu
  refine (callsIn_wide (n := 3)).1 (callsIn_of_wp_marks Try.func85 rfl trivial ?_ rfl)
  simp only [Try.ntmps85, List.size_toArray, List.length_cons, List.length_nil, Nat.reduceAdd, Nat.reduceSub, Array.replicate_succ, Array.replicate_zero, List.push_toArray, List.append_toArray, List.nil_append, List.cons_append]
  gi_wp2_with (refine ⟨trivial, ?_⟩; gi_at_call 121; refine (callsIn_wide.2 (others_any _ _ _ rfl rfl)).mono ?_; rintro e W' ⟨rfl, rfl⟩)
  obtain ⟨w1, hw1, hz1, a0, a1, a2, a3, hb1⟩ := heap4 w (Obj.cells #[Value.pointer (some { block := g, off := 0 })] 23) (Obj.cells #[Value.slice A xs.length c] 36) (Obj.cells #[Value.slice B xs.length d] 36) (Obj.cells #[Value.slice none 0 0] 36)
  obtain ⟨w2, hw2, hz2, a4, a5, a6, a7, hb2⟩ := heap4 w1 (Obj.cells #[Value.bool false] 4) (Obj.cells #[Value.slice none 0 0] 36) (Obj.cells #[Value.pointer (some { block := g, off := 0 })] 23) (Obj.cells #[Value.slice A xs.length c] 36)
  rw [← hw1, ← hw2]
  clear hw1 hw2
  have hAs : ∀ (C : Option Addr) (p : List F), Kd.C fk w C xs.length p → ∀ j, OB C j → 0 < xs.length → j < w.heap.size := fun C p hC j hj hn => by
    obtain ⟨ad, e, rfl⟩ := hj
    obtain ⟨ad', e', hc⟩ := (Kd.reads_of_C (enc := encF) (d := (0 : F)) (h1 := fun _ => rfl) hC).2.2 hn
    rw [e] at e'
    injection e' with e'
    subst e'
    have h1 := World.block_lt_of_cell? w _ (hc 0 hn)
    rwa [add_zero'] at h1
  have hA1 := hAs A xs HX.out
  have hgs : g < w.heap.size := fld_lt HF.out
  have hbw : Below w.heap.size w w2 := hb1.trans (hb2.mono (by omega))
  have HB := Aside0.mk hbw
  have HF2 := Aside0.mk (HF.out.fr (Fr.of_below hbw (fun _ => False)) (fun h => h))
  have HX2 := Aside0.mk (Kd.C_below HX.out hbw)
  have HY2 := Aside0.mk (Kd.C_below HY.out hbw)
  have HYB := Aside0.mk (hAs B ys HY.out)
  obtain ⟨s, hs⟩ : ∃ s, s = w.heap.size := ⟨_, rfl⟩
  have hz3 : w1.heap.size = s + 1 + 1 + 1 + 1 := by omega
  have hz4 : w2.heap.size = s + 1 + 1 + 1 + 1 + 1 + 1 + 1 + 1 := by omega
  rw [hz3] at a4 a5 a6 a7
  rw [← hs] at a0 a1 a2 a3 hgs hA1 ⊢
  have b0 := blk_below a0 hb2
  have b1 := blk_below a1 hb2
  have b2 := blk_below a2 hb2
  have b3 := blk_below a3 hb2
  clear a0 a1 a2 a3 hz1 hz2 hb1 hb2 hz3 hAs hbw
  refine range_g (P := Try.prog) (gf := 132) (lb := #[.pointer (some ⟨s + 1 + 1 + 1 + 1 + 1 + 1, 0, none⟩), .pointer (some ⟨s + 1 + 1 + 1 + 1 + 1 + 1 + 1, 0, none⟩)]) rfl (fun _ _ => rfl) (encs := encO) (Rel := RelO xs w2.heap.size) (S := fun j => j = s + 1 + 1 + 1 + 1 + 1) (Full := fun ys => ys.length = xs.length)
    (others_seq _ w2 (s + 1 + 1 + 1 + 1 + 1 + 1) (s + 1 + 1 + 1 + 1 + 1 + 1 + 1) g A xs.length c xs HF2.out HX2.out hl HU.out (fun j hj => by omega) (by omega) (fun j hj hn => by have := hA1 j hj hn; omega) a6 a7 (by omega) (by omega)) (fun _ => by rfl) (fun j hj => by omega)
    (ThrI xs ys w2 (s + 1 + 1 + 1 + 1 + 1)) ?_ ?_ ⟨none, [], a5, RF_nil _ _, thru_start _ _, Fr.refl _ _⟩
    (fun y => { tmps := #[Value.pointer (some { block := g, off := 0 }), Value.slice A xs.length c, Value.slice B xs.length d, Value.pointer (some { block := s, off := 0 }), Value.pointer (some { block := s + 1, off := 0 }), Value.pointer (some { block := s + 1 + 1, off := 0 }), Value.pointer (some { block := s + 1 + 1 + 1, off := 0 }), Value.pointer (some { block := s + 1 + 1 + 1 + 1, off := 0 }), Value.pointer (some { block := s + 1 + 1 + 1 + 1 + 1, off := 0 }),
          .int .i64 (y.1 : Int), .slice y.2.1 y.2.2.length y.2.2.length, undef, undef, Value.slice A xs.length c, Value.int IntKind.i64 xs.length, Value.slice B xs.length d,
          Value.int IntKind.i64 xs.length, Value.bool false, Value.pointer (some { block := g, off := 0 }), Value.slice A xs.length c,
          Value.func (Fn.func 132) #[] #[Value.pointer (some { block := s + 1 + 1 + 1 + 1 + 1 + 1, off := 0 }), Value.pointer (some { block := s + 1 + 1 + 1 + 1 + 1 + 1 + 1, off := 0 })], .int .i64 (y.1 : Int), .slice y.2.1 y.2.2.length y.2.2.length, undef, undef, undef, undef, undef, undef, undef, undef, undef, undef, undef, undef, undef, undef, undef, undef, undef, undef, undef, undef, undef, undef, undef, undef, undef, undef], defers := [] }) ?_ ?_ ?_
  · rintro pre W W' ⟨D, sm, hv, hr, ht, hf⟩ hk
    exact ⟨D, sm, hk.blk hv (fun h => by omega), RF_abd hr hk, ht, hf.trans hk (fun k h => .inr h.1)⟩
  · rintro pre x W W' ⟨h1, h2, h3, h4, h5⟩ hk
    exact ⟨h1, h2, RF_abd h3 hk, h4, h5⟩
  · intro l pre y W K hr hK
    clear hr
    subst hs
    rw [show encO y = #[.int .i64 (y.1 : Int), .slice y.2.1 y.2.2.length y.2.2.length] from rfl, zip2]
    gi_wp2
    exact hK
  · rintro l pre ⟨k, X, p⟩ W hsz ⟨D, sm, hv, hr, ht, hf⟩ ⟨hlt, rfl, hX, hbas, hpl⟩
    dsimp only at hX hbas hpl ⊢
    obtain ⟨m, hm⟩ : ∃ m, m = pre.length := ⟨_, rfl⟩
    rw [← hm] at hlt ht hbas ⊢
    have hfw := (Fr.of_below HB.out (fun j => j = s + 1 + 1 + 1 + 1 + 1)).trans' hf
    obtain ⟨adx, hAe, hcx⟩ := C_at HX.out hfw (fun j hj => by omega) m hlt
    obtain ⟨ady, hBe, hcy⟩ := C_at HY.out hfw (fun j hj => by omega) m hlt
    subst hAe
    subst hBe
    obtain ⟨x, hx⟩ : ∃ x, x = xs.getD m 0 := ⟨_, rfl⟩
    obtain ⟨y, hy⟩ : ∃ y, y = ys.getD m 0 := ⟨_, rfl⟩
    rw [← hx] at hcx
    rw [← hy] at hcy
    have c0 : W.cell? ⟨s, 0, none⟩ = some (.pointer (some ⟨g, 0, none⟩)) := cell_at (hf.blk b0 (by omega)) rfl
    have c1 : W.cell? ⟨s + 1, 0, none⟩ = some (.slice (some adx) xs.length c) := cell_at (hf.blk b1 (by omega)) rfl
    have c2 : W.cell? ⟨s + 1 + 1, 0, none⟩ = some (.slice (some ady) xs.length d) := cell_at (hf.blk b2 (by omega)) rfl
    have c5 : W.cell? ⟨s + 1 + 1 + 1 + 1 + 1, 0, none⟩ = some (.slice D sm.length sm.length) := cell_at hv rfl
    have hFW : Fld W g := HF2.out.fr hf (by omega)
    have hne : ev p x ≠ 0 := by rw [hx]; exact hbas.2.2
    have k0 : ∀ n : After W, n.w.cell? ⟨s, 0, none⟩ = some (.pointer (some ⟨g, 0, none⟩)) := fun n => (Fr.of_below n.below (fun _ => False)).cell c0 (fun h => h)
    have k1 : ∀ n : After W, n.w.cell? ⟨s + 1, 0, none⟩ = some (.slice (some adx) xs.length c) := fun n => (Fr.of_below n.below (fun _ => False)).cell c1 (fun h => h)
    have k2 : ∀ n : After W, n.w.cell? ⟨s + 1 + 1, 0, none⟩ = some (.slice (some ady) xs.length d) := fun n => (Fr.of_below n.below (fun _ => False)).cell c2 (fun h => h)
    have k3 : ∀ n : After W, n.w.cell? (adx.add m) = some (.int .u8 (x.v : Int)) := fun n => (Fr.of_below n.below (fun _ => False)).cell hcx (fun h => h)
    have k4 : ∀ n : After W, n.w.cell? (ady.add m) = some (.int .u8 (y.v : Int)) := fun n => (Fr.of_below n.below (fun _ => False)).cell hcy (fun h => h)
    have HE : Aside0 (∀ n : After W, Calls Try.prog 122 #[.pointer (some ⟨g, 0, none⟩), .slice X p.length p.length, .int .u8 (x.v : Int)] n.w fun e w'' => e = .returned (.int .u8 ((ev p x).v : Int)) ∧ ∃ m : After W, w'' = m.w) :=
      ⟨fun n => after_call ((Eval_any n.w g X p.length p.length p x (hFW.fr (Fr.of_below n.below (fun _ => False)) (fun h => h)) (Kd.C_below hX.1 n.below) (by omega)).mono (fun _ _ ⟨he, hf⟩ => ⟨he, hf.below (Nat.le_refl _) (fun _ h => h.elim)⟩))⟩
    have HD : Aside0 (∀ n : After W, Calls Try.prog 33 #[.pointer (some ⟨g, 0, none⟩), .int .u8 (y.v : Int), .int .u8 ((ev p x).v : Int)] n.w fun e w'' => e = .returned (.tuple #[.int .u8 ((y * (ev p x).inv).v : Int), .bool true]) ∧ ∃ m : After W, w'' = m.w) :=
      ⟨fun n => after_drawn (DivF n.w g y (ev p x) (hFW.fr (Fr.of_below n.below (fun _ => False)) (fun h => h)) hne)⟩
    have hmI : (m : Int) < (xs.length : Int) := by omega
    have HS := Aside0.mk (show ∀ q, Eqv q (mulP p [y * (ev p x).inv]) → ThruTo xs ys (trimP (addP sm q)) (m + 1) from fun q hq => thru_step ht hlt hbas (by rw [← hx, ← hy]; exact hq))
    have HSL := Aside0.mk ht.2.1
    obtain ⟨z, hz⟩ : ∃ z, z = y * (ev p x).inv := ⟨_, rfl⟩
    obtain ⟨e, he⟩ : ∃ e, e = ev p x := ⟨_, rfl⟩
    rw [← hz] at HD HS
    rw [← he] at HE HD
    have HM := Aside0.mk hm
    have HP := Aside0.mk (And.intro hX hpl)
    have HR := Aside0.mk hr
    have HFr := Aside0.mk hf
    have HV := Aside0.mk hv
    have HFW := Aside0.mk hFW
    have HSS := Aside0.mk hs
    clear hs hx hy hz he hm hX hpl hr hf hfw hv hFW hne hbas ht hsz a4 a5 a6 a7 b0 b1 b2 b3 hcx hcy
    have mixed : Try.prog.follows .mixedOrders = true := by kernel_rfl
    gi_wp2
    refine region_round_quiet (C := fun w' => ∃ n : After W, w' = n.w) l mixed (by kernel_rfl) (by kernel_rfl) ⟨⟨_, below_drew (Below.refl _ W)⟩, rfl⟩ ?_
    repeat (first | go_big_quiet_skip | (go_big_quiet_want; go_big_quiet_op; first | go_big_quiet_on | (apply Exists.intro; refine ⟨fun t => ?_, ?_⟩; (first | (go_at_call 122; exact HE.out t) | (go_at_call 33; exact HD.out t)); go_big_quiet_on)))
    refine wpQuiet_nil ?_
    rintro _ ⟨t, rfl⟩
    have q0 := k0 t
    have q8 : t.w.cell? ⟨s + 1 + 1 + 1 + 1 + 1, 0, none⟩ = some (.slice D sm.length sm.length) := (Fr.of_below t.below (fun _ => False)).cell c5 (fun h => h)
    have HT := Aside0.mk t.below
    obtain ⟨V, hV⟩ : ∃ V, V = t.w := ⟨_, rfl⟩
    rw [← hV] at q0 q8 HT ⊢
    have q9 : (V.alloc (Obj.cells #[.int .u8 (z.v : Int)] 5)).cell? ⟨s, 0, none⟩ = some (.pointer (some ⟨g, 0, none⟩)) := (Fr.of_below (below_alloc (Below.refl _ V) _) (fun _ => False)).cell q0 (fun h => h)
    have q10 : (V.alloc (Obj.cells #[.int .u8 (z.v : Int)] 5)).cell? ⟨s + 1 + 1 + 1 + 1 + 1, 0, none⟩ = some (.slice D sm.length sm.length) := (Fr.of_below (below_alloc (Below.refl _ V) _) (fun _ => False)).cell q8 (fun h => h)
    obtain ⟨V1, hV1⟩ : ∃ V1, V1 = (V.alloc (Obj.cells #[.int .u8 (z.v : Int)] 5)) := ⟨_, rfl⟩
    have hbV : Below V.heap.size V V1.drew := by rw [hV1]; exact below_drew (below_alloc (Below.refl _ V) _)
    have hbWV : Below W.heap.size W V1.drew := HT.out.trans (hbV.mono HT.out.size)
    have HMU : Aside0 (Calls Try.prog 87 #[.pointer (some ⟨g, 0, none⟩), .slice X p.length p.length, .slice (some ⟨V.heap.size, 0, none⟩) 1 1] V1.drew fun e w' => ∃ D, e = .returned (.slice D (trimP (mulP p [z])).length (trimP (mulP p [z])).length) ∧ RF w' V1.drew.heap.size D (trimP (mulP p [z])) ∧ Fr (fun _ => False) V1.drew w') :=
      ⟨MulP_any V1.drew g X (some ⟨V.heap.size, 0, none⟩) p.length 1 p.length 1 p [z] (HFW.out.fr (Fr.of_below hbWV (fun _ => False)) (fun h => h)) (Kd.C_below HP.out.1.1 hbWV)
        (by rw [hV1]; exact R_C (R_fr (R_litF V V.heap.size (fun _ => True) [z] (by simp) (Nat.le_refl _) trivial) ((Fr.refl (fun _ => False) _).drew) (fun _ _ _ _ h => h))) (by have := HP.out.2; omega)⟩
    have hb5 : V1.drew.heap[s + 1 + 1 + 1 + 1 + 1]? = some (.cells #[.slice D sm.length sm.length] 36 (0, 0)) := (Fr.of_below hbWV (fun _ => False)).blk HV.out (fun h => h)
    have hsz : w2.heap.size ≤ W.heap.size := HFr.out.size
    have hml : (trimP (mulP p [z])).length ≤ xs.length := trim_le (fun i hi => cf_mul_ge p [z] xs.length 1 (fun j hj => cf_ge _ _ (by have := HP.out.2; omega)) (fun j hj => cf_ge _ _ (by simp only [List.length_cons, List.length_nil]; omega)) i (by omega) (by omega))
    have HAD : Aside0 (∀ M W3, RF W3 V1.drew.heap.size M (trimP (mulP p [z])) → Fr (fun _ => False) V1.drew W3 → W3.cell? ⟨s + 1 + 1 + 1 + 1 + 1, 0, none⟩ = some (.slice D sm.length sm.length) ∧
        Calls Try.prog 86 #[.slice D sm.length sm.length, .slice M (trimP (mulP p [z])).length (trimP (mulP p [z])).length] W3 fun e w' => ∃ E, e = .returned (.slice E (trimP (addP sm (trimP (mulP p [z])))).length (trimP (addP sm (trimP (mulP p [z])))).length) ∧
          w'.cell? ⟨s + 1 + 1 + 1 + 1 + 1, 0, none⟩ = some (.slice D sm.length sm.length) ∧ w'.frozen? ⟨s + 1 + 1 + 1 + 1 + 1, 0, none⟩ = false ∧
          ∀ v', v' = w'.setCell ⟨s + 1 + 1 + 1 + 1 + 1, 0, none⟩ (.slice E (trimP (addP sm (trimP (mulP p [z])))).length (trimP (addP sm (trimP (mulP p [z])))).length) → Fr (fun j => j = s + 1 + 1 + 1 + 1 + 1) W v' ∧ ThrI xs ys w2 (s + 1 + 1 + 1 + 1 + 1) (pre ++ [(m, X, p)]) v') := ⟨fun M W3 hM hf3 => by
      have hb3 := hf3.blk hb5 (fun h => h)
      have hf0 : Fr (fun _ => False) W W3 := (Fr.of_below hbWV (fun _ => False)).trans' hf3
      have hD3 : RF W3 w2.heap.size D sm := RF_fr HR.out hf0 (fun _ _ _ h => h)
      refine ⟨cell_at hb3 rfl, (Add_any W3 D M sm.length (trimP (mulP p [z])).length sm.length (trimP (mulP p [z])).length sm (trimP (mulP p [z])) hD3.1 hM.1 (by have := HSL.out; omega) (by omega)).mono ?_⟩
      rintro e W4 ⟨E, rfl, hE, hf4⟩
      have hb4 := hf4.blk hb3 (fun h => h)
      refine ⟨E, rfl, cell_at hb4 rfl, frozen_at hb4, ?_⟩
      rintro v' rfl
      have hf5 : Fr (fun j => j = s + 1 + 1 + 1 + 1 + 1) W W4 := (hf0.trans' hf4).mono (fun _ h => h.elim)
      have hf6 : Fr (fun j => j = s + 1 + 1 + 1 + 1 + 1) W (W4.setCell ⟨s + 1 + 1 + 1 + 1 + 1, 0, none⟩ (.slice E (trimP (addP sm (trimP (mulP p [z])))).length (trimP (addP sm (trimP (mulP p [z])))).length)) := hf5.set_ (p := ⟨s + 1 + 1 + 1 + 1 + 1, 0, none⟩) (.inl rfl) _
      refine ⟨hf6, E, _, blk_set hb4 0 _, ?_, ?_, HFr.out.trans' hf6⟩
      · have h1 : RF W4 W3.heap.size E (trimP (addP sm (trimP (mulP p [z])))) := hE
        have h3 : w2.heap.size ≤ W3.heap.size := Nat.le_trans hsz hf0.size
        exact RF_lower (RF_fr h1 ((Fr.refl (fun j => j = s + 1 + 1 + 1 + 1 + 1) W4).set_ (p := ⟨s + 1 + 1 + 1 + 1 + 1, 0, none⟩) (.inl rfl) _) (fun j hj _ he => by omega)) h3
      · rw [List.length_append, ← HM.out]
        exact HS.out _ (cf_trim _)⟩
    rw [hV1] at HMU HAD
    clear hV k0 k1 k2 k3 k4 c0 c1 c2 c5 HE HD hV1 hbV hbWV hb5 hsz hml
    gi_wp2
    refine region_inRound l mixed rfl (by kernel_rfl) ?_
    repeat' (first
      | exact AllReadyIn.nil
      | refine wpAnyIn_done (by decide +kernel) ?_ _
      | (refine wpAnyIn_take (i := 2) (v := ?_) rfl rfl (by kernel_rfl) (by decide +kernel) (by decide +kernel) (fun _ _ _ h => h) ⟨Or.inl ⟨by rfl, ?_⟩, fun _ => rfl⟩ ?_; rotate_left 1; focus (intro w; go_simp; (try with_reducible rfl); done))
      | (refine wpAnyIn_take (i := 3) (v := ?_) rfl rfl (by kernel_rfl) (by decide +kernel) (by decide +kernel) (fun _ _ _ h => h) ⟨Or.inl ⟨by rfl, ?_⟩, fun _ => rfl⟩ ?_; rotate_left 1; focus (intro w; go_simp; (try with_reducible rfl); done))
      | refine wpAnyIn_ready (rs := [0, 1, 4]) (by decide +kernel) (by simp) ?_
      | refine wpAnyIn_ready (rs := [0, 1]) (by decide +kernel) (by simp) ?_
      | refine wpAnyIn_ready (rs := [0, 4]) (by decide +kernel) (by simp) ?_
      | refine wpAnyIn_ready (rs := [1, 4]) (by decide +kernel) (by simp) ?_
      | refine wpAnyIn_ready (rs := [0]) (by decide +kernel) (by simp) ?_
      | refine wpAnyIn_ready (rs := [1]) (by decide +kernel) (by simp) ?_
      | refine wpAnyIn_ready (rs := [4]) (by decide +kernel) (by simp) ?_
      | refine wpAnyIn_ready (rs := [0, 5]) (by decide +kernel) (by simp) ?_
      | refine wpAnyIn_ready (rs := [5]) (by decide +kernel) (by simp) ?_
      | refine wpAnyIn_ready (rs := [6]) (by decide +kernel) (by simp) ?_
      | refine wpAnyIn_ready (rs := [7]) (by decide +kernel) (by simp) ?_
      | refine AllReadyIn.cons rfl (fun K hK => ?_) ?_
      | (rw [if_pos (by rfl)]; go_simp; refine ⟨trivial, ?_⟩; gi_at_call 87; refine (callsIn_wide.2 HMU.out).mono ?_; rintro e W3 ⟨M, rfl, hM, hf3⟩; obtain ⟨q11, hA⟩ := HAD.out M W3 hM hf3; replace hA := Aside0.mk hA; clear hM hf3; go_simp; refine hK _ _ ?_; clear hK K)
      | (rw [if_pos (by rfl)]; go_simp; refine ⟨trivial, ?_⟩; gi_at_call 86; refine (callsIn_wide.2 hA.out).mono ?_; rintro e W4 ⟨E, rfl, q12, q13, hfin⟩; replace hfin := Aside0.mk hfin; clear hA; go_simp; refine hK _ _ ?_; clear hK K)
      | (go_simp; refine hK _ _ ?_; clear hK K))
    all_goals (gi_wp2; exact hfin.out _ rfl)
  · rintro zs W hzs ⟨D, sm, hv, hr, ht, hf⟩ hK
    have HT := Aside0.mk (thru_end ht hzs)
    have c5 : W.cell? ⟨s + 1 + 1 + 1 + 1 + 1, 0, none⟩ = some (.slice D sm.length sm.length) := cell_at hv rfl
    have h3 := hf.blk b3 (by omega)
    have h4 := hf.blk a4 (by omega)
    have c3 : W.cell? ⟨s + 1 + 1 + 1, 0, none⟩ = some (.slice none 0 0) := cell_at h3 rfl
    have z3 : W.frozen? ⟨s + 1 + 1 + 1, 0, none⟩ = false := frozen_at h3
    have c4 : W.cell? ⟨s + 1 + 1 + 1 + 1, 0, none⟩ = some (.bool false) := cell_at h4 rfl
    have z4 : W.frozen? ⟨s + 1 + 1 + 1 + 1, 0, none⟩ = false := frozen_at h4
    have hn34 : s + 1 + 1 + 1 ≠ s + 1 + 1 + 1 + 1 := by omega
    have HFW := Aside0.mk ((Fr.of_below HB.out (fun j => j = s + 1 + 1 + 1 + 1 + 1)).trans' hf)
    obtain ⟨K, hKK⟩ : ∃ K, K = w2.heap.size := ⟨_, rfl⟩
    have HR := Aside0.mk (RF_lower hr (show w.heap.size ≤ w2.heap.size by omega))
    have HKB := Aside0.mk (show w.heap.size ≤ s + 1 + 1 + 1 by omega)
    have HKS := Aside0.mk hr
    rw [← hKK] at hK hz4
    rw [hKK] at hz4
    have HSS := Aside0.mk hs
    have HZ4 := Aside0.mk hz4
    have hf' := hf
    clear hs hz4 hr ht hf hv a4 a5 a6 a7 b0 b1 b2 b3
    rw [← hKK]
    have HKK := Aside0.mk hKK
    clear hKK
    gi_wp2
    obtain ⟨Wf, hWf⟩ : ∃ Wf, Wf = ((W.setCell ⟨s + 1 + 1 + 1, 0, none⟩ (Value.slice D sm.length sm.length)).setCell ⟨s + 1 + 1 + 1 + 1, 0, none⟩ (Value.bool true)) := ⟨_, rfl⟩
    have hWf' : ((W.setCell ⟨s + 1 + 1 + 1, 0, none⟩ (Value.slice D sm.length sm.length)).setCell ⟨s + 1 + 1 + 1 + 1, 0, none⟩ (Value.bool true)) = Wf := hWf.symm
    rw [hWf']
    have hf2 : Fr (fun j => j = s + 1 + 1 + 1 ∨ j = s + 1 + 1 + 1 + 1) W Wf := by
      rw [hWf]
      exact ((Fr.refl _ W).set_ (p := ⟨s + 1 + 1 + 1, 0, none⟩) (.inl (.inl rfl)) _).set_ (p := ⟨s + 1 + 1 + 1 + 1, 0, none⟩) (.inl (.inr rfl)) _
    have hKf := hf2.blk hK (by have := HZ4.out; have := HKK.out; omega)
    refine ⟨by simp, .inl ⟨_, _, rfl, run_takeDeferred hKf, ?_⟩⟩
    have hcf3 : Wf.heap[s + 1 + 1 + 1]? = some (.cells #[.slice D sm.length sm.length] 36 (0, 0)) := by
      rw [hWf]
      exact ((Fr.refl (fun j => j = s + 1 + 1 + 1 + 1) _).set_ (p := ⟨s + 1 + 1 + 1 + 1, 0, none⟩) (.inl rfl) _).blk (blk_set h3 0 _) (by omega)
    have hcf4 : Wf.heap[s + 1 + 1 + 1 + 1]? = some (.cells #[.bool true] 4 (0, 0)) := by
      rw [hWf]
      exact blk_set (((Fr.refl (fun j => j = s + 1 + 1 + 1) W).set_ (p := ⟨s + 1 + 1 + 1, 0, none⟩) (.inl rfl) _).blk h4 (by omega)) 0 _
    have hKne : K = s + 1 + 1 + 1 + 1 + 1 + 1 + 1 + 1 := by have := HZ4.out; have := HKK.out; omega
    refine ⟨.tuple #[.slice D sm.length sm.length, .bool true], results_cell2 rfl _ _ _ rfl rfl (load36 (cell_at ((World.putObj_heap_other (by omega)).trans hcf3) rfl)) (load4 (cell_at ((World.putObj_heap_other (by omega)).trans hcf4) rfl)), D, sm, rfl, ?_, HT.out, ?_⟩
    · have h5 := RF_fr HKS.out hf2 (fun j hj _ h => by have := HZ4.out; omega)
      have h6 := RF_abd (b0 := 0) h5 (w1 := Wf.putObj K (Obj.deferred none)) ⟨rfl, rfl, rfl, by simp, fun k _ hk => World.putObj_heap_other (fun e => hk (by subst e; exact ⟨by omega, _, hKf, rfl⟩))⟩
      exact RF_lower h6 (by have := HZ4.out; have := HSS.out; omega)
    · have h1 : Fr (fun _ => False) w W := (Fr.of_below HB.out _).trans hf' (fun k hk => .inr (by have := HSS.out; omega))
      exact (h1.trans hf2 (fun k hk => .inr (by have := HSS.out; omega))).trans (fr_shut Wf K _) (fun k hk => .inr (by have := HSS.out; omega))
end Go.Proofs.Ytpeiejkcoadhfaa

/- What the view's laws take, Vt13: Gf3, GfR, PzF, PzP, GfP, Gf4, PzW, PzE. -/
import Derived.Test.YtpeiejkcoadhfaaVt09
import Derived.Test.YtpeiejkcoadhfaaVt10
import Derived.Test.YtpeiejkcoadhfaaVt11
import Derived.Test.YtpeiejkcoadhfaaVt12
set_option linter.all false
namespace Go.Proofs.Ytpeiejkcoadhfaa
open Go.RowKit Go.Shelf Go.Proofs.YtpeiejkcoadhfaaW.PrintWords
theorem L_lt (a : Nat) (ha : a < 256) : Gf.L a < 255 := by
  by_cases h : a = 0
  · subst h; decide +kernel
  · exact (Gf.E_L a ha h).2
theorem mul_EL (a b : Nat) (ha : a < 256) (hb : b < 256) (ha0 : a ≠ 0) (hb0 : b ≠ 0) : Gf.mulN a b = Gf.E ((Gf.L a + Gf.L b) % 255) := by
  have h1 := Gf.E_L a ha ha0
  have h2 := Gf.E_L b hb hb0
  have h3 := Gf.mul_E (Gf.L a) h1.2 (Gf.L b) h2.2
  rwa [h1.1, h2.1] at h3
theorem Fld.exp {w : World} {g : Nat} (h : Fld w g) (i : Nat) (hi : i < 510) : w.cell? ⟨g, i, none⟩ = some (.int .u8 (Gf.E (i % 255) : Nat)) := by
  obtain ⟨cs, hc, hcz, he, hl⟩ := h
  obtain ⟨v, hv, hv2⟩ := he i hi
  rw [hv2 (Nat.mod_lt _ (by omega))] at hv
  exact cell_at hc hv
theorem Fld.log {w : World} {g : Nat} (h : Fld w g) (a : Nat) (ha : a < 256) (h0 : a ≠ 0) : w.cell? ⟨g, 510 + a, none⟩ = some (.int .i64 (Gf.L a : Nat)) := by
  obtain ⟨cs, hc, hcz, he, hl⟩ := h
  obtain ⟨v, hv, hv2⟩ := hl a ha
  have h1 := Gf.E_L a ha h0
  rw [hv2 (Gf.L a) h1.2 h1.2 h1.1.symm] at hv
  exact cell_at hc hv
theorem Fld.fr {w W : World} {g : Nat} {S : Nat → Prop} (h : Fld w g) (hf : Fr S w W) (hg : ¬ S g) : Fld W g := by
  obtain ⟨cs, hc, h⟩ := h
  exact ⟨cs, hf.blk hc hg, h⟩
theorem Fld.drew {w : World} {g n : Nat} (h : Fld w g) : Fld (w.drewN n) g := h.fr ((Fr.refl (fun _ => False) w).drewN n) (fun h => h)
set_option maxRecDepth 100000 in
theorem Mul_any (w : World) (g a b : Nat) (hF : Fld w g) (ha : a < 256) (hb : b < 256) : Calls Try.prog 31 #[.pointer (some ⟨g, 0, none⟩), .int .u8 a, .int .u8 b] w fun e w' => e = .returned (.int .u8 (Gf.mulN a b : Nat)) ∧ Drawn0 w w' := by
  by_cases ha0 : a = 0
  · have hx := (Gf.mul_0 b hb).1
    rw [ha0, hx]
    clear hx hF
    go_enter Try.func31, Try.ntmps31
    go_wp2
    go_ret
    exact ⟨rfl, Drawn0.refl _⟩
  by_cases hb0 : b = 0
  · have hx := (Gf.mul_0 a ha).2
    rw [hb0, hx]
    have ha0' : ((a : Int) == 0) = false := by simpa using ha0
    clear hx hF
    go_enter Try.func31, Try.ntmps31
    go_wp2
    go_ret
    exact ⟨rfl, Drawn0.refl _⟩
  have h1 := L_lt a ha
  have h2 := L_lt b hb
  rw [mul_EL a b ha hb ha0 hb0]
  have c1 := hF.log a ha ha0
  have c2 := hF.log b hb hb0
  have c3 := hF.exp (Gf.L a + Gf.L b) (by omega)
  generalize Gf.E ((Gf.L a + Gf.L b) % 255) = v at *
  generalize Gf.L a = i at *
  generalize Gf.L b = j at *
  have ha0' : ((a : Int) == 0) = false := by simpa using ha0
  have hb0' : ((b : Int) == 0) = false := by simpa using hb0
  have hw : IntKind.i64.wrap ((i : Int) + (j : Int)) = (i : Int) + (j : Int) := IntWalk.i64_in _ ⟨by omega, by omega⟩
  have i1 : (0 : Int) ≤ (a : Int) := by omega
  have i2 : (a : Int) < 256 := by omega
  have i3 : (0 : Int) ≤ (b : Int) := by omega
  have i4 : (b : Int) < 256 := by omega
  have i5 : (0 : Int) ≤ (i : Int) + (j : Int) := by omega
  have i6 : (i : Int) + (j : Int) < 510 := by omega
  have i7 : ((i : Int) + (j : Int)).toNat = i + j := by omega
  clear hF ha0 hb0
  go_enter Try.func31, Try.ntmps31
  go_wp2
  go_big_quiet (fail)
  go_wp2
  go_ret
  exact ⟨rfl, ⟨⟨_, rfl⟩⟩⟩
def invN (a : Nat) : Nat := if a = 0 then 0 else Gf.E ((255 - Gf.L a) % 255)
theorem E_lt (i : Nat) : Gf.E i < 256 := Nat.mod_lt _ (by omega)
theorem invN_lt (a : Nat) : invN a < 256 := by
  unfold invN
  split
  · omega
  · exact E_lt _
set_option maxRecDepth 100000 in
theorem Inv_any (w : World) (g a : Nat) (hF : Fld w g) (ha : a < 256) : Calls Try.prog 32 #[.pointer (some ⟨g, 0, none⟩), .int .u8 a] w fun e w' => e = .returned (.tuple #[.int .u8 (invN a : Nat), .bool (decide (a ≠ 0))]) ∧ Drawn0 w w' := by
  by_cases ha0 : a = 0
  · subst ha0
    clear hF
    go_enter Try.func32, Try.ntmps32
    go_wp2
    go_ret2
    exact ⟨rfl, Drawn0.refl _⟩
  have h1 := L_lt a ha
  have hv : invN a = Gf.E ((255 - Gf.L a) % 255) := if_neg ha0
  have hd : decide (a ≠ 0) = true := decide_eq_true ha0
  rw [hv, hd]
  have c1 := hF.log a ha ha0
  have c3 := hF.exp (255 - Gf.L a) (by omega)
  generalize Gf.E ((255 - Gf.L a) % 255) = v at *
  generalize Gf.L a = i at *
  have ha0' : ((a : Int) == 0) = false := by simpa using ha0
  have hw : IntKind.i64.wrap (255 - (i : Int)) = 255 - (i : Int) := IntWalk.i64_in _ ⟨by omega, by omega⟩
  have i1 : (0 : Int) ≤ (a : Int) := by omega
  have i2 : (a : Int) < 256 := by omega
  have i5 : (0 : Int) ≤ 255 - (i : Int) := by omega
  have i6 : 255 - (i : Int) < 510 := by omega
  have i7 : (255 - (i : Int)).toNat = 255 - i := by omega
  clear hF ha0 hv hd
  go_enter Try.func32, Try.ntmps32
  go_wp2
  go_big_quiet (fail)
  go_wp2
  go_ret2
  exact ⟨rfl, ⟨⟨_, rfl⟩⟩⟩
set_option maxRecDepth 100000 in
theorem Div_any (w : World) (g a b : Nat) (hF : Fld w g) (ha : a < 256) (hb : b < 256) : Calls Try.prog 33 #[.pointer (some ⟨g, 0, none⟩), .int .u8 a, .int .u8 b] w fun e w' =>
    e = .returned (.tuple #[.int .u8 (Gf.mulN a (invN b) : Nat), .bool (decide (b ≠ 0))]) ∧ Drawn0 w w' := by
  have hI := Inv_any w g b hF hb
  have hv := invN_lt b
  have hM : ∀ n, Calls Try.prog 31 #[.pointer (some ⟨g, 0, none⟩), .int .u8 a, .int .u8 (invN b : Nat)] (w.drewN n) fun e w' => e = .returned (.int .u8 (Gf.mulN a (invN b) : Nat)) ∧ Drawn0 (w.drewN n) w' := fun n => Mul_any _ g a (invN b) hF.drew ha hv
  generalize Gf.mulN a (invN b) = q at *
  generalize invN b = v at *
  generalize decide (b ≠ 0) = ok at *
  have HI := Aside0.mk hI
  have HM := Aside0.mk hM
  clear hI hM hF
  go_enter Try.func33, Try.ntmps33
  go_wp2_with (first | (go_at_call 32; refine HI.out.mono ?_; rintro e w' ⟨rfl, ⟨⟨n, rfl⟩⟩⟩) | (go_at_call 31; refine (HM.out _).mono ?_; rintro e w' ⟨rfl, ⟨⟨n', rfl⟩⟩⟩))
  go_ret2
  exact ⟨rfl, ⟨⟨_, rfl⟩⟩⟩
end Go.Proofs.Ytpeiejkcoadhfaa
namespace Go.Proofs.Ytpeiejkcoadhfaa
open Go.RowKit Go.Proofs.YtpeiejkcoadhfaaW.PrintWords Go.Proofs.YtpeiejkcoadhfaaW.PrintMore PGfPows
set_option maxRecDepth 100000 in
theorem mulN_lt (a b : Nat) (ha : a < 256) (hb : b < 256) : Gf.mulN a b < 256 := by
  by_cases ha0 : a = 0
  · rw [ha0, (Gf.mul_0 b hb).1]; omega
  by_cases hb0 : b = 0
  · rw [hb0, (Gf.mul_0 a ha).2]; omega
  rw [mul_EL a b ha hb ha0 hb0]
  exact E_lt _
theorem mul_one_inv : ∀ a < 256, a ≠ 0 → Gf.mulN a (invN a) = 1 := by
  intro a ha h0
  have h1 := Gf.E_L a ha h0
  have hi : invN a = Gf.E ((255 - Gf.L a) % 255) := if_neg h0
  have h2 := Gf.mul_E (Gf.L a) h1.2 ((255 - Gf.L a) % 255) (Nat.mod_lt _ (by omega))
  rw [h1.1, ← hi] at h2
  rw [h2]
  have h3 : (Gf.L a + (255 - Gf.L a) % 255) % 255 = 0 := by omega
  rw [h3]
  decide +kernel
theorem mul_comm' (a b : Nat) (ha : a < 256) (hb : b < 256) : Gf.mulN a b = Gf.mulN b a := by
  by_cases ha0 : a = 0
  · rw [ha0, (Gf.mul_0 b hb).1, (Gf.mul_0 b hb).2]
  by_cases hb0 : b = 0
  · rw [hb0, (Gf.mul_0 a ha).1, (Gf.mul_0 a ha).2]
  rw [mul_EL a b ha hb ha0 hb0, mul_EL b a hb ha hb0 ha0, Nat.add_comm]
theorem mul_ne (a b : Nat) (ha : a < 256) (hb : b < 256) (ha0 : a ≠ 0) (hb0 : b ≠ 0) : Gf.mulN a b ≠ 0 := by
  rw [mul_EL a b ha hb ha0 hb0]
  have := (Gf.E_pos ((Gf.L a + Gf.L b) % 255) (Nat.mod_lt _ (by omega))).1
  omega
theorem L_mul (a b : Nat) (ha : a < 256) (hb : b < 256) (ha0 : a ≠ 0) (hb0 : b ≠ 0) : Gf.L (Gf.mulN a b) = (Gf.L a + Gf.L b) % 255 := by
  rw [mul_EL a b ha hb ha0 hb0]
  exact (Gf.E_pos _ (Nat.mod_lt _ (by omega))).2.2
theorem mul_assoc' (a b c : Nat) (ha : a < 256) (hb : b < 256) (hc : c < 256) : Gf.mulN (Gf.mulN a b) c = Gf.mulN a (Gf.mulN b c) := by
  by_cases ha0 : a = 0
  · rw [ha0, (Gf.mul_0 b hb).1, (Gf.mul_0 c hc).1, (Gf.mul_0 _ (mulN_lt b c hb hc)).1]
  by_cases hb0 : b = 0
  · rw [hb0, (Gf.mul_0 a ha).2, (Gf.mul_0 c hc).1, (Gf.mul_0 a ha).2]
  by_cases hc0 : c = 0
  · rw [hc0, (Gf.mul_0 b hb).2, (Gf.mul_0 a ha).2, (Gf.mul_0 _ (mulN_lt a b ha hb)).2]
  rw [mul_EL _ c (mulN_lt a b ha hb) hc (mul_ne a b ha hb ha0 hb0) hc0, mul_EL a _ ha (mulN_lt b c hb hc) ha0 (mul_ne b c hb hc hb0 hc0), L_mul a b ha hb ha0 hb0, L_mul b c hb hc hb0 hc0]
  congr 1
  omega
theorem mul_xor_r (a b c : Nat) (ha : a < 256) (hb : b < 256) (hc : c < 256) : Gf.mulN a (b ^^^ c) = Gf.mulN a b ^^^ Gf.mulN a c := by
  have hx : b ^^^ c < 256 := Nat.xor_lt_two_pow (n := 8) hb hc
  rw [mul_comm' a _ ha hx, Gf.mulN_xor, mul_comm' b a hb ha, mul_comm' c a hc ha]
theorem mul_one' (a : Nat) (ha : a < 256) : Gf.mulN a 1 = a := by
  by_cases ha0 : a = 0
  · rw [ha0]; exact (Gf.mul_0 1 (by omega)).1
  have h0 : Gf.L 1 = 0 := by decide +kernel
  have h1 := Gf.E_L a ha ha0
  rw [mul_EL a 1 ha (by omega) ha0 (by omega), h0, Nat.add_zero, Nat.mod_eq_of_lt h1.2, h1.1]
end Go.Proofs.Ytpeiejkcoadhfaa
namespace Go.Proofs.Ytpeiejkcoadhfaa
structure F where
  v : Nat
  lt : v < 256
theorem F.ext {a b : F} (h : a.v = b.v) : a = b := by
  cases a; cases b; simp only at h; subst h; rfl
instance : DecidableEq F := fun a b => if h : a.v = b.v then isTrue (F.ext h) else isFalse (fun e => h (by rw [e]))
instance : Zero F := ⟨⟨0, by omega⟩⟩
instance : One F := ⟨⟨1, by omega⟩⟩
instance : Inhabited F := ⟨0⟩
theorem xor_lt {a b : Nat} (ha : a < 256) (hb : b < 256) : a ^^^ b < 256 := Nat.xor_lt_two_pow (n := 8) ha hb
instance : Add F := ⟨fun a b => ⟨a.v ^^^ b.v, xor_lt a.lt b.lt⟩⟩
instance : Mul F := ⟨fun a b => ⟨Gf.mulN a.v b.v, mulN_lt _ _ a.lt b.lt⟩⟩
def F.inv (a : F) : F := ⟨invN a.v, invN_lt a.v⟩
theorem F.zero_v : (0 : F).v = 0 := rfl
theorem F.add_comm (a b : F) : a + b = b + a := F.ext (Nat.xor_comm _ _)
theorem F.add_assoc (a b c : F) : a + b + c = a + (b + c) := F.ext (Nat.xor_assoc _ _ _)
theorem F.add_zero (a : F) : a + 0 = a := F.ext (Nat.xor_zero _)
theorem F.zero_add (a : F) : 0 + a = a := F.ext (Nat.zero_xor _)
theorem F.add_self (a : F) : a + a = 0 := F.ext (Nat.xor_self _)
theorem F.mul_comm (a b : F) : a * b = b * a := F.ext (mul_comm' _ _ a.lt b.lt)
theorem F.mul_assoc (a b c : F) : a * b * c = a * (b * c) := F.ext (mul_assoc' _ _ _ a.lt b.lt c.lt)
theorem F.mul_one (a : F) : a * 1 = a := F.ext (mul_one' _ a.lt)
theorem F.one_mul (a : F) : 1 * a = a := by rw [F.mul_comm, F.mul_one]
theorem F.mul_zero (a : F) : a * 0 = 0 := F.ext (Gf.mul_0 a.v a.lt).2
theorem F.zero_mul (a : F) : 0 * a = 0 := F.ext (Gf.mul_0 a.v a.lt).1
theorem F.mul_add (a b c : F) : a * (b + c) = a * b + a * c := F.ext (mul_xor_r _ _ _ a.lt b.lt c.lt)
theorem F.add_mul (a b c : F) : (a + b) * c = a * c + b * c := F.ext (Gf.mulN_xor _ _ _)
theorem F.mul_inv (a : F) (h : a ≠ 0) : a * a.inv = 1 := F.ext (mul_one_inv _ a.lt (fun e => h (F.ext e)))
theorem F.mul_eq_zero {a b : F} (h : a * b = 0) : a = 0 ∨ b = 0 := by
  by_cases ha : a = 0
  · exact .inl ha
  · right
    have : a.inv * (a * b) = 0 := by rw [h, F.mul_zero]
    rwa [← F.mul_assoc, F.mul_comm a.inv a, F.mul_inv a ha, F.one_mul] at this
theorem F.add_eq_zero {a b : F} (h : a + b = 0) : a = b := by
  have : a + b + b = b := by rw [h, F.zero_add]
  rwa [F.add_assoc, F.add_self, F.add_zero] at this
theorem F.add_left_comm (a b c : F) : a + (b + c) = b + (a + c) := by rw [← F.add_assoc, F.add_comm a b, F.add_assoc]
theorem F.add4 (a b c d : F) : (a + b) + (c + d) = (a + c) + (b + d) := by
  rw [F.add_assoc, F.add_assoc, F.add_left_comm b c d]
theorem F.one_ne : (1 : F) ≠ 0 := fun h => by have := congrArg F.v h; cases this
def cf (p : List F) (i : Nat) : F := p.getD i 0
def Eqv (p q : List F) : Prop := ∀ i, cf p i = cf q i
def ev : List F → F → F
  | [], _ => 0
  | a :: p, x => a + ev p x * x
def addP : List F → List F → List F
  | [], q => q
  | p, [] => p
  | a :: p, b :: q => (a + b) :: addP p q
def scP (a : F) (p : List F) : List F := p.map (a * ·)
def mulP : List F → List F → List F
  | [], _ => []
  | a :: p, q => addP (scP a q) (0 :: mulP p q)
def trimP : List F → List F
  | [] => []
  | a :: p => match trimP p with
    | [] => if a = 0 then [] else [a]
    | b :: q => a :: b :: q
theorem cf_nil (i : Nat) : cf [] i = 0 := rfl
theorem cf_zero (a : F) (p : List F) : cf (a :: p) 0 = a := rfl
theorem cf_succ (a : F) (p : List F) (i : Nat) : cf (a :: p) (i + 1) = cf p i := rfl
theorem cf_add : ∀ (p q : List F) (i : Nat), cf (addP p q) i = cf p i + cf q i
  | [], q, i => by simp [addP, cf_nil, F.zero_add]
  | a :: p, [], i => by simp [addP, cf_nil, F.add_zero]
  | a :: p, b :: q, 0 => rfl
  | a :: p, b :: q, i + 1 => by simp only [addP, cf_succ]; exact cf_add p q i
theorem cf_sc (a : F) : ∀ (p : List F) (i : Nat), cf (scP a p) i = a * cf p i
  | [], i => by simp [scP, cf_nil, F.mul_zero]
  | b :: p, 0 => rfl
  | b :: p, i + 1 => by simp only [scP, List.map_cons, cf_succ]; exact cf_sc a p i
theorem cf_ge (p : List F) (i : Nat) (h : p.length ≤ i) : cf p i = 0 := by
  unfold cf
  rw [List.getD_eq_getElem?_getD, List.getElem?_eq_none h]; rfl
theorem Eqv.refl (p : List F) : Eqv p p := fun _ => rfl
theorem Eqv.symm {p q : List F} (h : Eqv p q) : Eqv q p := fun i => (h i).symm
theorem Eqv.tail {a b : F} {p q : List F} (h : Eqv (a :: p) (b :: q)) : a = b ∧ Eqv p q := ⟨h 0, fun i => h (i + 1)⟩
theorem Eqv.add {p p' q q' : List F} (h : Eqv p p') (k : Eqv q q') : Eqv (addP p q) (addP p' q') := fun i => by rw [cf_add, cf_add, h i, k i]
theorem Eqv.cons (a : F) {p q : List F} (h : Eqv p q) : Eqv (a :: p) (a :: q) := fun i => by
  cases i with
  | zero => rfl
  | succ i => exact h i
theorem Eqv.sc (a : F) {p q : List F} (h : Eqv p q) : Eqv (scP a p) (scP a q) := fun i => by rw [cf_sc, cf_sc, h i]
theorem ev_add : ∀ (p q : List F) (x : F), ev (addP p q) x = ev p x + ev q x
  | [], q, x => by simp [addP, ev, F.zero_add]
  | a :: p, [], x => by simp [addP, ev, F.add_zero]
  | a :: p, b :: q, x => by simp only [addP, ev, ev_add p q x, F.add_mul]; exact F.add4 _ _ _ _
theorem ev_sc (a : F) : ∀ (p : List F) (x : F), ev (scP a p) x = a * ev p x
  | [], x => by simp [scP, ev, F.mul_zero]
  | b :: p, x => by
    have := ev_sc a p x
    simp only [scP] at this
    simp only [scP, List.map_cons, ev, this, F.mul_add, F.mul_assoc]
theorem ev_mul : ∀ (p q : List F) (x : F), ev (mulP p q) x = ev p x * ev q x
  | [], q, x => by simp [mulP, ev, F.zero_mul]
  | a :: p, q, x => by
    simp only [mulP, ev_add, ev_sc, ev, ev_mul p q x, F.zero_add, F.add_mul]
    rw [F.mul_assoc, F.mul_assoc, F.mul_comm x]
theorem ev_nought {p : List F} (h : ∀ i, cf p i = 0) (x : F) : ev p x = 0 := by
  induction p with
  | nil => rfl
  | cons a p ih =>
    have h0 := h 0
    rw [cf_zero] at h0
    rw [ev, h0, ih (fun i => h (i + 1)), F.zero_mul, F.zero_add]
theorem ev_eqv : ∀ (p q : List F) (_ : Eqv p q) (x : F), ev p x = ev q x
  | [], q, h, x => (ev_nought (fun i => (h i).symm) x).symm
  | a :: p, [], h, x => ev_nought (fun i => h i) x
  | a :: p, b :: q, h, x => by rw [ev, ev, h.tail.1, ev_eqv p q h.tail.2 x]
theorem cf_trim : ∀ (p : List F), Eqv (trimP p) p
  | [] => Eqv.refl _
  | a :: p => by
    have ih := cf_trim p
    unfold trimP
    cases h : trimP p with
    | nil =>
      rw [h] at ih
      simp only
      split
      · rename_i ha
        subst ha
        intro i
        cases i with
        | zero => rfl
        | succ i => exact ih i
      · exact Eqv.cons a ih
    | cons b q =>
      rw [h] at ih
      exact Eqv.cons a ih
theorem trim_nought {p : List F} (h : ∀ i, cf p i = 0) : trimP p = [] := by
  induction p with
  | nil => rfl
  | cons a p ih =>
    unfold trimP
    rw [ih (fun i => h (i + 1))]
    simp only
    rw [if_pos (show a = 0 from h 0)]
theorem trim_eqv : ∀ (p q : List F), Eqv p q → trimP p = trimP q
  | [], q, h => (trim_nought (fun i => (h i).symm)).symm
  | a :: p, [], h => trim_nought (fun i => h i)
  | a :: p, b :: q, h => by
    unfold trimP
    rw [trim_eqv p q h.tail.2, h.tail.1]
theorem trim_trim (p : List F) : trimP (trimP p) = trimP p := trim_eqv _ _ (cf_trim p)
theorem ev_trim (p : List F) (x : F) : ev (trimP p) x = ev p x := ev_eqv _ _ (cf_trim p) x
theorem trim_length (p : List F) : (trimP p).length ≤ p.length := by
  induction p with
  | nil => exact Nat.le_refl _
  | cons a p ih =>
    unfold trimP
    cases h : trimP p with
    | nil => simp only; split <;> simp
    | cons b q => rw [h] at ih; simpa using ih
theorem trim_last (p : List F) (h : trimP p ≠ []) : cf (trimP p) ((trimP p).length - 1) ≠ 0 := by
  induction p with
  | nil => exact absurd rfl h
  | cons a p ih =>
    unfold trimP at h ⊢
    cases hp : trimP p with
    | nil =>
      rw [hp] at h
      simp only at h ⊢
      split
      · rename_i ha; rw [if_pos ha] at h; exact absurd rfl h
      · rename_i ha; exact ha
    | cons b q =>
      rw [hp] at ih
      have := ih (by simp)
      simp only [List.length_cons, Nat.add_sub_cancel] at this ⊢
      exact this
theorem trim_le {p : List F} {n : Nat} (h : ∀ i, n ≤ i → cf p i = 0) : (trimP p).length ≤ n := by
  rcases Nat.lt_or_ge n (trimP p).length with hl | hl
  · have h1 := trim_last p (by intro e; rw [e] at hl; simp at hl)
    rw [cf_trim p, h _ (by omega)] at h1
    exact absurd rfl h1
  · exact hl
end Go.Proofs.Ytpeiejkcoadhfaa
namespace Go.Proofs.Ytpeiejkcoadhfaa
theorem mulP_zero {p : List F} (h : ∀ i, cf p i = 0) (q : List F) : ∀ i, cf (mulP p q) i = 0 := by
  induction p with
  | nil => intro i; rfl
  | cons a p ih =>
    intro i
    have h0 := h 0
    rw [cf_zero] at h0
    simp only [mulP, cf_add, cf_sc, h0, F.zero_mul, F.zero_add]
    cases i with
    | zero => rfl
    | succ i => exact ih (fun j => h (j + 1)) i
theorem Eqv.mul : ∀ {p p' q q' : List F}, Eqv p p' → Eqv q q' → Eqv (mulP p q) (mulP p' q')
  | [], p', q, q', h, _ => fun i => (mulP_zero (fun j => (h j).symm) q' i).symm
  | a :: p, [], q, q', h, _ => fun i => mulP_zero (fun j => h j) q i
  | a :: p, b :: p', q, q', h, k => by
    simp only [mulP]
    rw [h.tail.1]
    exact (k.sc b).add (Eqv.cons 0 (Eqv.mul h.tail.2 k))
theorem cf_mul_ge : ∀ (p q : List F) (n m : Nat), (∀ i, n ≤ i → cf p i = 0) → (∀ i, m ≤ i → cf q i = 0) → ∀ i, n + m ≤ i + 1 → 0 < n → cf (mulP p q) i = 0
  | [], _, _, _, _, _ => fun _ _ _ => rfl
  | a :: p, q, 0, m, hp, hq => fun _ _ h => absurd h (by omega)
  | a :: p, q, n + 1, m, hp, hq => fun i hi _ => by
    simp only [mulP, cf_add, cf_sc]
    rw [hq i (by omega), F.mul_zero, F.zero_add]
    cases i with
    | zero => rfl
    | succ i =>
      rw [cf_succ]
      rcases Nat.eq_zero_or_pos n with hn | hn
      · subst hn
        exact mulP_zero (fun j => hp (j + 1) (by omega)) q i
      · exact cf_mul_ge p q n m (fun j hj => hp (j + 1) (by omega)) hq i (by omega) hn
theorem cf_mul_top : ∀ (p q : List F) (n m : Nat), (∀ i, n < i → cf p i = 0) → (∀ i, m < i → cf q i = 0) → cf (mulP p q) (n + m) = cf p n * cf q m
  | [], _, _, _, _, _ => by rw [cf_nil, F.zero_mul]; rfl
  | a :: p, q, 0, m, hp, hq => by
    simp only [mulP, cf_add, cf_sc, cf_zero, Nat.zero_add]
    have : cf (0 :: mulP p q) m = 0 := by
      cases m with
      | zero => rfl
      | succ m => exact mulP_zero (fun j => hp (j + 1) (by omega)) q m
    rw [this, F.add_zero]
  | a :: p, q, n + 1, m, hp, hq => by
    simp only [mulP, cf_add, cf_sc, cf_succ]
    rw [hq _ (by omega), F.mul_zero, F.zero_add, show n + 1 + m = (n + m) + 1 by omega, cf_succ]
    exact cf_mul_top p q n m (fun j hj => hp (j + 1) (by omega)) hq
def Unl (xs : List F) : Prop := xs.Nodup
def quo : List F → F → List F
  | [], _ => []
  | a :: p, x => ev p x :: quo p x
theorem cf_quo_ge : ∀ (p : List F) (x : F) (n : Nat), (∀ i, n < i → cf p i = 0) → ∀ i, n ≤ i → cf (quo p x) i = 0
  | [], _, _, _, _, _ => rfl
  | a :: p, x, n, hp, 0, hi => by
    obtain rfl : n = 0 := by omega
    rw [quo, cf_zero]
    exact ev_nought (fun j => hp (j + 1) (by omega)) x
  | a :: p, x, n, hp, i + 1, hi => by
    rw [quo, cf_succ]
    rcases Nat.eq_zero_or_pos n with hn | hn
    · subst hn
      exact cf_quo_ge p x 0 (fun j hj => hp (j + 1) (by omega)) i (by omega)
    · exact cf_quo_ge p x (n - 1) (fun j hj => hp (j + 1) (by omega)) i (by omega)
theorem quo_spec : ∀ (p : List F) (x : F) (i : Nat), cf p i = (if i = 0 then ev p x else 0) + (cf (quo p x) i * x + (if i = 0 then 0 else cf (quo p x) (i - 1)))
  | [], x, i => by cases i <;> simp [cf_nil, ev, quo, F.zero_mul, F.add_zero]
  | a :: p, x, 0 => by
    simp only [cf_zero, quo, ev, if_true, F.add_zero]
    rw [F.add_assoc, F.add_self, F.add_zero]
  | a :: p, x, i + 1 => by
    have ih := quo_spec p x i
    simp only [cf_succ, quo, Nat.add_sub_cancel, if_neg (Nat.succ_ne_zero i), F.zero_add]
    cases i with
    | zero =>
      simp only [if_true] at ih
      rw [cf_zero, ih, F.add_zero, F.add_comm]
    | succ i =>
      simp only [if_neg (Nat.succ_ne_zero i), F.zero_add, Nat.add_sub_cancel] at ih
      rw [cf_succ, ih]
theorem ev_quo : ∀ (p : List F) (x y : F), ev p y = ev p x + (x + y) * ev (quo p x) y
  | [], x, y => by simp [ev, quo, F.mul_zero, F.add_zero]
  | a :: p, x, y => by
    have ih := ev_quo p x y
    simp only [ev, quo]
    have e1 : (ev p x + (x + y) * ev (quo p x) y) * y = ev p x * y + (x + y) * (ev (quo p x) y * y) := by rw [F.add_mul, F.mul_assoc]
    have e2 : (x + y) * (ev p x + ev (quo p x) y * y) = (ev p x * x + ev p x * y) + (x + y) * (ev (quo p x) y * y) := by rw [F.mul_add, F.mul_comm (x + y) (ev p x), F.mul_add]
    rw [ih, e1, e2, F.add_assoc a, F.add_assoc (ev p x * x) (ev p x * y), ← F.add_assoc (ev p x * x) (ev p x * x), F.add_self, F.zero_add]
theorem few_roots : ∀ (n : Nat) (p xs : List F), (∀ i, n ≤ i → cf p i = 0) → Unl xs → n ≤ xs.length → (∀ x ∈ xs, ev p x = 0) → ∀ i, cf p i = 0
  | 0, p, _, hp, _, _, _ => fun i => hp i (by omega)
  | n + 1, p, [], _, _, hl, _ => absurd hl (by simp)
  | n + 1, p, x :: xs, hp, hu, hl, hr => by
    have hx : ev p x = 0 := hr x (List.mem_cons_self ..)
    have hu' := List.nodup_cons.1 hu
    have hq : ∀ i, cf (quo p x) i = 0 := few_roots n (quo p x) xs (fun i hi => cf_quo_ge p x n (fun j hj => hp j (by omega)) i hi) hu'.2 (by simpa using hl) (fun y hy => by
      have h1 := ev_quo p x y
      rw [hx, hr y (List.mem_cons_of_mem _ hy), F.zero_add] at h1
      rcases F.mul_eq_zero h1.symm with h2 | h2
      · exact absurd (F.add_eq_zero h2 ▸ hy) hu'.1
      · exact h2)
    intro i
    rw [quo_spec p x i, hx, hq i, F.zero_mul, F.zero_add]
    split
    · exact F.add_zero 0
    · rw [hq, F.add_zero]
theorem same_values {n : Nat} {p q xs : List F} (hp : ∀ i, n ≤ i → cf p i = 0) (hq : ∀ i, n ≤ i → cf q i = 0) (hu : Unl xs) (hl : n ≤ xs.length) (h : ∀ x ∈ xs, ev p x = ev q x) : Eqv p q := by
  have := few_roots n (addP p q) xs (fun i hi => by rw [cf_add, hp i hi, hq i hi, F.add_zero]) hu hl (fun x hx => by rw [ev_add, h x hx, F.add_self])
  intro i
  have h1 := this i
  rw [cf_add] at h1
  exact F.add_eq_zero h1
def lin (x : F) : List F := [x, 1]
def roots (xs : List F) : List F := xs.foldl (fun p x => trimP (mulP p (lin x))) [1]
theorem ev_lin (x y : F) : ev (lin x) y = x + y := by
  simp [lin, ev, F.zero_mul, F.add_zero, F.one_mul]
theorem roots_snoc (xs : List F) (x : F) : roots (xs ++ [x]) = trimP (mulP (roots xs) (lin x)) := by simp [roots]
theorem snoc_ind {P : List F → Prop} (h0 : P []) (h1 : ∀ xs x, P xs → P (xs ++ [x])) (xs : List F) : P xs := by
  have : ∀ (n : Nat) (l : List F), l.length = n → P l := by
    intro n
    induction n with
    | zero => intro l hl; rw [List.eq_nil_of_length_eq_zero hl]; exact h0
    | succ n ih =>
      intro l hl
      have hne : l ≠ [] := by intro e; rw [e] at hl; simp at hl
      rw [← List.dropLast_concat_getLast hne]
      exact h1 _ _ (ih _ (by rw [List.length_dropLast, hl]; rfl))
  exact this xs.length xs rfl
theorem ev_roots (xs : List F) (y : F) : ev (roots xs) y = 0 ↔ y ∈ xs := by
  induction xs using snoc_ind with
  | h0 => simp [roots, ev, F.zero_mul, F.add_zero, F.one_ne]
  | h1 xs x ih =>
    rw [roots_snoc, ev_trim, ev_mul, ev_lin]
    constructor
    · intro h
      rcases F.mul_eq_zero h with h | h
      · exact List.mem_append_left _ (ih.1 h)
      · rw [F.add_eq_zero h]; exact List.mem_append_right _ (List.mem_singleton.2 rfl)
    · intro h
      rcases List.mem_append.1 h with h | h
      · rw [ih.2 h, F.zero_mul]
      · rw [List.mem_singleton.1 h, F.add_self, F.mul_zero]
theorem roots_top (xs : List F) : cf (roots xs) xs.length = 1 ∧ ∀ i, xs.length < i → cf (roots xs) i = 0 := by
  induction xs using snoc_ind with
  | h0 => exact ⟨rfl, fun i hi => by cases i with
    | zero => exact absurd hi (Nat.lt_irrefl _)
    | succ i => rfl⟩
  | h1 xs x ih =>
    have hl1 : ∀ i, 1 < i → cf (lin x) i = 0 := fun i hi => cf_ge _ _ (by simp [lin]; omega)
    rw [roots_snoc, List.length_append, List.length_singleton]
    refine ⟨by rw [cf_trim, cf_mul_top _ _ _ 1 ih.2 hl1, ih.1]; exact F.one_mul 1, fun i hi => ?_⟩
    rw [cf_trim]
    exact cf_mul_ge _ _ (xs.length + 1) 2 (fun j hj => ih.2 j (by omega)) (fun j hj => hl1 j (by omega)) i (by omega) (by omega)
theorem roots_length (xs : List F) : (roots xs).length = xs.length + 1 := by
  have h1 := roots_top xs
  have h3 : trimP (roots xs) = roots xs := by
    induction xs using snoc_ind with
    | h0 => simp [roots, trimP, F.one_ne]
    | h1 xs x _ => rw [roots_snoc, trim_trim]
  have h2 : (trimP (roots xs)).length ≤ xs.length + 1 := trim_le (fun i hi => h1.2 i (by omega))
  rw [h3] at h2
  rcases Nat.lt_or_ge xs.length (roots xs).length with h | h
  · omega
  · have := cf_ge _ _ h
    rw [h1.1] at this
    exact absurd this F.one_ne
def Thru (xs ys s : List F) : Prop := trimP s = s ∧ s.length ≤ xs.length ∧ ∀ i, i < xs.length → ev s (xs.getD i 0) = ys.getD i 0
theorem mem_getD {xs : List F} {x : F} (h : x ∈ xs) : ∃ i, i < xs.length ∧ xs.getD i 0 = x := by
  obtain ⟨i, hi, rfl⟩ := List.mem_iff_getElem.1 h
  exact ⟨i, hi, by rw [List.getD_eq_getElem?_getD, List.getElem?_eq_getElem hi]; rfl⟩
theorem getD_mem {xs : List F} {i : Nat} (h : i < xs.length) : xs.getD i 0 ∈ xs := by
  rw [List.getD_eq_getElem?_getD, List.getElem?_eq_getElem h]
  exact List.getElem_mem h
theorem nodup_inj {xs : List F} (hu : Unl xs) {i j : Nat} (hi : i < xs.length) (hj : j < xs.length) (h : xs[i] = xs[j]) : i = j := by
  have hp := List.pairwise_iff_getElem.1 hu
  rcases Nat.lt_trichotomy i j with h1 | h1 | h1
  · exact absurd h (hp i j hi hj h1)
  · exact h1
  · exact absurd h.symm (hp j i hj hi h1)
theorem getD_inj {xs : List F} (hu : Unl xs) {i j : Nat} (hi : i < xs.length) (hj : j < xs.length) (h : xs.getD i 0 = xs.getD j 0) : i = j := by
  rw [List.getD_eq_getElem?_getD, List.getD_eq_getElem?_getD, List.getElem?_eq_getElem hi, List.getElem?_eq_getElem hj] at h
  exact nodup_inj hu hi hj h
theorem thru_unique {xs ys s t : List F} (hu : Unl xs) (h : Thru xs ys s) (k : Thru xs ys t) : s = t := by
  rw [← h.1, ← k.1]
  refine trim_eqv _ _ (same_values (n := xs.length) (xs := xs) (fun i hi => cf_ge _ _ (by have := h.2.1; omega)) (fun i hi => cf_ge _ _ (by have := k.2.1; omega)) hu (Nat.le_refl _) (fun x hx => ?_))
  obtain ⟨i, hi, rfl⟩ := mem_getD hx
  rw [h.2.2 i hi, k.2.2 i hi]
def Basis (xs : List F) (i : Nat) (p : List F) : Prop := (∀ j, xs.length ≤ j → cf p j = 0) ∧ (∀ j, j < xs.length → j ≠ i → ev p (xs.getD j 0) = 0) ∧ ev p (xs.getD i 0) ≠ 0
def ThruTo (xs ys s : List F) (n : Nat) : Prop := trimP s = s ∧ s.length ≤ xs.length ∧ ∀ i, i < xs.length → ev s (xs.getD i 0) = if i < n then ys.getD i 0 else 0
theorem thru_start (xs ys : List F) : ThruTo xs ys [] 0 := ⟨rfl, Nat.zero_le _, fun i _ => by rw [if_neg (by omega)]; rfl⟩
theorem thru_step {xs ys s p q : List F} {n : Nat} (h : ThruTo xs ys s n) (hn : n < xs.length) (hb : Basis xs n p) (hq : Eqv q (mulP p [ys.getD n 0 * (ev p (xs.getD n 0)).inv])) : ThruTo xs ys (trimP (addP s q)) (n + 1) := by
  obtain ⟨h1, h2, h3⟩ := h
  obtain ⟨b1, b2, b3⟩ := hb
  have hev : ∀ x, ev q x = ev p x * (ys.getD n 0 * (ev p (xs.getD n 0)).inv) := fun x => by
    rw [ev_eqv _ _ hq x, ev_mul]
    simp [ev, F.zero_mul, F.add_zero]
  refine ⟨trim_trim _, trim_le (fun i hi => ?_), fun i hi => ?_⟩
  · rw [cf_add, cf_ge s i (by omega), F.zero_add, hq i]
    exact cf_mul_ge _ _ xs.length 1 (fun j hj => b1 j hj) (fun j hj => cf_ge _ _ (by simp; omega)) i (by omega) (by omega)
  · rw [ev_trim, ev_add, h3 i hi, hev]
    by_cases hin : i = n
    · subst hin
      rw [if_neg (by omega), if_pos (by omega), F.zero_add, F.mul_comm (ys.getD i 0), ← F.mul_assoc, F.mul_inv _ b3, F.one_mul]
    · rw [b2 i hi hin, F.zero_mul, F.add_zero]
      by_cases h4 : i < n
      · rw [if_pos h4, if_pos (by omega)]
      · rw [if_neg h4, if_neg (by omega)]
theorem thru_end {xs ys s : List F} {n : Nat} (h : ThruTo xs ys s n) (hn : n = xs.length) : Thru xs ys s := ⟨h.1, h.2.1, fun i hi => by rw [h.2.2 i hi, if_pos (by omega)]⟩
theorem basis_others {xs : List F} (hu : Unl xs) {i : Nat} (hi : i < xs.length) : Basis xs i (roots (xs.take i ++ xs.drop (i + 1))) := by
  have hl : (xs.take i ++ xs.drop (i + 1)).length = xs.length - 1 := by rw [List.length_append, List.length_take, List.length_drop]; omega
  have hat : ∀ j, j < xs.length → j ≠ i → xs.getD j 0 ∈ xs.take i ++ xs.drop (i + 1) := fun j hj hne => by
    rw [List.getD_eq_getElem?_getD, List.getElem?_eq_getElem hj]
    rcases Nat.lt_or_ge j i with h | h
    · refine List.mem_append_left _ (List.mem_iff_getElem.2 ⟨j, by rw [List.length_take]; omega, ?_⟩)
      simp
    · refine List.mem_append_right _ (List.mem_iff_getElem.2 ⟨j - (i + 1), by rw [List.length_drop]; omega, ?_⟩)
      rw [List.getElem_drop]
      simp only [show i + 1 + (j - (i + 1)) = j by omega]
      rfl
  have hnot : xs.getD i 0 ∉ xs.take i ++ xs.drop (i + 1) := fun h => by
    rw [List.getD_eq_getElem?_getD, List.getElem?_eq_getElem hi] at h
    rcases List.mem_append.1 h with h | h
    · obtain ⟨j, hj, he⟩ := List.mem_iff_getElem.1 h
      rw [List.length_take] at hj
      rw [List.getElem_take] at he
      have := nodup_inj hu (by omega) hi he
      omega
    · obtain ⟨j, hj, he⟩ := List.mem_iff_getElem.1 h
      rw [List.length_drop] at hj
      rw [List.getElem_drop] at he
      have := nodup_inj hu (by omega) hi he
      omega
  refine ⟨fun j hj => cf_ge _ _ (by rw [roots_length, hl]; omega), fun j hj hne => (ev_roots _ _).2 (hat j hj hne), fun h => hnot ((ev_roots _ _).1 h)⟩
theorem basis_quo {xs q r : List F} (hu : Unl xs) {i : Nat} (hi : i < xs.length) (hq : ∀ j, cf (roots xs) j = cf (mulP q (lin (xs.getD i 0))) j + cf r j) (hr : r.length ≤ 1) : Basis xs i q := by
  have hx : ev (roots xs) (xs.getD i 0) = 0 := (ev_roots _ _).2 (getD_mem hi)
  have hev : ∀ y, ev (roots xs) y = ev q y * (xs.getD i 0 + y) + ev r y := fun y => by
    rw [ev_eqv _ (addP (mulP q (lin (xs.getD i 0))) r) (fun j => by rw [cf_add]; exact hq j), ev_add, ev_mul, ev_lin]
  have hr0 : ∀ y, ev r y = 0 := by
    have h1 := hev (xs.getD i 0)
    rw [hx, F.add_self, F.mul_zero, F.zero_add] at h1
    match r, hr with
    | [], _ => exact fun _ => rfl
    | [a], _ =>
      intro y
      have h2 : a = 0 := by simpa [ev, F.zero_mul, F.add_zero] using h1.symm
      simp [ev, h2, F.zero_mul, F.add_zero]
  have hrc : ∀ j, cf r j = 0 := by
    match r, hr, hr0 0 with
    | [], _, _ => exact fun _ => rfl
    | [a], _, h =>
      have h2 : a = 0 := by simpa [ev, F.zero_mul, F.add_zero] using h
      intro j
      cases j with
      | zero => exact h2
      | succ j => rfl
  have b1 : ∀ j, xs.length ≤ j → cf q j = 0 := by
    have htop : ∀ m, (∀ j, m < j → cf q j = 0) → cf q m = cf (mulP q (lin (xs.getD i 0))) (m + 1) := fun m hm => by
      rw [cf_mul_top q _ m 1 hm (fun j hj => cf_ge _ _ (by simp [lin]; omega))]
      exact (F.mul_one _).symm
    have : ∀ d m, q.length - m = d → xs.length ≤ m → cf q m = 0 ∧ ∀ j, m < j → cf q j = 0 := by
      intro d
      induction d with
      | zero => exact fun m hd _ => ⟨cf_ge _ _ (by omega), fun j hj => cf_ge _ _ (by omega)⟩
      | succ d ih =>
        intro m hd hm
        have h1 := ih (m + 1) (by omega) (by omega)
        have h2 : ∀ j, m < j → cf q j = 0 := fun j hj => by
          rcases Nat.lt_or_ge (m + 1) j with h | h
          · exact h1.2 j h
          · obtain rfl : j = m + 1 := by omega
            exact h1.1
        refine ⟨?_, h2⟩
        rw [htop m h2]
        have h3 := hq (m + 1)
        rw [(roots_top xs).2 _ (by omega), hrc, F.add_zero] at h3
        exact h3.symm
    exact fun j hj => (this _ j rfl hj).1
  have b2 : ∀ j, j < xs.length → j ≠ i → ev q (xs.getD j 0) = 0 := fun j hj hne => by
    have h1 := hev (xs.getD j 0)
    rw [(ev_roots _ _).2 (getD_mem hj), hr0, F.add_zero] at h1
    rcases F.mul_eq_zero h1.symm with h2 | h2
    · exact h2
    · exact absurd (getD_inj hu hi hj (F.add_eq_zero h2)) (Ne.symm hne)
  refine ⟨b1, b2, fun h => ?_⟩
  have hz := few_roots xs.length q xs b1 hu (Nat.le_refl _) (fun y hy => by
    obtain ⟨j, hj, rfl⟩ := mem_getD hy
    by_cases hji : j = i
    · subst hji; exact h
    · exact b2 j hj hji)
  have h1 := (roots_top xs).1
  rw [hq, mulP_zero hz, hrc, F.add_zero] at h1
  exact F.one_ne h1.symm
end Go.Proofs.Ytpeiejkcoadhfaa
namespace Go.Proofs.Ytpeiejkcoadhfaa
open Go.RowKit Go.Proofs.YtpeiejkcoadhfaaW.PrintWords Go.Proofs.YtpeiejkcoadhfaaW.PrintMore PGfPows
end Go.Proofs.Ytpeiejkcoadhfaa
namespace Go.Proofs.Ytpeiejkcoadhfaa
open Go.RowKit Go.Shelf Go.Proofs.YtpeiejkcoadhfaaW.PrintWords
def Ct (w : World) (f : FuncId) (args : Array Value) (v : Value) : Prop := ∀ W, Fr (fun _ => False) w W → Calls Try.prog f args W fun e W' => e = .returned v ∧ Fr (fun _ => False) W W'
theorem Fr.of_drawn0 {S : Nat → Prop} {w W : World} (h : Drawn0 w W) : Fr S w W := by
  obtain ⟨⟨n, rfl⟩⟩ := h
  exact (Fr.refl S w).drewN n
theorem Fr.f_below {w W : World} (h : Fr (fun _ => False) w W) : Below w.heap.size w W := h.below (Nat.le_refl _) (fun _ h => h.elim)
section
variable {w : World} {g : Nat} (hF : Fld w g)
include hF
end
theorem Ct.as {w : World} {f : FuncId} {args : Array Value} {v v' : Value} (h : Ct w f args v) (e : v = v') : Ct w f args v' := e ▸ h
end Go.Proofs.Ytpeiejkcoadhfaa
namespace Go.Proofs.Ytpeiejkcoadhfaa
open Go.RowKit Go.Shelf Go.Proofs.YtpeiejkcoadhfaaW.PrintWords Go.Proofs.YtpeiejkcoadhfaaW.PrintMore
attribute [local go_sem] Oper.semAt_some
theorem heap1 (w : World) (a : Obj) : ∃ w2, w2 = w.alloc a ∧ w2.heap.size = w.heap.size + 1 ∧ w2.heap[w.heap.size]? = some a ∧ Below w.heap.size w w2 :=
  ⟨_, rfl, by simp, blk_new _ _, below_alloc (Below.refl _ _) _⟩
theorem heap2 (w : World) (a b : Obj) : ∃ w2, w2 = (w.alloc a).alloc b ∧ w2.heap.size = w.heap.size + 2 ∧ w2.heap[w.heap.size]? = some a ∧ w2.heap[w.heap.size + 1]? = some b ∧ Below w.heap.size w w2 := by
  obtain ⟨w1, e, hz, h0, hb⟩ := heap1 w a
  refine ⟨_, rfl, by simp, ?_, ?_, below_alloc (below_alloc (Below.refl _ _) _) _⟩
  · rw [← e]; exact blk_alloc h0 _
  · have := blk_new (w.alloc a) b
    rwa [World.size_alloc] at this
theorem heap3 (w : World) (a b c : Obj) : ∃ w2, w2 = ((w.alloc a).alloc b).alloc c ∧ w2.heap.size = w.heap.size + 3 ∧ w2.heap[w.heap.size]? = some a ∧ w2.heap[w.heap.size + 1]? = some b ∧ w2.heap[w.heap.size + 1 + 1]? = some c ∧ Below w.heap.size w w2 := by
  obtain ⟨w1, e, hz, h0, h1, hb⟩ := heap2 w a b
  refine ⟨_, rfl, by simp, ?_, ?_, ?_, below_alloc (below_alloc (below_alloc (Below.refl _ _) _) _) _⟩
  · rw [← e]; exact blk_alloc h0 _
  · rw [← e]; exact blk_alloc h1 _
  · have := blk_new ((w.alloc a).alloc b) c
    rwa [World.size_alloc, World.size_alloc] at this
theorem heap4 (w : World) (a b c d : Obj) : ∃ w2, w2 = (((w.alloc a).alloc b).alloc c).alloc d ∧ w2.heap.size = w.heap.size + 4 ∧ w2.heap[w.heap.size]? = some a ∧ w2.heap[w.heap.size + 1]? = some b ∧ w2.heap[w.heap.size + 1 + 1]? = some c ∧ w2.heap[w.heap.size + 1 + 1 + 1]? = some d ∧ Below w.heap.size w w2 := by
  obtain ⟨w1, e, hz, h0, h1, h2, hb⟩ := heap3 w a b c
  refine ⟨_, rfl, by simp, ?_, ?_, ?_, ?_, below_alloc (below_alloc (below_alloc (below_alloc (Below.refl _ _) _) _) _) _⟩
  · rw [← e]; exact blk_alloc h0 _
  · rw [← e]; exact blk_alloc h1 _
  · rw [← e]; exact blk_alloc h2 _
  · have := blk_new (((w.alloc a).alloc b).alloc c) d
    rwa [World.size_alloc, World.size_alloc, World.size_alloc] at this
def encF (a : F) : Value := .int .u8 (a.v : Int)
abbrev fk : Kd F := Kd.scalar encF (fun _ => rfl)
def bs (p : List F) : List Int := p.map fun a => (a.v : Int)
theorem bs_length (p : List F) : (bs p).length = p.length := by simp [bs]
theorem bs_getD (p : List F) (i : Nat) : (bs p).getD i 0 = ((p.getD i 0).v : Int) := by
  unfold bs
  rw [List.getD_eq_getElem?_getD, List.getD_eq_getElem?_getD, List.getElem?_map]
  cases h : p[i]? <;> rfl
theorem rd_bs (p : List F) (i : Nat) : rd (bs p) (i : Int) = ((p.getD i 0).v : Int) := by
  unfold rd
  rw [Int.toNat_natCast, bs_getD]
theorem C_bs {w : World} {A : Option Addr} {n : Nat} {p : List F} : Kd.C u8 w A n (bs p) ↔ Kd.C fk w A n p := by
  constructor
  · intro h
    have hr := Kd.reads_of_C (enc := Value.int .u8) (d := (0 : Int)) (h1 := fun _ => rfl) h
    refine Kd.C_of_reads (d := (0 : F)) ⟨by rw [← bs_length]; exact hr.1, hr.2.1, fun hn => ?_⟩
    obtain ⟨ad, e, hc⟩ := hr.2.2 hn
    exact ⟨ad, e, fun j hj => by rw [hc j hj, bs_getD]; rfl⟩
  · intro h
    have hr := Kd.reads_of_C (enc := encF) (d := (0 : F)) (h1 := fun _ => rfl) h
    refine Kd.C_of_reads (d := (0 : Int)) ⟨by rw [bs_length]; exact hr.1, hr.2.1, fun hn => ?_⟩
    obtain ⟨ad, e, hc⟩ := hr.2.2 hn
    exact ⟨ad, e, fun j hj => by rw [hc j hj, bs_getD]; rfl⟩
theorem Clone_any (w : World) (A : Option Addr) (n c : Nat) (p : List F) (hr : Kd.C fk w A n p) (hx : n ≤ 140737488355328) :
    Calls Try.prog 95 #[.slice A n c] w fun e w' => ∃ A' c', e = .returned (.slice A' n c') ∧ Kd.R fk 5 w' w.heap.size (fun _ => True) (.slice A' n c') p ∧ Below w.heap.size w w' := by
  obtain rfl : p.length = n := Kd.C_len hr
  cases A with
  | none =>
    have hl : p.length = 0 := by
      rcases Nat.eq_zero_or_pos p.length with h | h
      · exact h
      · obtain ⟨ad, e, _⟩ := hr.2.2 h; cases e
    have hxs : p = [] := List.eq_nil_of_length_eq_zero hl
    subst hxs
    have kq := fun W : World => Lib.run_eql_slice_nil (P := Try.prog) W 36 5 none 0 c 0 0 Try.underlying36
    go_enter Try.func95, Try.ntmps95
    go_wp2
    go_ret
    exact ⟨none, 0, rfl, Kd.R_nil _ _ _ _ _, Below.refl _ _⟩
  | some a =>
    have kq := fun W : World => Lib.run_eql_slice_nil (P := Try.prog) W 36 5 (some a) p.length c 0 0 Try.underlying36
    obtain ⟨v', w1, hrun, hq, hg, hat⟩ := R_append_row (P := Try.prog) encF (0 : F) (w.alloc (.cells #[] 5)) w.heap.size 36 36 5 _ 1 Try.underlying36 info5 rfl (c := c) (R_empty fk 5 w w.heap.size (Nat.le_refl _)) (Kd.C_below hr (below_alloc (Below.refl _ _) _)) (by simp; omega) (by omega) (by simp) (fun _ _ => trivial)
    obtain ⟨A', c', rfl⟩ := Kd.R_slice hq
    rw [List.nil_append] at hrun hq
    have hb : Below w.heap.size w w1 := (below_alloc (Below.refl _ _) _).grown hg (by simp) (fun k hk => by have : k = w.heap.size := by simpa [Value.ownBlock] using hk.symm
                                                                                                            omega)
    have HT := Aside0.mk (And.intro hq hb)
    have HR := Aside0.mk hrun
    clear hrun hq hg hat hb hr
    go_enter Try.func95, Try.ntmps95
    go_wp2_with (at_builtin; refine wpList_append_run rfl _ _ _ _ rfl rfl rfl HR.out ?_)
    go_ret
    exact ⟨A', c', rfl, HT.out.1, HT.out.2⟩
theorem trim_take (p : List F) : p.take (trimP p).length = trimP p := by
  induction p with
  | nil => rfl
  | cons a p ih =>
    unfold trimP
    cases h : trimP p with
    | nil =>
      simp only
      split
      · rfl
      · simp
    | cons b q =>
      rw [h] at ih
      simp only [List.length_cons, List.take_succ_cons] at ih ⊢
      rw [ih]
theorem wr_pred (a : Nat) (h : a ≤ 9223372036854775807) : wrap64 ((a : Int) - 1) = (a : Int) - 1 := by
  unfold wrap64; omega
theorem degree_l0 (p : List F) (hl : p.length ≤ 1099511627776) (d : Nat) : ∀ (q : Nat), (trimP p).length + d ≤ p.length → d < q → PDealSecret.poly_Degree.l0 q (bs p) (((trimP p).length + d : Nat) - 1 : Int) = some (((trimP p).length : Nat) - 1 : Int) := by
  induction d with
  | zero =>
    intro q _ hq
    obtain ⟨q, rfl⟩ : ∃ m, q = m + 1 := ⟨q - 1, by omega⟩
    simp only [PDealSecret.poly_Degree.l0]
    rcases Nat.eq_zero_or_pos (trimP p).length with h0 | h0
    · rw [h0, if_neg (by omega)]
    · have hne : trimP p ≠ [] := by intro e; rw [e] at h0; simp at h0
      have hla := trim_last p hne
      rw [cf_trim p] at hla
      have hle := trim_length p
      obtain ⟨m, hm⟩ : ∃ m, (trimP p).length = m + 1 := ⟨(trimP p).length - 1, by omega⟩
      rw [hm] at hla hle ⊢
      have e : ((m + 1 + 0 : Nat) - 1 : Int) = (m : Int) := by omega
      rw [e, if_pos (by omega), if_pos (by omega), bs_length, if_pos (by omega), rd_bs, if_neg]
      intro h
      exact hla (F.ext (by have : (p.getD m 0).v = 0 := by omega
                           exact this))
  | succ d ih =>
    intro q hle hq
    obtain ⟨q, rfl⟩ : ∃ m, q = m + 1 := ⟨q - 1, by omega⟩
    simp only [PDealSecret.poly_Degree.l0]
    have hz : cf p ((trimP p).length + d) = 0 := by rw [← cf_trim p]; exact cf_ge _ _ (by omega)
    have hz2 : (p.getD ((trimP p).length + d) 0).v = 0 := congrArg F.v hz
    have ih := ih q (by omega) (by omega)
    generalize (trimP p).length = m at *
    have e : ((m + (d + 1) : Nat) - 1 : Int) = ((m + d : Nat) : Int) := by omega
    rw [e, if_pos (by omega), if_pos (by omega), bs_length, if_pos (by omega), rd_bs, hz2, if_pos (by rfl), wr_pred _ (by omega)]
    exact ih
theorem Degree_any (w : World) (A : Option Addr) (n c : Nat) (p : List F) (hC : Kd.C fk w A n p) (hc : n ≤ c) (hl : n ≤ 1099511627776) :
    Calls Try.prog 134 #[.slice A n c] w fun e w' => e = .returned (.int .i64 (((trimP p).length : Int) - 1)) ∧ Drawn0 w w' := by
  have hn := Kd.C_len hC
  have hle := trim_length p
  have hd := degree_l0 p (by omega) (p.length - (trimP p).length) (p.length + 1) (by omega) (by omega)
  have hf : PDealSecret.poly_Degree.f (p.length + 1) (bs p) = some (((trimP p).length : Int) - 1) := by
    unfold PDealSecret.poly_Degree.f
    rw [bs_length, wr_pred _ (by omega)]
    rw [show (trimP p).length + (p.length - (trimP p).length) = p.length by omega] at hd
    exact hd
  have := PDealSecret.poly_Degree.calls _ A c (bs p) _ w (by rw [bs_length, hn]; exact C_bs.2 hC) (by rw [bs_length, hn]; exact hc) hf
  rw [bs_length, hn] at this
  exact this
theorem trim_any (w : World) (A : Option Addr) (n c : Nat) (p : List F) (hC : Kd.C fk w A n p) (hc : n ≤ c) (hl : n ≤ 1099511627776) :
    Calls Try.prog 123 #[.slice A n c] w fun e w' => e = .returned (.slice A (trimP p).length (trimP p).length) ∧ Drawn0 w w' := by
  have hn := Kd.C_len hC
  have hle := trim_length p
  have HD := Aside0.mk (Degree_any w A n c p hC hc hl)
  obtain ⟨m, hm⟩ : ∃ m, m = (trimP p).length := ⟨_, rfl⟩
  rw [← hm] at HD ⊢
  have hmn : m ≤ n := by omega
  obtain ⟨i5, hi5, _, _, _⟩ := info_parts info5
  have kt := to_run (P := Try.prog) 36 5 Try.underlying36 hi5 A n c m hmn hc
  have hmI : (m : Int) ≤ (n : Int) := by omega
  clear hm hle hn hC hi5
  go_enter Try.func123, Try.ntmps123
  go_wp2_with (first | (go_at_call 134; refine HD.out.mono ?_; rintro e w1 ⟨rfl, ⟨k, rfl⟩⟩) | (go_at_call 80; refine (Clip_any _ _ _ _ (by omega)).mono ?_; rintro e w1 ⟨rfl, rfl⟩))
  go_ret
  exact ⟨rfl, ⟨_, rfl⟩⟩
end Go.Proofs.Ytpeiejkcoadhfaa
namespace Go.Proofs.Ytpeiejkcoadhfaa
open Go.RowKit Go.Shelf Go.Proofs.YtpeiejkcoadhfaaW.PrintWords Go.Proofs.YtpeiejkcoadhfaaW.PrintMore
attribute [local go_sem] Oper.semAt_some
def pairF (x : Nat × F) : Array Value := #[.int .i64 (x.1 : Int), encF x.2]
def backTo (p : List F) (m : Nat) : List (Nat × F) := (List.range (p.length - m)).map fun j => (p.length - 1 - j, p.getD (p.length - 1 - j) 0)
theorem backTo_length (p : List F) (m : Nat) : (backTo p m).length = p.length - m := by simp [backTo]
theorem backTo_step (p : List F) (m : Nat) (h : m < p.length) : backTo p m = backTo p (m + 1) ++ [(m, p.getD m 0)] := by
  unfold backTo
  rw [show p.length - m = (p.length - (m + 1)) + 1 by omega, List.range_succ, List.map_append, List.map_singleton, show p.length - 1 - (p.length - (m + 1)) = m by omega]
theorem backTo_all (p : List F) : backTo p p.length = [] := by simp [backTo]
theorem backTo_vals (p : List F) : (backTo p 0).map (·.2) = p.reverse := by
  apply List.ext_getElem
  · simp [backTo]
  · intro i h1 h2
    simp [backTo] at h1
    simp only [backTo, List.getElem_map, List.getElem_range, List.getElem_reverse]
    rw [List.getD_eq_getElem?_getD, List.getElem?_eq_getElem (by omega)]
    rfl
theorem ev_foldr (p : List F) (x : F) : p.foldr (fun c s => s * x + c) 0 = ev p x := by
  induction p with
  | nil => rfl
  | cons a p ih => rw [List.foldr_cons, ih, ev, F.add_comm]
def horner (x : F) (l : List (Nat × F)) : F := l.foldl (fun s c => s * x + c.2) 0
theorem horner_all (p : List F) (x : F) : horner x (backTo p 0) = ev p x := by
  have h : horner x (backTo p 0) = ((backTo p 0).map (·.2)).foldl (fun s c => s * x + c) 0 := by
    unfold horner
    rw [List.foldl_map]
  rw [h, backTo_vals, List.foldl_reverse, ev_foldr]
theorem horner_snoc (x : F) (l : List (Nat × F)) (c : Nat × F) : horner x (l ++ [c]) = horner x l * x + c.2 := by simp [horner]
set_option maxRecDepth 100000 in
set_option maxHeartbeats 1600000 in
theorem back_seq (S : Nat → Prop) (w : World) (b : Nat) (A : Option Addr) (n c : Nat) (p : List F) (hC : Kd.C fk w A n p) (hl : n ≤ 1099511627776)
    (hb : w.heap[b]? = some (.cells #[.slice A n c] 36 (0, 0))) (hS : ¬ S b) (hA : ∀ ad, A = some ad → 0 < n → ¬ S ad.block) :
    SeqF Try.prog 135 #[.pointer (some ⟨b, 0, none⟩)] pairF (fun pre x _ => pre.length < n ∧ x = (n - 1 - pre.length, p.getD (n - 1 - pre.length) 0)) S (fun xs => xs = backTo p 0) w := by
  intro l J W hW hJ hY h0
  obtain rfl : p.length = n := Kd.C_len hC
  refine callsIn_of_wp Try.func135 rfl trivial ?_ rfl
  simp only [Try.ntmps135, List.size_toArray, List.length_cons, List.length_nil, Nat.reduceAdd, Nat.reduceSub, Array.replicate_succ, Array.replicate_zero, List.push_toArray, List.append_toArray, List.nil_append, List.cons_append]
  have hblt : ∀ ad, A = some ad → 0 < p.length → ad.block < w.heap.size := fun ad ha hn => by
    obtain ⟨ad', e, hc⟩ := (Kd.reads_of_C (enc := encF) (d := (0 : F)) (h1 := fun _ => rfl) hC).2.2 hn
    rw [ha] at e
    injection e with e
    subst e
    have h1 := World.block_lt_of_cell? w _ (hc 0 hn)
    rwa [add_zero'] at h1
  have HBS : Aside0 (∀ {W1 : World}, Fr (fun k => S k ∨ w.heap.size ≤ k) w W1 → W1.cell? ⟨b, 0, none⟩ = some (.slice A p.length c)) := ⟨fun hf => cell_at (hf.blk hb (fun h => h.elim hS (fun h => by have := blk_lt hb; omega))) rfl⟩
  have HCW : Aside0 (∀ {W1 : World}, Fr (fun k => S k ∨ w.heap.size ≤ k) w W1 → Kd.C fk W1 A p.length p) := ⟨fun hf => C_fr (0 : F) hC hf (fun ad ha hn h => h.elim (hA ad ha hn) (fun h => by have := hblt ad ha hn; omega))⟩
  have c0 := HBS.out (Fr.of_below hW _)
  have HY := Aside0.mk hY
  have HJ := Aside0.mk hJ
  have H0 := Aside0.mk h0
  have HW := Aside0.mk hW
  clear hY hJ h0 hW hblt hC hb hS hA
  gi_wp2
  gi_loopw [3] (fun v3 wr => ∃ (m : Nat), m ≤ p.length ∧ v3 = .int .i64 ((m : Int) - 1) ∧ Aside0 (J (backTo p m) wr) ∧ Aside0 (Fr (fun k => S k ∨ w.heap.size ≤ k) w wr)) (fun v3 _ => (intOf v3 + 1).toNat)
  case atStart => exact ⟨p.length, by omega, rfl, ⟨by rw [backTo_all]; exact H0.out⟩, ⟨Fr.of_below HW.out _⟩⟩
  case round =>
    obtain ⟨m, hm, rfl, HR, HF⟩ := hrel
    clear H0 HW c0
    rcases Nat.eq_zero_or_pos m with hm0 | hm0
    · subst hm0
      gi_wp2
      go_end0
      exact ⟨⟨_, rfl⟩, _, rfl, HR.out⟩
    · obtain ⟨m, rfl⟩ : ∃ k, m = k + 1 := ⟨m - 1, by omega⟩
      have c1 := HBS.out HF.out
      have hCr := HCW.out HF.out
      obtain ⟨ad, rfl, hcell⟩ := (Kd.reads_of_C (enc := encF) (d := (0 : F)) (h1 := fun _ => rfl) hCr).2.2 (by omega)
      have c2 := hcell m (by omega)
      have hpre : (backTo p (m + 1)).length = p.length - (m + 1) := backTo_length _ _
      obtain ⟨fn, tmps, assign, body, hy, hR⟩ := HY.out (backTo p (m + 1)) (m, p.getD m 0) wr HR.out ⟨by omega, by rw [hpre, show p.length - 1 - (p.length - (m + 1)) = m by omega]⟩
      obtain ⟨x, hx⟩ : ∃ x, x = p.getD m 0 := ⟨_, rfl⟩
      rw [← hx] at hy hR c2
      have hy' : (Instr.yield l #[.int .i64 (m : Int), encF x]).run Try.prog wr = .ok (.round l fn tmps assign body) wr := hy
      have hsn := backTo_step p m (by omega)
      rw [← hx] at hsn
      have HSN := Aside0.mk hsn
      have hmI : (m : Int) < (p.length : Int) := by omega
      have hidx : (((m + 1 : Nat) : Int) - 1) = (m : Int) := by omega
      rw [hidx]
      clear hy hcell hpre hsn hx HY hCr hidx
      unfold encF at c2 hy'
      gi_wp2
      refine hR.mono ?_
      rintro ee W' ⟨rfl, hj', hf'⟩
      have HF' := Aside0.mk (HF.out.trans' hf')
      have HJ' := Aside0.mk hj'
      clear hj' hf'
      gi_wp2
      go_roundw
      case rel => exact ⟨m, by omega, rfl, ⟨by rw [HSN.out]; exact HJ'.out⟩, HF'⟩
      case measure => simp only [intOf]; omega
theorem Backward_any (w : World) (v : Value) (hv : v.oneCell' = true) : Calls Try.prog 133 #[v] w fun e w' => e = .returned (.func (.func 135) #[] #[.pointer (some ⟨w.heap.size, 0, none⟩)]) ∧ w' = w.alloc (.cells #[v] 36) := by
  go_enter Try.func133, Try.ntmps133
  go_wp2
  go_ret
  exact ⟨rfl, rfl⟩
theorem xorF (a b : F) : bits .xor .u8 (a.v : Int) (b.v : Int) = ((a + b).v : Int) := u8_xor a.v b.v a.lt b.lt
theorem MulF (w : World) (g : Nat) (a b : F) (hF : Fld w g) : Calls Try.prog 31 #[.pointer (some ⟨g, 0, none⟩), .int .u8 (a.v : Int), .int .u8 (b.v : Int)] w fun e w' => e = .returned (.int .u8 ((a * b).v : Int)) ∧ Drawn0 w w' := Mul_any w g a.v b.v hF a.lt b.lt
theorem fld_lt {w : World} {g : Nat} (h : Fld w g) : g < w.heap.size := by
  obtain ⟨cs, hc, _⟩ := h
  exact blk_lt hc
def EvI (x : F) (w2 : World) (o : Nat) (pre : List (Nat × F)) (W : World) : Prop := W.heap[o]? = some (.cells #[.int .u8 ((horner x pre).v : Int)] 5 (0, 0)) ∧ Fr (fun k => k = o) w2 W
set_option maxRecDepth 100000 in
set_option maxHeartbeats 1600000 in
theorem Eval_any (w : World) (g : Nat) (A : Option Addr) (n c : Nat) (p : List F) (x : F) (hF : Fld w g) (hC : Kd.C fk w A n p) (hl : n ≤ 1099511627776) :
    Calls Try.prog 122 #[.pointer (some ⟨g, 0, none⟩), .slice A n c, .int .u8 (x.v : Int)] w fun e w' => e = .returned (.int .u8 ((ev p x).v : Int)) ∧ Fr (fun _ => False) w w' := by
  obtain rfl : p.length = n := Kd.C_len hC
  have HC := Aside0.mk hC
  have HF := Aside0.mk hF
  clear hC hF
  refine (callsIn_wide (n := 3)).1 (callsIn_of_wp_marks Try.func122 rfl trivial ?_ rfl)
  simp only [Try.ntmps122, List.size_toArray, List.length_cons, List.length_nil, Nat.reduceAdd, Nat.reduceSub, Array.replicate_succ, Array.replicate_zero, List.push_toArray, List.append_toArray, List.nil_append, List.cons_append]
  gi_wp2_with (refine ⟨trivial, ?_⟩; gi_at_call 133; refine (callsIn_wide.2 (Backward_any _ _ rfl)).mono ?_; rintro e W' ⟨rfl, rfl⟩)
  obtain ⟨w2, hw2, hz2, g0, g1, g2, g3, hb2⟩ := heap4 w (Obj.cells #[Value.pointer (some { block := g, off := 0 })] 23) (Obj.cells #[Value.int IntKind.u8 x.v] 5) (Obj.cells #[Value.int IntKind.u8 0] 5) (Obj.cells #[Value.slice A p.length c] 36)
  rw [← hw2]
  clear hw2
  have HF2 := Aside0.mk (HF.out.fr (Fr.of_below hb2 (fun _ => False)) (fun h => h))
  have HC2 := Aside0.mk (Kd.C_below HC.out hb2)
  have hgs : g < w.heap.size := fld_lt HF.out
  have hAs : ∀ ad, A = some ad → 0 < p.length → ad.block < w.heap.size := fun ad ha hn => by
    obtain ⟨ad', e, hc⟩ := (Kd.reads_of_C (enc := encF) (d := (0 : F)) (h1 := fun _ => rfl) HC.out).2.2 hn
    rw [ha] at e
    injection e with e
    subst e
    have h1 := World.block_lt_of_cell? w _ (hc 0 hn)
    rwa [add_zero'] at h1
  obtain ⟨s, hs⟩ : ∃ s, s = w.heap.size := ⟨_, rfl⟩
  rw [← hs] at hz2 g0 g1 g2 g3 hgs hAs ⊢
  refine range_fr (P := Try.prog) (gf := 135) (lb := #[.pointer (some ⟨s + 1 + 1 + 1, 0, none⟩)]) rfl (fun _ _ => rfl) (encs := pairF) (Rel := fun pre x _ => pre.length < p.length ∧ x = (p.length - 1 - pre.length, p.getD (p.length - 1 - pre.length) 0)) (S := fun j => j = s + 1 + 1) (Full := fun xs => xs = backTo p 0)
    (back_seq _ w2 (s + 1 + 1 + 1) A p.length c p HC2.out hl g3 (by omega) (fun ad ha hn h => by have := hAs ad ha hn; omega)) (fun _ => rfl) (fun j hj => by omega)
    (EvI x w2 (s + 1 + 1)) ?_ (fun pre y W W' h _ => h) ⟨g2, Fr.refl _ _⟩
    (fun y => { tmps := #[Value.pointer (some { block := g, off := 0 }), Value.slice A p.length c, Value.int IntKind.u8 ↑x.v,
          Value.pointer (some { block := s, off := 0 }), undef,
          Value.pointer (some { block := s + 1, off := 0 }), Value.int IntKind.u8 0,
          Value.pointer (some { block := s + 1 + 1, off := 0 }), undef, encF y.2, Value.slice A p.length c,
          Value.func (Fn.func 135) #[] #[Value.pointer (some { block := s + 1 + 1 + 1, off := 0 })], .int .i64 (y.1 : Int),
          encF y.2, undef, undef, undef, undef, undef, undef, undef], defers := [] }) ?_ ?_ ?_
  · rintro pre W W' ⟨hv, hf⟩ hk
    exact ⟨hk.blk hv (fun h => by omega), hf.trans hk (fun k h => .inr h.1)⟩
  · intro l pre y W K hr hK
    clear hr
    subst hs
    rw [show pairF y = #[.int .i64 (y.1 : Int), encF y.2] from rfl, zip2]
    gi_wp2
    exact hK
  · rintro l pre y W hsz ⟨hv, hf⟩ -
    have c0 : W.cell? ⟨s, 0, none⟩ = some (.pointer (some ⟨g, 0, none⟩)) := cell_at (hf.blk g0 (by omega)) rfl
    have c1 : W.cell? ⟨s + 1, 0, none⟩ = some (.int .u8 (x.v : Int)) := cell_at (hf.blk g1 (by omega)) rfl
    obtain ⟨h0, hh0⟩ : ∃ h0, h0 = horner x pre := ⟨_, rfl⟩
    rw [← hh0] at hv
    have c2 : W.cell? ⟨s + 1 + 1, 0, none⟩ = some (.int .u8 (h0.v : Int)) := cell_at hv rfl
    have z2 : W.frozen? ⟨s + 1 + 1, 0, none⟩ = false := frozen_at hv
    have HM := Aside0.mk (MulF W g h0 x (HF2.out.fr hf (by omega)))
    have HV := Aside0.mk hv
    have HFr := Aside0.mk hf
    have HH := Aside0.mk hh0
    have HX := Aside0.mk (xorF (h0 * x) y.2)
    obtain ⟨m, hm⟩ : ∃ m, m = h0 * x := ⟨_, rfl⟩
    rw [← hm] at HM HX
    have HMM := Aside0.mk hm
    have HS := Aside0.mk hs
    clear hv hf hh0 g0 g1 g2 g3 hm hz2 hs
    unfold encF
    gi_wp2_with (refine ⟨trivial, ?_⟩; gi_at_call 31; refine (CallsIn.inRound l (callsIn_wide.2 HM.out)).mono ?_; rintro e W' ⟨rfl, ⟨k, rfl⟩⟩)
    rw [HX.out]
    gi_wp2
    refine ⟨((((Fr.refl _ W).drewN k).set_ (p := ⟨s + 1 + 1, 0, none⟩) (.inl (.inl rfl)) _)), ?_, (HFr.out.drewN k).set_ (p := ⟨s + 1 + 1, 0, none⟩) (.inl rfl) _⟩
    rw [horner_snoc, ← HH.out, ← HMM.out]
    exact blk_set (blk_drewN HV.out k) 0 _
  · rintro ys W hF ⟨hv, hf⟩ hK
    subst hF
    rw [horner_all] at hv
    have c1 : W.cell? ⟨s + 1 + 1, 0, none⟩ = some (.int .u8 ((ev p x).v : Int)) := cell_at hv rfl
    have hfw : Fr (fun _ => False) w W := (Fr.of_below hb2 _).trans hf (fun k hk => .inr (by omega))
    obtain ⟨D, hD⟩ : ∃ D, D = w2.heap.size := ⟨_, rfl⟩
    have HF := Aside0.mk hfw
    have HD := Aside0.mk (show w.heap.size ≤ D by omega)
    rw [← hD] at hK ⊢
    clear hf hfw hz2 hv g0 g1 g2 g3 hD
    subst hs
    gi_wp2
    refine ⟨by simp, .inl ⟨_, _, rfl, run_takeDeferred hK, ?_⟩⟩
    refine ⟨_, results_tmp rfl _ _ _, rfl, ?_⟩
    exact HF.out.trans (fr_shut W D _) (fun i hi => .inr (by have := HD.out; omega))
end Go.Proofs.Ytpeiejkcoadhfaa

/- The laws of layer 1: what is called, at fixed arguments. -/
import Derived.Test.YtpeiejkcoadhfaaGfP
namespace Go.Proofs.Ytpeiejkcoadhfaa
open Go.RowKit Go.Shelf Go.Proofs.YtpeiejkcoadhfaaW.PrintWords

/-- A call that answers v in every world that has grown out of w. -/
def Ct (w : World) (f : FuncId) (args : Array Value) (v : Value) : Prop := ∀ W, Fr (fun _ => False) w W → Calls Try.prog f args W fun e W' => e = .returned v ∧ Fr (fun _ => False) W W'
theorem Ct.use {w W : World} {f : FuncId} {args : Array Value} {v : Value} (h : Ct w f args v) (hf : Fr (fun _ => False) w W) {R : Ending → World → Prop} (hR : ∀ W', Fr (fun _ => False) W W' → R (.returned v) W') : Calls Try.prog f args W R :=
  (h W hf).mono fun e W' h => by obtain ⟨rfl, h⟩ := h; exact hR W' h
theorem Fr.of_drawn0 {S : Nat → Prop} {w W : World} (h : Drawn0 w W) : Fr S w W := by
  obtain ⟨⟨n, rfl⟩⟩ := h
  exact (Fr.refl S w).drewN n
theorem Fr.f_below {w W : World} (h : Fr (fun _ => False) w W) : Below w.heap.size w W := h.below (Nat.le_refl _) (fun _ h => h.elim)

section
variable {w : World} {g : Nat} (hF : Fld w g)
include hF
theorem ct_mul (a b : Nat) (ha : a < 256) (hb : b < 256) : Ct w 31 #[.pointer (some ⟨g, 0, none⟩), .int .u8 a, .int .u8 b] (.int .u8 (Gf.mulN a b : Nat)) := fun W hf =>
  (Mul_any W g a b (hF.fr hf (fun h => h)) ha hb).mono fun _ _ h => ⟨h.1, Fr.of_drawn0 h.2⟩
theorem ct_inv (a : Nat) (ha : a < 256) : Ct w 32 #[.pointer (some ⟨g, 0, none⟩), .int .u8 a] (.tuple #[.int .u8 (invN a : Nat), .bool (decide (a ≠ 0))]) := fun W hf =>
  (Inv_any W g a (hF.fr hf (fun h => h)) ha).mono fun _ _ h => ⟨h.1, Fr.of_drawn0 h.2⟩
theorem ct_div (a b : Nat) (ha : a < 256) (hb : b < 256) : Ct w 33 #[.pointer (some ⟨g, 0, none⟩), .int .u8 a, .int .u8 b] (.tuple #[.int .u8 (Gf.mulN a (invN b) : Nat), .bool (decide (b ≠ 0))]) := fun W hf =>
  (Div_any W g a b (hF.fr hf (fun h => h)) ha hb).mono fun _ _ h => ⟨h.1, Fr.of_drawn0 h.2⟩
theorem ct_pow (a : Nat) (n : Int) (ha : a < 256) : Ct w 29 #[.pointer (some ⟨g, 0, none⟩), .int .u8 a, .int .i64 n] (.int .u8 (powI a n : Nat)) := fun W hf =>
  (Pow_any W g a n (hF.fr hf (fun h => h)) ha).mono fun _ _ h => ⟨h.1, h.2 ▸ Fr.refl _ _⟩
end
theorem ct_rmul (w : World) (a b : Nat) (ha : a < 256) (hb : b < 256) : Ct w 34 #[.int .u8 a, .int .u8 b] (.int .u8 (Gf.mulN a b : Nat)) := fun W _ =>
  (PGfPows.shamrockref01_Mul.calls 17 a b _ W (refMul_f 17 a b (Nat.le_refl _) ha hb)).mono fun _ _ h => ⟨h.1, Fr.of_drawn0 h.2⟩
theorem ct_rinv (w : World) (a : Nat) (ha : a < 256) (h0 : a ≠ 0) : Ct w 35 #[.int .u8 a] (.int .u8 (invN a : Nat)) := fun W _ =>
  (PGfPows.shamrockref01_Inv.calls 400 a _ W (refInv_f 400 a (Nat.le_refl _) ha h0)).mono fun _ _ h => ⟨h.1, Fr.of_drawn0 h.2⟩
theorem ct_rpow (w : World) (a : Nat) (n : Int) (ha : a < 256) (hn : -9223372036854775808 ≤ n ∧ n ≤ 9223372036854775807) : Ct w 30 #[.int .u8 a, .int .i64 n] (.int .u8 (powI a n : Nat)) := fun W _ =>
  (PGfPows.shamrockref01_Pow.calls 600 a n _ W (refPow_f 600 a n (Nat.le_refl _) ha hn)).mono fun _ _ h => ⟨h.1, Fr.of_drawn0 h.2⟩
theorem Ct.up {w w1 : World} {f : FuncId} {args : Array Value} {v : Value} (h : Ct w f args v) (hf : Fr (fun _ => False) w w1) : Ct w1 f args v := fun W hW => h W (hf.trans' hW)
theorem Ct.as {w : World} {f : FuncId} {args : Array Value} {v v' : Value} (h : Ct w f args v) (e : v = v') : Ct w f args v' := e ▸ h

set_option maxRecDepth 100000 in
theorem answers01 (w : World) : Ct w 27 #[] (.bool true) := by
  intro W _
  have hN := Aside0.mk (New_any W)
  have e1 : invN 2 = 141 := by decide +kernel
  have e2 : invN 0 = 0 := by decide +kernel
  have e3 : Gf.mulN 2 128 = 27 := by decide +kernel
  have e4 : Gf.mulN 83 202 = 1 := by decide +kernel
  have e5 : powI 2 8 = 27 := by decide +kernel
  have C : ∀ (g : Nat) (W1 : World), Fld W1 g → Ct W1 32 #[.pointer (some ⟨g, 0, none⟩), .int .u8 2] (.tuple #[.int .u8 141, .bool true]) ∧ Ct W1 32 #[.pointer (some ⟨g, 0, none⟩), .int .u8 0] (.tuple #[.int .u8 0, .bool false]) ∧
      Ct W1 31 #[.pointer (some ⟨g, 0, none⟩), .int .u8 2, .int .u8 128] (.int .u8 27) ∧ Ct W1 31 #[.pointer (some ⟨g, 0, none⟩), .int .u8 83, .int .u8 202] (.int .u8 1) ∧ Ct W1 29 #[.pointer (some ⟨g, 0, none⟩), .int .u8 2, .int .i64 8] (.int .u8 27) :=
    fun g W1 hF => ⟨(ct_inv hF 2 (by omega)).as (by rw [e1]; rfl), (ct_inv hF 0 (by omega)).as (by rw [e2]; rfl), (ct_mul hF 2 128 (by omega) (by omega)).as (by rw [e3]; rfl), (ct_mul hF 83 202 (by omega) (by omega)).as (by rw [e4]; rfl),
      (ct_pow hF 2 8 (by omega)).as (by rw [e5]; rfl)⟩
  clear e1 e2 e3 e4 e5
  have HC := Aside0.mk C
  clear C
  go_enter Try.func27, Try.ntmps27
  go_wp2_with (first
    | (go_at_call 28; refine hN.out.mono ?_; rintro e W' ⟨g, rfl, -, -, hF, hf0⟩; obtain ⟨c1, c2, c3, c4, c5⟩ := HC.out g W' hF; have hfr := Fr.refl (fun _ => False) W'; clear hF)
    | (go_at_call 32; (first | with_reducible refine c1.use hfr ?_ | with_reducible refine c2.use hfr ?_); rintro W' hf; replace hfr := hfr.trans' hf; clear hf)
    | (go_at_call 31; (first | with_reducible refine c3.use hfr ?_ | with_reducible refine c4.use hfr ?_); rintro W' hf; replace hfr := hfr.trans' hf; clear hf)
    | (go_at_call 29; with_reducible refine c5.use hfr ?_; rintro W' hf; replace hfr := hfr.trans' hf; clear hf))
  go_ret
  exact ⟨rfl, hf0.trans' hfr⟩
end Go.Proofs.Ytpeiejkcoadhfaa

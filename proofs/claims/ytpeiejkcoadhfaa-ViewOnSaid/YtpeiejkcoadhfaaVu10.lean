/- What the view's laws take, Vu10: Gf2. -/
import Derived.Test.YtpeiejkcoadhfaaVu05
set_option linter.all false
namespace Go.Proofs.Ytpeiejkcoadhfaa
open Go.RowKit Go.Shelf Go.Proofs.YtpeiejkcoadhfaaW.PrintWords
attribute [local go_sem] Oper.semAt_some
def znA (m : Nat) (g : Nat) (w : World) : Prop := ∃ cs : Array Value, w.heap[g]? = some (.cells cs 95 (0, 0)) ∧ cs.size = 766 ∧
 (∀ i < 510, ∃ v : Nat, cs[i]? = some (.int .u8 (v : Int)) ∧ (i % 255 < m → v = Gf.E (i % 255))) ∧
 (∀ a < 256, ∃ v : Nat, cs[510 + a]? = some (.int .i64 (v : Int)) ∧ (∀ i < m, i < 255 → a = Gf.E i → v = i))
def zf : Array Value := (Array.replicate 510 (.int .u8 0)) ++ (Array.replicate 256 (.int .i64 0))
theorem zpF : Try.zeroCells95 = zf := by kernel_rfl
theorem znR (W : World) (g : Nat) (h : W.heap[g]? = some (.cells zf 95 (0, 0))) : znA 0 g W := by
 refine ⟨zf, h, by simp [zf], fun i hi => ⟨0, ?_, fun h => absurd h (by omega)⟩, fun a ha => ⟨0, ?_, fun i h => absurd h (by omega)⟩⟩
 ·simp [zf, Array.getElem?_append, hi]
 simp only [zf, Array.getElem?_append, Array.size_replicate, Array.getElem?_replicate]
 rw [if_neg (by omega), if_pos (by omega)]
 rfl
theorem zkH {W : World} {g m a : Nat} {cs : Array Value} (hc : W.heap[g]? = some (.cells cs 95 (0, 0))) (hcz : cs.size = 766) (hm : m < 255) (ha : a = Gf.E m)
 (he : ∀ i < 510, ∃ v : Nat, cs[i]? = some (.int .u8 (v : Int)) ∧ (i % 255 < m → v = Gf.E (i % 255)))
 (hl : ∀ a < 256, ∃ v : Nat, cs[510 + a]? = some (.int .i64 (v : Int)) ∧ (∀ i < m, i < 255 → a = Gf.E i → v = i)) :
 znA (m + 1) g (((W.setCell ⟨g, m, none⟩ (.int .u8 a)).setCell ⟨g, m + 255, none⟩ (.int .u8 a)).setCell ⟨g, 510 + a, none⟩ (.int .i64 m)).drew := by
 have ha2 : a < 256 := by rw [ha]; exact (Gf.E_pos m hm).2.1
 refine ⟨((cs.setIfInBounds m (.int .u8 a)).setIfInBounds (m + 255) (.int .u8 a)).setIfInBounds (510 + a) (.int .i64 m), ?_, by simp [hcz], ?_, ?_⟩
 ·exact heap_setCell_same _ _ _ _ _ _ (heap_setCell_same _ _ _ _ _ _ (heap_setCell_same _ _ _ _ _ _ hc))
 ·intro i hi
  by_cases h1 : i = m
  ·refine ⟨a, ?_, fun _ => by rw [h1, Nat.mod_eq_of_lt hm]; exact ha⟩
   rw [Array.getElem?_setIfInBounds_ne (by omega), Array.getElem?_setIfInBounds_ne (by omega), h1, Array.getElem?_setIfInBounds_self_of_lt (by omega)]
  by_cases h2 : i = m + 255
  ·refine ⟨a, ?_, fun _ => by rw [h2, Nat.add_mod_right, Nat.mod_eq_of_lt hm]; exact ha⟩
   rw [Array.getElem?_setIfInBounds_ne (by omega), h2, Array.getElem?_setIfInBounds_self_of_lt (by simp; omega)]
  obtain ⟨v, hv, hv2⟩ := he i hi
  refine ⟨v, ?_, fun h => hv2 (by omega)⟩
  rw [Array.getElem?_setIfInBounds_ne (by omega), Array.getElem?_setIfInBounds_ne (by omega), Array.getElem?_setIfInBounds_ne (by omega)]
  exact hv
 intro b hb
 by_cases h1 : b = a
 ·refine ⟨m, ?_, fun i hi hi2 he2 => ?_⟩
  ·rw [h1, Array.getElem?_setIfInBounds_self_of_lt (by simp; omega)]
  rw [h1, ha] at he2
  have h1 := (Gf.E_pos m hm).2.2
  have h2 := (Gf.E_pos i hi2).2.2
  rw [he2] at h1
  omega
 obtain ⟨v, hv, hv2⟩ := hl b hb
 refine ⟨v, ?_, fun i hi hi2 he2 => ?_⟩
 ·rw [Array.getElem?_setIfInBounds_ne (by omega), Array.getElem?_setIfInBounds_ne (by omega), Array.getElem?_setIfInBounds_ne (by omega)]
  exact hv
 by_cases h3 : i = m
 ·rw [h3, ← ha] at he2; exact absurd he2 h1
 exact hv2 i (by omega) hi2 he2
theorem zid (w : World) : Calls Try.prog 75 #[] w fun e w' => e = .returned (.func (.func 115) #[] #[]) ∧ w = w' := by
 go_enter Try.func75, Try.ntmps75
 go_wp2
 go_ret
 exact ⟨rfl, rfl⟩
def Fld (w : World) (g : Nat) : Prop := znA 255 g w
set_option maxRecDepth 100000 in
set_option maxHeartbeats 1600000 in
theorem zji (w : World) : Calls Try.prog 28 #[] w fun e w' => ∃ g, e = .returned (.pointer (some ⟨g, 0, none⟩)) ∧ w.heap.size ≤ g ∧ g < w'.heap.size ∧ Fld w' g ∧ Fr (fun _ => False) w w' := by
 refine (callsIn_wide (n := 3)).1 (callsIn_of_wp_marks Try.func28 rfl trivial ?_ rfl)
 simp only [Try.ntmps28, List.size_toArray, List.length_nil, Nat.reduceSub, Array.replicate_succ, Array.replicate_zero, List.push_toArray, List.append_toArray, List.nil_append, List.cons_append]
 gi_wp2_with (refine ⟨trivial, ?_⟩; gi_at_call 75; refine (callsIn_wide.2 (zid _)).mono ?_; rintro e W' ⟨rfl, rfl⟩)
 obtain ⟨w2, hw2⟩ : ∃ w2, w2 = ((w.alloc (Obj.cells Try.zeroCells95 95)).alloc (Obj.cells #[Value.pointer (some { block := w.heap.size, off := 0 })] 23)) := ⟨_, rfl⟩
 have hz2 : w2.heap.size = w.heap.size + 2 := by rw [hw2]; simp
 have hb2 : Below w.heap.size w w2 := by rw [hw2]; exact zc (zc (Below.refl _ _) _) _
 have hg2 : w2.heap[w.heap.size]? = some (.cells zf 95 (0, 0)) := by rw [hw2, zpF]; exact (Below.heap_alloc _ _ _ (by simp)).trans (World.alloc_heap_new _ _)
 have hf2 : w2.heap[w.heap.size + 1]? = some (.cells #[.pointer (some ⟨w.heap.size, 0, none⟩)] 23 (0, 0)) := by
  rw [hw2]
  have := World.alloc_heap_new (w.alloc (Obj.cells Try.zeroCells95 95)) (Obj.cells #[Value.pointer (some { block := w.heap.size, off := 0 })] 23)
  rwa [World.size_alloc] at this
 rw [← hw2]
 clear hw2
 obtain ⟨g, hg⟩ : ∃ g, g = w.heap.size := ⟨_, rfl⟩
 rw [← hg] at hz2 hg2 hf2 ⊢
 refine zaH (P := Try.prog) (gf := 115) (lb := #[]) rfl (fun _ _ => rfl) (encs := zmC) (Rel := fun pre x _ => x = (pre.length, Gf.E pre.length) ∧ pre.length < 255) (S := fun k => k = g) (Full := fun xs => xs = ZS 255) (ziu _ _) (fun _ => rfl) (fun k hk => by omega)
  (fun pre W => znA pre.length g W ∧ Fr (fun k => k = g) w2 W) ?_ (fun pre s W W' h _ => h) ⟨znR w2 g hg2, Fr.refl _ _⟩
  (fun x => { tmps := #[Value.pointer none, Value.pointer (some { block := g + 1, off := 0 }), .int .i64 x.1, .int .u8 x.2,
        Value.agg Try.zeroCells95, Value.pointer (some { block := g, off := 0 }),
        Value.func (Fn.func 115) #[] #[], .int .i64 x.1, .int .u8 x.2, undef, undef, undef, undef, undef, undef, undef, undef, undef,
        undef, undef, undef, undef, undef, undef, undef, undef, undef, undef, undef], defers := [] }) ?_ ?_ ?_
 ·rintro pre W W' ⟨⟨cs, hc, h⟩, hf⟩ hk
  exact ⟨⟨cs, hk.blk hc (fun h => by omega), h⟩, hf.trans hk (fun k h => .inr h.1)⟩
 ·intro l pre x W K hr hK
  obtain ⟨rfl, -⟩ := hr
  subst hg
  rw [show zmC (pre.length, Gf.E pre.length) = #[.int .i64 (pre.length : Int), .int .u8 (Gf.E pre.length : Int)] from rfl, zlw]
  gi_wp2
  exact hK
 ·rintro l pre x W hsz ⟨⟨cs, hc, hcz, he, hl⟩, hf⟩ ⟨rfl, hlt⟩
  obtain ⟨m, hm⟩ : ∃ m, m = pre.length := ⟨_, rfl⟩
  rw [← hm] at hlt he hl ⊢
  obtain ⟨a, ha⟩ : ∃ a, a = Gf.E m := ⟨_, rfl⟩
  have ha2 : a < 256 := by rw [ha]; exact (Gf.E_pos m hlt).2.1
  have hlen : (pre ++ [(m, a)]).length = m + 1 := by rw [List.length_append, ← hm]; rfl
  rw [← ha, hlen]
  have hb1 := hf.blk hf2 (by omega)
  have hc1 : W.cell? ⟨g + 1, 0, none⟩ = some (.pointer (some ⟨g, 0, none⟩)) := zh hb1 rfl
  obtain ⟨v1, hv1, _⟩ := he m (by omega)
  obtain ⟨v2, hv2, _⟩ := he (m + 255) (by omega)
  obtain ⟨v3, hv3, _⟩ := hl a ha2
  have hd1 : W.cell? ⟨g, m, none⟩ = some (.int .u8 v1) := zh hc hv1
  have hd2 : W.cell? ⟨g, m + 255, none⟩ = some (.int .u8 v2) := zh hc hv2
  have hd3 : W.cell? ⟨g, 510 + a, none⟩ = some (.int .i64 v3) := zh hc hv3
  have hz1 : W.frozen? ⟨g, m, none⟩ = false := yV hc
  have hz2 : W.frozen? ⟨g, m + 255, none⟩ = false := yV hc
  have hz3 : W.frozen? ⟨g, 510 + a, none⟩ = false := yV hc
  have HT := za.mk (And.intro hcz (And.intro he hl))
  have HE := za.mk ha
  have HF := za.mk hf
  have HC := za.mk hc
  have HM := za.mk hm
  have HG := za.mk hg
  clear hf hl he ha hc hv1 hv2 hv3 hm hg
  have hne : g + 1 ≠ g := by omega
  have hw : IntKind.i64.wrap ((m : Int) + 255) = (m : Int) + 255 := IntWalk.i64_in _ ⟨by omega, by omega⟩
  have hi1 : m < 510 := by omega
  have hi2 : m + 255 < 510 := by omega
  have hi3 : (0 : Int) ≤ (m : Int) := by omega
  have hi4 : (m : Int) < 510 := by omega
  have hi5 : (m : Int) + 255 < 510 := by omega
  have hi6 : (0 : Int) ≤ (m : Int) + 255 := by omega
  have hi7 : ((m : Int) + 255).toNat = m + 255 := by omega
  have hi8 : (0 : Int) ≤ (a : Int) := by omega
  have hi9 : (a : Int) < 256 := by omega
  have mixed : Try.prog.follows .mixedOrders = true := by kernel_rfl
  gi_wp2
  refine jy l mixed rfl (by kernel_rfl) ?_
  repeat' (first
   | exact AllReadyIn.nil
   | refine wpAnyIn_done (by decide +kernel) ?_ _
   | (refine wpAnyIn_take (i := 1) (v := ?_) rfl rfl (by kernel_rfl) (by decide +kernel) (by decide +kernel) (fun _ _ _ h => h) ⟨Or.inl ⟨by rfl, ?_⟩, fun _ => rfl⟩ ?_; rotate_left 1; focus (intro w; go_simp; (try with_reducible rfl); done))
   | (refine wpAnyIn_take (i := 3) (v := ?_) rfl rfl (by kernel_rfl) (by decide +kernel) (by decide +kernel) (fun _ _ _ h => h) ⟨Or.inl ⟨by rfl, ?_⟩, fun _ => rfl⟩ ?_; rotate_left 1; focus (intro w; go_simp; (try with_reducible rfl); done))
   | (refine wpAnyIn_take (i := 4) (v := ?_) rfl rfl (by kernel_rfl) (by decide +kernel) (by decide +kernel) (fun _ _ _ h => h) ⟨Or.inl ⟨by rfl, ?_⟩, fun _ => rfl⟩ ?_; rotate_left 1; focus (intro w; go_simp; (try with_reducible rfl); done))
   | (refine wpAnyIn_take (i := 5) (v := ?_) rfl rfl (by kernel_rfl) (by decide +kernel) (by decide +kernel) (fun _ _ _ h => h) ⟨Or.inl ⟨by rfl, ?_⟩, fun _ => rfl⟩ ?_; rotate_left 1; focus (intro w; go_simp; (try with_reducible rfl); done))
   | (refine wpAnyIn_take (i := 6) (v := ?_) rfl rfl (by kernel_rfl) (by decide +kernel) (by decide +kernel) (fun _ _ _ h => h) ⟨Or.inl ⟨by rfl, ?_⟩, fun _ => rfl⟩ ?_; rotate_left 1; focus (intro w; go_simp; (try with_reducible rfl); done))
   | (refine wpAnyIn_take (i := 7) (v := ?_) rfl rfl (by kernel_rfl) (by decide +kernel) (by decide +kernel) (fun _ _ _ h => h) ⟨Or.inl ⟨by rfl, ?_⟩, fun _ => rfl⟩ ?_; rotate_left 1; focus (intro w; go_simp; (try with_reducible rfl); done))
   | (refine wpAnyIn_take (i := 8) (v := ?_) rfl rfl (by kernel_rfl) (by decide +kernel) (by decide +kernel) (fun _ _ _ h => h) ⟨Or.inl ⟨by rfl, ?_⟩, fun _ => rfl⟩ ?_; rotate_left 1; focus (intro w; go_simp; (try with_reducible rfl); done))
   | (refine wpAnyIn_take (i := 11) (v := ?_) rfl rfl (by kernel_rfl) (by decide +kernel) (by decide +kernel) (fun _ _ _ h => h) ⟨Or.inl ⟨by rfl, ?_⟩, fun _ => rfl⟩ ?_; rotate_left 1; focus (intro w; go_simp; (try with_reducible rfl); done))
   | (refine wpAnyIn_take (i := 12) (v := ?_) rfl rfl (by kernel_rfl) (by decide +kernel) (by decide +kernel) (fun _ _ _ h => h) ⟨Or.inl ⟨by rfl, ?_⟩, fun _ => rfl⟩ ?_; rotate_left 1; focus (intro w; go_simp; (try with_reducible rfl); done))
   | refine wpAnyIn_ready (rs := [0]) (by decide +kernel) (by simp) ?_
   | refine wpAnyIn_ready (rs := [2]) (by decide +kernel) (by simp) ?_
   | refine wpAnyIn_ready (rs := [9]) (by decide +kernel) (by simp) ?_
   | refine wpAnyIn_ready (rs := [10]) (by decide +kernel) (by simp) ?_
   | refine wpAnyIn_ready (rs := [13]) (by decide +kernel) (by simp) ?_
   | refine wpAnyIn_ready (rs := [14]) (by decide +kernel) (by simp) ?_
   | refine wpAnyIn_ready (rs := [0, 2]) (by decide +kernel) (by simp) ?_
   | refine wpAnyIn_ready (rs := [0, 9]) (by decide +kernel) (by simp) ?_
   | refine wpAnyIn_ready (rs := [0, 10]) (by decide +kernel) (by simp) ?_
   | refine wpAnyIn_ready (rs := [2, 9]) (by decide +kernel) (by simp) ?_
   | refine wpAnyIn_ready (rs := [2, 10]) (by decide +kernel) (by simp) ?_
   | refine wpAnyIn_ready (rs := [2, 13]) (by decide +kernel) (by simp) ?_
   | refine wpAnyIn_ready (rs := [2, 14]) (by decide +kernel) (by simp) ?_
   | refine wpAnyIn_ready (rs := [10, 13]) (by decide +kernel) (by simp) ?_
   | refine AllReadyIn.cons rfl (fun K hK => ?_) ?_
   | (go_simp; refine hK _ _ ?_; clear hK K))
  all_goals (
   gi_wp2
   exact ⟨((((Fr.refl _ _).set_ (.inl (.inl rfl)) _).set_ (.inl (.inl rfl)) _).set_ (.inl (.inl rfl)) _).drew, zkH HC.out HT.out.1 hlt HE.out HT.out.2.1 HT.out.2.2, (((HF.out.set_ (.inl rfl) _).set_ (.inl rfl) _).set_ (.inl rfl) _).drew⟩)
 rintro xs W hF ⟨ht, hf⟩ hK
 subst hF
 rw [Jk] at ht
 have hb1 := hf.blk hf2 (by omega)
 have hc1 : W.cell? ⟨g + 1, 0, none⟩ = some (.pointer (some ⟨g, 0, none⟩)) := zh hb1 rfl
 obtain ⟨D, hD⟩ : ∃ D, D = w2.heap.size := ⟨_, rfl⟩
 have HT := za.mk ht
 have HF := za.mk hf
 clear ht hf
 rw [← hD] at hK ⊢
 subst hg
 gi_wp2
 refine ⟨by simp, .inl ⟨_, _, rfl, run_takeDeferred hK, ?_⟩⟩
 refine ⟨_, results_tmp rfl _ _ _, _, rfl, by omega, ?_, ?_, ?_⟩
 ·have := HF.out.size
  simp only [World.putObj_size]
  omega
 ·obtain ⟨cs, hc, h⟩ := HT.out
  exact ⟨cs, (World.putObj_heap_other (by omega)).trans hc, h⟩
 have h1 : Fr (fun _ => False) w W := (Fr.of_below hb2 _).trans HF.out (fun k hk => .inr (by omega))
 exact h1.trans (JM W D _) (fun k hk => .inr (by omega))
end Go.Proofs.Ytpeiejkcoadhfaa

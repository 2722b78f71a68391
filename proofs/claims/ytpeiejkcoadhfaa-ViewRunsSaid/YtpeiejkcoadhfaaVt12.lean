/- What the view's laws take, Vt12: St2, St3, St4, St5, St6, St7, StArgs. -/
import Derived.Test.YtpeiejkcoadhfaaVt03
import Derived.Test.YtpeiejkcoadhfaaVt05
import Derived.Test.YtpeiejkcoadhfaaVt11
set_option linter.all false
namespace Go.Proofs.Ytpeiejkcoadhfaa
open Go.RowKit Go.Shelf Go.Proofs.YtpeiejkcoadhfaaW.PrintWords Go.Proofs.YtpeiejkcoadhfaaW.PrintMore
attribute [local go_sem] Oper.semAt_some
theorem info36 : (Try.prog.info? 36).map (fun i => (i.zero, i.size, i.bytes)) = some (some (.slice none 0 0), 1, 24) := by kernel_rfl
theorem size5 : (Try.prog.info? 5).map (·.size) = some 1 := by kernel_rfl
abbrev u8 : Kd Int := Kd.int .u8
abbrev u8s : Kd (List Int) := Kd.slice 5 u8
set_option maxRecDepth 100000 in
theorem Chunk_any (w : World) (v : Value) (hv : v.oneCell' = true) (k : Nat) (hk : 0 < k) (hk2 : k ≤ 255) : Calls Try.prog 76 #[v, .int .i64 k] w fun e w' =>
    e = .returned (.func (.func 117) #[] #[.pointer (some ⟨w.heap.size, 0, none⟩), .pointer (some ⟨w.heap.size + 1, 0, none⟩)]) ∧ w' = (w.alloc (.cells #[v] 36)).alloc (.cells #[.int .i64 k] 3) := by
  have h1 : ¬ (k : Int) < 1 := by omega
  go_enter Try.func76, Try.ntmps76
  go_wp2
  go_ret
  exact ⟨rfl, rfl⟩
def SpI (xs : List Int) (k : Nat) (w2 : World) (o : Nat) (pre : List Nat) (W : World) : Prop :=
  ∃ v, W.heap[o]? = some (.cells #[v] 37 (0, 0)) ∧ Kd.S u8s 36 W (w2.heap.size + 2) (fun j => w2.heap.size + 2 ≤ j) v (pre.map (colOf xs k)) ∧ Fr (fun j => j = o) w2 W
theorem chunk_C {W : World} {A : Option Addr} {len c k j : Nat} {xs : List Int} (hC : Kd.C u8 W A len xs) (hc : len ≤ c) (h : j * k < len) :
    ∃ B, chunkV A len k j = .slice B ((xs.drop (j * k)).take k).length ((xs.drop (j * k)).take k).length ∧ Kd.C u8 W B ((xs.drop (j * k)).take k).length ((xs.drop (j * k)).take k) := by
  have hl := Kd.C_len hC
  obtain ⟨p, rfl, _⟩ := (Kd.reads_of_C (enc := Value.int .u8) (d := (0 : Int)) (h1 := fun _ => rfl) hC).2.2 (by omega)
  have hn : nmin k (len - j * k) = ((xs.drop (j * k)).take k).length := by
    rw [List.length_take, List.length_drop, hl]
    unfold nmin
    split <;> omega
  have hm := mid_C (0 : Int) c (j * k) (j * k + nmin k (len - j * k)) hC (by omega) (by unfold nmin; split <;> omega) hc
  unfold cutA at hm
  rw [if_neg (by omega), Nat.add_sub_cancel_left, hn] at hm
  refine ⟨some (p.add (j * k)), by unfold chunkV; rw [hn]; rfl, ?_⟩
  have e : (xs.drop (j * k)).take ((xs.drop (j * k)).take k).length = (xs.drop (j * k)).take k := by rw [List.length_take, ← List.take_eq_take_min]
  rw [e] at hm
  exact hm
set_option maxRecDepth 100000 in
set_option maxHeartbeats 1600000 in
theorem Split_any (w : World) (A : Option Addr) (len c k : Nat) (xs : List Int) (hC : Kd.C u8 w A len xs) (hc : len ≤ c) (hk : 0 < k) (hk2 : k ≤ 255) (hlen : len ≤ 1099511627776) :
    Calls Try.prog 37 #[.slice A len c, .int .i64 k] w fun e w' => ∃ B d, e = .returned (.slice B (ncol len k) d) ∧ Kd.S u8s 36 w' w.heap.size (fun j => w.heap.size ≤ j) (.slice B (ncol len k) d) (splitL xs k) ∧ Fr (fun _ => False) w w' := by
  have hxl := Kd.C_len hC
  have hA : 0 < len → ∃ p, A = some p := fun h => by
    obtain ⟨ad, h1, _⟩ := (Kd.reads_of_C (enc := Value.int .u8) (d := (0 : Int)) (h1 := fun _ => rfl) hC).2.2 h
    exact ⟨ad, h1⟩
  have hnl := ncol_le len k hk
  refine (callsIn_wide (n := 3)).1 (callsIn_of_wp_marks Try.func37 rfl trivial ?_ rfl)
  simp only [Try.ntmps37, List.size_toArray, List.length_cons, List.length_nil, Nat.reduceAdd, Nat.reduceSub, Array.replicate_succ, Array.replicate_zero, List.push_toArray, List.append_toArray, List.nil_append, List.cons_append]
  have h1 : ¬ (k : Int) < 1 := by omega
  have HC := Aside0.mk hC
  have HX := Aside0.mk hxl
  have HN := Aside0.mk hnl
  have HA := Aside0.mk hA
  clear hC hxl hnl hA
  gi_wp2_with (refine ⟨trivial, ?_⟩; gi_at_call 76; refine (callsIn_wide.2 (Chunk_any _ _ rfl k hk hk2)).mono ?_; rintro e W' ⟨rfl, rfl⟩)
  obtain ⟨w2, hw2⟩ : ∃ w2, w2 = ((((w.alloc (Obj.cells #[Value.int IntKind.i64 ↑k] 3)).alloc (Obj.cells #[Value.slice none 0 0] 37)).alloc (Obj.cells #[Value.slice A len c] 36)).alloc (Obj.cells #[Value.int IntKind.i64 ↑k] 3)) := ⟨_, rfl⟩
  have hz2 : w2.heap.size = w.heap.size + 4 := by rw [hw2]; simp
  have hb2 : Below w.heap.size w w2 := by rw [hw2]; exact below_alloc (below_alloc (below_alloc (below_alloc (Below.refl _ _) _) _) _) _
  have g0 : w2.heap[w.heap.size]? = some (.cells #[.int .i64 k] 3 (0, 0)) := by rw [hw2]; exact blk_alloc (blk_alloc (blk_alloc (blk_new _ _) _) _) _
  have g1 : w2.heap[w.heap.size + 1]? = some (.cells #[.slice none 0 0] 37 (0, 0)) := by
    rw [hw2]
    have := blk_new (w.alloc (Obj.cells #[Value.int IntKind.i64 ↑k] 3)) (Obj.cells #[Value.slice none 0 0] 37)
    rw [World.size_alloc] at this
    exact blk_alloc (blk_alloc this _) _
  have g2 : w2.heap[w.heap.size + 1 + 1]? = some (.cells #[.slice A len c] 36 (0, 0)) := by
    rw [hw2]
    have := blk_new ((w.alloc (Obj.cells #[Value.int IntKind.i64 ↑k] 3)).alloc (Obj.cells #[Value.slice none 0 0] 37)) (Obj.cells #[Value.slice A len c] 36)
    rw [World.size_alloc, World.size_alloc] at this
    exact blk_alloc this _
  have g3 : w2.heap[w.heap.size + 1 + 1 + 1]? = some (.cells #[.int .i64 k] 3 (0, 0)) := by
    rw [hw2]
    have := blk_new (((w.alloc (Obj.cells #[Value.int IntKind.i64 ↑k] 3)).alloc (Obj.cells #[Value.slice none 0 0] 37)).alloc (Obj.cells #[Value.slice A len c] 36)) (Obj.cells #[Value.int IntKind.i64 ↑k] 3)
    rw [World.size_alloc, World.size_alloc, World.size_alloc] at this
    exact this
  rw [← hw2]
  clear hw2
  obtain ⟨s, hs⟩ : ∃ s, s = w.heap.size := ⟨_, rfl⟩
  rw [← hs] at hz2 g0 g1 g2 g3 ⊢
  have HC2 := Aside0.mk (Kd.C_below HC.out hb2)
  refine range_fr (P := Try.prog) (gf := 117) (lb := #[.pointer (some ⟨s + 1 + 1, 0, none⟩), .pointer (some ⟨s + 1 + 1 + 1, 0, none⟩)]) rfl (fun _ _ => rfl) (encs := fun j => #[chunkV A len k j]) (Rel := fun pre j _ => j = pre.length ∧ j * k < len) (S := fun j => j = s + 1) (Full := fun ys => ys = List.range (ncol len k))
    (chunk_seq _ w2 (s + 1 + 1) (s + 1 + 1 + 1) A len c k HA.out hk hk2 (by omega) hc g2 g3 (by omega) (by omega)) (fun _ => rfl) (fun j hj => by omega)
    (SpI xs k w2 (s + 1)) ?_ (fun pre j W W' h _ => h) ⟨_, g1, Kd.S_nil _ _ _ _ _, Fr.refl _ _⟩
    (fun j => { tmps := #[Value.slice A len c, Value.int IntKind.i64 ↑k, undef, Value.pointer (some { block := s, off := 0 }),
          Value.slice none 0 0, Value.pointer (some { block := s + 1, off := 0 }), chunkV A len k j, undef,
          Value.int IntKind.i64 ↑k, Value.bool false, Value.slice A len c, Value.int IntKind.i64 ↑k,
          Value.func (Fn.func 117) #[]
            #[Value.pointer (some { block := s + 1 + 1, off := 0 }),
              Value.pointer (some { block := s + 1 + 1 + 1, off := 0 })],
          chunkV A len k j, undef, undef, undef, undef, undef, undef, undef, undef, undef, undef], defers := [] }) ?_ ?_ ?_
  · rintro pre W W' ⟨v, hv, hr, hf⟩ hk
    exact ⟨v, hk.blk hv (fun h => by omega), S_abd hr hk, hf.trans hk (fun k h => .inr h.1)⟩
  · intro l pre j W K hr hK
    clear hr
    subst hs
    rw [zip1]
    gi_wp2
    exact hK
  · rintro l pre j W hsz ⟨v, hv, hr, hf⟩ ⟨hj, hlt⟩
    have hb0 := hf.blk g0 (by omega)
    have c0 : W.cell? ⟨s, 0, none⟩ = some (.int .i64 k) := cell_at hb0 rfl
    have c1 : W.cell? ⟨s + 1, 0, none⟩ = some v := cell_at hv rfl
    have hfw : Fr (fun _ => False) w W := (Fr.of_below hb2 _).trans hf (fun k hk => .inr (by omega))
    obtain ⟨B, hB, hBC⟩ := chunk_C (C_fr (0 : Int) HC.out hfw (fun _ _ _ h => h)) hc hlt
    rw [hB]
    have hcol : colOf xs k j = (xs.drop (j * k)).take k ++ (List.replicate k (0 : Int)).drop ((xs.drop (j * k)).take k).length := by rw [List.drop_replicate]; rfl
    have hyl : ((xs.drop (j * k)).take k).length ≤ k := by rw [List.length_take]; exact Nat.min_le_left _ _
    generalize (xs.drop (j * k)).take k = ys at hBC hcol hyl
    have hR1 := R_zeros W 5 (w2.heap.size + 2) (fun i => i = W.heap.size) k (by omega) hsz rfl
    obtain ⟨W2, hrun2, hR2, hf2⟩ := copy_R (P := Try.prog) (0 : Int) 36 36 3 5 Try.underlying36 size5 (c := ys.length) (xs := List.replicate k (0 : Int)) (by rw [List.length_replicate]; exact hR1) (Kd.C_alloc hBC _) (by rw [List.length_replicate]; exact hyl)
    rw [← hcol] at hR2
    rw [List.length_replicate] at hrun2 hR2
    have hf02 : Fr (fun _ => False) W W2 := (Fr.of_below (below_alloc (Below.refl _ _) _) _).trans hf2 (fun k hk => .inr (by omega))
    have hr2 := S_fr (Kd.S_elderB hr W.heap.size (Nat.le_refl _)) hf02 (fun _ _ _ _ h => h)
    have hml : (pre.map (colOf xs k)).length = j := by rw [List.length_map, hj]
    obtain ⟨v1, W3, hrun3, hR3, hg3, hat3⟩ := S_run1 (P := Try.prog) u8s (W := W2) (w2.heap.size + 2) 37 37 36 (.slice none 0 0) 24 Try.underlying37 info36 rfl (by decide) (by omega) v _ (colOf xs k j) [.slice (some ⟨W.heap.size, 0, none⟩) k k] (fun i => w2.heap.size + 2 ≤ i) (fun i => i = W.heap.size) (Kd.M_row hR2)
      (fun i hi => ⟨by omega, fun h => by have := Kd.S_lt hr i h.symm; omega⟩) (fun i hi => by have := hf02.size; omega) hr2 (by have := hf02.size; omega) (by
        have h1 := (lt_ncol j len k hk).2 hlt
        have h2 := HN.out
        rw [hml]
        omega)
    obtain ⟨B1, d1, hv1⟩ := Kd.S_slice hR3
    generalize (pre.map (colOf xs k) ++ [colOf xs k j]).length = n1 at hv1
    subst hv1
    have hv2 := hf02.blk hv (fun h => h)
    have hv3 := blk_grown hv2 hg3 (fun h => by
      have := Kd.S_base hr (s + 1) h.symm
      omega)
    have c2 : W2.cell? ⟨s + 1, 0, none⟩ = some v := cell_at hv2 rfl
    have c3 : W3.cell? ⟨s + 1, 0, none⟩ = some v := cell_at hv3 rfl
    have z3 : W3.frozen? ⟨s + 1, 0, none⟩ = false := frozen_at hv3
    have hf3 : Fr (fun i => i = s + 1 ∨ w2.heap.size + 2 ≤ i) W (W3.setCell ⟨s + 1, 0, none⟩ (.slice B1 n1 d1)) := ((hf02.mono (fun _ h => h.elim)).trans' (Fr.of_grown hg3 (fun i hi => .inl (.inr (Kd.S_base hr i hi))))).set_ (p := ⟨s + 1, 0, none⟩) (.inl (.inl rfl)) _
    have hI : SpI xs k w2 (s + 1) (pre ++ [j]) (W3.setCell ⟨s + 1, 0, none⟩ (.slice B1 n1 d1)) := ⟨_, blk_set hv3 0 (.slice B1 n1 d1), by rw [List.map_append, List.map_singleton]; exact Kd.S_set hR3 hv3 (by decide) 0 (.slice B1 n1 d1), hf.trans hf3 (fun i hi => hi.elim .inl (fun h => .inr (by omega)))⟩
    have HF := Aside0.mk (And.intro hf3 hI)
    have hmk := fun W => make_u8 (P := Try.prog) 36 5 Try.underlying36 info5 k (by omega) W
    have HR3 := Aside0.mk hrun3
    have HS := Aside0.mk hs
    clear hf3 hI hrun3 hat3 hg3 hR3 hr2 hR2 hR1 hcol hBC hB hfw hb0 hr hf hv hv2 hv3 hf02 hf2 hml hj hs g0 g1 g2 g3 hz2
    gi_wp2_with (gi_at_builtin; refine wpListIn_append_run rfl _ _ _ _ rfl rfl rfl HR3.out ?_)
    exact HF.out
  · rintro ys W hF ⟨v, hv, hr, hf⟩ hK
    subst hF
    have c1 : W.cell? ⟨s + 1, 0, none⟩ = some v := cell_at hv rfl
    have hcl : (List.range (ncol len k)).map (colOf xs k) = splitL xs k := by unfold splitL; rw [HX.out]
    rw [hcl] at hr
    obtain ⟨B, d, rfl⟩ := Kd.S_slice hr
    rw [splitL_length, HX.out] at hr c1
    have hfw : Fr (fun _ => False) w W := (Fr.of_below hb2 _).trans hf (fun k hk => .inr (by omega))
    obtain ⟨D, hD⟩ : ∃ D, D = w2.heap.size := ⟨_, rfl⟩
    have HR := Aside0.mk hr
    have HF := Aside0.mk hfw
    have HZ := Aside0.mk hz2
    have HD := Aside0.mk hD
    rw [← hD] at hK ⊢
    clear hr hf hfw hz2 hv g0 g1 g2 g3 hcl
    subst hs
    gi_wp2
    refine ⟨by simp, .inl ⟨_, _, rfl, run_takeDeferred hK, ?_⟩⟩
    refine ⟨_, results_tmp rfl _ _ _, B, d, rfl, ?_, ?_⟩
    · have h1 := S_fr HR.out (fr_shut W D (.deferred none)) (fun i _ hi _ h => by have := HD.out; omega)
      exact Kd.S_lower (Kd.S_mono h1 (fun i hi => by have := HZ.out; omega)) (by have := HZ.out; omega)
    · exact HF.out.trans (fr_shut W D _) (fun i hi => .inr (by have := HZ.out; have := HD.out; omega))
end Go.Proofs.Ytpeiejkcoadhfaa
namespace Go.Proofs.Ytpeiejkcoadhfaa
open Go.RowKit Go.Shelf Go.Proofs.YtpeiejkcoadhfaaW.PrintWords Go.Proofs.YtpeiejkcoadhfaaW.PrintMore
theorem row_at {w : World} {A : Option Addr} {n : Nat} {xss : List (List Int)} (h : Kd.C u8s w A n xss) (j : Nat) (hj : j < n) :
    ∃ ad A0 c0, A = some ad ∧ w.cell? (ad.add j) = some (.slice A0 (xss.getD j []).length c0) ∧ (xss.getD j []).length ≤ c0 ∧ Kd.C u8 w A0 (xss.getD j []).length (xss.getD j []) := by
  obtain ⟨ad, c, e, _, hK, hc0⟩ := Kd.C_get h ([] : List Int) (j : Int) (by omega) (by omega)
  rw [Int.toNat_natCast] at hK hc0
  obtain ⟨A0, c0, rfl, l0, g0⟩ := hK
  have h0 := hc0 0 _ rfl
  rw [show u8s.sz = 1 from rfl, Nat.mul_one, Nat.add_zero] at h0
  exact ⟨ad, A0, c0, e, h0, l0, g0⟩
theorem add_zero' (p : Addr) : p.add 0 = p := by
  cases p
  unfold Addr.add
  split <;> simp_all
theorem Clip_any (w : World) (A : Option Addr) (n c : Nat) (hc : n ≤ c) : Calls Try.prog 80 #[.slice A n c] w fun e w' => e = .returned (.slice A n n) ∧ w = w' := by
  obtain ⟨i5, hi5, _, hs5, _⟩ := info_parts info5
  have hel : Try.prog.elem 36 = 5 := by simp [Program.elem, Try.underlying36]
  have hu : Try.prog.underlying 36 = some (.slice (Try.prog.elem 36)) := by rw [hel]; exact Try.underlying36
  have hk : ∀ W : World, (Instr.slice 36 (.slice A n c) none (some (.int .i64 (n : Int))) (some (.int .i64 (n : Int)))).run Try.prog W = .ok (.slice A n n) W := fun W => by
    rw [run_slice_hm W 36 A n c hu .i64 .i64 (n : Int) (n : Int) (by omega) (by omega) (by omega), hel]
    simp [sizeOf, typeInfo, hi5, hs5, sliced, Result.andThen]
    intro _
    cases A with
    | none => rfl
    | some p => simp [add_zero']
  clear hi5 hs5 hel hu
  go_enter Try.func80, Try.ntmps80
  go_wp2
  go_ret
  exact ⟨rfl, rfl⟩
end Go.Proofs.Ytpeiejkcoadhfaa
namespace Go.Proofs.Ytpeiejkcoadhfaa
open Go.RowKit Go.Shelf Go.Proofs.YtpeiejkcoadhfaaW.PrintWords Go.Proofs.YtpeiejkcoadhfaaW.PrintMore
theorem ncol_div (a b : Nat) (hb : 0 < b) : ncol a b = a / b + (if 0 < a % b then 1 else 0) := by
  unfold ncol
  have h1 := Nat.div_add_mod a b
  have h2 := Nat.mod_lt a hb
  split
  · rename_i h
    have e : a + b - 1 = (a % b - 1) + b * (a / b + 1) := by rw [Nat.mul_add, Nat.mul_one]; omega
    rw [e, Nat.add_mul_div_left _ _ hb, Nat.div_eq_of_lt (by omega)]
    omega
  · rename_i h
    have e : a + b - 1 = (b - 1) + b * (a / b) := by omega
    rw [e, Nat.add_mul_div_left _ _ hb, Nat.div_eq_of_lt (by omega)]
    omega
theorem Columns_yes (w : World) (a b : Nat) (hb : 0 < b) (ha : a ≤ 9223372036854775807) : Calls Try.prog 38 #[.int .i64 a, .int .i64 b] w fun e w' => e = .returned (.int .i64 (ncol a b : Nat)) ∧ w = w' := by
  have h1 : ¬ (a : Int) < 0 := by omega
  have h2 : ¬ (b : Int) < 1 := by omega
  have hd := ncol_div a b hb
  have hq : (a / b : Nat) ≤ 9223372036854775807 := Nat.le_trans (Nat.div_le_self _ _) ha
  have hq0 : (0 : Int) ≤ (a : Int) / (b : Int) := Int.ediv_nonneg (by omega) (by omega)
  have hq4 : (a : Int) / (b : Int) ≤ 9223372036854775807 := by
    have : ((a / b : Nat) : Int) = (a : Int) / (b : Int) := Int.natCast_ediv a b
    omega
  by_cases hm : 0 < a % b
  · rw [if_pos hm] at hd
    have hmI : (0 : Int) < (a : Int) % (b : Int) := by omega
    have hq2 : (a / b : Nat) + 1 ≤ 9223372036854775807 := by
      rcases Nat.lt_or_ge 1 b with h | h
      · have : a / b ≤ a / 2 := Nat.div_le_div_left (show 2 ≤ b from h) (by omega)
        omega
      · obtain rfl : b = 1 := by omega
        rw [Nat.mod_one] at hm; omega
    have hq3 : (a : Int) / (b : Int) + 1 ≤ 9223372036854775807 := by
      have : ((a / b : Nat) : Int) = (a : Int) / (b : Int) := Int.natCast_ediv a b
      omega
    have HD := Aside0.mk hd
    clear hd hm hq hq2
    go_enter Try.func38, Try.ntmps38
    go_wp2
    go_ret
    exact ⟨by rw [HD.out]; rfl, rfl⟩
  · rw [if_neg hm] at hd
    have hmI : ¬ (0 : Int) < (a : Int) % (b : Int) := by omega
    have HD := Aside0.mk hd
    clear hd hm hq
    go_enter Try.func38, Try.ntmps38
    go_wp2
    go_ret
    exact ⟨by rw [HD.out]; rfl, rfl⟩
end Go.Proofs.Ytpeiejkcoadhfaa
namespace Go.Proofs.Ytpeiejkcoadhfaa
open Go.RowKit Go.Shelf Go.Proofs.YtpeiejkcoadhfaaW.PrintWords Go.Proofs.YtpeiejkcoadhfaaW.PrintMore
end Go.Proofs.Ytpeiejkcoadhfaa
namespace Go.Proofs.Ytpeiejkcoadhfaa
open Go.RowKit Go.Shelf Go.Proofs.YtpeiejkcoadhfaaW.PrintWords Go.Proofs.YtpeiejkcoadhfaaW.PrintMore
theorem wr64 (x : Int) (h0 : 0 ≤ x) (h : x ≤ 9223372036854775807) : wrap64 x = x := by
  unfold wrap64
  omega
theorem wr_add (a b : Nat) (h : a + b ≤ 9223372036854775807) : wrap64 ((a : Int) + (b : Int)) = ((a + b : Nat) : Int) := by
  rw [wr64 _ (by omega) (by omega)]; omega
theorem wr_succ (a : Nat) (h : a + 1 ≤ 9223372036854775807) : wrap64 ((a : Int) + 1) = ((a + 1 : Nat) : Int) := by
  rw [wr64 _ (by omega) (by omega)]; omega
section
open PDealSecret
end
end Go.Proofs.Ytpeiejkcoadhfaa
namespace Go.Proofs.Ytpeiejkcoadhfaa
open Go.RowKit Go.Shelf Go.Proofs.YtpeiejkcoadhfaaW.PrintWords Go.Proofs.YtpeiejkcoadhfaaW.PrintMore
theorem u8_nt {a : Int} (h : (Lit.int .u8 a).wf = true) : ∃ n : Nat, a = (n : Int) ∧ n < 256 := by
  have h1 : 0 ≤ a ∧ a ≤ 255 := by simpa [Lit.wf, IntKind.min, IntKind.max, IntKind.signed, IntKind.bits] using h
  exact ⟨a.toNat, by omega, by omega⟩
theorem add_lit (ad : Addr) (j : Nat) (h : 0 < j) : ad.add j = ⟨ad.block, ad.off + j, none⟩ := by
  have h1 := add_field ad 0 j h
  rw [add_zero', Nat.zero_add] at h1
  exact h1
end Go.Proofs.Ytpeiejkcoadhfaa
namespace Go.Proofs.Ytpeiejkcoadhfaa
open Go.RowKit Go.Proofs.YtpeiejkcoadhfaaW.PrintWords
theorem opens_u8 : Opens Try.prog u8 5 (fun x => (Lit.int .u8 x).wf = true) (fun _ => 1) := opens_int 5 .u8 Try.underlying5 (by kernel_rfl)
theorem opens_bytes : Opens Try.prog u8s 36 (fun l => ∀ a ∈ l, (Lit.int .u8 a).wf = true) (fun l => (l.map fun _ => 1).sum + 1) := opens_slice 36 Try.underlying36 (by kernel_rfl) opens_u8
theorem opens_rows : Opens Try.prog (Kd.slice 36 u8s) 37 (fun l => ∀ r ∈ l, ∀ a ∈ r, (Lit.int .u8 a).wf = true) (fun l => (l.map fun r => (r.map fun _ => 1).sum + 1).sum + 1) := opens_slice 37 Try.underlying37 (by kernel_rfl) opens_bytes
end Go.Proofs.Ytpeiejkcoadhfaa

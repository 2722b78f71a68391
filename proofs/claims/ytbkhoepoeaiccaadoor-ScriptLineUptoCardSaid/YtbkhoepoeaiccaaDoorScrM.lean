/- The document's line of a step. -/
import Derived.Test.YtbkhoepoeaiccaaDoorScrK
namespace Go.Proofs.YtbkhoepoeaiccaaDoor
open Go.RowKit Go.Shelf Go.Proofs.YtbkhoepoeaiccaaDoorW.PrintWords

set_option maxRecDepth 100000 in
set_option maxHeartbeats 3200000 in
theorem RLine_any (w : World) (x : St) (hx : x.wf) (A : Option Addr) (n c : Nat) (hC : Kd.C (Kd.int .u8) w A n (bl x.data)) (hc : n ≤ c) (hn : n ≤ 268435456) (hi : x.id.length ≤ 268435456) :
    Calls Tryd.prog 22 #[stepV x A n c] w fun e w' => e = .returned (.string ⟨(lineL x).toArray⟩) ∧ Below w.heap.size w w' := by
  obtain ⟨kk, ka, kb, kc, id, data⟩ := x
  obtain ⟨i0, i1, i2, i3⟩ := hx
  simp only at hC hi i0 i1 i2 i3
  obtain ⟨m, hm⟩ : ∃ m, id.length = m := ⟨_, rfl⟩
  obtain ⟨cap, o, hcv, hcC⟩ := conv_any id m hm (by omega)
  have HCC : Aside0 (∀ W, m ≤ cap W ∧ Kd.C (Kd.int .u8) ((W.alloc (o W)).drew) (some ⟨W.heap.size, 0, none⟩) m (bl id)) := ⟨fun W => ⟨(hcC W).1, (hcC W).2⟩⟩
  rw [hm] at hi
  clear hcC
  obtain ⟨d0, hd0⟩ : ∃ d, d = (⟨(Lib.itoa kk).toArray⟩ : ByteArray) := ⟨_, rfl⟩
  have hs0 : d0.size ≤ 20 := by rw [hd0, size_str]; exact itoa_len _ i0
  have H0 : Aside0 (∀ W, Calls Tryd.prog 32 #[.int .i64 kk] W fun e W' => e = .returned (.string d0) ∧ Below W.heap.size W W') := ⟨fun W => by rw [hd0]; exact RDec_any W kk i0⟩
  obtain ⟨d1, hd1⟩ : ∃ d, d = (⟨(Lib.itoa ka).toArray⟩ : ByteArray) := ⟨_, rfl⟩
  have hs1 : d1.size ≤ 20 := by rw [hd1, size_str]; exact itoa_len _ i1
  have H1 : Aside0 (∀ W, Calls Tryd.prog 32 #[.int .i64 ka] W fun e W' => e = .returned (.string d1) ∧ Below W.heap.size W W') := ⟨fun W => by rw [hd1]; exact RDec_any W ka i1⟩
  obtain ⟨d2, hd2⟩ : ∃ d, d = (⟨(Lib.itoa kb).toArray⟩ : ByteArray) := ⟨_, rfl⟩
  have hs2 : d2.size ≤ 20 := by rw [hd2, size_str]; exact itoa_len _ i2
  have H2 : Aside0 (∀ W, Calls Tryd.prog 32 #[.int .i64 kb] W fun e W' => e = .returned (.string d2) ∧ Below W.heap.size W W') := ⟨fun W => by rw [hd2]; exact RDec_any W kb i2⟩
  obtain ⟨d3, hd3⟩ : ∃ d, d = (⟨(Lib.itoa kc).toArray⟩ : ByteArray) := ⟨_, rfl⟩
  have hs3 : d3.size ≤ 20 := by rw [hd3, size_str]; exact itoa_len _ i3
  have H3 : Aside0 (∀ W, Calls Tryd.prog 32 #[.int .i64 kc] W fun e W' => e = .returned (.string d3) ∧ Below W.heap.size W W') := ⟨fun W => by rw [hd3]; exact RDec_any W kc i3⟩
  have HC := Aside0.mk hC
  unfold stepV
  simp only []
  obtain ⟨w0, hw0, hz0, a0, hb0⟩ := heap1 w (Obj.cells #[.int .i64 kk, .int .i64 ka, .int .i64 kb, .int .i64 kc, .string ⟨id.toArray⟩, .slice A n c] 33)
  obtain ⟨s, hs⟩ : ∃ s, s = w.heap.size := ⟨_, rfl⟩
  rw [← hs] at a0
  have HG : Aside0 (∀ W, Fr (fun _ => False) w0 W → W.cell? ⟨s, 0, none⟩ = some (.int .i64 kk) ∧ W.cell? ⟨s, 1, none⟩ = some (.int .i64 ka) ∧ W.cell? ⟨s, 2, none⟩ = some (.int .i64 kb) ∧ W.cell? ⟨s, 3, none⟩ = some (.int .i64 kc) ∧ W.cell? ⟨s, 4, none⟩ = some (.string ⟨id.toArray⟩) ∧ W.cell? ⟨s, 5, none⟩ = some (.slice A n c) ∧ Aside0 (Fr (fun _ => False) w0 W)) :=
    ⟨fun W hW => by
      have h1 := hW.blk a0 (fun h => h)
      exact ⟨cell_at h1 rfl, cell_at h1 rfl, cell_at h1 rfl, cell_at h1 rfl, cell_at h1 rfl, cell_at h1 rfl, ⟨hW⟩⟩⟩
  obtain ⟨sd, hsd⟩ : ∃ sd, sd = (⟨(hexL data).toArray⟩ : ByteArray) := ⟨_, rfl⟩
  obtain ⟨si, hsi⟩ : ∃ si, si = (⟨(hexL id).toArray⟩ : ByteArray) := ⟨_, rfl⟩
  have hdl : data.length = n := by have := Kd.C_len hC; rw [bl_length] at this; exact this
  have hsdn : sd.size ≤ 536870912 := by rw [hsd, size_str, hexL_length]; omega
  have hsin : si.size ≤ 536870912 := by rw [hsi, size_str, hexL_length]; omega
  have HCD : Aside0 (Kd.C (Kd.int .u8) (w0.alloc (o w0.drew)).drew.drew (some ⟨w0.heap.size, 0, none⟩) m (bl id)) := ⟨(HCC.out w0.drew).2⟩
  have HPD : Aside0 (∀ W, Kd.C (Kd.int .u8) W A n (bl data) → Calls Tryd.prog 16 #[.slice A n c] W fun e W' => e = .returned (.string sd) ∧ Below W.heap.size W W') := ⟨fun W h => by rw [hsd]; exact (RHex_any W A n c data h (by omega)).mono fun e W' ⟨he, hd⟩ => ⟨he, hd.below⟩⟩
  have HPI : Aside0 (∀ W g c, Kd.C (Kd.int .u8) W (some ⟨g, 0, none⟩) m (bl id) → m ≤ c → Calls Tryd.prog 16 #[.slice (some ⟨g, 0, none⟩) m c] W fun e W' => e = .returned (.string si) ∧ Below W.heap.size W W') := ⟨fun W g c h hc => by rw [hsi]; exact (RHex_any W _ m c id h (by omega)).mono fun e W' ⟨he, hd⟩ => ⟨he, hd.below⟩⟩
  obtain ⟨sb, hsb⟩ : ∃ sb, sb = (⟨(bareL ⟨kk, ka, kb, kc, id, data⟩).toArray⟩ : ByteArray) := ⟨_, rfl⟩
  have hbl := bare_len ⟨kk, ka, kb, kc, id, data⟩ ⟨i0, i1, i2, i3⟩
  simp only at hbl
  have HJ := Aside0.mk (joined_any ⟨kk, ka, kb, kc, id, data⟩ si sd hsi hsd (by omega))
  simp only [← hsb] at HJ
  have hsbn : sb.size ≤ 2147483648 := by rw [hsb, size_str]; omega
  have hz5 : (9223372036854775807 < sb.size + 1) = False := eq_false (by omega)
  have hz6 : (sb.size + 1 ≤ 9223372036854775807) = True := eq_true (by omega)
  have HBT : Aside0 (sb ++ ⟨#[10]⟩ = ⟨(lineL ⟨kk, ka, kb, kc, id, data⟩).toArray⟩) := ⟨by rw [hsb]; exact app_str _ [10]⟩
  have hy0 : (d0.size + 1 ≤ 9223372036854775807) = True := eq_true (by omega)
  have hx0 : (9223372036854775807 < d0.size + 1) = False := eq_false (by omega)
  have hy1 : (d0.size + 1 + d1.size ≤ 9223372036854775807) = True := eq_true (by omega)
  have hx1 : (9223372036854775807 < d0.size + 1 + d1.size) = False := eq_false (by omega)
  have hy2 : (d0.size + 1 + d1.size + 1 ≤ 9223372036854775807) = True := eq_true (by omega)
  have hx2 : (9223372036854775807 < d0.size + 1 + d1.size + 1) = False := eq_false (by omega)
  have hy3 : (d0.size + 1 + d1.size + 1 + d2.size ≤ 9223372036854775807) = True := eq_true (by omega)
  have hx3 : (9223372036854775807 < d0.size + 1 + d1.size + 1 + d2.size) = False := eq_false (by omega)
  have hy4 : (d0.size + 1 + d1.size + 1 + d2.size + 1 ≤ 9223372036854775807) = True := eq_true (by omega)
  have hx4 : (9223372036854775807 < d0.size + 1 + d1.size + 1 + d2.size + 1) = False := eq_false (by omega)
  have hy5 : (d0.size + 1 + d1.size + 1 + d2.size + 1 + d3.size ≤ 9223372036854775807) = True := eq_true (by omega)
  have hx5 : (9223372036854775807 < d0.size + 1 + d1.size + 1 + d2.size + 1 + d3.size) = False := eq_false (by omega)
  have hy6 : (d0.size + 1 + d1.size + 1 + d2.size + 1 + d3.size + 2 ≤ 9223372036854775807) = True := eq_true (by omega)
  have hx6 : (9223372036854775807 < d0.size + 1 + d1.size + 1 + d2.size + 1 + d3.size + 2) = False := eq_false (by omega)
  have hy7 : (d0.size + 1 + d1.size + 1 + d2.size + 1 + d3.size + 2 + si.size ≤ 9223372036854775807) = True := eq_true (by omega)
  have hx7 : (9223372036854775807 < d0.size + 1 + d1.size + 1 + d2.size + 1 + d3.size + 2 + si.size) = False := eq_false (by omega)
  have hy8 : (d0.size + 1 + d1.size + 1 + d2.size + 1 + d3.size + 2 + si.size + 2 ≤ 9223372036854775807) = True := eq_true (by omega)
  have hx8 : (9223372036854775807 < d0.size + 1 + d1.size + 1 + d2.size + 1 + d3.size + 2 + si.size + 2) = False := eq_false (by omega)
  have hy9 : (d0.size + 1 + d1.size + 1 + d2.size + 1 + d3.size + 2 + si.size + 2 + sd.size ≤ 9223372036854775807) = True := eq_true (by omega)
  have hx9 : (9223372036854775807 < d0.size + 1 + d1.size + 1 + d2.size + 1 + d3.size + 2 + si.size + 2 + sd.size) = False := eq_false (by omega)
  have hy10 : (d0.size + 1 + d1.size + 1 + d2.size + 1 + d3.size + 2 + si.size + 2 + sd.size + 1 ≤ 9223372036854775807) = True := eq_true (by omega)
  have hx10 : (9223372036854775807 < d0.size + 1 + d1.size + 1 + d2.size + 1 + d3.size + 2 + si.size + 2 + sd.size + 1) = False := eq_false (by omega)
  have HBT : Aside0 (d0 ++ ⟨#[32]⟩ ++ d1 ++ ⟨#[32]⟩ ++ d2 ++ ⟨#[32]⟩ ++ d3 ++ ⟨#[32, 105]⟩ ++ si ++ ⟨#[32, 120]⟩ ++ sd ++ ⟨#[10]⟩ = ⟨(lineL ⟨kk, ka, kb, kc, id, data⟩).toArray⟩) := ⟨by
    have e1 : ∀ (a b : List UInt8), (⟨a.toArray⟩ : ByteArray) ++ ⟨b.toArray⟩ = ⟨(a ++ b).toArray⟩ := app_str
    have c1 : (⟨#[32]⟩ : ByteArray) = ⟨([32] : List UInt8).toArray⟩ := rfl
    have c2 : (⟨#[32, 105]⟩ : ByteArray) = ⟨([32, 105] : List UInt8).toArray⟩ := rfl
    have c3 : (⟨#[32, 120]⟩ : ByteArray) = ⟨([32, 120] : List UInt8).toArray⟩ := rfl
    have c4 : (⟨#[10]⟩ : ByteArray) = ⟨([10] : List UInt8).toArray⟩ := rfl
    rw [hd0, hd1, hd2, hd3, hsi, hsd, c1, c2, c3, c4]
    simp only [e1]
    simp [lineL, bareL, wordsL, Lib.join_cons, Lib.joinTail]⟩
  have hz1 : (9223372036854775807 < 1 + sd.size) = False := eq_false (by omega)
  have hz2 : (9223372036854775807 < 1 + si.size) = False := eq_false (by omega)
  have hz3 : (1 + sd.size ≤ 9223372036854775807) = True := eq_true (by omega)
  have hz4 : (1 + si.size ≤ 9223372036854775807) = True := eq_true (by omega)
  have HCF : Aside0 (∀ W, Fr (fun _ => False) w0 W → Kd.C (Kd.int .u8) W A n (bl data)) := ⟨fun W hW => Kd.C_below (Kd.C_below hC hb0) hW.f_below⟩
  have HB0 := Aside0.mk hb0
  have HS := Aside0.mk hs
  have HW0 := Aside0.mk hw0
  have HH : Aside0 (n ≤ c ∧ n ≤ 1099511627776 ∧ m ≤ 1099511627776) := ⟨⟨hc, by omega, by omega⟩⟩
  have HSM := Aside0.mk (And.intro hn hi)
  clear a0 hb0 hz0 hw0 hs hC i0 i1 i2 i3 hc hn hi hsd hsi hdl hsdn hsin hm hd0 hd1 hd2 hd3 hs0 hs1 hs2 hs3
  have hu33 := Tryd.underlying33
  go_enter Tryd.func22, Tryd.ntmps22
  go_wp2
  rw [← HW0.out, ← HS.out]
  have S1 := HG.out w0 (Fr.refl _ _)
  refine wp_region_held_drew (S := (fun W => W.cell? ⟨s, 0, none⟩ = some (.int .i64 kk) ∧ W.cell? ⟨s, 1, none⟩ = some (.int .i64 ka) ∧ W.cell? ⟨s, 2, none⟩ = some (.int .i64 kb) ∧ W.cell? ⟨s, 3, none⟩ = some (.int .i64 kc) ∧ W.cell? ⟨s, 4, none⟩ = some (.string ⟨id.toArray⟩) ∧ W.cell? ⟨s, 5, none⟩ = some (.slice A n c) ∧ Aside0 (Fr (fun _ => False) w0 W))) (by kernel_rfl) (HG.out _ (by repeat (first | exact Fr.refl _ _ | assumption | apply Fr.drew | apply Fr.alloc))) (fun hS => ?_)
  refine takeD 0 3 (v := ?_) rfl rfl (by kernel_rfl) (by kernel_rfl) (by kernel_rfl) (fun _ _ _ h => h) (Or.inl ⟨by rfl, ?_⟩) hS ?_
  rotate_left 1
  focus (intro w hSw; (try dsimp only at hSw); go_simp; (try with_reducible rfl); done)
  try simp only [Act.put, List.setIfInBounds_toArray, List.set_cons_zero, List.set_cons_succ]
  refine takeD 1 4 (v := ?_) rfl rfl (by kernel_rfl) (by kernel_rfl) (by kernel_rfl) (fun _ _ _ h => h) (Or.inl ⟨by rfl, ?_⟩) hS ?_
  rotate_left 1
  focus (intro w hSw; (try dsimp only at hSw); go_simp; (try with_reducible rfl); done)
  try simp only [Act.put, List.setIfInBounds_toArray, List.set_cons_zero, List.set_cons_succ]
  refine takeD 4 7 (v := ?_) rfl rfl (by kernel_rfl) (by kernel_rfl) (by kernel_rfl) (fun _ _ _ h => h) (Or.inl ⟨by rfl, ?_⟩) hS ?_
  rotate_left 1
  focus (intro w hSw; (try dsimp only at hSw); go_simp; (try with_reducible rfl); done)
  try simp only [Act.put, List.setIfInBounds_toArray, List.set_cons_zero, List.set_cons_succ]
  refine takeD 5 8 (v := ?_) rfl rfl (by kernel_rfl) (by kernel_rfl) (by kernel_rfl) (fun _ _ _ h => h) (Or.inl ⟨by rfl, ?_⟩) hS ?_
  rotate_left 1
  focus (intro w hSw; (try dsimp only at hSw); go_simp; (try with_reducible rfl); done)
  try simp only [Act.put, List.setIfInBounds_toArray, List.set_cons_zero, List.set_cons_succ]
  refine takeD 9 12 (v := ?_) rfl rfl (by kernel_rfl) (by kernel_rfl) (by kernel_rfl) (fun _ _ _ h => h) (Or.inl ⟨by rfl, ?_⟩) hS ?_
  rotate_left 1
  focus (intro w hSw; (try dsimp only at hSw); go_simp; (try with_reducible rfl); done)
  try simp only [Act.put, List.setIfInBounds_toArray, List.set_cons_zero, List.set_cons_succ]
  refine takeD 10 13 (v := ?_) rfl rfl (by kernel_rfl) (by kernel_rfl) (by kernel_rfl) (fun _ _ _ h => h) (Or.inl ⟨by rfl, ?_⟩) hS ?_
  rotate_left 1
  focus (intro w hSw; (try dsimp only at hSw); go_simp; (try with_reducible rfl); done)
  try simp only [Act.put, List.setIfInBounds_toArray, List.set_cons_zero, List.set_cons_succ]
  refine takeD 14 17 (v := ?_) rfl rfl (by kernel_rfl) (by kernel_rfl) (by kernel_rfl) (fun _ _ _ h => h) (Or.inl ⟨by rfl, ?_⟩) hS ?_
  rotate_left 1
  focus (intro w hSw; (try dsimp only at hSw); go_simp; (try with_reducible rfl); done)
  try simp only [Act.put, List.setIfInBounds_toArray, List.set_cons_zero, List.set_cons_succ]
  refine takeD 15 18 (v := ?_) rfl rfl (by kernel_rfl) (by kernel_rfl) (by kernel_rfl) (fun _ _ _ h => h) (Or.inl ⟨by rfl, ?_⟩) hS ?_
  rotate_left 1
  focus (intro w hSw; (try dsimp only at hSw); go_simp; (try with_reducible rfl); done)
  try simp only [Act.put, List.setIfInBounds_toArray, List.set_cons_zero, List.set_cons_succ]
  refine takeD 19 22 (v := ?_) rfl rfl (by kernel_rfl) (by kernel_rfl) (by kernel_rfl) (fun _ _ _ h => h) (Or.inl ⟨by rfl, ?_⟩) hS ?_
  rotate_left 1
  focus (intro w hSw; (try dsimp only at hSw); go_simp; (try with_reducible rfl); done)
  try simp only [Act.put, List.setIfInBounds_toArray, List.set_cons_zero, List.set_cons_succ]
  refine takeD 20 23 (v := ?_) rfl rfl (by kernel_rfl) (by kernel_rfl) (by kernel_rfl) (fun _ _ _ h => h) (Or.inl ⟨by rfl, ?_⟩) hS ?_
  rotate_left 1
  focus (intro w hSw; (try dsimp only at hSw); go_simp; (try with_reducible rfl); done)
  try simp only [Act.put, List.setIfInBounds_toArray, List.set_cons_zero, List.set_cons_succ]
  refine takeD 25 28 (v := ?_) rfl rfl (by kernel_rfl) (by kernel_rfl) (by kernel_rfl) (fun _ _ _ h => h) (Or.inl ⟨by rfl, ?_⟩) hS ?_
  rotate_left 1
  focus (intro w hSw; (try dsimp only at hSw); go_simp; (try with_reducible rfl); done)
  try simp only [Act.put, List.setIfInBounds_toArray, List.set_cons_zero, List.set_cons_succ]
  refine takeD 26 29 (v := ?_) rfl rfl (by kernel_rfl) (by kernel_rfl) (by kernel_rfl) (fun _ _ _ h => h) (Or.inl ⟨by rfl, ?_⟩) hS ?_
  rotate_left 1
  focus (intro w hSw; (try dsimp only at hSw); go_simp; (try with_reducible rfl); done)
  try simp only [Act.put, List.setIfInBounds_toArray, List.set_cons_zero, List.set_cons_succ]
  refine wpAnyH_ready (rs := [2, 21]) (by kernel_rfl) (by simp) ?_
  refine AllReadyH.cons rfl (fun K hK => ?_) (AllReadyH.cons rfl (fun K hK => ?_) AllReadyH.nil)
  · rw [if_pos (by rfl)]
    go_simp
    (go_at_call 32; (first | with_reducible refine (H0.out _).mono ?_ | with_reducible refine (H1.out _).mono ?_ | with_reducible refine (H2.out _).mono ?_ | with_reducible refine (H3.out _).mono ?_); rintro e Wn ⟨rfl, hbn⟩; have hfn := Fr.below_ (S := fun _ => False) (w := w0) (by repeat (first | exact Fr.refl _ _ | assumption | apply Fr.drew | apply Fr.alloc)) hbn); go_simp
    refine hK.out _ _ (HG.out _ (by repeat (first | exact Fr.refl _ _ | assumption | apply Fr.drew | apply Fr.alloc))) (fun hS2 => ?_)
    clear hK K hS
    have hS := hS2
    clear hS2
    try simp only [Act.put, List.setIfInBounds_toArray, List.set_cons_zero, List.set_cons_succ]
    refine takeD 3 6 (v := ?_) rfl rfl (by kernel_rfl) (by kernel_rfl) (by kernel_rfl) (fun _ _ _ h => h) (Or.inl ⟨by rfl, ?_⟩) hS ?_
    rotate_left 1
    focus (intro w hSw; (try dsimp only at hSw); go_simp; (try with_reducible rfl); done)
    try simp only [Act.put, List.setIfInBounds_toArray, List.set_cons_zero, List.set_cons_succ]
    refine wpAnyH_ready (rs := [6, 21]) (by kernel_rfl) (by simp) ?_
    refine AllReadyH.cons rfl (fun K hK => ?_) (AllReadyH.cons rfl (fun K hK => ?_) AllReadyH.nil)
    · rw [if_pos (by rfl)]
      go_simp
      (go_at_call 32; (first | with_reducible refine (H0.out _).mono ?_ | with_reducible refine (H1.out _).mono ?_ | with_reducible refine (H2.out _).mono ?_ | with_reducible refine (H3.out _).mono ?_); rintro e Wn ⟨rfl, hbn⟩; have hfn := Fr.below_ (S := fun _ => False) (w := w0) (by repeat (first | exact Fr.refl _ _ | assumption | apply Fr.drew | apply Fr.alloc)) hbn); go_simp
      refine hK.out _ _ (HG.out _ (by repeat (first | exact Fr.refl _ _ | assumption | apply Fr.drew | apply Fr.alloc))) (fun hS2 => ?_)
      clear hK K hS
      have hS := hS2
      clear hS2
      try simp only [Act.put, List.setIfInBounds_toArray, List.set_cons_zero, List.set_cons_succ]
      refine takeD 7 10 (v := ?_) rfl rfl (by kernel_rfl) (by kernel_rfl) (by kernel_rfl) (fun _ _ _ h => h) (Or.inl ⟨by rfl, ?_⟩) hS ?_
      rotate_left 1
      focus (intro w hSw; (try dsimp only at hSw); go_simp; (try with_reducible rfl); done)
      try simp only [Act.put, List.setIfInBounds_toArray, List.set_cons_zero, List.set_cons_succ]
      refine takeD 8 11 (v := ?_) rfl rfl (by kernel_rfl) (by kernel_rfl) (by kernel_rfl) (fun _ _ _ h => h) (Or.inl ⟨by rfl, ?_⟩) hS ?_
      rotate_left 1
      focus (intro w hSw; (try dsimp only at hSw); go_simp; (try with_reducible rfl); done)
      try simp only [Act.put, List.setIfInBounds_toArray, List.set_cons_zero, List.set_cons_succ]
      refine wpAnyH_ready (rs := [11, 21]) (by kernel_rfl) (by simp) ?_
      refine AllReadyH.cons rfl (fun K hK => ?_) (AllReadyH.cons rfl (fun K hK => ?_) AllReadyH.nil)
      · rw [if_pos (by rfl)]
        go_simp
        (go_at_call 32; (first | with_reducible refine (H0.out _).mono ?_ | with_reducible refine (H1.out _).mono ?_ | with_reducible refine (H2.out _).mono ?_ | with_reducible refine (H3.out _).mono ?_); rintro e Wn ⟨rfl, hbn⟩; have hfn := Fr.below_ (S := fun _ => False) (w := w0) (by repeat (first | exact Fr.refl _ _ | assumption | apply Fr.drew | apply Fr.alloc)) hbn); go_simp
        refine hK.out _ _ (HG.out _ (by repeat (first | exact Fr.refl _ _ | assumption | apply Fr.drew | apply Fr.alloc))) (fun hS2 => ?_)
        clear hK K hS
        have hS := hS2
        clear hS2
        try simp only [Act.put, List.setIfInBounds_toArray, List.set_cons_zero, List.set_cons_succ]
        refine takeD 12 15 (v := ?_) rfl rfl (by kernel_rfl) (by kernel_rfl) (by kernel_rfl) (fun _ _ _ h => h) (Or.inl ⟨by rfl, ?_⟩) hS ?_
        rotate_left 1
        focus (intro w hSw; (try dsimp only at hSw); go_simp; (try with_reducible rfl); done)
        try simp only [Act.put, List.setIfInBounds_toArray, List.set_cons_zero, List.set_cons_succ]
        refine takeD 13 16 (v := ?_) rfl rfl (by kernel_rfl) (by kernel_rfl) (by kernel_rfl) (fun _ _ _ h => h) (Or.inl ⟨by rfl, ?_⟩) hS ?_
        rotate_left 1
        focus (intro w hSw; (try dsimp only at hSw); go_simp; (try with_reducible rfl); done)
        try simp only [Act.put, List.setIfInBounds_toArray, List.set_cons_zero, List.set_cons_succ]
        refine wpAnyH_ready (rs := [16, 21]) (by kernel_rfl) (by simp) ?_
        refine AllReadyH.cons rfl (fun K hK => ?_) (AllReadyH.cons rfl (fun K hK => ?_) AllReadyH.nil)
        · rw [if_pos (by rfl)]
          go_simp
          (go_at_call 32; (first | with_reducible refine (H0.out _).mono ?_ | with_reducible refine (H1.out _).mono ?_ | with_reducible refine (H2.out _).mono ?_ | with_reducible refine (H3.out _).mono ?_); rintro e Wn ⟨rfl, hbn⟩; have hfn := Fr.below_ (S := fun _ => False) (w := w0) (by repeat (first | exact Fr.refl _ _ | assumption | apply Fr.drew | apply Fr.alloc)) hbn); go_simp
          refine hK.out _ _ (HG.out _ (by repeat (first | exact Fr.refl _ _ | assumption | apply Fr.drew | apply Fr.alloc))) (fun hS2 => ?_)
          clear hK K hS
          have hS := hS2
          clear hS2
          try simp only [Act.put, List.setIfInBounds_toArray, List.set_cons_zero, List.set_cons_succ]
          refine takeD 17 20 (v := ?_) rfl rfl (by kernel_rfl) (by kernel_rfl) (by kernel_rfl) (fun _ _ _ h => h) (Or.inl ⟨by rfl, ?_⟩) hS ?_
          rotate_left 1
          focus (intro w hSw; (try dsimp only at hSw); go_simp; (try with_reducible rfl); done)
          try simp only [Act.put, List.setIfInBounds_toArray, List.set_cons_zero, List.set_cons_succ]
          refine takeD 18 21 (v := ?_) rfl rfl (by kernel_rfl) (by kernel_rfl) (by kernel_rfl) (fun _ _ _ h => h) (Or.inl ⟨by rfl, ?_⟩) hS ?_
          rotate_left 1
          focus (intro w hSw; (try dsimp only at hSw); go_simp; (try with_reducible rfl); done)
          try simp only [Act.put, List.setIfInBounds_toArray, List.set_cons_zero, List.set_cons_succ]
          refine wpAnyH_ready (rs := [21]) (by kernel_rfl) (by simp) ?_
          refine AllReadyH.cons rfl (fun K hK => ?_) AllReadyH.nil
          rw [if_pos (by rfl)]
          go_simp
          refine hK.out _ _ (HG.out _ (by repeat (first | exact Fr.refl _ _ | assumption | apply Fr.drew | apply Fr.alloc))) (fun hS2 => ?_)
          clear hK K hS
          have hS := hS2
          clear hS2
          try simp only [Act.put, List.setIfInBounds_toArray, List.set_cons_zero, List.set_cons_succ]
          refine wpAnyH_ready (rs := [22]) (by kernel_rfl) (by simp) ?_
          refine AllReadyH.cons rfl (fun K hK => ?_) AllReadyH.nil
          rw [if_pos (by rfl)]
          go_simp
          (first | (go_at_call 16; with_reducible refine (HPD.out _ (HCF.out _ (by repeat (first | exact Fr.refl _ _ | assumption | apply Fr.drew | apply Fr.alloc)))).mono ?_; rintro e Wn ⟨rfl, hbn⟩; have hfn := Fr.below_ (S := fun _ => False) (w := w0) (by repeat (first | exact Fr.refl _ _ | assumption | apply Fr.drew | apply Fr.alloc)) hbn) | (go_at_call 16; with_reducible refine (HPI.out _ _ _ (by repeat (first | exact (HCC.out _).2 | exact HCD.out | refine Kd.C_below ?_ (by assumption))) (HCC.out _).1).mono ?_; rintro e Wn ⟨rfl, hbn⟩; have hfn := Fr.below_ (S := fun _ => False) (w := w0) (by repeat (first | exact Fr.refl _ _ | assumption | apply Fr.drew | apply Fr.alloc)) hbn)); go_simp
          refine hK.out _ _ (HG.out _ (by repeat (first | exact Fr.refl _ _ | assumption | apply Fr.drew | apply Fr.alloc))) (fun hS2 => ?_)
          clear hK K hS
          have hS := hS2
          clear hS2
          try simp only [Act.put, List.setIfInBounds_toArray, List.set_cons_zero, List.set_cons_succ]
          refine takeD 23 26 (v := ?_) rfl rfl (by kernel_rfl) (by kernel_rfl) (by kernel_rfl) (fun _ _ _ h => h) (Or.inl ⟨by rfl, ?_⟩) hS ?_
          rotate_left 1
          focus (intro w hSw; (try dsimp only at hSw); go_simp; (try with_reducible rfl); done)
          try simp only [Act.put, List.setIfInBounds_toArray, List.set_cons_zero, List.set_cons_succ]
          refine takeD 24 27 (v := ?_) rfl rfl (by kernel_rfl) (by kernel_rfl) (by kernel_rfl) (fun _ _ _ h => h) (Or.inl ⟨by rfl, ?_⟩) hS ?_
          rotate_left 1
          focus (intro w hSw; (try dsimp only at hSw); go_simp; (try with_reducible rfl); done)
          try simp only [Act.put, List.setIfInBounds_toArray, List.set_cons_zero, List.set_cons_succ]
          refine wpAnyH_ready (rs := [27]) (by kernel_rfl) (by simp) ?_
          refine AllReadyH.cons rfl (fun K hK => ?_) AllReadyH.nil
          rw [if_pos (by rfl)]
          go_simp
          (first | (go_at_call 16; with_reducible refine (HPD.out _ (HCF.out _ (by repeat (first | exact Fr.refl _ _ | assumption | apply Fr.drew | apply Fr.alloc)))).mono ?_; rintro e Wn ⟨rfl, hbn⟩; have hfn := Fr.below_ (S := fun _ => False) (w := w0) (by repeat (first | exact Fr.refl _ _ | assumption | apply Fr.drew | apply Fr.alloc)) hbn) | (go_at_call 16; with_reducible refine (HPI.out _ _ _ (by repeat (first | exact (HCC.out _).2 | exact HCD.out | refine Kd.C_below ?_ (by assumption))) (HCC.out _).1).mono ?_; rintro e Wn ⟨rfl, hbn⟩; have hfn := Fr.below_ (S := fun _ => False) (w := w0) (by repeat (first | exact Fr.refl _ _ | assumption | apply Fr.drew | apply Fr.alloc)) hbn)); go_simp
          refine hK.out _ _ (HG.out _ (by repeat (first | exact Fr.refl _ _ | assumption | apply Fr.drew | apply Fr.alloc))) (fun hS2 => ?_)
          clear hK K hS
          have hS := hS2
          clear hS2
          try simp only [Act.put, List.setIfInBounds_toArray, List.set_cons_zero, List.set_cons_succ]
          refine takeD 28 31 (v := ?_) rfl rfl (by kernel_rfl) (by kernel_rfl) (by kernel_rfl) (fun _ _ _ h => h) (Or.inl ⟨by rfl, ?_⟩) hS ?_
          rotate_left 1
          focus (intro w hSw; (try dsimp only at hSw); go_simp; (try with_reducible rfl); done)
          try simp only [Act.put, List.setIfInBounds_toArray, List.set_cons_zero, List.set_cons_succ]
          refine takeD 29 32 (v := ?_) rfl rfl (by kernel_rfl) (by kernel_rfl) (by kernel_rfl) (fun _ _ _ h => h) (Or.inl ⟨by rfl, ?_⟩) hS ?_
          rotate_left 1
          focus (intro w hSw; (try dsimp only at hSw); go_simp; (try with_reducible rfl); done)
          try simp only [Act.put, List.setIfInBounds_toArray, List.set_cons_zero, List.set_cons_succ]
          refine takeD 30 2 (v := ?_) rfl rfl (by kernel_rfl) (by kernel_rfl) (by kernel_rfl) (fun _ _ _ h => h) (Or.inl ⟨by rfl, ?_⟩) hS ?_
          rotate_left 1
          focus (intro w hSw; (try dsimp only at hSw); go_simp; (try with_reducible rfl); done)
          try simp only [Act.put, List.setIfInBounds_toArray, List.set_cons_zero, List.set_cons_succ]
          refine wpAnyH_done (by kernel_rfl) ?_ _
          go_wp2
          go_ret
          exact ⟨congrArg (fun z => Ending.returned (.string z)) HBT.out, HB0.out.trans (Fr.f_below (by assumption) |>.mono HB0.out.size)⟩
        · rw [if_pos (by rfl)]
          go_simp
          refine hK.out _ _ (HG.out _ (by repeat (first | exact Fr.refl _ _ | assumption | apply Fr.drew | apply Fr.alloc))) (fun hS2 => ?_)
          clear hK K hS
          have hS := hS2
          clear hS2
          try simp only [Act.put, List.setIfInBounds_toArray, List.set_cons_zero, List.set_cons_succ]
          refine wpAnyH_ready (rs := [16]) (by kernel_rfl) (by simp) ?_
          refine AllReadyH.cons rfl (fun K hK => ?_) AllReadyH.nil
          rw [if_pos (by rfl)]
          go_simp
          (go_at_call 32; (first | with_reducible refine (H0.out _).mono ?_ | with_reducible refine (H1.out _).mono ?_ | with_reducible refine (H2.out _).mono ?_ | with_reducible refine (H3.out _).mono ?_); rintro e Wn ⟨rfl, hbn⟩; have hfn := Fr.below_ (S := fun _ => False) (w := w0) (by repeat (first | exact Fr.refl _ _ | assumption | apply Fr.drew | apply Fr.alloc)) hbn); go_simp
          refine hK.out _ _ (HG.out _ (by repeat (first | exact Fr.refl _ _ | assumption | apply Fr.drew | apply Fr.alloc))) (fun hS2 => ?_)
          clear hK K hS
          have hS := hS2
          clear hS2
          try simp only [Act.put, List.setIfInBounds_toArray, List.set_cons_zero, List.set_cons_succ]
          refine takeD 17 20 (v := ?_) rfl rfl (by kernel_rfl) (by kernel_rfl) (by kernel_rfl) (fun _ _ _ h => h) (Or.inl ⟨by rfl, ?_⟩) hS ?_
          rotate_left 1
          focus (intro w hSw; (try dsimp only at hSw); go_simp; (try with_reducible rfl); done)
          try simp only [Act.put, List.setIfInBounds_toArray, List.set_cons_zero, List.set_cons_succ]
          refine takeD 18 21 (v := ?_) rfl rfl (by kernel_rfl) (by kernel_rfl) (by kernel_rfl) (fun _ _ _ h => h) (Or.inl ⟨by rfl, ?_⟩) hS ?_
          rotate_left 1
          focus (intro w hSw; (try dsimp only at hSw); go_simp; (try with_reducible rfl); done)
          try simp only [Act.put, List.setIfInBounds_toArray, List.set_cons_zero, List.set_cons_succ]
          refine wpAnyH_ready (rs := [22]) (by kernel_rfl) (by simp) ?_
          refine AllReadyH.cons rfl (fun K hK => ?_) AllReadyH.nil
          rw [if_pos (by rfl)]
          go_simp
          (first | (go_at_call 16; with_reducible refine (HPD.out _ (HCF.out _ (by repeat (first | exact Fr.refl _ _ | assumption | apply Fr.drew | apply Fr.alloc)))).mono ?_; rintro e Wn ⟨rfl, hbn⟩; have hfn := Fr.below_ (S := fun _ => False) (w := w0) (by repeat (first | exact Fr.refl _ _ | assumption | apply Fr.drew | apply Fr.alloc)) hbn) | (go_at_call 16; with_reducible refine (HPI.out _ _ _ (by repeat (first | exact (HCC.out _).2 | exact HCD.out | refine Kd.C_below ?_ (by assumption))) (HCC.out _).1).mono ?_; rintro e Wn ⟨rfl, hbn⟩; have hfn := Fr.below_ (S := fun _ => False) (w := w0) (by repeat (first | exact Fr.refl _ _ | assumption | apply Fr.drew | apply Fr.alloc)) hbn)); go_simp
          refine hK.out _ _ (HG.out _ (by repeat (first | exact Fr.refl _ _ | assumption | apply Fr.drew | apply Fr.alloc))) (fun hS2 => ?_)
          clear hK K hS
          have hS := hS2
          clear hS2
          try simp only [Act.put, List.setIfInBounds_toArray, List.set_cons_zero, List.set_cons_succ]
          refine takeD 23 26 (v := ?_) rfl rfl (by kernel_rfl) (by kernel_rfl) (by kernel_rfl) (fun _ _ _ h => h) (Or.inl ⟨by rfl, ?_⟩) hS ?_
          rotate_left 1
          focus (intro w hSw; (try dsimp only at hSw); go_simp; (try with_reducible rfl); done)
          try simp only [Act.put, List.setIfInBounds_toArray, List.set_cons_zero, List.set_cons_succ]
          refine takeD 24 27 (v := ?_) rfl rfl (by kernel_rfl) (by kernel_rfl) (by kernel_rfl) (fun _ _ _ h => h) (Or.inl ⟨by rfl, ?_⟩) hS ?_
          rotate_left 1
          focus (intro w hSw; (try dsimp only at hSw); go_simp; (try with_reducible rfl); done)
          try simp only [Act.put, List.setIfInBounds_toArray, List.set_cons_zero, List.set_cons_succ]
          refine wpAnyH_ready (rs := [27]) (by kernel_rfl) (by simp) ?_
          refine AllReadyH.cons rfl (fun K hK => ?_) AllReadyH.nil
          rw [if_pos (by rfl)]
          go_simp
          (first | (go_at_call 16; with_reducible refine (HPD.out _ (HCF.out _ (by repeat (first | exact Fr.refl _ _ | assumption | apply Fr.drew | apply Fr.alloc)))).mono ?_; rintro e Wn ⟨rfl, hbn⟩; have hfn := Fr.below_ (S := fun _ => False) (w := w0) (by repeat (first | exact Fr.refl _ _ | assumption | apply Fr.drew | apply Fr.alloc)) hbn) | (go_at_call 16; with_reducible refine (HPI.out _ _ _ (by repeat (first | exact (HCC.out _).2 | exact HCD.out | refine Kd.C_below ?_ (by assumption))) (HCC.out _).1).mono ?_; rintro e Wn ⟨rfl, hbn⟩; have hfn := Fr.below_ (S := fun _ => False) (w := w0) (by repeat (first | exact Fr.refl _ _ | assumption | apply Fr.drew | apply Fr.alloc)) hbn)); go_simp
          refine hK.out _ _ (HG.out _ (by repeat (first | exact Fr.refl _ _ | assumption | apply Fr.drew | apply Fr.alloc))) (fun hS2 => ?_)
          clear hK K hS
          have hS := hS2
          clear hS2
          try simp only [Act.put, List.setIfInBounds_toArray, List.set_cons_zero, List.set_cons_succ]
          refine takeD 28 31 (v := ?_) rfl rfl (by kernel_rfl) (by kernel_rfl) (by kernel_rfl) (fun _ _ _ h => h) (Or.inl ⟨by rfl, ?_⟩) hS ?_
          rotate_left 1
          focus (intro w hSw; (try dsimp only at hSw); go_simp; (try with_reducible rfl); done)
          try simp only [Act.put, List.setIfInBounds_toArray, List.set_cons_zero, List.set_cons_succ]
          refine takeD 29 32 (v := ?_) rfl rfl (by kernel_rfl) (by kernel_rfl) (by kernel_rfl) (fun _ _ _ h => h) (Or.inl ⟨by rfl, ?_⟩) hS ?_
          rotate_left 1
          focus (intro w hSw; (try dsimp only at hSw); go_simp; (try with_reducible rfl); done)
          try simp only [Act.put, List.setIfInBounds_toArray, List.set_cons_zero, List.set_cons_succ]
          refine takeD 30 2 (v := ?_) rfl rfl (by kernel_rfl) (by kernel_rfl) (by kernel_rfl) (fun _ _ _ h => h) (Or.inl ⟨by rfl, ?_⟩) hS ?_
          rotate_left 1
          focus (intro w hSw; (try dsimp only at hSw); go_simp; (try with_reducible rfl); done)
          try simp only [Act.put, List.setIfInBounds_toArray, List.set_cons_zero, List.set_cons_succ]
          refine wpAnyH_done (by kernel_rfl) ?_ _
          go_wp2
          go_ret
          exact ⟨congrArg (fun z => Ending.returned (.string z)) HBT.out, HB0.out.trans (Fr.f_below (by assumption) |>.mono HB0.out.size)⟩
      · rw [if_pos (by rfl)]
        go_simp
        refine hK.out _ _ (HG.out _ (by repeat (first | exact Fr.refl _ _ | assumption | apply Fr.drew | apply Fr.alloc))) (fun hS2 => ?_)
        clear hK K hS
        have hS := hS2
        clear hS2
        try simp only [Act.put, List.setIfInBounds_toArray, List.set_cons_zero, List.set_cons_succ]
        refine wpAnyH_ready (rs := [11]) (by kernel_rfl) (by simp) ?_
        refine AllReadyH.cons rfl (fun K hK => ?_) AllReadyH.nil
        rw [if_pos (by rfl)]
        go_simp
        (go_at_call 32; (first | with_reducible refine (H0.out _).mono ?_ | with_reducible refine (H1.out _).mono ?_ | with_reducible refine (H2.out _).mono ?_ | with_reducible refine (H3.out _).mono ?_); rintro e Wn ⟨rfl, hbn⟩; have hfn := Fr.below_ (S := fun _ => False) (w := w0) (by repeat (first | exact Fr.refl _ _ | assumption | apply Fr.drew | apply Fr.alloc)) hbn); go_simp
        refine hK.out _ _ (HG.out _ (by repeat (first | exact Fr.refl _ _ | assumption | apply Fr.drew | apply Fr.alloc))) (fun hS2 => ?_)
        clear hK K hS
        have hS := hS2
        clear hS2
        try simp only [Act.put, List.setIfInBounds_toArray, List.set_cons_zero, List.set_cons_succ]
        refine takeD 12 15 (v := ?_) rfl rfl (by kernel_rfl) (by kernel_rfl) (by kernel_rfl) (fun _ _ _ h => h) (Or.inl ⟨by rfl, ?_⟩) hS ?_
        rotate_left 1
        focus (intro w hSw; (try dsimp only at hSw); go_simp; (try with_reducible rfl); done)
        try simp only [Act.put, List.setIfInBounds_toArray, List.set_cons_zero, List.set_cons_succ]
        refine takeD 13 16 (v := ?_) rfl rfl (by kernel_rfl) (by kernel_rfl) (by kernel_rfl) (fun _ _ _ h => h) (Or.inl ⟨by rfl, ?_⟩) hS ?_
        rotate_left 1
        focus (intro w hSw; (try dsimp only at hSw); go_simp; (try with_reducible rfl); done)
        try simp only [Act.put, List.setIfInBounds_toArray, List.set_cons_zero, List.set_cons_succ]
        refine wpAnyH_ready (rs := [16]) (by kernel_rfl) (by simp) ?_
        refine AllReadyH.cons rfl (fun K hK => ?_) AllReadyH.nil
        rw [if_pos (by rfl)]
        go_simp
        (go_at_call 32; (first | with_reducible refine (H0.out _).mono ?_ | with_reducible refine (H1.out _).mono ?_ | with_reducible refine (H2.out _).mono ?_ | with_reducible refine (H3.out _).mono ?_); rintro e Wn ⟨rfl, hbn⟩; have hfn := Fr.below_ (S := fun _ => False) (w := w0) (by repeat (first | exact Fr.refl _ _ | assumption | apply Fr.drew | apply Fr.alloc)) hbn); go_simp
        refine hK.out _ _ (HG.out _ (by repeat (first | exact Fr.refl _ _ | assumption | apply Fr.drew | apply Fr.alloc))) (fun hS2 => ?_)
        clear hK K hS
        have hS := hS2
        clear hS2
        try simp only [Act.put, List.setIfInBounds_toArray, List.set_cons_zero, List.set_cons_succ]
        refine takeD 17 20 (v := ?_) rfl rfl (by kernel_rfl) (by kernel_rfl) (by kernel_rfl) (fun _ _ _ h => h) (Or.inl ⟨by rfl, ?_⟩) hS ?_
        rotate_left 1
        focus (intro w hSw; (try dsimp only at hSw); go_simp; (try with_reducible rfl); done)
        try simp only [Act.put, List.setIfInBounds_toArray, List.set_cons_zero, List.set_cons_succ]
        refine takeD 18 21 (v := ?_) rfl rfl (by kernel_rfl) (by kernel_rfl) (by kernel_rfl) (fun _ _ _ h => h) (Or.inl ⟨by rfl, ?_⟩) hS ?_
        rotate_left 1
        focus (intro w hSw; (try dsimp only at hSw); go_simp; (try with_reducible rfl); done)
        try simp only [Act.put, List.setIfInBounds_toArray, List.set_cons_zero, List.set_cons_succ]
        refine wpAnyH_ready (rs := [22]) (by kernel_rfl) (by simp) ?_
        refine AllReadyH.cons rfl (fun K hK => ?_) AllReadyH.nil
        rw [if_pos (by rfl)]
        go_simp
        (first | (go_at_call 16; with_reducible refine (HPD.out _ (HCF.out _ (by repeat (first | exact Fr.refl _ _ | assumption | apply Fr.drew | apply Fr.alloc)))).mono ?_; rintro e Wn ⟨rfl, hbn⟩; have hfn := Fr.below_ (S := fun _ => False) (w := w0) (by repeat (first | exact Fr.refl _ _ | assumption | apply Fr.drew | apply Fr.alloc)) hbn) | (go_at_call 16; with_reducible refine (HPI.out _ _ _ (by repeat (first | exact (HCC.out _).2 | exact HCD.out | refine Kd.C_below ?_ (by assumption))) (HCC.out _).1).mono ?_; rintro e Wn ⟨rfl, hbn⟩; have hfn := Fr.below_ (S := fun _ => False) (w := w0) (by repeat (first | exact Fr.refl _ _ | assumption | apply Fr.drew | apply Fr.alloc)) hbn)); go_simp
        refine hK.out _ _ (HG.out _ (by repeat (first | exact Fr.refl _ _ | assumption | apply Fr.drew | apply Fr.alloc))) (fun hS2 => ?_)
        clear hK K hS
        have hS := hS2
        clear hS2
        try simp only [Act.put, List.setIfInBounds_toArray, List.set_cons_zero, List.set_cons_succ]
        refine takeD 23 26 (v := ?_) rfl rfl (by kernel_rfl) (by kernel_rfl) (by kernel_rfl) (fun _ _ _ h => h) (Or.inl ⟨by rfl, ?_⟩) hS ?_
        rotate_left 1
        focus (intro w hSw; (try dsimp only at hSw); go_simp; (try with_reducible rfl); done)
        try simp only [Act.put, List.setIfInBounds_toArray, List.set_cons_zero, List.set_cons_succ]
        refine takeD 24 27 (v := ?_) rfl rfl (by kernel_rfl) (by kernel_rfl) (by kernel_rfl) (fun _ _ _ h => h) (Or.inl ⟨by rfl, ?_⟩) hS ?_
        rotate_left 1
        focus (intro w hSw; (try dsimp only at hSw); go_simp; (try with_reducible rfl); done)
        try simp only [Act.put, List.setIfInBounds_toArray, List.set_cons_zero, List.set_cons_succ]
        refine wpAnyH_ready (rs := [27]) (by kernel_rfl) (by simp) ?_
        refine AllReadyH.cons rfl (fun K hK => ?_) AllReadyH.nil
        rw [if_pos (by rfl)]
        go_simp
        (first | (go_at_call 16; with_reducible refine (HPD.out _ (HCF.out _ (by repeat (first | exact Fr.refl _ _ | assumption | apply Fr.drew | apply Fr.alloc)))).mono ?_; rintro e Wn ⟨rfl, hbn⟩; have hfn := Fr.below_ (S := fun _ => False) (w := w0) (by repeat (first | exact Fr.refl _ _ | assumption | apply Fr.drew | apply Fr.alloc)) hbn) | (go_at_call 16; with_reducible refine (HPI.out _ _ _ (by repeat (first | exact (HCC.out _).2 | exact HCD.out | refine Kd.C_below ?_ (by assumption))) (HCC.out _).1).mono ?_; rintro e Wn ⟨rfl, hbn⟩; have hfn := Fr.below_ (S := fun _ => False) (w := w0) (by repeat (first | exact Fr.refl _ _ | assumption | apply Fr.drew | apply Fr.alloc)) hbn)); go_simp
        refine hK.out _ _ (HG.out _ (by repeat (first | exact Fr.refl _ _ | assumption | apply Fr.drew | apply Fr.alloc))) (fun hS2 => ?_)
        clear hK K hS
        have hS := hS2
        clear hS2
        try simp only [Act.put, List.setIfInBounds_toArray, List.set_cons_zero, List.set_cons_succ]
        refine takeD 28 31 (v := ?_) rfl rfl (by kernel_rfl) (by kernel_rfl) (by kernel_rfl) (fun _ _ _ h => h) (Or.inl ⟨by rfl, ?_⟩) hS ?_
        rotate_left 1
        focus (intro w hSw; (try dsimp only at hSw); go_simp; (try with_reducible rfl); done)
        try simp only [Act.put, List.setIfInBounds_toArray, List.set_cons_zero, List.set_cons_succ]
        refine takeD 29 32 (v := ?_) rfl rfl (by kernel_rfl) (by kernel_rfl) (by kernel_rfl) (fun _ _ _ h => h) (Or.inl ⟨by rfl, ?_⟩) hS ?_
        rotate_left 1
        focus (intro w hSw; (try dsimp only at hSw); go_simp; (try with_reducible rfl); done)
        try simp only [Act.put, List.setIfInBounds_toArray, List.set_cons_zero, List.set_cons_succ]
        refine takeD 30 2 (v := ?_) rfl rfl (by kernel_rfl) (by kernel_rfl) (by kernel_rfl) (fun _ _ _ h => h) (Or.inl ⟨by rfl, ?_⟩) hS ?_
        rotate_left 1
        focus (intro w hSw; (try dsimp only at hSw); go_simp; (try with_reducible rfl); done)
        try simp only [Act.put, List.setIfInBounds_toArray, List.set_cons_zero, List.set_cons_succ]
        refine wpAnyH_done (by kernel_rfl) ?_ _
        go_wp2
        go_ret
        exact ⟨congrArg (fun z => Ending.returned (.string z)) HBT.out, HB0.out.trans (Fr.f_below (by assumption) |>.mono HB0.out.size)⟩
    · rw [if_pos (by rfl)]
      go_simp
      refine hK.out _ _ (HG.out _ (by repeat (first | exact Fr.refl _ _ | assumption | apply Fr.drew | apply Fr.alloc))) (fun hS2 => ?_)
      clear hK K hS
      have hS := hS2
      clear hS2
      try simp only [Act.put, List.setIfInBounds_toArray, List.set_cons_zero, List.set_cons_succ]
      refine wpAnyH_ready (rs := [6]) (by kernel_rfl) (by simp) ?_
      refine AllReadyH.cons rfl (fun K hK => ?_) AllReadyH.nil
      rw [if_pos (by rfl)]
      go_simp
      (go_at_call 32; (first | with_reducible refine (H0.out _).mono ?_ | with_reducible refine (H1.out _).mono ?_ | with_reducible refine (H2.out _).mono ?_ | with_reducible refine (H3.out _).mono ?_); rintro e Wn ⟨rfl, hbn⟩; have hfn := Fr.below_ (S := fun _ => False) (w := w0) (by repeat (first | exact Fr.refl _ _ | assumption | apply Fr.drew | apply Fr.alloc)) hbn); go_simp
      refine hK.out _ _ (HG.out _ (by repeat (first | exact Fr.refl _ _ | assumption | apply Fr.drew | apply Fr.alloc))) (fun hS2 => ?_)
      clear hK K hS
      have hS := hS2
      clear hS2
      try simp only [Act.put, List.setIfInBounds_toArray, List.set_cons_zero, List.set_cons_succ]
      refine takeD 7 10 (v := ?_) rfl rfl (by kernel_rfl) (by kernel_rfl) (by kernel_rfl) (fun _ _ _ h => h) (Or.inl ⟨by rfl, ?_⟩) hS ?_
      rotate_left 1
      focus (intro w hSw; (try dsimp only at hSw); go_simp; (try with_reducible rfl); done)
      try simp only [Act.put, List.setIfInBounds_toArray, List.set_cons_zero, List.set_cons_succ]
      refine takeD 8 11 (v := ?_) rfl rfl (by kernel_rfl) (by kernel_rfl) (by kernel_rfl) (fun _ _ _ h => h) (Or.inl ⟨by rfl, ?_⟩) hS ?_
      rotate_left 1
      focus (intro w hSw; (try dsimp only at hSw); go_simp; (try with_reducible rfl); done)
      try simp only [Act.put, List.setIfInBounds_toArray, List.set_cons_zero, List.set_cons_succ]
      refine wpAnyH_ready (rs := [11]) (by kernel_rfl) (by simp) ?_
      refine AllReadyH.cons rfl (fun K hK => ?_) AllReadyH.nil
      rw [if_pos (by rfl)]
      go_simp
      (go_at_call 32; (first | with_reducible refine (H0.out _).mono ?_ | with_reducible refine (H1.out _).mono ?_ | with_reducible refine (H2.out _).mono ?_ | with_reducible refine (H3.out _).mono ?_); rintro e Wn ⟨rfl, hbn⟩; have hfn := Fr.below_ (S := fun _ => False) (w := w0) (by repeat (first | exact Fr.refl _ _ | assumption | apply Fr.drew | apply Fr.alloc)) hbn); go_simp
      refine hK.out _ _ (HG.out _ (by repeat (first | exact Fr.refl _ _ | assumption | apply Fr.drew | apply Fr.alloc))) (fun hS2 => ?_)
      clear hK K hS
      have hS := hS2
      clear hS2
      try simp only [Act.put, List.setIfInBounds_toArray, List.set_cons_zero, List.set_cons_succ]
      refine takeD 12 15 (v := ?_) rfl rfl (by kernel_rfl) (by kernel_rfl) (by kernel_rfl) (fun _ _ _ h => h) (Or.inl ⟨by rfl, ?_⟩) hS ?_
      rotate_left 1
      focus (intro w hSw; (try dsimp only at hSw); go_simp; (try with_reducible rfl); done)
      try simp only [Act.put, List.setIfInBounds_toArray, List.set_cons_zero, List.set_cons_succ]
      refine takeD 13 16 (v := ?_) rfl rfl (by kernel_rfl) (by kernel_rfl) (by kernel_rfl) (fun _ _ _ h => h) (Or.inl ⟨by rfl, ?_⟩) hS ?_
      rotate_left 1
      focus (intro w hSw; (try dsimp only at hSw); go_simp; (try with_reducible rfl); done)
      try simp only [Act.put, List.setIfInBounds_toArray, List.set_cons_zero, List.set_cons_succ]
      refine wpAnyH_ready (rs := [16]) (by kernel_rfl) (by simp) ?_
      refine AllReadyH.cons rfl (fun K hK => ?_) AllReadyH.nil
      rw [if_pos (by rfl)]
      go_simp
      (go_at_call 32; (first | with_reducible refine (H0.out _).mono ?_ | with_reducible refine (H1.out _).mono ?_ | with_reducible refine (H2.out _).mono ?_ | with_reducible refine (H3.out _).mono ?_); rintro e Wn ⟨rfl, hbn⟩; have hfn := Fr.below_ (S := fun _ => False) (w := w0) (by repeat (first | exact Fr.refl _ _ | assumption | apply Fr.drew | apply Fr.alloc)) hbn); go_simp
      refine hK.out _ _ (HG.out _ (by repeat (first | exact Fr.refl _ _ | assumption | apply Fr.drew | apply Fr.alloc))) (fun hS2 => ?_)
      clear hK K hS
      have hS := hS2
      clear hS2
      try simp only [Act.put, List.setIfInBounds_toArray, List.set_cons_zero, List.set_cons_succ]
      refine takeD 17 20 (v := ?_) rfl rfl (by kernel_rfl) (by kernel_rfl) (by kernel_rfl) (fun _ _ _ h => h) (Or.inl ⟨by rfl, ?_⟩) hS ?_
      rotate_left 1
      focus (intro w hSw; (try dsimp only at hSw); go_simp; (try with_reducible rfl); done)
      try simp only [Act.put, List.setIfInBounds_toArray, List.set_cons_zero, List.set_cons_succ]
      refine takeD 18 21 (v := ?_) rfl rfl (by kernel_rfl) (by kernel_rfl) (by kernel_rfl) (fun _ _ _ h => h) (Or.inl ⟨by rfl, ?_⟩) hS ?_
      rotate_left 1
      focus (intro w hSw; (try dsimp only at hSw); go_simp; (try with_reducible rfl); done)
      try simp only [Act.put, List.setIfInBounds_toArray, List.set_cons_zero, List.set_cons_succ]
      refine wpAnyH_ready (rs := [22]) (by kernel_rfl) (by simp) ?_
      refine AllReadyH.cons rfl (fun K hK => ?_) AllReadyH.nil
      rw [if_pos (by rfl)]
      go_simp
      (first | (go_at_call 16; with_reducible refine (HPD.out _ (HCF.out _ (by repeat (first | exact Fr.refl _ _ | assumption | apply Fr.drew | apply Fr.alloc)))).mono ?_; rintro e Wn ⟨rfl, hbn⟩; have hfn := Fr.below_ (S := fun _ => False) (w := w0) (by repeat (first | exact Fr.refl _ _ | assumption | apply Fr.drew | apply Fr.alloc)) hbn) | (go_at_call 16; with_reducible refine (HPI.out _ _ _ (by repeat (first | exact (HCC.out _).2 | exact HCD.out | refine Kd.C_below ?_ (by assumption))) (HCC.out _).1).mono ?_; rintro e Wn ⟨rfl, hbn⟩; have hfn := Fr.below_ (S := fun _ => False) (w := w0) (by repeat (first | exact Fr.refl _ _ | assumption | apply Fr.drew | apply Fr.alloc)) hbn)); go_simp
      refine hK.out _ _ (HG.out _ (by repeat (first | exact Fr.refl _ _ | assumption | apply Fr.drew | apply Fr.alloc))) (fun hS2 => ?_)
      clear hK K hS
      have hS := hS2
      clear hS2
      try simp only [Act.put, List.setIfInBounds_toArray, List.set_cons_zero, List.set_cons_succ]
      refine takeD 23 26 (v := ?_) rfl rfl (by kernel_rfl) (by kernel_rfl) (by kernel_rfl) (fun _ _ _ h => h) (Or.inl ⟨by rfl, ?_⟩) hS ?_
      rotate_left 1
      focus (intro w hSw; (try dsimp only at hSw); go_simp; (try with_reducible rfl); done)
      try simp only [Act.put, List.setIfInBounds_toArray, List.set_cons_zero, List.set_cons_succ]
      refine takeD 24 27 (v := ?_) rfl rfl (by kernel_rfl) (by kernel_rfl) (by kernel_rfl) (fun _ _ _ h => h) (Or.inl ⟨by rfl, ?_⟩) hS ?_
      rotate_left 1
      focus (intro w hSw; (try dsimp only at hSw); go_simp; (try with_reducible rfl); done)
      try simp only [Act.put, List.setIfInBounds_toArray, List.set_cons_zero, List.set_cons_succ]
      refine wpAnyH_ready (rs := [27]) (by kernel_rfl) (by simp) ?_
      refine AllReadyH.cons rfl (fun K hK => ?_) AllReadyH.nil
      rw [if_pos (by rfl)]
      go_simp
      (first | (go_at_call 16; with_reducible refine (HPD.out _ (HCF.out _ (by repeat (first | exact Fr.refl _ _ | assumption | apply Fr.drew | apply Fr.alloc)))).mono ?_; rintro e Wn ⟨rfl, hbn⟩; have hfn := Fr.below_ (S := fun _ => False) (w := w0) (by repeat (first | exact Fr.refl _ _ | assumption | apply Fr.drew | apply Fr.alloc)) hbn) | (go_at_call 16; with_reducible refine (HPI.out _ _ _ (by repeat (first | exact (HCC.out _).2 | exact HCD.out | refine Kd.C_below ?_ (by assumption))) (HCC.out _).1).mono ?_; rintro e Wn ⟨rfl, hbn⟩; have hfn := Fr.below_ (S := fun _ => False) (w := w0) (by repeat (first | exact Fr.refl _ _ | assumption | apply Fr.drew | apply Fr.alloc)) hbn)); go_simp
      refine hK.out _ _ (HG.out _ (by repeat (first | exact Fr.refl _ _ | assumption | apply Fr.drew | apply Fr.alloc))) (fun hS2 => ?_)
      clear hK K hS
      have hS := hS2
      clear hS2
      try simp only [Act.put, List.setIfInBounds_toArray, List.set_cons_zero, List.set_cons_succ]
      refine takeD 28 31 (v := ?_) rfl rfl (by kernel_rfl) (by kernel_rfl) (by kernel_rfl) (fun _ _ _ h => h) (Or.inl ⟨by rfl, ?_⟩) hS ?_
      rotate_left 1
      focus (intro w hSw; (try dsimp only at hSw); go_simp; (try with_reducible rfl); done)
      try simp only [Act.put, List.setIfInBounds_toArray, List.set_cons_zero, List.set_cons_succ]
      refine takeD 29 32 (v := ?_) rfl rfl (by kernel_rfl) (by kernel_rfl) (by kernel_rfl) (fun _ _ _ h => h) (Or.inl ⟨by rfl, ?_⟩) hS ?_
      rotate_left 1
      focus (intro w hSw; (try dsimp only at hSw); go_simp; (try with_reducible rfl); done)
      try simp only [Act.put, List.setIfInBounds_toArray, List.set_cons_zero, List.set_cons_succ]
      refine takeD 30 2 (v := ?_) rfl rfl (by kernel_rfl) (by kernel_rfl) (by kernel_rfl) (fun _ _ _ h => h) (Or.inl ⟨by rfl, ?_⟩) hS ?_
      rotate_left 1
      focus (intro w hSw; (try dsimp only at hSw); go_simp; (try with_reducible rfl); done)
      try simp only [Act.put, List.setIfInBounds_toArray, List.set_cons_zero, List.set_cons_succ]
      refine wpAnyH_done (by kernel_rfl) ?_ _
      go_wp2
      go_ret
      exact ⟨congrArg (fun z => Ending.returned (.string z)) HBT.out, HB0.out.trans (Fr.f_below (by assumption) |>.mono HB0.out.size)⟩
  · rw [if_pos (by rfl)]
    go_simp
    refine hK.out _ _ (HG.out _ (by repeat (first | exact Fr.refl _ _ | assumption | apply Fr.drew | apply Fr.alloc))) (fun hS2 => ?_)
    clear hK K hS
    have hS := hS2
    clear hS2
    try simp only [Act.put, List.setIfInBounds_toArray, List.set_cons_zero, List.set_cons_succ]
    refine wpAnyH_ready (rs := [2]) (by kernel_rfl) (by simp) ?_
    refine AllReadyH.cons rfl (fun K hK => ?_) AllReadyH.nil
    rw [if_pos (by rfl)]
    go_simp
    (go_at_call 32; (first | with_reducible refine (H0.out _).mono ?_ | with_reducible refine (H1.out _).mono ?_ | with_reducible refine (H2.out _).mono ?_ | with_reducible refine (H3.out _).mono ?_); rintro e Wn ⟨rfl, hbn⟩; have hfn := Fr.below_ (S := fun _ => False) (w := w0) (by repeat (first | exact Fr.refl _ _ | assumption | apply Fr.drew | apply Fr.alloc)) hbn); go_simp
    refine hK.out _ _ (HG.out _ (by repeat (first | exact Fr.refl _ _ | assumption | apply Fr.drew | apply Fr.alloc))) (fun hS2 => ?_)
    clear hK K hS
    have hS := hS2
    clear hS2
    try simp only [Act.put, List.setIfInBounds_toArray, List.set_cons_zero, List.set_cons_succ]
    refine takeD 3 6 (v := ?_) rfl rfl (by kernel_rfl) (by kernel_rfl) (by kernel_rfl) (fun _ _ _ h => h) (Or.inl ⟨by rfl, ?_⟩) hS ?_
    rotate_left 1
    focus (intro w hSw; (try dsimp only at hSw); go_simp; (try with_reducible rfl); done)
    try simp only [Act.put, List.setIfInBounds_toArray, List.set_cons_zero, List.set_cons_succ]
    refine wpAnyH_ready (rs := [6]) (by kernel_rfl) (by simp) ?_
    refine AllReadyH.cons rfl (fun K hK => ?_) AllReadyH.nil
    rw [if_pos (by rfl)]
    go_simp
    (go_at_call 32; (first | with_reducible refine (H0.out _).mono ?_ | with_reducible refine (H1.out _).mono ?_ | with_reducible refine (H2.out _).mono ?_ | with_reducible refine (H3.out _).mono ?_); rintro e Wn ⟨rfl, hbn⟩; have hfn := Fr.below_ (S := fun _ => False) (w := w0) (by repeat (first | exact Fr.refl _ _ | assumption | apply Fr.drew | apply Fr.alloc)) hbn); go_simp
    refine hK.out _ _ (HG.out _ (by repeat (first | exact Fr.refl _ _ | assumption | apply Fr.drew | apply Fr.alloc))) (fun hS2 => ?_)
    clear hK K hS
    have hS := hS2
    clear hS2
    try simp only [Act.put, List.setIfInBounds_toArray, List.set_cons_zero, List.set_cons_succ]
    refine takeD 7 10 (v := ?_) rfl rfl (by kernel_rfl) (by kernel_rfl) (by kernel_rfl) (fun _ _ _ h => h) (Or.inl ⟨by rfl, ?_⟩) hS ?_
    rotate_left 1
    focus (intro w hSw; (try dsimp only at hSw); go_simp; (try with_reducible rfl); done)
    try simp only [Act.put, List.setIfInBounds_toArray, List.set_cons_zero, List.set_cons_succ]
    refine takeD 8 11 (v := ?_) rfl rfl (by kernel_rfl) (by kernel_rfl) (by kernel_rfl) (fun _ _ _ h => h) (Or.inl ⟨by rfl, ?_⟩) hS ?_
    rotate_left 1
    focus (intro w hSw; (try dsimp only at hSw); go_simp; (try with_reducible rfl); done)
    try simp only [Act.put, List.setIfInBounds_toArray, List.set_cons_zero, List.set_cons_succ]
    refine wpAnyH_ready (rs := [11]) (by kernel_rfl) (by simp) ?_
    refine AllReadyH.cons rfl (fun K hK => ?_) AllReadyH.nil
    rw [if_pos (by rfl)]
    go_simp
    (go_at_call 32; (first | with_reducible refine (H0.out _).mono ?_ | with_reducible refine (H1.out _).mono ?_ | with_reducible refine (H2.out _).mono ?_ | with_reducible refine (H3.out _).mono ?_); rintro e Wn ⟨rfl, hbn⟩; have hfn := Fr.below_ (S := fun _ => False) (w := w0) (by repeat (first | exact Fr.refl _ _ | assumption | apply Fr.drew | apply Fr.alloc)) hbn); go_simp
    refine hK.out _ _ (HG.out _ (by repeat (first | exact Fr.refl _ _ | assumption | apply Fr.drew | apply Fr.alloc))) (fun hS2 => ?_)
    clear hK K hS
    have hS := hS2
    clear hS2
    try simp only [Act.put, List.setIfInBounds_toArray, List.set_cons_zero, List.set_cons_succ]
    refine takeD 12 15 (v := ?_) rfl rfl (by kernel_rfl) (by kernel_rfl) (by kernel_rfl) (fun _ _ _ h => h) (Or.inl ⟨by rfl, ?_⟩) hS ?_
    rotate_left 1
    focus (intro w hSw; (try dsimp only at hSw); go_simp; (try with_reducible rfl); done)
    try simp only [Act.put, List.setIfInBounds_toArray, List.set_cons_zero, List.set_cons_succ]
    refine takeD 13 16 (v := ?_) rfl rfl (by kernel_rfl) (by kernel_rfl) (by kernel_rfl) (fun _ _ _ h => h) (Or.inl ⟨by rfl, ?_⟩) hS ?_
    rotate_left 1
    focus (intro w hSw; (try dsimp only at hSw); go_simp; (try with_reducible rfl); done)
    try simp only [Act.put, List.setIfInBounds_toArray, List.set_cons_zero, List.set_cons_succ]
    refine wpAnyH_ready (rs := [16]) (by kernel_rfl) (by simp) ?_
    refine AllReadyH.cons rfl (fun K hK => ?_) AllReadyH.nil
    rw [if_pos (by rfl)]
    go_simp
    (go_at_call 32; (first | with_reducible refine (H0.out _).mono ?_ | with_reducible refine (H1.out _).mono ?_ | with_reducible refine (H2.out _).mono ?_ | with_reducible refine (H3.out _).mono ?_); rintro e Wn ⟨rfl, hbn⟩; have hfn := Fr.below_ (S := fun _ => False) (w := w0) (by repeat (first | exact Fr.refl _ _ | assumption | apply Fr.drew | apply Fr.alloc)) hbn); go_simp
    refine hK.out _ _ (HG.out _ (by repeat (first | exact Fr.refl _ _ | assumption | apply Fr.drew | apply Fr.alloc))) (fun hS2 => ?_)
    clear hK K hS
    have hS := hS2
    clear hS2
    try simp only [Act.put, List.setIfInBounds_toArray, List.set_cons_zero, List.set_cons_succ]
    refine takeD 17 20 (v := ?_) rfl rfl (by kernel_rfl) (by kernel_rfl) (by kernel_rfl) (fun _ _ _ h => h) (Or.inl ⟨by rfl, ?_⟩) hS ?_
    rotate_left 1
    focus (intro w hSw; (try dsimp only at hSw); go_simp; (try with_reducible rfl); done)
    try simp only [Act.put, List.setIfInBounds_toArray, List.set_cons_zero, List.set_cons_succ]
    refine takeD 18 21 (v := ?_) rfl rfl (by kernel_rfl) (by kernel_rfl) (by kernel_rfl) (fun _ _ _ h => h) (Or.inl ⟨by rfl, ?_⟩) hS ?_
    rotate_left 1
    focus (intro w hSw; (try dsimp only at hSw); go_simp; (try with_reducible rfl); done)
    try simp only [Act.put, List.setIfInBounds_toArray, List.set_cons_zero, List.set_cons_succ]
    refine wpAnyH_ready (rs := [22]) (by kernel_rfl) (by simp) ?_
    refine AllReadyH.cons rfl (fun K hK => ?_) AllReadyH.nil
    rw [if_pos (by rfl)]
    go_simp
    (first | (go_at_call 16; with_reducible refine (HPD.out _ (HCF.out _ (by repeat (first | exact Fr.refl _ _ | assumption | apply Fr.drew | apply Fr.alloc)))).mono ?_; rintro e Wn ⟨rfl, hbn⟩; have hfn := Fr.below_ (S := fun _ => False) (w := w0) (by repeat (first | exact Fr.refl _ _ | assumption | apply Fr.drew | apply Fr.alloc)) hbn) | (go_at_call 16; with_reducible refine (HPI.out _ _ _ (by repeat (first | exact (HCC.out _).2 | exact HCD.out | refine Kd.C_below ?_ (by assumption))) (HCC.out _).1).mono ?_; rintro e Wn ⟨rfl, hbn⟩; have hfn := Fr.below_ (S := fun _ => False) (w := w0) (by repeat (first | exact Fr.refl _ _ | assumption | apply Fr.drew | apply Fr.alloc)) hbn)); go_simp
    refine hK.out _ _ (HG.out _ (by repeat (first | exact Fr.refl _ _ | assumption | apply Fr.drew | apply Fr.alloc))) (fun hS2 => ?_)
    clear hK K hS
    have hS := hS2
    clear hS2
    try simp only [Act.put, List.setIfInBounds_toArray, List.set_cons_zero, List.set_cons_succ]
    refine takeD 23 26 (v := ?_) rfl rfl (by kernel_rfl) (by kernel_rfl) (by kernel_rfl) (fun _ _ _ h => h) (Or.inl ⟨by rfl, ?_⟩) hS ?_
    rotate_left 1
    focus (intro w hSw; (try dsimp only at hSw); go_simp; (try with_reducible rfl); done)
    try simp only [Act.put, List.setIfInBounds_toArray, List.set_cons_zero, List.set_cons_succ]
    refine takeD 24 27 (v := ?_) rfl rfl (by kernel_rfl) (by kernel_rfl) (by kernel_rfl) (fun _ _ _ h => h) (Or.inl ⟨by rfl, ?_⟩) hS ?_
    rotate_left 1
    focus (intro w hSw; (try dsimp only at hSw); go_simp; (try with_reducible rfl); done)
    try simp only [Act.put, List.setIfInBounds_toArray, List.set_cons_zero, List.set_cons_succ]
    refine wpAnyH_ready (rs := [27]) (by kernel_rfl) (by simp) ?_
    refine AllReadyH.cons rfl (fun K hK => ?_) AllReadyH.nil
    rw [if_pos (by rfl)]
    go_simp
    (first | (go_at_call 16; with_reducible refine (HPD.out _ (HCF.out _ (by repeat (first | exact Fr.refl _ _ | assumption | apply Fr.drew | apply Fr.alloc)))).mono ?_; rintro e Wn ⟨rfl, hbn⟩; have hfn := Fr.below_ (S := fun _ => False) (w := w0) (by repeat (first | exact Fr.refl _ _ | assumption | apply Fr.drew | apply Fr.alloc)) hbn) | (go_at_call 16; with_reducible refine (HPI.out _ _ _ (by repeat (first | exact (HCC.out _).2 | exact HCD.out | refine Kd.C_below ?_ (by assumption))) (HCC.out _).1).mono ?_; rintro e Wn ⟨rfl, hbn⟩; have hfn := Fr.below_ (S := fun _ => False) (w := w0) (by repeat (first | exact Fr.refl _ _ | assumption | apply Fr.drew | apply Fr.alloc)) hbn)); go_simp
    refine hK.out _ _ (HG.out _ (by repeat (first | exact Fr.refl _ _ | assumption | apply Fr.drew | apply Fr.alloc))) (fun hS2 => ?_)
    clear hK K hS
    have hS := hS2
    clear hS2
    try simp only [Act.put, List.setIfInBounds_toArray, List.set_cons_zero, List.set_cons_succ]
    refine takeD 28 31 (v := ?_) rfl rfl (by kernel_rfl) (by kernel_rfl) (by kernel_rfl) (fun _ _ _ h => h) (Or.inl ⟨by rfl, ?_⟩) hS ?_
    rotate_left 1
    focus (intro w hSw; (try dsimp only at hSw); go_simp; (try with_reducible rfl); done)
    try simp only [Act.put, List.setIfInBounds_toArray, List.set_cons_zero, List.set_cons_succ]
    refine takeD 29 32 (v := ?_) rfl rfl (by kernel_rfl) (by kernel_rfl) (by kernel_rfl) (fun _ _ _ h => h) (Or.inl ⟨by rfl, ?_⟩) hS ?_
    rotate_left 1
    focus (intro w hSw; (try dsimp only at hSw); go_simp; (try with_reducible rfl); done)
    try simp only [Act.put, List.setIfInBounds_toArray, List.set_cons_zero, List.set_cons_succ]
    refine takeD 30 2 (v := ?_) rfl rfl (by kernel_rfl) (by kernel_rfl) (by kernel_rfl) (fun _ _ _ h => h) (Or.inl ⟨by rfl, ?_⟩) hS ?_
    rotate_left 1
    focus (intro w hSw; (try dsimp only at hSw); go_simp; (try with_reducible rfl); done)
    try simp only [Act.put, List.setIfInBounds_toArray, List.set_cons_zero, List.set_cons_succ]
    refine wpAnyH_done (by kernel_rfl) ?_ _
    go_wp2
    go_ret
    exact ⟨congrArg (fun z => Ending.returned (.string z)) HBT.out, HB0.out.trans (Fr.f_below (by assumption) |>.mono HB0.out.size)⟩
end Go.Proofs.YtbkhoepoeaiccaaDoor

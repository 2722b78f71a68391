/- What the view's laws take, Vt44: VwCH, VwCI, VwCK. -/
import Derived.Test.YtpeiejkcoadhfaaVt24
import Derived.Test.YtpeiejkcoadhfaaVt25
import Derived.Test.YtpeiejkcoadhfaaVt32
import Derived.Test.YtpeiejkcoadhfaaVt41
import Derived.Test.YtpeiejkcoadhfaaVt42
set_option linter.all false
namespace Go.Proofs.Ytpeiejkcoadhfaa
open Go.RowKit Go.Shelf Go.Proofs.YtpeiejkcoadhfaaW.PrintWords Go.Proofs.YtpeiejkcoadhfaaW.PrintMore
open Go.BigFrame
attribute [local go_sem] Oper.semAt_some
section
variable (w Wp : World) (s g N T K : Nat) (E Rm : Int) (cols : Nat) (A : Option Addr) (ne cb b : Nat) (qss : List (List (List F))) (hT : w.heap[s]? = some (turnObj g N T K E Rm cols (.slice A ne cb))) (hB : ByJ Wp b (.slice A ne cb) qss) (hbp : Below Wp.heap.size Wp w) (D S : Option Addr) (nd cd ns cs : Nat)
include hT hB hbp
set_option maxRecDepth 100000 in
set_option maxHeartbeats 3200000 in
theorem change4 (e : Nat) (he : e < ne) (target : Int) :
    Calls Try.prog 113 #[.pointer (some ⟨s, 0, none⟩), .agg #[.int .i64 4, .int .i64 target, .slice D nd cd, .slice S ns cs], .int .i64 (e : Int)] w fun x w' => ∃ X cx Y, x = .returned (.tuple #[.slice X (qss.getD e []).length cx, .slice Y 1 1]) ∧ PLn w' X (qss.getD e []).length (qss.getD e []) (fun k => Wp.heap.size ≤ k) ∧ RF w' w.heap.size Y [1] ∧ Below w.heap.size w w' := by
  obtain ⟨V, hV, hzV, a0, hbV⟩ := heap1 w (.cells #[.int .i64 4, .int .i64 target, .slice D nd cd, .slice S ns cs] 90)
  have HV := Aside0.mk hV
  have HBV := Aside0.mk hbV
  have HBP := Aside0.mk hbp
  have HZV := Aside0.mk hzV
  have HT := Aside0.mk hT
  have HB := Aside0.mk hB
  obtain ⟨ad, X, cx, rfl, hx, hj⟩ := by_at hB e he
  have HJ := Aside0.mk hj
  obtain ⟨bx, hbx⟩ : ∃ bx, bx = w.heap.size := ⟨_, rfl⟩
  have HBX := Aside0.mk hbx
  obtain ⟨lx, hlx⟩ : ∃ lx, lx = (qss.getD e []).length := ⟨_, rfl⟩
  rw [← hlx] at hx HJ ⊢
  have HK : Aside0 (∀ W, Below V.heap.size V W → W.cell? ⟨s, 7, none⟩ = some (.slice (some ad) ne cb) ∧ W.cell? (ad.add e) = some (.slice X lx cx)) := ⟨fun W hW => by
    have h := blk_below (blk_below hT hbV) hW
    unfold turnObj at h
    exact ⟨cell_at h rfl, (Fr.of_below (hbV.trans (hW.mono hbV.size)) (fun _ => False)).cell ((Fr.of_below hbp (fun _ => False)).cell hx (fun h => h)) (fun h => h)⟩⟩
  have hu134 := Try.underlying134
  have hu90 := Try.underlying90
  have heI : (e : Int) < (ne : Int) := by omega
  clear hT hB hbp hj hzV a0 hbV hbx hlx hx hV
  have y := HK.out V (Below.refl _ _)
  rw [HV.out] at y
  obtain ⟨y1, y2⟩ := y
  go_enter Try.func113, Try.ntmps113
  go_wp2
  rw [← HV.out]
  go_ret2
  have hb1 : Below w.heap.size w (V.alloc (.cells #[.int .u8 1] 5)) := below_alloc HBV.out _
  refine ⟨X, cx, _, rfl, PLn_below (PL_PLn (pj_PL HJ.out)) (Fr.of_below (HBP.out.trans (hb1.mono HBP.out.size)) _), ?_, hb1⟩
  have h := RF_of_R (R_litF V w.heap.size (fun _ => True) [1] (by decide) (by rw [HZV.out]; omega) trivial)
  rw [HZV.out] at h
  exact h
set_option maxRecDepth 100000 in
set_option maxHeartbeats 3200000 in
theorem change3 (e : Nat) (he : e < ne) (target : Nat) (sn : List Int) (hS : Kd.C kz w S ns sn) (hns : ns ≤ 9223372036854775807) (hin : (target : Int) ∈ sn) :
    Calls Try.prog 113 #[.pointer (some ⟨s, 0, none⟩), .agg #[.int .i64 3, .int .i64 (target : Int), .slice D nd cd, .slice S ns cs], .int .i64 (e : Int)] w fun x w' => ∃ X cx Y, x = .returned (.tuple #[.slice X (qss.getD e []).length cx, .slice Y 2 2]) ∧ PLn w' X (qss.getD e []).length (qss.getD e []) (fun k => Wp.heap.size ≤ k) ∧ RF w' w.heap.size Y (lin (ptF target)) ∧ Below w.heap.size w w' := by
  obtain ⟨V, hV, hzV, a0, hbV⟩ := heap1 w (.cells #[.int .i64 3, .int .i64 (target : Int), .slice D nd cd, .slice S ns cs] 90)
  have HV := Aside0.mk hV
  have HBV := Aside0.mk hbV
  have HBP := Aside0.mk hbp
  have HZV := Aside0.mk hzV
  have hcon := Contains_any V S ns cs sn (target : Int) (Kd.C_below hS hbV) hns
  rw [decide_eq_true hin] at hcon
  have HCON := Aside0.mk hcon
  have HPT := Aside0.mk (fun W => Point_any W target)
  obtain ⟨pt, hpt⟩ : ∃ pt, pt = ptF target := ⟨_, rfl⟩
  rw [← hpt] at HPT ⊢
  obtain ⟨ad, X, cx, rfl, hx, hj⟩ := by_at hB e he
  have HJ := Aside0.mk hj
  obtain ⟨lx, hlx⟩ : ∃ lx, lx = (qss.getD e []).length := ⟨_, rfl⟩
  rw [← hlx] at hx HJ ⊢
  have HK : Aside0 (∀ W, Below V.heap.size V W → W.cell? ⟨s, 7, none⟩ = some (.slice (some ad) ne cb) ∧ W.cell? (ad.add e) = some (.slice X lx cx) ∧ W.cell? ⟨w.heap.size, 1, none⟩ = some (.int .i64 (target : Int)) ∧ W.cell? ⟨w.heap.size, 3, none⟩ = some (.slice S ns cs)) := ⟨fun W hW => by
    have h := blk_below (blk_below hT hbV) hW
    have h2 := blk_below a0 hW
    unfold turnObj at h
    exact ⟨cell_at h rfl, (Fr.of_below (hbV.trans (hW.mono hbV.size)) (fun _ => False)).cell ((Fr.of_below hbp (fun _ => False)).cell hx (fun h => h)) (fun h => h), cell_at h2 rfl, cell_at h2 rfl⟩⟩
  have hu134 := Try.underlying134
  have hu90 := Try.underlying90
  have heI : (e : Int) < (ne : Int) := by omega
  have y := HK.out V (Below.refl _ _)
  rw [HV.out] at y HCON
  obtain ⟨y1, y2, y3, y4⟩ := y
  clear hT hB hbp hj hzV a0 hbV hlx hx hV hcon hpt hS hin
  go_enter Try.func113, Try.ntmps113
  have HPD : Aside0 (∀ W W', Below V.heap.size V W → Drawn0 W W' → Below V.heap.size V W') := ⟨fun W W' h hd => by obtain ⟨k, rfl⟩ := hd; exact below_drawN h k⟩
  have HPD0 : Aside0 (∀ W', Drawn0 (w.alloc (.cells #[.int .i64 3, .int .i64 (target : Int), .slice D nd cd, .slice S ns cs] 90)) W' → Below V.heap.size V W') := ⟨fun W' hd => HPD.out V W' (Below.refl _ _) (by rw [HV.out]; exact hd)⟩
  go_wp2_with (go_at_call 114; with_reducible refine HCON.out.mono ?_; rintro x w1 ⟨rfl, hd1⟩; have HB1 := Aside0.mk (HPD0.out w1 hd1); obtain ⟨y1, y2, y3, y4⟩ := HK.out w1 HB1.out; clear hd1)
  have HB2 : Aside0 (Below V.heap.size V w1.drew) := ⟨HB1.out.drew⟩
  have k0 := Aside0.mk (HK.out _ HB2.out)
  clear y1 y2 y3 y4
  refine wp_region_held_drew (S := (fun W => W.cell? ⟨s, 7, none⟩ = some (.slice (some ad) ne cb) ∧ W.cell? (ad.add e) = some (.slice X lx cx) ∧ W.cell? ⟨w.heap.size, 1, none⟩ = some (.int .i64 (target : Int)) ∧ W.cell? ⟨w.heap.size, 3, none⟩ = some (.slice S ns cs))) (by kernel_rfl) (k0.out) (fun hS => ?_)
  refine takeD 0 45 (v := ?_) rfl rfl (by kernel_rfl) (by kernel_rfl) (by kernel_rfl) (fun _ _ _ h => h) (Or.inl ⟨by rfl, ?_⟩) hS ?_
  rotate_left 1
  focus (intro w hSw; (try dsimp only at hSw); go_simp; (try with_reducible rfl); done)
  try simp only [Act.put, List.setIfInBounds_toArray, List.set_cons_zero, List.set_cons_succ]
  refine takeD 1 46 (v := ?_) rfl rfl (by kernel_rfl) (by kernel_rfl) (by kernel_rfl) (fun _ _ _ h => h) (Or.inl ⟨by rfl, ?_⟩) hS ?_
  rotate_left 1
  focus (intro w hSw; (try dsimp only at hSw); go_simp; (try with_reducible rfl); done)
  try simp only [Act.put, List.setIfInBounds_toArray, List.set_cons_zero, List.set_cons_succ]
  refine takeD 2 47 (v := ?_) rfl rfl (by kernel_rfl) (by kernel_rfl) (by kernel_rfl) (fun _ _ _ h => h) (Or.inl ⟨by rfl, ?_⟩) hS ?_
  rotate_left 1
  focus (intro w hSw; (try dsimp only at hSw); go_simp; (try with_reducible rfl); done)
  try simp only [Act.put, List.setIfInBounds_toArray, List.set_cons_zero, List.set_cons_succ]
  refine takeD 3 48 (v := ?_) rfl rfl (by kernel_rfl) (by kernel_rfl) (by kernel_rfl) (fun _ _ _ h => h) (Or.inl ⟨by rfl, ?_⟩) hS ?_
  rotate_left 1
  focus (intro w hSw; (try dsimp only at hSw); go_simp; (try with_reducible rfl); done)
  try simp only [Act.put, List.setIfInBounds_toArray, List.set_cons_zero, List.set_cons_succ]
  refine takeD 4 49 (v := ?_) rfl rfl (by kernel_rfl) (by kernel_rfl) (by kernel_rfl) (fun _ _ _ h => h) (Or.inl ⟨by rfl, ?_⟩) hS ?_
  rotate_left 1
  focus (intro w hSw; (try dsimp only at hSw); go_simp; (try with_reducible rfl); done)
  try simp only [Act.put, List.setIfInBounds_toArray, List.set_cons_zero, List.set_cons_succ]
  refine takeD 5 50 (v := ?_) rfl rfl (by kernel_rfl) (by kernel_rfl) (by kernel_rfl) (fun _ _ _ h => h) (Or.inl ⟨by rfl, ?_⟩) hS ?_
  rotate_left 1
  focus (intro w hSw; (try dsimp only at hSw); go_simp; (try with_reducible rfl); done)
  try simp only [Act.put, List.setIfInBounds_toArray, List.set_cons_zero, List.set_cons_succ]
  refine takeD 6 51 (v := ?_) rfl rfl (by kernel_rfl) (by kernel_rfl) (by kernel_rfl) (fun _ _ _ h => h) (Or.inl ⟨by rfl, ?_⟩) hS ?_
  rotate_left 1
  focus (intro w hSw; (try dsimp only at hSw); go_simp; (try with_reducible rfl); done)
  try simp only [Act.put, List.setIfInBounds_toArray, List.set_cons_zero, List.set_cons_succ]
  refine takeD 7 52 (v := ?_) rfl rfl (by kernel_rfl) (by kernel_rfl) (by kernel_rfl) (fun _ _ _ h => h) (Or.inl ⟨by rfl, ?_⟩) hS ?_
  rotate_left 1
  focus (intro w hSw; (try dsimp only at hSw); go_simp; (try with_reducible rfl); done)
  try simp only [Act.put, List.setIfInBounds_toArray, List.set_cons_zero, List.set_cons_succ]
  refine takeD 8 53 (v := ?_) rfl rfl (by kernel_rfl) (by kernel_rfl) (by kernel_rfl) (fun _ _ _ h => h) (Or.inl ⟨by rfl, ?_⟩) hS ?_
  rotate_left 1
  focus (intro w hSw; (try dsimp only at hSw); go_simp; (try with_reducible rfl); done)
  try simp only [Act.put, List.setIfInBounds_toArray, List.set_cons_zero, List.set_cons_succ]
  refine wpAnyH_ready (rs := [9]) (by kernel_rfl) (by simp) ?_
  refine AllReadyH.cons rfl (fun K hK => ?_) AllReadyH.nil
  rw [if_pos (by rfl)]
  go_simp
  go_at_call 81; with_reducible refine (HPT.out _).mono ?_; rintro x w2 ⟨rfl, hd2⟩; have HB3 := Aside0.mk (HPD.out _ _ HB2.out hd2); have k3 := Aside0.mk (HK.out _ HB3.out); have k4 := Aside0.mk (HK.out _ (below_alloc HB3.out (.cells #[.int .u8 (pt.v : Int), .int .u8 1] 5))); clear hd2
  refine hK.out _ _ (by first | with_reducible exact k4.out | with_reducible exact k3.out) (fun hS2 => ?_)
  clear hK K hS
  have hS := hS2
  clear hS2
  try simp only [Act.put, List.setIfInBounds_toArray, List.set_cons_zero, List.set_cons_succ]
  refine takeD 11 6 (v := ?_) rfl rfl (by kernel_rfl) (by kernel_rfl) (by kernel_rfl) (fun _ _ _ h => h) (Or.inl ⟨by rfl, ?_⟩) hS ?_
  rotate_left 1
  focus (intro w hSw; (try dsimp only at hSw); go_simp; (try with_reducible rfl); done)
  try simp only [Act.put, List.setIfInBounds_toArray, List.set_cons_zero, List.set_cons_succ]
  refine wpAnyH_ready (rs := [10]) (by kernel_rfl) (by simp) ?_
  refine AllReadyH.cons rfl (fun K hK => ?_) AllReadyH.nil
  rw [if_pos (by rfl)]
  go_simp
  refine hK.out _ _ (by first | with_reducible exact k4.out | with_reducible exact k3.out) (fun hS2 => ?_)
  clear hK K hS
  have hS := hS2
  clear hS2
  try simp only [Act.put, List.setIfInBounds_toArray, List.set_cons_zero, List.set_cons_succ]
  refine takeD 12 7 (v := ?_) rfl rfl (by kernel_rfl) (by kernel_rfl) (by kernel_rfl) (fun _ _ _ h => h) (Or.inl ⟨by rfl, ?_⟩) hS ?_
  rotate_left 1
  focus (intro w hSw; (try dsimp only at hSw); go_simp; (try with_reducible rfl); done)
  try simp only [Act.put, List.setIfInBounds_toArray, List.set_cons_zero, List.set_cons_succ]
  refine wpAnyH_done (by kernel_rfl) ?_ _
  clear hS k0 k3 k4
  go_wp2
  go_ret2
  have hb2 := below_alloc HB3.out (.cells #[.int .u8 (pt.v : Int), .int .u8 1] 5)
  have hb1 := HBV.out.trans (hb2.mono HBV.out.size)
  refine ⟨X, cx, _, rfl, PLn_below (PL_PLn (pj_PL HJ.out)) (Fr.of_below (HBP.out.trans (hb1.mono HBP.out.size)) _), ?_, hb1⟩
  exact RF_of_R (R_litF w2 w.heap.size (fun _ => True) [pt, 1] (by simp) (Nat.le_trans HBV.out.size HB3.out.size) trivial)
set_option maxRecDepth 100000 in
set_option maxHeartbeats 3200000 in
theorem change2 (e : Nat) (he : e + 1 < ne) (hne : ne ≤ 1000000) (target : Int) (hF : Fld w g) (hN : N ≤ 255) (hK : K ≤ 255) (hcl : cols ≤ 256) (h1 : (qss.getD e []).length = cols) (h2 : (qss.getD (e + 1) []).length = cols) (hp : ∀ i, i < cols → ((qss.getD e []).getD i []).length ≤ 1000000) (hq : ∀ i, i < cols → ((qss.getD (e + 1) []).getD i []).length ≤ 1000000) :
    Calls Try.prog 113 #[.pointer (some ⟨s, 0, none⟩), .agg #[.int .i64 2, .int .i64 target, .slice D nd cd, .slice S ns cs], .int .i64 (e : Int)] w fun x w' => ∃ X cx Y, x = .returned (.tuple #[.slice X cols cx, .slice Y (K + 1) (K + 1)]) ∧ PLn w' X cols (sumTo (qss.getD e []) (qss.getD (e + 1) []) cols) (fun k => k < w.heap.size) ∧ RF w' w.heap.size Y (roots (secL N K)) ∧ Below w.heap.size w w' := by
  obtain ⟨V, hV, hzV, a0, hbV⟩ := heap1 w (.cells #[.int .i64 2, .int .i64 target, .slice D nd cd, .slice S ns cs] 90)
  have HV := Aside0.mk hV
  have HBV := Aside0.mk hbV
  have HBP := Aside0.mk hbp
  obtain ⟨ad, X1, c1, e1, hx1, hj1⟩ := by_at hB e (by omega)
  obtain ⟨ad2, X2, c2, e2, hx2, hj2⟩ := by_at hB (e + 1) he
  rw [e1] at e2
  injection e2 with e2
  subst e2
  subst e1
  rw [h1] at hx1 hj1
  rw [h2] at hx2 hj2
  have HSUM : Aside0 (∀ W, Below V.heap.size V W → Calls Try.prog 112 #[.slice X1 cols c1, .slice X2 cols c2] W fun x w' => ∃ D cd, x = .returned (.slice D cols cd) ∧ PolyJ w' W.heap.size (.slice D cols cd) (sumTo (qss.getD e []) (qss.getD (e + 1) []) cols) ∧ Below W.heap.size W w') := ⟨fun W hW => by
    have hb := hbV.trans (hW.mono hbV.size)
    exact vsum_any W X1 cols c1 _ X2 c2 _ (PL_below (pj_PL hj1) (hbp.trans (hb.mono hbp.size))) (PL_below (pj_PL hj2) (hbp.trans (hb.mono hbp.size))) (by omega) hp hq⟩
  obtain ⟨sl, hsl⟩ : ∃ sl, sl = secL N K := ⟨_, rfl⟩
  have HSEC := Aside0.mk (fun W => Secrets_any W N K (T : Int) E Rm (by omega) (by omega))
  rw [← hsl] at HSEC ⊢
  have HRT : Aside0 (∀ W (Y : Option Addr) d, Below V.heap.size V W → Kd.C fk W Y K sl → Calls Try.prog 83 #[.pointer (some ⟨g, 0, none⟩), .slice Y K d] W fun x w' => ∃ D, x = .returned (.slice D (K + 1) (K + 1)) ∧ RF w' W.heap.size D (roots sl) ∧ Fr (fun _ => False) W w') := ⟨fun W Y d hW hC => Roots_any W g Y K d sl (hF.fr (Fr.of_below (hbV.trans (hW.mono hbV.size)) (fun _ => False)) (fun h => h)) hC (by omega)⟩
  obtain ⟨sm, hsm⟩ : ∃ sm, sm = sumTo (qss.getD e []) (qss.getD (e + 1) []) cols := ⟨_, rfl⟩
  rw [← hsm] at HSUM ⊢
  obtain ⟨rt, hrt⟩ : ∃ rt, rt = roots sl := ⟨_, rfl⟩
  rw [← hrt] at HRT ⊢
  obtain ⟨f, hf⟩ : ∃ f, f = e + 1 := ⟨_, rfl⟩
  rw [← hf] at hx2
  have HK : Aside0 (∀ W, Below V.heap.size V W → W.cell? ⟨s, 7, none⟩ = some (.slice (some ad) ne cb) ∧ W.cell? (ad.add e) = some (.slice X1 cols c1) ∧ W.cell? (ad.add f) = some (.slice X2 cols c2) ∧ W.cell? ⟨s, 0, none⟩ = some (.pointer (some ⟨g, 0, none⟩)) ∧ W.cell? ⟨s, 1, none⟩ = some (.int .i64 N) ∧ W.cell? ⟨s, 2, none⟩ = some (.int .i64 T) ∧ W.cell? ⟨s, 3, none⟩ = some (.int .i64 K) ∧ W.cell? ⟨s, 4, none⟩ = some (.int .i64 E) ∧ W.cell? ⟨s, 5, none⟩ = some (.int .i64 Rm)) := ⟨fun W hW => by
    have h := blk_below (blk_below hT hbV) hW
    have hf := Fr.of_below (hbV.trans (hW.mono hbV.size)) (fun _ => False)
    unfold turnObj at h
    exact ⟨cell_at h rfl, hf.cell ((Fr.of_below hbp (fun _ => False)).cell hx1 (fun h => h)) (fun h => h), hf.cell ((Fr.of_below hbp (fun _ => False)).cell hx2 (fun h => h)) (fun h => h), cell_at h rfl, cell_at h rfl, cell_at h rfl, cell_at h rfl, cell_at h rfl, cell_at h rfl⟩⟩
  have HBT : Aside0 (∀ W W', Below V.heap.size V W → Below W.heap.size W W' → Below V.heap.size V W') := ⟨fun W W' h h' => h.trans (h'.mono h.size)⟩
  have hu134 := Try.underlying134
  have hu90 := Try.underlying90
  have heI : (e : Int) < (ne : Int) := by omega
  have heI2 : (e : Int) + 1 < (ne : Int) := by omega
  have heI3 : (0 : Int) ≤ (e : Int) + 1 := by omega
  have heI4 : ((e : Int) + 1).toNat = f := by omega
  have hw1 : IntKind.i64.wrap ((e : Int) + 1) = (e : Int) + 1 := IntWalk.i64_in _ ⟨by omega, by omega⟩
  unfold parV at HSEC
  clear hT hB hbp hj1 hj2 hzV a0 hbV hx1 hx2 hV hF hp hq h1 h2 hsl hsm hrt hf
  go_enter Try.func113, Try.ntmps113
  go_wp2
  rw [← HV.out]
  have HB0 : Aside0 (Below V.heap.size V V.drew) := ⟨(Below.refl _ _).drew⟩
  have k0 := Aside0.mk (HK.out _ HB0.out)
  refine wp_region_held_drew (S := (fun W => W.cell? ⟨s, 7, none⟩ = some (.slice (some ad) ne cb) ∧ W.cell? (ad.add e) = some (.slice X1 cols c1) ∧ W.cell? (ad.add f) = some (.slice X2 cols c2) ∧ W.cell? ⟨s, 0, none⟩ = some (.pointer (some ⟨g, 0, none⟩)) ∧ W.cell? ⟨s, 1, none⟩ = some (.int .i64 N) ∧ W.cell? ⟨s, 2, none⟩ = some (.int .i64 T) ∧ W.cell? ⟨s, 3, none⟩ = some (.int .i64 K) ∧ W.cell? ⟨s, 4, none⟩ = some (.int .i64 E) ∧ W.cell? ⟨s, 5, none⟩ = some (.int .i64 Rm))) (by kernel_rfl) (k0.out) (fun hS => ?_)
  refine takeD 0 12 (v := ?_) rfl rfl (by kernel_rfl) (by kernel_rfl) (by kernel_rfl) (fun _ _ _ h => h) (Or.inl ⟨by rfl, ?_⟩) hS ?_
  rotate_left 1
  focus (intro w hSw; (try dsimp only at hSw); go_simp; (try with_reducible rfl); done)
  try simp only [Act.put, List.setIfInBounds_toArray, List.set_cons_zero, List.set_cons_succ]
  refine takeD 1 13 (v := ?_) rfl rfl (by kernel_rfl) (by kernel_rfl) (by kernel_rfl) (fun _ _ _ h => h) (Or.inl ⟨by rfl, ?_⟩) hS ?_
  rotate_left 1
  focus (intro w hSw; (try dsimp only at hSw); go_simp; (try with_reducible rfl); done)
  try simp only [Act.put, List.setIfInBounds_toArray, List.set_cons_zero, List.set_cons_succ]
  refine takeD 2 14 (v := ?_) rfl rfl (by kernel_rfl) (by kernel_rfl) (by kernel_rfl) (fun _ _ _ h => h) (Or.inl ⟨by rfl, ?_⟩) hS ?_
  rotate_left 1
  focus (intro w hSw; (try dsimp only at hSw); go_simp; (try with_reducible rfl); done)
  try simp only [Act.put, List.setIfInBounds_toArray, List.set_cons_zero, List.set_cons_succ]
  refine takeD 3 15 (v := ?_) rfl rfl (by kernel_rfl) (by kernel_rfl) (by kernel_rfl) (fun _ _ _ h => h) (Or.inl ⟨by rfl, ?_⟩) hS ?_
  rotate_left 1
  focus (intro w hSw; (try dsimp only at hSw); go_simp; (try with_reducible rfl); done)
  try simp only [Act.put, List.setIfInBounds_toArray, List.set_cons_zero, List.set_cons_succ]
  refine takeD 4 16 (v := ?_) rfl rfl (by kernel_rfl) (by kernel_rfl) (by kernel_rfl) (fun _ _ _ h => h) (Or.inl ⟨by rfl, ?_⟩) hS ?_
  rotate_left 1
  focus (intro w hSw; (try dsimp only at hSw); go_simp; (try with_reducible rfl); done)
  try simp only [Act.put, List.setIfInBounds_toArray, List.set_cons_zero, List.set_cons_succ]
  refine takeD 5 17 (v := ?_) rfl rfl (by kernel_rfl) (by kernel_rfl) (by kernel_rfl) (fun _ _ _ h => h) (Or.inl ⟨by rfl, ?_⟩) hS ?_
  rotate_left 1
  focus (intro w hSw; (try dsimp only at hSw); go_simp; (try with_reducible rfl); done)
  try simp only [Act.put, List.setIfInBounds_toArray, List.set_cons_zero, List.set_cons_succ]
  refine takeD 6 18 (v := ?_) rfl rfl (by kernel_rfl) (by kernel_rfl) (by kernel_rfl) (fun _ _ _ h => h) (Or.inl ⟨by rfl, ?_⟩) hS ?_
  rotate_left 1
  focus (intro w hSw; (try dsimp only at hSw); go_simp; (try with_reducible rfl); done)
  try simp only [Act.put, List.setIfInBounds_toArray, List.set_cons_zero, List.set_cons_succ]
  refine takeD 7 19 (v := ?_) rfl rfl (by kernel_rfl) (by kernel_rfl) (by kernel_rfl) (fun _ _ _ h => h) (Or.inl ⟨by rfl, ?_⟩) hS ?_
  rotate_left 1
  focus (intro w hSw; (try dsimp only at hSw); go_simp; (try with_reducible rfl); done)
  try simp only [Act.put, List.setIfInBounds_toArray, List.set_cons_zero, List.set_cons_succ]
  refine takeD 8 20 (v := ?_) rfl rfl (by kernel_rfl) (by kernel_rfl) (by kernel_rfl) (fun _ _ _ h => h) (Or.inl ⟨by rfl, ?_⟩) hS ?_
  rotate_left 1
  focus (intro w hSw; (try dsimp only at hSw); go_simp; (try with_reducible rfl); done)
  try simp only [Act.put, List.setIfInBounds_toArray, List.set_cons_zero, List.set_cons_succ]
  refine takeD 9 21 (v := ?_) rfl rfl (by kernel_rfl) (by kernel_rfl) (by kernel_rfl) (fun _ _ _ h => h) (Or.inl ⟨by rfl, ?_⟩) hS ?_
  rotate_left 1
  focus (intro w hSw; (try dsimp only at hSw); go_simp; (try with_reducible rfl); done)
  try simp only [Act.put, List.setIfInBounds_toArray, List.set_cons_zero, List.set_cons_succ]
  refine takeD 10 22 (v := ?_) rfl rfl (by kernel_rfl) (by kernel_rfl) (by kernel_rfl) (fun _ _ _ h => h) (Or.inl ⟨by rfl, ?_⟩) hS ?_
  rotate_left 1
  focus (intro w hSw; (try dsimp only at hSw); go_simp; (try with_reducible rfl); done)
  try simp only [Act.put, List.setIfInBounds_toArray, List.set_cons_zero, List.set_cons_succ]
  refine takeD 11 23 (v := ?_) rfl rfl (by kernel_rfl) (by kernel_rfl) (by kernel_rfl) (fun _ _ _ h => h) (Or.inl ⟨by rfl, ?_⟩) hS ?_
  rotate_left 1
  focus (intro w hSw; (try dsimp only at hSw); go_simp; (try with_reducible rfl); done)
  try simp only [Act.put, List.setIfInBounds_toArray, List.set_cons_zero, List.set_cons_succ]
  refine takeD 12 24 (v := ?_) rfl rfl (by kernel_rfl) (by kernel_rfl) (by kernel_rfl) (fun _ _ _ h => h) (Or.inl ⟨by rfl, ?_⟩) hS ?_
  rotate_left 1
  focus (intro w hSw; (try dsimp only at hSw); go_simp; (try with_reducible rfl); done)
  try simp only [Act.put, List.setIfInBounds_toArray, List.set_cons_zero, List.set_cons_succ]
  refine takeD 13 25 (v := ?_) rfl rfl (by kernel_rfl) (by kernel_rfl) (by kernel_rfl) (fun _ _ _ h => h) (Or.inl ⟨by rfl, ?_⟩) hS ?_
  rotate_left 1
  focus (intro w hSw; (try dsimp only at hSw); go_simp; (try with_reducible rfl); done)
  try simp only [Act.put, List.setIfInBounds_toArray, List.set_cons_zero, List.set_cons_succ]
  refine takeD 14 26 (v := ?_) rfl rfl (by kernel_rfl) (by kernel_rfl) (by kernel_rfl) (fun _ _ _ h => h) (Or.inl ⟨by rfl, ?_⟩) hS ?_
  rotate_left 1
  focus (intro w hSw; (try dsimp only at hSw); go_simp; (try with_reducible rfl); done)
  try simp only [Act.put, List.setIfInBounds_toArray, List.set_cons_zero, List.set_cons_succ]
  refine takeD 16 28 (v := ?_) rfl rfl (by kernel_rfl) (by kernel_rfl) (by kernel_rfl) (fun _ _ _ h => h) (Or.inl ⟨by rfl, ?_⟩) hS ?_
  rotate_left 1
  focus (intro w hSw; (try dsimp only at hSw); go_simp; (try with_reducible rfl); done)
  try simp only [Act.put, List.setIfInBounds_toArray, List.set_cons_zero, List.set_cons_succ]
  refine takeD 17 29 (v := ?_) rfl rfl (by kernel_rfl) (by kernel_rfl) (by kernel_rfl) (fun _ _ _ h => h) (Or.inl ⟨by rfl, ?_⟩) hS ?_
  rotate_left 1
  focus (intro w hSw; (try dsimp only at hSw); go_simp; (try with_reducible rfl); done)
  try simp only [Act.put, List.setIfInBounds_toArray, List.set_cons_zero, List.set_cons_succ]
  refine takeD 18 30 (v := ?_) rfl rfl (by kernel_rfl) (by kernel_rfl) (by kernel_rfl) (fun _ _ _ h => h) (Or.inl ⟨by rfl, ?_⟩) hS ?_
  rotate_left 1
  focus (intro w hSw; (try dsimp only at hSw); go_simp; (try with_reducible rfl); done)
  try simp only [Act.put, List.setIfInBounds_toArray, List.set_cons_zero, List.set_cons_succ]
  refine takeD 19 31 (v := ?_) rfl rfl (by kernel_rfl) (by kernel_rfl) (by kernel_rfl) (fun _ _ _ h => h) (Or.inl ⟨by rfl, ?_⟩) hS ?_
  rotate_left 1
  focus (intro w hSw; (try dsimp only at hSw); go_simp; (try with_reducible rfl); done)
  try simp only [Act.put, List.setIfInBounds_toArray, List.set_cons_zero, List.set_cons_succ]
  refine takeD 20 32 (v := ?_) rfl rfl (by kernel_rfl) (by kernel_rfl) (by kernel_rfl) (fun _ _ _ h => h) (Or.inl ⟨by rfl, ?_⟩) hS ?_
  rotate_left 1
  focus (intro w hSw; (try dsimp only at hSw); go_simp; (try with_reducible rfl); done)
  try simp only [Act.put, List.setIfInBounds_toArray, List.set_cons_zero, List.set_cons_succ]
  refine takeD 21 33 (v := ?_) rfl rfl (by kernel_rfl) (by kernel_rfl) (by kernel_rfl) (fun _ _ _ h => h) (Or.inl ⟨by rfl, ?_⟩) hS ?_
  rotate_left 1
  focus (intro w hSw; (try dsimp only at hSw); go_simp; (try with_reducible rfl); done)
  try simp only [Act.put, List.setIfInBounds_toArray, List.set_cons_zero, List.set_cons_succ]
  refine takeD 22 34 (v := ?_) rfl rfl (by kernel_rfl) (by kernel_rfl) (by kernel_rfl) (fun _ _ _ h => h) (Or.inl ⟨by rfl, ?_⟩) hS ?_
  rotate_left 1
  focus (intro w hSw; (try dsimp only at hSw); go_simp; (try with_reducible rfl); done)
  try simp only [Act.put, List.setIfInBounds_toArray, List.set_cons_zero, List.set_cons_succ]
  refine takeD 23 35 (v := ?_) rfl rfl (by kernel_rfl) (by kernel_rfl) (by kernel_rfl) (fun _ _ _ h => h) (Or.inl ⟨by rfl, ?_⟩) hS ?_
  rotate_left 1
  focus (intro w hSw; (try dsimp only at hSw); go_simp; (try with_reducible rfl); done)
  try simp only [Act.put, List.setIfInBounds_toArray, List.set_cons_zero, List.set_cons_succ]
  refine wpAnyH_ready (rs := [15]) (by kernel_rfl) (by simp) ?_
  refine AllReadyH.cons rfl (fun K hK => ?_) AllReadyH.nil
  rw [if_pos (by rfl)]
  go_simp
  go_at_call 112; with_reducible refine (HSUM.out _ HB0.out).mono ?_; rintro x w1 ⟨X, cx, rfl, hJ, hb1⟩; have HJ := Aside0.mk hJ; have HB1 := Aside0.mk (HBT.out _ _ HB0.out hb1); have k1 := Aside0.mk (HK.out _ HB1.out); clear hJ hb1
  refine hK.out _ _ (by first | with_reducible exact k3.out | with_reducible exact k2.out | with_reducible exact k1.out) (fun hS2 => ?_)
  clear hK K hS
  have hS := hS2
  clear hS2
  try simp only [Act.put, List.setIfInBounds_toArray, List.set_cons_zero, List.set_cons_succ]
  refine wpAnyH_ready (rs := [24]) (by kernel_rfl) (by simp) ?_
  refine AllReadyH.cons rfl (fun K hK => ?_) AllReadyH.nil
  rw [if_pos (by rfl)]
  go_simp
  go_at_call 47; with_reducible refine (HSEC.out _).mono ?_; rintro x w2 ⟨Y, dy, rfl, hR, hb2⟩; have HR := Aside0.mk (R_C hR); have HB12 := Aside0.mk hb2; have HB2 := Aside0.mk (HBT.out _ _ HB1.out hb2); have k2 := Aside0.mk (HK.out _ HB2.out); clear hR hb2
  refine hK.out _ _ (by first | with_reducible exact k3.out | with_reducible exact k2.out | with_reducible exact k1.out) (fun hS2 => ?_)
  clear hK K hS
  have hS := hS2
  clear hS2
  try simp only [Act.put, List.setIfInBounds_toArray, List.set_cons_zero, List.set_cons_succ]
  refine wpAnyH_ready (rs := [25]) (by kernel_rfl) (by simp) ?_
  refine AllReadyH.cons rfl (fun K hK => ?_) AllReadyH.nil
  rw [if_pos (by rfl)]
  go_simp
  go_at_call 83; with_reducible refine (HRT.out _ _ _ HB2.out HR.out).mono ?_; rintro x w3 ⟨Z, rfl, hZ, hf3⟩; have HZ := Aside0.mk hZ; have HB23 := Aside0.mk hf3.f_below; have HB3 := Aside0.mk (HBT.out _ _ HB2.out hf3.f_below); have k3 := Aside0.mk (HK.out _ HB3.out); clear hZ hf3
  refine hK.out _ _ (by first | with_reducible exact k3.out | with_reducible exact k2.out | with_reducible exact k1.out) (fun hS2 => ?_)
  clear hK K hS
  have hS := hS2
  clear hS2
  try simp only [Act.put, List.setIfInBounds_toArray, List.set_cons_zero, List.set_cons_succ]
  refine takeD 26 6 (v := ?_) rfl rfl (by kernel_rfl) (by kernel_rfl) (by kernel_rfl) (fun _ _ _ h => h) (Or.inl ⟨by rfl, ?_⟩) hS ?_
  rotate_left 1
  focus (intro w hSw; (try dsimp only at hSw); go_simp; (try with_reducible rfl); done)
  try simp only [Act.put, List.setIfInBounds_toArray, List.set_cons_zero, List.set_cons_succ]
  refine takeD 27 7 (v := ?_) rfl rfl (by kernel_rfl) (by kernel_rfl) (by kernel_rfl) (fun _ _ _ h => h) (Or.inl ⟨by rfl, ?_⟩) hS ?_
  rotate_left 1
  focus (intro w hSw; (try dsimp only at hSw); go_simp; (try with_reducible rfl); done)
  try simp only [Act.put, List.setIfInBounds_toArray, List.set_cons_zero, List.set_cons_succ]
  refine wpAnyH_done (by kernel_rfl) ?_ _
  clear hS k0 k1 k2 k3
  go_wp2
  go_ret2
  exact ⟨X, cx, Z, rfl, PLn_mono (PLn_below (PLn_below (pj_PLn HJ.out) (Fr.of_below HB12.out _)) (Fr.of_below HB23.out _)) (fun k _ hk => Nat.lt_of_lt_of_le hk HBV.out.size), RF_lower HZ.out (Nat.le_trans HBV.out.size HB2.out.size), HBV.out.trans (HB3.out.mono HBV.out.size)⟩
set_option maxRecDepth 100000 in
set_option maxHeartbeats 3200000 in
theorem change3n (e : Nat) (target : Nat) (sn : List Int) (hS : Kd.C kz w S ns sn) (hns : ns ≤ 9223372036854775807) (hin : (target : Int) ∉ sn) :
    Calls Try.prog 113 #[.pointer (some ⟨s, 0, none⟩), .agg #[.int .i64 3, .int .i64 (target : Int), .slice D nd cd, .slice S ns cs], .int .i64 (e : Int)] w fun x w' => x = .returned (.tuple #[.slice none 0 0, .slice none 0 0]) ∧ Below w.heap.size w w' := by
  obtain ⟨V, hV, hzV, a0, hbV⟩ := heap1 w (.cells #[.int .i64 3, .int .i64 (target : Int), .slice D nd cd, .slice S ns cs] 90)
  have HV := Aside0.mk hV
  have HBV := Aside0.mk hbV
  have HBP := Aside0.mk hbp
  have hcon := Contains_any V S ns cs sn (target : Int) (Kd.C_below hS hbV) hns
  rw [decide_eq_false hin] at hcon
  have HCON := Aside0.mk hcon
  have hu134 := Try.underlying134
  have hu90 := Try.underlying90
  have HPD0 : Aside0 (∀ W', Drawn0 (w.alloc (.cells #[.int .i64 3, .int .i64 (target : Int), .slice D nd cd, .slice S ns cs] 90)) W' → Below w.heap.size w W') := ⟨fun W' hd => by
    obtain ⟨k, rfl⟩ := hd
    rw [← hV]
    exact below_drawN hbV k⟩
  rw [HV.out] at HCON
  clear hT hB hbp hzV a0 hbV hV hcon hS hin
  go_enter Try.func113, Try.ntmps113
  go_wp2_with (go_at_call 114; with_reducible refine HCON.out.mono ?_; rintro x w1 ⟨rfl, hd1⟩; have HB1 := Aside0.mk (HPD0.out w1 hd1); clear hd1)
  go_ret2
  exact ⟨rfl, HB1.out⟩
set_option maxRecDepth 100000 in
set_option maxHeartbeats 3200000 in
theorem change0 (e : Nat) (target : Int) :
    Calls Try.prog 113 #[.pointer (some ⟨s, 0, none⟩), .agg #[.int .i64 0, .int .i64 target, .slice D nd cd, .slice S ns cs], .int .i64 (e : Int)] w fun x w' => x = .returned (.tuple #[.slice none 0 0, .slice none 0 0]) ∧ Below w.heap.size w w' := by
  have hu134 := Try.underlying134
  have hu90 := Try.underlying90
  clear hT hB hbp
  go_enter Try.func113, Try.ntmps113
  go_wp2
  go_ret2
  exact ⟨rfl, below_alloc (Below.refl _ _) _⟩
end
end Go.Proofs.Ytpeiejkcoadhfaa
namespace Go.Proofs.Ytpeiejkcoadhfaa
open Go.RowKit Go.Shelf Go.Proofs.YtpeiejkcoadhfaaW.PrintWords Go.Proofs.YtpeiejkcoadhfaaW.PrintMore
open Go.BigFrame
theorem col_at {W : World} {B : Option Addr} {nc K : Nat} {data : List F} (h : Kd.C u8s W B nc (splitL (bs data) K)) (hnc : nc = ncol data.length K) (j : Nat) (hj : j < nc) : ∃ ad A0 c0, B = some ad ∧ W.cell? (ad.add j) = some (.slice A0 K c0) ∧ K ≤ c0 ∧ Kd.C fk W A0 K (colF data K j) := by
  obtain ⟨ad, A0, c0, e, h1, h2, h3⟩ := row_at h j hj
  have hrow : (splitL (bs data) K).getD j [] = bs (colF data K j) := by
    rw [List.getD_eq_getElem?_getD, splitL_get _ _ _ (by rw [bs_length, ← hnc]; exact hj)]
    exact colF_bs data K j
  rw [hrow, bs_length, colF_length] at h1 h2 h3
  exact ⟨ad, A0, c0, e, h1, h2, C_bs.1 h3⟩
theorem seen_keep {w wr : World} {b s : Nat} {v : Value} {bl : List Nat} {E : List (List Int)} (h : SeenI w b v bl E) (hf : Fr (fun k => k = s) w wr) (hs : s < b) : SeenI wr b v bl E := by
  obtain ⟨h1, h2, h3, h4⟩ := h
  refine ⟨R_fr h1 hf (fun k _ hk _ e => by omega), h2, fun j hj => ⟨(h3 j hj).1, map_fr (h3 j hj).2 hf (fun e => ?_)⟩, h4⟩
  have := (h3 j hj).1
  omega
def cnt2 : List Ri → Nat
  | [] => 0
  | r :: rs => if r.kind = 2 then cnt2 rs + 1 else cnt2 rs
theorem ep_len : ∀ (rs : List Ri) (cur : List Int), (epFrom rs cur).length = cnt2 rs + 1
  | [], _ => rfl
  | r :: rs, cur => by
    unfold epFrom cnt2
    by_cases h : r.kind = 2
    · rw [if_pos h, if_pos h, List.length_cons, ep_len rs]
    · rw [if_neg h, if_neg h, ep_len rs]
theorem epochs_cnt (rs : List Ri) : (epochs rs).length = cnt2 rs + 1 := by rw [epochs_from, ep_len]
theorem trim_top {d : List F} {i : Nat} (h0 : cf d i ≠ 0) (h1 : ∀ j, i < j → cf d j = 0) : (trimP d).length = i + 1 := by
  have h2 : (trimP d).length ≤ i + 1 := trim_le (fun j hj => h1 j (by omega))
  rcases Nat.lt_or_ge i (trimP d).length with h | h
  · omega
  · exact absurd (by rw [← cf_trim]; exact cf_ge _ _ h) h0
theorem trim_roots (xs : List F) : (trimP (roots xs)).length = xs.length + 1 := trim_top (by rw [(roots_top xs).1]; exact F.one_ne) (roots_top xs).2
theorem trim_lin (x : F) : (trimP (lin x)).length = 1 + 1 := trim_top (i := 1) (by show (1 : F) ≠ 0; exact F.one_ne) (fun j hj => cf_ge _ _ (by show 2 ≤ j; omega))
theorem trim_one : (trimP [(1 : F)]).length = 0 + 1 := trim_top (i := 0) (by show (1 : F) ≠ 0; exact F.one_ne) (fun j hj => cf_ge _ _ (by show 1 ≤ j; omega))
noncomputable def chgP (N K : Nat) (bp : Nat → Nat → List F) (e : Nat) (r : Rnd) : Option ((Nat → List F) × List F) :=
  if r.kind = 2 then some (fun c => trimP (addP (bp e c) (bp (e + 1) c)), roots (secL N K))
  else if r.kind = 3 then (if r.target ∈ r.seen then some (bp e, lin (ptF r.target)) else none)
  else if r.kind = 4 then some (bp e, [1]) else none
theorem us_chg (N T K : Nat) (a b : List F) (rs0 : List Ri) (e : Nat) (r : Rnd) : usP N T K a b rs0 e r = (chgP N K (byP N T K a b rs0) e r).map fun p => fun c => quoP (p.1 c) p.2 := by
  unfold usP chgP
  by_cases h2 : r.kind = 2
  · rw [if_pos h2, if_pos h2]; rfl
  rw [if_neg h2, if_neg h2]
  by_cases h3 : r.kind = 3
  · rw [if_pos h3, if_pos h3]
    by_cases h5 : r.target ∈ r.seen
    · rw [if_pos h5, if_pos h5]; rfl
    · rw [if_neg h5, if_neg h5]; rfl
  rw [if_neg h3, if_neg h3]
  by_cases h4 : r.kind = 4
  · rw [if_pos h4, if_pos h4]; rfl
  · rw [if_neg h4, if_neg h4]; rfl
def ChgOk (W : World) (b1 b2 : Nat) (X : Option Addr) (nx : Nat) (Y : Option Addr) (ny cy cols : Nat) : Option ((Nat → List F) × List F) → Prop
  | none => ny = 0
  | some (ps, fac) => 0 < ny ∧ ny ≤ 256 ∧ ny ≤ cy ∧ nx = cols ∧ PLn W X cols ((List.range cols).map ps) (fun k => b1 ≤ k ∧ k < b2) ∧ ny = fac.length ∧ RF W b2 Y fac ∧ ∃ low, (trimP fac).length = low + 1
theorem toNat_mem {l : List Int} (hl : ∀ x ∈ l, 0 ≤ x) {x : Nat} : x ∈ l.map Int.toNat ↔ (x : Int) ∈ l := by
  constructor
  · intro h
    obtain ⟨y, hy, rfl⟩ := List.mem_map.1 h
    rw [Int.toNat_of_nonneg (hl y hy)]
    exact hy
  · exact fun h => List.mem_map.2 ⟨x, h, by simp⟩
theorem change_any (w Wp : World) (s g N T K : Nat) (E Rm : Int) (cols : Nat) (A : Option Addr) (ne cb b : Nat) (bp : Nat → Nat → List F) (hT : w.heap[s]? = some (turnObj g N T K E Rm cols (.slice A ne cb))) (hB : ByJ Wp b (.slice A ne cb) ((List.range ne).map fun e => (List.range cols).map (bp e)))
    (hbp : Below Wp.heap.size Wp w) (hF : Fld w g) (hN : N ≤ 255) (hK : K ≤ 255) (hcl : cols ≤ 256) (hbl : ∀ e i, (bp e i).length ≤ 1000) (kind target : Int) (ds sn : List Int) (hro : roundOk N T ⟨kind, target, ds, sn⟩) (D S : Option Addr) (nd cd ns cs : Nat) (hS : Kd.C kz w S ns sn) (hns : ns ≤ 9223372036854775807)
    (e : Nat) (he : e < ne) (he2 : kind = 2 → e + 1 < ne) (hne : ne ≤ 1000000) :
    Calls Try.prog 113 #[.pointer (some ⟨s, 0, none⟩), .agg #[.int .i64 kind, .int .i64 target, .slice D nd cd, .slice S ns cs], .int .i64 (e : Int)] w fun x w' => ∃ X nx cx Y ny cy, x = .returned (.tuple #[.slice X nx cx, .slice Y ny cy]) ∧ Below w.heap.size w w' ∧ ChgOk w' Wp.heap.size w.heap.size X nx Y ny cy cols (chgP N K bp e (toRd ⟨kind, target, ds, sn⟩)) := by
  have hg : ∀ i, i < ne → ((List.range ne).map fun e => (List.range cols).map (bp e)).getD i [] = (List.range cols).map (bp i) := fun i hi => getD_range _ _ _ _ hi
  have hgl : ∀ i, i < ne → (((List.range ne).map fun e => (List.range cols).map (bp e)).getD i []).length = cols := fun i hi => by rw [hg i hi]; simp
  obtain ⟨hk, -, ht0, htN, -, hsn, -⟩ := hro
  obtain ⟨t, rfl⟩ : ∃ t : Nat, target = (t : Int) := ⟨target.toNat, (Int.toNat_of_nonneg ht0).symm⟩
  have hsn0 : ∀ x ∈ sn, 0 ≤ x := fun x hx => (ris_mem hsn hx).1
  have hmem : (toRd ⟨kind, (t : Int), ds, sn⟩).target ∈ (toRd ⟨kind, (t : Int), ds, sn⟩).seen ↔ (t : Int) ∈ sn := by
    show (t : Int).toNat ∈ sn.map Int.toNat ↔ _
    rw [Int.toNat_natCast]
    exact toNat_mem hsn0
  have hkd : (toRd ⟨kind, (t : Int), ds, sn⟩).kind = kind := rfl
  have htd : (toRd ⟨kind, (t : Int), ds, sn⟩).target = t := by show (t : Int).toNat = t; simp
  rcases hk with hk | hk | hk | hk <;> simp only at hk <;> subst hk
  · have hc : chgP N K bp e (toRd ⟨0, (t : Int), ds, sn⟩) = none := by
      unfold chgP
      rw [hkd, if_neg (by decide), if_neg (by decide), if_neg (by decide)]
    rw [hc]
    refine (change0 w Wp s g N T K E Rm cols A ne cb b _ hT hB hbp D S nd cd ns cs e t).mono ?_
    rintro x w' ⟨rfl, hb⟩
    exact ⟨none, 0, 0, none, 0, 0, rfl, hb, rfl⟩
  · have hc : chgP N K bp e (toRd ⟨2, (t : Int), ds, sn⟩) = some (fun c => trimP (addP (bp e c) (bp (e + 1) c)), roots (secL N K)) := by
      unfold chgP
      rw [hkd, if_pos rfl]
    rw [hc]
    have e2 := he2 rfl
    have hbl2 : ∀ i j, i < ne → j < cols → ((((List.range ne).map fun e => (List.range cols).map (bp e)).getD i []).getD j []).length ≤ 1000000 := fun i j hi hj => by
      rw [hg i hi, getD_range _ _ _ _ hj]
      exact Nat.le_trans (hbl i j) (by decide)
    refine (change2 w Wp s g N T K E Rm cols A ne cb b _ hT hB hbp D S nd cd ns cs e e2 hne t hF hN hK hcl (hgl e he) (hgl (e + 1) e2) (fun i hi => hbl2 e i he hi) (fun i hi => hbl2 (e + 1) i e2 hi)).mono ?_
    rintro x w' ⟨X, cx, Y, rfl, h1, h2, hb⟩
    refine ⟨X, cols, cx, Y, K + 1, K + 1, rfl, hb, by omega, by omega, Nat.le_refl _, rfl, PLn_mono ?_ (fun k _ hk => hk.2), by rw [roots_length, secL_length], h2, _, trim_roots _⟩
    rw [hg e he, hg (e + 1) e2] at h1
    have e3 : sumTo ((List.range cols).map (bp e)) ((List.range cols).map (bp (e + 1))) cols = (List.range cols).map fun c => trimP (addP (bp e c) (bp (e + 1) c)) := by
      unfold sumTo
      refine List.map_congr_left (fun i hi => ?_)
      have hi' := List.mem_range.1 hi
      rw [getD_range _ _ _ _ hi', getD_range _ _ _ _ hi']
    rw [← e3]
    exact h1
  · by_cases hin : (t : Int) ∈ sn
    · have hc : chgP N K bp e (toRd ⟨3, (t : Int), ds, sn⟩) = some (bp e, lin (ptF t)) := by
        unfold chgP
        rw [hkd, if_neg (by decide), if_pos rfl, if_pos (hmem.2 hin), htd]
      rw [hc]
      refine (change3 w Wp s g N T K E Rm cols A ne cb b _ hT hB hbp D S nd cd ns cs e he t sn hS hns hin).mono ?_
      rintro x w' ⟨X, cx, Y, rfl, h1, h2, hb⟩
      rw [hgl e he] at h1
      rw [hg e he] at h1
      exact ⟨X, _, cx, Y, 2, 2, rfl, hb, by omega, by omega, Nat.le_refl _, hgl e he, PLn_mono h1 (fun k _ hk => hk.1), rfl, h2, _, trim_lin _⟩
    · have hc : chgP N K bp e (toRd ⟨3, (t : Int), ds, sn⟩) = none := by
        unfold chgP
        rw [hkd, if_neg (by decide), if_pos rfl, if_neg (fun h => hin (hmem.1 h))]
      rw [hc]
      refine (change3n w Wp s g N T K E Rm cols A ne cb b _ hT hB hbp D S nd cd ns cs e t sn hS hns hin).mono ?_
      rintro x w' ⟨rfl, hb⟩
      exact ⟨none, 0, 0, none, 0, 0, rfl, hb, rfl⟩
  · have hc : chgP N K bp e (toRd ⟨4, (t : Int), ds, sn⟩) = some (bp e, [1]) := by
      unfold chgP
      rw [hkd, if_neg (by decide), if_neg (by decide), if_pos rfl]
    rw [hc]
    refine (change4 w Wp s g N T K E Rm cols A ne cb b _ hT hB hbp D S nd cd ns cs e he t).mono ?_
    rintro x w' ⟨X, cx, Y, rfl, h1, h2, hb⟩
    rw [hgl e he] at h1
    rw [hg e he] at h1
    exact ⟨X, _, cx, Y, 1, 1, rfl, hb, by omega, by omega, Nat.le_refl _, hgl e he, PLn_mono h1 (fun k _ hk => hk.1), rfl, h2, _, trim_one⟩
theorem R_push4 {P : Program} {α : Type} (enc : α → Value) (d0 : α) {h1 : ∀ x, (enc x).oneCell' = true} (W : World) (b : Nat) (t e : TypeId) (z : Value) (bytes : Nat) (ht : P.underlying t = some (.slice e))
    (hinfo : (P.info? e).map (fun i => (i.zero, i.size, i.bytes)) = some (some z, 1, bytes)) (hzs : z.cells.size = 1) {A : Option Addr} {n c : Nat} {xs : List α} (h : Kd.R (Kd.scalar enc h1) e W b (fun _ => True) (.slice A n c) xs) (hb : b ≤ W.heap.size) (x : α)
    (hn : (xs.length + 1) * bytes ≤ 140737488355328) (hb0 : 0 < bytes) :
    ∃ B d W', (Builtin.append_ #[t, t] t #[.slice A n c, .slice (some ⟨W.heap.size, 0, none⟩) 1 1]).run P (W.alloc (.cells #[enc x] e)) = .ok (.slice B (xs.length + 1) d) W' ∧ Kd.R (Kd.scalar enc h1) e W' b (fun _ => True) (.slice B (xs.length + 1) d) (xs ++ [x]) ∧ Fr (fun k => b ≤ k ∧ OB A k) W W' := by
  have hlit : Kd.R (Kd.scalar enc h1) e (W.alloc (.cells #[enc x] e)) W.heap.size (fun _ => True) (.slice (some ⟨W.heap.size, 0, none⟩) 1 1) [x] :=
    Kd.R_of_own (own_lit_of W W.heap.size e [x] (Nat.le_refl _) (by simp)) (fun _ _ => trivial)
  have hb1 : Below W.heap.size W (W.alloc (.cells #[enc x] e)) := below_alloc (Below.refl _ _) _
  have h2 := R_fr h (Fr.of_below hb1 (fun _ => False)) (fun _ _ _ _ h => h)
  obtain ⟨v', W', hrun, hR, hg, hat⟩ := R_append_row (P := P) enc d0 (W.alloc (.cells #[enc x] e)) b t t e z bytes ht hinfo hzs (ys := [x]) (c := 1) h2 (R_C hlit) hn hb0 (Nat.le_trans hb hb1.size) (fun _ _ => trivial)
  obtain ⟨B, d, rfl⟩ := Kd.R_slice hR
  rw [List.length_append] at hrun hR
  exact ⟨B, d, W', hrun, hR, (Fr.of_below hb1 _).trans (Fr.of_grown hg (fun k hk => .inl ⟨Kd.R_base h k hk, own_ob hk⟩)) (fun k hk => .inl hk)⟩
theorem by_push4 {W : World} {b : Nat} {A : Option Addr} {n c : Nat} {qss : List (List (List F))} (H : ByJ W b (.slice A n c) qss) (hb : b ≤ W.heap.size) (B : Option Addr) (qs : List (List F)) (nq cq : Nat) (hB : PolyJ W b (.slice B nq cq) qs) (hn : n ≤ 1000000) :
    ∃ A' c' W', (Builtin.append_ #[127, 127] 127 #[.slice A n c, .slice (some ⟨W.heap.size, 0, none⟩) 1 1]).run Try.prog (W.alloc (.cells #[.slice B nq cq] 37)) = .ok (.slice A' (n + 1) c') W' ∧ ByJ W' b (.slice A' (n + 1) c') (qss ++ [qs]) ∧ Fr (fun k => b ≤ k ∧ OB A k) W W' := by
  have hnl := (by_len H).1
  obtain rfl : nq = qs.length := (pj_len hB).1
  obtain ⟨hs, h1, h2, h3⟩ := H
  have hl : hs.length = n := by rw [h2]; exact hnl.symm
  obtain ⟨A', c', W', hrun, hR, hf⟩ := R_push4 (P := Try.prog) encHd hd0 (h1 := fun _ => rfl) W b 127 37 (.slice none 0 0) 24 Try.underlying127 info37 rfl h1 hb (B, qs.length, cq) (by omega) (by omega)
  rw [hl] at hrun hR
  have hno : NoRow (fun k => b ≤ k ∧ OB A k) b W := fun k _ hk cells t hc => by
    obtain ⟨c2, hc2⟩ := Kd.R_typed h1 k (ob_own hk.2)
    rw [hc] at hc2
    injection hc2 with hc2
    injection hc2 with _ hc2
    rw [hc2]
    decide
  refine ⟨A', c', W', hrun, ⟨hs ++ [(B, qs.length, cq)], hR, by simp [h2], fun i hi => ?_⟩, hf⟩
  rw [List.length_append, List.length_cons, List.length_nil] at hi
  rw [getD_app, getD_app, h2]
  by_cases e : i < qss.length
  · rw [if_pos e, if_pos e]
    obtain ⟨B0, c0, e0, hr0⟩ := h3 i e
    exact ⟨B0, c0, e0, pj_fr hr0 hf hno⟩
  · rw [if_neg e, if_neg e, if_pos (by omega), if_pos (by omega)]
    exact ⟨B, cq, rfl, pj_fr hB hf hno⟩
theorem turn_set {W : World} {s g : Nat} {N T K E Rm cols : Int} {v : Value} (h : W.heap[s]? = some (turnObj g N T K E Rm cols v)) (u : Value) : (W.setCell ⟨s, 7, none⟩ u).heap[s]? = some (turnObj g N T K E Rm cols u) := by
  unfold turnObj at h ⊢
  rw [heap_setCell_same W s 7 _ 134 u h]
  rfl
end Go.Proofs.Ytpeiejkcoadhfaa
namespace Go.Proofs.Ytpeiejkcoadhfaa
open Go.RowKit Go.Shelf Go.Proofs.YtpeiejkcoadhfaaW.PrintWords Go.Proofs.YtpeiejkcoadhfaaW.PrintMore
open Go.BigFrame
def ChI (W : World) (O X Y : Option Addr) (ny cols : Nat) : Option ((Nat → List F) × List F) → Prop
  | none => True
  | some (ps, fac) => PLn W X cols ((List.range cols).map ps) (fun k => OB O k) ∧ Kd.C fk W Y ny fac ∧ (0 < ny → ∀ j, OB Y j → ¬ OB O j)
theorem chI_gr {W W1 : World} {O O' X Y : Option Addr} {ny cols : Nat} {ch : Option ((Nat → List F) × List F)} (h : ChI W O X Y ny cols ch) (hf : Fr (fun k => OB O k) W W1) (ho : ∀ k, OB O' k → OB O k ∨ W.heap.size ≤ k) : ChI W1 O' X Y ny cols ch := by
  cases ch with
  | none => trivial
  | some p =>
    obtain ⟨ps, fac⟩ := p
    obtain ⟨h1, h2, h3⟩ := h
    refine ⟨PLn_gr h1 hf ho, C_fr' h2 hf (fun j hj hn => h3 hn j hj), fun hn j hj hk => ?_⟩
    rcases ho j hk with h | h
    · exact h3 hn j hj h
    · have := C_lt h2 hn j hj
      omega
theorem chI_below {W W1 : World} {O X Y : Option Addr} {ny cols : Nat} {ch : Option ((Nat → List F) × List F)} (h : ChI W O X Y ny cols ch) (hf : Fr (fun _ => False) W W1) : ChI W1 O X Y ny cols ch :=
  chI_gr h (hf.mono (fun _ h => h.elim)) (fun _ h => .inl h)
theorem chI_of {W : World} {b1 b2 : Nat} {O X : Option Addr} {nx : Nat} {Y : Option Addr} {ny cy cols : Nat} {ch : Option ((Nat → List F) × List F)} (h : ChgOk W b1 b2 X nx Y ny cy cols ch) (ho : ∀ k, OB O k → b1 ≤ k ∧ k < b2) : ChI W O X Y ny cols ch := by
  cases ch with
  | none => trivial
  | some p =>
    obtain ⟨ps, fac⟩ := p
    obtain ⟨h1, h2, h3, h4, h5, h6, h7, h8⟩ := h
    refine ⟨PLn_mono h5 (fun k _ hk => ho k hk), by rw [h6]; exact h7.1, fun hn j hj hk => ?_⟩
    have := (h7.2 (by omega) j hj).1
    have := (ho j hk).2
    omega
theorem chg_len {N K : Nat} {bp : Nat → Nat → List F} (hbl : ∀ e i, (bp e i).length ≤ 1000) {e : Nat} {r : Rnd} {ps : Nat → List F} {fac : List F} (h : chgP N K bp e r = some (ps, fac)) : ∀ i, (ps i).length ≤ 1000 := by
  unfold chgP at h
  by_cases h2 : r.kind = 2
  · rw [if_pos h2] at h
    injection h with h
    injection h with h _
    subst h
    exact fun i => trim_le (fun j hj => by rw [cf_add, cf_ge _ _ (Nat.le_trans (hbl e i) hj), cf_ge _ _ (Nat.le_trans (hbl (e + 1) i) hj), F.add_zero])
  rw [if_neg h2] at h
  by_cases h3 : r.kind = 3
  · rw [if_pos h3] at h
    by_cases h5 : r.target ∈ r.seen
    · rw [if_pos h5] at h
      injection h with h
      injection h with h _
      subst h
      exact hbl e
    · rw [if_neg h5] at h; cases h
  rw [if_neg h3] at h
  by_cases h4 : r.kind = 4
  · rw [if_pos h4] at h
    injection h with h
    injection h with h _
    subst h
    exact hbl e
  · rw [if_neg h4] at h; cases h
def lftE (seen : List Nat) (n : Nat) (o : Option (Nat → List F)) (ds : List Nat) (ts : List (List F)) (nx nd : Nat) (dn : Bool) (j : Nat) : List (List F) := leftT seen n o dn (ds.drop j) (((ts.drop nx).take nd).drop j)
theorem lft_lists {ds : List Nat} {ts : List (List F)} {nx nd j : Nat} (hd : ds.length = nd) (ht : nx + nd ≤ ts.length) (hj : j < nd) : ds.drop j = ds.getD j 0 :: ds.drop (j + 1) ∧ ((ts.drop nx).take nd).drop j = ts.getD (nx + j) [] :: ((ts.drop nx).take nd).drop (j + 1) := by
  constructor
  · rw [List.drop_eq_getElem_cons (by omega), List.getD_eq_getElem?_getD, List.getElem?_eq_getElem (by omega)]
    rfl
  · have hl : j < ((ts.drop nx).take nd).length := by rw [List.length_take, List.length_drop]; omega
    rw [List.drop_eq_getElem_cons hl, List.getElem_take, List.getElem_drop, List.getD_eq_getElem?_getD, List.getElem?_eq_getElem (by omega)]
    rfl
theorem lft_keep {seen : List Nat} {n : Nat} {o : Option (Nat → List F)} {ds : List Nat} {ts : List (List F)} {nx nd : Nat} {dn : Bool} {j : Nat} (hd : ds.length = nd) (ht : nx + nd ≤ ts.length) (hj : j < nd) (h : o = none ∨ dn = true ∨ ds.getD j 0 ∈ seen) : lftE seen n o ds ts nx nd dn j = ts.getD (nx + j) [] :: lftE seen n o ds ts nx nd dn (j + 1) := by
  unfold lftE
  obtain ⟨e1, e2⟩ := lft_lists hd ht hj
  rw [e1, e2]
  exact left_keep h
theorem lft_turn {seen : List Nat} {n : Nat} {u : Nat → List F} {ds : List Nat} {ts : List (List F)} {nx nd : Nat} {j : Nat} (hd : ds.length = nd) (ht : nx + nd ≤ ts.length) (hj : j < nd) (h : ds.getD j 0 ∉ seen) : lftE seen n (some u) ds ts nx nd false j = addT (ts.getD (nx + j) []) n u :: lftE seen n (some u) ds ts nx nd true (j + 1) := by
  unfold lftE
  obtain ⟨e1, e2⟩ := lft_lists hd ht hj
  rw [e1, e2]
  exact left_turn h
theorem lft_end {seen : List Nat} {n : Nat} {o : Option (Nat → List F)} {ds : List Nat} {ts : List (List F)} {nx nd : Nat} {dn : Bool} : lftE seen n o ds ts nx nd dn nd = [] := by
  unfold lftE
  have e : ((ts.drop nx).take nd).drop nd = [] := List.drop_eq_nil_of_le (by rw [List.length_take]; omega)
  rw [e]
  exact left_nil ..
theorem getD_map_nat {l : List Int} {j : Nat} (h : j < l.length) : (l.map Int.toNat).getD j 0 = (l.getD j 0).toNat := by
  rw [List.getD_eq_getElem?_getD, List.getD_eq_getElem?_getD, List.getElem?_map, List.getElem?_eq_getElem h]
  rfl
end Go.Proofs.Ytpeiejkcoadhfaa

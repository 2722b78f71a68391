/- What the view's laws take, Vt42: Held, VwCF, VwCG, VwCE. -/
import Derived.Test.YtpeiejkcoadhfaaVt05
import Derived.Test.YtpeiejkcoadhfaaVt16
import Derived.Test.YtpeiejkcoadhfaaVt32
import Derived.Test.YtpeiejkcoadhfaaVt40
import Derived.Test.YtpeiejkcoadhfaaVt41
import Derived.Deep.RegionHeld3
set_option linter.all false
namespace Go.Proofs.Ytpeiejkcoadhfaa
open Go.RowKit
theorem takeD {P : Program} {ops : Array Oper} {Q : Exit → Act → World → Prop} {md : Region.Mode} {S : World → Prop} (i d : Nat) {oi : Oper} {v : Value} {fuel : Nat} {listed : Array Bool} {a : Act} {w : World} (hi : ops[i]? = some oi) (hd : oi.dst = some d)
    (hs : Region.noSelect ops = true) (hf : Region.free md ops listed i = true) (hr : (Region.ready md ops listed).contains i = true)
    (hQ : ∀ c a w, Q (.panic c) (a.put oi.dst v) w → Q (.panic c) a w) (hy : YieldsIf P ops S oi v a) (hS : S w)
    (h : wpAnyH P md ops Q S fuel (listed.setIfInBounds i true) (a.put (some d) v) w) : wpAnyH P md ops Q S (fuel + 1) listed a w :=
  wpAnyH_take hi hs hf hr hQ hy hS (by rw [hd]; exact h)
end Go.Proofs.Ytpeiejkcoadhfaa
namespace Go.Proofs.Ytpeiejkcoadhfaa
open Go.RowKit Go.Shelf Go.Proofs.YtpeiejkcoadhfaaW.PrintWords Go.Proofs.YtpeiejkcoadhfaaW.PrintMore
open Go.BigFrame
attribute [local go_sem] Oper.semAt_some
def turnObj (g : Nat) (N T K E Rm cols : Int) (v : Value) : Obj := .cells #[.pointer (some ⟨g, 0, none⟩), .int .i64 N, .int .i64 T, .int .i64 K, .int .i64 E, .int .i64 Rm, .int .i64 cols, v] 134 (0, 0)
theorem R_append_zeros2 {w W : World} {A : Option Addr} {n c : Nat} {xs : List F} (h : Kd.R fk 5 W w.heap.size (fun _ => True) (.slice A n c) xs) (hb : Below w.heap.size w W) (m : Nat) (hn : n + m ≤ 140737488355328) :
    ∃ B d W', (Builtin.append_ #[36, 3] 36 #[.slice A n c, .int .i64 (m : Int)]).run Try.prog W = .ok (.slice B (n + m) d) W' ∧ Kd.R fk 5 W' w.heap.size (fun _ => True) (.slice B (n + m) d) (xs ++ List.replicate m 0) ∧ Below w.heap.size w W' := by
  have hl : n = xs.length := (Kd.Q_reads' (Kd.Q_of_R h)).1
  obtain ⟨v', W', hrun, hR, hg, _⟩ := R_append_zeros W w.heap.size h m (by omega) hb.size (fun _ _ => trivial)
  obtain ⟨B, d, rfl⟩ := Kd.R_slice hR
  rw [List.length_append, List.length_replicate, ← hl] at hrun hR
  exact ⟨B, d, W', hrun, hR, hb.grown hg hb.size (fun i hi => Kd.R_base h i hi)⟩
set_option maxRecDepth 100000 in
set_option maxHeartbeats 6400000 in
theorem differ_any (w : World) (s g N T K : Nat) (E Rm cols : Int) (v : Value) (hT : w.heap[s]? = some (turnObj g N T K E Rm cols v)) (hF : Fld w g) (A : Option Addr) (c : Nat) (d : List F) (hd : Kd.C fk w A K d) (B : Option Addr) (m c2 : Nat) (hs : List Nat) (hh : Kd.C kn w B m hs)
    (hN : N ≤ 255) (hK : K ≤ 255) (hNK : N + K ≤ 255) (hn : hs.Nodup) (hl : ∀ h ∈ hs, h < N) (hm : m ≤ 255) :
    Calls Try.prog 109 #[.pointer (some ⟨s, 0, none⟩), .slice A K c, .slice B m c2] w fun e w' => ∃ D, e = .returned (.slice D (diffP N K d hs).length (diffP N K d hs).length) ∧ RF w' w.heap.size D (diffP N K d hs) ∧ Fr (fun _ => False) w w' := by
  have hdl : d.length = K := Kd.C_len hd
  have hhl : hs.length = m := Kd.C_len hh
  have hu := unl_secpts hNK hn hl
  have HSEC := Aside0.mk (fun W => Secrets_any W N K (T : Int) E Rm (by omega) (by omega))
  have HPTS : Aside0 (∀ W, Below w.heap.size w W → Calls Try.prog 45 #[parV N T K E Rm, .slice B m c2] W fun e w' => ∃ X dx, e = .returned (.slice X m dx) ∧ Kd.R fk 5 w' W.heap.size (fun _ => True) (.slice X m dx) (hs.map ptF) ∧ Below W.heap.size W w') := ⟨fun W hW => Points_any W N T K E Rm B m c2 hs (Kd.C_below hh hW) (by omega)⟩
  have HCL : Aside0 (∀ W, Below w.heap.size w W → Calls Try.prog 95 #[.slice A K c] W fun e w' => ∃ A' c', e = .returned (.slice A' K c') ∧ Kd.R fk 5 w' W.heap.size (fun _ => True) (.slice A' K c') d ∧ Below W.heap.size W w') := ⟨fun W hW => Clone_any W A K c d (Kd.C_below hd hW) (by omega)⟩
  have HTH : Aside0 (∀ W (X Y : Option Addr) (cx cy : Nat), Below w.heap.size w W → Kd.C fk W X (K + m) (secL N K ++ hs.map ptF) → Kd.C fk W Y (K + m) (d ++ List.replicate m 0) → Calls Try.prog 85 #[.pointer (some ⟨g, 0, none⟩), .slice X (K + m) cx, .slice Y (K + m) cy] W fun e w' => ∃ D, e = .returned (.tuple #[.slice D (diffP N K d hs).length (diffP N K d hs).length, .bool true]) ∧ RF w' W.heap.size D (diffP N K d hs) ∧ Fr (fun _ => False) W w') := ⟨fun W X Y cx cy hW hX hY => by
    refine (Through_any W g X Y (K + m) cx cy _ _ (hF.fr (Fr.of_below hW (fun _ => False)) (fun h => h)) hX hY (by omega) hu).mono ?_
    rintro e w' ⟨D, q, rfl, h1, h2, h3⟩
    have e1 : diffP N K d hs = q := by
      unfold diffP
      rw [hhl]
      exact thruP_eq hu h2
    rw [e1]
    exact ⟨D, rfl, h1, h3⟩⟩
  obtain ⟨q, hq⟩ : ∃ q, q = diffP N K d hs := ⟨_, rfl⟩
  rw [← hq] at HTH ⊢
  obtain ⟨lq, hlq⟩ : ∃ lq, lq = q.length := ⟨_, rfl⟩
  rw [← hlq] at HTH ⊢
  obtain ⟨sl, hsl⟩ : ∃ sl, sl = secL N K := ⟨_, rfl⟩
  rw [← hsl] at HTH HSEC
  obtain ⟨pl, hpl⟩ : ∃ pl, pl = hs.map ptF := ⟨_, rfl⟩
  rw [← hpl] at HTH HPTS
  have HK : Aside0 (∀ W, Below w.heap.size w W → W.cell? ⟨s, 0, none⟩ = some (.pointer (some ⟨g, 0, none⟩)) ∧ W.cell? ⟨s, 1, none⟩ = some (.int .i64 N) ∧ W.cell? ⟨s, 2, none⟩ = some (.int .i64 T) ∧ W.cell? ⟨s, 3, none⟩ = some (.int .i64 K) ∧ W.cell? ⟨s, 4, none⟩ = some (.int .i64 E) ∧ W.cell? ⟨s, 5, none⟩ = some (.int .i64 Rm)) := ⟨fun W hW => by
    have h := blk_below hT hW
    unfold turnObj at h
    exact ⟨cell_at h rfl, cell_at h rfl, cell_at h rfl, cell_at h rfl, cell_at h rfl, cell_at h rfl⟩⟩
  obtain ⟨SK, hSK⟩ : ∃ SK : World → Prop, SK = fun W => W.cell? ⟨s, 0, none⟩ = some (.pointer (some ⟨g, 0, none⟩)) ∧ W.cell? ⟨s, 1, none⟩ = some (.int .i64 N) ∧ W.cell? ⟨s, 2, none⟩ = some (.int .i64 T) ∧ W.cell? ⟨s, 3, none⟩ = some (.int .i64 K) ∧ W.cell? ⟨s, 4, none⟩ = some (.int .i64 E) ∧ W.cell? ⟨s, 5, none⟩ = some (.int .i64 Rm) := ⟨_, rfl⟩
  have HA1 : Aside0 (∀ W2 P1 d1, Kd.R fk 5 W2 w.drew.heap.size (fun _ => True) (.slice P1 K d1) sl → Below w.drew.heap.size w.drew W2 → Aside0 (Kd.R fk 5 W2 w.heap.size (fun _ => True) (.slice P1 K d1) sl) ∧ Aside0 (Below w.heap.size w W2)) := ⟨fun W2 P1 d1 h1 h2 => ⟨⟨h1⟩, ⟨of_drew h2⟩⟩⟩
  have HA2 : Aside0 (∀ W2 W3 P1 d1 P2 d2, Below w.heap.size w W2 → Kd.R fk 5 W2 w.heap.size (fun _ => True) (.slice P1 K d1) sl → Below W2.heap.size W2 W3 → Kd.R fk 5 W3 W2.heap.size (fun _ => True) (.slice P2 m d2) pl → ∃ X cx W4, (Builtin.append_ #[36, 36] 36 #[.slice P1 K d1, .slice P2 m d2]).run Try.prog W3 = .ok (.slice X (K + m) cx) W4 ∧ Aside0 (Kd.C fk W4 X (K + m) (sl ++ pl)) ∧ Aside0 (Below w.heap.size w W3) ∧ Aside0 (Below w.heap.size w W4)) := ⟨fun W2 W3 P1 d1 P2 d2 h1 h2 h3 h4 => by
    have hb3 := h1.trans (h3.mono h1.size)
    obtain ⟨X, cx, W4, hrun, hR, hb4, _, _⟩ := out_push (c := d2) (R_fr h2 (Fr.of_below h3 (fun _ => False)) (fun _ _ _ _ h => h)) hb3 (R_C h4) (by omega)
    exact ⟨X, cx, W4, hrun, ⟨R_C hR⟩, ⟨hb3⟩, ⟨hb4⟩⟩⟩
  have HA3 : Aside0 (∀ W4 W5 Q1 e1, Below w.heap.size w W4 → Below W4.heap.size W4 W5 → Kd.R fk 5 W5 W4.heap.size (fun _ => True) (.slice Q1 K e1) d → ∃ Y cy W6, (Builtin.append_ #[36, 3] 36 #[.slice Q1 K e1, .int .i64 (m : Int)]).run Try.prog W5 = .ok (.slice Y (K + m) cy) W6 ∧ Aside0 (Kd.C fk W6 Y (K + m) (d ++ List.replicate m 0)) ∧ Aside0 (Below w.heap.size w W5) ∧ Aside0 (Below w.heap.size w W6) ∧ Aside0 (Fr (fun _ => False) W4 W6)) := ⟨fun W4 W5 Q1 e1 h1 h2 h3 => by
    obtain ⟨Y, cy, W6, hrun, hR, hb6⟩ := R_append_zeros2 h3 h2 m (by omega)
    exact ⟨Y, cy, W6, hrun, ⟨R_C hR⟩, ⟨h1.trans (h2.mono h1.size)⟩, ⟨h1.trans (hb6.mono h1.size)⟩, ⟨Fr.of_below hb6 _⟩⟩⟩
  have hu134 := Try.underlying134
  have hu48 := Try.underlying48
  unfold parV at HSEC HPTS
  clear hT hF hd hh hn hl hdl hhl hu hq hlq hsl hpl hSK
  go_enter Try.func109, Try.ntmps109
  go_wp2
  have k0 := Aside0.mk (HK.out w.drew (Below.refl _ _).drew)
  refine wp_region_held_drew (S := (fun W => W.cell? ⟨s, 0, none⟩ = some (.pointer (some ⟨g, 0, none⟩)) ∧ W.cell? ⟨s, 1, none⟩ = some (.int .i64 N) ∧ W.cell? ⟨s, 2, none⟩ = some (.int .i64 T) ∧ W.cell? ⟨s, 3, none⟩ = some (.int .i64 K) ∧ W.cell? ⟨s, 4, none⟩ = some (.int .i64 E) ∧ W.cell? ⟨s, 5, none⟩ = some (.int .i64 Rm))) (by kernel_rfl) (k0.out) (fun hS => ?_)
  refine takeD 0 10 (v := ?_) rfl rfl (by kernel_rfl) (by kernel_rfl) (by kernel_rfl) (fun _ _ _ h => h) (Or.inl ⟨by rfl, ?_⟩) hS ?_
  rotate_left 1
  focus (intro w hSw; (try dsimp only at hSw); go_simp; (try with_reducible rfl); done)
  try simp only [Act.put, List.setIfInBounds_toArray, List.set_cons_zero, List.set_cons_succ]
  refine takeD 1 11 (v := ?_) rfl rfl (by kernel_rfl) (by kernel_rfl) (by kernel_rfl) (fun _ _ _ h => h) (Or.inl ⟨by rfl, ?_⟩) hS ?_
  rotate_left 1
  focus (intro w hSw; (try dsimp only at hSw); go_simp; (try with_reducible rfl); done)
  try simp only [Act.put, List.setIfInBounds_toArray, List.set_cons_zero, List.set_cons_succ]
  refine takeD 2 12 (v := ?_) rfl rfl (by kernel_rfl) (by kernel_rfl) (by kernel_rfl) (fun _ _ _ h => h) (Or.inl ⟨by rfl, ?_⟩) hS ?_
  rotate_left 1
  focus (intro w hSw; (try dsimp only at hSw); go_simp; (try with_reducible rfl); done)
  try simp only [Act.put, List.setIfInBounds_toArray, List.set_cons_zero, List.set_cons_succ]
  refine takeD 3 13 (v := ?_) rfl rfl (by kernel_rfl) (by kernel_rfl) (by kernel_rfl) (fun _ _ _ h => h) (Or.inl ⟨by rfl, ?_⟩) hS ?_
  rotate_left 1
  focus (intro w hSw; (try dsimp only at hSw); go_simp; (try with_reducible rfl); done)
  try simp only [Act.put, List.setIfInBounds_toArray, List.set_cons_zero, List.set_cons_succ]
  refine takeD 5 15 (v := ?_) rfl rfl (by kernel_rfl) (by kernel_rfl) (by kernel_rfl) (fun _ _ _ h => h) (Or.inl ⟨by rfl, ?_⟩) hS ?_
  rotate_left 1
  focus (intro w hSw; (try dsimp only at hSw); go_simp; (try with_reducible rfl); done)
  try simp only [Act.put, List.setIfInBounds_toArray, List.set_cons_zero, List.set_cons_succ]
  refine takeD 6 16 (v := ?_) rfl rfl (by kernel_rfl) (by kernel_rfl) (by kernel_rfl) (fun _ _ _ h => h) (Or.inl ⟨by rfl, ?_⟩) hS ?_
  rotate_left 1
  focus (intro w hSw; (try dsimp only at hSw); go_simp; (try with_reducible rfl); done)
  try simp only [Act.put, List.setIfInBounds_toArray, List.set_cons_zero, List.set_cons_succ]
  refine takeD 7 17 (v := ?_) rfl rfl (by kernel_rfl) (by kernel_rfl) (by kernel_rfl) (fun _ _ _ h => h) (Or.inl ⟨by rfl, ?_⟩) hS ?_
  rotate_left 1
  focus (intro w hSw; (try dsimp only at hSw); go_simp; (try with_reducible rfl); done)
  try simp only [Act.put, List.setIfInBounds_toArray, List.set_cons_zero, List.set_cons_succ]
  refine takeD 8 18 (v := ?_) rfl rfl (by kernel_rfl) (by kernel_rfl) (by kernel_rfl) (fun _ _ _ h => h) (Or.inl ⟨by rfl, ?_⟩) hS ?_
  rotate_left 1
  focus (intro w hSw; (try dsimp only at hSw); go_simp; (try with_reducible rfl); done)
  try simp only [Act.put, List.setIfInBounds_toArray, List.set_cons_zero, List.set_cons_succ]
  refine takeD 9 19 (v := ?_) rfl rfl (by kernel_rfl) (by kernel_rfl) (by kernel_rfl) (fun _ _ _ h => h) (Or.inl ⟨by rfl, ?_⟩) hS ?_
  rotate_left 1
  focus (intro w hSw; (try dsimp only at hSw); go_simp; (try with_reducible rfl); done)
  try simp only [Act.put, List.setIfInBounds_toArray, List.set_cons_zero, List.set_cons_succ]
  refine wpAnyH_ready (rs := [4]) (by kernel_rfl) (by simp) ?_
  refine AllReadyH.cons rfl (fun K hK => ?_) AllReadyH.nil
  rw [if_pos (by rfl)]
  go_simp
  go_at_call 47; with_reducible refine (HSEC.out _).mono ?_; rintro e W2 ⟨P1, d1, rfl, hR1, hb1⟩; obtain ⟨HR1, HB2⟩ := HA1.out W2 P1 d1 hR1 hb1; have k1 := Aside0.mk (HK.out W2 HB2.out); clear hR1 hb1
  refine hK.out _ _ (by first | with_reducible exact k3.out | with_reducible exact k2.out | with_reducible exact k1.out) (fun hS2 => ?_)
  clear hK K hS
  have hS := hS2
  clear hS2
  try simp only [Act.put, List.setIfInBounds_toArray, List.set_cons_zero, List.set_cons_succ]
  refine wpAnyH_ready (rs := [10]) (by kernel_rfl) (by simp) ?_
  refine AllReadyH.cons rfl (fun K hK => ?_) AllReadyH.nil
  rw [if_pos (by rfl)]
  go_simp
  go_at_call 45; with_reducible refine (HPTS.out _ HB2.out).mono ?_; rintro e W3 ⟨P2, d2, rfl, hR2, hb2⟩; obtain ⟨X, cx, W4, hrun, HX, HB3, HB4⟩ := HA2.out W2 W3 P1 d1 P2 d2 HB2.out HR1.out hb2 hR2; have k2 := Aside0.mk (HK.out W3 HB3.out); have k3 := Aside0.mk (HK.out W4 HB4.out); clear hR2 hb2
  refine hK.out _ _ (by first | with_reducible exact k3.out | with_reducible exact k2.out | with_reducible exact k1.out) (fun hS2 => ?_)
  clear hK K hS
  have hS := hS2
  clear hS2
  try simp only [Act.put, List.setIfInBounds_toArray, List.set_cons_zero, List.set_cons_succ]
  refine wpAnyH_ready (rs := [11]) (by kernel_rfl) (by simp) ?_
  refine AllReadyH.cons rfl (fun K hK => ?_) AllReadyH.nil
  refine step_append_run rfl _ _ _ _ rfl rfl rfl hrun ?_
  refine hK.out _ _ (by first | with_reducible exact k3.out | with_reducible exact k2.out | with_reducible exact k1.out) (fun hS2 => ?_)
  clear hK K hS
  have hS := hS2
  clear hS2
  try simp only [Act.put, List.setIfInBounds_toArray, List.set_cons_zero, List.set_cons_succ, List.getElem_toArray, List.getElem_cons_zero, List.getElem_cons_succ]
  refine takeD 12 7 (v := ?_) rfl rfl (by kernel_rfl) (by kernel_rfl) (by kernel_rfl) (fun _ _ _ h => h) (Or.inl ⟨by rfl, ?_⟩) hS ?_
  rotate_left 1
  focus (intro w hSw; (try dsimp only at hSw); go_simp; (try with_reducible rfl); done)
  try simp only [Act.put, List.setIfInBounds_toArray, List.set_cons_zero, List.set_cons_succ]
  refine wpAnyH_done (by kernel_rfl) ?_ _
  clear hrun k0 k1 k2 k3 hS HR1 HB2 HB3
  go_wp2
  have HB4d : Aside0 (Below w.heap.size w W4.drew) := ⟨HB4.out.drew⟩
  have k0 := Aside0.mk (HK.out W4.drew HB4d.out)
  refine wp_region_held_drew (S := (fun W => W.cell? ⟨s, 0, none⟩ = some (.pointer (some ⟨g, 0, none⟩)) ∧ W.cell? ⟨s, 1, none⟩ = some (.int .i64 N) ∧ W.cell? ⟨s, 2, none⟩ = some (.int .i64 T) ∧ W.cell? ⟨s, 3, none⟩ = some (.int .i64 K) ∧ W.cell? ⟨s, 4, none⟩ = some (.int .i64 E) ∧ W.cell? ⟨s, 5, none⟩ = some (.int .i64 Rm))) (by kernel_rfl) (k0.out) (fun hS => ?_)
  refine takeD 0 23 (v := ?_) rfl rfl (by kernel_rfl) (by kernel_rfl) (by kernel_rfl) (fun _ _ _ h => h) (Or.inl ⟨by rfl, ?_⟩) hS ?_
  rotate_left 1
  focus (intro w hSw; (try dsimp only at hSw); go_simp; (try with_reducible rfl); done)
  try simp only [Act.put, List.setIfInBounds_toArray, List.set_cons_zero, List.set_cons_succ]
  refine takeD 1 24 (v := ?_) rfl rfl (by kernel_rfl) (by kernel_rfl) (by kernel_rfl) (fun _ _ _ h => h) (Or.inl ⟨by rfl, ?_⟩) hS ?_
  rotate_left 1
  focus (intro w hSw; (try dsimp only at hSw); go_simp; (try with_reducible rfl); done)
  try simp only [Act.put, List.setIfInBounds_toArray, List.set_cons_zero, List.set_cons_succ]
  refine takeD 2 25 (v := ?_) rfl rfl (by kernel_rfl) (by kernel_rfl) (by kernel_rfl) (fun _ _ _ h => h) (Or.inl ⟨by rfl, ?_⟩) hS ?_
  rotate_left 1
  focus (intro w hSw; (try dsimp only at hSw); go_simp; (try with_reducible rfl); done)
  try simp only [Act.put, List.setIfInBounds_toArray, List.set_cons_zero, List.set_cons_succ]
  refine takeD 3 26 (v := ?_) rfl rfl (by kernel_rfl) (by kernel_rfl) (by kernel_rfl) (fun _ _ _ h => h) (Or.inl ⟨by rfl, ?_⟩) hS ?_
  rotate_left 1
  focus (intro w hSw; (try dsimp only at hSw); go_simp; (try with_reducible rfl); done)
  try simp only [Act.put, List.setIfInBounds_toArray, List.set_cons_zero, List.set_cons_succ]
  refine takeD 4 27 (v := ?_) rfl rfl (by kernel_rfl) (by kernel_rfl) (by kernel_rfl) (fun _ _ _ h => h) (Or.inl ⟨by rfl, ?_⟩) hS ?_
  rotate_left 1
  focus (intro w hSw; (try dsimp only at hSw); go_simp; (try with_reducible rfl); done)
  try simp only [Act.put, List.setIfInBounds_toArray, List.set_cons_zero, List.set_cons_succ]
  refine takeD 5 28 (v := ?_) rfl rfl (by kernel_rfl) (by kernel_rfl) (by kernel_rfl) (fun _ _ _ h => h) (Or.inl ⟨by rfl, ?_⟩) hS ?_
  rotate_left 1
  focus (intro w hSw; (try dsimp only at hSw); go_simp; (try with_reducible rfl); done)
  try simp only [Act.put, List.setIfInBounds_toArray, List.set_cons_zero, List.set_cons_succ]
  refine takeD 7 30 (v := ?_) rfl rfl (by kernel_rfl) (by kernel_rfl) (by kernel_rfl) (fun _ _ _ h => h) (Or.inl ⟨by rfl, ?_⟩) hS ?_
  rotate_left 1
  focus (intro w hSw; (try dsimp only at hSw); go_simp; (try with_reducible rfl); done)
  try simp only [Act.put, List.setIfInBounds_toArray, List.set_cons_zero, List.set_cons_succ]
  refine takeD 8 31 (v := ?_) rfl rfl (by kernel_rfl) (by kernel_rfl) (by kernel_rfl) (fun _ _ _ h => h) (Or.inl ⟨by rfl, ?_⟩) hS ?_
  rotate_left 1
  focus (intro w hSw; (try dsimp only at hSw); go_simp; (try with_reducible rfl); done)
  try simp only [Act.put, List.setIfInBounds_toArray, List.set_cons_zero, List.set_cons_succ]
  refine wpAnyH_ready (rs := [6]) (by kernel_rfl) (by simp) ?_
  refine AllReadyH.cons rfl (fun K hK => ?_) AllReadyH.nil
  rw [if_pos (by rfl)]
  go_simp
  go_at_call 95; with_reducible refine (HCL.out _ HB4d.out).mono ?_; rintro e W5 ⟨Q1, e1, rfl, hR5, hb5⟩; obtain ⟨Y, cy, W6, hrun, HY, HB5, HB6, HF6⟩ := HA3.out W4.drew W5 Q1 e1 HB4d.out hb5 hR5; have HX6 := Aside0.mk (C_fr' HX.out (((Fr.refl (fun _ => False) W4).drew).trans' HF6.out) (fun _ _ _ h => h)); have k1 := Aside0.mk (HK.out W5 HB5.out); have k2 := Aside0.mk (HK.out W6 HB6.out); clear hR5 hb5
  refine hK.out _ _ (by first | with_reducible exact k3.out | with_reducible exact k2.out | with_reducible exact k1.out) (fun hS2 => ?_)
  clear hK K hS
  have hS := hS2
  clear hS2
  try simp only [Act.put, List.setIfInBounds_toArray, List.set_cons_zero, List.set_cons_succ]
  refine wpAnyH_ready (rs := [9]) (by kernel_rfl) (by simp) ?_
  refine AllReadyH.cons rfl (fun K hK => ?_) AllReadyH.nil
  refine step_append_run rfl _ _ _ _ rfl rfl rfl hrun ?_
  refine hK.out _ _ (by first | with_reducible exact k3.out | with_reducible exact k2.out | with_reducible exact k1.out) (fun hS2 => ?_)
  clear hK K hS
  have hS := hS2
  clear hS2
  try simp only [Act.put, List.setIfInBounds_toArray, List.set_cons_zero, List.set_cons_succ, List.getElem_toArray, List.getElem_cons_zero, List.getElem_cons_succ]
  refine wpAnyH_ready (rs := [10]) (by kernel_rfl) (by simp) ?_
  refine AllReadyH.cons rfl (fun K hK => ?_) AllReadyH.nil
  rw [if_pos (by rfl)]
  go_simp
  go_at_call 85; with_reducible refine (HTH.out _ _ _ _ _ HB6.out HX6.out HY.out).mono ?_; rintro e W7 ⟨D, rfl, hD, hf7⟩; have HD := Aside0.mk hD; have HF7 := Aside0.mk hf7; have k3 := Aside0.mk (HK.out W7 (HB6.out.trans (hf7.f_below.mono HB6.out.size))); clear hD hf7
  refine hK.out _ _ (by first | with_reducible exact k3.out | with_reducible exact k2.out | with_reducible exact k1.out) (fun hS2 => ?_)
  clear hK K hS
  have hS := hS2
  clear hS2
  try simp only [Act.put, List.setIfInBounds_toArray, List.set_cons_zero, List.set_cons_succ]
  refine takeD 11 22 (v := ?_) rfl rfl (by kernel_rfl) (by kernel_rfl) (by kernel_rfl) (fun _ _ _ h => h) (Or.inl ⟨by rfl, ?_⟩) hS ?_
  rotate_left 1
  focus (intro w hSw; (try dsimp only at hSw); go_simp; (try with_reducible rfl); done)
  try simp only [Act.put, List.setIfInBounds_toArray, List.set_cons_zero, List.set_cons_succ]
  refine takeD 12 34 (v := ?_) rfl rfl (by kernel_rfl) (by kernel_rfl) (by kernel_rfl) (fun _ _ _ h => h) (Or.inl ⟨by rfl, ?_⟩) hS ?_
  rotate_left 1
  focus (intro w hSw; (try dsimp only at hSw); go_simp; (try with_reducible rfl); done)
  try simp only [Act.put, List.setIfInBounds_toArray, List.set_cons_zero, List.set_cons_succ]
  refine takeD 13 35 (v := ?_) rfl rfl (by kernel_rfl) (by kernel_rfl) (by kernel_rfl) (fun _ _ _ h => h) (Or.inl ⟨by rfl, ?_⟩) hS ?_
  rotate_left 1
  focus (intro w hSw; (try dsimp only at hSw); go_simp; (try with_reducible rfl); done)
  try simp only [Act.put, List.setIfInBounds_toArray, List.set_cons_zero, List.set_cons_succ]
  refine takeD 14 8 (v := ?_) rfl rfl (by kernel_rfl) (by kernel_rfl) (by kernel_rfl) (fun _ _ _ h => h) (Or.inl ⟨by rfl, ?_⟩) hS ?_
  rotate_left 1
  focus (intro w hSw; (try dsimp only at hSw); go_simp; (try with_reducible rfl); done)
  try simp only [Act.put, List.setIfInBounds_toArray, List.set_cons_zero, List.set_cons_succ]
  refine takeD 15 9 (v := ?_) rfl rfl (by kernel_rfl) (by kernel_rfl) (by kernel_rfl) (fun _ _ _ h => h) (Or.inl ⟨by rfl, ?_⟩) hS ?_
  rotate_left 1
  focus (intro w hSw; (try dsimp only at hSw); go_simp; (try with_reducible rfl); done)
  try simp only [Act.put, List.setIfInBounds_toArray, List.set_cons_zero, List.set_cons_succ]
  refine wpAnyH_done (by kernel_rfl) ?_ _
  clear hrun k0 k1 k2 k3 hS
  go_wp2
  go_ret
  exact ⟨D, rfl, RF_lower HD.out HB6.out.size, (Fr.of_below HB6.out _).trans' HF7.out⟩
end Go.Proofs.Ytpeiejkcoadhfaa
namespace Go.Proofs.Ytpeiejkcoadhfaa
open Go.RowKit Go.Shelf Go.Proofs.YtpeiejkcoadhfaaW.PrintWords Go.Proofs.YtpeiejkcoadhfaaW.PrintMore
open Go.BigFrame
theorem quo_nat {a b c : Nat} (h : a = c * b) (hb : 0 < b) : (a : Int) / (b : Int) = (c : Int) := by
  rw [h, Int.natCast_mul]
  exact Int.mul_ediv_cancel _ (by omega)
set_option maxRecDepth 100000 in
set_option maxHeartbeats 6400000 in
theorem vadd_any (w : World) (s g : Nat) (N T K E Rm : Int) (cols : Nat) (v : Value) (hT : w.heap[s]? = some (turnObj g N T K E Rm cols v)) (hF : Fld w g) (A : Option Addr) (n ca : Nat) (tape : List F) (hA : Kd.C fk w A n tape) (X : Option Addr) (cx : Nat) (polys : List (List F)) (hP : PL w X cols polys)
    (Y : Option Addr) (my cy : Nat) (fac : List F) (hY : Kd.C fk w Y my fac) (hmy : my ≤ cy) (hml : my ≤ 1000000) (low : Nat) (hlow : (trimP fac).length = low + 1) (each : Nat) (hn : n = each * cols) (hcl : cols ≤ 256) (hel : each ≤ 100000) (hpl : ∀ i, i < cols → (polys.getD i []).length ≤ 1000000)
    (hdeg : ∀ i, i < cols → (trimP (quoP (polys.getD i []) fac)).length ≤ each) :
    Calls Try.prog 111 #[.pointer (some ⟨s, 0, none⟩), .slice A n ca, .slice X cols cx, .slice Y my cy] w fun e w' => ∃ O co, e = .returned (.slice O n co) ∧ Kd.R fk 5 w' w.heap.size (fun _ => True) (.slice O n co) (addT tape each (fun i => quoP (polys.getD i []) fac)) ∧ Below w.heap.size w w' := by
  have htl : tape.length = n := Kd.C_len hA
  have hnl : n ≤ 25600000 := by
    rw [hn]
    exact Nat.le_trans (Nat.mul_le_mul hel hcl) (by decide)
  have HCL := Aside0.mk (Clone_any w A n ca tape hA (by omega))
  obtain ⟨us, hus⟩ : ∃ us : Nat → List F, us = fun i => trimP (quoP (polys.getD i []) fac) := ⟨_, rfl⟩
  have HADD : Aside0 (addT tape each (fun i => quoP (polys.getD i []) fac) = addT tape each us) := ⟨by rw [hus]; exact (addT_trim _ _ _).symm⟩
  rw [HADD.out]
  have HUS : Aside0 (∀ i, us i = trimP (quoP (polys.getD i []) fac)) := ⟨fun i => by rw [hus]⟩
  have HDEG : Aside0 (∀ i, i < cols → (us i).length ≤ each) := ⟨fun i hi => by rw [hus]; exact hdeg i hi⟩
  have HT := Aside0.mk hT
  have HF := Aside0.mk hF
  have HP := Aside0.mk hP
  have HY := Aside0.mk hY
  have HPL := Aside0.mk hpl
  have HLOW := Aside0.mk hlow
  have HTL := Aside0.mk htl
  have HN := Aside0.mk hn
  obtain ⟨res, hres⟩ : ∃ res, res = addT tape each us := ⟨_, rfl⟩
  have HRES := Aside0.mk hres
  rw [← hres]
  have HK : Aside0 (∀ W, Below w.heap.size w W → W.cell? ⟨s, 0, none⟩ = some (.pointer (some ⟨g, 0, none⟩)) ∧ W.cell? ⟨s, 6, none⟩ = some (.int .i64 cols)) := ⟨fun W hW => by
    have h := blk_below hT hW
    unfold turnObj at h
    exact ⟨cell_at h rfl, cell_at h rfl⟩⟩
  have hu134 := Try.underlying134
  clear hT hF hA hP hY hlow hpl hdeg hus hres HADD htl
  by_cases hc0 : cols = 0
  · subst hc0
    have hn0 : n = 0 := by rw [hn]; simp
    subst hn0
    clear hn
    go_enter Try.func111, Try.ntmps111
    go_wp2_with (go_at_call 95; with_reducible refine HCL.out.mono ?_; rintro e w1 ⟨O, co, rfl, hR, hb1⟩; have HR := Aside0.mk hR; have HB1 := Aside0.mk hb1; obtain ⟨x1, x2⟩ := HK.out w1 hb1; clear hR hb1)
    go_ret
    refine ⟨O, co, rfl, ?_, HB1.out⟩
    have e1 : tape = [] := List.eq_nil_of_length_eq_zero HTL.out
    rw [HRES.out, e1, addT_nil, ← e1]
    exact HR.out
  · have hcp : 0 < cols := by omega
    have hq := quo_nat hn hcp
    have hcz : ((cols : Int) == 0) = false := by simp; omega
    clear hn
    go_enter Try.func111, Try.ntmps111
    go_wp2_with (go_at_call 95; with_reducible refine HCL.out.mono ?_; rintro e w1 ⟨O, co, rfl, hR, hb1⟩; have HR := Aside0.mk hR; have HB1 := Aside0.mk hb1; obtain ⟨x1, x2⟩ := HK.out w1 hb1; clear hR hb1)
    have HR0 : Aside0 (Kd.R fk 5 w1 w.heap.size (fun _ => True) (.slice O n co) (addSt tape each us (0 * each))) := ⟨by rw [Nat.zero_mul, addSt_zero]; exact HR.out⟩
    clear x1 x2 HR hq hcz
    go_loopw [35] (fun v35 wr => ∃ (c : Nat), c ≤ cols ∧ v35 = .int .i64 c ∧ Aside0 (Kd.R fk 5 wr w.heap.size (fun _ => True) (.slice O n co) (addSt tape each us (c * each))) ∧ Aside0 (Below w.heap.size w wr)) (fun v35 _ => cols - (intOf v35).toNat)
    case atStart => exact ⟨0, by omega, rfl, HR0, HB1⟩
    case round =>
      clear HR0 HB1
      obtain ⟨c, hc, rfl, HR, HB⟩ := hrel
      by_cases hlt : c < cols
      · obtain ⟨adX, Q, lc, rfl, hxq, hlq, hCq⟩ := PL_at (PL_below HP.out HB.out) c hlt
        have hpl := HPL.out c hlt
        have huc := HUS.out c
        have hud := HDEG.out c hlt
        obtain ⟨p, hp⟩ : ∃ p, p = polys.getD c [] := ⟨_, rfl⟩
        rw [← hp] at hxq hlq hCq hpl huc
        obtain ⟨u, hu⟩ : ∃ u, u = us c := ⟨_, rfl⟩
        rw [← hu] at huc hud
        have hYw := Kd.C_below HY.out HB.out
        have HDIV : Aside0 (Calls Try.prog 130 #[.pointer (some ⟨g, 0, none⟩), .slice Q p.length lc, .slice Y my cy] wr fun e w' => ∃ X1 Y1 ly, e = .returned (.tuple #[.slice X1 u.length u.length, .slice Y1 ly ly, .bool true]) ∧ RF w' wr.heap.size X1 u ∧ Fr (fun _ => False) wr w') := ⟨by
          refine (DivP_any wr g Q Y p.length my lc cy p fac low (HF.out.fr (Fr.of_below HB.out (fun _ => False)) (fun h => h)) hCq hYw hmy hpl hml HLOW.out).mono ?_
          rintro e w' ⟨X1, Y1, q, r, rfl, h1, h2, h3, h4, h5⟩
          have e1 : u = trimP q := by
            rw [huc]
            exact quoP_trim ⟨r, h3, by rw [HLOW.out]; omega⟩
          rw [e1]
          exact ⟨X1, Y1, _, rfl, h1, h5⟩⟩
        obtain ⟨lp, hlp⟩ : ∃ lp, lp = p.length := ⟨_, rfl⟩
        obtain ⟨lu, hlu⟩ : ∃ lu, lu = u.length := ⟨_, rfl⟩
        rw [← hlp] at HDIV hxq
        rw [← hlu] at HDIV hud
        have HLU := Aside0.mk hlu
        have HU := Aside0.mk hu
        obtain ⟨x1, x2⟩ := HK.out wr HB.out
        have hcI : (c : Int) < (cols : Int) := by omega
        clear hCq hYw hlq hpl huc hp hlp hlu hu
        go_wp2_with (go_at_call 130; with_reducible refine HDIV.out.mono ?_; rintro e w2 ⟨X1, Y1, ly, rfl, hX1, hf2⟩; have HX1 := Aside0.mk hX1; have HF2 := Aside0.mk hf2; clear hX1 hf2)
        have HR1 : Aside0 (Kd.R fk 5 w2 w.heap.size (fun _ => True) (.slice O n co) (addSt tape each us (c * each + 0))) := ⟨R_fr HR.out HF2.out (fun _ _ _ _ h => h)⟩
        have HB2 : Aside0 (Below w.heap.size w w2) := ⟨HB.out.trans (HF2.out.f_below.mono HB.out.size)⟩
        have HOB : Aside0 (∀ j, OB O j → j < wr.heap.size ∧ w.heap.size ≤ j) := ⟨fun j hj => ⟨Kd.R_lt HR.out j (ob_own hj), Kd.R_base HR.out j (ob_own hj)⟩⟩
        have HXB : Aside0 (0 < lu → ∀ j, OB X1 j → ¬ OB O j) := ⟨fun h j hj ho => by
          have h1 := (HX1.out.2 (by rw [← HLU.out]; exact h) j hj).1
          have h2 := (HOB.out j ho).1
          omega⟩
        clear HR HB x1 x2 HDIV
        go_loopw [53] (fun v53 wq => ∃ (k : Nat), k ≤ lu ∧ v53 = .int .i64 k ∧ Aside0 (Kd.R fk 5 wq w.heap.size (fun _ => True) (.slice O n co) (addSt tape each us (c * each + k))) ∧ Aside0 (Fr (fun j => OB O j) w2 wq)) (fun v53 _ => lu - (intOf v53).toNat)
        case atStart => exact ⟨0, by omega, rfl, HR1, ⟨Fr.refl _ _⟩⟩
        case round =>
          clear HR1
          obtain ⟨k, hk, rfl, HRk, HFk⟩ := hrel
          by_cases hku : k < lu
          · have hXk := C_fr' HX1.out.1 HFk.out (fun j hj _ ho => HXB.out (by omega) j hj ho)
            rw [← HLU.out] at hXk
            obtain ⟨aX, rfl, hcx⟩ := C_at hXk (Fr.refl (fun _ => False) wr) (fun _ h => h.elim) k hku
            have hm : c * each + k < n := by
              have h1 : (c + 1) * each ≤ cols * each := Nat.mul_le_mul_right _ hlt
              rw [Nat.add_mul, Nat.one_mul] at h1
              have h2 := HN.out
              rw [Nat.mul_comm] at h2
              omega
            have hstep := addSt_step (t := tape) (us := us) (c := c) (k := k) (n := each) (by omega) (by rw [HTL.out]; exact hm)
            have hget := addSt_get (t := tape) (n := each) (us := us) (m := c * each + k) (by rw [HTL.out]; exact hm)
            rw [← HU.out] at hstep
            obtain ⟨cm, hcm⟩ : ∃ cm, cm = c * each := ⟨_, rfl⟩
            have hRk := HRk.out
            rw [← hcm] at hm hstep hget hRk
            obtain ⟨m, hmm⟩ : ∃ m, m = cm + k := ⟨_, rfl⟩
            rw [← hmm] at hm hstep hget hRk
            obtain ⟨gO, rfl, hg1, hg2, _, hcell, hfz, hset⟩ := R_at (0 : F) hRk m hm
            rw [hget] at hcell
            obtain ⟨y, hy⟩ : ∃ y, y = tape.getD m 0 := ⟨_, rfl⟩
            obtain ⟨z, hz⟩ : ∃ z, z = u.getD k 0 := ⟨_, rfl⟩
            rw [← hy] at hcell hstep
            rw [← hz] at hcx hstep
            have hs2 := hset (y + z)
            rw [hstep] at hs2
            have hxr := xorF y z
            have HS2 : Aside0 (Kd.R fk 5 (wr.setCell ⟨gO, m, none⟩ (encF (y + z))) w.heap.size (fun _ => True) (.slice (some ⟨gO, 0, none⟩) n co) (addSt tape each us (c * each + (k + 1)))) := ⟨by
              rw [← Nat.add_assoc, ← hcm, ← hmm]
              exact hs2⟩
            have HF3 : Aside0 (Fr (fun j => OB (some ⟨gO, 0, none⟩) j) w2 (wr.setCell ⟨gO, m, none⟩ (encF (y + z)))) := ⟨HFk.out.set_ (p := ⟨gO, m, none⟩) (.inl ⟨_, rfl, rfl⟩) _⟩
            unfold encF at hcell HS2 HF3
            generalize y + z = yz at *
            have hw1 : IntKind.i64.wrap ((c : Int) * (each : Int)) = (cm : Int) := by
              rw [← Int.natCast_mul, ← hcm]
              exact IntWalk.i64_in _ ⟨by omega, by omega⟩
            have hw2 : IntKind.i64.wrap ((cm : Int) + (k : Int)) = (m : Int) := by
              rw [← Int.natCast_add, ← hmm]
              exact IntWalk.i64_in _ ⟨by omega, by omega⟩
            have hmI : (m : Int) < (n : Int) := by omega
            have hkI : (k : Int) < (lu : Int) := by omega
            clear hset hs2 hstep hget hRk hcm hmm hy hz hXk HRk
            go_wp2
            go_roundw
            case rel => exact ⟨k + 1, by omega, by go_num, HS2, HF3⟩
            case measure => simp [intOf]; omega
          · obtain rfl : lu = k := by omega
            have HR2 : Aside0 (Kd.R fk 5 wr w.heap.size (fun _ => True) (.slice O n co) (addSt tape each us ((c + 1) * each))) := ⟨by
              rw [← addSt_row (l := lu) hud (fun i hi => by rw [← HU.out]; exact cf_ge _ _ (by rw [← HLU.out]; exact hi))]
              exact HRk.out⟩
            have HB3 : Aside0 (Below w.heap.size w wr) := ⟨HB2.out.trans (HFk.out.below HB2.out.size (fun j hj => (HOB.out j hj).2))⟩
            clear HRk HFk
            go_wp2
            go_roundw
            case rel => exact ⟨c + 1, by omega, by go_num, HR2, HB3⟩
            case measure => simp [intOf]; omega
      · obtain rfl : cols = c := by omega
        have hres : addSt tape each us (cols * each) = res := by
          rw [HRES.out]
          exact addSt_all (by rw [HTL.out, HN.out, Nat.mul_comm]; exact Nat.le_refl _)
        have hR := HR.out
        rw [hres] at hR
        have HR2 := Aside0.mk hR
        clear hres hR
        go_wp2
        go_ret
        exact ⟨O, co, rfl, HR2.out, HB.out⟩
end Go.Proofs.Ytpeiejkcoadhfaa
namespace Go.Proofs.Ytpeiejkcoadhfaa
open Go.RowKit Go.Shelf Go.Proofs.YtpeiejkcoadhfaaW.PrintWords Go.Proofs.YtpeiejkcoadhfaaW.PrintMore
open Go.BigFrame
attribute [local go_sem] Oper.semAt_some
def sumTo (ps qs : List (List F)) (k : Nat) : List (List F) := (List.range k).map fun i => trimP (addP (ps.getD i []) (qs.getD i []))
theorem sumTo_succ (ps qs : List (List F)) (k : Nat) : sumTo ps qs (k + 1) = sumTo ps qs k ++ [trimP (addP (ps.getD k []) (qs.getD k []))] := by simp [sumTo, List.range_succ]
set_option maxRecDepth 100000 in
set_option maxHeartbeats 3200000 in
theorem vsum_any (w : World) (A : Option Addr) (n c : Nat) (ps : List (List F)) (B : Option Addr) (d : Nat) (qs : List (List F)) (hA : PL w A n ps) (hB : PL w B n qs) (hn : n ≤ 1000) (hp : ∀ i, i < n → (ps.getD i []).length ≤ 1000000) (hq : ∀ i, i < n → (qs.getD i []).length ≤ 1000000) :
    Calls Try.prog 112 #[.slice A n c, .slice B n d] w fun e w' => ∃ D cd, e = .returned (.slice D n cd) ∧ PolyJ w' w.heap.size (.slice D n cd) (sumTo ps qs n) ∧ Below w.heap.size w w' := by
  have HA := Aside0.mk hA
  have HB := Aside0.mk hB
  have HP := Aside0.mk hp
  have HQ := Aside0.mk hq
  obtain ⟨sT, hsT⟩ : ∃ sT : Nat → List (List F), sT = fun k => sumTo ps qs k := ⟨_, rfl⟩
  have HS0 : Aside0 (sT 0 = []) := ⟨by rw [hsT]; rfl⟩
  have HSS : Aside0 (∀ k, sT (k + 1) = sT k ++ [trimP (addP (ps.getD k []) (qs.getD k []))]) := ⟨fun k => by rw [hsT]; exact sumTo_succ ps qs k⟩
  have HSE : Aside0 (sumTo ps qs n = sT n) := ⟨by rw [hsT]⟩
  rw [HSE.out]
  clear hA hB hp hq hsT HSE
  go_enter Try.func112, Try.ntmps112
  go_wp2
  go_loopw [5, 9] (fun v5 v9 wr => ∃ (k cp : Nat) (D : Option Addr), k ≤ n ∧ v9 = .int .i64 k ∧ v5 = .slice D k cp ∧ Aside0 (PolyJ wr w.heap.size (.slice D k cp) (sT k)) ∧ Aside0 (Below w.heap.size w wr)) (fun _ v9 _ => n - (intOf v9).toNat)
  case atStart => exact ⟨0, 0, none, by omega, rfl, rfl, ⟨by rw [HS0.out]; exact pj_nil _ _⟩, ⟨Below.refl _ _⟩⟩
  case round =>
    obtain ⟨k, cp, D, hk, rfl, rfl, HJ, HBW⟩ := hrel
    by_cases hlt : k < n
    · obtain ⟨adA, A1, c1, rfl, hx1, hl1, hC1⟩ := PL_at HA.out k hlt
      obtain ⟨adB, B1, d1, rfl, hx2, hl2, hC2⟩ := PL_at HB.out k hlt
      have hlp := HP.out k hlt
      have hlq := HQ.out k hlt
      have hsk := HSS.out k
      obtain ⟨p, hpp⟩ : ∃ p, p = ps.getD k [] := ⟨_, rfl⟩
      obtain ⟨q, hqq⟩ : ∃ q, q = qs.getD k [] := ⟨_, rfl⟩
      rw [← hpp] at hx1 hl1 hC1 hlp hsk
      rw [← hqq] at hx2 hl2 hC2 hlq hsk
      have HADD := Aside0.mk (Add_any wr.drew A1 B1 p.length q.length c1 d1 p q (Kd.C_below hC1 HBW.out.drew) (Kd.C_below hC2 HBW.out.drew) (by omega) (by omega))
      obtain ⟨r, hr⟩ : ∃ r, r = trimP (addP p q) := ⟨_, rfl⟩
      rw [← hr] at HADD hsk
      obtain ⟨lp, hlp2⟩ : ∃ lp, lp = p.length := ⟨_, rfl⟩
      obtain ⟨lq, hlq2⟩ : ∃ lq, lq = q.length := ⟨_, rfl⟩
      obtain ⟨lr, hlr⟩ : ∃ lr, lr = r.length := ⟨_, rfl⟩
      rw [← hlp2] at HADD hx1
      rw [← hlq2] at HADD hx2
      rw [← hlr] at HADD
      have HK : Aside0 (∀ W, Below w.heap.size w W → W.cell? (adA.add k) = some (.slice A1 lp c1) ∧ W.cell? (adB.add k) = some (.slice B1 lq d1)) := ⟨fun W hW => ⟨(Fr.of_below hW (fun _ => False)).cell hx1 (fun h => h), (Fr.of_below hW (fun _ => False)).cell hx2 (fun h => h)⟩⟩
      have HSTEP : Aside0 (∀ W2 X, RF W2 wr.drew.heap.size X r → Fr (fun _ => False) wr.drew W2 → ∃ D2 c2 W3, (Builtin.append_ #[37, 37] 37 #[.slice D k cp, .slice (some ⟨W2.heap.size, 0, none⟩) 1 1]).run Try.prog (W2.alloc (.cells #[.slice X lr lr] 36)) = .ok (.slice D2 (k + 1) c2) W3 ∧ Aside0 (PolyJ W3 w.heap.size (.slice D2 (k + 1) c2) (sT (k + 1))) ∧ Aside0 (Below w.heap.size w W3) ∧
          Aside0 (W2.cell? (adA.add k) = some (.slice A1 lp c1) ∧ W2.cell? (adB.add k) = some (.slice B1 lq d1)) ∧ Aside0 ((W2.alloc (.cells #[.slice X lr lr] 36)).cell? (adA.add k) = some (.slice A1 lp c1) ∧ (W2.alloc (.cells #[.slice X lr lr] 36)).cell? (adB.add k) = some (.slice B1 lq d1)) ∧ Aside0 (W3.cell? (adA.add k) = some (.slice A1 lp c1) ∧ W3.cell? (adB.add k) = some (.slice B1 lq d1))) := ⟨fun W2 X hX hf => by
        have hbw2 : Below wr.heap.size wr W2 := of_drew hf.f_below
        have hb2 : Below w.heap.size w W2 := HBW.out.trans (hbw2.mono HBW.out.size)
        have hJ2 := pj_below HJ.out (Fr.of_below hbw2 (fun _ => False))
        obtain ⟨D2, c2, W3, hrun, hJ3, hb3, hf3⟩ := pj_push hJ2 hb2 X r r.length (RF_lower hX HBW.out.size) (Nat.le_refl _) (by omega)
        rw [← hlr] at hrun
        exact ⟨D2, c2, W3, hrun, ⟨by rw [hsk]; exact hJ3⟩, ⟨hb3⟩, ⟨HK.out _ hb2⟩, ⟨HK.out _ (below_alloc hb2 _)⟩, ⟨HK.out _ hb3⟩⟩⟩
      have hkI : (k : Int) < (n : Int) := by omega
      clear hl1 hC1 hl2 hC2 hlp hlq hsk hpp hqq hr hlp2 hlq2 hlr
      obtain ⟨y1, y2⟩ := HK.out wr HBW.out
      go_wp2
      clear y1 y2
      have k0 := Aside0.mk (HK.out wr.drew HBW.out.drew)
      refine wp_region_held_drew (S := (fun W => W.cell? (adA.add k) = some (.slice A1 lp c1) ∧ W.cell? (adB.add k) = some (.slice B1 lq d1))) (by kernel_rfl) (k0.out) (fun hS => ?_)
      refine takeD 0 12 (v := ?_) rfl rfl (by kernel_rfl) (by kernel_rfl) (by kernel_rfl) (fun _ _ _ h => h) (Or.inl ⟨by rfl, ?_⟩) hS ?_
      rotate_left 1
      focus (intro w hSw; (try dsimp only at hSw); go_simp; (try with_reducible rfl); done)
      try simp only [Act.put, List.setIfInBounds_toArray, List.set_cons_zero, List.set_cons_succ]
      refine takeD 1 13 (v := ?_) rfl rfl (by kernel_rfl) (by kernel_rfl) (by kernel_rfl) (fun _ _ _ h => h) (Or.inl ⟨by rfl, ?_⟩) hS ?_
      rotate_left 1
      focus (intro w hSw; (try dsimp only at hSw); go_simp; (try with_reducible rfl); done)
      try simp only [Act.put, List.setIfInBounds_toArray, List.set_cons_zero, List.set_cons_succ]
      refine takeD 2 14 (v := ?_) rfl rfl (by kernel_rfl) (by kernel_rfl) (by kernel_rfl) (fun _ _ _ h => h) (Or.inl ⟨by rfl, ?_⟩) hS ?_
      rotate_left 1
      focus (intro w hSw; (try dsimp only at hSw); go_simp; (try with_reducible rfl); done)
      try simp only [Act.put, List.setIfInBounds_toArray, List.set_cons_zero, List.set_cons_succ]
      refine takeD 3 15 (v := ?_) rfl rfl (by kernel_rfl) (by kernel_rfl) (by kernel_rfl) (fun _ _ _ h => h) (Or.inl ⟨by rfl, ?_⟩) hS ?_
      rotate_left 1
      focus (intro w hSw; (try dsimp only at hSw); go_simp; (try with_reducible rfl); done)
      try simp only [Act.put, List.setIfInBounds_toArray, List.set_cons_zero, List.set_cons_succ]
      refine takeD 4 16 (v := ?_) rfl rfl (by kernel_rfl) (by kernel_rfl) (by kernel_rfl) (fun _ _ _ h => h) (Or.inl ⟨by rfl, ?_⟩) hS ?_
      rotate_left 1
      focus (intro w hSw; (try dsimp only at hSw); go_simp; (try with_reducible rfl); done)
      try simp only [Act.put, List.setIfInBounds_toArray, List.set_cons_zero, List.set_cons_succ]
      refine takeD 5 17 (v := ?_) rfl rfl (by kernel_rfl) (by kernel_rfl) (by kernel_rfl) (fun _ _ _ h => h) (Or.inl ⟨by rfl, ?_⟩) hS ?_
      rotate_left 1
      focus (intro w hSw; (try dsimp only at hSw); go_simp; (try with_reducible rfl); done)
      try simp only [Act.put, List.setIfInBounds_toArray, List.set_cons_zero, List.set_cons_succ]
      refine takeD 6 18 (v := ?_) rfl rfl (by kernel_rfl) (by kernel_rfl) (by kernel_rfl) (fun _ _ _ h => h) (Or.inl ⟨by rfl, ?_⟩) hS ?_
      rotate_left 1
      focus (intro w hSw; (try dsimp only at hSw); go_simp; (try with_reducible rfl); done)
      try simp only [Act.put, List.setIfInBounds_toArray, List.set_cons_zero, List.set_cons_succ]
      refine takeD 7 19 (v := ?_) rfl rfl (by kernel_rfl) (by kernel_rfl) (by kernel_rfl) (fun _ _ _ h => h) (Or.inl ⟨by rfl, ?_⟩) hS ?_
      rotate_left 1
      focus (intro w hSw; (try dsimp only at hSw); go_simp; (try with_reducible rfl); done)
      try simp only [Act.put, List.setIfInBounds_toArray, List.set_cons_zero, List.set_cons_succ]
      refine takeD 8 20 (v := ?_) rfl rfl (by kernel_rfl) (by kernel_rfl) (by kernel_rfl) (fun _ _ _ h => h) (Or.inl ⟨by rfl, ?_⟩) hS ?_
      rotate_left 1
      focus (intro w hSw; (try dsimp only at hSw); go_simp; (try with_reducible rfl); done)
      try simp only [Act.put, List.setIfInBounds_toArray, List.set_cons_zero, List.set_cons_succ]
      refine wpAnyH_ready (rs := [9]) (by kernel_rfl) (by simp) ?_
      refine AllReadyH.cons rfl (fun K hK => ?_) AllReadyH.nil
      rw [if_pos (by rfl)]
      go_simp
      go_at_call 86; with_reducible refine HADD.out.mono ?_; rintro e W2 ⟨X, rfl, hX, hf2⟩; obtain ⟨D2, c2, W3, hrun, HJ3, HB3, k1, k2, k3⟩ := HSTEP.out W2 X hX hf2; clear hX hf2
      refine hK.out _ _ (by first | with_reducible exact k3.out | with_reducible exact k2.out | with_reducible exact k1.out) (fun hS2 => ?_)
      clear hK K hS
      have hS := hS2
      clear hS2
      try simp only [Act.put, List.setIfInBounds_toArray, List.set_cons_zero, List.set_cons_succ]
      refine wpAnyH_ready (rs := [10]) (by kernel_rfl) (by simp) ?_
      refine AllReadyH.cons rfl (fun K hK => ?_) AllReadyH.nil
      rw [if_pos (by rfl)]
      go_simp
      refine hK.out _ _ (by first | with_reducible exact k3.out | with_reducible exact k2.out | with_reducible exact k1.out) (fun hS2 => ?_)
      clear hK K hS
      have hS := hS2
      clear hS2
      try simp only [Act.put, List.setIfInBounds_toArray, List.set_cons_zero, List.set_cons_succ]
      refine wpAnyH_ready (rs := [11]) (by kernel_rfl) (by simp) ?_
      refine AllReadyH.cons rfl (fun K hK => ?_) AllReadyH.nil
      refine step_append_run rfl _ _ _ _ rfl rfl rfl hrun ?_
      refine hK.out _ _ (by first | with_reducible exact k3.out | with_reducible exact k2.out | with_reducible exact k1.out) (fun hS2 => ?_)
      clear hK K hS
      have hS := hS2
      clear hS2
      try simp only [Act.put, List.setIfInBounds_toArray, List.set_cons_zero, List.set_cons_succ, List.getElem_toArray, List.getElem_cons_zero, List.getElem_cons_succ]
      refine takeD 12 5 (v := ?_) rfl rfl (by kernel_rfl) (by kernel_rfl) (by kernel_rfl) (fun _ _ _ h => h) (Or.inl ⟨by rfl, ?_⟩) hS ?_
      rotate_left 1
      focus (intro w hSw; (try dsimp only at hSw); go_simp; (try with_reducible rfl); done)
      try simp only [Act.put, List.setIfInBounds_toArray, List.set_cons_zero, List.set_cons_succ]
      refine wpAnyH_done (by kernel_rfl) ?_ _
      clear hrun k0 k1 k2 k3 hS HADD HSTEP
      go_wp2
      go_roundw
      case rel => exact ⟨k + 1, c2, D2, by omega, by go_num, rfl, HJ3, HB3⟩
      case measure => simp [intOf]; omega
    · obtain rfl : n = k := by omega
      go_wp2
      go_ret
      exact ⟨D, cp, rfl, HJ.out, HBW.out⟩
end Go.Proofs.Ytpeiejkcoadhfaa

/- The laws DealParams and DealPoints, walked. -/
import Derived.Test.YtpeiejkcoadhfaaDkG
import Derived.Test.YtpeiejkcoadhfaaDkA
set_option linter.all false
namespace Go.Proofs.Ytpeiejkcoadhfaa
open Go.RowKit Go.Shelf Go.Proofs.YtpeiejkcoadhfaaW.PrintWords Go.Proofs.YtpeiejkcoadhfaaW.PrintMore
open Go.BigFrame
attribute [local go_sem] Oper.semAt_some

set_option maxRecDepth 100000 in
set_option maxHeartbeats 1600000 in
theorem params_law (w : World) (cs : Array Value) (p : Par) (hK : kpar.K w p cs.toList) (hw : wfPar p) :
    Calls Try.prog 13 #[.agg cs] w fun e w' => e = .returned (.bool true) ∧ Below w.heap.size w w' := by
  rw [par_cs hK]
  obtain ⟨N, T, K, E, Rm⟩ := p
  have hNb := i64_bd hw.1
  have HGD := Aside0.mk (fun W => Good_any W N T K E Rm hNb)
  have HGR := Aside0.mk (fun W => RGood_any W N T K E Rm hNb)
  obtain ⟨gb, hgb⟩ : ∃ gb, gb = goodB N T K E Rm := ⟨_, rfl⟩
  rw [← hgb] at HGD HGR
  have HAN := Aside0.mk answers10
  obtain ⟨w0, hw0, hz0, a0, hb0⟩ := heap1 w (Obj.cells #[.int .i64 N, .int .i64 T, .int .i64 K, .int .i64 E, .int .i64 Rm] 48)
  obtain ⟨s, hs⟩ : ∃ s, s = w.heap.size := ⟨_, rfl⟩
  rw [← hs] at a0
  have HG : Aside0 (∀ W, Fr (fun _ => False) w0 W → W.cell? ⟨s, 0, none⟩ = some (.int .i64 N) ∧ W.cell? ⟨s, 1, none⟩ = some (.int .i64 T) ∧ W.cell? ⟨s, 2, none⟩ = some (.int .i64 K) ∧ W.cell? ⟨s, 3, none⟩ = some (.int .i64 E) ∧ W.cell? ⟨s, 4, none⟩ = some (.int .i64 Rm)) :=
    ⟨fun W hW => by
      have h1 := hW.blk a0 (fun h => h)
      exact ⟨cell_at h1 rfl, cell_at h1 rfl, cell_at h1 rfl, cell_at h1 rfl, cell_at h1 rfl⟩⟩
  have HB0 := Aside0.mk hb0
  have HS := Aside0.mk hs
  have HW0 := Aside0.mk hw0
  clear a0 hb0 hz0 hw0 hs hgb hNb hw hK
  have hu48 := Try.underlying48
  unfold parV at *
  go_enter Try.func13, Try.ntmps13
  go_wp2
  rw [← HW0.out, ← HS.out]
  have S1 := HG.out w0 (Fr.refl _ _)
  go_region_held3 (fun W => W.cell? ⟨s, 0, none⟩ = some (.int .i64 N) ∧ W.cell? ⟨s, 1, none⟩ = some (.int .i64 T) ∧ W.cell? ⟨s, 2, none⟩ = some (.int .i64 K) ∧ W.cell? ⟨s, 3, none⟩ = some (.int .i64 E) ∧ W.cell? ⟨s, 4, none⟩ = some (.int .i64 Rm))
    (first | exact S4 | exact S3 | exact S2 | exact HG.out _ ((Fr.refl _ w0).drew))
    (first
      | (go_at_call 42; with_reducible refine (HAN.out _).mono ?_; rintro e W2 ⟨rfl, hf2⟩; have HF2 := Aside0.mk ((Fr.refl _ w0).drew.trans' hf2); have S2 := HG.out W2 HF2.out; clear hf2)
      | (go_at_call 43; with_reducible refine (HGD.out _).mono ?_; rintro e W3 ⟨rfl, hb3⟩; have HF3 := Aside0.mk (HF2.out.below_ hb3); have S3 := HG.out W3 HF3.out; clear hb3)
      | (go_at_call 44; with_reducible refine (HGR.out _).mono ?_; rintro e W4 ⟨rfl, hb4⟩; have HF4 := Aside0.mk (HF3.out.below_ hb4); have S4 := HG.out W4 HF4.out; clear hb4))
  all_goals
    go_wp2
    go_ret
    exact ⟨by simp, HB0.out.trans (HF4.out.f_below.mono HB0.out.size)⟩

theorem u16_nt {a : Int} (h : (Lit.int .u16 a).wf = true) : ∃ n : Nat, a = (n : Int) ∧ n < 65536 := by
  have h1 : 0 ≤ a ∧ a ≤ 65535 := by simpa [Lit.wf, IntKind.min, IntKind.max, IntKind.signed, IntKind.bits] using h
  exact ⟨a.toNat, by omega, by omega⟩
/-- All that are in range are natural numbers. -/
theorem nats_of (l : List Int) (h : ∀ i, i < l.length → 0 ≤ l.getD i 0 ∧ l.getD i 0 ≤ 300) : ∃ hs : List Nat, l = hs.map (fun x : Nat => (x : Int)) ∧ ∀ x ∈ hs, x ≤ 300 := by
  induction l with
  | nil => exact ⟨[], rfl, fun x hx => by cases hx⟩
  | cons a l ih =>
    obtain ⟨hs, h1, h2⟩ := ih (fun i hi => by have := h (i + 1) (by simpa using hi); simpa using this)
    have h0 := h 0 (by simp)
    have h0' : 0 ≤ a ∧ a ≤ 300 := by simpa using h0
    refine ⟨a.toNat :: hs, by rw [List.map_cons, ← h1]; congr 1; omega, fun x hx => ?_⟩
    rcases List.mem_cons.1 hx with h3 | h3
    · omega
    · exact h2 x h3
theorem int_at {w : World} {A : Option Addr} {n : Nat} {p : List Int} (h : Kd.C ki w A n p) (k : Nat) (hk : k < n) : ∃ ad, A = some ad ∧ w.cell? (ad.add k) = some (.int .i64 (p.getD k 0)) := by
  obtain ⟨ad, e, hc⟩ := (Kd.reads_of_C (enc := Value.int .i64) (d := (0 : Int)) (h1 := fun _ => rfl) h).2.2 (by omega)
  exact ⟨ad, e, hc k hk⟩

/-- 'make([]byte, 0, k)', k great. -/
theorem make0_u8 (k : Nat) (hk : k ≤ 35184372088832) (W : World) :
    (Instr.makeSlice 36 (.int .i64 0) (.int .i64 (k : Int))).run Try.prog W = .ok (.slice (some ⟨W.heap.size, 0, none⟩) 0 k) (W.alloc (.cells (Array.replicate k (.int .u8 0)) 5)) := by
  obtain ⟨i0, hi, hz0, hz1, hz2⟩ := info_parts info5
  have hr := run_make (P := Try.prog) W 36 5 i0 _ Try.underlying36 hi hz0 .i64 .i64 (0 : Int) (k : Int) (by omega) (by omega) (by rw [hz2]; omega) (by omega)
  simp only [Int.toNat_natCast] at hr
  rw [hz1] at hr
  have hzc : madeCells (Value.cells (.int .u8 0)) (k * 1) = Array.replicate k (.int .u8 0) := by
    rw [show Value.cells (.int .u8 0) = #[.int .u8 0] from rfl]
    apply Array.ext
    · simp [madeCells]
    · intro i h1 h2
      simp [madeCells, Nat.mod_one]
  rw [hzc] at hr
  exact hr
theorem R_made0_big {α : Type} {enc : α → Value} {h1 : ∀ x, (enc x).oneCell' = true} (W : World) (base e k : Nat) (z : Value) (hk : k ≤ 35184372088832) (hb : base ≤ W.heap.size) : Kd.R (Kd.scalar enc h1) e (W.alloc (.cells (Array.replicate k z) e)) base (fun _ => True) (.slice (some ⟨W.heap.size, 0, none⟩) 0 k) ([] : List α) := by
  refine Kd.R_of_own ?_ (fun j _ => trivial)
  exact ⟨by simp [encs], .inr ⟨W.heap.size, k, Array.replicate k z, by simp, hb, blk_new _ _, by simp, by simp only [maxLen]; omega, by simp, by simp [encs]⟩⟩
set_option maxRecDepth 100000 in
set_option maxHeartbeats 800000 in
theorem Points_big (w : World) (N T K E Rm : Int) (A : Option Addr) (n c : Nat) (hs : List Nat) (hC : Kd.C kn w A n hs) (hn : n ≤ 35184372088832) :
    Calls Try.prog 45 #[parV N T K E Rm, .slice A n c] w fun e w' => ∃ B d, e = .returned (.slice B n d) ∧ Kd.R fk 5 w' w.heap.size (fun _ => True) (.slice B n d) (hs.map ptF) ∧ Below w.heap.size w w' := by
  have hmk := fun W : World => make0_u8 n hn W
  have HCL := Aside0.mk (Kd.C_len hC)
  have HC := Aside0.mk hC
  unfold parV
  have hu48 := Try.underlying48
  clear hC
  go_enter Try.func45, Try.ntmps45
  go_wp2
  have HR0 := Aside0.mk (R_made0_big (enc := encF) (h1 := fun _ => rfl) (w.alloc (Obj.cells #[Value.int IntKind.i64 N, Value.int IntKind.i64 T, Value.int IntKind.i64 K, Value.int IntKind.i64 E, Value.int IntKind.i64 Rm] 48)) w.heap.size 5 n (.int .u8 0) hn (by simp))
  have hb0 : Below w.heap.size w (w.alloc (Obj.cells #[Value.int IntKind.i64 N, Value.int IntKind.i64 T, Value.int IntKind.i64 K, Value.int IntKind.i64 E, Value.int IntKind.i64 Rm] 48)) := below_alloc (Below.refl _ _) _
  have HB0 := Aside0.mk (below_alloc hb0 (Obj.cells (Array.replicate n (Value.int IntKind.u8 0)) 5))
  clear hb0 hmk
  go_loopw [5, 13] (fun v5 v13 wr => ∃ (k d : Nat) (B : Option Addr), k ≤ n ∧ v13 = .int .i64 k ∧ v5 = .slice B k d ∧ Aside0 (Kd.R fk 5 wr w.heap.size (fun _ => True) (.slice B k d) ((hs.take k).map ptF)) ∧ Aside0 (Below w.heap.size w wr)) (fun _ v13 _ => n - (intOf v13).toNat)
  case atStart => exact ⟨0, n, _, by omega, rfl, rfl, ⟨by simpa using HR0.out⟩, HB0⟩
  case round =>
    clear HR0 HB0
    obtain ⟨k, d, B, hk, rfl, rfl, HR, HB⟩ := hrel
    by_cases hlt : k < n
    · obtain ⟨ad, rfl, hcell⟩ := nat_at HC.out (Fr.of_below HB.out (fun _ => False)) (fun _ h => h.elim) k hlt
      have HSN := Aside0.mk (map_take_snoc ptF 0 hs k (by rw [HCL.out]; exact hlt))
      obtain ⟨m, hm⟩ : ∃ m, m = hs.getD k 0 := ⟨_, rfl⟩
      rw [← hm] at hcell HSN
      clear hm
      have HP := Aside0.mk (fun W => Point_any W m)
      obtain ⟨x, hx⟩ : ∃ x, x = ptF m := ⟨_, rfl⟩
      rw [← hx] at HP HSN
      clear hx
      have HPU := R_pushes (P := Try.prog) encF 0 (h1 := fun _ => rfl) wr w 36 5 (.int .u8 0) 1 Try.underlying36 info5 rfl HR.out HB.out x k _ (by rw [List.length_map, List.length_take, HCL.out]; omega) HSN.out (by omega) (by omega)
      go_wp2_with (first | (go_at_call 81; refine (HP.out _).mono ?_; rintro e W1 ⟨rfl, hd⟩; obtain ⟨B', d', W', hX, HR', HB'⟩ := HPU.out W1 hd.below; unfold encF at hX; replace hX := Aside0.mk hX; clear hd) | (at_builtin; refine wpList_append_run rfl _ _ _ _ rfl rfl rfl hX.out ?_))
      go_roundw
      case rel => exact ⟨k + 1, d', B', by omega, by go_num, rfl, HR', HB'⟩
      case measure => simp [intOf]; omega
    · obtain rfl : k = n := by omega
      go_wp2
      go_ret
      have h := HR.out
      rw [List.take_of_length_le (by rw [HCL.out]; exact Nat.le_refl _)] at h
      exact ⟨B, d, rfl, h, HB.out⟩

theorem conv_all {W1 : World} {B : Option Addr} {n : Nat} {p : List F} (h : Kd.C fk W1 B n p) (d : Nat) : ∀ W, Fr (fun _ => False) W1 W → (convert 36 9 (.slice B n d)).run Try.prog W = .ok (.string (strOfNums (bs p))) W := fun _ hW =>
  Kd.C_string (P := Try.prog) (c := d) Try.underlying36 Try.underlying5 Try.underlying9 (C_bs.2 (Kd.C_below h hW.f_below))
set_option maxRecDepth 100000 in
set_option maxHeartbeats 3200000 in
theorem points_law (w : World) (cs : Array Value) (p : Par) (hK : kpar.K w p cs.toList) (hw : wfPar p) (A : Option Addr) (len c : Nat) (l : List Int) (hl : l.length = len) (hC : Kd.C ki w A len l) (hc : len ≤ c) (hwl : ∀ a ∈ l, (Lit.int .i64 a).wf = true) (hsz : len * 8 ≤ 140737488351232) (kind : Int) (hkind : (Lit.int .i64 kind).wf = true) (cols : Int) (hcols : (Lit.int .u16 cols).wf = true) :
    Calls Try.prog 14 #[.agg cs, .slice A len c, .int .i64 kind, .int .u16 cols] w fun e w' => e = .returned (.bool true) ∧ Below w.heap.size w w' := by
  rw [par_cs hK]
  obtain ⟨N, T, K, E, Rm⟩ := p
  have hNb := i64_bd hw.1
  have hlm : len ≤ 35184372088832 := by omega
  have HGR := Aside0.mk (fun W => RGood_any W N T K E Rm hNb)
  have HAN := Aside0.mk answers10
  have HCI := Aside0.mk hC
  have HLN := Aside0.mk hl
  obtain ⟨m, rfl, hm⟩ := u16_nt hcols
  by_cases hg : goodB N T K E Rm = true
  · obtain ⟨n, t, k, rfl, rfl, rfl, hn, ht1, ht, hk1, hk, hnk, _⟩ := gd_nat (good_true hg)
    rw [hg] at HGR
    obtain ⟨w0, hw0, hz0, a0, hb0⟩ := heap1 w (Obj.cells #[.int .i64 n, .int .i64 t, .int .i64 k, .int .i64 E, .int .i64 Rm] 48)
    obtain ⟨s, hs⟩ : ∃ s, s = w.heap.size := ⟨_, rfl⟩
    rw [← hs] at a0
    have HG : Aside0 (∀ W, Fr (fun _ => False) w0 W → W.cell? ⟨s, 0, none⟩ = some (.int .i64 n) ∧ W.cell? ⟨s, 1, none⟩ = some (.int .i64 t) ∧ W.cell? ⟨s, 2, none⟩ = some (.int .i64 k) ∧ W.cell? ⟨s, 3, none⟩ = some (.int .i64 E) ∧ W.cell? ⟨s, 4, none⟩ = some (.int .i64 Rm)) :=
      ⟨fun W hW => by
        have h1 := hW.blk a0 (fun h => h)
        exact ⟨cell_at h1 rfl, cell_at h1 rfl, cell_at h1 rfl, cell_at h1 rfl, cell_at h1 rfl⟩⟩
    have HB0 := Aside0.mk hb0
    have HS := Aside0.mk hs
    have HW0 := Aside0.mk hw0
    clear a0 hb0 hz0 hw0 hs hNb hw hK hC hl hg hcols hkind hwl
    have hu48 := Try.underlying48
    unfold parV at *
    go_enter Try.func14, Try.ntmps14
    go_wp2_with (go_at_call 44; rw [← HW0.out]; with_reducible refine (HGR.out _).mono ?_; rintro e W1 ⟨rfl, hb1⟩; have HF1 := Aside0.mk (Fr.of_below hb1 (fun _ => False)); clear hb1)
    rw [← HS.out]
    have HC1 := Aside0.mk (Kd.C_below (Kd.C_below HCI.out HB0.out) HF1.out.f_below)
    go_loop [9] (fun v9 => ∃ j : Nat, j ≤ len ∧ v9 = .int .i64 (j : Int) ∧ Aside0 (∀ i, i < j → 0 ≤ l.getD i 0 ∧ l.getD i 0 ≤ 300)) (fun v9 => len - (intOf v9).toNat)
    case atStart => exact ⟨0, by omega, rfl, ⟨fun i hi => absurd hi (by omega)⟩⟩
    case round =>
      obtain ⟨j, hj, rfl, HJ⟩ := hrel
      by_cases hlt : j < len
      · obtain ⟨ad, rfl, hcell⟩ := int_at HC1.out j hlt
        obtain ⟨x, hx⟩ : ∃ x, x = l.getD j 0 := ⟨_, rfl⟩
        rw [← hx] at hcell
        have hjI : (j : Int) < (len : Int) := by omega
        by_cases hx0 : x < 0
        · clear hx
          go_wp2_with (go_at_call 42; with_reducible refine (HAN.out _).mono ?_; rintro e W2 ⟨rfl, hf2⟩)
          go_ret
          exact ⟨rfl, HB0.out.trans ((HF1.out.trans' hf2).f_below.mono HB0.out.size)⟩
        · by_cases hx3 : x > 300
          · clear hx
            go_wp2_with (go_at_call 42; with_reducible refine (HAN.out _).mono ?_; rintro e W2 ⟨rfl, hf2⟩)
            go_ret
            exact ⟨rfl, HB0.out.trans ((HF1.out.trans' hf2).f_below.mono HB0.out.size)⟩
          · have HJ' : Aside0 (∀ i, i < j + 1 → 0 ≤ l.getD i 0 ∧ l.getD i 0 ≤ 300) := ⟨fun i hi => by
              rcases Nat.lt_or_ge i j with h | h
              · exact HJ.out i h
              · obtain rfl : i = j := by omega
                rw [← hx]; omega⟩
            clear hx
            go_wp2
            go_round
            case rel => exact ⟨j + 1, by omega, by go_num, HJ'⟩
            case measure => simp [intOf]; omega
      · obtain rfl : j = len := by omega
        obtain ⟨hs, hhs, hle⟩ := nats_of l (fun i hi => HJ.out i (by rw [HLN.out] at hi; exact hi))
        have hcn := HC1.out
        rw [hhs] at hcn
        have hcn := C_kn.1 hcn
        have HCN := Aside0.mk hcn
        have HPB := Aside0.mk (fun W (hW : Fr (fun _ => False) W1 W) => Points_big W n t k E Rm A j c hs (Kd.C_below hcn hW.f_below) hlm)
        have HRX := Aside0.mk (fun W (hW : Fr (fun _ => False) W1 W) => RXs_any W A j c hs (Kd.C_below hcn hW.f_below) hc hlm (fun x hx => by have := hle x hx; omega))
        have HSE := Aside0.mk (fun W => Secrets_any W n k t E Rm (by omega) (by omega))
        have HRS := Aside0.mk (fun W => RSecrets_any W n t k E Rm (by omega) (by omega))
        have hq : (m : Int) % 4097 = ((m % 4097 : Nat) : Int) := by omega
        obtain ⟨q, hqe⟩ : ∃ q, q = m % 4097 := ⟨_, rfl⟩
        have hq1 : q ≤ 4096 := by omega
        rw [← hqe] at hq
        have HND := Aside0.mk (fun W => Need_any W n t k E Rm kind q (by omega) (by omega) (by omega) (by omega))
        have HEA := Aside0.mk (fun W => REach_any W n t k E Rm kind (by omega) (by omega) (by omega))
        have henl := eachN_le t k kind (by omega) (by omega)
        obtain ⟨en, hen⟩ : ∃ en, en = eachN t k kind := ⟨_, rfl⟩
        rw [← hen] at HND HEA henl
        have hmul : IntKind.i64.wrap ((en : Int) * (q : Int)) = ((en * q : Nat) : Int) := by
          have := Nat.mul_le_mul henl hq1
          rw [← Int.natCast_mul, IntWalk.i64_in _ ⟨by omega, by omega⟩]
        generalize en * q = eq at *
        unfold parV at *
        have S1 := HG.out W1 HF1.out
        have hF1 := HF1
        obtain ⟨ps, hps⟩ : ∃ ps, ps = hs.map ptF := ⟨_, rfl⟩
        obtain ⟨ss, hss⟩ : ∃ ss, ss = secL n k := ⟨_, rfl⟩
        rw [← hps] at HPB HRX
        rw [← hss] at HSE HRS
        clear hqe hen hcn hle hhs HCI HC1 HLN HJ hps hss
        go_wp2
        refine wp_region_held_drew (S := fun W => (W.cell? ⟨s, 0, none⟩ = some (.int .i64 n) ∧ W.cell? ⟨s, 1, none⟩ = some (.int .i64 t) ∧ W.cell? ⟨s, 2, none⟩ = some (.int .i64 k) ∧ W.cell? ⟨s, 3, none⟩ = some (.int .i64 E) ∧ W.cell? ⟨s, 4, none⟩ = some (.int .i64 Rm))) (by kernel_rfl) (HG.out _ (HF1.out.trans' ((Fr.refl _ W1).drew))) (fun hS => ?_)
        refine wpAnyH_ready (rs := [0]) (by kernel_rfl) (by simp) ?_
        refine AllReadyH.cons rfl (fun K hK => ?_) AllReadyH.nil
        rw [if_pos (by rfl)]
        go_simp
        (go_at_call 42; with_reducible refine (HAN.out _).mono ?_; rintro e W2 ⟨rfl, hf2⟩; have HF2 := Aside0.mk ((Fr.refl _ W1).drew.trans' hf2); clear hf2; go_simp)
        refine hK.out _ _ (HG.out _ (HF1.out.trans' HF2.out)) (fun hS2 => ?_)
        clear hK K hS
        have hS := hS2
        clear hS2
        try simp only [Act.put, List.setIfInBounds_toArray, List.set_cons_zero, List.set_cons_succ]
        refine takeD 1 38 (v := ?_) rfl rfl (by kernel_rfl) (by kernel_rfl) (by kernel_rfl) (fun _ _ _ h => h) (Or.inl ⟨by rfl, ?_⟩) hS ?_
        rotate_left 1
        focus (intro w hSw; (try dsimp only at hSw); go_simp; (try with_reducible rfl); done)
        try simp only [Act.put, List.setIfInBounds_toArray, List.set_cons_zero, List.set_cons_succ]
        refine takeD 2 39 (v := ?_) rfl rfl (by kernel_rfl) (by kernel_rfl) (by kernel_rfl) (fun _ _ _ h => h) (Or.inl ⟨by rfl, ?_⟩) hS ?_
        rotate_left 1
        focus (intro w hSw; (try dsimp only at hSw); go_simp; (try with_reducible rfl); done)
        try simp only [Act.put, List.setIfInBounds_toArray, List.set_cons_zero, List.set_cons_succ]
        refine takeD 3 40 (v := ?_) rfl rfl (by kernel_rfl) (by kernel_rfl) (by kernel_rfl) (fun _ _ _ h => h) (Or.inl ⟨by rfl, ?_⟩) hS ?_
        rotate_left 1
        focus (intro w hSw; (try dsimp only at hSw); go_simp; (try with_reducible rfl); done)
        try simp only [Act.put, List.setIfInBounds_toArray, List.set_cons_zero, List.set_cons_succ]
        refine takeD 6 43 (v := ?_) rfl rfl (by kernel_rfl) (by kernel_rfl) (by kernel_rfl) (fun _ _ _ h => h) (Or.inl ⟨by rfl, ?_⟩) hS ?_
        rotate_left 1
        focus (intro w hSw; (try dsimp only at hSw); go_simp; (try with_reducible rfl); done)
        try simp only [Act.put, List.setIfInBounds_toArray, List.set_cons_zero, List.set_cons_succ]
        refine wpAnyH_ready (rs := [4]) (by kernel_rfl) (by simp) ?_
        refine AllReadyH.cons rfl (fun K hK => ?_) AllReadyH.nil
        rw [if_pos (by rfl)]
        go_simp
        (go_at_call 45; with_reducible refine (HPB.out _ HF2.out).mono ?_; rintro e W3 ⟨B3, d3, rfl, hR3, hb3⟩; have HF3 := Aside0.mk (HF2.out.below_ hb3); have HC3 := Aside0.mk (R_C hR3); have HQ3 := Aside0.mk (conv_all HC3.out d3); clear hR3 hb3; go_simp)
        refine hK.out _ _ (HG.out _ (HF1.out.trans' HF3.out)) (fun hS2 => ?_)
        clear hK K hS
        have hS := hS2
        clear hS2
        try simp only [Act.put, List.setIfInBounds_toArray, List.set_cons_zero, List.set_cons_succ]
        refine wpAnyH_mono (S' := fun W => ((W.cell? ⟨s, 0, none⟩ = some (.int .i64 n) ∧ W.cell? ⟨s, 1, none⟩ = some (.int .i64 t) ∧ W.cell? ⟨s, 2, none⟩ = some (.int .i64 k) ∧ W.cell? ⟨s, 3, none⟩ = some (.int .i64 E) ∧ W.cell? ⟨s, 4, none⟩ = some (.int .i64 Rm)) ∧ (convert 36 9 (.slice B3 j d3)).run Try.prog W = .ok (.string (strOfNums (bs ps))) W)) (fun _ h => h.1) _ _ _ _ ?_
        have hS' : (fun W => ((W.cell? ⟨s, 0, none⟩ = some (.int .i64 n) ∧ W.cell? ⟨s, 1, none⟩ = some (.int .i64 t) ∧ W.cell? ⟨s, 2, none⟩ = some (.int .i64 k) ∧ W.cell? ⟨s, 3, none⟩ = some (.int .i64 E) ∧ W.cell? ⟨s, 4, none⟩ = some (.int .i64 Rm)) ∧ (convert 36 9 (.slice B3 j d3)).run Try.prog W = .ok (.string (strOfNums (bs ps))) W)) _ := ⟨hS, HQ3.out _ (Fr.refl _ _)⟩
        clear hS
        have hS := hS'
        clear hS'
        refine takeD 5 42 (v := ?_) rfl rfl (by kernel_rfl) (by kernel_rfl) (by kernel_rfl) (fun _ _ _ h => h) (Or.inl ⟨by rfl, ?_⟩) hS ?_
        rotate_left 1
        focus (intro w hSw; (try dsimp only at hSw); go_simp; (try with_reducible rfl); done)
        try simp only [Act.put, List.setIfInBounds_toArray, List.set_cons_zero, List.set_cons_succ]
        refine wpAnyH_ready (rs := [7]) (by kernel_rfl) (by simp) ?_
        refine AllReadyH.cons rfl (fun K hK => ?_) AllReadyH.nil
        rw [if_pos (by rfl)]
        go_simp
        (go_at_call 46; with_reducible refine (HRX.out _ HF3.out).mono ?_; rintro e W4 ⟨B4, d4, rfl, hd4, hC4, hb4⟩; have HF34 := Aside0.mk (Fr.of_below hb4 (fun _ => False)); have HF4 := Aside0.mk (HF3.out.trans' HF34.out); have HQ4 := Aside0.mk (conv_all hC4 d4); clear hC4 hb4; go_simp)
        refine hK.out _ _ (⟨HG.out _ (HF1.out.trans' HF4.out), HQ3.out _ HF34.out⟩) (fun hS2 => ?_)
        clear hK K hS
        have hS := hS2
        clear hS2
        try simp only [Act.put, List.setIfInBounds_toArray, List.set_cons_zero, List.set_cons_succ]
        refine wpAnyH_mono (S' := fun W => (((W.cell? ⟨s, 0, none⟩ = some (.int .i64 n) ∧ W.cell? ⟨s, 1, none⟩ = some (.int .i64 t) ∧ W.cell? ⟨s, 2, none⟩ = some (.int .i64 k) ∧ W.cell? ⟨s, 3, none⟩ = some (.int .i64 E) ∧ W.cell? ⟨s, 4, none⟩ = some (.int .i64 Rm)) ∧ (convert 36 9 (.slice B3 j d3)).run Try.prog W = .ok (.string (strOfNums (bs ps))) W) ∧ (convert 36 9 (.slice B4 j d4)).run Try.prog W = .ok (.string (strOfNums (bs ps))) W)) (fun _ h => h.1) _ _ _ _ ?_
        have hS' : (fun W => (((W.cell? ⟨s, 0, none⟩ = some (.int .i64 n) ∧ W.cell? ⟨s, 1, none⟩ = some (.int .i64 t) ∧ W.cell? ⟨s, 2, none⟩ = some (.int .i64 k) ∧ W.cell? ⟨s, 3, none⟩ = some (.int .i64 E) ∧ W.cell? ⟨s, 4, none⟩ = some (.int .i64 Rm)) ∧ (convert 36 9 (.slice B3 j d3)).run Try.prog W = .ok (.string (strOfNums (bs ps))) W) ∧ (convert 36 9 (.slice B4 j d4)).run Try.prog W = .ok (.string (strOfNums (bs ps))) W)) _ := ⟨hS, HQ4.out _ (Fr.refl _ _)⟩
        clear hS
        have hS := hS'
        clear hS'
        refine takeD 8 45 (v := ?_) rfl rfl (by kernel_rfl) (by kernel_rfl) (by kernel_rfl) (fun _ _ _ h => h) (Or.inl ⟨by rfl, ?_⟩) hS ?_
        rotate_left 1
        focus (intro w hSw; (try dsimp only at hSw); go_simp; (try with_reducible rfl); done)
        try simp only [Act.put, List.setIfInBounds_toArray, List.set_cons_zero, List.set_cons_succ]
        refine takeD 9 46 (v := ?_) rfl rfl (by kernel_rfl) (by kernel_rfl) (by kernel_rfl) (fun _ _ _ h => h) (Or.inl ⟨by rfl, ?_⟩) hS ?_
        rotate_left 1
        focus (intro w hSw; (try dsimp only at hSw); go_simp; (try with_reducible rfl); done)
        try simp only [Act.put, List.setIfInBounds_toArray, List.set_cons_zero, List.set_cons_succ]
        refine takeD 10 47 (v := ?_) rfl rfl (by kernel_rfl) (by kernel_rfl) (by kernel_rfl) (fun _ _ _ h => h) (Or.inl ⟨by rfl, ?_⟩) hS ?_
        rotate_left 1
        focus (intro w hSw; (try dsimp only at hSw); go_simp; (try with_reducible rfl); done)
        try simp only [Act.put, List.setIfInBounds_toArray, List.set_cons_zero, List.set_cons_succ]
        refine takeD 11 48 (v := ?_) rfl rfl (by kernel_rfl) (by kernel_rfl) (by kernel_rfl) (fun _ _ _ h => h) (Or.inl ⟨by rfl, ?_⟩) hS ?_
        rotate_left 1
        focus (intro w hSw; (try dsimp only at hSw); go_simp; (try with_reducible rfl); done)
        try simp only [Act.put, List.setIfInBounds_toArray, List.set_cons_zero, List.set_cons_succ]
        refine takeD 12 49 (v := ?_) rfl rfl (by kernel_rfl) (by kernel_rfl) (by kernel_rfl) (fun _ _ _ h => h) (Or.inl ⟨by rfl, ?_⟩) hS ?_
        rotate_left 1
        focus (intro w hSw; (try dsimp only at hSw); go_simp; (try with_reducible rfl); done)
        try simp only [Act.put, List.setIfInBounds_toArray, List.set_cons_zero, List.set_cons_succ]
        refine takeD 15 52 (v := ?_) rfl rfl (by kernel_rfl) (by kernel_rfl) (by kernel_rfl) (fun _ _ _ h => h) (Or.inl ⟨by rfl, ?_⟩) hS ?_
        rotate_left 1
        focus (intro w hSw; (try dsimp only at hSw); go_simp; (try with_reducible rfl); done)
        try simp only [Act.put, List.setIfInBounds_toArray, List.set_cons_zero, List.set_cons_succ]
        refine wpAnyH_ready (rs := [13]) (by kernel_rfl) (by simp) ?_
        refine AllReadyH.cons rfl (fun K hK => ?_) AllReadyH.nil
        rw [if_pos (by rfl)]
        go_simp
        (go_at_call 47; with_reducible refine (HSE.out _).mono ?_; rintro e W5 ⟨B5, d5, rfl, hR5, hb5⟩; have HF45 := Aside0.mk (Fr.of_below hb5 (fun _ => False)); have HF35 := Aside0.mk (HF34.out.trans' HF45.out); have HF5 := Aside0.mk (HF4.out.trans' HF45.out); have HQ5 := Aside0.mk (conv_all (R_C hR5) d5); clear hR5 hb5; go_simp)
        refine hK.out _ _ (⟨⟨HG.out _ (HF1.out.trans' HF5.out), HQ3.out _ HF35.out⟩, HQ4.out _ HF45.out⟩) (fun hS2 => ?_)
        clear hK K hS
        have hS := hS2
        clear hS2
        try simp only [Act.put, List.setIfInBounds_toArray, List.set_cons_zero, List.set_cons_succ]
        refine wpAnyH_mono (S' := fun W => ((((W.cell? ⟨s, 0, none⟩ = some (.int .i64 n) ∧ W.cell? ⟨s, 1, none⟩ = some (.int .i64 t) ∧ W.cell? ⟨s, 2, none⟩ = some (.int .i64 k) ∧ W.cell? ⟨s, 3, none⟩ = some (.int .i64 E) ∧ W.cell? ⟨s, 4, none⟩ = some (.int .i64 Rm)) ∧ (convert 36 9 (.slice B3 j d3)).run Try.prog W = .ok (.string (strOfNums (bs ps))) W) ∧ (convert 36 9 (.slice B4 j d4)).run Try.prog W = .ok (.string (strOfNums (bs ps))) W) ∧ (convert 36 9 (.slice B5 k d5)).run Try.prog W = .ok (.string (strOfNums (bs ss))) W)) (fun _ h => h.1) _ _ _ _ ?_
        have hS' : (fun W => ((((W.cell? ⟨s, 0, none⟩ = some (.int .i64 n) ∧ W.cell? ⟨s, 1, none⟩ = some (.int .i64 t) ∧ W.cell? ⟨s, 2, none⟩ = some (.int .i64 k) ∧ W.cell? ⟨s, 3, none⟩ = some (.int .i64 E) ∧ W.cell? ⟨s, 4, none⟩ = some (.int .i64 Rm)) ∧ (convert 36 9 (.slice B3 j d3)).run Try.prog W = .ok (.string (strOfNums (bs ps))) W) ∧ (convert 36 9 (.slice B4 j d4)).run Try.prog W = .ok (.string (strOfNums (bs ps))) W) ∧ (convert 36 9 (.slice B5 k d5)).run Try.prog W = .ok (.string (strOfNums (bs ss))) W)) _ := ⟨hS, HQ5.out _ (Fr.refl _ _)⟩
        clear hS
        have hS := hS'
        clear hS'
        refine takeD 14 51 (v := ?_) rfl rfl (by kernel_rfl) (by kernel_rfl) (by kernel_rfl) (fun _ _ _ h => h) (Or.inl ⟨by rfl, ?_⟩) hS ?_
        rotate_left 1
        focus (intro w hSw; (try dsimp only at hSw); go_simp; (try with_reducible rfl); done)
        try simp only [Act.put, List.setIfInBounds_toArray, List.set_cons_zero, List.set_cons_succ]
        refine wpAnyH_ready (rs := [16]) (by kernel_rfl) (by simp) ?_
        refine AllReadyH.cons rfl (fun K hK => ?_) AllReadyH.nil
        rw [if_pos (by rfl)]
        go_simp
        (go_at_call 48; with_reducible refine (HRS.out _).mono ?_; rintro e W6 ⟨B6, d6, rfl, hd6, hC6, hb6⟩; have HF56 := Aside0.mk (Fr.of_below hb6 (fun _ => False)); have HF46 := Aside0.mk (HF45.out.trans' HF56.out); have HF36 := Aside0.mk (HF35.out.trans' HF56.out); have HF6 := Aside0.mk (HF5.out.trans' HF56.out); have HQ6 := Aside0.mk (conv_all hC6 d6); clear hC6 hb6; go_simp)
        refine hK.out _ _ (⟨⟨⟨HG.out _ (HF1.out.trans' HF6.out), HQ3.out _ HF36.out⟩, HQ4.out _ HF46.out⟩, HQ5.out _ HF56.out⟩) (fun hS2 => ?_)
        clear hK K hS
        have hS := hS2
        clear hS2
        try simp only [Act.put, List.setIfInBounds_toArray, List.set_cons_zero, List.set_cons_succ]
        refine wpAnyH_mono (S' := fun W => (((((W.cell? ⟨s, 0, none⟩ = some (.int .i64 n) ∧ W.cell? ⟨s, 1, none⟩ = some (.int .i64 t) ∧ W.cell? ⟨s, 2, none⟩ = some (.int .i64 k) ∧ W.cell? ⟨s, 3, none⟩ = some (.int .i64 E) ∧ W.cell? ⟨s, 4, none⟩ = some (.int .i64 Rm)) ∧ (convert 36 9 (.slice B3 j d3)).run Try.prog W = .ok (.string (strOfNums (bs ps))) W) ∧ (convert 36 9 (.slice B4 j d4)).run Try.prog W = .ok (.string (strOfNums (bs ps))) W) ∧ (convert 36 9 (.slice B5 k d5)).run Try.prog W = .ok (.string (strOfNums (bs ss))) W) ∧ (convert 36 9 (.slice B6 k d6)).run Try.prog W = .ok (.string (strOfNums (bs ss))) W)) (fun _ h => h.1) _ _ _ _ ?_
        have hS' : (fun W => (((((W.cell? ⟨s, 0, none⟩ = some (.int .i64 n) ∧ W.cell? ⟨s, 1, none⟩ = some (.int .i64 t) ∧ W.cell? ⟨s, 2, none⟩ = some (.int .i64 k) ∧ W.cell? ⟨s, 3, none⟩ = some (.int .i64 E) ∧ W.cell? ⟨s, 4, none⟩ = some (.int .i64 Rm)) ∧ (convert 36 9 (.slice B3 j d3)).run Try.prog W = .ok (.string (strOfNums (bs ps))) W) ∧ (convert 36 9 (.slice B4 j d4)).run Try.prog W = .ok (.string (strOfNums (bs ps))) W) ∧ (convert 36 9 (.slice B5 k d5)).run Try.prog W = .ok (.string (strOfNums (bs ss))) W) ∧ (convert 36 9 (.slice B6 k d6)).run Try.prog W = .ok (.string (strOfNums (bs ss))) W)) _ := ⟨hS, HQ6.out _ (Fr.refl _ _)⟩
        clear hS
        have hS := hS'
        clear hS'
        refine takeD 17 54 (v := ?_) rfl rfl (by kernel_rfl) (by kernel_rfl) (by kernel_rfl) (fun _ _ _ h => h) (Or.inl ⟨by rfl, ?_⟩) hS ?_
        rotate_left 1
        focus (intro w hSw; (try dsimp only at hSw); go_simp; (try with_reducible rfl); done)
        try simp only [Act.put, List.setIfInBounds_toArray, List.set_cons_zero, List.set_cons_succ]
        refine takeD 18 55 (v := ?_) rfl rfl (by kernel_rfl) (by kernel_rfl) (by kernel_rfl) (fun _ _ _ h => h) (Or.inl ⟨by rfl, ?_⟩) hS ?_
        rotate_left 1
        focus (intro w hSw; (try dsimp only at hSw); go_simp; (try with_reducible rfl); done)
        try simp only [Act.put, List.setIfInBounds_toArray, List.set_cons_zero, List.set_cons_succ]
        refine takeD 19 56 (v := ?_) rfl rfl (by kernel_rfl) (by kernel_rfl) (by kernel_rfl) (fun _ _ _ h => h) (Or.inl ⟨by rfl, ?_⟩) hS ?_
        rotate_left 1
        focus (intro w hSw; (try dsimp only at hSw); go_simp; (try with_reducible rfl); done)
        try simp only [Act.put, List.setIfInBounds_toArray, List.set_cons_zero, List.set_cons_succ]
        refine takeD 20 57 (v := ?_) rfl rfl (by kernel_rfl) (by kernel_rfl) (by kernel_rfl) (fun _ _ _ h => h) (Or.inl ⟨by rfl, ?_⟩) hS ?_
        rotate_left 1
        focus (intro w hSw; (try dsimp only at hSw); go_simp; (try with_reducible rfl); done)
        try simp only [Act.put, List.setIfInBounds_toArray, List.set_cons_zero, List.set_cons_succ]
        refine takeD 21 58 (v := ?_) rfl rfl (by kernel_rfl) (by kernel_rfl) (by kernel_rfl) (fun _ _ _ h => h) (Or.inl ⟨by rfl, ?_⟩) hS ?_
        rotate_left 1
        focus (intro w hSw; (try dsimp only at hSw); go_simp; (try with_reducible rfl); done)
        try simp only [Act.put, List.setIfInBounds_toArray, List.set_cons_zero, List.set_cons_succ]
        refine takeD 22 59 (v := ?_) rfl rfl (by kernel_rfl) (by kernel_rfl) (by kernel_rfl) (fun _ _ _ h => h) (Or.inl ⟨by rfl, ?_⟩) hS ?_
        rotate_left 1
        focus (intro w hSw; (try dsimp only at hSw); go_simp; (try with_reducible rfl); done)
        try simp only [Act.put, List.setIfInBounds_toArray, List.set_cons_zero, List.set_cons_succ]
        refine takeD 23 60 (v := ?_) rfl rfl (by kernel_rfl) (by kernel_rfl) (by kernel_rfl) (fun _ _ _ h => h) (Or.inl ⟨by rfl, ?_⟩) hS ?_
        rotate_left 1
        focus (intro w hSw; (try dsimp only at hSw); go_simp; (try with_reducible rfl); done)
        try simp only [Act.put, List.setIfInBounds_toArray, List.set_cons_zero, List.set_cons_succ]
        refine takeD 25 62 (v := ?_) rfl rfl (by kernel_rfl) (by kernel_rfl) (by kernel_rfl) (fun _ _ _ h => h) (Or.inl ⟨by rfl, ?_⟩) hS ?_
        rotate_left 1
        focus (intro w hSw; (try dsimp only at hSw); go_simp; (try with_reducible rfl); done)
        try simp only [Act.put, List.setIfInBounds_toArray, List.set_cons_zero, List.set_cons_succ]
        refine takeD 26 63 (v := ?_) rfl rfl (by kernel_rfl) (by kernel_rfl) (by kernel_rfl) (fun _ _ _ h => h) (Or.inl ⟨by rfl, ?_⟩) hS ?_
        rotate_left 1
        focus (intro w hSw; (try dsimp only at hSw); go_simp; (try with_reducible rfl); done)
        try simp only [Act.put, List.setIfInBounds_toArray, List.set_cons_zero, List.set_cons_succ]
        refine takeD 28 65 (v := ?_) rfl rfl (by kernel_rfl) (by kernel_rfl) (by kernel_rfl) (fun _ _ _ h => h) (Or.inl ⟨by rfl, ?_⟩) hS ?_
        rotate_left 1
        focus (intro w hSw; (try dsimp only at hSw); go_simp; (try with_reducible rfl); done)
        try simp only [Act.put, List.setIfInBounds_toArray, List.set_cons_zero, List.set_cons_succ]
        refine wpAnyH_ready (rs := [24]) (by kernel_rfl) (by simp) ?_
        refine AllReadyH.cons rfl (fun K hK => ?_) AllReadyH.nil
        rw [if_pos (by rfl)]
        go_simp
        (go_at_call 49; with_reducible refine (HND.out _).mono ?_; rintro e W7 ⟨rfl, hb7⟩; have HF67 := Aside0.mk (Fr.of_below hb7 (fun _ => False)); have HF57 := Aside0.mk (HF56.out.trans' HF67.out); have HF47 := Aside0.mk (HF46.out.trans' HF67.out); have HF37 := Aside0.mk (HF36.out.trans' HF67.out); have HF7 := Aside0.mk (HF6.out.trans' HF67.out); clear hb7; go_simp)
        refine hK.out _ _ (⟨⟨⟨⟨HG.out _ (HF1.out.trans' HF7.out), HQ3.out _ HF37.out⟩, HQ4.out _ HF47.out⟩, HQ5.out _ HF57.out⟩, HQ6.out _ HF67.out⟩) (fun hS2 => ?_)
        clear hK K hS
        have hS := hS2
        clear hS2
        try simp only [Act.put, List.setIfInBounds_toArray, List.set_cons_zero, List.set_cons_succ]
        refine wpAnyH_ready (rs := [27]) (by kernel_rfl) (by simp) ?_
        refine AllReadyH.cons rfl (fun K hK => ?_) AllReadyH.nil
        rw [if_pos (by rfl)]
        go_simp
        (go_at_call 50; with_reducible refine (HEA.out _).mono ?_; rintro e W8 ⟨rfl, hb8⟩; have HF78 := Aside0.mk (Fr.of_below hb8 (fun _ => False)); have HF8 := Aside0.mk (HF7.out.trans' HF78.out); clear hb8; go_simp)
        refine hK.out _ _ (⟨⟨⟨⟨HG.out _ (HF1.out.trans' HF8.out), HQ3.out _ (HF37.out.trans' HF78.out)⟩, HQ4.out _ (HF47.out.trans' HF78.out)⟩, HQ5.out _ (HF57.out.trans' HF78.out)⟩, HQ6.out _ (HF67.out.trans' HF78.out)⟩) (fun hS2 => ?_)
        clear hK K hS
        have hS := hS2
        clear hS2
        try simp only [Act.put, List.setIfInBounds_toArray, List.set_cons_zero, List.set_cons_succ]
        refine takeD 29 66 (v := ?_) rfl rfl (by kernel_rfl) (by kernel_rfl) (by kernel_rfl) (fun _ _ _ h => h) (Or.inl ⟨by rfl, ?_⟩) hS ?_
        rotate_left 1
        focus (intro w hSw; (try dsimp only at hSw); go_simp; (try with_reducible rfl); done)
        try simp only [Act.put, List.setIfInBounds_toArray, List.set_cons_zero, List.set_cons_succ]
        refine takeD 30 67 (v := ?_) rfl rfl (by kernel_rfl) (by kernel_rfl) (by kernel_rfl) (fun _ _ _ h => h) (Or.inl ⟨by rfl, ?_⟩) hS ?_
        rotate_left 1
        focus (intro w hSw; (try dsimp only at hSw); go_simp; (try with_reducible rfl); done)
        try simp only [Act.put, List.setIfInBounds_toArray, List.set_cons_zero, List.set_cons_succ]
        refine takeD 31 68 (v := ?_) rfl rfl (by kernel_rfl) (by kernel_rfl) (by kernel_rfl) (fun _ _ _ h => h) (Or.inl ⟨by rfl, ?_⟩) hS ?_
        rotate_left 1
        focus (intro w hSw; (try dsimp only at hSw); go_simp; (try with_reducible rfl); done)
        try simp only [Act.put, List.setIfInBounds_toArray, List.set_cons_zero, List.set_cons_succ]
        refine takeD 32 8 (v := ?_) rfl rfl (by kernel_rfl) (by kernel_rfl) (by kernel_rfl) (fun _ _ _ h => h) (Or.inl ⟨by rfl, ?_⟩) hS ?_
        rotate_left 1
        focus (intro w hSw; (try dsimp only at hSw); go_simp; (try with_reducible rfl); done)
        try simp only [Act.put, List.setIfInBounds_toArray, List.set_cons_zero, List.set_cons_succ]
        refine wpAnyH_done (by kernel_rfl) ?_ _
        go_wp2
        go_ret
        exact ⟨by simp, HB0.out.trans ((HF1.out.trans' HF8.out).f_below.mono HB0.out.size)⟩
  · have hg' : goodB N T K E Rm = false := by simpa using hg
    rw [hg'] at HGR
    have hu48 := Try.underlying48
    unfold parV at *
    clear hg hg' hw hK hC hl hcols hkind hwl hNb
    go_enter Try.func14, Try.ntmps14
    go_wp2_with (first | (go_at_call 44; with_reducible refine (HGR.out _).mono ?_; rintro e W1 ⟨rfl, hb1⟩; have HF1 := Aside0.mk (Fr.of_below hb1 (fun _ => False)); clear hb1) | (go_at_call 42; with_reducible refine (HAN.out _).mono ?_; rintro e W2 ⟨rfl, hf2⟩))
    go_ret
    exact ⟨rfl, (((Fr.refl (fun _ => False) w).alloc _).trans' (HF1.out.trans' hf2)).f_below⟩
end Go.Proofs.Ytpeiejkcoadhfaa

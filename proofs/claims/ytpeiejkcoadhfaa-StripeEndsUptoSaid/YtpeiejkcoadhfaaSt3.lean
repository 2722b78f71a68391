/- slices.Grow, Concat, Clip, ContainsFunc; stripe.Columns, Join. -/
import Derived.Test.YtpeiejkcoadhfaaSt2
import Derived.Test.YtpeiejkcoadhfaaWZeros
namespace Go.Proofs.Ytpeiejkcoadhfaa
open Go.RowKit Go.Shelf Go.Proofs.YtpeiejkcoadhfaaW.PrintWords Go.Proofs.YtpeiejkcoadhfaaW.PrintMore

theorem nil_M (w : World) (base : Nat) : u8.M w base (fun _ => False) (0 : Int) (Value.cells (.int .u8 0)).toList := rfl
set_option maxRecDepth 100000 in
theorem Grow_any (w : World) (n : Nat) (hn : n ≤ 1099511627776) : Calls Try.prog 119 #[.slice none 0 0, .int .i64 n] w fun e w' => ∃ A c, e = .returned (.slice A 0 c) ∧ Kd.R u8 5 w' w.heap.size (fun _ => True) (.slice A 0 c) [] ∧ Below w.heap.size w w' := by
  have h0 : ¬ (n : Int) < 0 := by omega
  by_cases hz : n = 0
  · subst hz
    go_enter Try.func119, Try.ntmps119
    go_wp2
    go_ret
    exact ⟨none, 0, rfl, Kd.R_nil _ _ _ _ _, Below.refl _ _⟩
  · have h1 : 0 < (n : Int) := by omega
    obtain ⟨v1, w1, hrun, hR, hg, hat⟩ := Kd.R_zeros_run (P := Try.prog) u8 (W := w) w.heap.size 36 3 36 5 (.int .u8 0) 1 Try.underlying36 Try.underlying3 info5 rfl (by decide) (by omega) (.slice none 0 0) [] (0 : Int) (ok := fun _ => True) (nil_M w _) (fun _ _ => trivial) (Kd.R_nil _ _ _ _ _) .i64 (n : Int) (by omega) (by simp; omega) (Nat.le_refl _)
    rw [List.nil_append, Int.toNat_natCast] at hR
    obtain ⟨A, c, rfl⟩ := Kd.R_slice hR
    rw [List.length_replicate] at hR hrun
    obtain ⟨i5, hi5, _, hs5, _⟩ := info_parts info5
    have hle := (Kd.R_reads' hR).2.1
    have kt := to_run (P := Try.prog) 36 5 Try.underlying36 hi5 A n c 0 (by omega) hle
    have hR0 := Kd.R_take (m := 0) hR (by simp)
    rw [List.take_zero] at hR0
    have k0 : ∀ W : World, (Instr.slice 36 (.slice none 0 0) none (some (.int .i64 0)) none).run Try.prog W = .ok (.slice none 0 0) W := fun W => to_run (P := Try.prog) 36 5 Try.underlying36 hi5 none 0 0 0 (by omega) (by omega) W
    have HT := Aside0.mk (And.intro hR0 (show Below w.heap.size w w1 from ⟨hg.os, hg.tape, hg.output, hg.size, fun k hk => hg.block k hk (by simp [Value.ownBlock])⟩))
    have HR := Aside0.mk hrun
    clear hR hR0 hg hat hrun hi5 hs5 hle
    go_enter Try.func119, Try.ntmps119
    go_wp2_with (at_builtin; refine wpList_append_run rfl _ _ _ _ rfl rfl rfl HR.out ?_)
    go_ret
    exact ⟨A, c, rfl, HT.out.1, HT.out.2⟩

/-- Row j of rows that are read. -/
theorem row_at {w : World} {A : Option Addr} {n : Nat} {xss : List (List Int)} (h : Kd.C u8s w A n xss) (j : Nat) (hj : j < n) :
    ∃ ad A0 c0, A = some ad ∧ w.cell? (ad.add j) = some (.slice A0 (xss.getD j []).length c0) ∧ (xss.getD j []).length ≤ c0 ∧ Kd.C u8 w A0 (xss.getD j []).length (xss.getD j []) := by
  obtain ⟨ad, c, e, _, hK, hc0⟩ := Kd.C_get h ([] : List Int) (j : Int) (by omega) (by omega)
  rw [Int.toNat_natCast] at hK hc0
  obtain ⟨A0, c0, rfl, l0, g0⟩ := hK
  have h0 := hc0 0 _ rfl
  rw [show u8s.sz = 1 from rfl, Nat.mul_one, Nat.add_zero] at h0
  exact ⟨ad, A0, c0, e, h0, l0, g0⟩
theorem getD_get (xss : List (List Int)) (j : Nat) (h : j < xss.length) : xss[j]? = some (xss.getD j []) := by
  rw [List.getD_eq_getElem?_getD, List.getElem?_eq_getElem h]; rfl
theorem take_snoc_flat (xss : List (List Int)) (j : Nat) (h : j < xss.length) : (xss.take (j + 1)).flatten = (xss.take j).flatten ++ xss.getD j [] := by
  rw [List.take_add_one, getD_get xss j h]
  simp
theorem flat_le (xss : List (List Int)) (j : Nat) : (xss.take j).flatten.length ≤ xss.flatten.length := by
  have h : xss.flatten = (xss.take j).flatten ++ (xss.drop j).flatten := by rw [← List.flatten_append, List.take_append_drop]
  rw [h, List.length_append]
  omega
theorem add_zero' (p : Addr) : p.add 0 = p := by
  cases p
  unfold Addr.add
  split <;> simp_all
theorem Clip_any (w : World) (A : Option Addr) (n c : Nat) (hc : n ≤ c) : Calls Try.prog 80 #[.slice A n c] w fun e w' => e = .returned (.slice A n n) ∧ w = w' := by
  obtain ⟨i5, hi5, _, hs5, _⟩ := info_parts info5
  have hel : Try.prog.elem 36 = 5 := by simp [Program.elem, Try.underlying36]
  have hu : Try.prog.underlying 36 = some (.slice (Try.prog.elem 36)) := by rw [hel]; exact Try.underlying36
  have hk : ∀ W : World, (Instr.slice 36 (.slice A n c) none (some (.int .i64 (n : Int))) (some (.int .i64 (n : Int)))).run Try.prog W = .ok (.slice A n n) W := fun W => by
    rw [run_slice_hm W 36 A n c hu .i64 .i64 (n : Int) (n : Int) (by omega) (by omega) (by omega), hel]
    simp [sizeOf, typeInfo, hi5, hs5, sliced, Result.andThen]
    intro _
    cases A with
    | none => rfl
    | some p => simp [add_zero']
  clear hi5 hs5 hel hu
  go_enter Try.func80, Try.ntmps80
  go_wp2
  go_ret
  exact ⟨rfl, rfl⟩

theorem sum_len (xss : List (List Int)) (j : Nat) (h : j < xss.length) : (xss.take (j + 1)).flatten.length = (xss.take j).flatten.length + (xss.getD j []).length := by rw [take_snoc_flat xss j h, List.length_append]
set_option maxRecDepth 100000 in
set_option maxHeartbeats 1000000 in
/-- slices.Concat: new memory. -/
theorem Concat_any (w : World) (A : Option Addr) (n c : Nat) (xss : List (List Int)) (hC : Kd.C u8s w A n xss) (hc : n ≤ c) (ht : xss.flatten.length ≤ 1099511627776) :
    Calls Try.prog 79 #[.slice A n c] w fun e w' => ∃ B d, e = .returned (.slice B xss.flatten.length d) ∧ Kd.R u8 5 w' w.heap.size (fun _ => True) (.slice B xss.flatten.length d) xss.flatten ∧ Below w.heap.size w w' := by
  have hnl := Kd.C_len hC
  have hnm := Kd.C_max hC
  have HC := Aside0.mk hC
  have HN := Aside0.mk hnl
  have HT := Aside0.mk ht
  have HG := Aside0.mk Grow_any
  clear hC hnl ht
  go_enter Try.func79, Try.ntmps79
  go_wp2
  go_loop [3, 11] (fun v3 v11 => ∃ (k t : Nat), k ≤ n ∧ v11 = .int .i64 k ∧ v3 = .int .i64 t ∧ Aside0 (t = (xss.take k).flatten.length) ∧ t ≤ 1099511627776) (fun _ v11 => n - (intOf v11).toNat)
  case atStart => exact ⟨0, 0, by omega, rfl, rfl, ⟨by simp⟩, by omega⟩
  case round =>
    obtain ⟨k, t, hk, rfl, rfl, HK, ht⟩ := hrel
    by_cases hlt : k < n
    · obtain ⟨ad, A0, c0, rfl, hx, hl0, hC0⟩ := row_at HC.out k hlt
      have HS := Aside0.mk (sum_len xss k (by rw [HN.out]; exact hlt))
      obtain ⟨m, hm⟩ : ∃ m, m = (xss.getD k []).length := ⟨_, rfl⟩
      have htm : t + m ≤ 1099511627776 := by
        have h1 := HS.out
        have h2 := flat_le xss (k + 1)
        have h3 := HT.out
        have h4 := HK.out
        omega
      rw [← hm] at hx
      have HM := Aside0.mk hm
      clear hm hC0 hl0
      go_wp2
      go_round
      case rel => exact ⟨k + 1, t + m, by omega, by go_num, by go_num, ⟨by rw [HS.out, ← HK.out, ← HM.out]⟩, htm⟩
      case measure => simp [intOf]; omega
    · obtain rfl : k = n := by omega
      go_wp2_with (go_at_call 119; refine (HG.out _ t ht).mono ?_; rintro e w1 ⟨B, d, rfl, hR, hb⟩)
      have HR := Aside0.mk hR
      have HB := Aside0.mk hb
      clear hR hb
      go_loopw [6, 27] (fun v6 v27 wr => ∃ (j m : Nat) (B : Option Addr) (d : Nat), j ≤ k ∧ v27 = .int .i64 j ∧ v6 = .slice B m d ∧ m ≤ 1099511627776 ∧ Aside0 (m = (xss.take j).flatten.length) ∧ Aside0 (Kd.R u8 5 wr w.heap.size (fun _ => True) (.slice B m d) (xss.take j).flatten) ∧ Aside0 (Below w.heap.size w wr)) (fun _ v27 _ => k - (intOf v27).toNat)
      case atStart => exact ⟨0, 0, B, d, by omega, rfl, rfl, by omega, ⟨by simp⟩, ⟨by simpa using HR.out⟩, HB⟩
      case round =>
        clear HR HB
        obtain ⟨j, m, B, d, hj, rfl, rfl, hm, HM, HR, HB⟩ := hrel
        by_cases hlt2 : j < k
        · have hs1 := sum_len xss j (by rw [HN.out]; exact hlt2)
          obtain ⟨ad, A0, c0, rfl, hx, hl0, hC0⟩ := row_at (Kd.C_below HC.out HB.out) j hlt2
          have hm2 : m + (xss.getD j []).length ≤ 1099511627776 := by
            have h1 := flat_le xss (j + 1)
            have h3 := HT.out
            have h4 := HM.out
            omega
          have hml := HM.out
          obtain ⟨v', W', hrun, hq, hg, hat⟩ := R_append_row (P := Try.prog) (Value.int .u8) (0 : Int) wr w.heap.size 36 36 5 _ 1 Try.underlying36 info5 rfl (c := c0) HR.out hC0 (by rw [← hml]; omega) (by omega) HB.out.size (fun _ _ => trivial)
          rw [← take_snoc_flat xss j (by rw [HN.out]; exact hlt2)] at hq
          obtain ⟨B', d', rfl⟩ := Kd.R_slice hq
          rw [hs1, ← hml] at hq hrun
          have hbl := HB.out.grown hg HB.out.size (fun i hi => Kd.R_base HR.out i hi)
          generalize (xss.getD j []).length = q at *
          have HR' := Aside0.mk hrun
          have HT' := Aside0.mk (And.intro hs1 (And.intro hq hbl))
          have HM' := Aside0.mk hml
          clear hrun hs1 hq hbl hat hg hC0 hml hl0
          go_wp2_with (at_builtin; refine wpList_append_run rfl _ _ _ _ rfl rfl rfl HR'.out ?_)
          go_roundw
          case rel => exact ⟨j + 1, m + q, B', d', by omega, by go_num, rfl, hm2, ⟨by rw [HT'.out.1, ← HM'.out]⟩, ⟨HT'.out.2.1⟩, ⟨HT'.out.2.2⟩⟩
          case measure => simp [intOf]; omega
        · obtain rfl : j = k := by omega
          go_wp2
          go_ret
          have e : (xss.take j) = xss := List.take_of_length_le (by rw [HN.out]; exact Nat.le_refl _)
          have h1 := HM.out
          have h2 := HR.out
          rw [e] at h1 h2
          subst h1
          exact ⟨B, d, rfl, h2, HB.out⟩
end Go.Proofs.Ytpeiejkcoadhfaa

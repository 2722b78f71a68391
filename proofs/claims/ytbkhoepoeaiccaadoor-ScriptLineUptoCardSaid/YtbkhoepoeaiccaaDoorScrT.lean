/- answers. -/
import Derived.Test.YtbkhoepoeaiccaaDoorScrS
namespace Go.Proofs.YtbkhoepoeaiccaaDoor
open Go.RowKit Go.Shelf Go.Proofs.YtbkhoepoeaiccaaDoorW.PrintWords Go.Proofs.YtbkhoepoeaiccaaDoor.PScriptReads

def x0 : St := ⟨1, 0, 0, 0, [97], [7]⟩
theorem itoa_dig (d : Nat) (h : d < 10) : Lib.itoa (d : Int) = [UInt8.ofNat (48 + d)] := by rw [itoa_pos (by omega), Int.toNat_natCast, decDigits_small h]
theorem print_x0 : printL [x0] = [49, 32, 48, 32, 48, 32, 48, 32, 105, 54, 49, 32, 120, 48, 55, 10] := by
  have h0 : Lib.itoa 0 = [48] := itoa_dig 0 (by decide)
  have h1 : Lib.itoa 1 = [49] := itoa_dig 1 (by decide)
  rw [printL_cons, printL_nil]
  unfold bareL wordsL x0
  simp only [h0, h1]
  decide
theorem x0_wf : AllWf [x0] := by
  intro x hx
  rw [List.mem_singleton.1 hx]
  unfold x0 St.wf I64
  decide
theorem parsed_x0 {out : List St} {k : Nat} (h : Parsed [49, 32, 48, 32, 48, 32, 48, 32, 105, 54, 49, 32, 120, 48, 55, 10] out k) : out = [x0] ∧ k = 0 := by
  rw [← print_x0] at h
  exact parsed_unique h (parsed_print [x0] x0_wf)
theorem parsed_1 {out : List St} {k : Nat} (h : Parsed [49, 10] out k) : out = [] ∧ k = 1 :=
  parsed_unique h (parsed_line [] (fun x hx => by cases hx) [49] [] (by decide) (read_len [49] (by decide)))
theorem C_x0 (W : World) (g h : Nat) (hb : W.heap[g]? = some (.cells #[.int .u8 7] 5 (0, 0))) (hs : W.heap[h]? = some (.cells #[.int .i64 1, .int .i64 0, .int .i64 0, .int .i64 0, .string ⟨#[97]⟩, .slice (some ⟨g, 0, none⟩) 1 1] 33 (0, 0))) : Kd.C k33 W (some ⟨h, 0, none⟩) 1 ([x0].map toS) := by
  refine ⟨rfl, by decide, fun _ => ⟨_, rfl, fun j p hj => ?_⟩⟩
  rcases j with _ | j
  · have hp : p = toS x0 := by injection hj with hj; exact hj.symm
    subst hp
    have hK := k33_mk W (toS x0) (A5 := some ⟨g, 0, none⟩) (c5 := 1) (by decide) (C_bytes (l := [7]) rfl (by decide) (fun j hj => by
      obtain rfl : j = 0 := by have : (toS x0).f5.length = 1 := rfl; omega
      exact cell_at hb rfl))
    refine ⟨[.int .i64 1, .int .i64 0, .int .i64 0, .int .i64 0, .string ⟨#[97]⟩, .slice (some ⟨g, 0, none⟩) 1 1], rfl, hK, fun i u hu => ?_⟩
    have hi : i < 6 := (List.getElem?_eq_some_iff.1 hu).1
    rcases i with _ | _ | _ | _ | _ | _ | i
    all_goals first | (injection hu with hu; subst hu; exact cell_at hs rfl) | omega
  · simp at hj
theorem heap2 (w : World) (a b : Obj) : ∃ w2, w2 = (w.alloc a).alloc b ∧ w2.heap.size = w.heap.size + 2 ∧ w2.heap[w.heap.size]? = some a ∧ w2.heap[w.heap.size + 1]? = some b ∧ Below w.heap.size w w2 := by
  refine ⟨_, rfl, by simp, blk_alloc (blk_new _ _) _, ?_, below_alloc (below_alloc (Below.refl _ _) _) _⟩
  have := blk_new (w.alloc a) b
  simpa using this

set_option maxRecDepth 100000 in
set_option maxHeartbeats 3200000 in
theorem answers_any (w : World) (hE : Env w) : Calls Tryd.prog 10 #[] w fun e w' => e = .returned (.bool true) ∧ Below w.heap.size w w' := by
  obtain ⟨w2, hw2, hz2, hb0, hb1, hbe⟩ := heap2 w (.cells #[.int .u8 7] 5) (.cells #[.int .i64 1, .int .i64 0, .int .i64 0, .int .i64 0, .string ⟨#[97]⟩, .slice (some ⟨w.heap.size, 0, none⟩) 1 1] 33)
  obtain ⟨st, hst⟩ : ∃ st, st = (⟨(printL [x0]).toArray⟩ : ByteArray) := ⟨_, rfl⟩
  have hpr := PPrint_any w2 (hE.below hbe) [x0] x0_wf (some ⟨w.heap.size + 1, 0, none⟩) 1 1 (C_x0 w2 _ _ hb0 hb1) (by rw [print_x0]; decide) (by decide)
  rw [← hst] at hpr
  have HP8 : Aside0 (Calls Tryd.prog 8 #[.slice (some ⟨w.heap.size + 1, 0, none⟩) 1 1] ((w.alloc (.cells #[.int .u8 7] 5)).alloc (.cells #[.int .i64 1, .int .i64 0, .int .i64 0, .int .i64 0, .string ⟨#[97]⟩, .slice (some ⟨w.heap.size, 0, none⟩) 1 1] 33)) fun e w' => e = .returned (.string st) ∧ Aside0 (Below w.heap.size w w')) := ⟨by
    rw [← hw2]
    exact hpr.mono fun e w' ⟨he, hb⟩ => ⟨he, ⟨hbe.trans (hb.mono hbe.size)⟩⟩⟩
  have HA1 : Aside0 (∀ W, Below w.heap.size w W → Calls Tryd.prog 9 #[.string st] W fun e W' => ∃ (g d : Nat), e = .returned (.tuple #[.slice (some ⟨g, 0, none⟩) 1 d, .int .i64 0, .int .i64 0]) ∧ W'.cell? ⟨g, 4, none⟩ = some (.string ⟨#[97]⟩) ∧ Aside0 (Below w.heap.size w W')) := ⟨fun W hW => by
    rw [hst]
    refine (Parse_any W (hE.below hW) (printL [x0]) (by rw [print_x0]; decide)).mono fun e W' ⟨out, k, B, d, he, hp, _, hR, hB⟩ => ?_
    rw [print_x0] at hp
    obtain ⟨rfl, rfl⟩ := parsed_x0 hp
    obtain ⟨g, cap, hv, _⟩ := Kd.R_form hR (by decide)
    injection hv with hv1 _ hv2
    subst hv1 hv2
    obtain ⟨x, ad, B', m, c, hx, had, h0, h1, h2, h3, h4, _⟩ := step_at (R_C hR) 0 (by decide)
    injection had with had
    subst had hx
    exact ⟨g, d, he, h4, ⟨hW.trans (hB.mono hW.size)⟩⟩⟩
  have HA2 : Aside0 (∀ W, Below w.heap.size w W → Calls Tryd.prog 9 #[.string ⟨#[49, 10]⟩] W fun e W' => ∃ (A : Option Addr) (n d : Nat), e = .returned (.tuple #[.slice A n d, .int .i64 1, .int .i64 13]) ∧ Aside0 (Below W.heap.size W W')) := ⟨fun W hW => by
    refine (Parse_any W (hE.below hW) [49, 10] (by decide)).mono fun e W' ⟨out, k, B, d, he, hp, _, hR, hB⟩ => ?_
    obtain ⟨rfl, rfl⟩ := parsed_1 hp
    exact ⟨B, _, d, he, ⟨hB⟩⟩⟩
  have HHX : Aside0 (∀ W, Calls Tryd.prog 15 #[.slice (some ⟨W.heap.size, 0, none⟩) 1 1] (W.alloc (.cells #[.int .u8 16] 5)) fun e W' => e = .returned (.string ⟨#[49, 48]⟩) ∧ Aside0 (Below W.heap.size W W')) := ⟨fun W => by
    have hb := below_alloc (Below.refl W.heap.size W) (.cells #[.int .u8 16] 5)
    refine (PHex_any (W.alloc (.cells #[.int .u8 16] 5)) (some ⟨W.heap.size, 0, none⟩) 1 1 [16] (C_bytes rfl (by decide) (fun j hj => ?_)) (by decide) (by decide)).mono fun e W' ⟨he, hb'⟩ => ⟨he.trans ?_, ⟨hb.trans (hb'.mono hb.size)⟩⟩
    · obtain rfl : j = 0 := by omega
      exact cell_at (blk_new _ _) rfl
    · rfl⟩
  have hq : (st.toList = [49, 32, 48, 32, 48, 32, 48, 32, 105, 54, 49, 32, 120, 48, 55, 10]) = True := eq_true (by
    rw [hst, print_x0, ByteArray.toList_eq])
  have hu33 := Tryd.underlying33
  clear hE hw2 hz2 hb0 hb1 hbe hst hpr
  go_enter Tryd.func10, Tryd.ntmps10
  go_wp2_with (first
    | (go_at_call 8; with_reducible refine HP8.out.mono ?_; rintro e W1 ⟨rfl, HB1⟩)
    | (go_at_call 9; with_reducible refine (HA1.out _ HB1.out).mono ?_; rintro e W2 ⟨g, d, rfl, hcg, HB2⟩)
    | (go_at_call 9; with_reducible refine (HA2.out _ HB2.out).mono ?_; rintro e W3 ⟨A3, n3, d3, rfl, HB3⟩; have hcg3 := (HB3.out.cell (World.block_lt_of_cell? W2 _ hcg)).trans hcg; have HF3 := Aside0.mk (HB2.out.trans (HB3.out.mono HB2.out.size)))
    | (go_at_call 15; with_reducible refine (HHX.out _).mono ?_; rintro e W4 ⟨rfl, HB4⟩))
  go_ret
  exact ⟨by simp [of_eq_true hq], HF3.out.trans (HB4.out.mono HF3.out.size)⟩
end Go.Proofs.YtbkhoepoeaiccaaDoor

/- What the view's laws take, Vu46: VwCM. -/
import Derived.Test.YtpeiejkcoadhfaaVu33
import Derived.Test.YtpeiejkcoadhfaaVu40
import Derived.Test.YtpeiejkcoadhfaaVu45
set_option linter.all false
namespace Go.Proofs.Ytpeiejkcoadhfaa
open Go.RowKit Go.Shelf Go.Proofs.YtpeiejkcoadhfaaW.PrintWords Go.Proofs.YtpeiejkcoadhfaaW.PrintMore Go.Proofs.Ytpeiejkcoadhfaa.PViewEmpty
open Go.BigFrame
theorem zoG {W : World} {a b : Nat} (h : W.heap[a]? = some (.cells #[.int .i64 0, .int .i64 0, .slice none 0 0, .slice (some ⟨b, 0, none⟩) 1 1] 90 (0, 0))) (h2 : W.heap[b]? = some (.cells #[.int .i64 2] 3 (0, 0))) : RL W (some ⟨a, 0, none⟩) 1 [⟨0, 0, [], [2]⟩] := by
 show Kd.C k90 W (some ⟨a, 0, none⟩) 1 [S90.mk 0 0 [] [2]]
 refine ⟨rfl, by decide, fun _ => ⟨⟨a, 0, none⟩, rfl, fun j p hj => ?_⟩⟩
 obtain rfl : j = 0 := by
  have := (List.getElem?_eq_some_iff.1 hj).1
  simp at this
  omega
 have hp : p = S90.mk 0 0 [] [2] := by simpa using hj.symm
 subst hp
 refine ⟨_, ?_, zoS W (S90.mk 0 0 [] [2]) (A2 := none) (c2 := 0) (Nat.le_refl _) (Kd.C_nil _ _) (A3 := some ⟨b, 0, none⟩) (c3 := 1) (Nat.le_refl _) ?_, fun i u hu => ?_⟩
 ·rfl
 ·refine Kd.C_of_reads (enc := Value.int .i64) (h1 := fun _ => rfl) (d := (0 : Int)) ⟨rfl, by decide, fun _ => ⟨⟨b, 0, none⟩, rfl, fun j hj => ?_⟩⟩
  obtain rfl : j = 0 := by simp at hj; omega
  rw [yi]
  exact zh h2 rfl
 rw [Nat.zero_mul, Nat.zero_add, zaA]
 exact zh h (by simpa using hu)
theorem zmj {W : World} {a b : Nat} {x : F} (h : W.heap[a]? = some (.cells #[.slice (some ⟨b, 0, none⟩) 1 1] 36 (0, 0))) (h2 : W.heap[b]? = some (.cells #[.int .u8 x.v] 5 (0, 0))) : PL W (some ⟨a, 0, none⟩) 1 [[x]] := by
 refine ⟨[(some ⟨b, 0, none⟩, 1, 1)], ?_, rfl, fun i hi => ?_⟩
 ·refine Kd.C_of_reads (enc := ja) (h1 := fun _ => rfl) (d := hd0) ⟨rfl, by decide, fun _ => ⟨⟨a, 0, none⟩, rfl, fun j hj => ?_⟩⟩
  obtain rfl : j = 0 := by simp at hj; omega
  rw [yi]
  exact zh h rfl
 obtain rfl : i = 0 := by omega
 exact ⟨rfl, Nat.le_refl _, zgy h2⟩
def zeM : Ri := ⟨0, 0, [], [2]⟩
theorem zfc : yv 3 1 1 0 9 1 [zeM] [1] := by decide +kernel
theorem znr : zbR 3 1 1 0 9 1 [zeM] := by decide +kernel
theorem zmH : jD 3 1 1 [⟨7, by omega⟩] [zeM] [[0]] = [⟨7, by omega⟩] := by
 have hth : zbu (zN 3 1) (Jn [⟨7, by omega⟩] 1 0) [⟨7, by omega⟩] := by
  refine ⟨by decide +kernel, by decide, fun i hi => ?_⟩
  obtain rfl : i = 0 := by simp [zN] at hi; omega
  decide +kernel
 have hq : Jl 3 1 1 [⟨7, by omega⟩] [0] 0 2 = ⟨7, by omega⟩ := by
  unfold Jl zhk
  rw [zas (ZG 3 1 (by omega)) hth]
  decide +kernel
 have e : jD 3 1 1 [⟨7, by omega⟩] [zeM] [[0]] = [Jl 3 1 1 [⟨7, by omega⟩] [0] 0 2] := by
  have key : ∀ q : Ev, Zl 3 1 (Jm 3 1) (yO 1 1) ptF ([zeM].map zM) q [] = [q 0 2] := fun q => by
   simp [Zl, ZY, zeM, zM, yo, yI]
  exact key _
 rw [e, hq]
set_option maxRecDepth 100000 in
set_option maxHeartbeats 3200000 in
theorem zcu (w : World) : Calls Try.prog 64 #[] w fun e w' => e = .returned (.bool true) ∧ Below w.heap.size w w' := by
 obtain ⟨W1, hW1, z1, a1, b1⟩ := zU w (.cells #[.int .i64 3, .int .i64 1, .int .i64 1, .int .i64 0, .int .i64 9] 48)
 obtain ⟨W2, hW2, z2, a2, b2⟩ := zU W1 (.cells #[.int .i64 2] 3)
 obtain ⟨W3, hW3, z3, a3, b3⟩ := zU W2 (.cells #[.int .i64 0, .int .i64 0, .slice none 0 0, .slice (some ⟨w.heap.size + 1, 0, none⟩) 1 1] 90)
 obtain ⟨W4, hW4, z4, a4, b4⟩ := zU W3 (.cells #[.int .u8 7] 5)
 obtain ⟨W5, hW5, z5, a5, b5⟩ := zU W4 (.cells #[.int .u8 0] 5)
 obtain ⟨W6, hW6, z6, a6, b6⟩ := zU W5 (.cells #[.slice (some ⟨w.heap.size + 1 + 1 + 1 + 1, 0, none⟩) 1 1] 36)
 rw [z5, z4, z3, z2, z1] at a6
 rw [z4, z3, z2, z1] at a5
 rw [z3, z2, z1] at a4
 rw [z2, z1] at a3
 rw [z1] at a2
 have hR3 : RL W3 (some ⟨w.heap.size + 1 + 1, 0, none⟩) 1 [zeM] := zoG a3 (zl a2 b3)
 have b36 : Below W3.heap.size W3 W6 := b4.trans ((b5.trans (b6.mono b5.size)).mono b4.size)
 have b46 : Below W4.heap.size W4 W6 := b5.trans (b6.mono b5.size)
 have hR6 := zA hR3 b36
 have hD6 : Kd.C fk W6 (some ⟨w.heap.size + 1 + 1 + 1, 0, none⟩) 1 [⟨7, by omega⟩] := zgy (zl a4 b46)
 have hT6 : PL W6 (some ⟨w.heap.size + 1 + 1 + 1 + 1 + 1, 0, none⟩) 1 [[(0 : F)]] := zmj a6 (zl a5 b6)
 have hsm : ∀ r ∈ [zeM], r.ds.length ≤ 9223372036854775807 ∧ r.sn.length ≤ 9223372036854775807 := fun r hr => by
  rw [List.mem_singleton.1 hr]
  decide
 have hlk := zhC W6 3 1 1 0 9 _ 1 1 _ hD6 (Nat.le_refl _) _ 1 1 _ hR6 hsm _ 1 1 _ hT6 (by decide) zfc
 rw [zmH] at hlk
 have HLK : za (Calls Try.prog 71 #[.agg #[.int .i64 3, .int .i64 1, .int .i64 1, .int .i64 0, .int .i64 9], .slice (some ⟨w.heap.size + 1 + 1 + 1, 0, none⟩) 1 1, .slice (some ⟨w.heap.size + 1 + 1, 0, none⟩) 1 1, .slice (some ⟨w.heap.size + 1 + 1 + 1 + 1 + 1, 0, none⟩) 1 1] W6 fun e w' => ∃ O co, e = .returned (.tuple #[.slice O 1 co, .bool true]) ∧ Kd.C fk w' O 1 [⟨7, by omega⟩] ∧ Below W3.heap.size W3 w') := ⟨by
  refine hlk.mono ?_
  rintro e w' ⟨O, co, rfl, h1, h2, h3⟩
  exact ⟨O, co, rfl, h1, b36.trans (h3.mono b36.size)⟩⟩
 have HW1 := za.mk hW1
 have HW2 := za.mk hW2
 have HW3 := za.mk hW3
 have HW4 := za.mk hW4
 have HW5 := za.mk hW5
 have HW6 := za.mk hW6
 have HR3 := za.mk hR3
 have HSM := za.mk hsm
 have b03 : Below w.heap.size w W3 := b1.trans ((b2.trans (b3.mono b2.size)).mono b1.size)
 have HB03 := za.mk b03
 have HP : za (∀ W, Below W3.heap.size W3 W → W.cell? ⟨w.heap.size, 0, none⟩ = some (.int .i64 3) ∧ W.cell? ⟨w.heap.size, 1, none⟩ = some (.int .i64 1) ∧ W.cell? ⟨w.heap.size, 2, none⟩ = some (.int .i64 1) ∧ W.cell? ⟨w.heap.size, 3, none⟩ = some (.int .i64 0) ∧ W.cell? ⟨w.heap.size, 4, none⟩ = some (.int .i64 9)) := ⟨fun W h => by
  have h1 := zl (zl a1 (b2.trans (b3.mono b2.size))) h
  exact ⟨zh h1 rfl, zh h1 rfl, zh h1 rfl, zh h1 rfl, zh h1 rfl⟩⟩
 have hu48 := Try.underlying48
 have hu90 := Try.underlying90
 clear hW1 hW2 hW3 hW4 hW5 hW6 z1 z2 z3 z4 z5 z6 a1 a2 a3 a4 a5 a6 b1 b2 b3 b4 b5 b6 hR3 b36 b46 hR6 hD6 hT6 hsm hlk b03
 have HTU : za (∀ w7 : World, Below W3.heap.size W3 w7 → Calls Try.prog 74 #[.agg #[.int .i64 3, .int .i64 1, .int .i64 1, .int .i64 0, .int .i64 9], .slice (some ⟨w7.heap.size, 0, none⟩) 1 1, .slice (some ⟨w7.heap.size + 1, 0, none⟩) 1 1, .slice (some ⟨w.heap.size + 1 + 1, 0, none⟩) 1 1, .slice (some ⟨w7.heap.size + 1 + 1 + 1, 0, none⟩) 1 1]
  ((((w7.alloc (.cells #[.int .u8 7] 5)).alloc (.cells #[.int .u8 8] 5)).alloc (.cells #[.int .u8 0] 5)).alloc (.cells #[.slice (some ⟨w7.heap.size + 1 + 1, 0, none⟩) 1 1] 36)) fun e w' => ∃ ad co B c, e = .returned (.tuple #[.slice (some ad) 1 co, .bool true]) ∧ w'.cell? ad = some (.slice B 1 c) ∧ 1 ≤ co ∧ Below w7.heap.size w7 w') := ⟨fun w7 h7 => by
  obtain ⟨V1, hV1, z1, a1, b1⟩ := zU w7 (.cells #[.int .u8 7] 5)
  obtain ⟨V2, hV2, z2, a2, b2⟩ := zU V1 (.cells #[.int .u8 8] 5)
  obtain ⟨V3, hV3, z3, a3, b3⟩ := zU V2 (.cells #[.int .u8 0] 5)
  obtain ⟨V4, hV4, z4, a4, b4⟩ := zU V3 (.cells #[.slice (some ⟨w7.heap.size + 1 + 1, 0, none⟩) 1 1] 36)
  rw [← hV1, ← hV2, ← hV3, ← hV4]
  rw [z3, z2, z1] at a4
  rw [z2, z1] at a3
  rw [z1] at a2
  have b34 := b3.trans (b4.mono b3.size)
  have b24 := b2.trans (b34.mono b2.size)
  have b14 := b1.trans (b24.mono b1.size)
  have hD : Kd.C fk V4 (some ⟨w7.heap.size, 0, none⟩) 1 [⟨7, by omega⟩] := zgy (zl a1 b24)
  have hE : Kd.C fk V4 (some ⟨w7.heap.size + 1, 0, none⟩) 1 [⟨8, by omega⟩] := zgy (zl a2 b34)
  have hZ : PL V4 (some ⟨w7.heap.size + 1 + 1 + 1, 0, none⟩) 1 [[(0 : F)]] := zmj a4 (zl a3 b4)
  have h34 : Below W3.heap.size W3 V4 := h7.trans (b14.mono h7.size)
  refine (zaG V4 3 1 1 0 9 _ 1 1 _ hD (Nat.le_refl _) _ 1 _ hE (Nat.le_refl _) _ 1 1 _ (zA HR3.out h34) HSM.out _ 1 1 _ hZ (by decide) zfc).mono ?_
  rintro e w' ⟨O, co, rfl, h1, h2, h3⟩
  obtain ⟨ad, B, c, rfl, hx, hl, hC⟩ := jV h1 0 (by decide)
  have hln : ((ZB 3 1 1 [⟨7, by omega⟩] [⟨8, by omega⟩] [zeM] [[0]]).getD 0 []).length = 1 := by
   have h5 := congrArg (fun l : List Nat => l.getD 0 0) (zck (N := 3) (T := 1) (K := 1) (a := [⟨7, by omega⟩]) (b := [⟨8, by omega⟩]) (rs := [zeM]) (t0 := [0]) (ts := []) (by exact ⟨by decide, rfl⟩))
   exact h5
  rw [hln, yi] at hx
  exact ⟨ad, co, B, c, rfl, hx, h2, b14.trans (h3.mono b14.size)⟩⟩
 have HMY : za (∀ W, Below W3.heap.size W3 W → Calls Try.prog 65 #[.agg #[.int .i64 3, .int .i64 1, .int .i64 1, .int .i64 0, .int .i64 9], .int .i64 1, .slice (some ⟨w.heap.size + 1 + 1, 0, none⟩) 1 1] W fun e w' => e = .returned (.bool true) ∧ Below W.heap.size W w') := ⟨fun W h => by
  have h1 := zjp W 3 1 1 0 9 1 _ 1 1 _ (zA HR3.out h) (by decide) HSM.out (by decide)
  rw [decide_eq_true znr] at h1
  exact h1⟩
 have HBT : za (∀ W W', Below W3.heap.size W3 W → Below W.heap.size W W' → Below W3.heap.size W3 W') := ⟨fun W W' h h' => h.trans (h'.mono h.size)⟩
 have HCV : za (∀ W W' O co, Kd.C fk W O 1 [(⟨7, by omega⟩ : F)] → Below W.heap.size W W' → (convert 36 9 (.slice O 1 co)).run Try.prog W' = .ok (.string ⟨#[7]⟩) W') := ⟨fun W W' O co h h' => Kd.C_string (P := Try.prog) (c := co) Try.underlying36 Try.underlying5 Try.underlying9 (Jz.2 (Kd.C_below h h'))⟩
 have HCE : za (∀ W W' ad v, W.cell? ad = some v → Below W.heap.size W W' → W'.cell? ad = some v) := ⟨fun W W' ad v h h' => (Fr.of_below h' (fun _ => False)).cell h (fun h => h)⟩
 have HTR : za (∀ W W' W'', Below W.heap.size W W' → Below W'.heap.size W' W'' → Below W.heap.size W W'') := ⟨fun W W' W'' h h' => h.trans (h'.mono h.size)⟩
 go_enter Try.func64, Try.ntmps64
 go_wp2_with (first
  | (go_at_call 71; rw [← HW1.out, ← HW2.out, ← HW3.out, ← HW4.out, ← HW5.out, ← HW6.out]; with_reducible refine HLK.out.mono ?_; rintro e w7 ⟨O, co, rfl, hO, hb7⟩; have HO := za.mk hO; have HB7 := za.mk hb7; obtain ⟨p0, p1, p2, p3, p4⟩ := HP.out w7 hb7; clear hO hb7)
  | (go_at_call 74; with_reducible refine (HTU.out w7 HB7.out).mono ?_; rintro e w8 ⟨ad, co8, B8, c8, rfl, hx8, hc8, hb8⟩; have HX8 := za.mk hx8; have HB78 := za.mk hb8; have HB8 := za.mk (HBT.out _ _ HB7.out hb8); obtain ⟨p0, p1, p2, p3, p4⟩ := HP.out w8 HB8.out; clear hx8 hb8)
  | (go_at_call 65; with_reducible refine (HMY.out w8 HB8.out).mono ?_; rintro e w9 ⟨rfl, hb9⟩; have hq9 := HCV.out _ _ _ co HO.out (HTR.out _ _ _ HB78.out hb9); have hx9 := HCE.out _ _ _ _ HX8.out hb9; have HB9 := za.mk (HBT.out _ _ HB8.out hb9); clear hb9))
 go_ret
 exact ⟨rfl, HB03.out.trans (HB9.out.mono HB03.out.size)⟩
end Go.Proofs.Ytpeiejkcoadhfaa

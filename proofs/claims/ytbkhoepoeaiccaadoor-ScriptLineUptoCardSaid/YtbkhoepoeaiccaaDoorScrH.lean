/- The document's Hex. -/
import Derived.Test.YtbkhoepoeaiccaaDoorBase
import Derived.Test.YtbkhoepoeaiccaaDoorScrP
import Derived.Test.YtbkhoepoeaiccaaDoorScrQ
import Derived.Test.YtbkhoepoeaiccaaDoorScrB
namespace Go.Proofs.YtbkhoepoeaiccaaDoor
open Go.RowKit Go.Shelf Go.Proofs.YtbkhoepoeaiccaaDoorW.PrintWords
attribute [local go_sem] Oper.semAt_some
/-- Bytes as numbers. -/
def bl (l : List UInt8) : List Int := l.map fun c => (c.toNat : Int)
theorem bl_length (l : List UInt8) : (bl l).length = l.length := by simp [bl]
theorem bl_get (l : List UInt8) (k : Nat) (h : k < l.length) : (bl l).getD k 0 = ((l.getD k 0).toNat : Int) := by
  rw [List.getD_eq_getElem?_getD, List.getD_eq_getElem?_getD]
  unfold bl
  rw [List.getElem?_map, List.getElem?_eq_getElem h]
  rfl
theorem byte_at {w : World} {A : Option Addr} {n : Nat} {l : List UInt8} (h : Kd.C (Kd.int .u8) w A n (bl l)) (k : Nat) (hk : k < n) : ∃ ad, A = some ad ∧ w.cell? (ad.add k) = some (.int .u8 ((l.getD k 0).toNat : Int)) := by
  have hl : (bl l).length = n := Kd.C_len h
  rw [bl_length] at hl
  obtain ⟨ad, c, e, _, hK, hc0⟩ := Kd.C_get h (0 : Int) (k : Int) (by omega) (by omega)
  rw [Int.toNat_natCast, bl_get l k (by omega)] at hK
  refine ⟨ad, e, ?_⟩
  have h0 := hc0 0 (.int .u8 ((l.getD k 0).toNat : Int)) (by
    rw [show c = [.int .u8 ((l.getD k 0).toNat : Int)] from hK]; rfl)
  rw [show (Kd.int .u8).sz = 1 from rfl, Nat.mul_one, Nat.add_zero, Int.toNat_natCast] at h0
  exact h0

/-- The digits, as the program has them. -/
theorem dig_piece : ∀ p : Fin 16, ((⟨#[48, 49, 50, 51, 52, 53, 54, 55, 56, 57, 97, 98, 99, 100, 101, 102]⟩ : ByteArray).extract p.val (p.val + 1)).data.toList = [hxD p.val] := by decide +kernel
theorem hex_step (s : ByteArray) (p q : Nat) (hp : p < 16) (hq : q < 16) :
    (s ++ (⟨#[48, 49, 50, 51, 52, 53, 54, 55, 56, 57, 97, 98, 99, 100, 101, 102]⟩ : ByteArray).extract p (p + 1) ++ (⟨#[48, 49, 50, 51, 52, 53, 54, 55, 56, 57, 97, 98, 99, 100, 101, 102]⟩ : ByteArray).extract q (q + 1)).data.toList = s.data.toList ++ [hxD p, hxD q] := by
  have h1 := dig_piece ⟨p, hp⟩
  have h2 := dig_piece ⟨q, hq⟩
  simp only at h1 h2
  rw [ByteArray.data_append, Array.toList_append, ByteArray.data_append, Array.toList_append, h1, h2, List.append_assoc]
  rfl
theorem str_of (s : ByteArray) (l : List UInt8) (h : s.data.toList = l) : s = ⟨l.toArray⟩ := by
  cases s with
  | mk d => rw [← h]
theorem hexL_take (l : List UInt8) (i : Nat) (h : i < l.length) : hexL (l.take (i + 1)) = hexL (l.take i) ++ [hxD ((l.getD i 0).toNat / 16), hxD ((l.getD i 0).toNat % 16)] := by
  rw [List.take_add_one, List.getElem?_eq_getElem h, Option.toList_some, hexL_append, hexL_cons, hexL_nil, List.getD_eq_getElem?_getD, List.getElem?_eq_getElem h]
  rfl

set_option maxRecDepth 100000 in
set_option maxHeartbeats 1600000 in
theorem RHex_any (w : World) (A : Option Addr) (n c : Nat) (l : List UInt8) (hC : Kd.C (Kd.int .u8) w A n (bl l)) (hn : n ≤ 1099511627776) :
    Calls Tryd.prog 16 #[.slice A n c] w fun e w' => e = .returned (.string ⟨(hexL l).toArray⟩) ∧ Drawn0 w w' := by
  have hl : (bl l).length = n := Kd.C_len hC
  rw [bl_length] at hl
  have HC := Aside0.mk hC
  clear hC
  go_enter Tryd.func16, Tryd.ntmps16
  go_wp2
  go_loopw [3, 4] (fun v3 v4 wr => ∃ (i : Nat) (s : ByteArray) (t : Nat), i ≤ n ∧ v4 = .int .i64 (i : Int) ∧ v3 = .string s ∧ wr = w.drewN t ∧ s.size = 2 * i ∧ Aside0 (s.data.toList = hexL (l.take i))) (fun _ v4 _ => n - (intOf v4).toNat)
  case atStart => exact ⟨0, ⟨#[]⟩, 0, by omega, rfl, rfl, rfl, rfl, ⟨rfl⟩⟩
  case round =>
    obtain ⟨i, s, t, hi, rfl, rfl, rfl, hsz, HS⟩ := hrel
    by_cases hlt : i < n
    · obtain ⟨ad, rfl, hcell⟩ := byte_at HC.out i hlt
      obtain ⟨y, hy⟩ : ∃ y, y = l.getD i 0 := ⟨_, rfl⟩
      rw [← hy] at hcell
      have hyl := y.toNat_lt
      obtain ⟨b, hb⟩ : ∃ b, b = y.toNat := ⟨_, rfl⟩
      rw [← hb] at hcell hyl
      have HY := Aside0.mk hy
      have HBY := Aside0.mk hb
      obtain ⟨p, hp⟩ : ∃ p, p = b / 16 := ⟨_, rfl⟩
      obtain ⟨q, hq⟩ : ∃ q, q = b % 16 := ⟨_, rfl⟩
      have hp1 : (b : Int).tdiv 16 = (p : Int) := by rw [Int.tdiv_eq_ediv_of_nonneg (by omega)]; omega
      have hq1 : (b : Int).tmod 16 = (q : Int) := by rw [Int.tmod_eq_emod_of_nonneg (by omega)]; omega
      have hp2 : (b : Int) / 16 = (p : Int) := by omega
      have hq2 : (b : Int) % 16 = (q : Int) := by omega
      have hp3 : IntKind.u8.wrap ((p : Int) + 1) = (p : Int) + 1 := by rw [IntKind.wrap_u8]; omega
      have hq3 : IntKind.u8.wrap ((q : Int) + 1) = (q : Int) + 1 := by rw [IntKind.wrap_u8]; omega
      have hp4 : IntKind.u8.wrap (p : Int) = (p : Int) := by rw [IntKind.wrap_u8]; omega
      have hq4 : IntKind.u8.wrap (q : Int) = (q : Int) := by rw [IntKind.wrap_u8]; omega
      have hp5 : (p : Int) < 16 := by omega
      have hq5 : (q : Int) < 16 := by omega
      have HPQ := Aside0.mk (And.intro hp hq)
      clear hy hb hp hq
      go_wp2
      go_quiet (fail)
      have hst := hex_step s p q (by omega) (by omega)
      rw [HS.out, HPQ.out.1, HPQ.out.2, HBY.out, HY.out, ← hexL_take l i (by omega)] at hst
      rw [← HY.out, ← HBY.out, ← HPQ.out.1, ← HPQ.out.2] at hst
      obtain ⟨s', hs'⟩ : ∃ s', s' = s ++ (⟨#[48, 49, 50, 51, 52, 53, 54, 55, 56, 57, 97, 98, 99, 100, 101, 102]⟩ : ByteArray).extract p (p + 1) ++ (⟨#[48, 49, 50, 51, 52, 53, 54, 55, 56, 57, 97, 98, 99, 100, 101, 102]⟩ : ByteArray).extract q (q + 1) := ⟨_, rfl⟩
      rw [← hs'] at hst ⊢
      have hsz' : s'.size = 2 * (i + 1) := by
        have h1 : s'.data.toList.length = s'.size := by rw [Array.length_toList]; rfl
        rw [← h1, hst, hexL_length, List.length_take]
        omega
      have HST := Aside0.mk hst
      clear hst hs' hp1 hq1 hp2 hq2 hp3 hq3 hp4 hq4 hp5 hq5
      go_wp2
      go_roundw
      case rel => exact ⟨i + 1, s', _, by omega, by go_num, rfl, by first | rfl | exact World.drewN_drewN _ _ _, hsz', HST⟩
      case measure => simp [intOf]; omega
    · obtain rfl : i = n := by omega
      go_wp2
      go_ret
      refine ⟨?_, ⟨t, rfl⟩⟩
      have h1 := HS.out
      rw [List.take_of_length_le (by omega)] at h1
      rw [str_of s _ h1]
      rfl
end Go.Proofs.YtbkhoepoeaiccaaDoor

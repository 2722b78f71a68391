/- unhex: digits as bytes, behind a letter. -/
import Derived.Test.YtbkhoepoeaiccaaDoorScrI
import Derived.Test.YtbkhoepoeaiccaaDoorScrL
import Derived.Test.YtbkhoepoeaiccaaDoorPush
namespace Go.Proofs.YtbkhoepoeaiccaaDoor
open Go.RowKit Go.Shelf Go.Proofs.YtbkhoepoeaiccaaDoorW.PrintWords

theorem info5 : (Tryd.prog.info? 5).map (fun i => (i.zero, i.size, i.bytes)) = some (some (.int .u8 0), 1, 1) := by kernel_rfl
theorem index_any (c : UInt8) (W : World) : Calls Tryd.prog 41 #[.string ⟨#[48, 49, 50, 51, 52, 53, 54, 55, 56, 57, 97, 98, 99, 100, 101, 102]⟩, .int .u8 (c.toNat : Int)] W fun e w' => e = .returned (.int .i64 (digI c)) ∧ w' = W := by
  have h := Tryd.strings_IndexByte ⟨#[48, 49, 50, 51, 52, 53, 54, 55, 56, 57, 97, 98, 99, 100, 101, 102]⟩ (c.toNat : Int) W
  refine h.mono fun e w' ⟨he, hw⟩ => ⟨?_, hw⟩
  rw [he]
  have e1 : (c.toNat : Int).toNat.toUInt8 = c := by
    rw [Int.toNat_natCast]
    exact UInt8.ofNat_toNat
  rw [e1]
  exact congrArg (fun z => Ending.returned (.int .i64 z)) (index_dig c)
/-- Byte i of a text. -/
theorem text_at (s : ByteArray) (i : Nat) (h : i < s.size) : ∀ h' : i < s.size, ((s[i].toNat : Nat) : Int) = ((s.data.toList.getD i 0).toNat : Int) := fun h' => (bt_at s (i : Int) h').trans (bt_get s i h)

theorem meas2 {i n : Nat} (h : i < n) : n - (intOf (.int .i64 ((i : Int) + 2))).toNat < n - (intOf (.int .i64 (i : Int))).toNat := by
  unfold intOf
  simp only []
  omega
set_option maxRecDepth 100000 in
set_option maxHeartbeats 1600000 in
theorem PUnhex_any (w : World) (s : ByteArray) (c : UInt8) (hb : s.size ≤ 1099511627776) :
    Calls Tryd.prog 31 #[.string s, .int .u8 (c.toNat : Int)] w fun e w' => ∃ v : Value, e = .returned (.tuple #[v, .bool (bytesAns (bytesL s.data.toList c)).2]) ∧ Kd.R (Kd.int .u8) 5 w' w.heap.size (fun _ => True) v (bytesAns (bytesL s.data.toList c)).1 ∧ Below w.heap.size w w' := by
  have hsl : s.data.toList.length = s.size := by rw [Array.length_toList]; rfl
  obtain ⟨n, hn⟩ : ∃ n, n = s.size := ⟨_, rfl⟩
  obtain ⟨l, hl⟩ : ∃ l, l = s.data.toList := ⟨_, rfl⟩
  rw [← hl] at hsl ⊢
  rw [← hn] at hsl hb
  have HL := Aside0.mk hl
  by_cases h0 : n = 0
  · have hne : bytesL l c = none := by
      have : l = [] := List.eq_nil_of_length_eq_zero (by omega)
      rw [this]; rfl
    rw [hne]
    have hs0 : ((s.size : Int) == 0) = true := by rw [← hn, h0]; rfl
    clear hl hn hsl h0 hb HL
    unfold bytesAns
    go_enter Tryd.func31, Tryd.ntmps31
    go_wp2
    go_ret2
    exact ⟨_, rfl, Kd.R_nil _ _ _ _ _, Below.refl _ _⟩
  · have hs0 : ((s.size : Int) == 0) = false := by rw [← hn]; exact beq_false_of_ne (by omega)
    obtain ⟨d, t, hdt⟩ : ∃ d t, l = d :: t := by
      cases l with
      | nil => exact absurd hsl.symm h0
      | cons d t => exact ⟨d, t, rfl⟩
    have hx0 := text_at s 0 (by omega)
    rw [← hl, hdt, List.getD_cons_zero] at hx0
    have hp0 : (0 < s.size) = True := eq_true (by omega)
    by_cases h1 : d = c
    · have hcc : ((d.toNat : Int) != (c.toNat : Int)) = false := by rw [h1]; simp
      by_cases h2 : n % 2 = 0
      · have hev : ((s.size : Int) % 2 == 0) = true := by
          have : (n : Int) % 2 = 0 := by omega
          rw [← hn, this]; rfl
        have hne : bytesL l c = none := by
          rw [hdt] at hsl ⊢
          unfold bytesL
          simp only [h1, if_true]
          exact unhex_odd t (by simp only [List.length_cons] at hsl; omega)
        rw [hne]
        clear hl hn hsl h0 hb HL h1 h2 hdt hne
        unfold bytesAns
        go_enter Tryd.func31, Tryd.ntmps31
        go_wp2
        go_ret2
        exact ⟨_, rfl, Kd.R_nil _ _ _ _ _, Below.refl _ _⟩
      · have hev : ((s.size : Int) % 2 == 0) = false := by
          rw [← hn]
          exact beq_false_of_ne (by omega)
        rw [hdt] at hsl
        simp only [List.length_cons] at hsl
        have HTL := Aside0.mk hsl
        have HD := Aside0.mk (show l.drop 1 = t by rw [hdt]; rfl)
        have hby : bytesL l c = unhexL t := by
          rw [hdt]
          unfold bytesL
          simp only [h1, if_true]
        rw [hby]
        have HO := Aside0.mk h2
        have HN := Aside0.mk hn
        have HN0 := Aside0.mk hb
        clear hl hn hsl h0 h1 h2 hby hb hdt
        go_enter Tryd.func31, Tryd.ntmps31
        go_wp2
        clear hs0 hx0 hp0 hcc hev
        rw [← HN.out]
        go_loopw [6, 7] (fun v6 v7 wr => ∃ (k d' : Nat) (B : Option Addr) (out : List UInt8), 2 * k + 1 ≤ n ∧ out.length = k ∧ v7 = .int .i64 ((2 * k + 1 : Nat) : Int) ∧ v6 = .slice B k d' ∧ Aside0 (Kd.R (Kd.int .u8) 5 wr w.heap.size (fun _ => True) (.slice B k d') (bl out)) ∧ Aside0 (Below w.heap.size w wr) ∧ Aside0 (unhexL t = (unhexL (l.drop (2 * k + 1))).map (out ++ ·))) (fun _ v7 _ => n - (intOf v7).toNat)
        case atStart => exact ⟨0, 0, none, [], by have := HO.out; omega, rfl, rfl, rfl, ⟨Kd.R_nil _ _ _ _ _⟩, ⟨Below.refl _ _⟩, ⟨by rw [show 2 * 0 + 1 = 1 from rfl, HD.out]; simp⟩⟩
        case round =>
          obtain ⟨k, d', B, out, hk, hol, rfl, rfl, HR, HB, HU⟩ := hrel
          clear HD HTL
          obtain ⟨i, hi⟩ : ∃ i, i = 2 * k + 1 := ⟨_, rfl⟩
          rw [← hi] at HU hk ⊢
          have HI := Aside0.mk hi
          clear hi
          by_cases hlt : i < n
          · have hodd := HO.out
            have hi := HI.out
            have hxa := text_at s i (by rw [← HN.out]; exact hlt)
            have hxb := text_at s (i + 1) (by rw [← HN.out]; omega)
            rw [← HL.out] at hxa hxb
            obtain ⟨a, ha⟩ : ∃ a, a = l.getD i 0 := ⟨_, rfl⟩
            obtain ⟨b, hb⟩ : ∃ b, b = l.getD (i + 1) 0 := ⟨_, rfl⟩
            rw [← ha] at hxa
            rw [← hb] at hxb
            have HIA := Aside0.mk (index_any a)
            have HIB := Aside0.mk (index_any b)
            have hps : ((i : Int) < (s.size : Int)) = True := eq_true (by rw [← HN.out]; omega)
            have hps2 : ((i : Int) + 1 < (s.size : Int)) = True := eq_true (by rw [← HN.out]; omega)
            have hpn : (i < s.size) = True := eq_true (by rw [← HN.out]; omega)
            have hpn2 : (i + 1 < s.size) = True := eq_true (by rw [← HN.out]; omega)
            have hw1 : IntKind.i64.wrap ((i : Int) + 1) = (i : Int) + 1 := IntWalk.i64_in _ (by have := HN0.out; omega)
            have HLT := Aside0.mk hlt
            have HA := Aside0.mk (And.intro ha hb)
            have HDR := Aside0.mk (show l.drop i = a :: b :: l.drop (i + 2) by
              have hsl : l.length = n := by rw [HL.out, Array.length_toList]; exact HN.out.symm
              rw [List.drop_eq_getElem_cons (by omega), List.drop_eq_getElem_cons (by omega), ha, hb, List.getD_eq_getElem?_getD, List.getD_eq_getElem?_getD, List.getElem?_eq_getElem (by omega), List.getElem?_eq_getElem (by omega)]
              rfl)
            clear hlt ha hb hodd hi
            go_wp2
            go_quiet (first | (go_at_call 41; exact Calls.quiet_of_same (HIA.out _)) | (go_at_call 41; exact Calls.quiet_of_same (HIB.out _)))
            clear hxa hxb hps hps2 hpn hpn2 hw1 HIA HIB
            cases hva : digV a with
            | none =>
              have hda : digI a = -1 := by unfold digI; rw [hva]
              have HV := Aside0.mk hva
              clear hva
              have HANS : Aside0 (bytesAns (unhexL t) = ([], false)) := .mk (by
                rw [HU.out, HDR.out, unhexL, HV.out]; rfl)
              go_wp2
              go_ret2
              rw [HANS.out]
              exact ⟨_, rfl, Kd.R_nil _ _ _ _ _, below_drawN HB.out nq⟩
            | some x =>
              have hx16 := digV_lt hva
              have hda : digI a = (x : Int) := by unfold digI; rw [hva]
              have HV := Aside0.mk hva
              clear hva
              have hxn : ((x : Int) < 0) = False := eq_false (by omega)
              cases hvb : digV b with
              | none =>
                have hdb : digI b = -1 := by unfold digI; rw [hvb]
                have HV2 := Aside0.mk hvb
                clear hvb
                have HANS : Aside0 (bytesAns (unhexL t) = ([], false)) := .mk (by
                  rw [HU.out, HDR.out, unhexL, HV.out, HV2.out]; rfl)
                go_wp2
                go_ret2
                rw [HANS.out]
                exact ⟨_, rfl, Kd.R_nil _ _ _ _ _, below_drawN HB.out nq⟩
              | some y =>
                have hy16 := digV_lt hvb
                have hdb : digI b = (y : Int) := by unfold digI; rw [hvb]
                have HV2 := Aside0.mk hvb
                clear hvb
                have hyn : ((y : Int) < 0) = False := eq_false (by omega)
                obtain ⟨z, hz⟩ : ∃ z, z = UInt8.ofNat (x * 16 + y) := ⟨_, rfl⟩
                have hzn : z.toNat = x * 16 + y := by rw [hz, UInt8.toNat_ofNat', Nat.mod_eq_of_lt (by omega)]
                have hor : Go.bits .or .i64 ((x : Int) * 16) (y : Int) % 256 = (z.toNat : Int) := by
                  rw [or_dig ⟨x, hx16⟩ ⟨y, hy16⟩, hzn]
                  simp only []
                  omega
                have HU2 : Aside0 (unhexL t = (unhexL (l.drop (i + 2))).map ((out ++ [z]) ++ ·)) := .mk (by
                  rw [HU.out, HDR.out, unhexL, HV.out, HV2.out, hz]
                  simp only []
                  cases unhexL (l.drop (i + 2)) with
                  | none => rfl
                  | some t => simp)
                have hk0 := HI.out
                have hn0 := HN0.out
                have hlt0 := HLT.out
                obtain ⟨B', e', W', hX, HR', HB'⟩ := (R_pushes (P := Tryd.prog) (Value.int .u8) 0 (h1 := fun _ => rfl) wr w 31 5 (.int .u8 0) 1 Tryd.underlying31 info5 rfl HR.out HB.out (z.toNat : Int) k (bl (out ++ [z])) (by rw [bl_length]; exact hol) (bl_append _ _) (by omega) (by omega)).out (wr.drewN nq) (pw_below_drewN (Below.refl _ _) nq)
                replace hX := Aside0.mk hX
                have HK := Aside0.mk (And.intro hk0 hlt0)
                have HOL := Aside0.mk hol
                have hwi : wrap64 ((i : Int) + 2) = (i : Int) + 2 := by unfold wrap64; omega
                clear hz hzn hk0 hn0 hlt0 hk hol HR
                go_wp2_with (at_builtin; refine wpList_append_run rfl _ _ _ _ rfl rfl rfl hX.out ?_)
                go_roundw
                case rel => exact ⟨k + 1, e', B', out ++ [z], by have := HK.out; have := HO.out; omega, by rw [List.length_append, HOL.out]; rfl, by have := HK.out.1; go_num, rfl, HR', HB', ⟨by rw [show 2 * (k + 1) + 1 = i + 2 by have := HK.out.1; omega]; exact HU2.out⟩⟩
                case measure =>
                  first
                    | exact meas2 HK.out.2
                    | (rw [hwi]; exact meas2 HK.out.2)
          · obtain rfl : i = n := by omega
            have HANS : Aside0 (unhexL t = some out) := .mk (by
              have hsl : l.length = i := by rw [HL.out, Array.length_toList]; exact HN.out.symm
              rw [HU.out, List.drop_of_length_le (by omega), unhexL, Option.map_some, List.append_nil])
            have hps : ((i : Int) < (s.size : Int)) = False := eq_false (by rw [← HN.out]; omega)
            go_wp2
            go_ret2
            rw [HANS.out]
            exact ⟨_, rfl, HR.out, HB.out⟩
    · have hcc : ((d.toNat : Int) != (c.toNat : Int)) = true := by
        have : d.toNat ≠ c.toNat := fun e => h1 (UInt8.toNat_inj.1 e)
        simp only [bne_iff_ne, ne_eq]
        omega
      have hne : bytesL l c = none := by
        rw [hdt]
        unfold bytesL
        simp only [if_neg h1]
      rw [hne]
      clear hl hn hsl h0 hb HL h1 hdt hne
      unfold bytesAns
      go_enter Tryd.func31, Tryd.ntmps31
      go_wp2
      go_ret2
      exact ⟨_, rfl, Kd.R_nil _ _ _ _ _, Below.refl _ _⟩
end Go.Proofs.YtbkhoepoeaiccaaDoor

/- The document's Read. -/
import Derived.Test.YtbkhoepoeaiccaaDoorScrX
namespace Go.Proofs.YtbkhoepoeaiccaaDoor
open Go.RowKit Go.Shelf Go.Proofs.YtbkhoepoeaiccaaDoorW.PrintWords Go.Proofs.YtbkhoepoeaiccaaDoor.PScriptReads

/-- ReadLine, its step's value written out. -/
theorem rl_agg (w : World) (s : List UInt8) (hs : s.length ≤ 268435456) :
    Calls Tryd.prog 14 #[.string ⟨s.toArray⟩] w fun e w' => ∃ (kk ka kb kc : Int) (ids : ByteArray) (A : Option Addr) (n c : Nat), e = .returned (.tuple #[.agg #[.int .i64 kk, .int .i64 ka, .int .i64 kb, .int .i64 kc, .string ids, .slice A n c], .bool (readL s).isSome]) ∧ Aside0 (∀ x, readL s = some x → kk = x.kind ∧ ka = x.a ∧ kb = x.b ∧ kc = x.c ∧ ids = ⟨x.id.toArray⟩ ∧ Kd.R (Kd.int .u8) 5 w' w.heap.size (fun _ => True) (.slice A n c) (bl x.data)) ∧ Aside0 (Below w.heap.size w w') := by
  refine (ReadLine_any w s hs).mono fun e w' ⟨y, A, n, c, he, hx, hb⟩ => ?_
  obtain ⟨kk, ka, kb, kc, id, data⟩ := y
  exact ⟨kk, ka, kb, kc, ⟨id.toArray⟩, A, n, c, he, ⟨fun x h => by
    obtain ⟨h1, h2⟩ := hx x h
    subst h1
    exact ⟨rfl, rfl, rfl, rfl, rfl, h2⟩⟩, ⟨hb⟩⟩
theorem drop_line (s : List UInt8) (a i : Nat) (h1 : a ≤ i) (h2 : i < s.length) (hc : s.getD i 0 = 10) : s.drop a = (s.drop a).take (i - a) ++ 10 :: s.drop (i + 1) := by
  conv => lhs; rw [← List.take_append_drop (i - a) (s.drop a), List.drop_drop, show a + (i - a) = i by omega]
  rw [List.drop_eq_getElem_cons h2]
  congr 2
  rw [← hc, List.getD_eq_getElem?_getD, List.getElem?_eq_getElem h2]
  rfl
theorem string_list (b : ByteArray) (l : List UInt8) (h : b.data.toList = l) : b = ⟨l.toArray⟩ := by rw [← h]
theorem measI {i n : Nat} (h : i < n) : n - (intOf (.int .i64 ((i : Int) + 1))).toNat < n - (intOf (.int .i64 (i : Int))).toNat := by
  unfold intOf
  simp only []
  omega

set_option maxRecDepth 100000 in
set_option maxHeartbeats 3200000 in
theorem Read_any (w : World) (full : List UInt8) (hl : full.length ≤ 268435456) : Calls Tryd.prog 13 #[.string ⟨full.toArray⟩] w (ParseAns w full) := by
  obtain ⟨st, hst⟩ : ∃ st, st = (⟨full.toArray⟩ : ByteArray) := ⟨_, rfl⟩
  rw [← hst]
  have hstz : st.size = full.length := by rw [hst, size_str]
  obtain ⟨len, hlen⟩ : ∃ len, len = st.size := ⟨_, rfl⟩
  have HST := Aside0.mk hst
  have HLEN := Aside0.mk hlen
  have HLF : Aside0 (full.length = len) := ⟨by omega⟩
  have HL := Aside0.mk hl
  have hu33 := Tryd.underlying33
  clear hst hstz hl
  go_enter Tryd.func13, Tryd.ntmps13
  go_wp2
  go_loopw [5, 6, 7, 8] (fun v5 v6 v7 v8 wr => ∃ (pre : List St) (i a n d : Nat) (B : Option Addr), v5 = .slice B n d ∧ v6 = .int .i64 (a : Int) ∧ v7 = .int .i64 ((n : Int) + 1) ∧ v8 = .int .i64 (i : Int) ∧ Aside0 (full = printL pre ++ full.drop a ∧ AllWf pre) ∧ Aside0 (a ≤ i ∧ i ≤ len ∧ (10 : UInt8) ∉ (full.drop a).take (i - a)) ∧ Aside0 (pre.length = n) ∧ Aside0 (Kd.R k33 33 wr w.heap.size (fun _ => True) (.slice B n d) (pre.map toS)) ∧ Aside0 (Below w.heap.size w wr)) (fun _ _ _ v8 _ => len - (intOf v8).toNat)
  case atStart => exact ⟨[], 0, 0, 0, 0, none, rfl, rfl, rfl, rfl, ⟨⟨rfl, fun x hx => by cases hx⟩⟩, ⟨⟨Nat.le_refl _, Nat.zero_le _, by simp⟩⟩, ⟨rfl⟩, ⟨Kd.R_nil _ _ _ _ _⟩, ⟨Below.refl _ _⟩⟩
  case round =>
    obtain ⟨pre, i, a, n, d, B, rfl, rfl, rfl, rfl, HP, HI, HN, HR, HB⟩ := hrel
    obtain ⟨hai, hil, hfree⟩ := HI.out
    have hlf := HLF.out
    have hl0 := HL.out
    have hn1 : n ≤ 268435456 := by
      have h1 := printL_len pre
      have h2 : (printL pre).length ≤ full.length := by
        have h3 : full.length = (printL pre).length + (full.drop a).length := by conv => lhs; rw [HP.out.1, List.length_append]
        omega
      rw [HN.out] at h1
      omega
    by_cases hlt : i < len
    · have hilt : i < st.size := by omega
      have hxa := text_at st i hilt
      have hsd : st.data.toList = full := by rw [HST.out]
      rw [hsd] at hxa
      obtain ⟨c, hc⟩ : ∃ c, c = full.getD i 0 := ⟨_, rfl⟩
      rw [← hc] at hxa
      have hps : ((i : Int) < (st.size : Int)) = True := eq_true (by omega)
      have hpn : (i < st.size) = True := eq_true hilt
      have hw64 : wrap64 ((i : Int) + 1) = (i : Int) + 1 := by unfold wrap64; omega
      have HLT := Aside0.mk hlt
      have HXI := Aside0.mk (show (i : Int) + 1 = ((i + 1 : Nat) : Int) by omega)
      by_cases h10 : c = 10
      · have hceq : ((c.toNat : Int) != 10) = false := by rw [h10]; rfl
        have hdl := drop_line full a i hai (by omega) (by rw [← hc, h10])
        have hap : (st.extract a i).data.toList = (full.drop a).take (i - a) := extract_list st full HST.out a i
        obtain ⟨s, hs⟩ : ∃ s, s = (full.drop a).take (i - a) := ⟨_, rfl⟩
        rw [← hs] at hdl hap hfree
        have hsl : s.length ≤ 268435456 := by rw [hs, List.length_take, List.length_drop]; omega
        have hss := string_list _ _ hap
        have hle1 : ((a : Int) ≤ (i : Int)) = True := eq_true (by omega)
        have hle2 : (a ≤ i) = True := eq_true hai
        have hle3 : ((i : Int) ≤ (st.size : Int)) = True := eq_true (by omega)
        have hle4 : (i ≤ st.size) = True := eq_true (by omega)
        have hrd : Calls Tryd.prog 14 #[.string (st.extract a i)] wr fun e w' => ∃ (kk ka kb kc : Int) (ids : ByteArray) (A : Option Addr) (n c : Nat), e = .returned (.tuple #[.agg #[.int .i64 kk, .int .i64 ka, .int .i64 kb, .int .i64 kc, .string ids, .slice A n c], .bool (readL s).isSome]) ∧ Aside0 (∀ x, readL s = some x → kk = x.kind ∧ ka = x.a ∧ kb = x.b ∧ kc = x.c ∧ ids = ⟨x.id.toArray⟩ ∧ Kd.R (Kd.int .u8) 5 w' wr.heap.size (fun _ => True) (.slice A n c) (bl x.data)) ∧ Aside0 (Below wr.heap.size wr w') := by
          rw [hss]
          exact rl_agg wr s hsl
        obtain ⟨p, hp⟩ : ∃ p, p = (readL s).isSome := ⟨_, rfl⟩
        rw [← hp] at hrd
        cases p with
        | false =>
          have HRD := Aside0.mk hrd
          have HNO := Aside0.mk (isSome_none hp)
          have HSS := Aside0.mk (And.intro hdl hfree)
          clear hp hrd hss hsl hs hap hdl hc h10 hsd hilt hlt hn1 hl0 hlf hfree hil hai hlen
          go_wp2_with (go_at_call 14; with_reducible refine HRD.out.mono ?_; rintro e W2 ⟨kk, ka, kb, kc, ids, A, m, c, rfl, HX, HB2⟩)
          refine bodyPost_ret (results_tmp3 rfl _ _ _) rfl ?_
          rw [← HN.out]
          exact parse_no HP.out.1 HP.out.2 (.inl ⟨s, _, HSS.out.1, HSS.out.2, HNO.out⟩) (below_alloc (HB.out.trans (HB2.out.mono HB.out.size)) _)
        | true =>
          obtain ⟨x, hx⟩ := Option.isSome_iff_exists.1 hp.symm
          have hxw := readL_some s x hx
          obtain ⟨xk, xa, xb, xc, id, data⟩ := x
          obtain ⟨xi, hxi⟩ : ∃ xi, xi = (⟨id.toArray⟩ : ByteArray) := ⟨_, rfl⟩
          obtain ⟨pre2, hpre2⟩ : ∃ q, q = pre ++ [(⟨xk, xa, xb, xc, id, data⟩ : St)] := ⟨_, rfl⟩
          have HPL : Aside0 (pre2.length = n + 1) := ⟨by rw [hpre2, List.length_append, HN.out]; rfl⟩
          have HPU : Aside0 (∀ W2 A m c, Below wr.heap.size wr W2 → Kd.R (Kd.int .u8) 5 W2 wr.heap.size (fun _ => True) (.slice A m c) (bl data) → ∃ B' d' W', (Builtin.append_ #[22, 22] 22 #[.slice B n d, .slice (some ⟨W2.heap.size + 1, 0, none⟩) 1 1]).run Tryd.prog ((W2.alloc (.cells #[.int .i64 xk, .int .i64 xa, .int .i64 xb, .int .i64 xc, .string xi, .slice A m c] 33)).alloc (.cells #[.int .i64 xk, .int .i64 xa, .int .i64 xb, .int .i64 xc, .string xi, .slice A m c] 33)) = .ok (.slice B' (n + 1) d') W' ∧ Aside0 (Kd.R k33 33 W' w.heap.size (fun _ => True) (.slice B' (n + 1) d') (pre2.map toS)) ∧ Aside0 (Below w.heap.size w W')) := ⟨fun W2 A m c hW hD => by
            have ha := below_alloc hW (.cells #[.int .i64 xk, .int .i64 xa, .int .i64 xb, .int .i64 xc, .string xi, .slice A m c] 33)
            obtain ⟨B', d', W', h1, h2, h3⟩ := steps_push wr w HN.out HR.out HB.out ⟨xk, xa, xb, xc, id, data⟩ A m c (W2.alloc (.cells #[.int .i64 xk, .int .i64 xa, .int .i64 xb, .int .i64 xc, .string xi, .slice A m c] 33)) ha (R_fr hD (Fr.of_below (below_alloc (Below.refl _ _) _) (fun _ => False)) (fun _ _ _ _ h => h)) (by omega)
            simp only [← hxi] at h1
            have hz : (W2.alloc (.cells #[.int .i64 xk, .int .i64 xa, .int .i64 xb, .int .i64 xc, .string xi, .slice A m c] 33)).heap.size = W2.heap.size + 1 := by simp
            rw [hz] at h1
            exact ⟨B', d', W', h1, ⟨by rw [hpre2]; exact h2⟩, ⟨h3⟩⟩⟩
          have HRD : Aside0 (Calls Tryd.prog 14 #[.string (st.extract a i)] wr fun e w' => ∃ (A : Option Addr) (m c : Nat), e = .returned (.tuple #[.agg #[.int .i64 xk, .int .i64 xa, .int .i64 xb, .int .i64 xc, .string xi, .slice A m c], .bool true]) ∧ Aside0 (Kd.R (Kd.int .u8) 5 w' wr.heap.size (fun _ => True) (.slice A m c) (bl data)) ∧ Aside0 (Below wr.heap.size wr w')) := ⟨hrd.mono fun e w' ⟨kk, ka, kb, kc, ids, A, n, c, he, hq, hb⟩ => by
            obtain ⟨h1, h2, h3, h4, h5, h6⟩ := hq.out _ hx
            subst h1 h2 h3 h4
            rw [h5, ← hxi] at he
            exact ⟨A, n, c, he, ⟨h6⟩, hb⟩⟩
          have HSP : Aside0 (full = printL pre2 ++ full.drop (i + 1) ∧ AllWf pre2) := ⟨by
            rw [hpre2]
            constructor
            · conv => lhs; rw [HP.out.1, hdl]
              rw [printL_snoc, ← hxw.2]
              simp
            · intro y hy
              rcases List.mem_append.1 hy with h | h
              · exact HP.out.2 y h
              · rw [List.mem_singleton.1 h]; exact hxw.1⟩
          have HII : Aside0 (i + 1 ≤ i + 1 ∧ i + 1 ≤ len ∧ (10 : UInt8) ∉ (full.drop (i + 1)).take (i + 1 - (i + 1))) := ⟨⟨Nat.le_refl _, by omega, by simp⟩⟩
          have hw642 : wrap64 ((n : Int) + 1 + 1) = (n : Int) + 1 + 1 := by unfold wrap64; omega
          clear hpre2 hxi hx hxw hp hrd hss hsl hs hap hdl hc h10 hsd hilt hlt hn1 hl0 hlf hfree hil hai hlen
          go_wp2_with (first
            | (go_at_call 14; with_reducible refine HRD.out.mono ?_; rintro e W2 ⟨A, m, c, rfl, HD, HB2⟩; obtain ⟨B', d', W', hX, HR', HB'⟩ := HPU.out W2 A m c HB2.out HD.out; replace hX := Aside0.mk hX)
            | (at_builtin; refine wpList_append_run rfl _ _ _ _ rfl rfl rfl hX.out ?_))
          go_roundw
          case rel => exact ⟨pre2, i + 1, i + 1, n + 1, d', B', rfl, by first | rfl | (rw [hw64, HXI.out]) | go_num, by first | rfl | (rw [hw642]; rfl) | go_num, by first | rfl | (rw [hw64, HXI.out]) | go_num, HSP, HII, HPL, HR', HB'⟩
          case measure => first | exact measI HLT.out | (rw [hw64]; exact measI HLT.out)
      · have hceq : ((c.toNat : Int) != 10) = true := by
          have : c.toNat ≠ 10 := fun e => h10 (UInt8.toNat_inj.1 e)
          simp only [bne_iff_ne, ne_eq]
          omega
        have HII : Aside0 (a ≤ i + 1 ∧ i + 1 ≤ len ∧ (10 : UInt8) ∉ (full.drop a).take (i + 1 - a)) := ⟨⟨by omega, by omega, by
          rw [take_step full a i hai (by omega)]
          intro hm
          rcases List.mem_append.1 hm with h | h
          · exact hfree h
          · exact h10 (by rw [hc]; exact (List.mem_singleton.1 h).symm)⟩⟩
        clear hc h10 hsd hilt hlt hn1 hl0 hlf hfree hil hai hlen
        go_wp2
        go_roundw
        case rel => exact ⟨pre, i + 1, a, n, d, B, rfl, rfl, rfl, by first | rfl | (rw [hw64, HXI.out]) | go_num, HP, HII, HN, HR, HB⟩
        case measure => first | exact measI HLT.out | (rw [hw64]; exact measI HLT.out)
    · obtain rfl : i = len := by omega
      have hps : ((i : Int) < (st.size : Int)) = False := eq_false (by omega)
      by_cases hae : a < i
      · have hcmp : ((a : Int) < (st.size : Int)) = True := eq_true (by omega)
        have hstuck : Stuck (full.drop a) := .inr ⟨fun e => by have := congrArg List.length e; rw [List.length_drop] at this; simp at this; omega, by
          rw [List.take_of_length_le (by rw [List.length_drop]; omega)] at hfree
          exact hfree⟩
        have HSK := Aside0.mk hstuck
        clear hstuck hae hlt hn1 hl0 hlf hfree hil hai hlen
        go_wp2
        refine bodyPost_ret (results_tmp3 rfl _ _ _) rfl ?_
        rw [← HN.out]
        exact parse_no HP.out.1 HP.out.2 HSK.out HB.out
      · have hcmp : ((a : Int) < (st.size : Int)) = False := eq_false (by omega)
        have hd0 : full.drop a = [] := List.drop_of_length_le (by omega)
        have hfp : full = printL pre := by
          have h1 := HP.out.1
          rw [hd0, List.append_nil] at h1
          exact h1
        have HFP := Aside0.mk hfp
        have hle : pre.length ≤ full.length := by rw [hfp]; exact printL_len pre
        have HLE := Aside0.mk hle
        clear hle hfp hd0 hae hlt hn1 hl0 hlf hfree hil hai hlen
        go_wp2
        refine bodyPost_ret (results_tmp3 rfl _ _ _) rfl ?_
        exact ⟨pre, 0, B, d, by rw [HN.out]; rfl, .inl ⟨rfl, HFP.out, HP.out.2⟩, HLE.out, by rw [HN.out]; exact HR.out, HB.out⟩
end Go.Proofs.YtbkhoepoeaiccaaDoor

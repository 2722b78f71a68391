/- Parse: the program's. -/
import Derived.Test.YtbkhoepoeaiccaaDoorScrR
import Derived.Maps.AppendAt
namespace Go.Proofs.YtbkhoepoeaiccaaDoor
open Go.RowKit Go.Shelf Go.Proofs.YtbkhoepoeaiccaaDoorW.PrintWords Go.Proofs.YtbkhoepoeaiccaaDoor.PScriptReads

theorem info33 : (Tryd.prog.info? 33).map (fun i => (i.zero, i.size, i.bytes)) = some (some (.agg #[.int .i64 0, .int .i64 0, .int .i64 0, .int .i64 0, .string ⟨#[]⟩, .slice none 0 0]), 6, 72) := by kernel_rfl
/-- 'append(v, x)', x a step. -/
theorem steps_push (wr w : World) {v : Value} {l : List St} {n : Nat} (hl : l.length = n) (h : Kd.R k33 33 wr w.heap.size (fun _ => True) v (l.map toS)) (hb : Below w.heap.size w wr) (x : St) (A : Option Addr) (m c : Nat) (W : World) (hW : Below wr.heap.size wr W)
    (hD : Kd.R (Kd.int .u8) 5 W wr.heap.size (fun _ => True) (.slice A m c) (bl x.data)) (hn : n ≤ 1073741824) :
    ∃ B d W', (Builtin.append_ #[22, 22] 22 #[v, .slice (some ⟨W.heap.size, 0, none⟩) 1 1]).run Tryd.prog (W.alloc (.cells #[.int .i64 x.kind, .int .i64 x.a, .int .i64 x.b, .int .i64 x.c, .string ⟨x.id.toArray⟩, .slice A m c] 33)) = .ok (.slice B (n + 1) d) W' ∧ Kd.R k33 33 W' w.heap.size (fun _ => True) (.slice B (n + 1) d) ((l ++ [x]).map toS) ∧ Below w.heap.size w W' := by
  obtain ⟨i, hi, hz, hs, hby⟩ := info_parts info33
  have h1 : Kd.R k33 33 W w.heap.size (fun _ => True) v (l.map toS) := R_fr h (Fr.of_below hW (fun _ => False)) (fun _ _ _ _ h => h)
  have hvlt : ∀ k, v.ownBlock = some k → k < wr.heap.size := fun k hk => Kd.R_lt h k hk
  have hbW : Below w.heap.size w W := hb.trans (hW.mono hb.size)
  have hM : k33.M W w.heap.size (fun k => wr.heap.size ≤ k) (toS x) [.int .i64 x.kind, .int .i64 x.a, .int .i64 x.b, .int .i64 x.c, .string ⟨x.id.toArray⟩, .slice A m c] :=
    k33_mkM W w.heap.size _ (toS x) (Kd.R_lower (Kd.R_mono (Kd.R_bound hD) (fun k hk => hk.2.1)) hb.size)
  have hbx : Below W.heap.size W (W.alloc (.cells #[.int .i64 x.kind, .int .i64 x.a, .int .i64 x.b, .int .i64 x.c, .string ⟨x.id.toArray⟩, .slice A m c] 33)) := below_alloc (Below.refl _ _) _
  have h1' := h1
  obtain ⟨h0, inner, hown, hr⟩ := h1'
  rw [List.length_map, hl] at hown
  obtain ⟨v', W', hrun, hq, hg, _, hat⟩ := run_append_own_at (P := Tryd.prog) (W.alloc (.cells #[.int .i64 x.kind, .int .i64 x.a, .int .i64 x.b, .int .i64 x.c, .string ⟨x.id.toArray⟩, .slice A m c] 33)) w.heap.size 22 22 33 i _ 6 72 Tryd.underlying22 hi hz hs hby rfl (by decide) v n inner (own_move hown (fun k hk => hbx.block k (by have := hvlt k hk; have := hW.size; omega))) ⟨W.heap.size, 0, none⟩ 1 1
    [.int .i64 x.kind, .int .i64 x.a, .int .i64 x.b, .int .i64 x.c, .string ⟨x.id.toArray⟩, .slice A m c] rfl
    (by simpa using World.news_of_block (cs := #[.int .i64 x.kind, .int .i64 x.a, .int .i64 x.b, .int .i64 x.c, .string ⟨x.id.toArray⟩, .slice A m c]) (t := 33) (fr := (0, 0)) (heap_alloc_new W (.cells #[.int .i64 x.kind, .int .i64 x.a, .int .i64 x.b, .int .i64 x.c, .string ⟨x.id.toArray⟩, .slice A m c] 33)))
    (k33.K_one (k33.K_of_M hM)) (by simp only [maxLen]; omega) (by omega) (by have := hbW.size; have := hbx.size; omega)
  have hgr : W.grownBy W' v.ownBlock := World.grownBy.trans (World.grownBy_alloc W _ _) hg
  have hat' : v'.ownBlock = v.ownBlock ∨ ∃ b, v'.ownBlock = some b ∧ W.heap.size ≤ b := by
    rcases hat with hat | hat
    · exact .inl hat
    · exact .inr ⟨_, hat, by simp⟩
  have hR : Kd.R k33 33 W' w.heap.size (fun _ => True) v' (l.map toS ++ [toS x]) := Kd.R_appended (d := k33) h0 hr hM (fun k hk => ⟨trivial, fun e => by
    have h2 := hvlt k e.symm
    have h3 : wr.heap.size ≤ k := hk
    omega⟩) (fun _ _ => trivial) (by rw [List.length_map, hl]; exact hq) hgr hat'
  obtain ⟨B, d, rfl⟩ := Kd.R_slice hR
  rw [List.length_append, List.length_map, hl] at hrun hR
  refine ⟨B, d, W', hrun, by rw [List.map_append]; exact hR, hbW.grown hgr hbW.size (fun k hk => Kd.R_base h1 k hk)⟩

/-- The library's Cut at a line's end. -/
theorem Cut_hit (s r : List UInt8) (hs : (10 : UInt8) ∉ s) (hl : (s ++ 10 :: r).length ≤ 268435456) (W : World) (hE : Env W) : Calls Tryd.prog 20 #[.string ⟨(s ++ 10 :: r).toArray⟩, .string ⟨#[10]⟩] W fun e W' => e = .returned (.tuple #[.string ⟨s.toArray⟩, .string ⟨r.toArray⟩, .bool true]) ∧ Below W.heap.size W W' := by
  obtain ⟨m, hm⟩ := hE.maxLen
  have h := Tryd.strings_Cut ⟨(s ++ 10 :: r).toArray⟩ ⟨#[10]⟩ m W (by rw [size_str]; omega) hm
  have e : Lib.cut (ByteArray.mk (s ++ 10 :: r).toArray).data.toList (ByteArray.mk #[10]).data.toList = (s, r, true) := by
    show Lib.cut (s ++ 10 :: r).toArray.toList [10] = _
    rw [List.toList_toArray]
    exact cut_hit s r 10 hs
  rw [e] at h
  exact h.mono fun _ _ ⟨he, n, hw⟩ => ⟨he, by rw [hw]; exact below_drawN (Below.refl _ _) n⟩
theorem Cut_miss (t : List UInt8) (ht : (10 : UInt8) ∉ t) (hl : t.length ≤ 268435456) (W : World) (hE : Env W) : Calls Tryd.prog 20 #[.string ⟨t.toArray⟩, .string ⟨#[10]⟩] W fun e W' => e = .returned (.tuple #[.string ⟨t.toArray⟩, .string ⟨([] : List UInt8).toArray⟩, .bool false]) ∧ Below W.heap.size W W' := by
  obtain ⟨m, hm⟩ := hE.maxLen
  have h := Tryd.strings_Cut ⟨t.toArray⟩ ⟨#[10]⟩ m W (by rw [size_str]; omega) hm
  have e : Lib.cut (ByteArray.mk t.toArray).data.toList (ByteArray.mk #[10]).data.toList = (t, [], false) := by
    show Lib.cut t.toArray.toList [10] = _
    rw [List.toList_toArray]
    exact cut_free t 10 ht
  rw [e] at h
  exact h.mono fun _ _ ⟨he, n, hw⟩ => ⟨he, by rw [hw]; exact below_drawN (Below.refl _ _) n⟩
/-- read, its step's value written out. -/
theorem read_agg (w : World) (hE : Env w) (s : List UInt8) (hs : s.length ≤ 268435456) :
    Calls Tryd.prog 21 #[.string ⟨s.toArray⟩] w fun e w' => ∃ (kk ka kb kc : Int) (ids : ByteArray) (A : Option Addr) (n c : Nat), e = .returned (.tuple #[.agg #[.int .i64 kk, .int .i64 ka, .int .i64 kb, .int .i64 kc, .string ids, .slice A n c], .bool (readL s).isSome]) ∧ Aside0 (∀ x, readL s = some x → kk = x.kind ∧ ka = x.a ∧ kb = x.b ∧ kc = x.c ∧ ids = ⟨x.id.toArray⟩ ∧ Kd.R (Kd.int .u8) 5 w' w.heap.size (fun _ => True) (.slice A n c) (bl x.data)) ∧ Aside0 (Below w.heap.size w w') := by
  refine (read_any w hE s hs).mono fun e w' ⟨y, A, n, c, he, hx, hb⟩ => ?_
  obtain ⟨kk, ka, kb, kc, id, data⟩ := y
  exact ⟨kk, ka, kb, kc, ⟨id.toArray⟩, A, n, c, he, ⟨fun x h => by
    obtain ⟨h1, h2⟩ := hx x h
    subst h1
    exact ⟨rfl, rfl, rfl, rfl, rfl, h2⟩⟩, ⟨hb⟩⟩
def strLen : Value → Nat | .string s => s.size | _ => 0
/-- What Parse (and the document's Read) give. -/
def ParseAns (w : World) (full : List UInt8) (e : Ending) (w' : World) : Prop :=
  ∃ (out : List St) (k : Nat) (B : Option Addr) (d : Nat), e = .returned (.tuple #[.slice B out.length d, .int .i64 (k : Int), .int .i64 (if k = 0 then 0 else 13)]) ∧ Parsed full out k ∧ out.length ≤ full.length ∧ Kd.R k33 33 w' w.heap.size (fun _ => True) (.slice B out.length d) (out.map toS) ∧ Below w.heap.size w w'
theorem printL_len (l : List St) : l.length ≤ (printL l).length := by
  induction l with
  | nil => simp
  | cons x l ih => rw [printL_cons, List.length_append]; simp only [List.length_cons]; omega
theorem parse_no {w w' : World} {full : List UInt8} {pre : List St} {t : List UInt8} (hf : full = printL pre ++ t) (hw : AllWf pre) (hs : Stuck t) (hb : Below w.heap.size w w') : ParseAns w full (.returned (.tuple #[.slice none 0 0, .int .i64 ((pre.length : Int) + 1), .int .i64 13])) w' :=
  ⟨[], pre.length + 1, none, 0, rfl, .inr ⟨pre, t, hf, hw, rfl, rfl, hs⟩, Nat.zero_le _, Kd.R_nil _ _ _ _ _, hb⟩

set_option maxRecDepth 100000 in
set_option maxHeartbeats 3200000 in
theorem Parse_any (w : World) (hE : Env w) (full : List UInt8) (hl : full.length ≤ 268435456) : Calls Tryd.prog 9 #[.string ⟨full.toArray⟩] w (ParseAns w full) := by
  have HE := Aside0.mk hE
  have HL := Aside0.mk hl
  have hu33 := Tryd.underlying33
  obtain ⟨fs, hfs⟩ : ∃ fs, fs = (⟨full.toArray⟩ : ByteArray) := ⟨_, rfl⟩
  rw [← hfs]
  have HFS := Aside0.mk hfs
  clear hE hl hfs
  go_enter Tryd.func9, Tryd.ntmps9
  go_wp2
  go_loopw [0, 5, 6] (fun v0 v5 v6 wr => ∃ (pre : List St) (t : List UInt8) (ts : ByteArray) (n d : Nat) (B : Option Addr), Aside0 (full = printL pre ++ t ∧ AllWf pre) ∧ Aside0 (ts = ⟨t.toArray⟩) ∧ Aside0 (pre.length = n) ∧ v0 = .string ts ∧ v5 = .slice B n d ∧ v6 = .int .i64 ((n : Int) + 1) ∧ Aside0 (Kd.R k33 33 wr w.heap.size (fun _ => True) (.slice B n d) (pre.map toS)) ∧ Aside0 (Below w.heap.size w wr)) (fun v0 _ _ _ => strLen v0)
  case atStart => exact ⟨[], full, fs, 0, 0, none, ⟨⟨rfl, fun x hx => by cases hx⟩⟩, HFS, ⟨rfl⟩, rfl, rfl, rfl, ⟨Kd.R_nil _ _ _ _ _⟩, ⟨Below.refl _ _⟩⟩
  case round =>
    obtain ⟨pre, t, ts, n, d, B, HP, HT, HN, rfl, rfl, rfl, HR, HB⟩ := hrel
    have htl : t.length + (printL pre).length = full.length := by rw [HP.out.1, List.length_append]; omega
    have hnl := printL_len pre
    have hll := HL.out
    have hnn := HN.out
    have hn1 : n ≤ 268435456 := by omega
    by_cases ht : t = []
    · have hts : ts = (⟨#[]⟩ : ByteArray) := by rw [HT.out, ht]
      have HTE := Aside0.mk ht
      subst hts
      have HNL := Aside0.mk hnl
      clear ht htl hnl hll hnn HT HFS
      go_wp2
      refine bodyPost_ret (results_tmp3 rfl _ _ _) rfl ?_
      refine ⟨pre, 0, B, d, by rw [HN.out]; rfl, .inl ⟨rfl, by rw [HP.out.1, HTE.out, List.append_nil], HP.out.2⟩, by rw [HP.out.1, HTE.out, List.append_nil]; exact HNL.out, by rw [HN.out]; exact HR.out, HB.out⟩
    · have hne : (ts.toList == (⟨#[]⟩ : ByteArray).toList) = false := by
        rw [HT.out, ByteArray.toList_eq, ByteArray.toList_eq]
        exact beq_false_of_ne ht
      have hne2 : (ts.toList == []) = false := by
        rw [HT.out, ByteArray.toList_eq]
        exact beq_false_of_ne ht
      by_cases h10 : (10 : UInt8) ∈ t
      · obtain ⟨s, r, hsr, hs10⟩ := first_split 10 t h10
        have hsl : s.length + r.length + 1 = t.length := by rw [hsr, List.length_append, List.length_cons]; omega
        have HEF : Aside0 (∀ W, Below wr.heap.size wr W → Env W) := ⟨fun W hW => (HE.out.below HB.out).below hW⟩
        obtain ⟨ss, hss⟩ : ∃ ss, ss = (⟨s.toArray⟩ : ByteArray) := ⟨_, rfl⟩
        obtain ⟨rs, hrs⟩ : ∃ rs, rs = (⟨r.toArray⟩ : ByteArray) := ⟨_, rfl⟩
        have hcut := Cut_hit s r hs10 (by rw [← hsr]; omega) wr (HEF.out wr (Below.refl _ _))
        rw [← hsr, ← hss, ← hrs, ← HT.out] at hcut
        have HCUT := Aside0.mk hcut
        have hrd : ∀ W, Below wr.heap.size wr W → Calls Tryd.prog 21 #[.string ss] W fun e w' => ∃ (kk ka kb kc : Int) (ids : ByteArray) (A : Option Addr) (n c : Nat), e = .returned (.tuple #[.agg #[.int .i64 kk, .int .i64 ka, .int .i64 kb, .int .i64 kc, .string ids, .slice A n c], .bool (readL s).isSome]) ∧ Aside0 (∀ x, readL s = some x → kk = x.kind ∧ ka = x.a ∧ kb = x.b ∧ kc = x.c ∧ ids = ⟨x.id.toArray⟩ ∧ Kd.R (Kd.int .u8) 5 w' wr.heap.size (fun _ => True) (.slice A n c) (bl x.data)) ∧ Aside0 (Below wr.heap.size wr w') := fun W hW => by
          rw [hss]
          exact (read_agg W (HEF.out W hW) s (by omega)).mono fun e w' ⟨kk, ka, kb, kc, ids, A, n, c, he, hx, hb⟩ => ⟨kk, ka, kb, kc, ids, A, n, c, he, ⟨fun x h => by
            obtain ⟨h1, h2, h3, h4, h5, h6⟩ := hx.out x h
            exact ⟨h1, h2, h3, h4, h5, Kd.R_lower h6 hW.size⟩⟩, ⟨hW.trans (hb.out.mono hW.size)⟩⟩
        obtain ⟨p, hp⟩ : ∃ p, p = (readL s).isSome := ⟨_, rfl⟩
        rw [← hp] at hrd
        have HRS := Aside0.mk hrs
        have HSZ : Aside0 (rs.size < ts.size) := ⟨by rw [hrs, HT.out, size_str, size_str]; omega⟩
        have HSR := Aside0.mk (And.intro hsr hs10)
        cases p with
        | false =>
          have hno : readL s = none := isSome_none hp
          have HNO := Aside0.mk hno
          have HRD := Aside0.mk hrd
          clear hno hp hrd hcut hss hrs hsr hs10 hsl h10 ht htl hnl hll hnn
          go_wp2_with (first
            | (go_at_call 20; with_reducible refine HCUT.out.mono ?_; rintro e W1 ⟨rfl, hb1⟩; have HB1 := Aside0.mk hb1; clear hb1)
            | (go_at_call 21; with_reducible refine (HRD.out _ HB1.out).mono ?_; rintro e W2 ⟨kk, ka, kb, kc, ids, A, m, c, rfl, HX, HB2⟩))
          refine bodyPost_ret (results_tmp3 rfl _ _ _) rfl ?_
          rw [← HN.out]
          exact parse_no HP.out.1 HP.out.2 (.inl ⟨s, r, HSR.out.1, HSR.out.2, HNO.out⟩) (below_alloc (HB.out.trans (HB2.out.mono HB.out.size)) _)
        | true =>
          obtain ⟨x, hx⟩ := Option.isSome_iff_exists.1 hp.symm
          have hxw := readL_some s x hx
          have HXW := Aside0.mk hxw
          have HXS := Aside0.mk hx
          obtain ⟨xk, xa, xb, xc, id, data⟩ := x
          obtain ⟨xi, hxi⟩ : ∃ xi, xi = (⟨id.toArray⟩ : ByteArray) := ⟨_, rfl⟩
          obtain ⟨pre2, hpre2⟩ : ∃ q, q = pre ++ [(⟨xk, xa, xb, xc, id, data⟩ : St)] := ⟨_, rfl⟩
          have HPL : Aside0 (pre2.length = n + 1) := ⟨by rw [hpre2, List.length_append, HN.out]; rfl⟩
          have HPU : Aside0 (∀ W2 A m c, Below wr.heap.size wr W2 → Kd.R (Kd.int .u8) 5 W2 wr.heap.size (fun _ => True) (.slice A m c) (bl data) → ∃ B' d' W', (Builtin.append_ #[22, 22] 22 #[.slice B n d, .slice (some ⟨W2.heap.size + 1, 0, none⟩) 1 1]).run Tryd.prog ((W2.alloc (.cells #[.int .i64 xk, .int .i64 xa, .int .i64 xb, .int .i64 xc, .string xi, .slice A m c] 33)).alloc (.cells #[.int .i64 xk, .int .i64 xa, .int .i64 xb, .int .i64 xc, .string xi, .slice A m c] 33)) = .ok (.slice B' (n + 1) d') W' ∧ Aside0 (Kd.R k33 33 W' w.heap.size (fun _ => True) (.slice B' (n + 1) d') (pre2.map toS)) ∧ Aside0 (Below w.heap.size w W')) := ⟨fun W2 A m c hW hD => by
            have ha := below_alloc hW (.cells #[.int .i64 xk, .int .i64 xa, .int .i64 xb, .int .i64 xc, .string xi, .slice A m c] 33)
            obtain ⟨B', d', W', h1, h2, h3⟩ := steps_push wr w HN.out HR.out HB.out ⟨xk, xa, xb, xc, id, data⟩ A m c (W2.alloc (.cells #[.int .i64 xk, .int .i64 xa, .int .i64 xb, .int .i64 xc, .string xi, .slice A m c] 33)) ha (R_fr hD (Fr.of_below (below_alloc (Below.refl _ _) _) (fun _ => False)) (fun _ _ _ _ h => h)) (by omega)
            simp only [← hxi] at h1
            have hz : (W2.alloc (.cells #[.int .i64 xk, .int .i64 xa, .int .i64 xb, .int .i64 xc, .string xi, .slice A m c] 33)).heap.size = W2.heap.size + 1 := by simp
            rw [hz] at h1
            exact ⟨B', d', W', h1, ⟨by rw [hpre2]; exact h2⟩, ⟨h3⟩⟩⟩
          have HXI := Aside0.mk hxi
          have HRD : Aside0 (∀ W, Below wr.heap.size wr W → Calls Tryd.prog 21 #[.string ss] W fun e w' => ∃ (A : Option Addr) (m c : Nat), e = .returned (.tuple #[.agg #[.int .i64 xk, .int .i64 xa, .int .i64 xb, .int .i64 xc, .string xi, .slice A m c], .bool true]) ∧ Aside0 (Kd.R (Kd.int .u8) 5 w' wr.heap.size (fun _ => True) (.slice A m c) (bl data)) ∧ Aside0 (Below wr.heap.size wr w')) := ⟨fun W hW => (hrd W hW).mono fun e w' ⟨kk, ka, kb, kc, ids, A, n, c, he, hq, hb⟩ => by
            obtain ⟨h1, h2, h3, h4, h5, h6⟩ := hq.out _ hx
            subst h1 h2 h3 h4
            rw [h5, ← hxi] at he
            exact ⟨A, n, c, he, ⟨h6⟩, hb⟩⟩
          have HSP : Aside0 (full = printL pre2 ++ r ∧ AllWf pre2) := ⟨by
            rw [hpre2]
            constructor
            · rw [HP.out.1, hsr, printL_snoc, ← hxw.2]
              simp
            · intro y hy
              rcases List.mem_append.1 hy with h | h
              · exact HP.out.2 y h
              · rw [List.mem_singleton.1 h]; exact hxw.1⟩
          clear hpre2 hxi hx hxw hp hrd hcut hss hrs hsr hs10 hsl h10 ht htl hnl hll hnn
          go_wp2_with (first
            | (go_at_call 20; with_reducible refine HCUT.out.mono ?_; rintro e W1 ⟨rfl, hb1⟩; have HB1 := Aside0.mk hb1; clear hb1)
            | (go_at_call 21; with_reducible refine (HRD.out _ HB1.out).mono ?_; rintro e W2 ⟨A, m, c, rfl, HD, HB2⟩; obtain ⟨B', d', W', hX, HR', HB'⟩ := HPU.out W2 A m c HB2.out HD.out; replace hX := Aside0.mk hX)
            | (at_builtin; refine wpList_append_run rfl _ _ _ _ rfl rfl rfl hX.out ?_))
          go_roundw
          case rel => exact ⟨pre2, r, rs, n + 1, d', B', HSP, HRS, HPL, rfl, rfl, by go_num, HR', HB'⟩
          case measure => exact HSZ.out
      · have HEF : Aside0 (∀ W, Below wr.heap.size wr W → Env W) := ⟨fun W hW => (HE.out.below HB.out).below hW⟩
        have hcut := Cut_miss t h10 (by omega) wr (HEF.out wr (Below.refl _ _))
        have hrd : ∀ W, Below wr.heap.size wr W → Calls Tryd.prog 21 #[.string ts] W fun e w' => ∃ (kk ka kb kc : Int) (ids : ByteArray) (A : Option Addr) (n c : Nat), e = .returned (.tuple #[.agg #[.int .i64 kk, .int .i64 ka, .int .i64 kb, .int .i64 kc, .string ids, .slice A n c], .bool (readL t).isSome]) ∧ Aside0 (Below wr.heap.size wr w') := fun W hW => by
          rw [HT.out]
          exact (read_agg W (HEF.out W hW) t (by omega)).mono fun e w' ⟨kk, ka, kb, kc, ids, A, n, c, he, hx, hb⟩ => ⟨kk, ka, kb, kc, ids, A, n, c, he, ⟨hW.trans (hb.out.mono hW.size)⟩⟩
        rw [← HT.out] at hcut
        obtain ⟨rs, hrs⟩ : ∃ rs, rs = (⟨([] : List UInt8).toArray⟩ : ByteArray) := ⟨_, rfl⟩
        rw [← hrs] at hcut
        have HCUT := Aside0.mk hcut
        obtain ⟨p, hp⟩ : ∃ p, p = (readL t).isSome := ⟨_, rfl⟩
        rw [← hp] at hrd
        have HRD := Aside0.mk hrd
        have HST : Aside0 (Stuck t) := ⟨.inr ⟨ht, h10⟩⟩
        clear hp hrd hcut hrs h10 ht htl hnl hll hnn
        cases p with
        | false =>
          go_wp2_with (first
            | (go_at_call 20; with_reducible refine HCUT.out.mono ?_; rintro e W1 ⟨rfl, hb1⟩; have HB1 := Aside0.mk hb1; clear hb1)
            | (go_at_call 21; with_reducible refine (HRD.out _ HB1.out).mono ?_; rintro e W2 ⟨kk, ka, kb, kc, ids, A, m, c, rfl, HB2⟩))
          refine bodyPost_ret (results_tmp3 rfl _ _ _) rfl ?_
          rw [← HN.out]
          exact parse_no HP.out.1 HP.out.2 HST.out (below_alloc (HB.out.trans (HB2.out.mono HB.out.size)) _)
        | true =>
          go_wp2_with (first
            | (go_at_call 20; with_reducible refine HCUT.out.mono ?_; rintro e W1 ⟨rfl, hb1⟩; have HB1 := Aside0.mk hb1; clear hb1)
            | (go_at_call 21; with_reducible refine (HRD.out _ HB1.out).mono ?_; rintro e W2 ⟨kk, ka, kb, kc, ids, A, m, c, rfl, HB2⟩))
          refine bodyPost_ret (results_tmp3 rfl _ _ _) rfl ?_
          rw [← HN.out]
          exact parse_no HP.out.1 HP.out.2 HST.out (below_alloc (HB.out.trans (HB2.out.mono HB.out.size)) _)
end Go.Proofs.YtbkhoepoeaiccaaDoor

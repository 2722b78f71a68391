/- Print: the program's. -/
import Derived.Test.YtbkhoepoeaiccaaDoorScrM
import Derived.Test.YtbkhoepoeaiccaaDoorPScriptReadsx0
namespace Go.Proofs.YtbkhoepoeaiccaaDoor
open Go.RowKit Go.Shelf Go.Proofs.YtbkhoepoeaiccaaDoorW.PrintWords Go.Proofs.YtbkhoepoeaiccaaDoor.PScriptReads

/-- A step, as the print's words have it. -/
def toS (x : St) : S33 := ⟨x.kind, x.a, x.b, x.c, ⟨x.id.toArray⟩, bl x.data⟩
def st0 : St := ⟨0, 0, 0, 0, [], []⟩
theorem step_at {w : World} {A : Option Addr} {n : Nat} {l : List St} (h : Kd.C k33 w A n (l.map toS)) (i : Nat) (hi : i < n) : ∃ (x : St) (ad : Addr) (B : Option Addr) (m c : Nat), x = l.getD i st0 ∧ A = some ad ∧ w.cell? (ad.add (i * 6)) = some (.int .i64 x.kind) ∧ w.cell? ⟨(ad.add (i * 6)).block, (ad.add (i * 6)).off + 1, none⟩ = some (.int .i64 x.a) ∧ w.cell? ⟨(ad.add (i * 6)).block, (ad.add (i * 6)).off + 2, none⟩ = some (.int .i64 x.b) ∧ w.cell? ⟨(ad.add (i * 6)).block, (ad.add (i * 6)).off + 3, none⟩ = some (.int .i64 x.c) ∧ w.cell? ⟨(ad.add (i * 6)).block, (ad.add (i * 6)).off + 4, none⟩ = some (.string ⟨x.id.toArray⟩) ∧ w.cell? ⟨(ad.add (i * 6)).block, (ad.add (i * 6)).off + 5, none⟩ = some (.slice B m c) ∧ m ≤ c ∧ x.data.length = m ∧ Kd.C (Kd.int .u8) w B m (bl x.data) := by
  have hl : l.length = n := by have := Kd.C_len h; rwa [List.length_map] at this
  obtain ⟨ad, A5, c5, e, h0, h1, h2, h3, h4, h5, h6, h7⟩ := at_T33 h (i : Int) (by omega) (by omega)
  have hx : rd_T33 (l.map toS) (i : Int) = toS (l.getD i st0) := by
    unfold rd_T33
    rw [Int.toNat_natCast, List.getD_eq_getElem?_getD, List.getD_eq_getElem?_getD, List.getElem?_map, List.getElem?_eq_getElem (by omega)]
    rfl
  rw [hx] at h0 h1 h2 h3 h4 h5 h6 h7
  simp only [Int.toNat_natCast] at h0 h1 h2 h3 h4 h5
  refine ⟨_, ad, A5, _, c5, rfl, e, h0, h1, h2, h3, h4, h5, h6, ?_, h7⟩
  exact (bl_length _).symm
theorem bare_ge (x : St) : 2 * x.id.length ≤ (bareL x).length ∧ 2 * x.data.length ≤ (bareL x).length := by
  unfold bareL wordsL
  simp only [Lib.join_cons, Lib.joinTail, List.map_cons, List.map_nil, List.flatten_cons, List.flatten_nil, List.length_append, List.length_cons, List.length_nil, hexL_length]
  omega
theorem builder_below {B b : Nat} {p : Value} {bs : List Value} {w w' : World} (h : Lib.BuilderAt 41 5 B b p bs w) (hb : Below w.heap.size w w') : Lib.BuilderAt 41 5 B b p bs w' := by
  obtain ⟨h1, v, h2, h3, h4⟩ := h
  exact ⟨h1, v, (hb.block b (blk_lt h2)).trans h2, own_move h3 (fun k hk => hb.block k (by obtain ⟨c, hc⟩ := own_typed h3 k hk; exact blk_lt hc)), h4⟩
theorem isb_below {B b : Nat} {bs : List Value} {w w' : World} (h : Lib.IsBuilder 41 5 B b bs w) (hb : Below w.heap.size w w') : Lib.IsBuilder 41 5 B b bs w' := h.imp (fun h => builder_below h hb) (fun h => builder_below h hb)
theorem isb_new (w : World) : Lib.IsBuilder 41 5 w.heap.size w.heap.size [] (w.alloc (.cells #[.pointer none, .slice none 0 0] 41)) :=
  .inl ⟨Nat.le_refl _, _, blk_new _ _, ⟨by simp, .inl ⟨rfl, rfl⟩⟩, by simp [Value.ownBlock]⟩
theorem printL_take (l : List St) (i : Nat) (h : i < l.length) : printL (l.take (i + 1)) = printL (l.take i) ++ lineL (l.getD i st0) := by
  rw [List.take_add_one, List.getElem?_eq_getElem h, Option.toList_some, printL_append, List.getD_eq_getElem?_getD, List.getElem?_eq_getElem h]
  show _ = printL _ ++ lineL l[i]
  rw [show printL [l[i]] = lineL l[i] from by unfold printL; simp]
theorem printL_take_le (l : List St) (i : Nat) : (printL (l.take i)).length ≤ (printL l).length := by
  conv => rhs; rw [← List.take_append_drop i l, printL_append]
  rw [List.length_append]
  omega

/-- The builder in block b holds the first i lines. -/
def BInv (b : Nat) (l : List St) (i : Nat) (W : World) : Prop := Lib.IsBuilder 41 5 b b (Lib.byteCells (printL (l.take i))) W
set_option maxRecDepth 100000 in
set_option maxHeartbeats 3200000 in
theorem PPrint_any (w : World) (hE : Env w) (l : List St) (hwf : AllWf l) (A : Option Addr) (n c : Nat) (hC : Kd.C k33 w A n (l.map toS)) (hp : (printL l).length ≤ 268435456) (hn : n ≤ 1073741824) :
    Calls Tryd.prog 8 #[.slice A n c] w fun e w' => e = .returned (.string ⟨(printL l).toArray⟩) ∧ Below w.heap.size w w' := by
  have hl : l.length = n := by have := Kd.C_len hC; rwa [List.length_map] at this
  have HC := Aside0.mk hC
  have HE := Aside0.mk hE
  have hu33 := Tryd.underlying33
  clear hC hE
  go_enter Tryd.func8, Tryd.ntmps8
  go_wp2
  have HB0 := Aside0.mk (isb_new w)
  have HF0 := Aside0.mk (below_alloc (Below.refl w.heap.size w) (Obj.cells #[.pointer none, .slice none 0 0] 41))
  go_loopw [8] (fun v8 wr => ∃ i : Nat, i ≤ n ∧ v8 = .int .i64 (i : Int) ∧ Aside0 (BInv w.heap.size l i wr) ∧ Aside0 (Below w.heap.size w wr)) (fun v8 _ => n - (intOf v8).toNat)
  case atStart => exact ⟨0, by omega, rfl, HB0, HF0⟩
  case round =>
    clear HB0 HF0
    obtain ⟨i, hi, rfl, HB, HF⟩ := hrel
    by_cases hlt : i < n
    · obtain ⟨x, ad, B, m, cx, hx, rfl, h0, h1, h2, h3, h4, h5, hmc, hml, hCd⟩ := step_at (Kd.C_below HC.out HF.out) i hlt
      have hxw : x.wf := hwf x (by rw [hx, List.getD_eq_getElem?_getD, List.getElem?_eq_getElem (by omega)]; exact List.getElem_mem _)
      have hpt := printL_take l i (by omega)
      have hple := printL_take_le l (i + 1)
      rw [← hx] at hpt
      rw [hpt, List.length_append] at hple
      have hge := bare_ge x
      have hll : (lineL x).length = (bareL x).length + 1 := by unfold lineL; simp
      obtain ⟨ls, hls⟩ : ∃ ls, ls = (⟨(lineL x).toArray⟩ : ByteArray) := ⟨_, rfl⟩
      have hlsz : ls.size = (lineL x).length := by rw [hls, size_str]
      have hcells : Lib.strCells ls = Lib.byteCells (lineL x) := by rw [hls]; rfl
      have HLN : Aside0 (∀ o, Calls Tryd.prog 18 #[stepV x B m cx] (wr.alloc o) fun e W1 => e = .returned (.string ls) ∧ Aside0 (BInv w.heap.size l i W1) ∧ Aside0 (Below w.heap.size w W1)) := ⟨fun o => by
        have ha := below_alloc (Below.refl wr.heap.size wr) o
        have hf := below_alloc HF.out o
        refine (line_any (wr.alloc o) (HE.out.below hf) x hxw B m cx (Kd.C_below hCd ha) hmc (by omega) (by omega)).mono fun e W1 ⟨he, hb1⟩ => ⟨by rw [he, hls], ⟨isb_below (isb_below HB.out ha) hb1⟩, ⟨hf.trans (hb1.mono hf.size)⟩⟩⟩
      have HWS : Aside0 (∀ W, BInv w.heap.size l i W → w.heap.size ≤ W.heap.size → Calls Tryd.prog 17 #[.pointer (some ⟨w.heap.size, 0, none⟩), .string ls] W fun e W' => e = .returned (.tuple #[.int .i64 ls.size, .nilIface]) ∧ Aside0 (BInv w.heap.size l (i + 1) W') ∧ Below w.heap.size W W') := ⟨fun W hW hs => by
        refine (Tryd.Builder_WriteString w.heap.size w.heap.size _ ls W hW (by rw [Lib.byteCells_length]; omega) hs).mono fun e W' ⟨he, hb, hf⟩ => ⟨he, ⟨?_⟩, hf⟩
        unfold BInv
        rw [hpt, Lib.byteCells_append, ← hcells]
        exact .inr hb⟩
      obtain ⟨kk, ka, kb, kc, id, data⟩ := x
      simp only at h0 h1 h2 h3 h4 h5
      unfold stepV at HLN
      simp only [] at HLN
      clear hx hxw hpt hple hge hll hls hlsz hcells hCd hwf hp hl
      go_wp2_with (first
        | (go_at_call 18; with_reducible refine (HLN.out _).mono ?_; rintro e W1 ⟨rfl, HB1, HF1⟩)
        | (go_at_call 17; with_reducible refine (HWS.out _ HB1.out HF1.out.size).mono ?_; rintro e W2 ⟨rfl, HB2, hf2⟩; have HF2 := Aside0.mk (HF1.out.trans hf2); clear hf2))
      go_roundw
      case rel => exact ⟨i + 1, by omega, by go_num, HB2, HF2⟩
      case measure => simp [intOf]; omega
    · obtain rfl : i = n := by omega
      have hB := HB.out
      unfold BInv at hB
      rw [List.take_of_length_le (by omega)] at hB
      have HS := Aside0.mk (Tryd.Builder_String_any w.heap.size w.heap.size (printL l) wr hB HF.out.size)
      clear hwf hp hn hl hB
      go_wp2_with (go_at_call 19; with_reducible refine HS.out.mono ?_; rintro e W1 ⟨rfl, hb1⟩)
      go_ret
      exact ⟨rfl, HF.out.trans hb1⟩

set_option maxRecDepth 100000 in
set_option maxHeartbeats 3200000 in
theorem RPrint_any (w : World) (l : List St) (hwf : AllWf l) (A : Option Addr) (n c : Nat) (hC : Kd.C k33 w A n (l.map toS)) (hp : (printL l).length ≤ 268435456) (hn : n ≤ 1073741824) :
    Calls Tryd.prog 11 #[.slice A n c] w fun e w' => e = .returned (.string ⟨(printL l).toArray⟩) ∧ Below w.heap.size w w' := by
  have hl : l.length = n := by have := Kd.C_len hC; rwa [List.length_map] at this
  have HC := Aside0.mk hC
  have hu33 := Tryd.underlying33
  clear hC
  go_enter Tryd.func11, Tryd.ntmps11
  go_wp2
  go_loopw [3, 4] (fun v3 v4 wr => ∃ (i : Nat) (s : ByteArray), i ≤ n ∧ v4 = .int .i64 (i : Int) ∧ v3 = .string s ∧ Aside0 (s = ⟨(printL (l.take i)).toArray⟩) ∧ Aside0 (Below w.heap.size w wr)) (fun _ v4 _ => n - (intOf v4).toNat)
  case atStart => exact ⟨0, _, by omega, rfl, rfl, ⟨rfl⟩, ⟨Below.refl _ _⟩⟩
  case round =>
    obtain ⟨i, s, hi, rfl, rfl, HS, HF⟩ := hrel
    by_cases hlt : i < n
    · obtain ⟨x, ad, B, m, cx, hx, rfl, h0, h1, h2, h3, h4, h5, hmc, hml, hCd⟩ := step_at (Kd.C_below HC.out HF.out) i hlt
      have hxw : x.wf := hwf x (by rw [hx, List.getD_eq_getElem?_getD, List.getElem?_eq_getElem (by omega)]; exact List.getElem_mem _)
      have hpt := printL_take l i (by omega)
      have hple := printL_take_le l (i + 1)
      rw [← hx] at hpt
      rw [hpt, List.length_append] at hple
      have hge := bare_ge x
      have hll : (lineL x).length = (bareL x).length + 1 := by unfold lineL; simp
      obtain ⟨ls, hls⟩ : ∃ ls, ls = (⟨(lineL x).toArray⟩ : ByteArray) := ⟨_, rfl⟩
      have hlsz : ls.size = (lineL x).length := by rw [hls, size_str]
      have hssz : s.size = (printL (l.take i)).length := by rw [HS.out, size_str]
      have HLN : Aside0 (Calls Tryd.prog 22 #[stepV x B m cx] wr fun e W1 => e = .returned (.string ls) ∧ Aside0 (Below w.heap.size w W1)) := ⟨by
        refine (RLine_any wr x hxw B m cx hCd hmc (by omega) (by omega)).mono fun e W1 ⟨he, hb1⟩ => ⟨by rw [he, hls], ⟨HF.out.trans (hb1.mono HF.out.size)⟩⟩⟩
      have HS1 : Aside0 (s ++ ls = ⟨(printL (l.take (i + 1))).toArray⟩) := ⟨by rw [HS.out, hls, app_str, hpt]⟩
      have hz1 : (9223372036854775807 < s.size + ls.size) = False := eq_false (by omega)
      have hz2 : (s.size + ls.size ≤ 9223372036854775807) = True := eq_true (by omega)
      obtain ⟨kk, ka, kb, kc, id, data⟩ := x
      simp only at h0 h1 h2 h3 h4 h5
      unfold stepV at HLN
      simp only [] at HLN
      clear hx hxw hpt hple hge hll hls hlsz hssz hCd hwf hp hl
      go_wp2_with (go_at_call 22; with_reducible refine HLN.out.mono ?_; rintro e W1 ⟨rfl, HF1⟩)
      go_roundw
      case rel => exact ⟨i + 1, _, by omega, by go_num, rfl, HS1, HF1⟩
      case measure => simp [intOf]; omega
    · obtain rfl : i = n := by omega
      have hS := HS.out
      rw [List.take_of_length_le (by omega)] at hS
      have HS2 := Aside0.mk hS
      clear hwf hp hn hl hS
      go_wp2
      go_ret
      exact ⟨congrArg (fun z => Ending.returned (.string z)) HS2.out, HF.out⟩
theorem same_any (w : World) (l m : List St) (hl : AllWf l) (hm : AllWf m) (A B : Option Addr) (n c k d : Nat) (hC : Kd.C k33 w A n (l.map toS)) (hD : Kd.C k33 w B k (m.map toS)) (hp : (printL l).length ≤ 268435456) (hq : (printL m).length ≤ 268435456) (hn : n ≤ 1073741824) (hk : k ≤ 1073741824) (he : l = m) :
    Calls Tryd.prog 12 #[.slice A n c, .slice B k d] w fun e w' => e = .returned (.bool true) ∧ Below w.heap.size w w' := by
  subst he
  have H1 := Aside0.mk (RPrint_any w l hl A n c hC hp hn)
  have H2 : Aside0 (∀ W, Aside0 (Below w.heap.size w W) → Calls Tryd.prog 11 #[.slice B k d] W fun e w' => e = .returned (.string ⟨(printL l).toArray⟩) ∧ Aside0 (Below w.heap.size w w')) := ⟨fun W hW => (RPrint_any W l hl B k d (Kd.C_below hD hW.out) hp hk).mono fun e w' ⟨h1, h2⟩ => ⟨h1, ⟨hW.out.trans (h2.mono hW.out.size)⟩⟩⟩
  obtain ⟨p, hp⟩ : ∃ p, p = (⟨(printL l).toArray⟩ : ByteArray) := ⟨_, rfl⟩
  rw [← hp] at H1 H2
  clear hl hm hC hD hp hq hn hk
  go_enter Tryd.func12, Tryd.ntmps12
  go_wp2_with (first
    | (go_at_call 11; with_reducible refine H1.out.mono ?_; rintro e W1 ⟨rfl, hb1⟩; have HF1 := Aside0.mk hb1; clear hb1)
    | (go_at_call 11; with_reducible refine (H2.out _ HF1).mono ?_; rintro e W2 ⟨rfl, HF2⟩))
  go_ret
  exact ⟨by simp, HF2.out⟩
end Go.Proofs.YtbkhoepoeaiccaaDoor

/- The document's ReadLine. -/
import Derived.Test.YtbkhoepoeaiccaaDoorScrU
namespace Go.Proofs.YtbkhoepoeaiccaaDoor
open Go.RowKit Go.Shelf Go.Proofs.YtbkhoepoeaiccaaDoorW.PrintWords

theorem info9 : (Tryd.prog.info? 9).map (fun i => (i.zero, i.size, i.bytes)) = some (some (.string ⟨#[]⟩), 1, 16) := by kernel_rfl
/-- Words so far: those behind us, and where the next one begins. -/
def WI (s : List UInt8) (i at_ : Nat) (ws : List (List UInt8)) : Prop :=
  (i ≤ s.length ∧ at_ ≤ i ∧ splitL 32 s = ws ++ splitL 32 (s.drop at_) ∧ (32 : UInt8) ∉ (s.drop at_).take (i - at_)) ∨ (i = s.length + 1 ∧ splitL 32 s = ws)
theorem WI_start (s : List UInt8) : WI s 0 0 [] := .inl ⟨Nat.zero_le _, Nat.le_refl _, by simp, by simp⟩
theorem WI_le {s : List UInt8} {i a : Nat} {ws : List (List UInt8)} (h : WI s i a ws) (hi : i ≤ s.length) : a ≤ i ∧ splitL 32 s = ws ++ splitL 32 (s.drop a) ∧ (32 : UInt8) ∉ (s.drop a).take (i - a) := by
  rcases h with ⟨_, h⟩ | ⟨h, _⟩
  · exact h
  · omega
theorem take_step (s : List UInt8) (a i : Nat) (h1 : a ≤ i) (h2 : i < s.length) : (s.drop a).take (i + 1 - a) = (s.drop a).take (i - a) ++ [s.getD i 0] := by
  rw [show i + 1 - a = (i - a) + 1 by omega, List.take_add_one, List.getElem?_drop, show a + (i - a) = i by omega, List.getElem?_eq_getElem h2, List.getD_eq_getElem?_getD, List.getElem?_eq_getElem h2]
  rfl
theorem WI_skip {s : List UInt8} {i a : Nat} {ws : List (List UInt8)} (h : WI s i a ws) (hi : i < s.length) (hc : s.getD i 0 ≠ 32) : WI s (i + 1) a ws := by
  obtain ⟨h1, h2, h3⟩ := WI_le h (by omega)
  refine .inl ⟨by omega, by omega, h2, ?_⟩
  rw [take_step s a i h1 hi]
  intro hm
  rcases List.mem_append.1 hm with h | h
  · exact h3 h
  · exact hc (List.mem_singleton.1 h).symm
theorem WI_word {s : List UInt8} {i a : Nat} {ws : List (List UInt8)} (h : WI s i a ws) (hi : i < s.length) (hc : s.getD i 0 = 32) : WI s (i + 1) (i + 1) (ws ++ [(s.drop a).take (i - a)]) := by
  obtain ⟨h1, h2, h3⟩ := WI_le h (by omega)
  refine .inl ⟨by omega, Nat.le_refl _, ?_, by simp⟩
  have e : s.drop a = (s.drop a).take (i - a) ++ 32 :: s.drop (i + 1) := by
    conv => lhs; rw [← List.take_append_drop (i - a) (s.drop a), List.drop_drop, show a + (i - a) = i by omega]
    rw [List.drop_eq_getElem_cons hi]
    congr 2
    rw [← hc, List.getD_eq_getElem?_getD, List.getElem?_eq_getElem hi]
    rfl
  rw [h2]
  conv => lhs; rw [e]
  rw [splitL_cons 32 _ _ h3, List.append_assoc]
  rfl
theorem WI_last {s : List UInt8} {a : Nat} {ws : List (List UInt8)} (h : WI s s.length a ws) : WI s (s.length + 1) (s.length + 1) (ws ++ [(s.drop a).take (s.length - a)]) := by
  obtain ⟨h1, h2, h3⟩ := WI_le h (Nat.le_refl _)
  have e : (s.drop a).take (s.length - a) = s.drop a := List.take_of_length_le (by rw [List.length_drop]; exact Nat.le_refl _)
  rw [e] at h3 ⊢
  exact .inr ⟨rfl, by rw [h2, splitL_free 32 _ h3]⟩
theorem WI_end {s : List UInt8} {i a : Nat} {ws : List (List UInt8)} (h : WI s i a ws) (hi : ¬ i ≤ s.length) : i = s.length + 1 ∧ splitL 32 s = ws := by
  rcases h with ⟨h, _⟩ | h
  · exact absurd h hi
  · exact h
theorem WI_bound {s : List UInt8} {i a : Nat} {ws : List (List UInt8)} (h : WI s i a ws) : i ≤ s.length + 1 := by
  rcases h with ⟨h, _⟩ | ⟨h, _⟩ <;> omega
theorem splitL_count (c : UInt8) (l : List UInt8) : (splitL c l).length ≤ l.length + 1 := by
  induction l with
  | nil => simp [splitL]
  | cons x l ih =>
    unfold splitL
    split
    · simp only [List.length_cons]; omega
    · split
      · simp
      · rename_i h
        rw [h] at ih
        simp only [List.length_cons] at ih ⊢
        omega
theorem extract_list (st : ByteArray) (s : List UInt8) (h : st = ⟨s.toArray⟩) (a i : Nat) : (st.extract a i).data.toList = (s.drop a).take (i - a) := by
  rw [h, Lib.extract_eq]
/-- What ReadLine gives. -/
def ReadAns (w : World) (s : List UInt8) (e : Ending) (w' : World) : Prop := ∃ (y : St) (A : Option Addr) (n c : Nat), e = .returned (.tuple #[stepV y A n c, .bool (readL s).isSome]) ∧ (∀ x, readL s = some x → x = y ∧ Kd.R (Kd.int .u8) 5 w' w.heap.size (fun _ => True) (.slice A n c) (bl x.data)) ∧ Below w.heap.size w w'
theorem below_six {w W : World} {r : Nat} (a0 a1 a2 a3 a4 a5 : Value) (h : Below w.heap.size w W) (hr : r = w.heap.size) : Below w.heap.size w (six W r a0 a1 a2 a3 a4 a5) := by
  have h0 : w.heap.size ≤ r := Nat.le_of_eq hr.symm
  exact (((((h.setCell h0 _).setCell h0 _).setCell h0 _).setCell h0 _).setCell h0 _).setCell h0 _
theorem ret_zero {w W : World} {r : Nat} {s : List UInt8} (hb : Below w.heap.size w W) (hr : r = w.heap.size) (hk : W.heap[r]? = some (.cells #[.int .i64 0, .int .i64 0, .int .i64 0, .int .i64 0, .string ⟨#[]⟩, .slice none 0 0] 33 (0, 0))) (hno : readL s = none) :
    (six W r (.int .i64 0) (.int .i64 0) (.int .i64 0) (.int .i64 0) (.string ⟨#[]⟩) (.slice none 0 0)).heap[r]? = some (.cells #[.int .i64 st0.kind, .int .i64 st0.a, .int .i64 st0.b, .int .i64 st0.c, .string ⟨st0.id.toArray⟩, .slice none 0 0] 33 (0, 0)) ∧ ReadAns w s (.returned (.tuple #[stepV st0 none 0 0, .bool false])) (six W r (.int .i64 0) (.int .i64 0) (.int .i64 0) (.int .i64 0) (.string ⟨#[]⟩) (.slice none 0 0)) :=
  ⟨six_blk (.int .i64 0) (.int .i64 0) (.int .i64 0) (.int .i64 0) (.string ⟨#[]⟩) (.slice none 0 0) hk, st0, none, 0, 0, by rw [hno]; rfl, fun x hx => (by rw [hno] at hx; cases hx), below_six (.int .i64 0) (.int .i64 0) (.int .i64 0) (.int .i64 0) (.string ⟨#[]⟩) (.slice none 0 0) hb hr⟩
theorem meas1 {i n : Nat} (h : i ≤ n) : n + 1 - (intOf (.int .i64 ((i : Int) + 1))).toNat < n + 1 - (intOf (.int .i64 (i : Int))).toNat := by
  unfold intOf
  simp only []
  omega
/-- The document's numbers and bytes. -/
theorem num_some (l : List UInt8) (b : ByteArray) (hb : b.data.toList = l) (hl : l.length ≤ 268435456) (v : Int) (h : numL l = some v) (W : World) : Calls Tryd.prog 23 #[.string b] W fun e W' => e = .returned (.tuple #[.int .i64 v, .bool true]) ∧ Below W.heap.size W W' := by
  have hs : b.size = l.length := by rw [← hb, Array.length_toList]; rfl
  refine (RNumber_any W b (by omega)).mono fun e W' ⟨he, hd⟩ => ⟨?_, hd.below⟩
  rw [hb, h] at he
  exact he
theorem num_none (l : List UInt8) (b : ByteArray) (hb : b.data.toList = l) (hl : l.length ≤ 268435456) (h : numL l = none) (W : World) : Calls Tryd.prog 23 #[.string b] W fun e W' => e = .returned (.tuple #[.int .i64 0, .bool false]) ∧ Below W.heap.size W W' := by
  have hs : b.size = l.length := by rw [← hb, Array.length_toList]; rfl
  refine (RNumber_any W b (by omega)).mono fun e W' ⟨he, hd⟩ => ⟨?_, hd.below⟩
  rw [hb, h] at he
  exact he
theorem bytes_any (l : List UInt8) (b : ByteArray) (hb : b.data.toList = l) (c : UInt8) (z : Int) (hz : (c.toNat : Int) = z) (hl : l.length ≤ 268435456) (W : World) : Calls Tryd.prog 24 #[.string b, .int .u8 z] W fun e W' => ∃ (A : Option Addr) (n d : Nat), e = .returned (.tuple #[.slice A n d, .bool (bytesL l c).isSome]) ∧ n = ((bytesL l c).getD []).length ∧ n ≤ d ∧ Kd.R (Kd.int .u8) 5 W' W.heap.size (fun _ => True) (.slice A n d) (bl ((bytesL l c).getD [])) ∧ Below W.heap.size W W' := by
  subst hz
  have hs : b.size = l.length := by rw [← hb, Array.length_toList]; rfl
  refine (RBytes_any W b c (by omega)).mono fun e W' ⟨v, he, hR, hB⟩ => ?_
  rw [hb] at he hR
  have e1 : (bytesAns (bytesL l c)).1 = bl ((bytesL l c).getD []) := by cases bytesL l c <;> rfl
  have e2 : (bytesAns (bytesL l c)).2 = (bytesL l c).isSome := by cases bytesL l c <;> rfl
  rw [e1] at hR
  rw [e2] at he
  obtain ⟨A, d, rfl⟩ := Kd.R_slice hR
  rw [bl_length] at hR he
  have h1 := Kd.R_reads' hR
  exact ⟨A, _, d, he, rfl, by rw [bl_length] at h1; exact h1.2.1, hR, hB⟩
/-- What the document reads. -/
theorem readL_six (s : List UInt8) (n0 n1 n2 n3 : Int) (i d : List UInt8) (hl : (splitL 32 s).length = 6) (h : ∀ j, j < 4 → numL ((splitL 32 s).getD j []) = some ([n0, n1, n2, n3].getD j 0)) (hi : bytesL ((splitL 32 s).getD 4 []) 105 = some i) (hd : bytesL ((splitL 32 s).getD 5 []) 120 = some d) : readL s = some ⟨n0, n1, n2, n3, i, d⟩ := by
  unfold readL
  match hs : splitL 32 s, hl with
  | [w0, w1, w2, w3, w4, w5], _ =>
    rw [hs] at h hi hd
    have h0 : numL w0 = some n0 := h 0 (by decide)
    have h1 : numL w1 = some n1 := h 1 (by decide)
    have h2 : numL w2 = some n2 := h 2 (by decide)
    have h3 : numL w3 = some n3 := h 3 (by decide)
    have h4 : bytesL w4 105 = some i := hi
    have h5 : bytesL w5 120 = some d := hd
    simp only [h0, h1, h2, h3, h4, h5]
theorem readL_num (s : List UInt8) (j : Nat) (hj : j < 4) (h : numL ((splitL 32 s).getD j []) = none) : readL s = none := by
  cases hr : readL s with
  | none => rfl
  | some x =>
    obtain ⟨h1, h2, _⟩ := read_words hr
    obtain ⟨h3, h4⟩ := words_num x h2 j hj
    rw [h1, h3, numL_itoa h4] at h
    cases h

set_option maxRecDepth 100000 in
set_option maxHeartbeats 3200000 in
theorem ReadLine_any (w : World) (s : List UInt8) (hs : s.length ≤ 268435456) :
    Calls Tryd.prog 14 #[.string ⟨s.toArray⟩] w (ReadAns w s) := by
  obtain ⟨st, hst⟩ : ∃ st, st = (⟨s.toArray⟩ : ByteArray) := ⟨_, rfl⟩
  rw [← hst]
  have hstz : st.size = s.length := by rw [hst, size_str]
  obtain ⟨len, hlen⟩ : ∃ len, len = st.size := ⟨_, rfl⟩
  have HST := Aside0.mk hst
  have HLEN := Aside0.mk hlen
  have HLS : Aside0 (s.length = len) := ⟨by omega⟩
  have HS := Aside0.mk hs
  have hu33 := Tryd.underlying33
  obtain ⟨w1, hw1, hz1, hb1, hbe1⟩ := heap1 w (.cells #[.int .i64 0, .int .i64 0, .int .i64 0, .int .i64 0, .string ⟨#[]⟩, .slice none 0 0] 33)
  clear hst hstz hs
  go_enter Tryd.func14, Tryd.ntmps14
  go_wp2
  rw [← hw1]
  obtain ⟨r, hr⟩ : ∃ r, r = w.heap.size := ⟨_, rfl⟩
  rw [← hr]
  rw [← hr] at hb1
  have HR1 := Aside0.mk hb1
  have HBE := Aside0.mk hbe1
  have HZ1 := Aside0.mk (And.intro hr hz1)
  clear hw1 hz1 hb1 hbe1 hr
  go_loopw [4, 5, 6] (fun v4 v5 v6 wr => ∃ (i a n d : Nat) (B : Option Addr) (bws : List ByteArray), v4 = .slice B n d ∧ v5 = .int .i64 (a : Int) ∧ v6 = .int .i64 (i : Int) ∧ Aside0 (WI s i a (bws.map (·.data.toList))) ∧ Aside0 (bws.length = n) ∧ Aside0 (Kd.R Kd.string 9 wr w1.heap.size (fun _ => True) (.slice B n d) bws) ∧ Aside0 (Below w1.heap.size w1 wr)) (fun _ _ v6 _ => len + 1 - (intOf v6).toNat)
  case atStart => exact ⟨0, 0, 0, 0, none, [], rfl, rfl, rfl, ⟨WI_start s⟩, ⟨rfl⟩, ⟨Kd.R_nil _ _ _ _ _⟩, ⟨Below.refl _ _⟩⟩
  case round =>
    obtain ⟨i, a, n, d, B, bws, rfl, rfl, rfl, HW, HN, HR, HB⟩ := hrel
    have hll := HLS.out
    have hs0 := HS.out
    have hib := WI_bound HW.out
    by_cases hile : i ≤ len
    · obtain ⟨hai, _, _⟩ := WI_le HW.out (by omega)
      have hnn : n ≤ 268435458 := by
        have h1 := splitL_count 32 s
        have h2 := (WI_le HW.out (by omega)).2.1
        have h3 : (splitL 32 s).length = n + (splitL 32 (s.drop a)).length := by rw [h2, List.length_append, List.length_map, HN.out]
        omega
      have hpush := fun (y : ByteArray) => (R_pushes (P := Tryd.prog) Value.string (⟨#[]⟩ : ByteArray) (h1 := fun _ => rfl) wr w1 50 9 (.string ⟨#[]⟩) 16 Tryd.underlying50 info9 rfl HR.out HB.out y n (bws ++ [y]) HN.out rfl (by omega) (by omega)).out wr (Below.refl _ _)
      have hil : ((i : Int) ≤ (st.size : Int)) = True := eq_true (by rw [← hlen]; omega)
      have hle1 : ((a : Int) ≤ (i : Int)) = True := eq_true (by omega)
      have hle2 : (a ≤ i) = True := eq_true hai
      have hle3 : (i ≤ st.size) = True := eq_true (by rw [← hlen]; exact hile)
      have hap : (st.extract a i).data.toList = (s.drop a).take (i - a) := extract_list st s HST.out a i
      by_cases hie : i = len
      · have hcmp : ((i : Int) == (st.size : Int)) = true := by rw [← hlen, hie]; exact beq_self_eq_true _
        obtain ⟨B', d', W', hX, HR', HB'⟩ := hpush (st.extract a i)
        replace hX := Aside0.mk hX
        have HWL : Aside0 (WI s (i + 1) (i + 1) ((bws ++ [st.extract a i]).map (·.data.toList))) := ⟨by
          rw [List.map_append, List.map_cons, List.map_nil, hap]
          have hil : i = s.length := by omega
          have h1 := HW.out
          rw [hil] at h1 ⊢
          exact WI_last h1⟩
        have HNL : Aside0 ((bws ++ [st.extract a i]).length = n + 1) := ⟨by rw [List.length_append, HN.out]; rfl⟩
        have hw64 : wrap64 ((i : Int) + 1) = (i : Int) + 1 := by unfold wrap64; omega
        have HILE := Aside0.mk hile
        have hx : (i : Int) + 1 = ((i + 1 : Nat) : Int) := by omega
        have HXI := Aside0.mk hx
        clear hx hap hpush hie hlen hnn hll hs0 hib hile hai
        go_wp2_with (at_builtin; refine wpList_append_run rfl _ _ _ _ rfl rfl rfl hX.out ?_)
        go_roundw
        case rel => exact ⟨i + 1, i + 1, n + 1, d', B', _, rfl, by first | rfl | (rw [hw64, HXI.out]) | go_num, by first | rfl | (rw [hw64, HXI.out]) | go_num, HWL, HNL, HR', HB'⟩
        case measure =>
          first | exact meas1 HILE.out | (rw [hw64]; exact meas1 HILE.out)
      · have hcmp : ((i : Int) == (st.size : Int)) = false := by rw [← hlen]; exact beq_false_of_ne (by omega)
        have hilt : i < st.size := by omega
        have hxa := text_at st i hilt
        have hsd : st.data.toList = s := by rw [HST.out]
        rw [hsd] at hxa
        obtain ⟨c, hc⟩ : ∃ c, c = s.getD i 0 := ⟨_, rfl⟩
        rw [← hc] at hxa
        have hps : ((i : Int) < (st.size : Int)) = True := eq_true (by omega)
        have hpn : (i < st.size) = True := eq_true hilt
        have hw64 : wrap64 ((i : Int) + 1) = (i : Int) + 1 := by unfold wrap64; omega
        have HILE := Aside0.mk hile
        have HXI := Aside0.mk (show (i : Int) + 1 = ((i + 1 : Nat) : Int) by omega)
        have hisl : i < s.length := by omega
        by_cases h32 : c = 32
        · have hceq : ((c.toNat : Int) == 32) = true := by rw [h32]; rfl
          obtain ⟨B', d', W', hX, HR', HB'⟩ := hpush (st.extract a i)
          replace hX := Aside0.mk hX
          have HWL : Aside0 (WI s (i + 1) (i + 1) ((bws ++ [st.extract a i]).map (·.data.toList))) := ⟨by
            rw [List.map_append, List.map_cons, List.map_nil, hap]
            exact WI_word HW.out hisl (by rw [← hc, h32])⟩
          have HNL : Aside0 ((bws ++ [st.extract a i]).length = n + 1) := ⟨by rw [List.length_append, HN.out]; rfl⟩
          clear hsd hc h32 hilt hisl hap hpush hie hlen hnn hll hs0 hib hile hai
          go_wp2_with (at_builtin; refine wpList_append_run rfl _ _ _ _ rfl rfl rfl hX.out ?_)
          go_roundw
          case rel => exact ⟨i + 1, i + 1, n + 1, d', B', _, rfl, by first | rfl | (rw [hw64, HXI.out]) | go_num, by first | rfl | (rw [hw64, HXI.out]) | go_num, HWL, HNL, HR', HB'⟩
          case measure =>
            first | exact meas1 HILE.out | (rw [hw64]; exact meas1 HILE.out)
        · have hceq : ((c.toNat : Int) == 32) = false := beq_false_of_ne (fun e => h32 (UInt8.toNat_inj.1 (by show c.toNat = 32; omega)))
          have HWL : Aside0 (WI s (i + 1) a (bws.map (·.data.toList))) := ⟨WI_skip HW.out hisl (by rw [← hc]; exact h32)⟩
          clear hsd hc h32 hilt hisl hap hpush hie hlen hnn hll hs0 hib hile hai
          go_wp2
          go_roundw
          case rel => exact ⟨i + 1, a, n, d, B, bws, rfl, rfl, by first | rfl | (rw [hw64, HXI.out]) | go_num, HWL, HN, HR, HB⟩
          case measure =>
            first | exact meas1 HILE.out | (rw [hw64]; exact meas1 HILE.out)
    · obtain ⟨hil, hsplit⟩ := WI_end HW.out (by omega)
      have hcnt : (splitL 32 s).length = n := by rw [hsplit, List.length_map, HN.out]
      have hil2 : ((i : Int) ≤ (st.size : Int)) = False := eq_false (by omega)
      have HSPL := Aside0.mk hsplit
      have hbe : Below w.heap.size w wr := HBE.out.trans (HB.out.mono HBE.out.size)
      have HBW := Aside0.mk hbe
      have hrlt : r < w1.heap.size := blk_lt HR1.out
      have hR2 := (HB.out.block r hrlt).trans HR1.out
      have HR2 := Aside0.mk hR2
      have HRLT := Aside0.mk hrlt
      by_cases hn6 : n = 6
      · subst hn6
        obtain ⟨gw, rfl, hgw1, hgw2, _, _⟩ := R_at (⟨#[]⟩ : ByteArray) HR.out 0 (by decide)
        have hwc : ∀ k, k < 6 → wr.cell? ⟨gw, k, none⟩ = some (.string (bws.getD k ⟨#[]⟩)) := fun k hk => by
          obtain ⟨g', hg', _, _, _, hx, _⟩ := R_at (⟨#[]⟩ : ByteArray) HR.out k hk
          injection hg' with hg'
          injection hg' with hg'
          rw [hg']
          exact hx
        have hww : ∀ k, k < 6 → (bws.getD k ⟨#[]⟩).data.toList = (splitL 32 s).getD k [] ∧ ((splitL 32 s).getD k []).length ≤ 268435456 := fun k hk => by
          refine ⟨?_, ?_⟩
          · rw [hsplit, List.getD_eq_getElem?_getD, List.getD_eq_getElem?_getD, List.getElem?_map, List.getElem?_eq_getElem (by rw [HN.out]; omega)]
            rfl
          · have := splitL_len 32 s ((splitL 32 s).getD k []) (by rw [List.getD_eq_getElem?_getD, List.getElem?_eq_getElem (by omega)]; exact List.getElem_mem _)
            omega
        obtain ⟨w3, hw3, hz3, hba, hb3⟩ := heap1 wr (.cells #[.int .i64 0, .int .i64 0, .int .i64 0, .int .i64 0] 51)
        obtain ⟨ga, hga⟩ : ∃ ga, ga = wr.heap.size := ⟨_, rfl⟩
        rw [← hga] at hba
        have hA0 : Arr w3 ga [0, 0, 0, 0] := hba
        have HWC : Aside0 (∀ k, k < 6 → w3.cell? ⟨gw, k, none⟩ = some (.string (bws.getD k ⟨#[]⟩))) := ⟨fun k hk => (hb3.cell (World.block_lt_of_cell? wr _ (hwc k hk))).trans (hwc k hk)⟩
        have HWW := Aside0.mk hww
        have HNE : Aside0 (gw ≠ ga ∧ r ≠ ga) := ⟨⟨by omega, by have := HB.out.size; omega⟩⟩
        have HR3 : Aside0 (w3.heap[r]? = some (.cells #[.int .i64 0, .int .i64 0, .int .i64 0, .int .i64 0, .string ⟨#[]⟩, .slice none 0 0] 33 (0, 0))) := ⟨(hb3.block r (by have := HB.out.size; omega)).trans hR2⟩
        have HB3 : Aside0 (Below w.heap.size w w3) := ⟨hbe.trans (hb3.mono hbe.size)⟩
        have HGA : Aside0 (w.heap.size ≤ ga) := ⟨by rw [hga]; exact hbe.size⟩
        have HA0 := Aside0.mk hA0
        have HCNT := Aside0.mk hcnt
        have HW3 := Aside0.mk hw3
        have HGAS := Aside0.mk hga
        clear hwc hww hA0 hba hz3 hb3 hgw1 hgw2 hbe hrlt hR2 hsplit hcnt hil hib hll hs0 hile hw3 hga
        go_wp2
        rw [← HW3.out, ← HGAS.out]
        go_loopw [8] (fun v8 wq => ∃ (k : Nat) (L : List Int), k ≤ 4 ∧ v8 = .int .i64 (k : Int) ∧ L.length = 4 ∧ Aside0 (Arr wq ga L) ∧ Aside0 (∀ j, j < k → numL ((splitL 32 s).getD j []) = some (L.getD j 0)) ∧ Aside0 (Fr (fun k => k = ga) w3 wq)) (fun v8 _ => 4 - (intOf v8).toNat)
        case atStart => exact ⟨0, [0, 0, 0, 0], by omega, rfl, rfl, HA0, ⟨fun j hj => by omega⟩, ⟨Fr.refl _ _⟩⟩
        case round =>
          rename World => wq
          obtain ⟨k, L, hk, rfl, hL, HA, HNM, HF⟩ := hrel
          have hbq : Below w.heap.size w wq := HB3.out.trans (HF.out.below HB3.out.size (fun k hk => by have := HGA.out; omega))
          have hRq := HF.out.blk HR3.out HNE.out.2
          have hwq : ∀ k, k < 6 → wq.cell? ⟨gw, k, none⟩ = some (.string (bws.getD k ⟨#[]⟩)) := fun k hk => HF.out.cell (HWC.out k hk) HNE.out.1
          by_cases hlt : k < 4
          · have hwk := hwq k (by omega)
            obtain ⟨hbk, hwl⟩ := HWW.out k (by omega)
            obtain ⟨b, hb⟩ : ∃ b, b = bws.getD k ⟨#[]⟩ := ⟨_, rfl⟩
            rw [← hb] at hwk hbk
            have HLL := Aside0.mk hL
            have HRQ := Aside0.mk hRq
            have HBQ := Aside0.mk hbq
            cases hv : numL ((splitL 32 s).getD k []) with
            | some v =>
              have HAT := Aside0.mk (num_some _ b hbk hwl v hv wq)
              have HV := Aside0.mk hv
              clear hv hb hbk hwl hL hRq hbq hwq
              go_wp2_with (go_at_call 23; with_reducible refine HAT.out.mono ?_; rintro e W1 ⟨rfl, hb1⟩; have HF1 := Aside0.mk (Fr.below_ HF.out hb1); obtain ⟨c0, z0, hset⟩ := Arr_at (Arr_fr HA.out (Fr.of_below hb1 (fun _ => False)) (fun h => h)) k (by rw [HLL.out]; exact hlt); have HSET := Aside0.mk (hset v); clear hset hb1)
              go_roundw
              case rel =>
                refine ⟨k + 1, L.set k v, by omega, by go_num, by rw [List.length_set]; exact HLL.out, HSET, ⟨fun j hj => ?_⟩, ⟨HF1.out.set_ (.inl rfl) _⟩⟩
                rw [getD_set L k j v 0 (by rw [HLL.out]; exact hlt)]
                by_cases e : j = k
                · subst e
                  rw [if_pos rfl]
                  exact HV.out
                · rw [if_neg e]
                  exact HNM.out j (by omega)
              case measure => simp [intOf]; omega
            | none =>
              have HAT := Aside0.mk (num_none _ b hbk hwl hv wq)
              have HNO := Aside0.mk (readL_num s k hlt hv)
              clear hv hb hbk hwl hL hRq hbq hwq
              go_wp2_with (go_at_call 23; with_reducible refine HAT.out.mono ?_; rintro e W1 ⟨rfl, hb1⟩; have HR4 := Aside0.mk ((hb1.block _ (blk_lt HRQ.out)).trans HRQ.out); have HB4 := Aside0.mk (HBQ.out.trans (hb1.mono HBQ.out.size)); obtain ⟨c0, c1, c2, c3, c4, c5, z0, z1, z2, z3, z4, z5⟩ := zero33 HR4.out; clear hb1)
              obtain ⟨f1, f2⟩ := ret_zero HB4.out HZ1.out.1 HR4.out HNO.out
              unfold six at f1 f2
              exact bodyPost_ret (results_step (fn := Tryd.f14) (p := 2) (u := 3) (b := .bool false) rfl _ rfl rfl f1) rfl f2
          · obtain rfl : k = 4 := by omega
            obtain ⟨n0, n1, n2, n3, rfl⟩ : ∃ n0 n1 n2 n3, L = [n0, n1, n2, n3] := by
              rcases L with _ | ⟨a, _ | ⟨b, _ | ⟨c, _ | ⟨d, _ | ⟨e, L⟩⟩⟩⟩⟩ <;> first | exact ⟨_, _, _, _, rfl⟩ | (simp at hL)
            have hw4 := hwq 4 (by decide)
            have hw5 := hwq 5 (by decide)
            obtain ⟨hd4, hl4⟩ := HWW.out 4 (by decide)
            obtain ⟨hd5, hl5⟩ := HWW.out 5 (by decide)
            obtain ⟨b4, hb4⟩ : ∃ b, b = bws.getD 4 ⟨#[]⟩ := ⟨_, rfl⟩
            obtain ⟨b5, hb5⟩ : ∃ b, b = bws.getD 5 ⟨#[]⟩ := ⟨_, rfl⟩
            rw [← hb4] at hw4 hd4
            rw [← hb5] at hw5 hd5
            have HRQ := Aside0.mk hRq
            have HBQ := Aside0.mk hbq
            obtain ⟨o4, ho4⟩ : ∃ o, o = bytesL ((splitL 32 s).getD 4 []) 105 := ⟨_, rfl⟩
            obtain ⟨o5, ho5⟩ : ∃ o, o = bytesL ((splitL 32 s).getD 5 []) 120 := ⟨_, rfl⟩
            have HU4 := Aside0.mk (fun W => bytes_any _ b4 hd4 105 105 rfl hl4 W)
            have HU5 := Aside0.mk (fun W => bytes_any _ b5 hd5 120 120 rfl hl5 W)
            rw [← ho4] at HU4
            rw [← ho5] at HU5
            have HNO4 : Aside0 (o4 = none → readL s = none) := ⟨fun h => read_id s (ho4.symm.trans h)⟩
            have HNO5 : Aside0 (o5 = none → readL s = none) := ⟨fun h => read_data s (ho5.symm.trans h)⟩
            have HALL : Aside0 (∀ i d, o4 = some i → o5 = some d → readL s = some ⟨n0, n1, n2, n3, i, d⟩) := ⟨fun i d h4 h5 => readL_six s n0 n1 n2 n3 i d HCNT.out HNM.out (by rw [← ho4, h4]) (by rw [← ho5, h5])⟩
            obtain ⟨ids, hids⟩ : ∃ ids, ids = (⟨(o4.getD []).toArray⟩ : ByteArray) := ⟨_, rfl⟩
            have HCV : Aside0 (∀ W A c, Kd.C (Kd.int .u8) W A (bl (o4.getD [])).length (bl (o4.getD [])) → (convert 31 9 (.slice A (bl (o4.getD [])).length c)).run Tryd.prog W = .ok (.string ids) W) := ⟨fun W A c hC => by
              rw [hids, ← Lib.Lz.strOfNums_map]
              exact Kd.C_string Tryd.underlying31 Tryd.underlying5 Tryd.underlying9 hC⟩
            rw [bl_length] at HCV
            have HIDS := Aside0.mk hids
            obtain ⟨p4, hp4⟩ : ∃ p, p = o4.isSome := ⟨_, rfl⟩
            obtain ⟨p5, hp5⟩ : ∃ p, p = o5.isSome := ⟨_, rfl⟩
            rw [← hp4] at HU4
            rw [← hp5] at HU5
            have HP := Aside0.mk (And.intro hp4 hp5)
            clear hp4 hp5 hids ho4 ho5 hd4 hd5 hl4 hl5 hb4 hb5 hRq hbq hwq hL
            cases p4 with
            | false =>
              go_wp2_with (first
                | (go_at_call 24; with_reducible refine (HU4.out _).mono ?_; rintro e W1 ⟨A4, m4, c4, rfl, rfl, hmc4, hR4, hb1⟩; have HB1 := Aside0.mk hb1; have hw51 := (hb1.cell (World.block_lt_of_cell? wq _ hw5)).trans hw5; clear hR4 hmc4 hb1)
                | (go_at_call 24; with_reducible refine (HU5.out _).mono ?_; rintro e W2 ⟨A5, m5, c5, rfl, hm5, hmc5, hR5, hb2⟩; have HB2 := Aside0.mk (HB1.out.trans (hb2.mono HB1.out.size)); have HR6 := Aside0.mk ((HB2.out.block r (blk_lt HRQ.out)).trans HRQ.out); obtain ⟨e0, e1, e2, e3, e4, e5, z0, z1, z2, z3, z4, z5⟩ := zero33 HR6.out; clear hR5 hm5 hmc5 hb2))
              obtain ⟨f1, f2⟩ := ret_zero (HBQ.out.trans (HB2.out.mono HBQ.out.size)) HZ1.out.1 HR6.out (HNO4.out (isSome_none HP.out.1))
              unfold six at f1 f2
              exact bodyPost_ret (results_step (fn := Tryd.f14) (p := 2) (u := 3) (b := .bool false) rfl _ rfl rfl f1) rfl f2
            | true =>
              cases p5 with
              | false =>
                go_wp2_with (first
                  | (go_at_call 24; with_reducible refine (HU4.out _).mono ?_; rintro e W1 ⟨A4, m4, c4, rfl, rfl, hmc4, hR4, hb1⟩; have HB1 := Aside0.mk hb1; have hw51 := (hb1.cell (World.block_lt_of_cell? wq _ hw5)).trans hw5; clear hR4 hmc4 hb1)
                  | (go_at_call 24; with_reducible refine (HU5.out _).mono ?_; rintro e W2 ⟨A5, m5, c5, rfl, hm5, hmc5, hR5, hb2⟩; have HB2 := Aside0.mk (HB1.out.trans (hb2.mono HB1.out.size)); have HR6 := Aside0.mk ((HB2.out.block r (blk_lt HRQ.out)).trans HRQ.out); obtain ⟨e0, e1, e2, e3, e4, e5, z0, z1, z2, z3, z4, z5⟩ := zero33 HR6.out; clear hR5 hm5 hmc5 hb2))
                obtain ⟨f1, f2⟩ := ret_zero (HBQ.out.trans (HB2.out.mono HBQ.out.size)) HZ1.out.1 HR6.out (HNO5.out (isSome_none HP.out.2))
                unfold six at f1 f2
                exact bodyPost_ret (results_step (fn := Tryd.f14) (p := 2) (u := 3) (b := .bool false) rfl _ rfl rfl f1) rfl f2
              | true =>
                obtain ⟨i4, h4⟩ := Option.isSome_iff_exists.1 HP.out.1.symm
                obtain ⟨i5, h5⟩ := Option.isSome_iff_exists.1 HP.out.2.symm
                have HRD := Aside0.mk (HALL.out i4 i5 h4 h5)
                have HI := Aside0.mk (And.intro h4 h5)
                clear h4 h5
                go_wp2_with (first
                  | (go_at_call 24; with_reducible refine (HU4.out _).mono ?_; rintro e W1 ⟨A4, m4, c4, rfl, rfl, hmc4, hR4, hb1⟩; have HR4 := Aside0.mk hR4; have HB1 := Aside0.mk hb1; have hw51 := (hb1.cell (World.block_lt_of_cell? wq _ hw5)).trans hw5; clear hR4 hmc4 hb1)
                  | (go_at_call 24; with_reducible refine (HU5.out _).mono ?_; rintro e W2 ⟨A5, m5, c5, rfl, hm5, hmc5, hR5, hb2⟩; have HA2 := Aside0.mk (Arr_fr (Arr_fr HA.out (Fr.of_below HB1.out (fun _ => False)) (fun h => h)) (Fr.of_below hb2 (fun _ => False)) (fun h => h)); obtain ⟨q0, q1, q2, q3⟩ := Arr4 HA2.out; have hcv := HCV.out W2 A4 c4 (Kd.C_below (R_C HR4.out) hb2); have HR5 := Aside0.mk hR5; have HB2 := Aside0.mk (HB1.out.trans (hb2.mono HB1.out.size)); have HB12 := Aside0.mk HB1.out.size; have HR6 := Aside0.mk ((HB2.out.block r (blk_lt HRQ.out)).trans HRQ.out); obtain ⟨e0, e1, e2, e3, e4, e5, z0, z1, z2, z3, z4, z5⟩ := zero33 HR6.out; clear hR5 hm5 hmc5 hb2))
                have f1 : (six W2 r (.int .i64 n0) (.int .i64 n1) (.int .i64 n2) (.int .i64 n3) (.string ids) (.slice A5 m5 c5)).heap[r]? = some (.cells #[.int .i64 (⟨n0, n1, n2, n3, o4.getD [], o5.getD []⟩ : St).kind, .int .i64 (⟨n0, n1, n2, n3, o4.getD [], o5.getD []⟩ : St).a, .int .i64 (⟨n0, n1, n2, n3, o4.getD [], o5.getD []⟩ : St).b, .int .i64 (⟨n0, n1, n2, n3, o4.getD [], o5.getD []⟩ : St).c, .string ⟨(⟨n0, n1, n2, n3, o4.getD [], o5.getD []⟩ : St).id.toArray⟩, .slice A5 m5 c5] 33 (0, 0)) := by
                  rw [six_blk (.int .i64 n0) (.int .i64 n1) (.int .i64 n2) (.int .i64 n3) (.string ids) (.slice A5 m5 c5) HR6.out]
                  simp only []
                  rw [HIDS.out]
                have hbw2 : Below w.heap.size w W2 := HBQ.out.trans (HB2.out.mono HBQ.out.size)
                have hrl := blk_lt HRQ.out
                have hs12 := HB12.out
                have hsq := HBQ.out.size
                have hfr := six_fr (.int .i64 n0) (.int .i64 n1) (.int .i64 n2) (.int .i64 n3) (.string ids) (.slice A5 m5 c5) (Fr.refl (fun k => k = r) W2)
                have f2 : ReadAns w s (.returned (.tuple #[stepV ⟨n0, n1, n2, n3, o4.getD [], o5.getD []⟩ A5 m5 c5, .bool true])) (six W2 r (.int .i64 n0) (.int .i64 n1) (.int .i64 n2) (.int .i64 n3) (.string ids) (.slice A5 m5 c5)) := by
                  refine ⟨⟨n0, n1, n2, n3, o4.getD [], o5.getD []⟩, A5, m5, c5, by rw [HRD.out]; rfl, fun x hx => ?_, below_six (.int .i64 n0) (.int .i64 n1) (.int .i64 n2) (.int .i64 n3) (.string ids) (.slice A5 m5 c5) hbw2 HZ1.out.1⟩
                  rw [HRD.out] at hx
                  injection hx with hx
                  subst hx
                  refine ⟨by rw [HI.out.1, HI.out.2]; rfl, ?_⟩
                  have h6 := Kd.R_lower (R_fr HR5.out hfr (fun k _ hk _ e => by omega)) (Nat.le_trans hsq hs12)
                  rw [HI.out.2] at h6
                  exact h6
                unfold six at f1 f2
                exact bodyPost_ret (results_step (fn := Tryd.f14) (p := 2) (u := 3) (b := .bool true) rfl _ rfl rfl f1) rfl f2
      · have hno : readL s = none := read_len s (by rw [hcnt]; exact hn6)
        have hN6 : (((n : Int) != 6)) = true := by simp only [bne_iff_ne, ne_eq]; omega
        obtain ⟨c0, c1, c2, c3, c4, c5, z0, z1, z2, z3, z4, z5⟩ := zero33 hR2
        obtain ⟨f1, f2⟩ := ret_zero hbe HZ1.out.1 hR2 hno
        have HFF := Aside0.mk (And.intro f1 f2)
        clear f1 f2 hno hn6 hcnt hsplit hbe hrlt hR2 hil hib hll hs0 hile
        go_wp2
        obtain ⟨f1, f2⟩ := HFF.out
        unfold six at f1 f2
        exact bodyPost_ret (results_step (fn := Tryd.f14) (p := 2) (u := 3) (b := .bool false) rfl _ rfl rfl f1) rfl f2
end Go.Proofs.YtbkhoepoeaiccaaDoor

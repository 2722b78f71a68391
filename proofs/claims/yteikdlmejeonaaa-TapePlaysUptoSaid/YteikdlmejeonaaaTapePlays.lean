/- The law TapePlays: whatever is added, and taken. -/
import Derived.Test.YteikdlmejeonaaaTapeAns
import Derived.Test.YteikdlmejeonaaaTapeArgs
import Derived.Outline
namespace Go.Proofs.Yteikdlmejeonaaa
open Go.RowKit Go.Proofs.YteikdlmejeonaaaW.PrintWords
open Go.BigFrame

/-- A call: Op. -/
structure S27 where
  f0 : Int
  f1 : List Int
def z27 : S27 := ⟨0, []⟩
def k27 : Kd S27 := Kd.iso (Kd.pair (Kd.int .i64) (Kd.slice 5 u8)) (fun x : S27 => (x.f0, x.f1))
theorem opens_op : Opens Try.prog k27 27 (fun x => (Lit.int .i64 x.f0).wf = true ∧ ∀ a ∈ x.f1, (Lit.int .u8 a).wf = true) (fun x => 1 + ((x.f1.map fun _ => 1).sum + 1) + 1) :=
  opens_struct 27 _ Try.underlying27 (by kernel_rfl) (opensF_cons _ _ 0 rfl (opens_int 3 .i64 Try.underlying3 (by kernel_rfl)) (opensF_one _ _ rfl opens_bytes)) _ (fun a => ⟨a.1, a.2⟩) (fun _ => rfl)
theorem opens_ops : Opens Try.prog (Kd.slice 27 k27) 22 (fun l => ∀ x ∈ l, (Lit.int .i64 x.f0).wf = true ∧ ∀ a ∈ x.f1, (Lit.int .u8 a).wf = true) (fun l => (l.map fun x => 1 + ((x.f1.map fun _ => 1).sum + 1) + 1).sum + 1) :=
  opens_slice 22 Try.underlying22 (by kernel_rfl) opens_op
theorem k27_open {w : World} {x : S27} {cs : List Value} (h : k27.K w x cs) : ∃ A c, cs = [.int .i64 x.f0, .slice A x.f1.length c] ∧ x.f1.length ≤ c ∧ Kd.C u8 w A x.f1.length x.f1 := by
  obtain ⟨_, _, rfl, rfl, ⟨A, c, rfl, l, g⟩⟩ := h
  exact ⟨A, c, rfl, l, g⟩
theorem at_op {w : World} {A : Option Addr} {n : Nat} {xs : List S27} (h : Kd.C k27 w A n xs) (k : Nat) (hk : k < n) : ∃ ad B c, A = some ad ∧ w.cell? (ad.add (k * 2)) = some (.int .i64 (xs.getD k z27).f0) ∧
    w.cell? ⟨(ad.add (k * 2)).block, (ad.add (k * 2)).off + 1, none⟩ = some (.slice B (xs.getD k z27).f1.length c) ∧ (xs.getD k z27).f1.length ≤ c ∧ Kd.C u8 w B (xs.getD k z27).f1.length (xs.getD k z27).f1 := by
  obtain ⟨ad, c, e, _, hK, hc0⟩ := Kd.C_get h z27 (k : Int) (by omega) (by omega)
  rw [Int.toNat_natCast] at hK hc0
  have hc : ∀ j u, c[j]? = some u → w.cell? (ad.add (k * 2 + j)) = some u := hc0
  obtain ⟨B, c', rfl, l, g⟩ := k27_open hK
  exact ⟨ad, B, c', e, hc 0 _ rfl, by rw [← add_field _ _ 1 (by omega)]; exact hc 1 _ rfl, l, g⟩

def lens (xs : List S27) : Nat := (xs.map fun x => x.f1.length).sum
theorem lens_take (xs : List S27) (k : Nat) (hk : k < xs.length) : lens (xs.take (k + 1)) = lens (xs.take k) + (xs.getD k z27).f1.length := by
  unfold lens
  rw [List.take_succ_eq_append_getElem hk, List.map_append, List.sum_append]
  simp [List.getD_eq_getElem?_getD, List.getElem?_eq_getElem hk]
theorem lens_le (xs : List S27) (k : Nat) : lens (xs.take k) ≤ lens xs := by
  unfold lens
  conv => rhs; rw [← List.take_append_drop k xs, List.map_append, List.sum_append]
  omega
theorem lens_mu (xs : List S27) : lens xs ≤ (xs.map fun x => 1 + ((x.f1.map fun _ => 1).sum + 1) + 1).sum := by
  induction xs with
  | nil => simp [lens]
  | cons x xs ih =>
    simp only [lens, List.map_cons, List.sum_cons] at ih ⊢
    have : (x.f1.map fun _ => 1).sum = x.f1.length := by rw [List.map_const']; simp [List.sum_replicate_nat]
    omega

/-- What holds between two calls. -/
structure PL (w wr : World) (xs : List S27) (k : Nat) (all : List Int) (at_ : Nat) (Al : Option Addr) (ca : Nat) (A : Option Addr) (c : Nat) : Prop where
  below : Below w.heap.size w wr
  tape : Tp wr w.heap.size w.heap.size A c (all.drop at_) at_
  row : Kd.R u8 5 wr (w.heap.size + 1) (fun _ => True) (.slice Al all.length ca) all
  le : at_ ≤ all.length
  most : all.length - at_ ≤ 65536
  sum : all.length ≤ lens (xs.take k)
  apart : ∀ b, TS w.heap.size A b → ¬ OB Al b

section
variable {w wr W : World} {xs : List S27} {k : Nat} {all : List Int} {at_ : Nat} {Al : Option Addr} {ca : Nat} {A : Option Addr} {c : Nat}
theorem PL.drop_len (h : PL w wr xs k all at_ Al ca A c) : (all.drop at_).length = all.length - at_ := List.length_drop
theorem PL.step (h : PL w wr xs k all at_ Al ca A c) (hb : Below wr.heap.size wr W) (hs : lens (xs.take k) ≤ lens (xs.take (k + 1))) : PL w W xs (k + 1) all at_ Al ca A c :=
  ⟨h.below.trans (hb.mono h.below.size), tp_fr h.tape (Fr.of_below hb (fun _ => False)) (fun _ _ h => h), Kd.R_below h.row hb, h.le, h.most, Nat.le_trans h.sum hs, h.apart⟩
theorem PL.added {W2 W3 : World} {Bs : List Int} {A2 A3 : Option Addr} {c2 c3 : Nat} (h : PL w W xs k all at_ Al ca A c) (ht2 : Tp W2 w.heap.size w.heap.size A2 c2 (all.drop at_ ++ Bs) at_) (hf2 : Fr (TS w.heap.size A) W W2)
    (hk2 : ∀ b, TS w.heap.size A2 b → TS w.heap.size A b ∨ W.heap.size ≤ b) (hr3 : Kd.R u8 5 W3 (w.heap.size + 1) (fun _ => True) (.slice A3 (all ++ Bs).length c3) (all ++ Bs)) (hg3 : W2.grownBy W3 (Value.slice Al all.length ca).ownBlock)
    (hat3 : (Value.slice A3 (all ++ Bs).length c3).ownBlock = (Value.slice Al all.length ca).ownBlock ∨ ∃ b, (Value.slice A3 (all ++ Bs).length c3).ownBlock = some b ∧ W2.heap.size ≤ b)
    (hs : lens (xs.take (k + 1)) = lens (xs.take k) + Bs.length) (hm : all.length - at_ + Bs.length ≤ 65536) : PL w W3 xs (k + 1) (all ++ Bs) at_ A3 c3 A2 c2 := by
  have hob := ob_base (Kd.Q_of_R h.row)
  have hap : ∀ b, TS w.heap.size A2 b → ¬ OB Al b := fun b hb ho => by
    rcases hk2 b hb with hb' | hb'
    · exact h.apart b hb' ho
    · have := (hob b ho).2.1; omega
  have hf3 : Fr (OB Al) W2 W3 := Fr.of_grown hg3 (fun b hb => .inl (own_ob hb))
  have hle := h.le
  refine ⟨(h.below.trans (hf2.below h.below.size (fun b hb => (ts_lt h.tape b hb).2))).trans (hf3.below (Nat.le_trans h.below.size hf2.size) (fun b hb => by have := (hob b hb).1; omega)), ?_, hr3, by rw [List.length_append]; omega, by rw [List.length_append]; omega, ?_, fun b hb ho => ?_⟩
  · rw [List.drop_append_of_le_length h.le]
    exact tp_fr ht2 hf3 hap
  · rw [hs, List.length_append]
    have := h.sum
    omega
  · rcases hat3 with hat3 | ⟨b', hb', hle'⟩
    · exact hap b hb (own_ob (hat3.symm.trans (ob_own ho)))
    · have := (ob_own (n := (all ++ Bs).length) (c := c3) ho).symm.trans hb'
      injection this with this
      have := (ts_lt ht2 b hb).1
      omega
theorem PL.took {W2 : World} {n : Nat} {A2 : Option Addr} {c2 : Nat} (h : PL w W xs k all at_ Al ca A c) (ht2 : Tp W2 w.heap.size w.heap.size A2 c2 ((all.drop at_).drop n) (at_ + n)) (hf2 : Fr (fun b => b = w.heap.size) W W2)
    (hk2 : ∀ b, TS w.heap.size A2 b → TS w.heap.size A b) (hn : n ≤ all.length - at_) (hs : lens (xs.take k) ≤ lens (xs.take (k + 1))) : PL w W2 xs (k + 1) all (at_ + n) Al ca A2 c2 := by
  have hob := ob_base (Kd.Q_of_R h.row)
  have hle := h.le
  have hmo := h.most
  refine ⟨h.below.trans (hf2.below h.below.size (fun b hb => by omega)), ?_, R_fr1 h.row hf2 (fun b hb e => by have := (hob b hb).1; omega), by omega, by omega, Nat.le_trans h.sum hs, fun b hb => h.apart b (hk2 b hb)⟩
  rw [← List.drop_drop]
  exact ht2
theorem PL.stay (h : PL w wr xs k all at_ Al ca A c) (hb : Below wr.heap.size wr W) : PL w W xs k all at_ Al ca A c :=
  ⟨h.below.trans (hb.mono h.below.size), tp_fr h.tape (Fr.of_below hb (fun _ => False)) (fun _ _ h => h), Kd.R_below h.row hb, h.le, h.most, h.sum, h.apart⟩
end

set_option maxRecDepth 100000 in
set_option maxHeartbeats 1600000 in
theorem plays_law (w : World) (A0 : Option Addr) (len c0 : Nat) (xs : List S27) (hl : xs.length = len) (hC : Kd.C k27 w A0 len xs) (_ : len ≤ c0) (hw : ∀ x ∈ xs, (Lit.int .i64 x.f0).wf = true ∧ ∀ a ∈ x.f1, (Lit.int .u8 a).wf = true)
    (hm : (xs.map fun x => 1 + ((x.f1.map fun _ => 1).sum + 1) + 1).sum + 1 ≤ 1048576) :
    Calls Try.prog 3 #[.slice A0 len c0] w fun e w' => e = .returned (.bool true) ∧ Below w.heap.size w w' := by
  have hsum : lens xs ≤ 1048576 := Nat.le_trans (lens_mu xs) (by omega)
  have hlen : len ≤ 1048576 := by
    have : xs.length ≤ (xs.map fun x => 1 + ((x.f1.map fun _ => 1).sum + 1) + 1).sum := by
      clear hl hC hw hm hsum
      induction xs with
      | nil => simp
      | cons x xs ih => simp only [List.map_cons, List.sum_cons, List.length_cons]; omega
    omega
  have H0 := Aside0.mk (show PL w (w.alloc (.cells #[.slice none 0 0, .int .i64 0] 39)) xs 0 [] 0 none 0 none 0 from
    ⟨below_alloc (Below.refl _ _) _, tp_new w w.heap.size (Nat.le_refl _), Kd.R_nil _ _ _ _ _, Nat.le_refl _, by simp, by simp, fun b _ h => by obtain ⟨a, e, _⟩ := h; cases e⟩)
  have HL := Aside0.mk hl
  have HC := Aside0.mk hC
  have HW := Aside0.mk hw
  have HS := Aside0.mk hsum
  clear hl hC hw hsum hm
  go_enter Try.func3, Try.ntmps3
  go_wp2_with (go_at_call 7; refine (new_any _).mono ?_; rintro e w1 ⟨rfl, rfl⟩)
  go_loopw [4, 5, 6] (fun v4 v5 v6 wr => ∃ (k : Nat) (all : List Int) (at_ : Nat) (Al : Option Addr) (ca : Nat) (A : Option Addr) (c : Nat), k ≤ len ∧ v6 = .int .i64 k ∧ v5 = .int .i64 at_ ∧ v4 = .slice Al all.length ca ∧ Aside0 (PL w wr xs k all at_ Al ca A c)) (fun _ _ v6 _ => len - (intOf v6).toNat)
  case atStart => exact ⟨0, [], 0, none, 0, none, 0, Nat.zero_le _, rfl, rfl, rfl, H0⟩
  case round =>
    clear H0
    obtain ⟨k, all, at_, Al, ca, A, c, hk, rfl, rfl, rfl, HP⟩ := hrel
    have b1 := HP.out.le
    have b2 := HP.out.most
    have b3 : all.length ≤ 1048576 := Nat.le_trans HP.out.sum (Nat.le_trans (lens_le _ _) HS.out)
    by_cases hlt : k < len
    · have hws : (Lit.int .i64 (xs.getD k z27).f0).wf = true := by
        have hkx : k < xs.length := by have := HL.out; omega
        rw [List.getD_eq_getElem?_getD, List.getElem?_eq_getElem hkx]
        exact (HW.out _ (List.getElem_mem hkx)).1
      have HT := Aside0.mk (lens_take xs k (by have := HL.out; omega))
      obtain ⟨ad, B, cb, rfl, hx0, hx1, _, hcb⟩ := at_op HC.out k hlt
      replace hx0 := pw_cell_below HP.out.below hx0
      replace hx1 := pw_cell_below HP.out.below hx1
      have HCB := Aside0.mk hcb
      clear hcb
      obtain ⟨x, hx⟩ : ∃ x, xs.getD k z27 = x := ⟨_, rfl⟩
      rw [hx] at hx0 hx1 HCB HT hws
      clear hx
      obtain ⟨N, Bs⟩ := x
      obtain ⟨m, hm⟩ : ∃ m, Bs.length = m := ⟨_, rfl⟩
      simp only at hx0 hx1 HCB HT hws
      rw [hm] at hx1 HCB HT
      have HM := Aside0.mk hm
      clear hm
      have HX := Aside0.mk (blk_new wr (.cells #[.int .i64 N, .slice B m cb] 27))
      have HP1 := Aside0.mk (HP.out.stay (below_alloc (Below.refl _ _) (.cells #[.int .i64 N, .slice B m cb] 27)))
      have hdl : (all.drop at_).length = all.length - at_ := List.length_drop
      have HDL := Aside0.mk hdl
      have hmb : m ≤ 1048576 := by have h2 := HS.out; have h3 := lens_le xs (k + 1); have h4 := HT.out; omega
      clear hdl
      by_cases hm0 : 0 < m
      · by_cases hbig : 65536 < all.length - at_ + m
        · go_wp2_with (go_at_call 8; refine (add_large _ _ _ _ _ _ _ HP1.out.tape _ _ _ (by rw [HDL.out]; exact b2) (by omega) (by rw [HDL.out]; exact hbig)).mono ?_; rintro e w' ⟨rfl, rfl⟩)
          go_roundw
          case rel => exact ⟨k + 1, all, at_, Al, ca, A, c, by omega, by go_num, rfl, rfl, ⟨HP.out.step (below_alloc (Below.refl _ _) _) (by rw [HT.out]; omega)⟩⟩
          case measure => simp [intOf]; omega
        · go_wp2_with fail
          refine (add_ok _ _ _ _ _ _ _ HP1.out.tape _ _ _ Bs (Kd.C_below HCB.out HP1.out.below) HP1.out.below.size (by rw [HDL.out]; omega)).mono ?_
          rintro e W2 ⟨A2, c2, rfl, ht2, hf2, hk2⟩
          have hx2 := hf2.blk HX.out (fun h => by have := (ts_lt HP.out.tape _ h).1; omega)
          have q0 := blk_cell hx2 0
          have q1 := blk_cell hx2 1
          have HR2 := R_fr1 HP1.out.row hf2 (fun b hb hts => HP1.out.apart b hts hb)
          clear hx2
          obtain ⟨v3, W3, hrun, hr3, hg3, hat3⟩ := R_append_row (P := Try.prog) (Value.int .u8) 0 W2 (w.heap.size + 1) 25 25 5 _ 1 Try.underlying25 info5 rfl (c := cb) (ys := Bs) HR2 (by rw [HM.out]; exact Kd.C_below HCB.out (HP1.out.below.trans (hf2.below HP1.out.below.size (fun b hb => (ts_lt HP1.out.tape b hb).2)))) (by rw [HM.out]; omega) (by omega) (by have := hf2.size; have := (HP1.out.below.size); have h5 := tp_lt HP1.out.tape; omega) (fun _ _ => trivial)
          obtain ⟨A3, c3, rfl⟩ := Kd.R_slice hr3
          have HP3 := Aside0.mk (HP1.out.added ht2 hf2 hk2 hr3 hg3 hat3 (by rw [HT.out, HM.out]) (by rw [HM.out]; omega))
          clear ht2 hf2 hk2 HR2 hr3 hg3 hat3
          rw [HM.out] at hrun
          have HRUN := Aside0.mk hrun
          clear hrun
          go_wp2_with (at_builtin; refine wpList_append_run rfl _ _ _ _ rfl rfl rfl HRUN.out ?_)
          go_roundw
          case rel => exact ⟨k + 1, all ++ Bs, at_, A3, c3, A2, c2, by omega, by go_num, rfl, by rw [List.length_append], HP3⟩
          case measure => simp [intOf]; omega
      · obtain rfl : m = 0 := by omega
        have hls : lens (xs.take k) ≤ lens (xs.take (k + 1)) := by rw [HT.out]; omega
        have HLS := Aside0.mk hls
        clear hls
        have hrem : ((all.drop at_).length : Int) = (all.length : Int) - at_ := by rw [HDL.out]; omega
        have HREM := Aside0.mk hrem
        clear hrem
        by_cases hneg : N < 0
        · go_wp2_with fail
          refine (take_no _ _ _ _ _ _ _ HP1.out.tape _ (.inl hneg)).mono ?_
          rintro e w' ⟨rfl, rfl⟩
          go_wp2_with (first | (go_at_call 10; refine (left_q _ _ _ _ _ _ _ HP1.out.tape ((all.length : Int) - at_) HREM.out).mono ?_; rintro e w' ⟨rfl, rfl⟩) | (go_at_call 11; refine (used_q _ _ _ _ _ _ _ HP1.out.tape (at_ : Int) rfl).mono ?_; rintro e w' ⟨rfl, rfl⟩))
          go_roundw
          case rel => exact ⟨k + 1, all, at_, Al, ca, A, c, by omega, by go_num, rfl, rfl, ⟨HP.out.step (below_alloc (Below.refl _ _) _) HLS.out⟩⟩
          case measure => simp [intOf]; omega
        · have hN0 : 0 ≤ N := by omega
          by_cases hfar : (all.length : Int) - at_ < N
          · go_wp2_with fail
            refine (take_no _ _ _ _ _ _ _ HP1.out.tape _ (.inr (by have := HREM.out; omega))).mono ?_
            rintro e w' ⟨rfl, rfl⟩
            go_wp2_with (first | (go_at_call 10; refine (left_q _ _ _ _ _ _ _ HP1.out.tape ((all.length : Int) - at_) HREM.out).mono ?_; rintro e w' ⟨rfl, rfl⟩) | (go_at_call 11; refine (used_q _ _ _ _ _ _ _ HP1.out.tape (at_ : Int) rfl).mono ?_; rintro e w' ⟨rfl, rfl⟩))
            go_roundw
            case rel => exact ⟨k + 1, all, at_, Al, ca, A, c, by omega, by go_num, rfl, rfl, ⟨HP.out.step (below_alloc (Below.refl _ _) _) HLS.out⟩⟩
            case measure => simp [intOf]; omega
          · obtain ⟨n, rfl⟩ := Int.eq_ofNat_of_zero_le hN0
            have hnle : n ≤ all.length - at_ := by omega
            clear hneg
            go_wp2_with fail
            refine (take_ok _ _ _ _ _ _ _ HP1.out.tape n (by rw [HDL.out]; exact hnle) (by rw [HDL.out]; exact b2) (by omega)).mono ?_
            rintro e W2 ⟨A2, c2, X, d2, rfl, ht2, hx2, hf2, hk2⟩
            have hbk := hf2.blk HX.out (fun h => by have := tp_lt HP.out.tape; omega)
            have q0 := blk_cell hbk 0
            have hlc : all.length ≤ ca := (Kd.R_reads' HP1.out.row).2.1
            have HP2 := Aside0.mk (HP1.out.took ht2 hf2 hk2 hnle HLS.out)
            have HX2 := Aside0.mk (R_C hx2)
            clear ht2 hx2 hf2 hk2 hbk
            obtain ⟨i5, hi5, _, hs5, _⟩ := info_parts info5
            have ks := mid_run (P := Try.prog) 25 5 Try.underlying25 hi5 hs5 Al all.length ca at_ (at_ + n) (by omega) (by omega) hlc
            rw [Nat.add_sub_cancel_left, Int.natCast_add] at ks
            have hmid := mid_C (enc := Value.int .u8) (0 : Int) ca at_ (at_ + n) (R_C HP2.out.row) (by omega) (by omega) hlc
            rw [Nat.add_sub_cancel_left] at hmid
            have HMID := Aside0.mk hmid
            clear hmid hlc
            have hc1 := fun M : After W2 => Kd.C_string (P := Try.prog) (c := d2) Try.underlying25 Try.underlying5 Try.underlying9 (Kd.C_below HX2.out M.below)
            have hc2 := fun M : After W2 => Kd.C_string (P := Try.prog) (c := ca - at_) Try.underlying25 Try.underlying5 Try.underlying9 (Kd.C_below HMID.out M.below)
            have q0' := fun M : After W2 => (M.below.cell (World.block_lt_of_cell? _ _ q0)).trans q0
            go_wp2_with fail
            have hwr : IntKind.i64.wrap ((at_ : Int) + n) = (at_ : Int) + n := IntWalk.i64_in _ (by omega)
            refine wp_region_after W2 (by kernel_rfl) (by kernel_rfl) (Below.refl _ _) ?_
            repeat (first | go_big_quiet_skip | (go_big_quiet_want; go_big_quiet_op; go_big_quiet_on))
            refine wpQuiet_nil ?_
            rintro _ ⟨M, rfl⟩
            have HP3 := Aside0.mk (HP2.out.stay M.below)
            have q0M := q0' M
            clear hwr ks hc1 hc2 q0' q0
            have hrem2 : (((all.drop (at_ + n)).length : Nat) : Int) = (all.length : Int) - ((at_ : Int) + n) := by rw [List.length_drop]; omega
            have HREM2 := Aside0.mk hrem2
            clear hrem2
            go_wp2_with (first | (go_at_call 10; refine (left_q _ _ _ _ _ _ _ HP3.out.tape ((all.length : Int) - ((at_ : Int) + n)) HREM2.out).mono ?_; rintro e w' ⟨rfl, rfl⟩) | (go_at_call 11; refine (used_q _ _ _ _ _ _ _ HP3.out.tape ((at_ : Int) + n) (Int.natCast_add _ _)).mono ?_; rintro e w' ⟨rfl, rfl⟩))
            go_roundw
            case rel => exact ⟨k + 1, all, at_ + n, Al, ca, A2, c2, by omega, by go_num, by go_num, rfl, HP3⟩
            case measure => simp [intOf]; omega
    · go_wp2_with (go_at_call 12; refine (answers_any _).mono ?_; rintro e w1 ⟨rfl, hb⟩; have HB := Aside0.mk hb; clear hb)
      go_ret
      exact ⟨rfl, HP.out.below.trans (HB.out.mono HP.out.below.size)⟩
end Go.Proofs.Yteikdlmejeonaaa

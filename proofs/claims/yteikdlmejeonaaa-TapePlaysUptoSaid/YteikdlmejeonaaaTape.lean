/- Tapes: the contracts of their functions. -/
import Derived.Test.YteikdlmejeonaaaBase
namespace Go.Proofs.Yteikdlmejeonaaa
open Go.RowKit Go.Proofs.YteikdlmejeonaaaW.PrintWords

theorem info5 : (Try.prog.info? 5).map (fun i => (i.zero, i.size, i.bytes)) = some (some (.int .u8 0), 1, 1) := by kernel_rfl

abbrev u8 : Kd Int := Kd.int .u8
/-- A tape: its block g, what is left, how many were used. -/
def Tp (w : World) (base g : Nat) (A : Option Addr) (c : Nat) (xs : List Int) (u : Nat) : Prop :=
  base ≤ g ∧ w.heap[g]? = some (.cells #[.slice A xs.length c, .int .i64 (u : Int)] 39 (0, 0)) ∧ Kd.Q u8 5 w base (fun _ => True) (.slice A xs.length c) xs
/-- What a call of a tape may turn. -/
def TS (g : Nat) (A : Option Addr) (k : Nat) : Prop := k = g ∨ ∃ a, A = some a ∧ k = a.block

theorem new_any (w : World) : Calls Try.prog 7 #[] w fun e w' => e = .returned (.pointer (some ⟨w.heap.size, 0, none⟩)) ∧ w' = w.alloc (.cells #[.slice none 0 0, .int .i64 0] 39) := by
  go_enter Try.func7, Try.ntmps7
  go_wp2
  go_ret
  exact ⟨rfl, rfl⟩
theorem tp_new (w : World) (base : Nat) (hb : base ≤ w.heap.size) : Tp (w.alloc (.cells #[.slice none 0 0, .int .i64 0] 39)) base w.heap.size none 0 [] 0 := ⟨hb, blk_new _ _, Kd.Q_nil _ _ _ _ _⟩
theorem tp_lt {w : World} {base g : Nat} {A : Option Addr} {c : Nat} {xs : List Int} {u : Nat} (h : Tp w base g A c xs u) : g < w.heap.size := blk_lt h.2.1
theorem ts_lt {w : World} {base g : Nat} {A : Option Addr} {c : Nat} {xs : List Int} {u : Nat} (h : Tp w base g A c xs u) : ∀ k, TS g A k → k < w.heap.size ∧ base ≤ k := by
  rintro k (rfl | ⟨a, rfl, rfl⟩)
  · exact ⟨tp_lt h, h.1⟩
  · exact ⟨Kd.Q_lt h.2.2 a.block (by simp [Value.ownBlock]), Kd.Q_base h.2.2 a.block (by simp [Value.ownBlock])⟩
theorem tp_fr {w w1 : World} {base g : Nat} {A : Option Addr} {c : Nat} {xs : List Int} {u : Nat} {S : Nat → Prop} (h : Tp w base g A c xs u) (hf : Fr S w w1) (hs : ∀ k, TS g A k → ¬ S k) : Tp w1 base g A c xs u := by
  refine ⟨h.1, hf.blk h.2.1 (hs g (.inl rfl)), ?_⟩
  refine Kd.Q_mono (Kd.Q_step (Kd.Q_tight rfl h.2.2) (fun k hk hlt => hf.block k hlt (hs k (.inr ?_)))) (fun _ _ => trivial)
  cases A with
  | none => simp [Value.ownBlock] at hk
  | some a => exact ⟨a, rfl, by simpa [Value.ownBlock] using hk⟩
theorem tp_drewN {w : World} {base g : Nat} {A : Option Addr} {c : Nat} {xs : List Int} {u : Nat} (h : Tp w base g A c xs u) (n : Nat) : Tp (w.drewN n) base g A c xs u :=
  tp_fr h ((Fr.refl (fun _ => False) w).drewN n) (fun _ _ h => h)

theorem left_any (w : World) (base g : Nat) (A : Option Addr) (c : Nat) (xs : List Int) (u : Nat) (h : Tp w base g A c xs u) :
    Calls Try.prog 10 #[.pointer (some ⟨g, 0, none⟩)] w fun e w' => e = .returned (.int .i64 xs.length) ∧ w = w' := by
  have h0 := blk_cell h.2.1 0
  clear h
  go_enter Try.func10, Try.ntmps10
  go_wp2
  go_ret
  exact ⟨rfl, rfl⟩
theorem used_any (w : World) (base g : Nat) (A : Option Addr) (c : Nat) (xs : List Int) (u : Nat) (h : Tp w base g A c xs u) :
    Calls Try.prog 11 #[.pointer (some ⟨g, 0, none⟩)] w fun e w' => e = .returned (.int .i64 u) ∧ w = w' := by
  have h0 := blk_cell h.2.1 1
  clear h
  go_enter Try.func11, Try.ntmps11
  go_wp2
  go_ret
  exact ⟨rfl, rfl⟩
theorem left_q (w : World) (base g : Nat) (A : Option Addr) (c : Nat) (xs : List Int) (u : Nat) (h : Tp w base g A c xs u) (q : Int) (hq : (xs.length : Int) = q) :
    Calls Try.prog 10 #[.pointer (some ⟨g, 0, none⟩)] w fun e w' => e = .returned (.int .i64 q) ∧ w = w' := hq ▸ left_any w base g A c xs u h
theorem used_q (w : World) (base g : Nat) (A : Option Addr) (c : Nat) (xs : List Int) (u : Nat) (h : Tp w base g A c xs u) (q : Int) (hq : (u : Int) = q) :
    Calls Try.prog 11 #[.pointer (some ⟨g, 0, none⟩)] w fun e w' => e = .returned (.int .i64 q) ∧ w = w' := hq ▸ used_any w base g A c xs u h
theorem add_large (w : World) (base g : Nat) (A : Option Addr) (c : Nat) (xs : List Int) (u : Nat) (h : Tp w base g A c xs u) (B : Option Addr) (n d : Nat) (hx : xs.length ≤ 65536) (hn : n ≤ 140737488355328) (hl : 65536 < xs.length + n) :
    Calls Try.prog 8 #[.pointer (some ⟨g, 0, none⟩), .slice B n d] w fun e w' => e = .returned (.int .i64 8) ∧ w = w' := by
  have h0 := blk_cell h.2.1 0
  clear h
  go_enter Try.func8, Try.ntmps8
  go_wp2
  go_ret
  exact ⟨rfl, rfl⟩
theorem own_ts (A : Option Addr) (g n c k : Nat) (h : (Value.slice A n c).ownBlock = some k) : TS g A k := by
  cases A with
  | none => simp [Value.ownBlock] at h
  | some a => exact .inr ⟨a, rfl, by simpa [Value.ownBlock] using h.symm⟩
theorem add_ok (w : World) (base g : Nat) (A : Option Addr) (c : Nat) (xs : List Int) (u : Nat) (h : Tp w base g A c xs u) (B : Option Addr) (n d : Nat) (ys : List Int) (hr : Kd.C u8 w B n ys) (hbase : base ≤ w.heap.size)
    (hx : xs.length + n ≤ 65536) :
    Calls Try.prog 8 #[.pointer (some ⟨g, 0, none⟩), .slice B n d] w fun e w' => ∃ A' c', e = .returned (.int .i64 0) ∧ Tp w' base g A' c' (xs ++ ys) u ∧ Fr (TS g A) w w' ∧ (∀ k, TS g A' k → TS g A k ∨ w.heap.size ≤ k) := by
  obtain rfl : ys.length = n := hr.1
  obtain ⟨v', w1, hrun, hq, hg, hat⟩ := Q_append_row (P := Try.prog) (Value.int .u8) 0 w base 25 25 5 _ 1 Try.underlying25 info5 rfl (c := d) h.2.2 hr (by omega) (by omega) hbase (fun _ _ => trivial)
  obtain ⟨A', c', rfl, hle⟩ := Kd.Q_slice hq
  have hne := Kd.Q_ne h.2.2 h.2.1 (by decide)
  have hb1 := blk_grown h.2.1 hg hne
  have h0 := blk_cell h.2.1 0
  have h1 := blk_cell hb1 0
  have hf := blk_frozen hb1 0
  have hb2 := blk_set hb1 0 (.slice A' (xs ++ ys).length c')
  have hq2 : Kd.Q u8 5 (w1.setCell ⟨g, 0, none⟩ (.slice A' (xs ++ ys).length c')) base (fun _ => True) (.slice A' (xs ++ ys).length c') (xs ++ ys) := Kd.Q_set hq hb1 (by decide) 0 _
  have hfr : Fr (TS g A) w (w1.setCell ⟨g, 0, none⟩ (.slice A' (xs ++ ys).length c')) := (Fr.of_grown hg (fun k hk => .inl (own_ts A g _ _ k hk))).set_ (p := ⟨g, 0, none⟩) (.inl (.inl rfl)) _
  have hat' : ∀ k, TS g A' k → TS g A k ∨ w.heap.size ≤ k := by
    rintro k (rfl | ⟨a, rfl, rfl⟩)
    · exact .inl (.inl rfl)
    · rcases hat with hat | ⟨b, hb, hle⟩
      · exact .inl (own_ts A g _ _ _ (hat.symm.trans (by simp [Value.ownBlock])))
      · have : a.block = b := by simpa [Value.ownBlock] using hb
        exact .inr (by omega)
  have hT : Tp (w1.setCell ⟨g, 0, none⟩ (.slice A' (xs ++ ys).length c')) base g A' c' (xs ++ ys) u := ⟨h.1, hb2, hq2⟩
  have HT := Aside0.mk (And.intro hT (And.intro hfr hat'))
  have HR := Aside0.mk hrun
  clear hT hfr hq hq2 hb1 hb2 hg hat hat' hne h hrun hr
  rw [List.length_append] at HT
  go_enter Try.func8, Try.ntmps8
  go_wp2_with (at_builtin; refine wpList_append_run rfl _ _ _ _ rfl rfl rfl HR.out ?_)
  go_ret
  exact ⟨A', c', rfl, HT.out.1, HT.out.2.1, HT.out.2.2⟩

/-- slices.Clone: new memory. -/
theorem clone_any (w : World) (A : Option Addr) (n c : Nat) (xs : List Int) (hr : Kd.C u8 w A n xs) (hc : A = none → c = 0) (hx : n ≤ 140737488355328) :
    Calls Try.prog 13 #[.slice A n c] w fun e w' => ∃ A' c', e = .returned (.slice A' n c') ∧ Kd.R u8 5 w' w.heap.size (fun _ => True) (.slice A' n c') xs ∧ Below w.heap.size w w' := by
  obtain rfl : xs.length = n := hr.1
  cases A with
  | none =>
    obtain rfl := hc rfl
    have hl : xs.length = 0 := by
      rcases Nat.eq_zero_or_pos xs.length with h | h
      · exact h
      · obtain ⟨ad, e, _⟩ := hr.2.2 h; cases e
    have hxs : xs = [] := List.eq_nil_of_length_eq_zero hl
    subst hxs
    have kq := fun W : World => Lib.run_eql_slice_nil (P := Try.prog) W 25 5 none 0 0 0 0 Try.underlying25
    go_enter Try.func13, Try.ntmps13
    go_wp2
    go_ret
    exact ⟨none, 0, rfl, Kd.R_nil _ _ _ _ _, Below.refl _ _⟩
  | some a =>
    have kq := fun W : World => Lib.run_eql_slice_nil (P := Try.prog) W 25 5 (some a) xs.length c 0 0 Try.underlying25
    obtain ⟨v', w1, hrun, hq, hg, hat⟩ := R_append_row (P := Try.prog) (Value.int .u8) 0 (w.alloc (.cells #[] 5)) w.heap.size 25 25 5 _ 1 Try.underlying25 info5 rfl (c := c) (R_empty u8 5 w w.heap.size (Nat.le_refl _)) (Kd.C_below hr (below_alloc (Below.refl _ _) _)) (by simp; omega) (by omega) (by simp) (fun _ _ => trivial)
    obtain ⟨A', c', rfl⟩ := Kd.R_slice hq
    rw [List.nil_append] at hrun hq
    have hb : Below w.heap.size w w1 := (below_alloc (Below.refl _ _) _).grown hg (by simp) (fun k hk => by have : k = w.heap.size := by simpa [Value.ownBlock] using hk.symm
                                                                                                            omega)
    have HT := Aside0.mk (And.intro hq hb)
    have HR := Aside0.mk hrun
    clear hrun hq hg hat hb hr
    go_enter Try.func13, Try.ntmps13
    go_wp2_with (at_builtin; refine wpList_append_run rfl _ _ _ _ rfl rfl rfl HR.out ?_)
    go_ret
    exact ⟨A', c', rfl, HT.out.1, HT.out.2⟩

theorem take_no (w : World) (base g : Nat) (A : Option Addr) (c : Nat) (xs : List Int) (u : Nat) (h : Tp w base g A c xs u) (n : Int) (hn : n < 0 ∨ (xs.length : Int) < n) :
    Calls Try.prog 9 #[.pointer (some ⟨g, 0, none⟩), .int .i64 n] w fun e w' => e = .returned (.tuple #[.slice none 0 0, .bool false]) ∧ w = w' := by
  have h0 := blk_cell h.2.1 0
  clear h
  rcases hn with hn | hn
  · go_enter Try.func9, Try.ntmps9
    go_wp2
    go_ret2
    exact ⟨rfl, rfl⟩
  · by_cases h1 : n < 0
    · go_enter Try.func9, Try.ntmps9
      go_wp2
      go_ret2
      exact ⟨rfl, rfl⟩
    · go_enter Try.func9, Try.ntmps9
      go_wp2
      go_ret2
      exact ⟨rfl, rfl⟩
theorem take_ok (w : World) (base g : Nat) (A : Option Addr) (c : Nat) (xs : List Int) (u : Nat) (h : Tp w base g A c xs u) (n : Nat) (hn : n ≤ xs.length) (hx : xs.length ≤ 65536) (hu : u + n ≤ 9223372036854775807) :
    Calls Try.prog 9 #[.pointer (some ⟨g, 0, none⟩), .int .i64 n] w fun e w' => ∃ A' c' B d, e = .returned (.tuple #[.slice B n d, .bool true]) ∧ Tp w' base g A' c' (xs.drop n) (u + n) ∧
      Kd.R u8 5 w' w.heap.size (fun _ => True) (.slice B n d) (xs.take n) ∧ Fr (fun k => k = g) w w' ∧ (∀ k, TS g A' k → TS g A k) := by
  obtain ⟨i, hi, hz, hs, hb⟩ := info_parts info5
  obtain ⟨_, hlc, hC⟩ := Kd.Q_reads' h.2.2
  have hlt : (xs.take n).length = n := by rw [List.length_take]; omega
  have hld : (xs.drop n).length = xs.length - n := List.length_drop
  have kt := cut_to (P := Try.prog) 25 5 .i64 Try.underlying25 hi A xs.length c (n : Int) (by omega) (by omega) hlc
  have kf0 := cut_from (P := Try.prog) 25 5 .i64 Try.underlying25 hi 1 hs A xs.length c (n : Int) (by omega) (by omega)
  have hqd := Kd.Q_drop (k := n) h.2.2 hn
  have hsz : u8.sz = 1 := rfl
  rw [hsz] at hqd
  simp only [Int.toNat_natCast] at kt kf0
  obtain ⟨A1, hA1⟩ : ∃ A1, (if c = n then A else A.map (·.add (n * 1))) = A1 := ⟨_, rfl⟩
  rw [hA1] at kf0 hqd
  have hqt := Kd.Q_reads' (Kd.Q_take (m := n) h.2.2 hn)
  have hqn := hqt.2.2
  rw [hlt] at hqn
  have hcl := clone_any w A n c (xs.take n) hqn (fun e => by
    subst e
    rcases h.2.2.2 with ⟨inner, hq, _⟩
    rcases hq.2 with ⟨_, B, he, _⟩ | ⟨g', off, cap, cur, he, _⟩
    · injection he
    · injection he with he; cases he) (by omega)
  have hts : ∀ k, TS g A1 k → TS g A k := by
    rintro k (rfl | ⟨a, ha, rfl⟩)
    · exact .inl rfl
    · refine .inr ?_
      rw [← hA1] at ha
      split at ha
      · exact ⟨a, ha, rfl⟩
      · cases A with
        | none => simp at ha
        | some b =>
          refine ⟨b, rfl, ?_⟩
          have : b.add (n * 1) = a := by simpa using ha
          rw [← this]
          unfold Addr.add
          split <;> rfl
  have h0 := blk_cell h.2.1 0
  have hnx : (n : Int) ≤ (xs.length : Int) := by omega
  have HD := Aside0.mk hld
  have HH := Aside0.mk (And.intro h (And.intro hqd hts))
  have HC := Aside0.mk hcl
  clear hcl hqn hqt hqd hts hA1 hsz hld hlt hC hlc h
  go_enter Try.func9, Try.ntmps9
  go_wp2_with fail
  refine HC.out.mono ?_
  rintro e w1 ⟨B, d, rfl, hR, hb⟩
  have hb1 := blk_below HH.out.1.2.1 hb
  have c0 := blk_cell hb1 0
  have c1 := blk_cell hb1 1
  have f0 := blk_frozen hb1 0
  have f1 := blk_frozen hb1 1
  have h1 := blk_set hb1 0 (.slice A1 (xs.length - n) (c - n))
  have h2 := blk_set h1 1 (.int .i64 ((u : Int) + n))
  have hq1 := Kd.Q_set (Kd.Q_below HH.out.2.1 hb) hb1 (by decide) 0 (.slice A1 (xs.length - n) (c - n))
  have hq2 := Kd.Q_set hq1 h1 (by decide) 1 (.int .i64 ((u : Int) + n))
  have hr1 := Kd.R_set hR hb1 (by decide) 0 (.slice A1 (xs.length - n) (c - n))
  have hr2 := Kd.R_set hr1 h1 (by decide) 1 (.int .i64 ((u : Int) + n))
  have hfr : Fr (fun k => k = g) w ((w1.setCell ⟨g, 0, none⟩ (.slice A1 (xs.length - n) (c - n))).setCell ⟨g, 1, none⟩ (.int .i64 ((u : Int) + n))) :=
    ((Fr.of_below hb (fun k => k = g)).set_ (p := ⟨g, 0, none⟩) (.inl rfl) _).set_ (p := ⟨g, 1, none⟩) (.inl rfl) _
  have hT : Tp ((w1.setCell ⟨g, 0, none⟩ (.slice A1 (xs.length - n) (c - n))).setCell ⟨g, 1, none⟩ (.int .i64 ((u : Int) + n))) base g A1 (c - n) (xs.drop n) (u + n) :=
    ⟨HH.out.1.1, by rw [HD.out, Int.natCast_add]; exact h2, by rw [HD.out]; exact hq2⟩
  have HT := Aside0.mk (And.intro hT (And.intro hr2 hfr))
  clear hT hr2 hr1 hq1 hq2 hfr h1 h2 hb1 hb hR
  go_wp2
  go_ret2
  exact ⟨A1, c - n, B, d, rfl, HT.out.1, HT.out.2.1, HT.out.2.2, HH.out.2.2⟩
end Go.Proofs.Yteikdlmejeonaaa

/- The printed functions of the script, as plain Lean functions: Hex, Dec. -/
import Derived.Test.YtbkhoepoeaiccaaDoorScrH
import Derived.Lib.LazyBuf
namespace Go.Proofs.YtbkhoepoeaiccaaDoor
open Go.RowKit Go.Shelf Go.Proofs.YtbkhoepoeaiccaaDoorW.PrintWords Go.Proofs.YtbkhoepoeaiccaaDoor.PScriptReads

theorem bt_dig : ∀ p : Fin 16, bt (⟨#[48, 49, 50, 51, 52, 53, 54, 55, 56, 57, 97, 98, 99, 100, 101, 102]⟩ : ByteArray) (p.val : Int) = ((hxD p.val).toNat : Int) := by decide +kernel
theorem and15 : ∀ y : Fin 256, Go.bits .and .u8 (y.val : Int) 15 = ((y.val % 16 : Nat) : Int) := by decide +kernel
theorem bl_append (a b : List UInt8) : bl (a ++ b) = bl a ++ bl b := by simp [bl]
theorem hex_l0 (l : List UInt8) (hl : l.length ≤ 1099511627776) : ∀ (m k i : Nat), m + i = l.length → m < k → script_Hex.l0 k (bl (hexL (l.take i))) (bl l) (l.length : Int) (i : Int) = some (strOfNums (bl (hexL l)))
  | 0, k + 1, i, hi, _ => by
    rw [script_Hex.l0, if_neg (by omega), List.take_of_length_le (by omega)]
  | m + 1, k + 1, i, hi, hk => by
    have hy : rd (bl l) (i : Int) = ((l.getD i 0).toNat : Int) := by
      unfold rd
      rw [Int.toNat_natCast, bl_get l i (by omega)]
    obtain ⟨y, hyy⟩ : ∃ y, y = l.getD i 0 := ⟨_, rfl⟩
    have hyl := y.toNat_lt
    rw [script_Hex.l0, if_pos (by omega), if_pos (by omega), if_pos (by rw [bl_length]; omega), hy, ← hyy, and15 ⟨y.toNat, hyl⟩]
    simp only []
    have hd := bt_dig ⟨y.toNat / 16, by omega⟩
    have hm := bt_dig ⟨y.toNat % 16, by omega⟩
    simp only at hd hm
    rw [show (y.toNat : Int) / 16 = ((y.toNat / 16 : Nat) : Int) by omega, if_pos (by omega), if_pos (by omega), if_pos (by omega), if_pos (by omega), hd, hm, Option.bind_some]
    have hlen : (bl (hexL (l.take i))).length = 2 * i := by
      rw [bl_length, hexL_length, List.length_take]; omega
    rw [if_pos (by rw [hlen]; simp only [List.length_cons, List.length_nil]; omega)]
    have hs := hexL_take l i (by omega)
    rw [← hyy] at hs
    have hw : wrap64 ((i : Int) + 1) = ((i + 1 : Nat) : Int) := by unfold wrap64; omega
    rw [hw, show bl (hexL (l.take i)) ++ [((hxD (y.toNat / 16)).toNat : Int), ((hxD (y.toNat % 16)).toNat : Int)] = bl (hexL (l.take (i + 1))) from by rw [hs, bl_append]; rfl]
    exact hex_l0 l hl m k (i + 1) (by omega) (by omega)
theorem PHex_any (w : World) (A : Option Addr) (n c : Nat) (l : List UInt8) (hC : Kd.C (Kd.int .u8) w A n (bl l)) (hc : n ≤ c) (hn : n ≤ 1099511627776) :
    Calls Tryd.prog 15 #[.slice A n c] w fun e w' => e = .returned (.string ⟨(hexL l).toArray⟩) ∧ Below w.heap.size w w' := by
  have hl : (bl l).length = n := Kd.C_len hC
  have hl' := hl
  rw [bl_length] at hl'
  have hf : script_Hex.f (n + 1) (bl l) = some (strOfNums (bl (hexL l))) := by
    unfold script_Hex.f
    rw [bl_length]
    exact hex_l0 l (by omega) n (n + 1) 0 (by omega) (by omega)
  have h := script_Hex.calls (n + 1) A c (bl l) _ w (by rw [hl]; exact hC) (by rw [hl]; exact hc) hf
  rw [hl] at h
  have hs : strOfNums (bl (hexL l)) = ⟨(hexL l).toArray⟩ := Lib.Lz.strOfNums_map (hexL l)
  rw [hs] at h
  exact h
/-! ### Decimal numerals -/
theorem str_one (d : Nat) (h : d < 10) : strOfNums [((48 + d : Nat) : Int)] = ⟨[UInt8.ofNat (48 + d)].toArray⟩ := by
  have h1 := Lib.Lz.strOfNums_map [UInt8.ofNat (48 + d)]
  rw [List.map_cons, List.map_nil, dg_toNat d h] at h1
  exact h1
theorem app_str (a b : List UInt8) : (⟨a.toArray⟩ : ByteArray) ++ (⟨b.toArray⟩ : ByteArray) = ⟨(a ++ b).toArray⟩ := by
  refine str_of _ _ ?_
  rw [ByteArray.data_append, Array.toList_append]
theorem size_str (a : List UInt8) : (⟨a.toArray⟩ : ByteArray).size = a.length := by
  show a.toArray.size = _
  simp
theorem up_l0 : ∀ (k u : Nat) (acc : List UInt8), u < 18446744073709551616 → u < 10 ^ (k + 1) → acc.length + k ≤ 1000 → shamrockref25_up.l0 (k + 1) (u : Int) ⟨acc.toArray⟩ = some ⟨(Lib.decDigits u ++ acc).toArray⟩ := by
  intro k
  induction k with
  | zero =>
    intro u acc h1 h2 h3
    have h : u < 10 := by simpa using h2
    rw [shamrockref25_up.l0, if_neg (by omega), Option.bind_some, show (IntKind.u64.wrap (48 + (u : Int))) % 256 = ((48 + u : Nat) : Int) from by rw [IntKind.wrap_u64]; omega, str_one u h, size_str, size_str, if_pos (by simp only [List.length_cons, List.length_nil]; omega), app_str, decDigits_small h]
  | succ k ih =>
    intro u acc h1 h2 h3
    rw [shamrockref25_up.l0]
    by_cases h : u < 10
    · rw [if_neg (by omega), Option.bind_some, show (IntKind.u64.wrap (48 + (u : Int))) % 256 = ((48 + u : Nat) : Int) from by rw [IntKind.wrap_u64]; omega, str_one u h, size_str, size_str, if_pos (by simp only [List.length_cons, List.length_nil]; omega), app_str, decDigits_small h]
    · rw [Nat.pow_succ] at h2
      rw [if_pos (by omega), Option.bind_some, show (IntKind.u64.wrap (48 + Int.tmod (u : Int) 10)) % 256 = ((48 + u % 10 : Nat) : Int) from by rw [IntKind.wrap_u64, Int.tmod_eq_emod_of_nonneg (by omega)]; omega, str_one _ (by omega), size_str, size_str, if_pos (by simp only [List.length_cons, List.length_nil]; omega), app_str, show IntKind.u64.wrap (Int.tdiv (u : Int) 10) = ((u / 10 : Nat) : Int) from by rw [IntKind.wrap_u64, Int.tdiv_eq_ediv_of_nonneg (by omega)]; omega, ih (u / 10) _ (by omega) (by omega) (by simp only [List.length_append, List.length_cons, List.length_nil]; omega), decDigits_big h, List.append_assoc]
theorem up_f (u : Nat) (h : u < 18446744073709551616) : shamrockref25_up.f 21 (u : Int) = some ⟨(Lib.decDigits u).toArray⟩ := by
  have h1 := up_l0 20 u [] h (by omega) (by simp)
  rw [List.append_nil] at h1
  exact h1
theorem dec_f (n : Int) (h : I64 n) : shamrockref25_Dec.f 21 n = some ⟨(Lib.itoa n).toArray⟩ := by
  obtain ⟨h1, h2⟩ := h
  unfold shamrockref25_Dec.f
  by_cases hn : 0 ≤ n
  · rw [if_pos hn, show IntKind.u64.wrap n = ((n.toNat : Nat) : Int) from by rw [IntKind.wrap_u64]; omega, up_f _ (by omega), Option.bind_some, itoa_pos hn]
  · have e1 : wrap64 (n + 1) = n + 1 := by unfold wrap64; omega
    have e2 : wrap64 (-(n + 1)) = -(n + 1) := by unfold wrap64; omega
    rw [if_neg hn, e1, e2, show IntKind.u64.wrap (IntKind.u64.wrap (-(n + 1)) + 1) = ((n.natAbs : Nat) : Int) from by rw [IntKind.wrap_u64, IntKind.wrap_u64]; omega, up_f _ (by omega), Option.bind_some, itoa_neg (by omega), size_str]
    have hl := dec_len n.natAbs (by omega)
    rw [if_pos (by omega)]
    exact congrArg some (app_str [45] _)
theorem RDec_any (w : World) (n : Int) (h : I64 n) : Calls Tryd.prog 32 #[.int .i64 n] w fun e w' => e = .returned (.string ⟨(Lib.itoa n).toArray⟩) ∧ Below w.heap.size w w' :=
  shamrockref25_Dec.calls 21 n _ w (dec_f n h)
/-! ### Numbers read -/
theorem bt_get (s : ByteArray) (i : Nat) (h : i < s.size) : bt s (i : Int) = ((s.data.toList.getD i 0).toNat : Int) := by
  unfold bt
  rw [dif_pos (by rw [Int.toNat_natCast]; exact h)]
  simp only [Int.toNat_natCast]
  congr 2
  rw [List.getD_eq_getElem?_getD, Array.getElem?_toList]
  rw [Array.getElem?_eq_getElem (by exact h)]
  rfl
/-- What a number's loop makes of the digits that are left. -/
def numEnd (frm : Nat) (most : Nat) : Option Nat → Int × Bool
  | none => (0, false)
  | some v => if most < v then (0, false) else if frm = 1 then (-(v : Int), true) else ((v : Int), true)
theorem num_l0 (s : ByteArray) (frm most : Nat) (hm : most ≤ 9223372036854775808) (hm1 : frm ≠ 1 → most ≤ 9223372036854775807) (hz : frm = 1 → ∀ v, decV 0 (s.data.toList.drop 1) = some v → 1 ≤ v) (hsz : s.size ≤ 1000) :
    ∀ (r : Nat) (k i acc : Nat), r + i = s.size → r < k → acc < 10 ^ (19 - r) → r ≤ 19 → (frm = 1 → decV acc (s.data.toList.drop i) = decV 0 (s.data.toList.drop 1)) → shamrockref25_number.l0 k s (frm : Int) (most : Int) (acc : Int) (i : Int) = some (numEnd frm most (decV acc (s.data.toList.drop i)))
  | 0, k + 1, i, acc, hi, _, ha, _, hd => by
    have hsl : s.data.toList.length = s.size := by rw [Array.length_toList]; rfl
    have ha' : acc < 10000000000000000000 := by simpa using ha
    have hdr : s.data.toList.drop i = [] := List.drop_of_length_le (by omega)
    rw [hdr] at hd ⊢
    rw [shamrockref25_number.l0, if_neg (by omega), decV]
    unfold numEnd
    simp only []
    by_cases h1 : most < acc
    · rw [if_pos (by omega), if_pos h1]
    · rw [if_neg (by omega), if_neg h1]
      by_cases h2 : frm = 1
      · have hv := hz h2 acc (by rw [← hd h2]; rfl)
        rw [if_pos (by omega), if_pos h2]
        rw [show IntKind.u64.wrap ((acc : Int) - 1) = (acc : Int) - 1 from by rw [IntKind.wrap_u64]; omega, show wrap64 ((acc : Int) - 1) = (acc : Int) - 1 from by unfold wrap64; omega, show wrap64 (-((acc : Int) - 1)) = -((acc : Int) - 1) from by unfold wrap64; omega, show wrap64 (-((acc : Int) - 1) - 1) = -(acc : Int) from by unfold wrap64; omega]
      · have := hm1 h2
        rw [if_neg (by omega), if_neg h2, show wrap64 (acc : Int) = (acc : Int) from by unfold wrap64; omega]
  | r + 1, k + 1, i, acc, hi, hk, ha, hr, hd => by
    have hsl : s.data.toList.length = s.size := by rw [Array.length_toList]; rfl
    obtain ⟨c, hc⟩ : ∃ c, c = s.data.toList.getD i 0 := ⟨_, rfl⟩
    have hdr : s.data.toList.drop i = c :: s.data.toList.drop (i + 1) := by
      rw [List.drop_eq_getElem_cons (by omega), hc, List.getD_eq_getElem?_getD, List.getElem?_eq_getElem (by omega)]
      rfl
    rw [shamrockref25_number.l0, if_pos (by omega), if_pos (by omega), bt_get s i (by omega), ← hc]
    rw [hdr] at hd ⊢
    rw [decV] at hd ⊢
    by_cases h1 : 48 ≤ c.toNat ∧ c.toNat ≤ 57
    · rw [if_pos h1] at hd ⊢
      have hp : 10 ^ (19 - r) = 10 ^ (19 - (r + 1)) * 10 := by rw [← Nat.pow_succ]; congr 1; omega
      have hp2 : 10 ^ (19 - r) ≤ 10 ^ 19 := Nat.pow_le_pow_right (by decide) (by omega)
      have ha2 : acc * 10 + (c.toNat - 48) < 10 ^ (19 - r) := by rw [hp]; omega
      rw [if_neg (by omega), if_neg (by omega), show IntKind.u64.wrap ((acc : Int) * 10) = (acc : Int) * 10 from by rw [IntKind.wrap_u64]; omega, show ((c.toNat : Int) - 48) % 256 = ((c.toNat - 48 : Nat) : Int) from by omega, show IntKind.u64.wrap ((acc : Int) * 10 + ((c.toNat - 48 : Nat) : Int)) = ((acc * 10 + (c.toNat - 48) : Nat) : Int) from by rw [IntKind.wrap_u64]; omega, show wrap64 ((i : Int) + 1) = ((i + 1 : Nat) : Int) from by unfold wrap64; omega]
      exact num_l0 s frm most hm hm1 hz hsz r k (i + 1) _ (by omega) (by omega) ha2 (by omega) hd
    · rw [if_neg h1]
      by_cases h2 : c.toNat < 48
      · rw [if_pos (by omega)]; rfl
      · rw [if_neg (by omega), if_pos (by omega)]; rfl
def numAns : Option Int → Int × Bool
  | none => (0, false)
  | some v => (v, true)
theorem numEnd_ans (frm most : Nat) (o : Option Nat) : numEnd frm most o = numAns (match o with | none => none | some v => if most < v then none else some (if frm = 1 then -(v : Int) else v)) := by
  cases o with
  | none => rfl
  | some v =>
    unfold numEnd
    simp only []
    by_cases h : most < v
    · rw [if_pos h, if_pos h]; rfl
    · rw [if_neg h, if_neg h]
      by_cases h2 : frm = 1
      · rw [if_pos h2, if_pos h2]; rfl
      · rw [if_neg h2, if_neg h2]; rfl
theorem num_pos (v : Nat) (r : List UInt8) (h : decV 0 r = some v) (h0 : r.head? ≠ some 48) (hne : r ≠ []) : 1 ≤ v := by
  have hr := dec_of_val r.length r rfl hne (fun c t e e0 => by
    exfalso
    apply h0
    rw [e]
    show some c = some 48
    congr 1
    exact UInt8.toNat_inj.1 e0) v h
  rcases Nat.eq_zero_or_pos v with h1 | h1
  · rw [h1, decDigits_small (by decide)] at hr
    exact absurd (by rw [hr]; rfl) h0
  · exact h1
theorem num_j1 (s : ByteArray) (l : List UInt8) (hs : s.data.toList = l) (htl : s.toList = l) (frm most : Nat) (hfm : (frm = 1 ∧ most = 9223372036854775808 ∧ l.head? = some 45) ∨ (frm = 0 ∧ most = 9223372036854775807 ∧ l.head? ≠ some 45)) (k : Nat) (hk : 30 ≤ k) (hb : s.size ≤ 1099511627776) :
    shamrockref25_number.j1 (k + 2) s (frm : Int) (most : Int) = some (numAns (numL l)) := by
  have hsl : l.length = s.size := by rw [← hs, Array.length_toList]; rfl
  have hfl : frm ≤ l.length := by
    rcases hfm with ⟨h1, _, h2⟩ | ⟨h1, _⟩
    · cases l with
      | nil => cases h2
      | cons c t => simp [h1]
    · omega
  obtain ⟨r, hr⟩ : ∃ r, r = l.drop frm := ⟨_, rfl⟩
  have hrl : r.length + frm = l.length := by rw [hr, List.length_drop]; omega
  have hnum : numL l = if r = [] ∨ 19 < r.length ∨ (r.head? = some 48 ∧ l ≠ [48]) then none else (match decV 0 r with | none => none | some v => if most < v then none else some (if frm = 1 then -(v : Int) else v)) := by
    unfold numL
    rcases hfm with ⟨h1, h2, h3⟩ | ⟨h1, h2, h3⟩
    · have : r = l.tail := by rw [hr, h1, List.drop_one]
      simp only [h3, if_true, ← this, h1, h2]
      rfl
    · have : r = l := by rw [hr, h1, List.drop_zero]
      subst h1 h2
      rw [this]
      simp only [if_neg h3]
      rfl
  rw [hnum, shamrockref25_number.j1]
  by_cases c1 : r = []
  · have : r.length = 0 := by rw [c1]; rfl
    rw [if_pos (by omega), if_pos (.inl c1), shamrockref25_number.j2, if_pos rfl]; rfl
  · have hr1 : 1 ≤ r.length := by
      rcases Nat.eq_zero_or_pos r.length with h | h
      · exact absurd (List.eq_nil_of_length_eq_zero h) c1
      · exact h
    have hw : wrap64 ((s.size : Int) - (frm : Int)) = (r.length : Int) := by unfold wrap64; omega
    rw [if_neg (by omega), hw]
    by_cases c2 : 19 < r.length
    · rw [if_pos (by omega), if_pos (.inr (.inl c2)), shamrockref25_number.j2, if_pos rfl]; rfl
    · have hh : r.head? = some (l.getD frm 0) := by
        rw [hr, List.head?_drop, List.getElem?_eq_getElem (by omega), List.getD_eq_getElem?_getD, List.getElem?_eq_getElem (by omega)]; rfl
      have hl0 : (r.head? ≠ some 48 ∨ l = [48]) → shamrockref25_number.l0 (k) s (frm : Int) (most : Int) 0 (frm : Int) = some (numEnd frm most (decV 0 r)) := fun h48 => by
        have := num_l0 s frm most (by rcases hfm with ⟨_, h, _⟩ | ⟨_, h, _⟩ <;> omega) (fun h => by rcases hfm with ⟨h1, _⟩ | ⟨_, h1, _⟩ <;> omega)
          (fun h v hv => by
            rw [hs, ← h, ← hr] at hv
            rcases h48 with h4 | h4
            · exact num_pos v r hv h4 c1
            · exfalso
              rcases hfm with ⟨_, _, h5⟩ | ⟨h5, _⟩
              · rw [h4] at h5; injection h5 with h5; exact absurd h5 (by decide)
              · omega) (by omega) r.length k frm 0 (by omega) (by omega) (Nat.lt_of_lt_of_le Nat.zero_lt_one (Nat.one_le_pow _ _ (by decide))) (by omega) (fun h => by rw [hs, h])
        rw [hs, ← hr] at this
        exact this
      rw [if_neg (by omega), if_pos (by omega), if_pos (by omega), bt_get s frm (by omega), hs]
      obtain ⟨c, hc⟩ : ∃ c, c = l.getD frm 0 := ⟨_, rfl⟩
      rw [← hc] at hh ⊢
      by_cases c3 : c.toNat = 48
      · have c4 : c = 48 := UInt8.toNat_inj.1 c3
        rw [if_pos (by omega), htl]
        by_cases c5 : l = [48]
        · rw [c5]
          rw [c5] at hl0
          rw [if_neg (by rintro (h | h | h); exact c1 h; omega; exact h.2 rfl), shamrockref25_number.j2, if_neg (by decide), hl0 (.inr rfl), numEnd_ans]
        · rw [if_pos (.inr (.inr ⟨by rw [hh, c4], c5⟩)), shamrockref25_number.j2, if_pos (by simpa using c5)]; rfl
      · have h48 : r.head? ≠ some 48 := fun e => by rw [hh] at e; injection e with e; rw [e] at c3; exact c3 rfl
        rw [if_neg (by omega), if_neg (by rintro (h | h | h); exact c1 h; omega; exact h48 h.1), shamrockref25_number.j2, if_neg (by decide), hl0 (.inl h48), numEnd_ans]
theorem number_f (s : ByteArray) (hb : s.size ≤ 1099511627776) : shamrockref25_number.f 40 s = some (numAns (numL s.data.toList)) := by
  obtain ⟨l, hl⟩ : ∃ l, l = s.data.toList := ⟨_, rfl⟩
  have hsl : l.length = s.size := by rw [hl, Array.length_toList]; rfl
  have htl : s.toList = l := by rw [ByteArray.toList_eq, hl]
  rw [← hl]
  unfold shamrockref25_number.f
  by_cases h0 : s.size = 0
  · rw [if_neg (by omega), shamrockref25_number.j0, if_neg (by decide)]
    exact num_j1 s l hl.symm htl 0 9223372036854775807 (.inr ⟨rfl, rfl, fun h => by rw [List.eq_nil_of_length_eq_zero (by omega : l.length = 0)] at h; cases h⟩) 37 (by decide) hb
  · rw [if_pos (by omega), if_pos (by omega), shamrockref25_number.j0]
    have hh : l.head? = some (l.getD 0 0) := by
      cases l with
      | nil => exact absurd hsl.symm h0
      | cons c t => rfl
    have hbt := bt_get s 0 (by omega)
    rw [← hl] at hbt
    rw [show ((0 : Nat) : Int) = 0 from rfl] at hbt
    rw [hbt]
    by_cases h1 : l.getD 0 0 = 45
    · rw [h1, if_pos (by decide)]
      exact num_j1 s l hl.symm htl 1 9223372036854775808 (.inl ⟨rfl, rfl, by rw [hh, h1]⟩) 37 (by decide) hb
    · rw [if_neg (by
        intro e
        apply h1
        have e1 := of_decide_eq_true (p := _ = _) (by simpa using e : decide (((l.getD 0 0).toNat : Int) = 45) = true)
        exact UInt8.toNat_inj.1 (by show (l.getD 0 0).toNat = 45; omega))]
      exact num_j1 s l hl.symm htl 0 9223372036854775807 (.inr ⟨rfl, rfl, fun h => by rw [hh] at h; injection h with h; exact h1 h⟩) 37 (by decide) hb
theorem RNumber_any (w : World) (s : ByteArray) (hb : s.size ≤ 1099511627776) : Calls Tryd.prog 23 #[.string s] w fun e w' => e = .returned (.tuple #[.int .i64 (numAns (numL s.data.toList)).1, .bool (numAns (numL s.data.toList)).2]) ∧ Drawn0 w w' :=
  shamrockref25_number.calls 40 s _ _ w (number_f s hb)
/-! ### Digits read -/
def digI (c : UInt8) : Int := match digV c with
  | some v => (v : Int)
  | none => -1
theorem digit_17 : ∀ c : Fin 256, shamrockref25_digit.f 17 (c.val : Int) = some (digI (UInt8.ofNat c.val)) := by decide +kernel
theorem digit_ge (c : UInt8) : ∀ j, shamrockref25_digit.f (17 + j) (c.toNat : Int) = some (digI c)
  | 0 => by
    have h := digit_17 ⟨c.toNat, c.toNat_lt⟩
    simp only [UInt8.ofNat_toNat] at h
    exact h
  | j + 1 => shamrockref25_digit.mono _ _ _ (digit_ge c j)
def bytesAns : Option (List UInt8) → List Int × Bool
  | none => ([], false)
  | some t => (bl t, true)
theorem bytes_l0 (s : ByteArray) (hb : s.size ≤ 1099511627776) : ∀ (r k i : Nat) (out : List UInt8), 2 * r + i = s.size → r + 17 < k → out.length ≤ i → shamrockref25_bytes.l0 k s (bl out) (i : Int) = some (bytesAns ((unhexL (s.data.toList.drop i)).map (out ++ ·)))
  | 0, k + 1, i, out, hi, _, _ => by
    have hsl : s.data.toList.length = s.size := by rw [Array.length_toList]; rfl
    rw [shamrockref25_bytes.l0, if_neg (by omega), List.drop_of_length_le (by omega), unhexL, Option.map_some, List.append_nil]
    rfl
  | r + 1, k + 1, i, out, hi, hk, ho => by
    have hsl : s.data.toList.length = s.size := by rw [Array.length_toList]; rfl
    obtain ⟨a, ha⟩ : ∃ a, a = s.data.toList.getD i 0 := ⟨_, rfl⟩
    obtain ⟨b, hb'⟩ : ∃ b, b = s.data.toList.getD (i + 1) 0 := ⟨_, rfl⟩
    have hdr : s.data.toList.drop i = a :: b :: s.data.toList.drop (i + 2) := by
      rw [List.drop_eq_getElem_cons (by omega), List.drop_eq_getElem_cons (by omega), ha, hb', List.getD_eq_getElem?_getD, List.getD_eq_getElem?_getD, List.getElem?_eq_getElem (by omega), List.getElem?_eq_getElem (by omega)]
      rfl
    have hw1 : wrap64 ((i : Int) + 1) = ((i + 1 : Nat) : Int) := by unfold wrap64; omega
    have hw2 : wrap64 ((i : Int) + 2) = ((i + 2 : Nat) : Int) := by unfold wrap64; omega
    have hda := digit_ge a (k - 17)
    have hdb := digit_ge b (k - 17)
    rw [show 17 + (k - 17) = k by omega] at hda hdb
    rw [shamrockref25_bytes.l0, if_pos (by omega), if_pos (by omega), bt_get s i (by omega), ← ha, hda, Option.bind_some, hw1, if_pos (by omega), if_pos (by omega), bt_get s (i + 1) (by omega), ← hb', hdb, Option.bind_some, hdr, unhexL]
    cases h1 : digV a with
    | none =>
      rw [show digI a = -1 from by unfold digI; rw [h1], if_pos (by decide)]
      rfl
    | some x =>
      have hx := digV_lt h1
      rw [show digI a = (x : Int) from by unfold digI; rw [h1], if_neg (by omega)]
      cases h2 : digV b with
      | none =>
        rw [show digI b = -1 from by unfold digI; rw [h2], if_pos (by decide)]
        rfl
      | some y =>
        have hy := digV_lt h2
        rw [show digI b = (y : Int) from by unfold digI; rw [h2], if_neg (by omega), if_pos (by rw [bl_length]; omega), hw2,
          show bl out ++ [wrap64 (wrap64 ((x : Int) * 16) + (y : Int)) % 256] = bl (out ++ [UInt8.ofNat (x * 16 + y)]) from by
            rw [bl_append]
            congr 1
            show [_] = [((UInt8.ofNat (x * 16 + y)).toNat : Int)]
            rw [UInt8.toNat_ofNat', Nat.mod_eq_of_lt (by omega), show wrap64 ((x : Int) * 16) = (x : Int) * 16 from by unfold wrap64; omega, show wrap64 ((x : Int) * 16 + (y : Int)) = (x : Int) * 16 + (y : Int) from by unfold wrap64; omega]
            congr 1
            omega]
        rw [bytes_l0 s hb r k (i + 2) _ (by omega) (by omega) (by simp only [List.length_append, List.length_cons, List.length_nil]; omega)]
        congr 2
        simp only []
        cases unhexL (s.data.toList.drop (i + 2)) with
        | none => rfl
        | some t => simp
theorem unhex_odd : ∀ (l : List UInt8), l.length % 2 = 1 → unhexL l = none
  | [], h => by simp at h
  | [_], _ => rfl
  | a :: b :: r, h => by
    rw [unhexL, unhex_odd r (by simp only [List.length_cons] at h; omega)]
    cases digV a with
    | none => rfl
    | some x => cases digV b <;> rfl
theorem bytes_f (s : ByteArray) (c : UInt8) (hb : s.size ≤ 1099511627776) : shamrockref25_bytes.f (s.size + 40) s (c.toNat : Int) = some (bytesAns (bytesL s.data.toList c)) := by
  have hsl : s.data.toList.length = s.size := by rw [Array.length_toList]; rfl
  unfold shamrockref25_bytes.f
  by_cases h0 : s.size % 2 = 1
  · rw [if_pos (by omega), if_pos (by omega), shamrockref25_bytes.j0]
    have hbt := bt_get s 0 (by omega)
    rw [show ((0 : Nat) : Int) = 0 from rfl] at hbt
    rw [hbt]
    cases hl : s.data.toList with
    | nil => rw [hl] at hsl; simp at hsl; omega
    | cons d t =>
      rw [List.getD_cons_zero]
      unfold bytesL
      simp only []
      by_cases h1 : d = c
      · rw [h1, if_neg (by simp), if_pos rfl]
        have h2 := bytes_l0 s hb (s.size / 2) (s.size + 39) 1 [] (by omega) (by omega) (by simp)
        rw [hl] at h2
        rw [show bl [] = ([] : List Int) from rfl, show ((1 : Nat) : Int) = 1 from rfl, List.drop_succ_cons, List.drop_zero] at h2
        rw [h2]
        cases unhexL t <;> rfl
      · rw [if_pos (by
          have : d.toNat ≠ c.toNat := fun e => h1 (UInt8.toNat_inj.1 e)
          simp only [bne_iff_ne, ne_eq]
          omega), if_neg h1]
        rfl
  · rw [if_neg (by omega), shamrockref25_bytes.j0, if_pos rfl]
    cases hl : s.data.toList with
    | nil => rfl
    | cons d t =>
      unfold bytesL
      simp only []
      rw [hl] at hsl
      have := unhex_odd t (by simp only [List.length_cons] at hsl; omega)
      rw [this]
      split <;> rfl
theorem RBytes_any (w : World) (s : ByteArray) (c : UInt8) (hb : s.size ≤ 1099511627776) : Calls Tryd.prog 24 #[.string s, .int .u8 (c.toNat : Int)] w fun e w' => ∃ v : Value, e = .returned (.tuple #[v, .bool (bytesAns (bytesL s.data.toList c)).2]) ∧ Kd.R (Kd.int .u8) 5 w' w.heap.size (fun _ => True) v (bytesAns (bytesL s.data.toList c)).1 ∧ Below w.heap.size w w' :=
  shamrockref25_bytes.calls (s.size + 40) s _ _ _ w (bytes_f s c hb)
theorem index_dig_all : ∀ c : Fin 256, Lib.indexByte [48, 49, 50, 51, 52, 53, 54, 55, 56, 57, 97, 98, 99, 100, 101, 102] (UInt8.ofNat c.val) = digI (UInt8.ofNat c.val) := by decide +kernel
theorem index_dig (c : UInt8) : Lib.indexByte [48, 49, 50, 51, 52, 53, 54, 55, 56, 57, 97, 98, 99, 100, 101, 102] c = digI c := by
  have h := index_dig_all ⟨c.toNat, c.toNat_lt⟩
  simp only [UInt8.ofNat_toNat] at h
  exact h
theorem or_dig : ∀ a b : Fin 16, Go.bits .or .i64 ((a.val : Int) * 16) (b.val : Int) = ((a.val * 16 + b.val : Nat) : Int) := by decide +kernel
end Go.Proofs.YtbkhoepoeaiccaaDoor

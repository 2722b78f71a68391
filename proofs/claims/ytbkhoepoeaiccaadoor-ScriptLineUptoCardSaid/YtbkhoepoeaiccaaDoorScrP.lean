/- Steps as text: plain Lean, no program in sight: hexadecimal digits, decimal numerals, words, lines; a text that is read is just the text of what was read. -/
import Derived.Lib.AtoiAll
import Derived.Lib.AtoiBound
import Derived.Lib.ItoaNum
import Derived.Lib.ItoaLen
import Derived.Lib.Bytealg
import Derived.Lib.Join
namespace Go.Proofs.YtbkhoepoeaiccaaDoor
open Go

/-! ### Hexadecimal digits -/
def digits16 : List UInt8 := [48, 49, 50, 51, 52, 53, 54, 55, 56, 57, 97, 98, 99, 100, 101, 102]
def hxD (n : Nat) : UInt8 := digits16.getD n 0
def hexL (l : List UInt8) : List UInt8 := l.flatMap fun c => [hxD (c.toNat / 16), hxD (c.toNat % 16)]
theorem hexL_nil : hexL [] = [] := rfl
theorem hexL_cons (c : UInt8) (l : List UInt8) : hexL (c :: l) = hxD (c.toNat / 16) :: hxD (c.toNat % 16) :: hexL l := rfl
theorem hexL_append (a b : List UInt8) : hexL (a ++ b) = hexL a ++ hexL b := by simp [hexL]
theorem hexL_length (l : List UInt8) : (hexL l).length = 2 * l.length := by
  induction l with
  | nil => rfl
  | cons c l ih => rw [hexL_cons]; simp only [List.length_cons, ih]; omega
/-- A digit's value. -/
def digV (c : UInt8) : Option Nat :=
  if 48 ≤ c.toNat ∧ c.toNat ≤ 57 then some (c.toNat - 48) else if 97 ≤ c.toNat ∧ c.toNat ≤ 102 then some (c.toNat - 87) else none
theorem digV_lt {c : UInt8} {v : Nat} (h : digV c = some v) : v < 16 := by
  unfold digV at h
  split at h
  · injection h with h; omega
  · split at h
    · injection h with h; omega
    · cases h
theorem digV_hx : ∀ n, n < 16 → digV (hxD n) = some n := by decide
theorem hx_digV_all : ∀ n : Fin 256, (digV (UInt8.ofNat n.val)).all (fun v => hxD v == UInt8.ofNat n.val) = true := by decide +kernel
theorem hx_digV {c : UInt8} {v : Nat} (h : digV c = some v) : hxD v = c := by
  have h2 := hx_digV_all ⟨c.toNat, c.toNat_lt⟩
  simp only [UInt8.ofNat_toNat] at h2
  rw [h] at h2
  simpa using h2
/-- Digits as bytes. -/
def unhexL : List UInt8 → Option (List UInt8)
  | [] => some []
  | [_] => none
  | a :: b :: r => match digV a, digV b with
    | some x, some y => (unhexL r).map (UInt8.ofNat (x * 16 + y) :: ·)
    | _, _ => none
theorem unhex_hex : ∀ l, unhexL (hexL l) = some l
  | [] => rfl
  | c :: l => by
    have hc := c.toNat_lt
    rw [hexL_cons, unhexL, digV_hx _ (by omega), digV_hx _ (by omega)]
    simp only [unhex_hex l, Option.map_some]
    rw [show c.toNat / 16 * 16 + c.toNat % 16 = c.toNat by omega, UInt8.ofNat_toNat]
theorem hex_unhex : ∀ (s l : List UInt8), unhexL s = some l → s = hexL l
  | [], l, h => by injection h with h; subst h; rfl
  | [_], l, h => by cases h
  | a :: b :: r, l, h => by
    rw [unhexL] at h
    cases ha : digV a with
    | none => rw [ha] at h; cases h
    | some x =>
      cases hb : digV b with
      | none => rw [ha, hb] at h; cases h
      | some y =>
        rw [ha, hb] at h
        simp only at h
        cases hr : unhexL r with
        | none => rw [hr] at h; cases h
        | some t =>
          rw [hr] at h
          injection h with h
          subst h
          have h1 := digV_lt ha
          have h2 := digV_lt hb
          have h3 := hex_unhex r t hr
          rw [hexL_cons, UInt8.toNat_ofNat', Nat.mod_eq_of_lt (by omega), show (x * 16 + y) / 16 = x by omega, show (x * 16 + y) % 16 = y by omega, hx_digV ha, hx_digV hb, ← h3]
/-- Digits behind a letter. -/
def bytesL (s : List UInt8) (letter : UInt8) : Option (List UInt8) := match s with
  | [] => none
  | c :: r => if c = letter then unhexL r else none
theorem bytesL_iff (s : List UInt8) (letter : UInt8) (l : List UInt8) : bytesL s letter = some l ↔ s = letter :: hexL l := by
  constructor
  · intro h
    cases s with
    | nil => cases h
    | cons c r =>
      unfold bytesL at h
      simp only at h
      split at h
      · rename_i e
        rw [e, hex_unhex r l h]
      · cases h
  · rintro rfl
    unfold bytesL
    simp only [if_true]
    exact unhex_hex l

/-! ### Words -/
def splitL (c : UInt8) : List UInt8 → List (List UInt8)
  | [] => [[]]
  | x :: l => if x = c then [] :: splitL c l else match splitL c l with
    | [] => [[x]]
    | w :: ws => (x :: w) :: ws
theorem splitL_ne (c : UInt8) (l : List UInt8) : splitL c l ≠ [] := by
  cases l with
  | nil => simp [splitL]
  | cons x l =>
    unfold splitL
    split
    · simp
    · split <;> simp
theorem splitL_join (c : UInt8) (l : List UInt8) : Lib.join (splitL c l) [c] = l := by
  induction l with
  | nil => simp [splitL, Lib.join_one]
  | cons x l ih =>
    unfold splitL
    have hne := splitL_ne c l
    cases h : splitL c l with
    | nil => exact absurd h hne
    | cons w ws =>
      rw [h] at ih
      split
      · rename_i e
        rw [Lib.join_cons, Lib.joinTail, List.map_cons, List.flatten_cons, List.nil_append, List.cons_append, List.cons_append, List.nil_append, ← Lib.joinTail, ← Lib.join_cons, ih, e]
      · rw [Lib.join_cons] at ih ⊢
        rw [List.cons_append, ih]
theorem splitL_free (c : UInt8) (w : List UInt8) (h : c ∉ w) : splitL c w = [w] := by
  induction w with
  | nil => rfl
  | cons x w ih =>
    unfold splitL
    rw [if_neg (fun e => h (by rw [e]; exact List.mem_cons_self ..)), ih (fun e => h (List.mem_cons_of_mem _ e))]
theorem splitL_cons (c : UInt8) (w l : List UInt8) (h : c ∉ w) : splitL c (w ++ c :: l) = w :: splitL c l := by
  induction w with
  | nil => rw [List.nil_append, splitL, if_pos rfl]
  | cons x w ih =>
    rw [List.cons_append, splitL, if_neg (fun e => h (by rw [e]; exact List.mem_cons_self ..)), ih (fun e => h (List.mem_cons_of_mem _ e))]

/-! ### Decimal numerals -/
/-- A numeral's digits. -/
def decV (acc : Nat) : List UInt8 → Option Nat
  | [] => some acc
  | c :: r => if 48 ≤ c.toNat ∧ c.toNat ≤ 57 then decV (acc * 10 + (c.toNat - 48)) r else none
theorem decV_append (a b : List UInt8) (acc : Nat) : decV acc (a ++ b) = (decV acc a).bind fun v => decV v b := by
  induction a generalizing acc with
  | nil => rfl
  | cons c a ih =>
    rw [List.cons_append, decV, decV]
    split
    · exact ih _
    · rfl
theorem decDigits_big {u : Nat} (h : ¬ u < 10) : Lib.decDigits u = Lib.decDigits (u / 10) ++ [UInt8.ofNat (48 + u % 10)] := by rw [Lib.decDigits, dif_neg h]
theorem decDigits_small {u : Nat} (h : u < 10) : Lib.decDigits u = [UInt8.ofNat (48 + u)] := by rw [Lib.decDigits, dif_pos h]
theorem dg_toNat (u : Nat) (h : u < 10) : (UInt8.ofNat (48 + u)).toNat = 48 + u := by rw [UInt8.toNat_ofNat', Nat.mod_eq_of_lt (by omega)]
theorem decV_one (acc u : Nat) (h : u < 10) : decV acc [UInt8.ofNat (48 + u)] = some (acc * 10 + u) := by
  rw [decV, dg_toNat u h, if_pos (by omega), decV, show 48 + u - 48 = u by omega]
theorem decV_dec (u : Nat) : decV 0 (Lib.decDigits u) = some u := by
  induction u using Nat.strongRecOn with
  | _ u ih =>
    by_cases h : u < 10
    · rw [decDigits_small h, decV_one 0 u h]; simp
    · rw [decDigits_big h, decV_append, ih (u / 10) (by omega)]
      show decV (u / 10) _ = _
      rw [decV_one _ _ (by omega)]
      congr 1
      omega
theorem dec_ne (u : Nat) : Lib.decDigits u ≠ [] := by
  by_cases h : u < 10
  · rw [decDigits_small h]; simp
  · rw [decDigits_big h]; simp
/-- The first digit is no 0, but of 0. -/
theorem dec_head (u : Nat) : ∀ c r, Lib.decDigits u = c :: r → 48 ≤ c.toNat ∧ c.toNat ≤ 57 ∧ (c.toNat = 48 → u = 0) := by
  induction u using Nat.strongRecOn with
  | _ u ih =>
    intro c r e
    by_cases h : u < 10
    · rw [decDigits_small h] at e
      injection e with e1 _
      rw [← e1, dg_toNat u h]
      omega
    · rw [decDigits_big h] at e
      cases hd : Lib.decDigits (u / 10) with
      | nil => exact absurd hd (dec_ne _)
      | cons c' r' =>
        rw [hd, List.cons_append] at e
        injection e with e1 _
        have h1 := ih (u / 10) (by omega) c' r' hd
        rw [← e1]
        exact ⟨h1.1, h1.2.1, fun h2 => by have := h1.2.2 h2; omega⟩
theorem dec_all (u : Nat) : ∀ c ∈ Lib.decDigits u, 48 ≤ c.toNat ∧ c.toNat ≤ 57 := by
  induction u using Nat.strongRecOn with
  | _ u ih =>
    by_cases h : u < 10
    · rw [decDigits_small h]
      intro c hc
      rw [List.mem_singleton.1 hc, dg_toNat u h]
      omega
    · rw [decDigits_big h]
      intro c hc
      rcases List.mem_append.1 hc with h1 | h1
      · exact ih _ (by omega) c h1
      · rw [List.mem_singleton.1 h1, dg_toNat _ (by omega)]
        omega
/-- A numeral without a leading 0 is just its number's. -/
theorem decV_snoc (l : List UInt8) (c : UInt8) (acc v : Nat) (h : decV acc (l ++ [c]) = some v) : ∃ u, decV acc l = some u ∧ 48 ≤ c.toNat ∧ c.toNat ≤ 57 ∧ v = u * 10 + (c.toNat - 48) := by
  rw [decV_append] at h
  cases e : decV acc l with
  | none => rw [e] at h; cases h
  | some u =>
    rw [e] at h
    change decV u [c] = some v at h
    rw [decV] at h
    split at h
    · rename_i hc
      rw [decV] at h
      injection h with h
      exact ⟨u, rfl, hc.1, hc.2, h.symm⟩
    · cases h
theorem dec_of_val : ∀ (n : Nat) (l : List UInt8), l.length = n → l ≠ [] → (∀ c r, l = c :: r → c.toNat = 48 → r = []) → ∀ v, decV 0 l = some v → l = Lib.decDigits v
  | 0, l, hl, hne, _, _, _ => absurd (List.eq_nil_of_length_eq_zero hl) hne
  | n + 1, l, hl, hne, hz, v, hv => by
    obtain ⟨p, c, rfl⟩ : ∃ p c, l = p ++ [c] := ⟨l.dropLast, l.getLast hne, (List.dropLast_concat_getLast hne).symm⟩
    obtain ⟨u, hu, hc1, hc2, hvu⟩ := decV_snoc p c 0 v hv
    have hco : ∀ d, d < 10 → d = c.toNat - 48 → UInt8.ofNat (48 + d) = c := fun d hd e => by
      rw [e, show 48 + (c.toNat - 48) = c.toNat by omega, UInt8.ofNat_toNat]
    by_cases hp : p = []
    · subst hp
      injection hu with hu
      rw [decDigits_small (by omega), hco v (by omega) (by omega)]
      rfl
    · have hpl : p.length = n := by simpa using hl
      have ih := dec_of_val n p hpl hp (fun c' r' e h0 => by
        subst e
        have h1 := hz c' (r' ++ [c]) rfl h0
        simp at h1) u hu
      have hu0 : u ≠ 0 := by
        intro e
        cases hpd : p with
        | nil => exact hp hpd
        | cons c' r' =>
          rw [e, decDigits_small (by decide)] at ih
          rw [hpd] at ih
          injection ih with i1 i2
          have h0 : c'.toNat = 48 := by rw [i1]; rfl
          have h1 := hz c' (r' ++ [c]) (by rw [hpd]; rfl) h0
          simp at h1
      rw [decDigits_big (by omega), hco (v % 10) (by omega) (by omega), show v / 10 = u by omega, ← ih]
/-- An int. -/
def I64 (n : Int) : Prop := -9223372036854775808 ≤ n ∧ n ≤ 9223372036854775807
/-- A text's number, as the document has it: the text is just the number's. -/
def numL (s : List UInt8) : Option Int :=
  let neg := s.head? = some 45
  let r := if neg then s.tail else s
  if r = [] ∨ 19 < r.length ∨ (r.head? = some 48 ∧ s ≠ [48]) then none else match decV 0 r with
    | none => none
    | some v => if (if neg then 9223372036854775808 else 9223372036854775807) < v then none else some (if neg then -(v : Int) else v)
theorem itoa_neg {n : Int} (h : n < 0) : Lib.itoa n = 45 :: Lib.decDigits n.natAbs := by unfold Lib.itoa; rw [if_pos h]
theorem itoa_pos {n : Int} (h : 0 ≤ n) : Lib.itoa n = Lib.decDigits n.toNat := by unfold Lib.itoa; rw [if_neg (by omega)]
theorem parse_dec : ∀ (l : List UInt8) (acc v : Nat), decV acc l = some v → v < 18446744073709551616 → Lib.parseUint10 acc l = .ok v
  | [], acc, v, h, _ => by injection h with h; rw [h]; rfl
  | c :: r, acc, v, h, hv => by
    rw [decV] at h
    split at h
    · rename_i hc
      have hge : ∀ (l : List UInt8) (a v : Nat), decV a l = some v → a ≤ v := by
        intro l
        induction l with
        | nil => intro a v h; injection h with h; omega
        | cons c l ih =>
          intro a v h
          rw [decV] at h
          split at h
          · have := ih _ _ h; omega
          · cases h
      have h1 := hge r _ _ h
      rw [Lib.parseUint10, if_pos hc, if_neg (by omega), if_neg (by omega)]
      exact parse_dec r _ v h hv
    · cases h
theorem atoi_itoa {n : Int} (h : I64 n) : Lib.atoiAll (Lib.itoa n) = .ok n := by
  obtain ⟨h1, h2⟩ := h
  by_cases hn : n < 0
  · rw [itoa_neg hn, Lib.atoiAll]
    have hp : Lib.parseMag (Lib.decDigits n.natAbs) = .ok n.natAbs := by
      unfold Lib.parseMag
      rw [if_neg (dec_ne _)]
      exact parse_dec _ 0 _ (decV_dec _) (by omega)
    simp only [show (45 : UInt8).toNat = 45 from rfl, or_true, if_true, hp, not_true, false_and, if_false, true_and]
    rw [if_neg (by omega)]
    congr 1
    omega
  · rw [itoa_pos (by omega)]
    cases e : Lib.decDigits n.toNat with
    | nil => exact absurd e (dec_ne _)
    | cons c r =>
      have hc := dec_head _ c r e
      have hp : Lib.parseMag (c :: r) = .ok n.toNat := by
        unfold Lib.parseMag
        rw [if_neg (by simp)]
        exact parse_dec _ 0 _ (by rw [← e]; exact decV_dec _) (by omega)
      rw [Lib.atoiAll]
      rw [if_neg (by omega), hp]
      simp only []
      rw [if_neg (by omega), if_neg (by omega), if_neg (by omega)]
      congr 1
      omega
theorem dec_len (u : Nat) (h : u < 10000000000000000000) : (Lib.decDigits u).length ≤ 19 := by
  rw [Lib.decDigits_length]
  by_cases h0 : u = 0
  · rw [h0, Lib.nDigits_small (by decide)]; decide
  · by_cases h1 : Lib.nDigits u ≤ 19
    · exact h1
    · exfalso
      have hlow : ∀ (k : Nat) (u : Nat), Lib.nDigits u = k + 1 → u ≠ 0 → 10 ^ k ≤ u := by
        intro k
        induction k with
        | zero => intro u _ hu; simp; omega
        | succ k ih =>
          intro u hk hu
          have hb : ¬ u < 10 := fun e => by rw [Lib.nDigits_small e] at hk; omega
          rw [Lib.nDigits_big hb] at hk
          have := ih (u / 10) (by omega) (by omega)
          rw [Nat.pow_succ]
          omega
      have h2 := hlow (Lib.nDigits u - 1) u (by omega) h0
      have h3 : 10 ^ 19 ≤ 10 ^ (Lib.nDigits u - 1) := Nat.pow_le_pow_right (by decide) (by omega)
      omega
theorem numL_itoa {n : Int} (h : I64 n) : numL (Lib.itoa n) = some n := by
  obtain ⟨h1, h2⟩ := h
  by_cases hn : n < 0
  · rw [itoa_neg hn]
    unfold numL
    have hl := dec_len n.natAbs (by omega)
    have hh : (Lib.decDigits n.natAbs).head? ≠ some 48 := fun e => by
      cases hd : Lib.decDigits n.natAbs with
      | nil => rw [hd] at e; cases e
      | cons c r =>
        rw [hd] at e
        injection e with e
        have h3 := (dec_head _ c r hd).2.2 (by rw [e]; rfl)
        omega
    simp only [List.head?_cons, if_true, List.tail_cons]
    rw [if_neg (by rintro (h | h | h); exact dec_ne _ h; omega; exact hh h.1), decV_dec]
    simp only []
    rw [if_neg (by omega)]
    congr 1
    omega
  · rw [itoa_pos (by omega)]
    unfold numL
    have hl := dec_len n.toNat (by omega)
    have hh : (Lib.decDigits n.toNat).head? ≠ some 45 := fun e => by
      cases hd : Lib.decDigits n.toNat with
      | nil => rw [hd] at e; cases e
      | cons c r =>
        rw [hd] at e
        injection e with e
        have h3 := (dec_head _ c r hd).1
        rw [e] at h3
        exact absurd h3 (by decide)
    have h0 : (Lib.decDigits n.toNat).head? = some 48 → Lib.decDigits n.toNat = [48] := fun e => by
      cases hd : Lib.decDigits n.toNat with
      | nil => rw [hd] at e; cases e
      | cons c r =>
        rw [hd] at e
        injection e with e
        have h3 := (dec_head _ c r hd).2.2 (by rw [e]; rfl)
        rw [← hd, h3, decDigits_small (by decide)]
        rfl
    simp only [if_neg hh]
    rw [if_neg (by rintro (h | h | h); exact dec_ne _ h; omega; exact h.2 (h0 h.1)), decV_dec]
    simp only []
    rw [if_neg (by omega)]
    congr 1
    omega
theorem numL_iff (s : List UInt8) (n : Int) : numL s = some n ↔ I64 n ∧ s = Lib.itoa n := by
  constructor
  · intro h
    unfold numL at h
    by_cases hs : s.head? = some 45
    · obtain ⟨r, rfl⟩ : ∃ r, s = 45 :: r := by
        cases s with
        | nil => cases hs
        | cons c r => injection hs with hs; exact ⟨r, by rw [hs]⟩
      simp only [List.head?_cons, if_true, List.tail_cons] at h
      split at h
      · cases h
      · rename_i hc
        cases hd : decV 0 r with
        | none => rw [hd] at h; cases h
        | some v =>
          rw [hd] at h
          simp only at h
          split at h
          · cases h
          · rename_i hv
            injection h with h
            have hne : r ≠ [] := fun e => hc (.inl e)
            have hr := dec_of_val r.length r rfl hne (fun c t e e0 => by
              exfalso
              refine hc (.inr (.inr ⟨?_, ?_⟩))
              · rw [e]
                show some c = some 48
                congr 1
                exact UInt8.toNat_inj.1 e0
              · intro e1; injection e1 with e1 _; exact absurd e1 (by decide)) v hd
            have hv0 : v ≠ 0 := fun e => by
              rw [e, decDigits_small (by decide)] at hr
              exact hc (.inr (.inr ⟨by rw [hr]; rfl, fun e1 => by injection e1 with e1 _; exact absurd e1 (by decide)⟩))
            refine ⟨⟨by omega, by omega⟩, ?_⟩
            rw [← h, itoa_neg (by omega), show (-(v : Int)).natAbs = v by omega, ← hr]
    · simp only [if_neg hs] at h
      split at h
      · cases h
      · rename_i hc
        cases hd : decV 0 s with
        | none => rw [hd] at h; cases h
        | some v =>
          rw [hd] at h
          simp only at h
          split at h
          · cases h
          · rename_i hv
            injection h with h
            have hne : s ≠ [] := fun e => hc (.inl e)
            have hr := dec_of_val s.length s rfl hne (fun c t e e0 => by
              by_cases e1 : s = [48]
              · rw [e1] at e; injection e with _ e2; exact e2.symm
              · exfalso
                refine hc (.inr (.inr ⟨?_, e1⟩))
                rw [e]
                show some c = some 48
                congr 1
                exact UInt8.toNat_inj.1 e0) v hd
            refine ⟨⟨by omega, by omega⟩, ?_⟩
            rw [← h, itoa_pos (by omega), Int.toNat_natCast, ← hr]
  · rintro ⟨h, rfl⟩
    exact numL_itoa h

/-! ### Lines -/
structure St where
  kind : Int
  a : Int
  b : Int
  c : Int
  id : List UInt8
  data : List UInt8
def St.wf (x : St) : Prop := I64 x.kind ∧ I64 x.a ∧ I64 x.b ∧ I64 x.c
def wordsL (x : St) : List (List UInt8) := [Lib.itoa x.kind, Lib.itoa x.a, Lib.itoa x.b, Lib.itoa x.c, 105 :: hexL x.id, 120 :: hexL x.data]
/-- A line, without its end. -/
def bareL (x : St) : List UInt8 := Lib.join (wordsL x) [32]
def lineL (x : St) : List UInt8 := bareL x ++ [10]
theorem itoa_all (n : Int) : ∀ c ∈ Lib.itoa n, c.toNat = 45 ∨ (48 ≤ c.toNat ∧ c.toNat ≤ 57) := by
  intro c hc
  unfold Lib.itoa at hc
  split at hc
  · rcases List.mem_cons.1 hc with h | h
    · exact .inl (by rw [h]; rfl)
    · exact .inr (dec_all _ c h)
  · exact .inr (dec_all _ c hc)
theorem hx_all : ∀ n, n < 16 → 48 ≤ (hxD n).toNat ∧ (hxD n).toNat ≤ 102 := by decide
theorem hex_all (l : List UInt8) : ∀ c ∈ hexL l, 48 ≤ c.toNat ∧ c.toNat ≤ 102 := by
  induction l with
  | nil => intro c hc; cases hc
  | cons x l ih =>
    have hx := x.toNat_lt
    intro c hc
    rw [hexL_cons] at hc
    rcases List.mem_cons.1 hc with h | hc
    · rw [h]; exact hx_all _ (by omega)
    · rcases List.mem_cons.1 hc with h | hc
      · rw [h]; exact hx_all _ (by omega)
      · exact ih c hc
theorem words_all (x : St) : ∀ w ∈ wordsL x, ∀ c ∈ w, 45 ≤ c.toNat := by
  intro w hw c hc
  simp only [wordsL, List.mem_cons, List.not_mem_nil, or_false] at hw
  rcases hw with rfl | rfl | rfl | rfl | rfl | rfl
  · rcases itoa_all _ c hc with h | h <;> omega
  · rcases itoa_all _ c hc with h | h <;> omega
  · rcases itoa_all _ c hc with h | h <;> omega
  · rcases itoa_all _ c hc with h | h <;> omega
  · rcases List.mem_cons.1 hc with h | h
    · rw [h]; decide
    · have := hex_all _ c h; omega
  · rcases List.mem_cons.1 hc with h | h
    · rw [h]; decide
    · have := hex_all _ c h; omega
theorem words_free (x : St) (d : UInt8) (hd : d.toNat < 45) : ∀ w ∈ wordsL x, d ∉ w := fun w hw h => by
  have := words_all x w hw d h
  omega
theorem split_join (d : UInt8) : ∀ (ws : List (List UInt8)), ws ≠ [] → (∀ w ∈ ws, d ∉ w) → splitL d (Lib.join ws [d]) = ws
  | [], h, _ => absurd rfl h
  | [w], _, h => by rw [Lib.join_one]; exact splitL_free d w (h w (List.mem_cons_self ..))
  | w :: v :: ws, _, h => by
    have h1 := split_join d (v :: ws) (by simp) (fun u hu => h u (List.mem_cons_of_mem _ hu))
    rw [Lib.join_cons, Lib.joinTail, List.map_cons, List.flatten_cons, List.cons_append, List.nil_append, List.cons_append, ← Lib.joinTail, ← Lib.join_cons, splitL_cons d w _ (h w (List.mem_cons_self ..)), h1]
theorem split_bare (x : St) : splitL 32 (bareL x) = wordsL x := split_join 32 (wordsL x) (by simp [wordsL]) (words_free x 32 (by decide))
theorem bare_free (x : St) : (10 : UInt8) ∉ bareL x := by
  unfold bareL
  have : ∀ (ws : List (List UInt8)), (∀ w ∈ ws, (10 : UInt8) ∉ w) → (10 : UInt8) ∉ Lib.join ws [32] := by
    intro ws
    induction ws with
    | nil => intro _ h; cases h
    | cons w ws ih =>
      intro hw h
      rw [Lib.join_cons] at h
      rcases List.mem_append.1 h with h1 | h1
      · exact hw w (List.mem_cons_self ..) h1
      · unfold Lib.joinTail at h1
        obtain ⟨t, ht, hm⟩ := List.mem_flatten.1 h1
        obtain ⟨u, hu, rfl⟩ := List.mem_map.1 ht
        rcases List.mem_append.1 hm with h2 | h2
        · rw [List.mem_singleton] at h2; exact absurd h2 (by decide)
        · exact hw u (List.mem_cons_of_mem _ hu) h2
  exact this _ (words_free x 10 (by decide))
/-- The step of a line, by the document. -/
def readL (s : List UInt8) : Option St := match splitL 32 s with
  | [w0, w1, w2, w3, w4, w5] => match numL w0, numL w1, numL w2, numL w3, bytesL w4 105, bytesL w5 120 with
    | some k, some a, some b, some c, some i, some d => some ⟨k, a, b, c, i, d⟩
    | _, _, _, _, _, _ => none
  | _ => none
theorem readL_bare (x : St) (h : x.wf) : readL (bareL x) = some x := by
  obtain ⟨h1, h2, h3, h4⟩ := h
  unfold readL
  rw [split_bare]
  unfold wordsL
  simp only [numL_itoa h1, numL_itoa h2, numL_itoa h3, numL_itoa h4, (bytesL_iff _ _ _).2 rfl]
theorem readL_some (s : List UInt8) (x : St) (h : readL s = some x) : x.wf ∧ s = bareL x := by
  unfold readL at h
  split at h
  · rename_i w0 w1 w2 w3 w4 w5 hw
    split at h
    · rename_i k a b c i d e0 e1 e2 e3 e4 e5
      injection h with h
      subst h
      have j := splitL_join 32 s
      rw [hw] at j
      have n0 := (numL_iff _ _).1 e0
      have n1 := (numL_iff _ _).1 e1
      have n2 := (numL_iff _ _).1 e2
      have n3 := (numL_iff _ _).1 e3
      refine ⟨⟨n0.1, n1.1, n2.1, n3.1⟩, ?_⟩
      rw [← j, bareL, wordsL, n0.2, n1.2, n2.2, n3.2, (bytesL_iff _ _ _).1 e4, (bytesL_iff _ _ _).1 e5]
    · cases h
  · cases h
theorem readL_iff (s : List UInt8) (x : St) : readL s = some x ↔ x.wf ∧ s = bareL x :=
  ⟨readL_some s x, fun h => by rw [h.2]; exact readL_bare x h.1⟩

/-! ### Texts -/
def printL (l : List St) : List UInt8 := l.flatMap lineL
theorem printL_nil : printL [] = [] := rfl
theorem printL_cons (x : St) (l : List St) : printL (x :: l) = bareL x ++ 10 :: printL l := by
  show lineL x ++ printL l = _
  rw [lineL, List.append_assoc]; rfl
theorem printL_append (a b : List St) : printL (a ++ b) = printL a ++ printL b := by simp [printL]
theorem printL_snoc (a : List St) (x : St) : printL (a ++ [x]) = printL a ++ (bareL x ++ [10]) := by rw [printL_append, printL_cons, printL_nil]
def AllWf (l : List St) : Prop := ∀ x ∈ l, x.wf
/-- A text whose first line is none. -/
def Stuck (t : List UInt8) : Prop := (∃ s r, t = s ++ 10 :: r ∧ (10 : UInt8) ∉ s ∧ readL s = none) ∨ (t ≠ [] ∧ (10 : UInt8) ∉ t)
/-- What a text's steps are (number 0), or which line is none first. -/
def Parsed (full : List UInt8) (out : List St) (k : Nat) : Prop :=
  (k = 0 ∧ full = printL out ∧ AllWf out) ∨ (∃ pre t, full = printL pre ++ t ∧ AllWf pre ∧ k = pre.length + 1 ∧ out = [] ∧ Stuck t)
theorem cut_unique {s s' r r' : List UInt8} (h : (10 : UInt8) ∉ s) (h' : (10 : UInt8) ∉ s') (e : s ++ 10 :: r = s' ++ 10 :: r') : s = s' ∧ r = r' := by
  induction s generalizing s' with
  | nil =>
    cases s' with
    | nil => injection e with _ e; exact ⟨rfl, e⟩
    | cons c s' => injection e with e1 _; exact absurd (by rw [← e1]; exact List.mem_cons_self ..) h'
  | cons c s ih =>
    cases s' with
    | nil => injection e with e1 _; exact absurd (by rw [e1]; exact List.mem_cons_self ..) h
    | cons c' s' =>
      injection e with e1 e2
      obtain ⟨h1, h2⟩ := ih (fun m => h (List.mem_cons_of_mem _ m)) (fun m => h' (List.mem_cons_of_mem _ m)) e2
      exact ⟨by rw [e1, h1], h2⟩
theorem bare_inj {x y : St} (hx : x.wf) (hy : y.wf) (e : bareL x = bareL y) : x = y := by
  have h1 := readL_bare x hx
  rw [e, readL_bare y hy] at h1
  injection h1 with h1
  exact h1.symm
theorem stuck_print {x : St} {l : List St} {t : List UInt8} (hx : x.wf) (h : Stuck t) (e : t = bareL x ++ 10 :: l.flatMap lineL ∨ ∃ r, t = bareL x ++ 10 :: r) : False := by
  obtain ⟨r, e⟩ : ∃ r, t = bareL x ++ 10 :: r := by
    rcases e with e | e
    · exact ⟨_, e⟩
    · exact e
  rcases h with ⟨s, r', e', hs, hn⟩ | ⟨_, hn⟩
  · obtain ⟨h1, _⟩ := cut_unique hs (bare_free x) (e'.symm.trans e)
    rw [h1, readL_bare x hx] at hn
    cases hn
  · exact hn (by rw [e]; simp)
theorem parsed_unique_pre : ∀ (pre pre' : List St) (t t' : List UInt8), AllWf pre → AllWf pre' → (t = [] ∨ Stuck t) → (t' = [] ∨ Stuck t') → printL pre ++ t = printL pre' ++ t' → pre = pre' ∧ t = t'
  | [], [], t, t', _, _, _, _, e => ⟨rfl, e⟩
  | [], x :: l, t, t', _, h', ht, _, e => by
    exfalso
    rw [printL_nil, List.nil_append, printL_cons, List.append_assoc, List.cons_append] at e
    rcases ht with ht | ht
    · rw [ht] at e; simp at e
    · exact stuck_print (l := []) (h' x (List.mem_cons_self ..)) ht (.inr ⟨_, e⟩)
  | x :: l, [], t, t', h, _, _, ht', e => by
    exfalso
    rw [printL_nil, List.nil_append, printL_cons, List.append_assoc, List.cons_append] at e
    rcases ht' with ht | ht
    · rw [ht] at e; simp at e
    · exact stuck_print (l := []) (h x (List.mem_cons_self ..)) ht (.inr ⟨_, e.symm⟩)
  | x :: l, y :: m, t, t', h, h', ht, ht', e => by
    rw [printL_cons, printL_cons, List.append_assoc, List.append_assoc, List.cons_append, List.cons_append] at e
    obtain ⟨h1, h2⟩ := cut_unique (bare_free x) (bare_free y) e
    obtain ⟨h3, h4⟩ := parsed_unique_pre l m t t' (fun z hz => h z (List.mem_cons_of_mem _ hz)) (fun z hz => h' z (List.mem_cons_of_mem _ hz)) ht ht' h2
    exact ⟨by rw [bare_inj (h x (List.mem_cons_self ..)) (h' y (List.mem_cons_self ..)) h1, h3], h4⟩
theorem stuck_ne {t : List UInt8} (h : Stuck t) : t ≠ [] := by
  rintro rfl
  rcases h with ⟨s, r, e, _⟩ | ⟨h, _⟩
  · simp at e
  · exact h rfl
theorem parsed_unique {full : List UInt8} {out out' : List St} {k k' : Nat} (h : Parsed full out k) (h' : Parsed full out' k') : out = out' ∧ k = k' := by
  rcases h with ⟨rfl, e, hw⟩ | ⟨pre, t, e, hw, rfl, rfl, hs⟩
  · rcases h' with ⟨rfl, e', hw'⟩ | ⟨pre', t', e', hw', rfl, rfl, hs'⟩
    · have h1 := parsed_unique_pre out out' [] [] hw hw' (.inl rfl) (.inl rfl) (by rw [List.append_nil, List.append_nil, ← e, e'])
      exact ⟨h1.1, rfl⟩
    · have h1 := parsed_unique_pre out pre' [] t' hw hw' (.inl rfl) (.inr hs') (by rw [List.append_nil, ← e, e'])
      exact absurd h1.2.symm (stuck_ne hs')
  · rcases h' with ⟨rfl, e', hw'⟩ | ⟨pre', t', e', hw', rfl, rfl, hs'⟩
    · have h1 := parsed_unique_pre pre out' t [] hw hw' (.inr hs) (.inl rfl) (by rw [List.append_nil, ← e, e'])
      exact absurd h1.2 (stuck_ne hs)
    · have h1 := parsed_unique_pre pre pre' t t' hw hw' (.inr hs) (.inr hs') (by rw [← e, e'])
      exact ⟨rfl, by rw [h1.1]⟩
theorem parsed_print (l : List St) (h : AllWf l) : Parsed (printL l) l 0 := .inl ⟨rfl, rfl, h⟩
theorem parsed_line (l : List St) (h : AllWf l) (s r : List UInt8) (hs : (10 : UInt8) ∉ s) (hn : readL s = none) : Parsed (printL l ++ (s ++ 10 :: r)) [] (l.length + 1) := .inr ⟨l, _, rfl, h, rfl, rfl, .inl ⟨s, r, rfl, hs, hn⟩⟩
end Go.Proofs.YtbkhoepoeaiccaaDoor

/- What the library's state must be (Env); a step's line, by the program and by the document. -/
import Derived.Test.YtbkhoepoeaiccaaDoorScrJ
import Derived.Test.YtbkhoepoeaiccaaDoorHeld
import Derived.Deep.RegionHeld3
import Derived.Laws.IdiomStrings
namespace Go.Proofs.YtbkhoepoeaiccaaDoor
open Go.RowKit Go.Shelf Go.Proofs.YtbkhoepoeaiccaaDoorW.PrintWords

/-- The library's variables. -/
structure Env (w : World) : Prop where
  maxLen : ∃ m, w.cell? ⟨0, 0, none⟩ = some (.int .i64 m)
  tab : Lib.TabIs Tryd.prog w "internal/strconv.uint64pow10" .u64 Lib.pow10Tab
  syn : ∃ tp p, w.var? Tryd.prog "strconv.ErrSyntax" = some #[.iface tp p]
  rng : ∃ tp p, w.var? Tryd.prog "strconv.ErrRange" = some #[.iface tp p]
theorem var_below {P : Program} {n : String} {w w' : World} {cs : Array Value} (h : w.var? P n = some cs) (hb : Below w.heap.size w w') : w'.var? P n = some cs := by
  unfold World.var? at h ⊢
  cases hg : P.globalNamed n with
  | none => rw [hg] at h; cases h
  | some g =>
    rw [hg] at h
    simp only [Option.bind_some] at h ⊢
    have hlt : g < w.heap.size := by
      rcases Nat.lt_or_ge g w.heap.size with h' | h'
      · exact h'
      · rw [Array.getElem?_eq_none h'] at h; cases h
    rw [hb.block g hlt]
    exact h
theorem Env.below {w w' : World} (h : Env w) (hb : Below w.heap.size w w') : Env w' :=
  ⟨h.maxLen.imp fun _ hc => (hb.cell (World.block_lt_of_cell? w _ hc)).trans hc, var_below h.tab hb, h.syn.imp fun _ h => h.imp fun _ h => var_below h hb, h.rng.imp fun _ h => h.imp fun _ h => var_below h hb⟩
theorem Fr.f_below {w W : World} (h : Fr (fun _ => False) w W) : Below w.heap.size w W := h.below (Nat.le_refl _) (fun _ h => h.elim)
theorem Env.fr {w w' : World} (h : Env w) (hf : Fr (fun _ => False) w w') : Env w' := h.below hf.f_below

theorem below_grow0 (w : World) (k : Nat) (os : Array Obj) : Below w.heap.size w (Go.Sort.grow (w.drewN k) os) :=
  ⟨rfl, rfl, rfl, by simp [Go.Sort.grow, World.drewN], fun i hi => by simp [Go.Sort.grow, World.drewN, Array.getElem?_append, hi]⟩
theorem PItoa_any (z : Int) (hz : I64 z) (W : World) (hE : Env W) : Calls Tryd.prog 26 #[.int .i64 z] W fun e W' => e = .returned (.string ⟨(Lib.itoa z).toArray⟩) ∧ Below W.heap.size W W' :=
  (Tryd.strconv_Itoa z hz.1 hz.2 W hE.tab).mono fun e W' ⟨he, k, os, hw⟩ => ⟨he, by rw [hw]; exact below_grow0 W k os⟩
/-- A step's value. -/
def stepV (x : St) (A : Option Addr) (n c : Nat) : Value := .agg #[.int .i64 x.kind, .int .i64 x.a, .int .i64 x.b, .int .i64 x.c, .string ⟨x.id.toArray⟩, .slice A n c]
theorem heap1 (w : World) (a : Obj) : ∃ w2, w2 = w.alloc a ∧ w2.heap.size = w.heap.size + 1 ∧ w2.heap[w.heap.size]? = some a ∧ Below w.heap.size w w2 :=
  ⟨_, rfl, by simp, blk_new _ _, below_alloc (Below.refl _ _) _⟩
theorem cell_at {W : World} {g j : Nat} {cs : Array Value} {t : TypeId} {v : Value} (h : W.heap[g]? = some (.cells cs t (0, 0))) (hj : cs[j]? = some v) : W.cell? ⟨g, j, none⟩ = some v := by
  simp only [World.cell?, h]
  simpa using hj

theorem bytesRow_get (l : List UInt8) (cap j : Nat) (hj : j < l.length) : (bytesRow ⟨l.toArray⟩ cap)[j]? = some (.int .u8 ((l.getD j 0).toNat : Int)) := by
  unfold bytesRow
  rw [Array.getElem?_append_left (by simpa using hj), Array.getElem?_map]
  simp only [List.getElem?_toArray]
  rw [List.getD_eq_getElem?_getD, List.getElem?_eq_getElem hj]
  rfl
theorem C_bytes {W : World} {g n : Nat} {l : List UInt8} (hn : l.length = n) (hl : n ≤ 9223372036854775807) (h : ∀ j, j < n → W.cell? ⟨g, j, none⟩ = some (.int .u8 ((l.getD j 0).toNat : Int))) : Kd.C (Kd.int .u8) W (some ⟨g, 0, none⟩) n (bl l) := by
  refine Kd.C_of_reads (d := (0 : Int)) ⟨by rw [bl_length]; exact hn, hl, fun _ => ⟨_, rfl, fun j hj => ?_⟩⟩
  rw [bl_get l j (by omega), ← h j hj]
  by_cases h0 : j = 0 <;> simp [Addr.add, h0]
/-- '[]byte(s)': where it lies, and that it reads as s. -/
theorem conv_any (l : List UInt8) (m : Nat) (hm : l.length = m) (hl : m ≤ 9223372036854775807) : ∃ (cap : World → Nat) (o : World → Obj), (∀ W, (convert 9 31 (.string ⟨l.toArray⟩)).run Tryd.prog W = .ok (.slice (some ⟨W.heap.size, 0, none⟩) m (cap W)) (W.drew.alloc (o W))) ∧
    ∀ W, m ≤ cap W ∧ Kd.C (Kd.int .u8) (W.drew.alloc (o W)) (some ⟨W.heap.size, 0, none⟩) m (bl l) := by
  subst hm
  refine ⟨_, _, fun W => run_bytes_of_string W 9 31 5 ⟨l.toArray⟩ Tryd.underlying9 Tryd.underlying31 Tryd.underlying5, fun W => ⟨?_, ?_⟩⟩
  · exact grownCap_ge W _ 0 5
  · refine C_bytes rfl hl (fun j hj => ?_)
    have h := blk_new W.drew (.cells (bytesRow ⟨l.toArray⟩ (grownCap W (ByteArray.size ⟨l.toArray⟩) 0 5)) 5 ((bytesRow ⟨l.toArray⟩ (grownCap W (ByteArray.size ⟨l.toArray⟩) 0 5)).size, (bytesRow ⟨l.toArray⟩ (grownCap W (ByteArray.size ⟨l.toArray⟩) 0 5)).size + 1))
    have h1 := bytesRow_get l (grownCap W (ByteArray.size ⟨l.toArray⟩) 0 5) j hj
    have h2 : W.heap.size = W.drew.heap.size := rfl
    rw [h2]
    unfold World.cell?
    simp only []
    rw [h]
    exact h1
/-- The six words, joined. -/
theorem joined_any (x : St) (si sd : ByteArray) (hsi : si = ⟨(hexL x.id).toArray⟩) (hsd : sd = ⟨(hexL x.data).toArray⟩) (hl : (bareL x).length ≤ 140737488355328) (W0 : World) :
    Calls Tryd.prog 27 #[.slice (some ⟨W0.heap.size, 0, none⟩) 6 6, .string ⟨#[32]⟩] (W0.alloc (.cells #[.string ⟨(Lib.itoa x.kind).toArray⟩, .string ⟨(Lib.itoa x.a).toArray⟩, .string ⟨(Lib.itoa x.b).toArray⟩, .string ⟨(Lib.itoa x.c).toArray⟩, .string (⟨#[105]⟩ ++ si), .string (⟨#[120]⟩ ++ sd)] 9))
      fun e W' => e = .returned (.string ⟨(bareL x).toArray⟩) ∧ Below (W0.alloc (.cells #[.string ⟨(Lib.itoa x.kind).toArray⟩, .string ⟨(Lib.itoa x.a).toArray⟩, .string ⟨(Lib.itoa x.b).toArray⟩, .string ⟨(Lib.itoa x.c).toArray⟩, .string (⟨#[105]⟩ ++ si), .string (⟨#[120]⟩ ++ sd)] 9)).heap.size (W0.alloc (.cells #[.string ⟨(Lib.itoa x.kind).toArray⟩, .string ⟨(Lib.itoa x.a).toArray⟩, .string ⟨(Lib.itoa x.b).toArray⟩, .string ⟨(Lib.itoa x.c).toArray⟩, .string (⟨#[105]⟩ ++ si), .string (⟨#[120]⟩ ++ sd)] 9)) W' := by
  obtain ⟨xs, hxs⟩ : ∃ xs : List ByteArray, xs = [⟨(Lib.itoa x.kind).toArray⟩, ⟨(Lib.itoa x.a).toArray⟩, ⟨(Lib.itoa x.b).toArray⟩, ⟨(Lib.itoa x.c).toArray⟩, ⟨#[105]⟩ ++ si, ⟨#[120]⟩ ++ sd] := ⟨_, rfl⟩
  have hmap : xs.map (·.data.toList) = wordsL x := by
    have e1 : (⟨#[105]⟩ ++ si : ByteArray) = ⟨(105 :: hexL x.id).toArray⟩ := by rw [hsi]; exact app_str [105] _
    have e2 : (⟨#[120]⟩ ++ sd : ByteArray) = ⟨(120 :: hexL x.data).toArray⟩ := by rw [hsd]; exact app_str [120] _
    rw [hxs, e1, e2]
    rfl
  have hlen : xs.length = 6 := by rw [hxs]; rfl
  have hb := blk_new W0 (.cells #[.string ⟨(Lib.itoa x.kind).toArray⟩, .string ⟨(Lib.itoa x.a).toArray⟩, .string ⟨(Lib.itoa x.b).toArray⟩, .string ⟨(Lib.itoa x.c).toArray⟩, .string (⟨#[105]⟩ ++ si), .string (⟨#[120]⟩ ++ sd)] 9)
  have h := Tryd.strings_Join W0.heap.size 0 6 xs ⟨#[32]⟩ _ (fun j y hj => by
    rw [Nat.zero_add]
    refine cell_at hb ?_
    rw [hxs] at hj
    rcases j with _ | _ | _ | _ | _ | _ | j <;> first | (injection hj with hj; subst hj; rfl) | (simp at hj)) (blk_lt hb) (by omega) (by omega) (by rw [hmap]; exact hl)
  rw [hmap, hlen] at h
  exact h
theorem nDigits_le : ∀ (k u : Nat), u < 10 ^ (k + 1) → (Lib.decDigits u).length ≤ k + 1
  | 0, u, h => by rw [decDigits_small (by simpa using h)]; simp
  | k + 1, u, h => by
    by_cases h0 : u < 10
    · rw [decDigits_small h0]; simp
    · have := nDigits_le k (u / 10) (by rw [Nat.pow_succ] at h; omega)
      rw [decDigits_big h0, List.length_append]
      simp only [List.length_cons, List.length_nil]
      omega
theorem itoa_len (z : Int) (hz : I64 z) : (Lib.itoa z).length ≤ 20 := by
  obtain ⟨h1, h2⟩ := hz
  by_cases h : z < 0
  · rw [itoa_neg h]
    have := nDigits_le 18 z.natAbs (by omega)
    simp only [List.length_cons]
    omega
  · rw [itoa_pos (by omega)]
    have := nDigits_le 18 z.toNat (by omega)
    omega
theorem bare_len (x : St) (hx : x.wf) : (bareL x).length ≤ 2 * x.id.length + 2 * x.data.length + 100 := by
  obtain ⟨h0, h1, h2, h3⟩ := hx
  have := itoa_len _ h0
  have := itoa_len _ h1
  have := itoa_len _ h2
  have := itoa_len _ h3
  unfold bareL wordsL
  simp only [Lib.join_cons, Lib.joinTail, List.map_cons, List.map_nil, List.flatten_cons, List.flatten_nil, List.length_append, List.length_cons, List.length_nil, hexL_length]
  omega
set_option maxRecDepth 100000 in
set_option maxHeartbeats 3200000 in
theorem line_any (w : World) (hE : Env w) (x : St) (hx : x.wf) (A : Option Addr) (n c : Nat) (hC : Kd.C (Kd.int .u8) w A n (bl x.data)) (hc : n ≤ c) (hn : n ≤ 268435456) (hi : x.id.length ≤ 268435456) :
    Calls Tryd.prog 18 #[stepV x A n c] w fun e w' => e = .returned (.string ⟨(lineL x).toArray⟩) ∧ Below w.heap.size w w' := by
  obtain ⟨kk, ka, kb, kc, id, data⟩ := x
  obtain ⟨i0, i1, i2, i3⟩ := hx
  simp only at hC hi i0 i1 i2 i3
  obtain ⟨m, hm⟩ : ∃ m, id.length = m := ⟨_, rfl⟩
  obtain ⟨cap, o, hcv, hcC⟩ := conv_any id m hm (by omega)
  have HCC : Aside0 (∀ W, m ≤ cap W ∧ Kd.C (Kd.int .u8) ((W.alloc (o W)).drew) (some ⟨W.heap.size, 0, none⟩) m (bl id)) := ⟨fun W => ⟨(hcC W).1, (hcC W).2⟩⟩
  rw [hm] at hi
  clear hcC
  have H0 := Aside0.mk (PItoa_any kk i0)
  have H1 := Aside0.mk (PItoa_any ka i1)
  have H2 := Aside0.mk (PItoa_any kb i2)
  have H3 := Aside0.mk (PItoa_any kc i3)
  have HC := Aside0.mk hC
  have HE := Aside0.mk hE
  unfold stepV
  simp only []
  obtain ⟨w0, hw0, hz0, a0, hb0⟩ := heap1 w (Obj.cells #[.int .i64 kk, .int .i64 ka, .int .i64 kb, .int .i64 kc, .string ⟨id.toArray⟩, .slice A n c] 33)
  obtain ⟨s, hs⟩ : ∃ s, s = w.heap.size := ⟨_, rfl⟩
  rw [← hs] at a0
  have HG : Aside0 (∀ W, Fr (fun _ => False) w0 W → W.cell? ⟨s, 0, none⟩ = some (.int .i64 kk) ∧ W.cell? ⟨s, 1, none⟩ = some (.int .i64 ka) ∧ W.cell? ⟨s, 2, none⟩ = some (.int .i64 kb) ∧ W.cell? ⟨s, 3, none⟩ = some (.int .i64 kc) ∧ W.cell? ⟨s, 4, none⟩ = some (.string ⟨id.toArray⟩) ∧ W.cell? ⟨s, 5, none⟩ = some (.slice A n c) ∧ Aside0 (Fr (fun _ => False) w0 W)) :=
    ⟨fun W hW => by
      have h1 := hW.blk a0 (fun h => h)
      exact ⟨cell_at h1 rfl, cell_at h1 rfl, cell_at h1 rfl, cell_at h1 rfl, cell_at h1 rfl, cell_at h1 rfl, ⟨hW⟩⟩⟩
  obtain ⟨sd, hsd⟩ : ∃ sd, sd = (⟨(hexL data).toArray⟩ : ByteArray) := ⟨_, rfl⟩
  obtain ⟨si, hsi⟩ : ∃ si, si = (⟨(hexL id).toArray⟩ : ByteArray) := ⟨_, rfl⟩
  have hdl : data.length = n := by have := Kd.C_len hC; rw [bl_length] at this; exact this
  have hsdn : sd.size ≤ 536870912 := by rw [hsd, size_str, hexL_length]; omega
  have hsin : si.size ≤ 536870912 := by rw [hsi, size_str, hexL_length]; omega
  have HCD : Aside0 (Kd.C (Kd.int .u8) (w0.alloc (o w0.drew)).drew.drew (some ⟨w0.heap.size, 0, none⟩) m (bl id)) := ⟨(HCC.out w0.drew).2⟩
  have HPD : Aside0 (∀ W, Kd.C (Kd.int .u8) W A n (bl data) → Calls Tryd.prog 15 #[.slice A n c] W fun e W' => e = .returned (.string sd) ∧ Below W.heap.size W W') := ⟨fun W h => by rw [hsd]; exact PHex_any W A n c data h hc (by omega)⟩
  have HPI : Aside0 (∀ W g c, Kd.C (Kd.int .u8) W (some ⟨g, 0, none⟩) m (bl id) → m ≤ c → Calls Tryd.prog 15 #[.slice (some ⟨g, 0, none⟩) m c] W fun e W' => e = .returned (.string si) ∧ Below W.heap.size W W') := ⟨fun W g c h hc => by rw [hsi]; exact PHex_any W _ m c id h hc (by omega)⟩
  obtain ⟨sb, hsb⟩ : ∃ sb, sb = (⟨(bareL ⟨kk, ka, kb, kc, id, data⟩).toArray⟩ : ByteArray) := ⟨_, rfl⟩
  have hbl := bare_len ⟨kk, ka, kb, kc, id, data⟩ ⟨i0, i1, i2, i3⟩
  simp only at hbl
  have HJ := Aside0.mk (joined_any ⟨kk, ka, kb, kc, id, data⟩ si sd hsi hsd (by omega))
  simp only [← hsb] at HJ
  have hsbn : sb.size ≤ 2147483648 := by rw [hsb, size_str]; omega
  have hz5 : (9223372036854775807 < sb.size + 1) = False := eq_false (by omega)
  have hz6 : (sb.size + 1 ≤ 9223372036854775807) = True := eq_true (by omega)
  have HBT : Aside0 (sb ++ ⟨#[10]⟩ = ⟨(lineL ⟨kk, ka, kb, kc, id, data⟩).toArray⟩) := ⟨by rw [hsb]; exact app_str _ [10]⟩
  have hz1 : (9223372036854775807 < 1 + sd.size) = False := eq_false (by omega)
  have hz2 : (9223372036854775807 < 1 + si.size) = False := eq_false (by omega)
  have hz3 : (1 + sd.size ≤ 9223372036854775807) = True := eq_true (by omega)
  have hz4 : (1 + si.size ≤ 9223372036854775807) = True := eq_true (by omega)
  have HEF : Aside0 (∀ W, Fr (fun _ => False) w0 W → Env W) := ⟨fun W hW => (hE.below hb0).fr hW⟩
  have HCF : Aside0 (∀ W, Fr (fun _ => False) w0 W → Kd.C (Kd.int .u8) W A n (bl data)) := ⟨fun W hW => Kd.C_below (Kd.C_below hC hb0) hW.f_below⟩
  have HB0 := Aside0.mk hb0
  have HS := Aside0.mk hs
  have HW0 := Aside0.mk hw0
  have HH : Aside0 (n ≤ c ∧ n ≤ 1099511627776 ∧ m ≤ 1099511627776) := ⟨⟨hc, by omega, by omega⟩⟩
  have HSM := Aside0.mk (And.intro hn hi)
  clear a0 hb0 hz0 hw0 hs hC hE i0 i1 i2 i3 hc hn hi hsd hsi hdl hsdn hsin hm hsb hbl hsbn
  have hu33 := Tryd.underlying33
  go_enter Tryd.func18, Tryd.ntmps18
  go_wp2
  rw [← HW0.out, ← HS.out]
  have S1 := HG.out w0 (Fr.refl _ _)
  refine wp_region_held_drew (S := (fun W => W.cell? ⟨s, 0, none⟩ = some (.int .i64 kk) ∧ W.cell? ⟨s, 1, none⟩ = some (.int .i64 ka) ∧ W.cell? ⟨s, 2, none⟩ = some (.int .i64 kb) ∧ W.cell? ⟨s, 3, none⟩ = some (.int .i64 kc) ∧ W.cell? ⟨s, 4, none⟩ = some (.string ⟨id.toArray⟩) ∧ W.cell? ⟨s, 5, none⟩ = some (.slice A n c) ∧ Aside0 (Fr (fun _ => False) w0 W))) (by kernel_rfl) (HG.out _ (by repeat (first | exact Fr.refl _ _ | assumption | apply Fr.drew | apply Fr.alloc))) (fun hS => ?_)
  refine takeD 0 4 (v := ?_) rfl rfl (by kernel_rfl) (by kernel_rfl) (by kernel_rfl) (fun _ _ _ h => h) (Or.inl ⟨by rfl, ?_⟩) hS ?_
  rotate_left 1
  focus (intro w hSw; (try dsimp only at hSw); go_simp; (try with_reducible rfl); done)
  try simp only [Act.put, List.setIfInBounds_toArray, List.set_cons_zero, List.set_cons_succ]
  refine takeD 1 5 (v := ?_) rfl rfl (by kernel_rfl) (by kernel_rfl) (by kernel_rfl) (fun _ _ _ h => h) (Or.inl ⟨by rfl, ?_⟩) hS ?_
  rotate_left 1
  focus (intro w hSw; (try dsimp only at hSw); go_simp; (try with_reducible rfl); done)
  try simp only [Act.put, List.setIfInBounds_toArray, List.set_cons_zero, List.set_cons_succ]
  refine takeD 3 7 (v := ?_) rfl rfl (by kernel_rfl) (by kernel_rfl) (by kernel_rfl) (fun _ _ _ h => h) (Or.inl ⟨by rfl, ?_⟩) hS ?_
  rotate_left 1
  focus (intro w hSw; (try dsimp only at hSw); go_simp; (try with_reducible rfl); done)
  try simp only [Act.put, List.setIfInBounds_toArray, List.set_cons_zero, List.set_cons_succ]
  refine takeD 4 8 (v := ?_) rfl rfl (by kernel_rfl) (by kernel_rfl) (by kernel_rfl) (fun _ _ _ h => h) (Or.inl ⟨by rfl, ?_⟩) hS ?_
  rotate_left 1
  focus (intro w hSw; (try dsimp only at hSw); go_simp; (try with_reducible rfl); done)
  try simp only [Act.put, List.setIfInBounds_toArray, List.set_cons_zero, List.set_cons_succ]
  refine takeD 6 10 (v := ?_) rfl rfl (by kernel_rfl) (by kernel_rfl) (by kernel_rfl) (fun _ _ _ h => h) (Or.inl ⟨by rfl, ?_⟩) hS ?_
  rotate_left 1
  focus (intro w hSw; (try dsimp only at hSw); go_simp; (try with_reducible rfl); done)
  try simp only [Act.put, List.setIfInBounds_toArray, List.set_cons_zero, List.set_cons_succ]
  refine takeD 7 11 (v := ?_) rfl rfl (by kernel_rfl) (by kernel_rfl) (by kernel_rfl) (fun _ _ _ h => h) (Or.inl ⟨by rfl, ?_⟩) hS ?_
  rotate_left 1
  focus (intro w hSw; (try dsimp only at hSw); go_simp; (try with_reducible rfl); done)
  try simp only [Act.put, List.setIfInBounds_toArray, List.set_cons_zero, List.set_cons_succ]
  refine takeD 9 13 (v := ?_) rfl rfl (by kernel_rfl) (by kernel_rfl) (by kernel_rfl) (fun _ _ _ h => h) (Or.inl ⟨by rfl, ?_⟩) hS ?_
  rotate_left 1
  focus (intro w hSw; (try dsimp only at hSw); go_simp; (try with_reducible rfl); done)
  try simp only [Act.put, List.setIfInBounds_toArray, List.set_cons_zero, List.set_cons_succ]
  refine takeD 10 14 (v := ?_) rfl rfl (by kernel_rfl) (by kernel_rfl) (by kernel_rfl) (fun _ _ _ h => h) (Or.inl ⟨by rfl, ?_⟩) hS ?_
  rotate_left 1
  focus (intro w hSw; (try dsimp only at hSw); go_simp; (try with_reducible rfl); done)
  try simp only [Act.put, List.setIfInBounds_toArray, List.set_cons_zero, List.set_cons_succ]
  refine takeD 12 16 (v := ?_) rfl rfl (by kernel_rfl) (by kernel_rfl) (by kernel_rfl) (fun _ _ _ h => h) (Or.inl ⟨by rfl, ?_⟩) hS ?_
  rotate_left 1
  focus (intro w hSw; (try dsimp only at hSw); go_simp; (try with_reducible rfl); done)
  try simp only [Act.put, List.setIfInBounds_toArray, List.set_cons_zero, List.set_cons_succ]
  refine takeD 13 17 (v := ?_) rfl rfl (by kernel_rfl) (by kernel_rfl) (by kernel_rfl) (fun _ _ _ h => h) (Or.inl ⟨by rfl, ?_⟩) hS ?_
  rotate_left 1
  focus (intro w hSw; (try dsimp only at hSw); go_simp; (try with_reducible rfl); done)
  try simp only [Act.put, List.setIfInBounds_toArray, List.set_cons_zero, List.set_cons_succ]
  refine takeD 17 21 (v := ?_) rfl rfl (by kernel_rfl) (by kernel_rfl) (by kernel_rfl) (fun _ _ _ h => h) (Or.inl ⟨by rfl, ?_⟩) hS ?_
  rotate_left 1
  focus (intro w hSw; (try dsimp only at hSw); go_simp; (try with_reducible rfl); done)
  try simp only [Act.put, List.setIfInBounds_toArray, List.set_cons_zero, List.set_cons_succ]
  refine takeD 18 22 (v := ?_) rfl rfl (by kernel_rfl) (by kernel_rfl) (by kernel_rfl) (fun _ _ _ h => h) (Or.inl ⟨by rfl, ?_⟩) hS ?_
  rotate_left 1
  focus (intro w hSw; (try dsimp only at hSw); go_simp; (try with_reducible rfl); done)
  try simp only [Act.put, List.setIfInBounds_toArray, List.set_cons_zero, List.set_cons_succ]
  refine wpAnyH_ready (rs := [2, 14]) (by kernel_rfl) (by simp) ?_
  refine AllReadyH.cons rfl (fun K hK => ?_) (AllReadyH.cons rfl (fun K hK => ?_) AllReadyH.nil)
  · rw [if_pos (by rfl)]
    go_simp
    (go_at_call 26; (first | with_reducible refine (H0.out _ (HEF.out _ (by repeat (first | exact Fr.refl _ _ | assumption | apply Fr.drew | apply Fr.alloc)))).mono ?_ | with_reducible refine (H1.out _ (HEF.out _ (by repeat (first | exact Fr.refl _ _ | assumption | apply Fr.drew | apply Fr.alloc)))).mono ?_ | with_reducible refine (H2.out _ (HEF.out _ (by repeat (first | exact Fr.refl _ _ | assumption | apply Fr.drew | apply Fr.alloc)))).mono ?_ | with_reducible refine (H3.out _ (HEF.out _ (by repeat (first | exact Fr.refl _ _ | assumption | apply Fr.drew | apply Fr.alloc)))).mono ?_); rintro e Wn ⟨rfl, hbn⟩; have hfn := Fr.below_ (S := fun _ => False) (w := w0) (by repeat (first | exact Fr.refl _ _ | assumption | apply Fr.drew | apply Fr.alloc)) hbn); go_simp
    refine hK.out _ _ (HG.out _ (by repeat (first | exact Fr.refl _ _ | assumption | apply Fr.drew | apply Fr.alloc))) (fun hS2 => ?_)
    clear hK K hS
    have hS := hS2
    clear hS2
    try simp only [Act.put, List.setIfInBounds_toArray, List.set_cons_zero, List.set_cons_succ]
    refine wpAnyH_ready (rs := [5, 14]) (by kernel_rfl) (by simp) ?_
    refine AllReadyH.cons rfl (fun K hK => ?_) (AllReadyH.cons rfl (fun K hK => ?_) AllReadyH.nil)
    · rw [if_pos (by rfl)]
      go_simp
      (go_at_call 26; (first | with_reducible refine (H0.out _ (HEF.out _ (by repeat (first | exact Fr.refl _ _ | assumption | apply Fr.drew | apply Fr.alloc)))).mono ?_ | with_reducible refine (H1.out _ (HEF.out _ (by repeat (first | exact Fr.refl _ _ | assumption | apply Fr.drew | apply Fr.alloc)))).mono ?_ | with_reducible refine (H2.out _ (HEF.out _ (by repeat (first | exact Fr.refl _ _ | assumption | apply Fr.drew | apply Fr.alloc)))).mono ?_ | with_reducible refine (H3.out _ (HEF.out _ (by repeat (first | exact Fr.refl _ _ | assumption | apply Fr.drew | apply Fr.alloc)))).mono ?_); rintro e Wn ⟨rfl, hbn⟩; have hfn := Fr.below_ (S := fun _ => False) (w := w0) (by repeat (first | exact Fr.refl _ _ | assumption | apply Fr.drew | apply Fr.alloc)) hbn); go_simp
      refine hK.out _ _ (HG.out _ (by repeat (first | exact Fr.refl _ _ | assumption | apply Fr.drew | apply Fr.alloc))) (fun hS2 => ?_)
      clear hK K hS
      have hS := hS2
      clear hS2
      try simp only [Act.put, List.setIfInBounds_toArray, List.set_cons_zero, List.set_cons_succ]
      refine wpAnyH_ready (rs := [8, 14]) (by kernel_rfl) (by simp) ?_
      refine AllReadyH.cons rfl (fun K hK => ?_) (AllReadyH.cons rfl (fun K hK => ?_) AllReadyH.nil)
      · rw [if_pos (by rfl)]
        go_simp
        (go_at_call 26; (first | with_reducible refine (H0.out _ (HEF.out _ (by repeat (first | exact Fr.refl _ _ | assumption | apply Fr.drew | apply Fr.alloc)))).mono ?_ | with_reducible refine (H1.out _ (HEF.out _ (by repeat (first | exact Fr.refl _ _ | assumption | apply Fr.drew | apply Fr.alloc)))).mono ?_ | with_reducible refine (H2.out _ (HEF.out _ (by repeat (first | exact Fr.refl _ _ | assumption | apply Fr.drew | apply Fr.alloc)))).mono ?_ | with_reducible refine (H3.out _ (HEF.out _ (by repeat (first | exact Fr.refl _ _ | assumption | apply Fr.drew | apply Fr.alloc)))).mono ?_); rintro e Wn ⟨rfl, hbn⟩; have hfn := Fr.below_ (S := fun _ => False) (w := w0) (by repeat (first | exact Fr.refl _ _ | assumption | apply Fr.drew | apply Fr.alloc)) hbn); go_simp
        refine hK.out _ _ (HG.out _ (by repeat (first | exact Fr.refl _ _ | assumption | apply Fr.drew | apply Fr.alloc))) (fun hS2 => ?_)
        clear hK K hS
        have hS := hS2
        clear hS2
        try simp only [Act.put, List.setIfInBounds_toArray, List.set_cons_zero, List.set_cons_succ]
        refine wpAnyH_ready (rs := [11, 14]) (by kernel_rfl) (by simp) ?_
        refine AllReadyH.cons rfl (fun K hK => ?_) (AllReadyH.cons rfl (fun K hK => ?_) AllReadyH.nil)
        · rw [if_pos (by rfl)]
          go_simp
          (go_at_call 26; (first | with_reducible refine (H0.out _ (HEF.out _ (by repeat (first | exact Fr.refl _ _ | assumption | apply Fr.drew | apply Fr.alloc)))).mono ?_ | with_reducible refine (H1.out _ (HEF.out _ (by repeat (first | exact Fr.refl _ _ | assumption | apply Fr.drew | apply Fr.alloc)))).mono ?_ | with_reducible refine (H2.out _ (HEF.out _ (by repeat (first | exact Fr.refl _ _ | assumption | apply Fr.drew | apply Fr.alloc)))).mono ?_ | with_reducible refine (H3.out _ (HEF.out _ (by repeat (first | exact Fr.refl _ _ | assumption | apply Fr.drew | apply Fr.alloc)))).mono ?_); rintro e Wn ⟨rfl, hbn⟩; have hfn := Fr.below_ (S := fun _ => False) (w := w0) (by repeat (first | exact Fr.refl _ _ | assumption | apply Fr.drew | apply Fr.alloc)) hbn); go_simp
          refine hK.out _ _ (HG.out _ (by repeat (first | exact Fr.refl _ _ | assumption | apply Fr.drew | apply Fr.alloc))) (fun hS2 => ?_)
          clear hK K hS
          have hS := hS2
          clear hS2
          try simp only [Act.put, List.setIfInBounds_toArray, List.set_cons_zero, List.set_cons_succ]
          refine wpAnyH_ready (rs := [14]) (by kernel_rfl) (by simp) ?_
          refine AllReadyH.cons rfl (fun K hK => ?_) AllReadyH.nil
          rw [if_pos (by rfl)]
          go_simp
          refine hK.out _ _ (HG.out _ (by repeat (first | exact Fr.refl _ _ | assumption | apply Fr.drew | apply Fr.alloc))) (fun hS2 => ?_)
          clear hK K hS
          have hS := hS2
          clear hS2
          try simp only [Act.put, List.setIfInBounds_toArray, List.set_cons_zero, List.set_cons_succ]
          refine wpAnyH_ready (rs := [15]) (by kernel_rfl) (by simp) ?_
          refine AllReadyH.cons rfl (fun K hK => ?_) AllReadyH.nil
          rw [if_pos (by rfl)]
          go_simp
          (first | (go_at_call 15; with_reducible refine (HPD.out _ (HCF.out _ (by repeat (first | exact Fr.refl _ _ | assumption | apply Fr.drew | apply Fr.alloc)))).mono ?_; rintro e Wn ⟨rfl, hbn⟩; have hfn := Fr.below_ (S := fun _ => False) (w := w0) (by repeat (first | exact Fr.refl _ _ | assumption | apply Fr.drew | apply Fr.alloc)) hbn) | (go_at_call 15; with_reducible refine (HPI.out _ _ _ (by repeat (first | exact (HCC.out _).2 | exact HCD.out | refine Kd.C_below ?_ (by assumption))) (HCC.out _).1).mono ?_; rintro e Wn ⟨rfl, hbn⟩; have hfn := Fr.below_ (S := fun _ => False) (w := w0) (by repeat (first | exact Fr.refl _ _ | assumption | apply Fr.drew | apply Fr.alloc)) hbn)); go_simp
          refine hK.out _ _ (HG.out _ (by repeat (first | exact Fr.refl _ _ | assumption | apply Fr.drew | apply Fr.alloc))) (fun hS2 => ?_)
          clear hK K hS
          have hS := hS2
          clear hS2
          try simp only [Act.put, List.setIfInBounds_toArray, List.set_cons_zero, List.set_cons_succ]
          refine takeD 16 20 (v := ?_) rfl rfl (by kernel_rfl) (by kernel_rfl) (by kernel_rfl) (fun _ _ _ h => h) (Or.inl ⟨by rfl, ?_⟩) hS ?_
          rotate_left 1
          focus (intro w hSw; (try dsimp only at hSw); go_simp; (try with_reducible rfl); done)
          try simp only [Act.put, List.setIfInBounds_toArray, List.set_cons_zero, List.set_cons_succ]
          refine wpAnyH_ready (rs := [19]) (by kernel_rfl) (by simp) ?_
          refine AllReadyH.cons rfl (fun K hK => ?_) AllReadyH.nil
          rw [if_pos (by rfl)]
          go_simp
          (first | (go_at_call 15; with_reducible refine (HPD.out _ (HCF.out _ (by repeat (first | exact Fr.refl _ _ | assumption | apply Fr.drew | apply Fr.alloc)))).mono ?_; rintro e Wn ⟨rfl, hbn⟩; have hfn := Fr.below_ (S := fun _ => False) (w := w0) (by repeat (first | exact Fr.refl _ _ | assumption | apply Fr.drew | apply Fr.alloc)) hbn) | (go_at_call 15; with_reducible refine (HPI.out _ _ _ (by repeat (first | exact (HCC.out _).2 | exact HCD.out | refine Kd.C_below ?_ (by assumption))) (HCC.out _).1).mono ?_; rintro e Wn ⟨rfl, hbn⟩; have hfn := Fr.below_ (S := fun _ => False) (w := w0) (by repeat (first | exact Fr.refl _ _ | assumption | apply Fr.drew | apply Fr.alloc)) hbn)); go_simp
          refine hK.out _ _ (HG.out _ (by repeat (first | exact Fr.refl _ _ | assumption | apply Fr.drew | apply Fr.alloc))) (fun hS2 => ?_)
          clear hK K hS
          have hS := hS2
          clear hS2
          try simp only [Act.put, List.setIfInBounds_toArray, List.set_cons_zero, List.set_cons_succ]
          refine takeD 20 24 (v := ?_) rfl rfl (by kernel_rfl) (by kernel_rfl) (by kernel_rfl) (fun _ _ _ h => h) (Or.inl ⟨by rfl, ?_⟩) hS ?_
          rotate_left 1
          focus (intro w hSw; (try dsimp only at hSw); go_simp; (try with_reducible rfl); done)
          try simp only [Act.put, List.setIfInBounds_toArray, List.set_cons_zero, List.set_cons_succ]
          refine wpAnyH_ready (rs := [21]) (by kernel_rfl) (by simp) ?_
          refine AllReadyH.cons rfl (fun K hK => ?_) AllReadyH.nil
          rw [if_pos (by rfl)]
          go_simp
          refine hK.out _ _ (HG.out _ (by repeat (first | exact Fr.refl _ _ | assumption | apply Fr.drew | apply Fr.alloc))) (fun hS2 => ?_)
          clear hK K hS
          have hS := hS2
          clear hS2
          try simp only [Act.put, List.setIfInBounds_toArray, List.set_cons_zero, List.set_cons_succ]
          refine takeD 22 3 (v := ?_) rfl rfl (by kernel_rfl) (by kernel_rfl) (by kernel_rfl) (fun _ _ _ h => h) (Or.inl ⟨by rfl, ?_⟩) hS ?_
          rotate_left 1
          focus (intro w hSw; (try dsimp only at hSw); go_simp; (try with_reducible rfl); done)
          try simp only [Act.put, List.setIfInBounds_toArray, List.set_cons_zero, List.set_cons_succ]
          refine wpAnyH_done (by kernel_rfl) ?_ _
          go_wp2_with (go_at_call 27; with_reducible refine (HJ.out _).mono ?_; rintro e Wz ⟨rfl, hbz⟩; have hfz := Fr.below_ (S := fun _ => False) (w := w0) (Fr.alloc (by assumption) _) hbz)
          go_ret
          exact ⟨congrArg (fun z => Ending.returned (.string z)) HBT.out, HB0.out.trans (hfz.f_below.mono HB0.out.size)⟩
        · rw [if_pos (by rfl)]
          go_simp
          refine hK.out _ _ (HG.out _ (by repeat (first | exact Fr.refl _ _ | assumption | apply Fr.drew | apply Fr.alloc))) (fun hS2 => ?_)
          clear hK K hS
          have hS := hS2
          clear hS2
          try simp only [Act.put, List.setIfInBounds_toArray, List.set_cons_zero, List.set_cons_succ]
          refine wpAnyH_ready (rs := [11]) (by kernel_rfl) (by simp) ?_
          refine AllReadyH.cons rfl (fun K hK => ?_) AllReadyH.nil
          rw [if_pos (by rfl)]
          go_simp
          (go_at_call 26; (first | with_reducible refine (H0.out _ (HEF.out _ (by repeat (first | exact Fr.refl _ _ | assumption | apply Fr.drew | apply Fr.alloc)))).mono ?_ | with_reducible refine (H1.out _ (HEF.out _ (by repeat (first | exact Fr.refl _ _ | assumption | apply Fr.drew | apply Fr.alloc)))).mono ?_ | with_reducible refine (H2.out _ (HEF.out _ (by repeat (first | exact Fr.refl _ _ | assumption | apply Fr.drew | apply Fr.alloc)))).mono ?_ | with_reducible refine (H3.out _ (HEF.out _ (by repeat (first | exact Fr.refl _ _ | assumption | apply Fr.drew | apply Fr.alloc)))).mono ?_); rintro e Wn ⟨rfl, hbn⟩; have hfn := Fr.below_ (S := fun _ => False) (w := w0) (by repeat (first | exact Fr.refl _ _ | assumption | apply Fr.drew | apply Fr.alloc)) hbn); go_simp
          refine hK.out _ _ (HG.out _ (by repeat (first | exact Fr.refl _ _ | assumption | apply Fr.drew | apply Fr.alloc))) (fun hS2 => ?_)
          clear hK K hS
          have hS := hS2
          clear hS2
          try simp only [Act.put, List.setIfInBounds_toArray, List.set_cons_zero, List.set_cons_succ]
          refine wpAnyH_ready (rs := [15]) (by kernel_rfl) (by simp) ?_
          refine AllReadyH.cons rfl (fun K hK => ?_) AllReadyH.nil
          rw [if_pos (by rfl)]
          go_simp
          (first | (go_at_call 15; with_reducible refine (HPD.out _ (HCF.out _ (by repeat (first | exact Fr.refl _ _ | assumption | apply Fr.drew | apply Fr.alloc)))).mono ?_; rintro e Wn ⟨rfl, hbn⟩; have hfn := Fr.below_ (S := fun _ => False) (w := w0) (by repeat (first | exact Fr.refl _ _ | assumption | apply Fr.drew | apply Fr.alloc)) hbn) | (go_at_call 15; with_reducible refine (HPI.out _ _ _ (by repeat (first | exact (HCC.out _).2 | exact HCD.out | refine Kd.C_below ?_ (by assumption))) (HCC.out _).1).mono ?_; rintro e Wn ⟨rfl, hbn⟩; have hfn := Fr.below_ (S := fun _ => False) (w := w0) (by repeat (first | exact Fr.refl _ _ | assumption | apply Fr.drew | apply Fr.alloc)) hbn)); go_simp
          refine hK.out _ _ (HG.out _ (by repeat (first | exact Fr.refl _ _ | assumption | apply Fr.drew | apply Fr.alloc))) (fun hS2 => ?_)
          clear hK K hS
          have hS := hS2
          clear hS2
          try simp only [Act.put, List.setIfInBounds_toArray, List.set_cons_zero, List.set_cons_succ]
          refine takeD 16 20 (v := ?_) rfl rfl (by kernel_rfl) (by kernel_rfl) (by kernel_rfl) (fun _ _ _ h => h) (Or.inl ⟨by rfl, ?_⟩) hS ?_
          rotate_left 1
          focus (intro w hSw; (try dsimp only at hSw); go_simp; (try with_reducible rfl); done)
          try simp only [Act.put, List.setIfInBounds_toArray, List.set_cons_zero, List.set_cons_succ]
          refine wpAnyH_ready (rs := [19]) (by kernel_rfl) (by simp) ?_
          refine AllReadyH.cons rfl (fun K hK => ?_) AllReadyH.nil
          rw [if_pos (by rfl)]
          go_simp
          (first | (go_at_call 15; with_reducible refine (HPD.out _ (HCF.out _ (by repeat (first | exact Fr.refl _ _ | assumption | apply Fr.drew | apply Fr.alloc)))).mono ?_; rintro e Wn ⟨rfl, hbn⟩; have hfn := Fr.below_ (S := fun _ => False) (w := w0) (by repeat (first | exact Fr.refl _ _ | assumption | apply Fr.drew | apply Fr.alloc)) hbn) | (go_at_call 15; with_reducible refine (HPI.out _ _ _ (by repeat (first | exact (HCC.out _).2 | exact HCD.out | refine Kd.C_below ?_ (by assumption))) (HCC.out _).1).mono ?_; rintro e Wn ⟨rfl, hbn⟩; have hfn := Fr.below_ (S := fun _ => False) (w := w0) (by repeat (first | exact Fr.refl _ _ | assumption | apply Fr.drew | apply Fr.alloc)) hbn)); go_simp
          refine hK.out _ _ (HG.out _ (by repeat (first | exact Fr.refl _ _ | assumption | apply Fr.drew | apply Fr.alloc))) (fun hS2 => ?_)
          clear hK K hS
          have hS := hS2
          clear hS2
          try simp only [Act.put, List.setIfInBounds_toArray, List.set_cons_zero, List.set_cons_succ]
          refine takeD 20 24 (v := ?_) rfl rfl (by kernel_rfl) (by kernel_rfl) (by kernel_rfl) (fun _ _ _ h => h) (Or.inl ⟨by rfl, ?_⟩) hS ?_
          rotate_left 1
          focus (intro w hSw; (try dsimp only at hSw); go_simp; (try with_reducible rfl); done)
          try simp only [Act.put, List.setIfInBounds_toArray, List.set_cons_zero, List.set_cons_succ]
          refine wpAnyH_ready (rs := [21]) (by kernel_rfl) (by simp) ?_
          refine AllReadyH.cons rfl (fun K hK => ?_) AllReadyH.nil
          rw [if_pos (by rfl)]
          go_simp
          refine hK.out _ _ (HG.out _ (by repeat (first | exact Fr.refl _ _ | assumption | apply Fr.drew | apply Fr.alloc))) (fun hS2 => ?_)
          clear hK K hS
          have hS := hS2
          clear hS2
          try simp only [Act.put, List.setIfInBounds_toArray, List.set_cons_zero, List.set_cons_succ]
          refine takeD 22 3 (v := ?_) rfl rfl (by kernel_rfl) (by kernel_rfl) (by kernel_rfl) (fun _ _ _ h => h) (Or.inl ⟨by rfl, ?_⟩) hS ?_
          rotate_left 1
          focus (intro w hSw; (try dsimp only at hSw); go_simp; (try with_reducible rfl); done)
          try simp only [Act.put, List.setIfInBounds_toArray, List.set_cons_zero, List.set_cons_succ]
          refine wpAnyH_done (by kernel_rfl) ?_ _
          go_wp2_with (go_at_call 27; with_reducible refine (HJ.out _).mono ?_; rintro e Wz ⟨rfl, hbz⟩; have hfz := Fr.below_ (S := fun _ => False) (w := w0) (Fr.alloc (by assumption) _) hbz)
          go_ret
          exact ⟨congrArg (fun z => Ending.returned (.string z)) HBT.out, HB0.out.trans (hfz.f_below.mono HB0.out.size)⟩
      · rw [if_pos (by rfl)]
        go_simp
        refine hK.out _ _ (HG.out _ (by repeat (first | exact Fr.refl _ _ | assumption | apply Fr.drew | apply Fr.alloc))) (fun hS2 => ?_)
        clear hK K hS
        have hS := hS2
        clear hS2
        try simp only [Act.put, List.setIfInBounds_toArray, List.set_cons_zero, List.set_cons_succ]
        refine wpAnyH_ready (rs := [8]) (by kernel_rfl) (by simp) ?_
        refine AllReadyH.cons rfl (fun K hK => ?_) AllReadyH.nil
        rw [if_pos (by rfl)]
        go_simp
        (go_at_call 26; (first | with_reducible refine (H0.out _ (HEF.out _ (by repeat (first | exact Fr.refl _ _ | assumption | apply Fr.drew | apply Fr.alloc)))).mono ?_ | with_reducible refine (H1.out _ (HEF.out _ (by repeat (first | exact Fr.refl _ _ | assumption | apply Fr.drew | apply Fr.alloc)))).mono ?_ | with_reducible refine (H2.out _ (HEF.out _ (by repeat (first | exact Fr.refl _ _ | assumption | apply Fr.drew | apply Fr.alloc)))).mono ?_ | with_reducible refine (H3.out _ (HEF.out _ (by repeat (first | exact Fr.refl _ _ | assumption | apply Fr.drew | apply Fr.alloc)))).mono ?_); rintro e Wn ⟨rfl, hbn⟩; have hfn := Fr.below_ (S := fun _ => False) (w := w0) (by repeat (first | exact Fr.refl _ _ | assumption | apply Fr.drew | apply Fr.alloc)) hbn); go_simp
        refine hK.out _ _ (HG.out _ (by repeat (first | exact Fr.refl _ _ | assumption | apply Fr.drew | apply Fr.alloc))) (fun hS2 => ?_)
        clear hK K hS
        have hS := hS2
        clear hS2
        try simp only [Act.put, List.setIfInBounds_toArray, List.set_cons_zero, List.set_cons_succ]
        refine wpAnyH_ready (rs := [11]) (by kernel_rfl) (by simp) ?_
        refine AllReadyH.cons rfl (fun K hK => ?_) AllReadyH.nil
        rw [if_pos (by rfl)]
        go_simp
        (go_at_call 26; (first | with_reducible refine (H0.out _ (HEF.out _ (by repeat (first | exact Fr.refl _ _ | assumption | apply Fr.drew | apply Fr.alloc)))).mono ?_ | with_reducible refine (H1.out _ (HEF.out _ (by repeat (first | exact Fr.refl _ _ | assumption | apply Fr.drew | apply Fr.alloc)))).mono ?_ | with_reducible refine (H2.out _ (HEF.out _ (by repeat (first | exact Fr.refl _ _ | assumption | apply Fr.drew | apply Fr.alloc)))).mono ?_ | with_reducible refine (H3.out _ (HEF.out _ (by repeat (first | exact Fr.refl _ _ | assumption | apply Fr.drew | apply Fr.alloc)))).mono ?_); rintro e Wn ⟨rfl, hbn⟩; have hfn := Fr.below_ (S := fun _ => False) (w := w0) (by repeat (first | exact Fr.refl _ _ | assumption | apply Fr.drew | apply Fr.alloc)) hbn); go_simp
        refine hK.out _ _ (HG.out _ (by repeat (first | exact Fr.refl _ _ | assumption | apply Fr.drew | apply Fr.alloc))) (fun hS2 => ?_)
        clear hK K hS
        have hS := hS2
        clear hS2
        try simp only [Act.put, List.setIfInBounds_toArray, List.set_cons_zero, List.set_cons_succ]
        refine wpAnyH_ready (rs := [15]) (by kernel_rfl) (by simp) ?_
        refine AllReadyH.cons rfl (fun K hK => ?_) AllReadyH.nil
        rw [if_pos (by rfl)]
        go_simp
        (first | (go_at_call 15; with_reducible refine (HPD.out _ (HCF.out _ (by repeat (first | exact Fr.refl _ _ | assumption | apply Fr.drew | apply Fr.alloc)))).mono ?_; rintro e Wn ⟨rfl, hbn⟩; have hfn := Fr.below_ (S := fun _ => False) (w := w0) (by repeat (first | exact Fr.refl _ _ | assumption | apply Fr.drew | apply Fr.alloc)) hbn) | (go_at_call 15; with_reducible refine (HPI.out _ _ _ (by repeat (first | exact (HCC.out _).2 | exact HCD.out | refine Kd.C_below ?_ (by assumption))) (HCC.out _).1).mono ?_; rintro e Wn ⟨rfl, hbn⟩; have hfn := Fr.below_ (S := fun _ => False) (w := w0) (by repeat (first | exact Fr.refl _ _ | assumption | apply Fr.drew | apply Fr.alloc)) hbn)); go_simp
        refine hK.out _ _ (HG.out _ (by repeat (first | exact Fr.refl _ _ | assumption | apply Fr.drew | apply Fr.alloc))) (fun hS2 => ?_)
        clear hK K hS
        have hS := hS2
        clear hS2
        try simp only [Act.put, List.setIfInBounds_toArray, List.set_cons_zero, List.set_cons_succ]
        refine takeD 16 20 (v := ?_) rfl rfl (by kernel_rfl) (by kernel_rfl) (by kernel_rfl) (fun _ _ _ h => h) (Or.inl ⟨by rfl, ?_⟩) hS ?_
        rotate_left 1
        focus (intro w hSw; (try dsimp only at hSw); go_simp; (try with_reducible rfl); done)
        try simp only [Act.put, List.setIfInBounds_toArray, List.set_cons_zero, List.set_cons_succ]
        refine wpAnyH_ready (rs := [19]) (by kernel_rfl) (by simp) ?_
        refine AllReadyH.cons rfl (fun K hK => ?_) AllReadyH.nil
        rw [if_pos (by rfl)]
        go_simp
        (first | (go_at_call 15; with_reducible refine (HPD.out _ (HCF.out _ (by repeat (first | exact Fr.refl _ _ | assumption | apply Fr.drew | apply Fr.alloc)))).mono ?_; rintro e Wn ⟨rfl, hbn⟩; have hfn := Fr.below_ (S := fun _ => False) (w := w0) (by repeat (first | exact Fr.refl _ _ | assumption | apply Fr.drew | apply Fr.alloc)) hbn) | (go_at_call 15; with_reducible refine (HPI.out _ _ _ (by repeat (first | exact (HCC.out _).2 | exact HCD.out | refine Kd.C_below ?_ (by assumption))) (HCC.out _).1).mono ?_; rintro e Wn ⟨rfl, hbn⟩; have hfn := Fr.below_ (S := fun _ => False) (w := w0) (by repeat (first | exact Fr.refl _ _ | assumption | apply Fr.drew | apply Fr.alloc)) hbn)); go_simp
        refine hK.out _ _ (HG.out _ (by repeat (first | exact Fr.refl _ _ | assumption | apply Fr.drew | apply Fr.alloc))) (fun hS2 => ?_)
        clear hK K hS
        have hS := hS2
        clear hS2
        try simp only [Act.put, List.setIfInBounds_toArray, List.set_cons_zero, List.set_cons_succ]
        refine takeD 20 24 (v := ?_) rfl rfl (by kernel_rfl) (by kernel_rfl) (by kernel_rfl) (fun _ _ _ h => h) (Or.inl ⟨by rfl, ?_⟩) hS ?_
        rotate_left 1
        focus (intro w hSw; (try dsimp only at hSw); go_simp; (try with_reducible rfl); done)
        try simp only [Act.put, List.setIfInBounds_toArray, List.set_cons_zero, List.set_cons_succ]
        refine wpAnyH_ready (rs := [21]) (by kernel_rfl) (by simp) ?_
        refine AllReadyH.cons rfl (fun K hK => ?_) AllReadyH.nil
        rw [if_pos (by rfl)]
        go_simp
        refine hK.out _ _ (HG.out _ (by repeat (first | exact Fr.refl _ _ | assumption | apply Fr.drew | apply Fr.alloc))) (fun hS2 => ?_)
        clear hK K hS
        have hS := hS2
        clear hS2
        try simp only [Act.put, List.setIfInBounds_toArray, List.set_cons_zero, List.set_cons_succ]
        refine takeD 22 3 (v := ?_) rfl rfl (by kernel_rfl) (by kernel_rfl) (by kernel_rfl) (fun _ _ _ h => h) (Or.inl ⟨by rfl, ?_⟩) hS ?_
        rotate_left 1
        focus (intro w hSw; (try dsimp only at hSw); go_simp; (try with_reducible rfl); done)
        try simp only [Act.put, List.setIfInBounds_toArray, List.set_cons_zero, List.set_cons_succ]
        refine wpAnyH_done (by kernel_rfl) ?_ _
        go_wp2_with (go_at_call 27; with_reducible refine (HJ.out _).mono ?_; rintro e Wz ⟨rfl, hbz⟩; have hfz := Fr.below_ (S := fun _ => False) (w := w0) (Fr.alloc (by assumption) _) hbz)
        go_ret
        exact ⟨congrArg (fun z => Ending.returned (.string z)) HBT.out, HB0.out.trans (hfz.f_below.mono HB0.out.size)⟩
    · rw [if_pos (by rfl)]
      go_simp
      refine hK.out _ _ (HG.out _ (by repeat (first | exact Fr.refl _ _ | assumption | apply Fr.drew | apply Fr.alloc))) (fun hS2 => ?_)
      clear hK K hS
      have hS := hS2
      clear hS2
      try simp only [Act.put, List.setIfInBounds_toArray, List.set_cons_zero, List.set_cons_succ]
      refine wpAnyH_ready (rs := [5]) (by kernel_rfl) (by simp) ?_
      refine AllReadyH.cons rfl (fun K hK => ?_) AllReadyH.nil
      rw [if_pos (by rfl)]
      go_simp
      (go_at_call 26; (first | with_reducible refine (H0.out _ (HEF.out _ (by repeat (first | exact Fr.refl _ _ | assumption | apply Fr.drew | apply Fr.alloc)))).mono ?_ | with_reducible refine (H1.out _ (HEF.out _ (by repeat (first | exact Fr.refl _ _ | assumption | apply Fr.drew | apply Fr.alloc)))).mono ?_ | with_reducible refine (H2.out _ (HEF.out _ (by repeat (first | exact Fr.refl _ _ | assumption | apply Fr.drew | apply Fr.alloc)))).mono ?_ | with_reducible refine (H3.out _ (HEF.out _ (by repeat (first | exact Fr.refl _ _ | assumption | apply Fr.drew | apply Fr.alloc)))).mono ?_); rintro e Wn ⟨rfl, hbn⟩; have hfn := Fr.below_ (S := fun _ => False) (w := w0) (by repeat (first | exact Fr.refl _ _ | assumption | apply Fr.drew | apply Fr.alloc)) hbn); go_simp
      refine hK.out _ _ (HG.out _ (by repeat (first | exact Fr.refl _ _ | assumption | apply Fr.drew | apply Fr.alloc))) (fun hS2 => ?_)
      clear hK K hS
      have hS := hS2
      clear hS2
      try simp only [Act.put, List.setIfInBounds_toArray, List.set_cons_zero, List.set_cons_succ]
      refine wpAnyH_ready (rs := [8]) (by kernel_rfl) (by simp) ?_
      refine AllReadyH.cons rfl (fun K hK => ?_) AllReadyH.nil
      rw [if_pos (by rfl)]
      go_simp
      (go_at_call 26; (first | with_reducible refine (H0.out _ (HEF.out _ (by repeat (first | exact Fr.refl _ _ | assumption | apply Fr.drew | apply Fr.alloc)))).mono ?_ | with_reducible refine (H1.out _ (HEF.out _ (by repeat (first | exact Fr.refl _ _ | assumption | apply Fr.drew | apply Fr.alloc)))).mono ?_ | with_reducible refine (H2.out _ (HEF.out _ (by repeat (first | exact Fr.refl _ _ | assumption | apply Fr.drew | apply Fr.alloc)))).mono ?_ | with_reducible refine (H3.out _ (HEF.out _ (by repeat (first | exact Fr.refl _ _ | assumption | apply Fr.drew | apply Fr.alloc)))).mono ?_); rintro e Wn ⟨rfl, hbn⟩; have hfn := Fr.below_ (S := fun _ => False) (w := w0) (by repeat (first | exact Fr.refl _ _ | assumption | apply Fr.drew | apply Fr.alloc)) hbn); go_simp
      refine hK.out _ _ (HG.out _ (by repeat (first | exact Fr.refl _ _ | assumption | apply Fr.drew | apply Fr.alloc))) (fun hS2 => ?_)
      clear hK K hS
      have hS := hS2
      clear hS2
      try simp only [Act.put, List.setIfInBounds_toArray, List.set_cons_zero, List.set_cons_succ]
      refine wpAnyH_ready (rs := [11]) (by kernel_rfl) (by simp) ?_
      refine AllReadyH.cons rfl (fun K hK => ?_) AllReadyH.nil
      rw [if_pos (by rfl)]
      go_simp
      (go_at_call 26; (first | with_reducible refine (H0.out _ (HEF.out _ (by repeat (first | exact Fr.refl _ _ | assumption | apply Fr.drew | apply Fr.alloc)))).mono ?_ | with_reducible refine (H1.out _ (HEF.out _ (by repeat (first | exact Fr.refl _ _ | assumption | apply Fr.drew | apply Fr.alloc)))).mono ?_ | with_reducible refine (H2.out _ (HEF.out _ (by repeat (first | exact Fr.refl _ _ | assumption | apply Fr.drew | apply Fr.alloc)))).mono ?_ | with_reducible refine (H3.out _ (HEF.out _ (by repeat (first | exact Fr.refl _ _ | assumption | apply Fr.drew | apply Fr.alloc)))).mono ?_); rintro e Wn ⟨rfl, hbn⟩; have hfn := Fr.below_ (S := fun _ => False) (w := w0) (by repeat (first | exact Fr.refl _ _ | assumption | apply Fr.drew | apply Fr.alloc)) hbn); go_simp
      refine hK.out _ _ (HG.out _ (by repeat (first | exact Fr.refl _ _ | assumption | apply Fr.drew | apply Fr.alloc))) (fun hS2 => ?_)
      clear hK K hS
      have hS := hS2
      clear hS2
      try simp only [Act.put, List.setIfInBounds_toArray, List.set_cons_zero, List.set_cons_succ]
      refine wpAnyH_ready (rs := [15]) (by kernel_rfl) (by simp) ?_
      refine AllReadyH.cons rfl (fun K hK => ?_) AllReadyH.nil
      rw [if_pos (by rfl)]
      go_simp
      (first | (go_at_call 15; with_reducible refine (HPD.out _ (HCF.out _ (by repeat (first | exact Fr.refl _ _ | assumption | apply Fr.drew | apply Fr.alloc)))).mono ?_; rintro e Wn ⟨rfl, hbn⟩; have hfn := Fr.below_ (S := fun _ => False) (w := w0) (by repeat (first | exact Fr.refl _ _ | assumption | apply Fr.drew | apply Fr.alloc)) hbn) | (go_at_call 15; with_reducible refine (HPI.out _ _ _ (by repeat (first | exact (HCC.out _).2 | exact HCD.out | refine Kd.C_below ?_ (by assumption))) (HCC.out _).1).mono ?_; rintro e Wn ⟨rfl, hbn⟩; have hfn := Fr.below_ (S := fun _ => False) (w := w0) (by repeat (first | exact Fr.refl _ _ | assumption | apply Fr.drew | apply Fr.alloc)) hbn)); go_simp
      refine hK.out _ _ (HG.out _ (by repeat (first | exact Fr.refl _ _ | assumption | apply Fr.drew | apply Fr.alloc))) (fun hS2 => ?_)
      clear hK K hS
      have hS := hS2
      clear hS2
      try simp only [Act.put, List.setIfInBounds_toArray, List.set_cons_zero, List.set_cons_succ]
      refine takeD 16 20 (v := ?_) rfl rfl (by kernel_rfl) (by kernel_rfl) (by kernel_rfl) (fun _ _ _ h => h) (Or.inl ⟨by rfl, ?_⟩) hS ?_
      rotate_left 1
      focus (intro w hSw; (try dsimp only at hSw); go_simp; (try with_reducible rfl); done)
      try simp only [Act.put, List.setIfInBounds_toArray, List.set_cons_zero, List.set_cons_succ]
      refine wpAnyH_ready (rs := [19]) (by kernel_rfl) (by simp) ?_
      refine AllReadyH.cons rfl (fun K hK => ?_) AllReadyH.nil
      rw [if_pos (by rfl)]
      go_simp
      (first | (go_at_call 15; with_reducible refine (HPD.out _ (HCF.out _ (by repeat (first | exact Fr.refl _ _ | assumption | apply Fr.drew | apply Fr.alloc)))).mono ?_; rintro e Wn ⟨rfl, hbn⟩; have hfn := Fr.below_ (S := fun _ => False) (w := w0) (by repeat (first | exact Fr.refl _ _ | assumption | apply Fr.drew | apply Fr.alloc)) hbn) | (go_at_call 15; with_reducible refine (HPI.out _ _ _ (by repeat (first | exact (HCC.out _).2 | exact HCD.out | refine Kd.C_below ?_ (by assumption))) (HCC.out _).1).mono ?_; rintro e Wn ⟨rfl, hbn⟩; have hfn := Fr.below_ (S := fun _ => False) (w := w0) (by repeat (first | exact Fr.refl _ _ | assumption | apply Fr.drew | apply Fr.alloc)) hbn)); go_simp
      refine hK.out _ _ (HG.out _ (by repeat (first | exact Fr.refl _ _ | assumption | apply Fr.drew | apply Fr.alloc))) (fun hS2 => ?_)
      clear hK K hS
      have hS := hS2
      clear hS2
      try simp only [Act.put, List.setIfInBounds_toArray, List.set_cons_zero, List.set_cons_succ]
      refine takeD 20 24 (v := ?_) rfl rfl (by kernel_rfl) (by kernel_rfl) (by kernel_rfl) (fun _ _ _ h => h) (Or.inl ⟨by rfl, ?_⟩) hS ?_
      rotate_left 1
      focus (intro w hSw; (try dsimp only at hSw); go_simp; (try with_reducible rfl); done)
      try simp only [Act.put, List.setIfInBounds_toArray, List.set_cons_zero, List.set_cons_succ]
      refine wpAnyH_ready (rs := [21]) (by kernel_rfl) (by simp) ?_
      refine AllReadyH.cons rfl (fun K hK => ?_) AllReadyH.nil
      rw [if_pos (by rfl)]
      go_simp
      refine hK.out _ _ (HG.out _ (by repeat (first | exact Fr.refl _ _ | assumption | apply Fr.drew | apply Fr.alloc))) (fun hS2 => ?_)
      clear hK K hS
      have hS := hS2
      clear hS2
      try simp only [Act.put, List.setIfInBounds_toArray, List.set_cons_zero, List.set_cons_succ]
      refine takeD 22 3 (v := ?_) rfl rfl (by kernel_rfl) (by kernel_rfl) (by kernel_rfl) (fun _ _ _ h => h) (Or.inl ⟨by rfl, ?_⟩) hS ?_
      rotate_left 1
      focus (intro w hSw; (try dsimp only at hSw); go_simp; (try with_reducible rfl); done)
      try simp only [Act.put, List.setIfInBounds_toArray, List.set_cons_zero, List.set_cons_succ]
      refine wpAnyH_done (by kernel_rfl) ?_ _
      go_wp2_with (go_at_call 27; with_reducible refine (HJ.out _).mono ?_; rintro e Wz ⟨rfl, hbz⟩; have hfz := Fr.below_ (S := fun _ => False) (w := w0) (Fr.alloc (by assumption) _) hbz)
      go_ret
      exact ⟨congrArg (fun z => Ending.returned (.string z)) HBT.out, HB0.out.trans (hfz.f_below.mono HB0.out.size)⟩
  · rw [if_pos (by rfl)]
    go_simp
    refine hK.out _ _ (HG.out _ (by repeat (first | exact Fr.refl _ _ | assumption | apply Fr.drew | apply Fr.alloc))) (fun hS2 => ?_)
    clear hK K hS
    have hS := hS2
    clear hS2
    try simp only [Act.put, List.setIfInBounds_toArray, List.set_cons_zero, List.set_cons_succ]
    refine wpAnyH_ready (rs := [2]) (by kernel_rfl) (by simp) ?_
    refine AllReadyH.cons rfl (fun K hK => ?_) AllReadyH.nil
    rw [if_pos (by rfl)]
    go_simp
    (go_at_call 26; (first | with_reducible refine (H0.out _ (HEF.out _ (by repeat (first | exact Fr.refl _ _ | assumption | apply Fr.drew | apply Fr.alloc)))).mono ?_ | with_reducible refine (H1.out _ (HEF.out _ (by repeat (first | exact Fr.refl _ _ | assumption | apply Fr.drew | apply Fr.alloc)))).mono ?_ | with_reducible refine (H2.out _ (HEF.out _ (by repeat (first | exact Fr.refl _ _ | assumption | apply Fr.drew | apply Fr.alloc)))).mono ?_ | with_reducible refine (H3.out _ (HEF.out _ (by repeat (first | exact Fr.refl _ _ | assumption | apply Fr.drew | apply Fr.alloc)))).mono ?_); rintro e Wn ⟨rfl, hbn⟩; have hfn := Fr.below_ (S := fun _ => False) (w := w0) (by repeat (first | exact Fr.refl _ _ | assumption | apply Fr.drew | apply Fr.alloc)) hbn); go_simp
    refine hK.out _ _ (HG.out _ (by repeat (first | exact Fr.refl _ _ | assumption | apply Fr.drew | apply Fr.alloc))) (fun hS2 => ?_)
    clear hK K hS
    have hS := hS2
    clear hS2
    try simp only [Act.put, List.setIfInBounds_toArray, List.set_cons_zero, List.set_cons_succ]
    refine wpAnyH_ready (rs := [5]) (by kernel_rfl) (by simp) ?_
    refine AllReadyH.cons rfl (fun K hK => ?_) AllReadyH.nil
    rw [if_pos (by rfl)]
    go_simp
    (go_at_call 26; (first | with_reducible refine (H0.out _ (HEF.out _ (by repeat (first | exact Fr.refl _ _ | assumption | apply Fr.drew | apply Fr.alloc)))).mono ?_ | with_reducible refine (H1.out _ (HEF.out _ (by repeat (first | exact Fr.refl _ _ | assumption | apply Fr.drew | apply Fr.alloc)))).mono ?_ | with_reducible refine (H2.out _ (HEF.out _ (by repeat (first | exact Fr.refl _ _ | assumption | apply Fr.drew | apply Fr.alloc)))).mono ?_ | with_reducible refine (H3.out _ (HEF.out _ (by repeat (first | exact Fr.refl _ _ | assumption | apply Fr.drew | apply Fr.alloc)))).mono ?_); rintro e Wn ⟨rfl, hbn⟩; have hfn := Fr.below_ (S := fun _ => False) (w := w0) (by repeat (first | exact Fr.refl _ _ | assumption | apply Fr.drew | apply Fr.alloc)) hbn); go_simp
    refine hK.out _ _ (HG.out _ (by repeat (first | exact Fr.refl _ _ | assumption | apply Fr.drew | apply Fr.alloc))) (fun hS2 => ?_)
    clear hK K hS
    have hS := hS2
    clear hS2
    try simp only [Act.put, List.setIfInBounds_toArray, List.set_cons_zero, List.set_cons_succ]
    refine wpAnyH_ready (rs := [8]) (by kernel_rfl) (by simp) ?_
    refine AllReadyH.cons rfl (fun K hK => ?_) AllReadyH.nil
    rw [if_pos (by rfl)]
    go_simp
    (go_at_call 26; (first | with_reducible refine (H0.out _ (HEF.out _ (by repeat (first | exact Fr.refl _ _ | assumption | apply Fr.drew | apply Fr.alloc)))).mono ?_ | with_reducible refine (H1.out _ (HEF.out _ (by repeat (first | exact Fr.refl _ _ | assumption | apply Fr.drew | apply Fr.alloc)))).mono ?_ | with_reducible refine (H2.out _ (HEF.out _ (by repeat (first | exact Fr.refl _ _ | assumption | apply Fr.drew | apply Fr.alloc)))).mono ?_ | with_reducible refine (H3.out _ (HEF.out _ (by repeat (first | exact Fr.refl _ _ | assumption | apply Fr.drew | apply Fr.alloc)))).mono ?_); rintro e Wn ⟨rfl, hbn⟩; have hfn := Fr.below_ (S := fun _ => False) (w := w0) (by repeat (first | exact Fr.refl _ _ | assumption | apply Fr.drew | apply Fr.alloc)) hbn); go_simp
    refine hK.out _ _ (HG.out _ (by repeat (first | exact Fr.refl _ _ | assumption | apply Fr.drew | apply Fr.alloc))) (fun hS2 => ?_)
    clear hK K hS
    have hS := hS2
    clear hS2
    try simp only [Act.put, List.setIfInBounds_toArray, List.set_cons_zero, List.set_cons_succ]
    refine wpAnyH_ready (rs := [11]) (by kernel_rfl) (by simp) ?_
    refine AllReadyH.cons rfl (fun K hK => ?_) AllReadyH.nil
    rw [if_pos (by rfl)]
    go_simp
    (go_at_call 26; (first | with_reducible refine (H0.out _ (HEF.out _ (by repeat (first | exact Fr.refl _ _ | assumption | apply Fr.drew | apply Fr.alloc)))).mono ?_ | with_reducible refine (H1.out _ (HEF.out _ (by repeat (first | exact Fr.refl _ _ | assumption | apply Fr.drew | apply Fr.alloc)))).mono ?_ | with_reducible refine (H2.out _ (HEF.out _ (by repeat (first | exact Fr.refl _ _ | assumption | apply Fr.drew | apply Fr.alloc)))).mono ?_ | with_reducible refine (H3.out _ (HEF.out _ (by repeat (first | exact Fr.refl _ _ | assumption | apply Fr.drew | apply Fr.alloc)))).mono ?_); rintro e Wn ⟨rfl, hbn⟩; have hfn := Fr.below_ (S := fun _ => False) (w := w0) (by repeat (first | exact Fr.refl _ _ | assumption | apply Fr.drew | apply Fr.alloc)) hbn); go_simp
    refine hK.out _ _ (HG.out _ (by repeat (first | exact Fr.refl _ _ | assumption | apply Fr.drew | apply Fr.alloc))) (fun hS2 => ?_)
    clear hK K hS
    have hS := hS2
    clear hS2
    try simp only [Act.put, List.setIfInBounds_toArray, List.set_cons_zero, List.set_cons_succ]
    refine wpAnyH_ready (rs := [15]) (by kernel_rfl) (by simp) ?_
    refine AllReadyH.cons rfl (fun K hK => ?_) AllReadyH.nil
    rw [if_pos (by rfl)]
    go_simp
    (first | (go_at_call 15; with_reducible refine (HPD.out _ (HCF.out _ (by repeat (first | exact Fr.refl _ _ | assumption | apply Fr.drew | apply Fr.alloc)))).mono ?_; rintro e Wn ⟨rfl, hbn⟩; have hfn := Fr.below_ (S := fun _ => False) (w := w0) (by repeat (first | exact Fr.refl _ _ | assumption | apply Fr.drew | apply Fr.alloc)) hbn) | (go_at_call 15; with_reducible refine (HPI.out _ _ _ (by repeat (first | exact (HCC.out _).2 | exact HCD.out | refine Kd.C_below ?_ (by assumption))) (HCC.out _).1).mono ?_; rintro e Wn ⟨rfl, hbn⟩; have hfn := Fr.below_ (S := fun _ => False) (w := w0) (by repeat (first | exact Fr.refl _ _ | assumption | apply Fr.drew | apply Fr.alloc)) hbn)); go_simp
    refine hK.out _ _ (HG.out _ (by repeat (first | exact Fr.refl _ _ | assumption | apply Fr.drew | apply Fr.alloc))) (fun hS2 => ?_)
    clear hK K hS
    have hS := hS2
    clear hS2
    try simp only [Act.put, List.setIfInBounds_toArray, List.set_cons_zero, List.set_cons_succ]
    refine takeD 16 20 (v := ?_) rfl rfl (by kernel_rfl) (by kernel_rfl) (by kernel_rfl) (fun _ _ _ h => h) (Or.inl ⟨by rfl, ?_⟩) hS ?_
    rotate_left 1
    focus (intro w hSw; (try dsimp only at hSw); go_simp; (try with_reducible rfl); done)
    try simp only [Act.put, List.setIfInBounds_toArray, List.set_cons_zero, List.set_cons_succ]
    refine wpAnyH_ready (rs := [19]) (by kernel_rfl) (by simp) ?_
    refine AllReadyH.cons rfl (fun K hK => ?_) AllReadyH.nil
    rw [if_pos (by rfl)]
    go_simp
    (first | (go_at_call 15; with_reducible refine (HPD.out _ (HCF.out _ (by repeat (first | exact Fr.refl _ _ | assumption | apply Fr.drew | apply Fr.alloc)))).mono ?_; rintro e Wn ⟨rfl, hbn⟩; have hfn := Fr.below_ (S := fun _ => False) (w := w0) (by repeat (first | exact Fr.refl _ _ | assumption | apply Fr.drew | apply Fr.alloc)) hbn) | (go_at_call 15; with_reducible refine (HPI.out _ _ _ (by repeat (first | exact (HCC.out _).2 | exact HCD.out | refine Kd.C_below ?_ (by assumption))) (HCC.out _).1).mono ?_; rintro e Wn ⟨rfl, hbn⟩; have hfn := Fr.below_ (S := fun _ => False) (w := w0) (by repeat (first | exact Fr.refl _ _ | assumption | apply Fr.drew | apply Fr.alloc)) hbn)); go_simp
    refine hK.out _ _ (HG.out _ (by repeat (first | exact Fr.refl _ _ | assumption | apply Fr.drew | apply Fr.alloc))) (fun hS2 => ?_)
    clear hK K hS
    have hS := hS2
    clear hS2
    try simp only [Act.put, List.setIfInBounds_toArray, List.set_cons_zero, List.set_cons_succ]
    refine takeD 20 24 (v := ?_) rfl rfl (by kernel_rfl) (by kernel_rfl) (by kernel_rfl) (fun _ _ _ h => h) (Or.inl ⟨by rfl, ?_⟩) hS ?_
    rotate_left 1
    focus (intro w hSw; (try dsimp only at hSw); go_simp; (try with_reducible rfl); done)
    try simp only [Act.put, List.setIfInBounds_toArray, List.set_cons_zero, List.set_cons_succ]
    refine wpAnyH_ready (rs := [21]) (by kernel_rfl) (by simp) ?_
    refine AllReadyH.cons rfl (fun K hK => ?_) AllReadyH.nil
    rw [if_pos (by rfl)]
    go_simp
    refine hK.out _ _ (HG.out _ (by repeat (first | exact Fr.refl _ _ | assumption | apply Fr.drew | apply Fr.alloc))) (fun hS2 => ?_)
    clear hK K hS
    have hS := hS2
    clear hS2
    try simp only [Act.put, List.setIfInBounds_toArray, List.set_cons_zero, List.set_cons_succ]
    refine takeD 22 3 (v := ?_) rfl rfl (by kernel_rfl) (by kernel_rfl) (by kernel_rfl) (fun _ _ _ h => h) (Or.inl ⟨by rfl, ?_⟩) hS ?_
    rotate_left 1
    focus (intro w hSw; (try dsimp only at hSw); go_simp; (try with_reducible rfl); done)
    try simp only [Act.put, List.setIfInBounds_toArray, List.set_cons_zero, List.set_cons_succ]
    refine wpAnyH_done (by kernel_rfl) ?_ _
    go_wp2_with (go_at_call 27; with_reducible refine (HJ.out _).mono ?_; rintro e Wz ⟨rfl, hbz⟩; have hfz := Fr.below_ (S := fun _ => False) (w := w0) (Fr.alloc (by assumption) _) hbz)
    go_ret
    exact ⟨congrArg (fun z => Ending.returned (.string z)) HBT.out, HB0.out.trans (hfz.f_below.mono HB0.out.size)⟩
end Go.Proofs.YtbkhoepoeaiccaaDoor

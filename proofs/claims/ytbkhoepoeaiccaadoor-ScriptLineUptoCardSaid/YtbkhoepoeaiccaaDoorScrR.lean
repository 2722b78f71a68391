/- read: the program's step of a line. -/
import Derived.Test.YtbkhoepoeaiccaaDoorScrN
import Derived.Test.YtbkhoepoeaiccaaDoorScrO
import Derived.Laws.ResultCell
namespace Go.Proofs.YtbkhoepoeaiccaaDoor
open Go.RowKit Go.Shelf Go.Proofs.YtbkhoepoeaiccaaDoorW.PrintWords

/-- The words of a line, as the library's Split lays them. -/
theorem Split_any (s : List UInt8) (hs : s.length < 4294967281) : ∃ (bws : List ByteArray) (N : Nat), bws.length = N ∧ bws.map (·.data.toList) = splitL 32 s ∧ ∀ W, Env W → Calls Tryd.prog 29 #[.string ⟨s.toArray⟩, .string ⟨#[32]⟩] W fun e w' => e = .returned (.slice (some ⟨W.heap.size, 0, none⟩) N N) ∧ w' = W.alloc (.cells (bws.map Value.string).toArray 9) := by
  have h0 := split_lib 32 ⟨s.toArray⟩
  refine ⟨Lib.splitB ⟨#[32]⟩ 0 (Lib.countB ⟨s.toArray⟩ ⟨#[32]⟩) ⟨s.toArray⟩, Lib.countB ⟨s.toArray⟩ ⟨#[32]⟩ + 1, Lib.splitB_all _ (by decide) 0 _ _ rfl, by rw [h0], fun W hE => ?_⟩
  obtain ⟨m, hm⟩ := hE.maxLen
  exact Tryd.strings_Split ⟨s.toArray⟩ ⟨#[32]⟩ m W (by rw [size_str]; exact hs) hm (by decide)
theorem splitL_len (c : UInt8) (l : List UInt8) : ∀ w ∈ splitL c l, w.length ≤ l.length := by
  induction l with
  | nil => intro w hw; simp [splitL] at hw; rw [hw]; simp
  | cons x l ih =>
    intro w hw
    unfold splitL at hw
    split at hw
    · rcases List.mem_cons.1 hw with h | h
      · rw [h]; simp
      · have := ih w h; simp only [List.length_cons]; omega
    · split at hw
      · rw [List.mem_singleton.1 hw]; simp
      · rename_i ws he
        rcases List.mem_cons.1 hw with h | h
        · have := ih _ (by rw [he]; exact List.mem_cons_self ..)
          rw [h]; simp only [List.length_cons]; omega
        · have := ih w (by rw [he]; exact List.mem_cons_of_mem _ h)
          simp only [List.length_cons]; omega

/-- unhex, in the words of options. -/
theorem unhex_any (l : List UInt8) (b : ByteArray) (hb : b.data.toList = l) (c : UInt8) (z : Int) (hz : (c.toNat : Int) = z) (hl : l.length ≤ 268435456) (W : World) : Calls Tryd.prog 31 #[.string b, .int .u8 z] W fun e W' => ∃ (A : Option Addr) (n d : Nat), e = .returned (.tuple #[.slice A n d, .bool (bytesL l c).isSome]) ∧ n = ((bytesL l c).getD []).length ∧ n ≤ d ∧ Kd.R (Kd.int .u8) 5 W' W.heap.size (fun _ => True) (.slice A n d) (bl ((bytesL l c).getD [])) ∧ Below W.heap.size W W' := by
  subst hz
  have hs : b.size = l.length := by rw [← hb, Array.length_toList]; rfl
  refine (PUnhex_any W b c (by omega)).mono fun e W' ⟨v, he, hR, hB⟩ => ?_
  rw [hb] at he hR
  have e1 : (bytesAns (bytesL l c)).1 = bl ((bytesL l c).getD []) := by cases bytesL l c <;> rfl
  have e2 : (bytesAns (bytesL l c)).2 = (bytesL l c).isSome := by cases bytesL l c <;> rfl
  rw [e1] at hR
  rw [e2] at he
  obtain ⟨A, d, rfl⟩ := Kd.R_slice hR
  rw [bl_length] at hR he
  have h1 := Kd.R_reads' hR
  exact ⟨A, _, d, he, rfl, by rw [bl_length] at h1; exact h1.2.1, hR, hB⟩
theorem unhexL_len : ∀ (l t : List UInt8), unhexL l = some t → t.length ≤ l.length := fun l t h => by
  rw [hex_unhex l t h, hexL_length]; omega
theorem bytesL_len (l : List UInt8) (c : UInt8) : ((bytesL l c).getD []).length ≤ l.length := by
  cases h : bytesL l c with
  | none => simp
  | some t =>
    rw [(bytesL_iff l c t).1 h]
    simp only [Option.getD_some, List.length_cons, hexL_length]
    omega
theorem load33 {w : World} {g : Nat} {y : St} {A : Option Addr} {n c : Nat} (h : w.heap[g]? = some (.cells #[.int .i64 y.kind, .int .i64 y.a, .int .i64 y.b, .int .i64 y.c, .string ⟨y.id.toArray⟩, .slice A n c] 33 (0, 0))) : (loadVar 33 ⟨g, 0, none⟩).run Tryd.prog w = .ok (stepV y A n c) w := by
  have h0 := cell_at (j := 0) h rfl
  have h1 := cell_at (j := 1) h rfl
  have h2 := cell_at (j := 2) h rfl
  have h3 := cell_at (j := 3) h rfl
  have h4 := cell_at (j := 4) h rfl
  have h5 := cell_at (j := 5) h rfl
  have hu33 := Tryd.underlying33
  unfold stepV
  go_simp
theorem results_step {fn : Func} {p u : Tmp} (h : fn.results = #[.cell p 33, .tmp u]) (tmps : Array Value) {w : World} {g : Nat} {y : St} {A : Option Addr} {n c : Nat} {b : Value} (ha : tmps.getD p undef = .pointer (some ⟨g, 0, none⟩)) (hb : tmps.getD u undef = b)
    (hc : w.heap[g]? = some (.cells #[.int .i64 y.kind, .int .i64 y.a, .int .i64 y.b, .int .i64 y.c, .string ⟨y.id.toArray⟩, .slice A n c] 33 (0, 0))) : (results fn tmps).run Tryd.prog w = .ok (.tuple #[stepV y A n c, b]) w := by
  rw [results_cell_tmp h, ha, hb]
  simp [asAddr, load33 hc]
theorem set_blk {W : World} {g k : Nat} {cs : Array Value} {t : TypeId} {v : Value} (h : W.heap[g]? = some (.cells cs t (0, 0))) : (W.setCell ⟨g, k, none⟩ v).heap[g]? = some (.cells (cs.setIfInBounds k v) t (0, 0)) := by
  have hlt := blk_lt h
  have hx : W.heap[g] = .cells cs t (0, 0) := by
    rw [Array.getElem?_eq_getElem hlt] at h
    injection h
  show (W.heap.modify g _)[g]? = _
  rw [Array.getElem?_eq_getElem (by simpa using hlt), Array.getElem_modify_self, hx]
  rfl
theorem frozen_at {W : World} {g j : Nat} {cs : Array Value} {t : TypeId} (h : W.heap[g]? = some (.cells cs t (0, 0))) : W.frozen? ⟨g, j, none⟩ = false := by
  simp [World.frozen?, h]
/-- A zero step's block, that is stored to. -/
theorem zero33 {W : World} {r : Nat} (h : W.heap[r]? = some (.cells #[.int .i64 0, .int .i64 0, .int .i64 0, .int .i64 0, .string ⟨#[]⟩, .slice none 0 0] 33 (0, 0))) :
    W.cell? ⟨r, 0, none⟩ = some (.int .i64 0) ∧ W.cell? ⟨r, 1, none⟩ = some (.int .i64 0) ∧ W.cell? ⟨r, 2, none⟩ = some (.int .i64 0) ∧ W.cell? ⟨r, 3, none⟩ = some (.int .i64 0) ∧ W.cell? ⟨r, 4, none⟩ = some (.string ⟨#[]⟩) ∧ W.cell? ⟨r, 5, none⟩ = some (.slice none 0 0) ∧ W.frozen? ⟨r, 0, none⟩ = false ∧ W.frozen? ⟨r, 1, none⟩ = false ∧ W.frozen? ⟨r, 2, none⟩ = false ∧ W.frozen? ⟨r, 3, none⟩ = false ∧ W.frozen? ⟨r, 4, none⟩ = false ∧ W.frozen? ⟨r, 5, none⟩ = false :=
  ⟨cell_at h rfl, cell_at h rfl, cell_at h rfl, cell_at h rfl, cell_at h rfl, cell_at h rfl, frozen_at h, frozen_at h, frozen_at h, frozen_at h, frozen_at h, frozen_at h⟩
theorem Fr.set_r {r j : Nat} {w W : World} {u : Value} (h : Fr (fun k => k = r) w W) : Fr (fun k => k = r) w (W.setCell ⟨r, j, none⟩ u) := h.set_ (.inl rfl) u
theorem isSome_none {α : Type} {o : Option α} (h : false = o.isSome) : o = none := by cases o <;> simp_all
/-- A world in which block r has been stored to. -/
def six (W : World) (r : Nat) (a0 a1 a2 a3 a4 a5 : Value) : World := ((((((W.setCell ⟨r, 0, none⟩ a0).setCell ⟨r, 1, none⟩ a1).setCell ⟨r, 2, none⟩ a2).setCell ⟨r, 3, none⟩ a3).setCell ⟨r, 4, none⟩ a4).setCell ⟨r, 5, none⟩ a5)
theorem six_blk {W : World} {r : Nat} (a0 a1 a2 a3 a4 a5 : Value) (h : W.heap[r]? = some (.cells #[.int .i64 0, .int .i64 0, .int .i64 0, .int .i64 0, .string ⟨#[]⟩, .slice none 0 0] 33 (0, 0))) : (six W r a0 a1 a2 a3 a4 a5).heap[r]? = some (.cells #[a0, a1, a2, a3, a4, a5] 33 (0, 0)) :=
  set_blk (set_blk (set_blk (set_blk (set_blk (set_blk h)))))
theorem six_fr {w W : World} {r : Nat} (a0 a1 a2 a3 a4 a5 : Value) (h : Fr (fun k => k = r) w W) : Fr (fun k => k = r) w (six W r a0 a1 a2 a3 a4 a5) := h.set_r.set_r.set_r.set_r.set_r.set_r
theorem drew_blk {W : World} {r : Nat} {o : Option Obj} (h : W.heap[r]? = o) : W.drew.heap[r]? = o := h
/-- An array of ints. -/
def Arr (W : World) (g : Nat) (L : List Int) : Prop := W.heap[g]? = some (.cells (L.map (Value.int .i64)).toArray 51 (0, 0))
theorem Arr_at {W : World} {g : Nat} {L : List Int} (h : Arr W g L) (k : Nat) (hk : k < L.length) : W.cell? ⟨g, k, none⟩ = some (.int .i64 (L.getD k 0)) ∧ W.frozen? ⟨g, k, none⟩ = false ∧ ∀ v, Arr (W.setCell ⟨g, k, none⟩ (.int .i64 v)) g (L.set k v) := by
  unfold Arr at *
  refine ⟨?_, ?_, fun v => ?_⟩
  · simp [World.cell?, h, List.getD_eq_getElem?_getD, List.getElem?_eq_getElem hk]
  · simp [World.frozen?, h]
  · have hlt := blk_lt h
    have hx : W.heap[g] = .cells (L.map (Value.int .i64)).toArray 51 (0, 0) := by
      rw [Array.getElem?_eq_getElem hlt] at h
      injection h
    show (W.heap.modify g _)[g]? = _
    rw [Array.getElem?_eq_getElem (by simpa using hlt), Array.getElem_modify_self, hx]
    simp [List.map_set]
theorem Arr4 {W : World} {g : Nat} {a b c d : Int} (h : Arr W g [a, b, c, d]) : W.cell? ⟨g, 0, none⟩ = some (.int .i64 a) ∧ W.cell? ⟨g, 1, none⟩ = some (.int .i64 b) ∧ W.cell? ⟨g, 2, none⟩ = some (.int .i64 c) ∧ W.cell? ⟨g, 3, none⟩ = some (.int .i64 d) :=
  ⟨cell_at (j := 0) h rfl, cell_at (j := 1) h rfl, cell_at (j := 2) h rfl, cell_at (j := 3) h rfl⟩
theorem Arr_fr {S : Nat → Prop} {W W1 : World} {g : Nat} {L : List Int} (h : Arr W g L) (hf : Fr S W W1) (hg : ¬ S g) : Arr W1 g L := hf.blk h hg
theorem Atoi_ok (l : List UInt8) (b : ByteArray) (hb : b.data.toList = l) (hl : l.length ≤ 268435456) (v : Int) (h : Lib.atoiAll l = .ok v) (W : World) : Calls Tryd.prog 30 #[.string b] W fun e W' => e = .returned (.tuple #[.int .i64 v, .nilIface]) ∧ Below W.heap.size W W' := by
  have hs : b.size = l.length := by rw [← hb, Array.length_toList]; rfl
  refine (Tryd.strconv_Atoi_ok b (by omega) v (by rw [hb]; exact h) W).mono fun e W' ⟨he, hw⟩ => ⟨he, ?_⟩
  rcases hw with rfl | ⟨t, rfl⟩
  · exact Below.refl _ _
  · exact ⟨rfl, rfl, rfl, by simp [Lib.bytesWorld, World.freeze], fun j hj => Lib.bytesWorld_at_old W 5 t j hj⟩
theorem Atoi_no (l : List UInt8) (b : ByteArray) (hb : b.data.toList = l) (hl : l.length ≤ 268435456) (h : ∀ v, Lib.atoiAll l ≠ .ok v) (W : World) (hE : Env W) : Calls Tryd.prog 30 #[.string b] W fun e W' => ∃ (v : Int) (N : Nat), e = .returned (.tuple #[.int .i64 v, .iface 77 (.pointer (some ⟨N, 0, none⟩))]) ∧ Below W.heap.size W W' := by
  have hs : b.size = l.length := by rw [← hb, Array.length_toList]; rfl
  rcases ha : Lib.atoiAll l with v | _ | _
  · exact absurd ha (h v)
  · obtain ⟨tp, p, hv⟩ := hE.syn
    exact (Tryd.strconv_Atoi_syntax_var b (by omega) (by rw [hb]; exact ha) tp p W hv).mono fun e W' ⟨N, he, _, _, hw⟩ => ⟨_, N, he, hw⟩
  · obtain ⟨tp, p, hv⟩ := hE.rng
    exact (Tryd.strconv_Atoi_range_var b (by omega) (by rw [hb]; exact ha) tp p W hv).mono fun e W' ⟨N, he, _, _, hw⟩ => ⟨_, N, he, hw⟩
theorem getD_set {α : Type} (l : List α) (h i : Nat) (x d : α) (hh : h < l.length) : (l.set h x).getD i d = if i = h then x else l.getD i d := by
  rw [List.getD_eq_getElem?_getD, List.getD_eq_getElem?_getD, List.getElem?_set]
  by_cases e : h = i
  · subst e
    rw [if_pos rfl, if_pos hh, if_pos rfl]; rfl
  · rw [if_neg e, if_neg (fun h' => e h'.symm)]
theorem heap3 (w : World) (a b c : Obj) : ∃ w2, w2 = ((w.alloc a).alloc b).alloc c ∧ w2.heap.size = w.heap.size + 3 ∧ w2.heap[w.heap.size]? = some a ∧ w2.heap[w.heap.size + 1]? = some b ∧ w2.heap[w.heap.size + 2]? = some c ∧ Below w.heap.size w w2 := by
  refine ⟨_, rfl, by simp, blk_alloc (blk_alloc (blk_new _ _) _) _, blk_alloc ?_ _, ?_, below_alloc (below_alloc (below_alloc (Below.refl _ _) _) _) _⟩
  · have := blk_new (w.alloc a) b
    simpa using this
  · have := blk_new ((w.alloc a).alloc b) c
    simpa using this
theorem word_at {W : World} {g : Nat} {bws : List ByteArray} (h : W.heap[g]? = some (.cells (bws.map Value.string).toArray 9 (0, 0))) (k : Nat) (hk : k < bws.length) : W.cell? ⟨g, k, none⟩ = some (.string (bws.getD k ⟨#[]⟩)) := by
  refine cell_at h ?_
  simp [List.getD_eq_getElem?_getD, List.getElem?_eq_getElem hk]
set_option maxRecDepth 100000 in
set_option maxHeartbeats 3200000 in
theorem read_any (w : World) (hE : Env w) (s : List UInt8) (hs : s.length ≤ 268435456) :
    Calls Tryd.prog 21 #[.string ⟨s.toArray⟩] w fun e w' => ∃ (y : St) (A : Option Addr) (n c : Nat), e = .returned (.tuple #[stepV y A n c, .bool (readL s).isSome]) ∧ (∀ x, readL s = some x → x = y ∧ Kd.R (Kd.int .u8) 5 w' w.heap.size (fun _ => True) (.slice A n c) (bl x.data)) ∧ Below w.heap.size w w' := by
  obtain ⟨bws, N, hbl, hbm, hsp⟩ := Split_any s (by omega)
  obtain ⟨st, hst⟩ : ∃ st, st = (⟨s.toArray⟩ : ByteArray) := ⟨_, rfl⟩
  rw [← hst] at hsp ⊢
  have hstz : st.size = s.length := by rw [hst, size_str]
  have hzs : (9223372036854775807 < st.size + 1) = False := eq_false (by omega)
  have hzs2 : (st.size + 1 ≤ 9223372036854775807) = True := eq_true (by omega)
  have HST := Aside0.mk hst
  clear hst hstz
  have hu33 := Tryd.underlying33
  have HBM := Aside0.mk hbm
  have HBL := Aside0.mk hbl
  have HSP := Aside0.mk hsp
  have HE := Aside0.mk hE
  have HS := Aside0.mk hs
  clear hbm hsp hE hs hbl
  by_cases hN : N = 6
  · subst hN
    go_enter Tryd.func21, Tryd.ntmps21
    go_wp2_with (go_at_call 29; with_reducible refine (HSP.out _ (HE.out.below (below_alloc (Below.refl _ _) _))).mono ?_; rintro e W1 ⟨rfl, rfl⟩)
    obtain ⟨w3, hw3, hz3, hbr, hbw, hba, hb3⟩ := heap3 w (Obj.cells #[.int .i64 0, .int .i64 0, .int .i64 0, .int .i64 0, .string ⟨#[]⟩, .slice none 0 0] 33) (Obj.cells (bws.map Value.string).toArray 9) (Obj.cells #[.int .i64 0, .int .i64 0, .int .i64 0, .int .i64 0] 51)
    rw [← hw3, show w.heap.size + 1 + 1 = w.heap.size + 2 from rfl]
    obtain ⟨ga, hga⟩ : ∃ ga, ga = w.heap.size + 2 := ⟨_, rfl⟩
    obtain ⟨gw, hgw⟩ : ∃ gw, gw = w.heap.size + 1 := ⟨_, rfl⟩
    obtain ⟨r, hr⟩ : ∃ r, r = w.heap.size := ⟨_, rfl⟩
    rw [← hga, ← hgw, ← hr]
    rw [← hga] at hba
    rw [← hgw] at hbw
    rw [← hr] at hbr
    have hA0 : Arr w3 ga [0, 0, 0, 0] := hba
    go_loopw [20] (fun v20 wr => ∃ (k : Nat) (L : List Int), k ≤ 4 ∧ v20 = .int .i64 (k : Int) ∧ L.length = 4 ∧ Aside0 (Arr wr ga L) ∧ Aside0 (∀ j, j < k → Lib.atoiAll ((splitL 32 s).getD j []) = .ok (L.getD j 0)) ∧ Aside0 (Fr (fun k => k = ga) w3 wr)) (fun v20 _ => 4 - (intOf v20).toNat)
    case atStart => exact ⟨0, [0, 0, 0, 0], by omega, rfl, rfl, ⟨hA0⟩, ⟨fun j hj => by omega⟩, ⟨Fr.refl _ _⟩⟩
    case round =>
      obtain ⟨k, L, hk, rfl, hL, HA, HN, HF⟩ := hrel
      by_cases hlt : k < 4
      · have hwk : wr.cell? ⟨gw, k, none⟩ = some (.string (bws.getD k ⟨#[]⟩)) := word_at (HF.out.blk hbw (fun e => by omega)) k (by rw [HBL.out]; omega)
        have hbk : (bws.getD k ⟨#[]⟩).data.toList = (splitL 32 s).getD k [] := by
          rw [← HBM.out, List.getD_eq_getElem?_getD, List.getD_eq_getElem?_getD, List.getElem?_map, List.getElem?_eq_getElem (by rw [HBL.out]; omega)]
          rfl
        obtain ⟨b, hb⟩ : ∃ b, b = bws.getD k ⟨#[]⟩ := ⟨_, rfl⟩
        rw [← hb] at hwk hbk
        have hwl : ((splitL 32 s).getD k []).length ≤ 268435456 := by
          have hlen : (splitL 32 s).length = 6 := by rw [← HBM.out, List.length_map, HBL.out]
          have := splitL_len 32 s ((splitL 32 s).getD k []) (by rw [List.getD_eq_getElem?_getD, List.getElem?_eq_getElem (by omega)]; exact List.getElem_mem _)
          have := HS.out
          omega
        have HR3 := Aside0.mk (HF.out.blk hbr (fun e => by omega))
        have hbw1 : Below w.heap.size w wr := hb3.trans (HF.out.below (by omega) (fun k hk => by omega))
        have HBW := Aside0.mk hbw1
        by_cases hok : ∃ v, Lib.atoiAll ((splitL 32 s).getD k []) = .ok v
        · obtain ⟨v, hv⟩ := hok
          have HAT := Aside0.mk (Atoi_ok _ b hbk hwl v hv wr)
          have HV := Aside0.mk hv
          have HX := Aside0.mk (And.intro hr (And.intro hga hgw))
          have HZ3 := Aside0.mk hz3
          have HLL := Aside0.mk hL
          clear hbw1 hwl hbk hb hv hbr hbw hba hA0 hb3 hz3 hw3 hr hga hgw hL
          go_wp2_with (go_at_call 30; with_reducible refine HAT.out.mono ?_; rintro e W1 ⟨rfl, hb1⟩; have HF1 := Aside0.mk (Fr.below_ HF.out hb1); obtain ⟨c0, z0, hset⟩ := Arr_at (Arr_fr HA.out (Fr.of_below hb1 (fun _ => False)) (fun h => h)) k (by rw [HLL.out]; exact hlt); have HSET := Aside0.mk (hset v); clear hset hb1)
          go_roundw
          case rel =>
            refine ⟨k + 1, L.set k v, by omega, by go_num, by rw [List.length_set]; exact HLL.out, HSET, ⟨fun j hj => ?_⟩, ⟨HF1.out.set_ (.inl rfl) _⟩⟩
            rw [getD_set L k j v 0 (by rw [HLL.out]; exact hlt)]
            by_cases e : j = k
            · subst e
              rw [if_pos rfl]
              exact HV.out
            · rw [if_neg e]
              exact HN.out j (by omega)
          case measure => simp [intOf]; omega
        · have hno : ∀ v, Lib.atoiAll ((splitL 32 s).getD k []) ≠ .ok v := fun v e => hok ⟨v, e⟩
          have HAT := Aside0.mk (Atoi_no _ b hbk hwl hno wr (HE.out.below hbw1))
          have HNO := Aside0.mk (read_atoi s k hlt hno)
          have HX := Aside0.mk (And.intro hr (And.intro hga hgw))
          clear hbw1 hno hok hwl hbk hb hbr hbw hba hA0 hb3 hz3 hw3 hr hga hgw
          go_wp2_with (go_at_call 30; with_reducible refine HAT.out.mono ?_; rintro e W1 ⟨v, N, rfl, hb1⟩; have HR4 := Aside0.mk ((hb1.block _ (blk_lt HR3.out)).trans HR3.out); have c0 := cell_at (j := 0) HR4.out rfl; have c1 := cell_at (j := 1) HR4.out rfl; have c2 := cell_at (j := 2) HR4.out rfl; have c3 := cell_at (j := 3) HR4.out rfl; have c4 := cell_at (j := 4) HR4.out rfl; have c5 := cell_at (j := 5) HR4.out rfl; have z0 := frozen_at (j := 0) HR4.out; have z1 := frozen_at (j := 1) HR4.out; have z2 := frozen_at (j := 2) HR4.out; have z3 := frozen_at (j := 3) HR4.out; have z4 := frozen_at (j := 4) HR4.out; have z5 := frozen_at (j := 5) HR4.out)
          refine bodyPost_ret (results_step (y := st0) (A := none) (n := 0) (c := 0) rfl _ rfl rfl (set_blk (set_blk (set_blk (set_blk (set_blk (set_blk HR4.out))))))) rfl ?_
          rw [HNO.out]
          have hr0 := HX.out.1
          exact ⟨_, _, _, _, rfl, (fun x hx => by cases hx), ((((((HBW.out.trans (hb1.mono HBW.out.size)).setCell (Nat.le_of_eq hr0.symm) _).setCell (Nat.le_of_eq hr0.symm) _).setCell (Nat.le_of_eq hr0.symm) _).setCell (Nat.le_of_eq hr0.symm) _).setCell (Nat.le_of_eq hr0.symm) _).setCell (Nat.le_of_eq hr0.symm) _⟩
      · obtain rfl : k = 4 := by omega
        obtain ⟨n0, n1, n2, n3, rfl⟩ : ∃ n0 n1 n2 n3, L = [n0, n1, n2, n3] := by
          rcases L with _ | ⟨a, _ | ⟨b, _ | ⟨c, _ | ⟨d, _ | ⟨e, L⟩⟩⟩⟩⟩ <;> first | exact ⟨_, _, _, _, rfl⟩ | (simp at hL)
        have hlen : (splitL 32 s).length = 6 := by rw [← HBM.out, List.length_map, HBL.out]
        have hww : ∀ k, k < 6 → wr.cell? ⟨gw, k, none⟩ = some (.string (bws.getD k ⟨#[]⟩)) ∧ (bws.getD k ⟨#[]⟩).data.toList = (splitL 32 s).getD k [] ∧ ((splitL 32 s).getD k []).length ≤ 268435456 := fun k hk => by
          refine ⟨word_at (HF.out.blk hbw (fun e => by omega)) k (by rw [HBL.out]; omega), ?_, ?_⟩
          · rw [← HBM.out, List.getD_eq_getElem?_getD, List.getD_eq_getElem?_getD, List.getElem?_map, List.getElem?_eq_getElem (by rw [HBL.out]; omega)]
            rfl
          · have := splitL_len 32 s ((splitL 32 s).getD k []) (by rw [List.getD_eq_getElem?_getD, List.getElem?_eq_getElem (by omega)]; exact List.getElem_mem _)
            have := HS.out
            omega
        obtain ⟨hw4, hd4, hl4⟩ := hww 4 (by decide)
        obtain ⟨hw5, hd5, hl5⟩ := hww 5 (by decide)
        obtain ⟨b4, hb4⟩ : ∃ b, b = bws.getD 4 ⟨#[]⟩ := ⟨_, rfl⟩
        obtain ⟨b5, hb5⟩ : ∃ b, b = bws.getD 5 ⟨#[]⟩ := ⟨_, rfl⟩
        rw [← hb4] at hw4 hd4
        rw [← hb5] at hw5 hd5
        have HR3 := Aside0.mk (HF.out.blk hbr (fun e => by omega))
        have hbw1 : Below w.heap.size w wr := hb3.trans (HF.out.below (by omega) (fun k hk => by omega))
        have HBW := Aside0.mk hbw1
        obtain ⟨o4, ho4⟩ : ∃ o, o = bytesL ((splitL 32 s).getD 4 []) 105 := ⟨_, rfl⟩
        obtain ⟨o5, ho5⟩ : ∃ o, o = bytesL ((splitL 32 s).getD 5 []) 120 := ⟨_, rfl⟩
        have HU4 := Aside0.mk (fun W => unhex_any _ b4 hd4 105 105 rfl hl4 W)
        have HU5 := Aside0.mk (fun W => unhex_any _ b5 hd5 120 120 rfl hl5 W)
        rw [← ho4] at HU4
        rw [← ho5] at HU5
        have hle4 : (o4.getD []).length ≤ 268435456 := by rw [ho4]; have := bytesL_len ((splitL 32 s).getD 4 []) 105; omega
        have hle5 : (o5.getD []).length ≤ 268435456 := by rw [ho5]; have := bytesL_len ((splitL 32 s).getD 5 []) 120; omega
        have HLE := Aside0.mk (And.intro hle4 hle5)
        obtain ⟨y, hy⟩ : ∃ y : St, y = ⟨n0, n1, n2, n3, o4.getD [], o5.getD []⟩ := ⟨_, rfl⟩
        have hwf : y.wf := by
          rw [hy]
          exact ⟨atoi_range (HN.out 0 (by decide)), atoi_range (HN.out 1 (by decide)), atoi_range (HN.out 2 (by decide)), atoi_range (HN.out 3 (by decide))⟩
        have HNO4 : Aside0 (o4 = none → readL s = none) := ⟨fun h => read_id s (ho4.symm.trans h)⟩
        have HNO5 : Aside0 (o5 = none → readL s = none) := ⟨fun h => read_data s (ho5.symm.trans h)⟩
        have HALL : Aside0 (∀ i d, o4 = some i → o5 = some d → readL s = if lineL y = s ++ [10] then some y else none) := ⟨fun i d h4 h5 => by
          refine read_all s y (fun j hj => ?_) ?_ ?_ hwf
          · rw [HN.out j hj, hy]
            rcases j with _ | _ | _ | _ | j <;> first | rfl | omega
          · rw [← ho4, h4, hy, h4]; rfl
          · rw [← ho5, h5, hy, h5]; rfl⟩
        have HX := Aside0.mk (And.intro hr (And.intro hga hgw))
        have HZ3 := Aside0.mk hz3
        have HY := Aside0.mk hy
        have HWF := Aside0.mk hwf
        clear hww hlen hd4 hd5 hl4 hl5 hb4 hb5 hbw1 ho4 ho5 hle4 hle5 hy hwf hbr hbw hba hA0 hb3 hz3 hw3 hr hga hgw hL
        obtain ⟨ids, hids⟩ : ∃ ids, ids = (⟨(o4.getD []).toArray⟩ : ByteArray) := ⟨_, rfl⟩
        have HCV : Aside0 (∀ W A c, Kd.C (Kd.int .u8) W A (bl (o4.getD [])).length (bl (o4.getD [])) → (convert 31 9 (.slice A (bl (o4.getD [])).length c)).run Tryd.prog W = .ok (.string ids) W) := ⟨fun W A c hC => by
          rw [hids, ← Lib.Lz.strOfNums_map]
          exact Kd.C_string Tryd.underlying31 Tryd.underlying5 Tryd.underlying9 hC⟩
        rw [bl_length] at HCV
        have HIDS := Aside0.mk hids
        clear hids
        go_wp2_with (first
          | (go_at_call 31; with_reducible refine (HU4.out _).mono ?_; rintro e W1 ⟨A4, m4, c4, rfl, rfl, hmc4, hR4, hb1⟩; have HR4 := Aside0.mk hR4; have HMC4 := Aside0.mk hmc4; have HB1 := Aside0.mk hb1; have hw51 := (hb1.cell (World.block_lt_of_cell? wr _ hw5)).trans hw5; clear hR4 hmc4 hb1)
          | (go_at_call 31; with_reducible refine (HU5.out _).mono ?_; rintro e W2 ⟨A5, m5, c5, rfl, hm5, hmc5, hR5, hb2⟩; have HA2 := Aside0.mk (Arr_fr (Arr_fr HA.out (Fr.of_below HB1.out (fun _ => False)) (fun h => h)) (Fr.of_below hb2 (fun _ => False)) (fun h => h)); obtain ⟨q0, q1, q2, q3⟩ := Arr4 HA2.out; have hcv := HCV.out W2 A4 c4 (Kd.C_below (R_C HR4.out) hb2); have HR5 := Aside0.mk hR5; have HM5 := Aside0.mk (And.intro hm5 hmc5); have HB2 := Aside0.mk hb2; clear hR5 hm5 hmc5 hb2))
        obtain ⟨w4, hw4, hz4, hg4, hb4⟩ := heap1 W2 (Obj.cells #[.int .i64 n0, .int .i64 n1, .int .i64 n2, .int .i64 n3, .string ids, .slice A5 m5 c5] 33)
        obtain ⟨g, hg⟩ : ∃ g, g = W2.heap.size := ⟨_, rfl⟩
        rw [← hw4, ← hg]
        rw [← hg] at hg4
        have hrl : r < W2.heap.size := by have := blk_lt HR3.out; have := HB1.out.size; have := HB2.out.size; omega
        have hb4w : Below wr.heap.size wr w4 := (HB1.out.trans (HB2.out.mono HB1.out.size)).trans (hb4.mono (Nat.le_trans HB1.out.size HB2.out.size))
        have hR4 := (hb4w.block r (blk_lt HR3.out)).trans HR3.out
        have HG : Aside0 (∀ W, Fr (fun k => k = r) w4 W → W.cell? ⟨g, 0, none⟩ = some (.int .i64 n0) ∧ W.cell? ⟨g, 1, none⟩ = some (.int .i64 n1) ∧ W.cell? ⟨g, 2, none⟩ = some (.int .i64 n2) ∧ W.cell? ⟨g, 3, none⟩ = some (.int .i64 n3) ∧ W.cell? ⟨g, 4, none⟩ = some (.string ids) ∧ W.cell? ⟨g, 5, none⟩ = some (.slice A5 m5 c5) ∧ Aside0 (Fr (fun k => k = r) w4 W)) := ⟨fun W hW => by
          have h1 := hW.blk hg4 (fun h => by omega)
          exact ⟨cell_at h1 rfl, cell_at h1 rfl, cell_at h1 rfl, cell_at h1 rfl, cell_at h1 rfl, cell_at h1 rfl, ⟨hW⟩⟩⟩
        have hW4 : Below w.heap.size w w4 := HBW.out.trans (hb4w.mono HBW.out.size)
        have hE4 := HE.out.below hW4
        have hC4 : Kd.C (Kd.int .u8) w4 A5 m5 (bl y.data) := by
          rw [HY.out]
          exact Kd.C_below (R_C HR5.out) hb4
        have hR5' : Kd.R (Kd.int .u8) 5 w4 W1.heap.size (fun _ => True) (.slice A5 m5 c5) (bl y.data) := by
          rw [HY.out]
          exact R_fr HR5.out (Fr.of_below hb4 (fun _ => False)) (fun _ _ _ _ h => h)
        have hyl : y.id.length ≤ 268435456 ∧ m5 ≤ 268435456 := by
          rw [HY.out, HM5.out.1]
          exact HLE.out
        have hline := fun W (hW : Fr (fun _ => False) w4 W) => line_any W (hE4.fr hW) y HWF.out A5 m5 c5 (Kd.C_below hC4 hW.f_below) HM5.out.2 hyl.2 hyl.1
        obtain ⟨ls, hls⟩ : ∃ ls, ls = (⟨(lineL y).toArray⟩ : ByteArray) := ⟨_, rfl⟩
        rw [← hls] at hline
        have hstep : stepV y A5 m5 c5 = .agg #[.int .i64 n0, .int .i64 n1, .int .i64 n2, .int .i64 n3, .string ids, .slice A5 m5 c5] := by
          unfold stepV
          rw [HY.out, HIDS.out]
        rw [hstep] at hline
        have HLN := Aside0.mk hline
        have HLS := Aside0.mk hls
        have HW4 := Aside0.mk (And.intro hW4 (And.intro hR4 (And.intro hR5' hrl)))
        have HSTP := Aside0.mk hstep
        have hxx : ∀ x, readL s = some x → x = y := fun x hx => by
          cases h4 : o4 with
          | none => rw [HNO4.out h4] at hx; cases hx
          | some i =>
            cases h5 : o5 with
            | none => rw [HNO5.out h5] at hx; cases hx
            | some d =>
              rw [HALL.out i d h4 h5] at hx
              split at hx
              · injection hx with hx; exact hx.symm
              · cases hx
        have hrw : r < W1.heap.size := by have := blk_lt HR3.out; have := HB1.out.size; omega
        have hbw1 : w.heap.size ≤ W1.heap.size := by have := HBW.out.size; have := HB1.out.size; omega
        have HFIN : Aside0 (∀ (W5 : World) (b : Bool), Fr (fun k => k = r) w4 W5 → W5.heap[r]? = some (.cells #[.int .i64 n0, .int .i64 n1, .int .i64 n2, .int .i64 n3, .string ids, .slice A5 m5 c5] 33 (0, 0)) → b = (readL s).isSome → W5.heap[r]? = some (.cells #[.int .i64 y.kind, .int .i64 y.a, .int .i64 y.b, .int .i64 y.c, .string ⟨y.id.toArray⟩, .slice A5 m5 c5] 33 (0, 0)) ∧ ∃ (y' : St) (A : Option Addr) (n c : Nat), Ending.returned (.tuple #[stepV y A5 m5 c5, .bool b]) = .returned (.tuple #[stepV y' A n c, .bool (readL s).isSome]) ∧ (∀ x, readL s = some x → x = y' ∧ Kd.R (Kd.int .u8) 5 W5 w.heap.size (fun _ => True) (.slice A n c) (bl x.data)) ∧ Below w.heap.size w W5) := ⟨fun W5 b hF hB hb => by
          refine ⟨?_, y, A5, m5, c5, by rw [hb], fun x hx => ?_, hW4.trans (hF.below hW4.size (fun k hk => by have := HX.out.1; omega))⟩
          · rw [hB, HY.out]
            simp only []
            rw [HIDS.out]
          · obtain rfl := hxx x hx
            exact ⟨rfl, Kd.R_lower (R_fr hR5' hF (fun k _ hk _ e => by omega)) hbw1⟩⟩
        have HCMP : Aside0 (o4.isSome = true → o5.isSome = true → (ls.toList == (st ++ ⟨#[10]⟩).toList) = (readL s).isSome) := ⟨fun h4 h5 => by
          obtain ⟨i, h4⟩ := Option.isSome_iff_exists.1 h4
          obtain ⟨d, h5⟩ := Option.isSome_iff_exists.1 h5
          have e1 : ls.toList = lineL y := by rw [hls, ByteArray.toList_eq]
          have e2 : (st ++ ⟨#[10]⟩ : ByteArray).toList = s ++ [10] := by rw [HST.out, show (⟨s.toArray⟩ ++ ⟨#[10]⟩ : ByteArray) = ⟨(s ++ [10]).toArray⟩ from app_str s [10], ByteArray.toList_eq]
          rw [e1, e2, HALL.out i d h4 h5]
          by_cases h : lineL y = s ++ [10]
          · rw [if_pos h, h]; simp
          · rw [if_neg h]; simpa using h⟩
        have HRB : Aside0 (∀ W3, Below w4.drew.heap.size w4.drew W3 → Aside0 (W3.heap[r]? = some (.cells #[.int .i64 0, .int .i64 0, .int .i64 0, .int .i64 0, .string ⟨#[]⟩, .slice none 0 0] 33 (0, 0)))) := ⟨fun W3 h => ⟨(h.block r (blk_lt hR4)).trans hR4⟩⟩
        have S1 := HG.out w4 (Fr.refl _ _)
        have HG4 := Aside0.mk (And.intro hg hz4)
        have hR4' := hR4
        obtain ⟨c0, c1, c2, c3, c4', c5', z0, z1, z2, z3, z4, z5⟩ := zero33 hR4'
        clear hxx hrw hbw1 hw4 hz4 hg4 hb4 hg hrl hb4w hR4 hW4 hE4 hC4 hR5' hyl hline hls hstep hR4' q0 q1 q2 q3 hcv hw5 hw51
        obtain ⟨p4, hp4⟩ : ∃ p, p = o4.isSome := ⟨_, rfl⟩
        obtain ⟨p5, hp5⟩ : ∃ p, p = o5.isSome := ⟨_, rfl⟩
        rw [← hp4, ← hp5]
        have HP := Aside0.mk (And.intro hp4 hp5)
        clear hp4 hp5
        cases p4 with
        | false =>
          cases p5 with
          | false =>
            refine wp_region_held_drew (S := (fun W => W.cell? ⟨g, 0, none⟩ = some (.int .i64 n0) ∧ W.cell? ⟨g, 1, none⟩ = some (.int .i64 n1) ∧ W.cell? ⟨g, 2, none⟩ = some (.int .i64 n2) ∧ W.cell? ⟨g, 3, none⟩ = some (.int .i64 n3) ∧ W.cell? ⟨g, 4, none⟩ = some (.string ids) ∧ W.cell? ⟨g, 5, none⟩ = some (.slice A5 m5 c5) ∧ Aside0 (Fr (fun k => k = r) w4 W))) (by kernel_rfl) (HG.out _ (by repeat (first | with_reducible exact Fr.refl _ _ | with_reducible assumption | with_reducible refine Fr.drew ?_ | with_reducible refine Fr.set_r ?_))) (fun hS => ?_)
            refine takeD 0 64 (v := ?_) rfl rfl (by kernel_rfl) (by kernel_rfl) (by kernel_rfl) (fun _ _ _ h => h) (Or.inl ⟨by rfl, ?_⟩) hS ?_
            rotate_left 1
            focus (intro w hSw; (try dsimp only at hSw); go_simp; (try with_reducible rfl); done)
            try simp only [Act.put, List.setIfInBounds_toArray, List.set_cons_zero, List.set_cons_succ]
            refine takeD 1 65 (v := ?_) rfl rfl (by kernel_rfl) (by kernel_rfl) (by kernel_rfl) (fun _ _ _ h => h) (Or.inl ⟨by rfl, ?_⟩) hS ?_
            rotate_left 1
            focus (intro w hSw; (try dsimp only at hSw); go_simp; (try with_reducible rfl); done)
            try simp only [Act.put, List.setIfInBounds_toArray, List.set_cons_zero, List.set_cons_succ]
            refine takeD 2 66 (v := ?_) rfl rfl (by kernel_rfl) (by kernel_rfl) (by kernel_rfl) (fun _ _ _ h => h) (Or.inl ⟨by rfl, ?_⟩) hS ?_
            rotate_left 1
            focus (intro w hSw; (try dsimp only at hSw); go_simp; (try with_reducible rfl); done)
            try simp only [Act.put, List.setIfInBounds_toArray, List.set_cons_zero, List.set_cons_succ]
            refine takeD 3 67 (v := undef) rfl rfl (by kernel_rfl) (by kernel_rfl) (by kernel_rfl) (fun _ _ _ h => h) (Or.inr ⟨by rfl, rfl⟩) hS ?_
            try simp only [Act.put, List.setIfInBounds_toArray, List.set_cons_zero, List.set_cons_succ]
            refine takeD 4 68 (v := ?_) rfl rfl (by kernel_rfl) (by kernel_rfl) (by kernel_rfl) (fun _ _ _ h => h) (Or.inl ⟨by rfl, ?_⟩) hS ?_
            rotate_left 1
            focus (intro w hSw; (try dsimp only at hSw); go_simp; (try with_reducible rfl); done)
            try simp only [Act.put, List.setIfInBounds_toArray, List.set_cons_zero, List.set_cons_succ]
            refine takeD 5 69 (v := ?_) rfl rfl (by kernel_rfl) (by kernel_rfl) (by kernel_rfl) (fun _ _ _ h => h) (Or.inl ⟨by rfl, ?_⟩) hS ?_
            rotate_left 1
            focus (intro w hSw; (try dsimp only at hSw); go_simp; (try with_reducible rfl); done)
            try simp only [Act.put, List.setIfInBounds_toArray, List.set_cons_zero, List.set_cons_succ]
            refine takeD 6 70 (v := undef) rfl rfl (by kernel_rfl) (by kernel_rfl) (by kernel_rfl) (fun _ _ _ h => h) (Or.inr ⟨by rfl, rfl⟩) hS ?_
            try simp only [Act.put, List.setIfInBounds_toArray, List.set_cons_zero, List.set_cons_succ]
            refine takeD 7 71 (v := undef) rfl rfl (by kernel_rfl) (by kernel_rfl) (by kernel_rfl) (fun _ _ _ h => h) (Or.inr ⟨by rfl, rfl⟩) hS ?_
            try simp only [Act.put, List.setIfInBounds_toArray, List.set_cons_zero, List.set_cons_succ]
            refine takeD 8 72 (v := undef) rfl rfl (by kernel_rfl) (by kernel_rfl) (by kernel_rfl) (fun _ _ _ h => h) (Or.inr ⟨by rfl, rfl⟩) hS ?_
            try simp only [Act.put, List.setIfInBounds_toArray, List.set_cons_zero, List.set_cons_succ]
            refine takeD 9 73 (v := undef) rfl rfl (by kernel_rfl) (by kernel_rfl) (by kernel_rfl) (fun _ _ _ h => h) (Or.inr ⟨by rfl, rfl⟩) hS ?_
            try simp only [Act.put, List.setIfInBounds_toArray, List.set_cons_zero, List.set_cons_succ]
            refine takeD 10 74 (v := undef) rfl rfl (by kernel_rfl) (by kernel_rfl) (by kernel_rfl) (fun _ _ _ h => h) (Or.inr ⟨by rfl, rfl⟩) hS ?_
            try simp only [Act.put, List.setIfInBounds_toArray, List.set_cons_zero, List.set_cons_succ]
            refine takeD 11 75 (v := ?_) rfl rfl (by kernel_rfl) (by kernel_rfl) (by kernel_rfl) (fun _ _ _ h => h) (Or.inl ⟨by rfl, ?_⟩) hS ?_
            rotate_left 1
            focus (intro w hSw; (try dsimp only at hSw); go_simp; (try with_reducible rfl); done)
            try simp only [Act.put, List.setIfInBounds_toArray, List.set_cons_zero, List.set_cons_succ]
            refine wpAnyH_ready (rs := [12]) (by kernel_rfl) (by simp) ?_
            refine AllReadyH.cons rfl (fun K hK => ?_) AllReadyH.nil
            rw [if_pos (by rfl)]
            go_simp
            refine hK.out _ _ (HG.out _ (by repeat (first | with_reducible exact Fr.refl _ _ | with_reducible assumption | with_reducible refine Fr.drew ?_ | with_reducible refine Fr.set_r ?_))) (fun hS2 => ?_)
            clear hK K hS
            have hS := hS2
            clear hS2
            try simp only [Act.put, List.setIfInBounds_toArray, List.set_cons_zero, List.set_cons_succ]
            refine takeD 13 3 (v := ?_) rfl rfl (by kernel_rfl) (by kernel_rfl) (by kernel_rfl) (fun _ _ _ h => h) (Or.inl ⟨by rfl, ?_⟩) hS ?_
            rotate_left 1
            focus (intro w hSw; (try dsimp only at hSw); go_simp; (try with_reducible rfl); done)
            try simp only [Act.put, List.setIfInBounds_toArray, List.set_cons_zero, List.set_cons_succ]
            refine wpAnyH_done (by kernel_rfl) ?_ _
            go_wp2
            obtain ⟨f1, f2⟩ := HFIN.out (six w4 r (.int .i64 n0) (.int .i64 n1) (.int .i64 n2) (.int .i64 n3) (.string ids) (.slice A5 m5 c5)).drew false (six_fr (.int .i64 n0) (.int .i64 n1) (.int .i64 n2) (.int .i64 n3) (.string ids) (.slice A5 m5 c5) (Fr.refl _ _)).drew (drew_blk (six_blk (.int .i64 n0) (.int .i64 n1) (.int .i64 n2) (.int .i64 n3) (.string ids) (.slice A5 m5 c5) HW4.out.2.1)) (by rw [HNO4.out (isSome_none HP.out.1)]; rfl)
            unfold six at f1 f2
            exact bodyPost_ret (results_step (fn := Tryd.f21) (p := 2) (u := 3) (b := .bool false) rfl _ rfl rfl f1) rfl f2
          | true =>
            refine wp_region_held_drew (S := (fun W => W.cell? ⟨g, 0, none⟩ = some (.int .i64 n0) ∧ W.cell? ⟨g, 1, none⟩ = some (.int .i64 n1) ∧ W.cell? ⟨g, 2, none⟩ = some (.int .i64 n2) ∧ W.cell? ⟨g, 3, none⟩ = some (.int .i64 n3) ∧ W.cell? ⟨g, 4, none⟩ = some (.string ids) ∧ W.cell? ⟨g, 5, none⟩ = some (.slice A5 m5 c5) ∧ Aside0 (Fr (fun k => k = r) w4 W))) (by kernel_rfl) (HG.out _ (by repeat (first | with_reducible exact Fr.refl _ _ | with_reducible assumption | with_reducible refine Fr.drew ?_ | with_reducible refine Fr.set_r ?_))) (fun hS => ?_)
            refine takeD 0 64 (v := ?_) rfl rfl (by kernel_rfl) (by kernel_rfl) (by kernel_rfl) (fun _ _ _ h => h) (Or.inl ⟨by rfl, ?_⟩) hS ?_
            rotate_left 1
            focus (intro w hSw; (try dsimp only at hSw); go_simp; (try with_reducible rfl); done)
            try simp only [Act.put, List.setIfInBounds_toArray, List.set_cons_zero, List.set_cons_succ]
            refine takeD 1 65 (v := ?_) rfl rfl (by kernel_rfl) (by kernel_rfl) (by kernel_rfl) (fun _ _ _ h => h) (Or.inl ⟨by rfl, ?_⟩) hS ?_
            rotate_left 1
            focus (intro w hSw; (try dsimp only at hSw); go_simp; (try with_reducible rfl); done)
            try simp only [Act.put, List.setIfInBounds_toArray, List.set_cons_zero, List.set_cons_succ]
            refine takeD 2 66 (v := ?_) rfl rfl (by kernel_rfl) (by kernel_rfl) (by kernel_rfl) (fun _ _ _ h => h) (Or.inl ⟨by rfl, ?_⟩) hS ?_
            rotate_left 1
            focus (intro w hSw; (try dsimp only at hSw); go_simp; (try with_reducible rfl); done)
            try simp only [Act.put, List.setIfInBounds_toArray, List.set_cons_zero, List.set_cons_succ]
            refine takeD 3 67 (v := undef) rfl rfl (by kernel_rfl) (by kernel_rfl) (by kernel_rfl) (fun _ _ _ h => h) (Or.inr ⟨by rfl, rfl⟩) hS ?_
            try simp only [Act.put, List.setIfInBounds_toArray, List.set_cons_zero, List.set_cons_succ]
            refine takeD 4 68 (v := ?_) rfl rfl (by kernel_rfl) (by kernel_rfl) (by kernel_rfl) (fun _ _ _ h => h) (Or.inl ⟨by rfl, ?_⟩) hS ?_
            rotate_left 1
            focus (intro w hSw; (try dsimp only at hSw); go_simp; (try with_reducible rfl); done)
            try simp only [Act.put, List.setIfInBounds_toArray, List.set_cons_zero, List.set_cons_succ]
            refine takeD 5 69 (v := ?_) rfl rfl (by kernel_rfl) (by kernel_rfl) (by kernel_rfl) (fun _ _ _ h => h) (Or.inl ⟨by rfl, ?_⟩) hS ?_
            rotate_left 1
            focus (intro w hSw; (try dsimp only at hSw); go_simp; (try with_reducible rfl); done)
            try simp only [Act.put, List.setIfInBounds_toArray, List.set_cons_zero, List.set_cons_succ]
            refine takeD 6 70 (v := undef) rfl rfl (by kernel_rfl) (by kernel_rfl) (by kernel_rfl) (fun _ _ _ h => h) (Or.inr ⟨by rfl, rfl⟩) hS ?_
            try simp only [Act.put, List.setIfInBounds_toArray, List.set_cons_zero, List.set_cons_succ]
            refine takeD 7 71 (v := undef) rfl rfl (by kernel_rfl) (by kernel_rfl) (by kernel_rfl) (fun _ _ _ h => h) (Or.inr ⟨by rfl, rfl⟩) hS ?_
            try simp only [Act.put, List.setIfInBounds_toArray, List.set_cons_zero, List.set_cons_succ]
            refine takeD 8 72 (v := undef) rfl rfl (by kernel_rfl) (by kernel_rfl) (by kernel_rfl) (fun _ _ _ h => h) (Or.inr ⟨by rfl, rfl⟩) hS ?_
            try simp only [Act.put, List.setIfInBounds_toArray, List.set_cons_zero, List.set_cons_succ]
            refine takeD 9 73 (v := undef) rfl rfl (by kernel_rfl) (by kernel_rfl) (by kernel_rfl) (fun _ _ _ h => h) (Or.inr ⟨by rfl, rfl⟩) hS ?_
            try simp only [Act.put, List.setIfInBounds_toArray, List.set_cons_zero, List.set_cons_succ]
            refine takeD 10 74 (v := undef) rfl rfl (by kernel_rfl) (by kernel_rfl) (by kernel_rfl) (fun _ _ _ h => h) (Or.inr ⟨by rfl, rfl⟩) hS ?_
            try simp only [Act.put, List.setIfInBounds_toArray, List.set_cons_zero, List.set_cons_succ]
            refine takeD 11 75 (v := ?_) rfl rfl (by kernel_rfl) (by kernel_rfl) (by kernel_rfl) (fun _ _ _ h => h) (Or.inl ⟨by rfl, ?_⟩) hS ?_
            rotate_left 1
            focus (intro w hSw; (try dsimp only at hSw); go_simp; (try with_reducible rfl); done)
            try simp only [Act.put, List.setIfInBounds_toArray, List.set_cons_zero, List.set_cons_succ]
            refine wpAnyH_ready (rs := [12]) (by kernel_rfl) (by simp) ?_
            refine AllReadyH.cons rfl (fun K hK => ?_) AllReadyH.nil
            rw [if_pos (by rfl)]
            go_simp
            refine hK.out _ _ (HG.out _ (by repeat (first | with_reducible exact Fr.refl _ _ | with_reducible assumption | with_reducible refine Fr.drew ?_ | with_reducible refine Fr.set_r ?_))) (fun hS2 => ?_)
            clear hK K hS
            have hS := hS2
            clear hS2
            try simp only [Act.put, List.setIfInBounds_toArray, List.set_cons_zero, List.set_cons_succ]
            refine takeD 13 3 (v := ?_) rfl rfl (by kernel_rfl) (by kernel_rfl) (by kernel_rfl) (fun _ _ _ h => h) (Or.inl ⟨by rfl, ?_⟩) hS ?_
            rotate_left 1
            focus (intro w hSw; (try dsimp only at hSw); go_simp; (try with_reducible rfl); done)
            try simp only [Act.put, List.setIfInBounds_toArray, List.set_cons_zero, List.set_cons_succ]
            refine wpAnyH_done (by kernel_rfl) ?_ _
            go_wp2
            obtain ⟨f1, f2⟩ := HFIN.out (six w4 r (.int .i64 n0) (.int .i64 n1) (.int .i64 n2) (.int .i64 n3) (.string ids) (.slice A5 m5 c5)).drew false (six_fr (.int .i64 n0) (.int .i64 n1) (.int .i64 n2) (.int .i64 n3) (.string ids) (.slice A5 m5 c5) (Fr.refl _ _)).drew (drew_blk (six_blk (.int .i64 n0) (.int .i64 n1) (.int .i64 n2) (.int .i64 n3) (.string ids) (.slice A5 m5 c5) HW4.out.2.1)) (by rw [HNO4.out (isSome_none HP.out.1)]; rfl)
            unfold six at f1 f2
            exact bodyPost_ret (results_step (fn := Tryd.f21) (p := 2) (u := 3) (b := .bool false) rfl _ rfl rfl f1) rfl f2
        | true =>
          cases p5 with
          | false =>
            refine wp_region_held_drew (S := (fun W => W.cell? ⟨g, 0, none⟩ = some (.int .i64 n0) ∧ W.cell? ⟨g, 1, none⟩ = some (.int .i64 n1) ∧ W.cell? ⟨g, 2, none⟩ = some (.int .i64 n2) ∧ W.cell? ⟨g, 3, none⟩ = some (.int .i64 n3) ∧ W.cell? ⟨g, 4, none⟩ = some (.string ids) ∧ W.cell? ⟨g, 5, none⟩ = some (.slice A5 m5 c5) ∧ Aside0 (Fr (fun k => k = r) w4 W))) (by kernel_rfl) (HG.out _ (by repeat (first | with_reducible exact Fr.refl _ _ | with_reducible assumption | with_reducible refine Fr.drew ?_ | with_reducible refine Fr.set_r ?_))) (fun hS => ?_)
            refine takeD 0 64 (v := ?_) rfl rfl (by kernel_rfl) (by kernel_rfl) (by kernel_rfl) (fun _ _ _ h => h) (Or.inl ⟨by rfl, ?_⟩) hS ?_
            rotate_left 1
            focus (intro w hSw; (try dsimp only at hSw); go_simp; (try with_reducible rfl); done)
            try simp only [Act.put, List.setIfInBounds_toArray, List.set_cons_zero, List.set_cons_succ]
            refine takeD 1 65 (v := ?_) rfl rfl (by kernel_rfl) (by kernel_rfl) (by kernel_rfl) (fun _ _ _ h => h) (Or.inl ⟨by rfl, ?_⟩) hS ?_
            rotate_left 1
            focus (intro w hSw; (try dsimp only at hSw); go_simp; (try with_reducible rfl); done)
            try simp only [Act.put, List.setIfInBounds_toArray, List.set_cons_zero, List.set_cons_succ]
            refine takeD 2 66 (v := ?_) rfl rfl (by kernel_rfl) (by kernel_rfl) (by kernel_rfl) (fun _ _ _ h => h) (Or.inl ⟨by rfl, ?_⟩) hS ?_
            rotate_left 1
            focus (intro w hSw; (try dsimp only at hSw); go_simp; (try with_reducible rfl); done)
            try simp only [Act.put, List.setIfInBounds_toArray, List.set_cons_zero, List.set_cons_succ]
            refine takeD 3 67 (v := ?_) rfl rfl (by kernel_rfl) (by kernel_rfl) (by kernel_rfl) (fun _ _ _ h => h) (Or.inl ⟨by rfl, ?_⟩) hS ?_
            rotate_left 1
            focus (intro w hSw; (try dsimp only at hSw); go_simp; (try with_reducible rfl); done)
            try simp only [Act.put, List.setIfInBounds_toArray, List.set_cons_zero, List.set_cons_succ]
            refine takeD 4 68 (v := ?_) rfl rfl (by kernel_rfl) (by kernel_rfl) (by kernel_rfl) (fun _ _ _ h => h) (Or.inl ⟨by rfl, ?_⟩) hS ?_
            rotate_left 1
            focus (intro w hSw; (try dsimp only at hSw); go_simp; (try with_reducible rfl); done)
            try simp only [Act.put, List.setIfInBounds_toArray, List.set_cons_zero, List.set_cons_succ]
            refine takeD 5 69 (v := ?_) rfl rfl (by kernel_rfl) (by kernel_rfl) (by kernel_rfl) (fun _ _ _ h => h) (Or.inl ⟨by rfl, ?_⟩) hS ?_
            rotate_left 1
            focus (intro w hSw; (try dsimp only at hSw); go_simp; (try with_reducible rfl); done)
            try simp only [Act.put, List.setIfInBounds_toArray, List.set_cons_zero, List.set_cons_succ]
            refine takeD 6 70 (v := undef) rfl rfl (by kernel_rfl) (by kernel_rfl) (by kernel_rfl) (fun _ _ _ h => h) (Or.inr ⟨by rfl, rfl⟩) hS ?_
            try simp only [Act.put, List.setIfInBounds_toArray, List.set_cons_zero, List.set_cons_succ]
            refine takeD 7 71 (v := undef) rfl rfl (by kernel_rfl) (by kernel_rfl) (by kernel_rfl) (fun _ _ _ h => h) (Or.inr ⟨by rfl, rfl⟩) hS ?_
            try simp only [Act.put, List.setIfInBounds_toArray, List.set_cons_zero, List.set_cons_succ]
            refine takeD 8 72 (v := undef) rfl rfl (by kernel_rfl) (by kernel_rfl) (by kernel_rfl) (fun _ _ _ h => h) (Or.inr ⟨by rfl, rfl⟩) hS ?_
            try simp only [Act.put, List.setIfInBounds_toArray, List.set_cons_zero, List.set_cons_succ]
            refine takeD 9 73 (v := undef) rfl rfl (by kernel_rfl) (by kernel_rfl) (by kernel_rfl) (fun _ _ _ h => h) (Or.inr ⟨by rfl, rfl⟩) hS ?_
            try simp only [Act.put, List.setIfInBounds_toArray, List.set_cons_zero, List.set_cons_succ]
            refine takeD 10 74 (v := undef) rfl rfl (by kernel_rfl) (by kernel_rfl) (by kernel_rfl) (fun _ _ _ h => h) (Or.inr ⟨by rfl, rfl⟩) hS ?_
            try simp only [Act.put, List.setIfInBounds_toArray, List.set_cons_zero, List.set_cons_succ]
            refine takeD 11 75 (v := ?_) rfl rfl (by kernel_rfl) (by kernel_rfl) (by kernel_rfl) (fun _ _ _ h => h) (Or.inl ⟨by rfl, ?_⟩) hS ?_
            rotate_left 1
            focus (intro w hSw; (try dsimp only at hSw); go_simp; (try with_reducible rfl); done)
            try simp only [Act.put, List.setIfInBounds_toArray, List.set_cons_zero, List.set_cons_succ]
            refine wpAnyH_ready (rs := [12]) (by kernel_rfl) (by simp) ?_
            refine AllReadyH.cons rfl (fun K hK => ?_) AllReadyH.nil
            rw [if_pos (by rfl)]
            go_simp
            refine hK.out _ _ (HG.out _ (by repeat (first | with_reducible exact Fr.refl _ _ | with_reducible assumption | with_reducible refine Fr.drew ?_ | with_reducible refine Fr.set_r ?_))) (fun hS2 => ?_)
            clear hK K hS
            have hS := hS2
            clear hS2
            try simp only [Act.put, List.setIfInBounds_toArray, List.set_cons_zero, List.set_cons_succ]
            refine takeD 13 3 (v := ?_) rfl rfl (by kernel_rfl) (by kernel_rfl) (by kernel_rfl) (fun _ _ _ h => h) (Or.inl ⟨by rfl, ?_⟩) hS ?_
            rotate_left 1
            focus (intro w hSw; (try dsimp only at hSw); go_simp; (try with_reducible rfl); done)
            try simp only [Act.put, List.setIfInBounds_toArray, List.set_cons_zero, List.set_cons_succ]
            refine wpAnyH_done (by kernel_rfl) ?_ _
            go_wp2
            obtain ⟨f1, f2⟩ := HFIN.out (six w4 r (.int .i64 n0) (.int .i64 n1) (.int .i64 n2) (.int .i64 n3) (.string ids) (.slice A5 m5 c5)).drew false (six_fr (.int .i64 n0) (.int .i64 n1) (.int .i64 n2) (.int .i64 n3) (.string ids) (.slice A5 m5 c5) (Fr.refl _ _)).drew (drew_blk (six_blk (.int .i64 n0) (.int .i64 n1) (.int .i64 n2) (.int .i64 n3) (.string ids) (.slice A5 m5 c5) HW4.out.2.1)) (by rw [HNO5.out (isSome_none HP.out.2)]; rfl)
            unfold six at f1 f2
            exact bodyPost_ret (results_step (fn := Tryd.f21) (p := 2) (u := 3) (b := .bool false) rfl _ rfl rfl f1) rfl f2
          | true =>
            refine wp_region_held_drew (S := (fun W => W.cell? ⟨g, 0, none⟩ = some (.int .i64 n0) ∧ W.cell? ⟨g, 1, none⟩ = some (.int .i64 n1) ∧ W.cell? ⟨g, 2, none⟩ = some (.int .i64 n2) ∧ W.cell? ⟨g, 3, none⟩ = some (.int .i64 n3) ∧ W.cell? ⟨g, 4, none⟩ = some (.string ids) ∧ W.cell? ⟨g, 5, none⟩ = some (.slice A5 m5 c5) ∧ Aside0 (Fr (fun k => k = r) w4 W))) (by kernel_rfl) (HG.out _ (by repeat (first | with_reducible exact Fr.refl _ _ | with_reducible assumption | with_reducible refine Fr.drew ?_ | with_reducible refine Fr.set_r ?_))) (fun hS => ?_)
            refine takeD 0 64 (v := ?_) rfl rfl (by kernel_rfl) (by kernel_rfl) (by kernel_rfl) (fun _ _ _ h => h) (Or.inl ⟨by rfl, ?_⟩) hS ?_
            rotate_left 1
            focus (intro w hSw; (try dsimp only at hSw); go_simp; (try with_reducible rfl); done)
            try simp only [Act.put, List.setIfInBounds_toArray, List.set_cons_zero, List.set_cons_succ]
            refine takeD 1 65 (v := ?_) rfl rfl (by kernel_rfl) (by kernel_rfl) (by kernel_rfl) (fun _ _ _ h => h) (Or.inl ⟨by rfl, ?_⟩) hS ?_
            rotate_left 1
            focus (intro w hSw; (try dsimp only at hSw); go_simp; (try with_reducible rfl); done)
            try simp only [Act.put, List.setIfInBounds_toArray, List.set_cons_zero, List.set_cons_succ]
            refine takeD 2 66 (v := ?_) rfl rfl (by kernel_rfl) (by kernel_rfl) (by kernel_rfl) (fun _ _ _ h => h) (Or.inl ⟨by rfl, ?_⟩) hS ?_
            rotate_left 1
            focus (intro w hSw; (try dsimp only at hSw); go_simp; (try with_reducible rfl); done)
            try simp only [Act.put, List.setIfInBounds_toArray, List.set_cons_zero, List.set_cons_succ]
            refine takeD 3 67 (v := ?_) rfl rfl (by kernel_rfl) (by kernel_rfl) (by kernel_rfl) (fun _ _ _ h => h) (Or.inl ⟨by rfl, ?_⟩) hS ?_
            rotate_left 1
            focus (intro w hSw; (try dsimp only at hSw); go_simp; (try with_reducible rfl); done)
            try simp only [Act.put, List.setIfInBounds_toArray, List.set_cons_zero, List.set_cons_succ]
            refine takeD 4 68 (v := ?_) rfl rfl (by kernel_rfl) (by kernel_rfl) (by kernel_rfl) (fun _ _ _ h => h) (Or.inl ⟨by rfl, ?_⟩) hS ?_
            rotate_left 1
            focus (intro w hSw; (try dsimp only at hSw); go_simp; (try with_reducible rfl); done)
            try simp only [Act.put, List.setIfInBounds_toArray, List.set_cons_zero, List.set_cons_succ]
            refine takeD 5 69 (v := ?_) rfl rfl (by kernel_rfl) (by kernel_rfl) (by kernel_rfl) (fun _ _ _ h => h) (Or.inl ⟨by rfl, ?_⟩) hS ?_
            rotate_left 1
            focus (intro w hSw; (try dsimp only at hSw); go_simp; (try with_reducible rfl); done)
            try simp only [Act.put, List.setIfInBounds_toArray, List.set_cons_zero, List.set_cons_succ]
            refine takeD 6 70 (v := ?_) rfl rfl (by kernel_rfl) (by kernel_rfl) (by kernel_rfl) (fun _ _ _ h => h) (Or.inl ⟨by rfl, ?_⟩) hS ?_
            rotate_left 1
            focus (intro w hSw; (try dsimp only at hSw); go_simp; (try with_reducible rfl); done)
            try simp only [Act.put, List.setIfInBounds_toArray, List.set_cons_zero, List.set_cons_succ]
            refine takeD 8 72 (v := ?_) rfl rfl (by kernel_rfl) (by kernel_rfl) (by kernel_rfl) (fun _ _ _ h => h) (Or.inl ⟨by rfl, ?_⟩) hS ?_
            rotate_left 1
            focus (intro w hSw; (try dsimp only at hSw); go_simp; (try with_reducible rfl); done)
            try simp only [Act.put, List.setIfInBounds_toArray, List.set_cons_zero, List.set_cons_succ]
            refine takeD 9 73 (v := ?_) rfl rfl (by kernel_rfl) (by kernel_rfl) (by kernel_rfl) (fun _ _ _ h => h) (Or.inl ⟨by rfl, ?_⟩) hS ?_
            rotate_left 1
            focus (intro w hSw; (try dsimp only at hSw); go_simp; (try with_reducible rfl); done)
            try simp only [Act.put, List.setIfInBounds_toArray, List.set_cons_zero, List.set_cons_succ]
            refine wpAnyH_ready (rs := [7]) (by kernel_rfl) (by simp) ?_
            refine AllReadyH.cons rfl (fun K hK => ?_) AllReadyH.nil
            rw [if_pos (by rfl)]
            go_simp
            (go_at_call 18; with_reducible refine (HLN.out _ (Fr.drew (Fr.refl _ _))).mono ?_; rintro e W3 ⟨rfl, hb3⟩; have hF3 := Fr.below_ (Fr.drew (Fr.refl (fun k => k = r) w4)) hb3; have S3 := HG.out W3 hF3; have HRZ := HRB.out W3 hb3; obtain ⟨e0, e1, e2, e3, e4, e5, f0, f1, f2, f3, f4, f5⟩ := zero33 HRZ.out; clear hb3); go_simp
            refine hK.out _ _ (HG.out _ (by repeat (first | with_reducible exact Fr.refl _ _ | with_reducible assumption | with_reducible refine Fr.drew ?_ | with_reducible refine Fr.set_r ?_))) (fun hS2 => ?_)
            clear hK K hS
            have hS := hS2
            clear hS2
            try simp only [Act.put, List.setIfInBounds_toArray, List.set_cons_zero, List.set_cons_succ]
            refine takeD 10 74 (v := ?_) rfl rfl (by kernel_rfl) (by kernel_rfl) (by kernel_rfl) (fun _ _ _ h => h) (Or.inl ⟨by rfl, ?_⟩) hS ?_
            rotate_left 1
            focus (intro w hSw; (try dsimp only at hSw); go_simp; (try with_reducible rfl); done)
            try simp only [Act.put, List.setIfInBounds_toArray, List.set_cons_zero, List.set_cons_succ]
            refine takeD 11 75 (v := ?_) rfl rfl (by kernel_rfl) (by kernel_rfl) (by kernel_rfl) (fun _ _ _ h => h) (Or.inl ⟨by rfl, ?_⟩) hS ?_
            rotate_left 1
            focus (intro w hSw; (try dsimp only at hSw); go_simp; (try with_reducible rfl); done)
            try simp only [Act.put, List.setIfInBounds_toArray, List.set_cons_zero, List.set_cons_succ]
            refine wpAnyH_ready (rs := [12]) (by kernel_rfl) (by simp) ?_
            refine AllReadyH.cons rfl (fun K hK => ?_) AllReadyH.nil
            rw [if_pos (by rfl)]
            go_simp
            refine hK.out _ _ (HG.out _ (by repeat (first | with_reducible exact Fr.refl _ _ | with_reducible assumption | with_reducible refine Fr.drew ?_ | with_reducible refine Fr.set_r ?_))) (fun hS2 => ?_)
            clear hK K hS
            have hS := hS2
            clear hS2
            try simp only [Act.put, List.setIfInBounds_toArray, List.set_cons_zero, List.set_cons_succ]
            refine takeD 13 3 (v := ?_) rfl rfl (by kernel_rfl) (by kernel_rfl) (by kernel_rfl) (fun _ _ _ h => h) (Or.inl ⟨by rfl, ?_⟩) hS ?_
            rotate_left 1
            focus (intro w hSw; (try dsimp only at hSw); go_simp; (try with_reducible rfl); done)
            try simp only [Act.put, List.setIfInBounds_toArray, List.set_cons_zero, List.set_cons_succ]
            refine wpAnyH_done (by kernel_rfl) ?_ _
            go_wp2
            obtain ⟨f1, f2⟩ := HFIN.out (six W3 r (.int .i64 n0) (.int .i64 n1) (.int .i64 n2) (.int .i64 n3) (.string ids) (.slice A5 m5 c5)) (ls.toList == (st ++ ⟨#[10]⟩).toList) (six_fr (.int .i64 n0) (.int .i64 n1) (.int .i64 n2) (.int .i64 n3) (.string ids) (.slice A5 m5 c5) hF3) (six_blk (.int .i64 n0) (.int .i64 n1) (.int .i64 n2) (.int .i64 n3) (.string ids) (.slice A5 m5 c5) HRZ.out) (HCMP.out HP.out.1.symm HP.out.2.symm)
            unfold six at f1 f2
            exact bodyPost_ret (results_step (fn := Tryd.f21) (p := 2) (u := 3) (b := .bool (ls.toList == (st ++ ⟨#[10]⟩).toList)) rfl _ rfl rfl f1) rfl f2
  · have hno : readL s = none := read_len s (by rw [← HBM.out, List.length_map, HBL.out]; exact hN)
    have hN6 : (((N : Int) != 6)) = true := by simp only [bne_iff_ne, ne_eq]; omega
    have HNO := Aside0.mk hno
    clear hno hN
    go_enter Tryd.func21, Tryd.ntmps21
    go_wp2_with (go_at_call 29; with_reducible refine (HSP.out _ (HE.out.below (below_alloc (Below.refl _ _) _))).mono ?_; rintro e W1 ⟨rfl, rfl⟩)
    refine bodyPost_ret (results_step (y := st0) (A := none) (n := 0) (c := 0) rfl _ rfl rfl (blk_alloc (blk_new _ _) _)) rfl ?_
    rw [HNO.out]
    exact ⟨_, _, _, _, rfl, (fun x hx => by cases hx), below_alloc (below_alloc (Below.refl _ _) _) _⟩
end Go.Proofs.YtbkhoepoeaiccaaDoor

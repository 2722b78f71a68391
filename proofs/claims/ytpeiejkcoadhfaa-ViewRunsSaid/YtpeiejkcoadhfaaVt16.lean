/- What the view's laws take, Vt16: PzB, PzM, PzN, PzD, PzO, PzX, VwCC. -/
import Derived.Test.YtpeiejkcoadhfaaVt13
import Derived.Test.YtpeiejkcoadhfaaVt14
import Derived.Test.YtpeiejkcoadhfaaVt15
import Derived.StillTailTactics
import Derived.Lib.AppendZerosOnto
set_option linter.all false
namespace Go.Proofs.Ytpeiejkcoadhfaa
open Go.RowKit Go.Shelf Go.Proofs.YtpeiejkcoadhfaaW.PrintWords Go.Proofs.YtpeiejkcoadhfaaW.PrintMore
theorem cf_set (l : List F) (k : Nat) (v : F) (h : k < l.length) (i : Nat) : cf (l.set k v) i = if i = k then v else cf l i := by
  unfold cf
  rw [List.getD_eq_getElem?_getD, List.getD_eq_getElem?_getD, List.getElem?_set]
  by_cases hi : k = i
  · subst hi
    rw [if_pos rfl, if_pos h, if_pos rfl]; rfl
  · rw [if_neg hi, if_neg (fun e => hi e.symm)]
def RF (w : World) (base : Nat) (B : Option Addr) (q : List F) : Prop := Kd.C fk w B q.length q ∧ (0 < q.length → ∀ j, OB B j → base ≤ j ∧ ∃ cells, w.heap[j]? = some (.cells cells 5 (0, 0)))
theorem RF_of_R {w : World} {base : Nat} {ok : Nat → Prop} {B : Option Addr} {n c : Nat} {q : List F} (h : Kd.R fk 5 w base ok (.slice B n c) q) : RF w base B q := by
  have h1 := Kd.R_reads' h
  refine ⟨h1.2.2, fun _ j hj => ⟨(ob_base (Kd.Q_of_R h) j hj).1, Kd.R_typed h j (ob_own hj)⟩⟩
theorem RF_trim {w : World} {base : Nat} {B : Option Addr} {q : List F} (h : RF w base B q) : RF w base B (trimP q) := by
  have hle := trim_length q
  have h1 := to_C (0 : F) (trimP q).length h.1 hle
  rw [trim_take] at h1
  exact ⟨h1, fun hp => h.2 (by omega)⟩
theorem RF_lower {w : World} {base base' : Nat} {B : Option Addr} {q : List F} (h : RF w base B q) (hb : base' ≤ base) : RF w base' B q :=
  ⟨h.1, fun hp j hj => ⟨Nat.le_trans hb (h.2 hp j hj).1, (h.2 hp j hj).2⟩⟩
theorem C_fr' {S : Nat → Prop} {w w1 : World} {A : Option Addr} {n : Nat} {p : List F} (h : Kd.C fk w A n p) (hf : Fr S w w1) (hs : ∀ j, OB A j → 0 < n → ¬ S j) : Kd.C fk w1 A n p :=
  C_fr (0 : F) h hf (fun ad ha hn => hs ad.block ⟨ad, ha, rfl⟩ hn)
theorem RF_fr {S : Nat → Prop} {w w1 : World} {base : Nat} {B : Option Addr} {q : List F} (h : RF w base B q) (hf : Fr S w w1) (hs : ∀ j, base ≤ j → j < w.heap.size → ¬ S j) : RF w1 base B q := by
  refine ⟨C_fr' h.1 hf (fun j hj hn => ?_), fun hp j hj => ?_⟩
  · obtain ⟨h1, cells, h2⟩ := h.2 hn j hj
    exact hs j h1 (blk_lt h2)
  · obtain ⟨h1, cells, h2⟩ := h.2 hp j hj
    exact ⟨h1, cells, hf.blk h2 (hs j h1 (blk_lt h2))⟩
theorem RF_len {w : World} {base : Nat} {B : Option Addr} {p q : List F} (h : RF w base B p) (e : p = q) : RF w base B q := e ▸ h
set_option maxRecDepth 100000 in
set_option maxHeartbeats 800000 in
theorem Add_le (w : World) (A B : Option Addr) (n m c d : Nat) (p q : List F) (hp : Kd.C fk w A n p) (hq : Kd.C fk w B m q) (hnm : m ≤ n) (hl : n ≤ 1099511627776) (X Y : Value) (hX : (X = .slice A n c ∧ Y = .slice B m d) ∨ (X = .slice B m d ∧ Y = .slice A n c ∧ m < n)) :
    Calls Try.prog 86 #[X, Y] w fun e w' => ∃ D, e = .returned (.slice D (trimP (addP p q)).length (trimP (addP p q)).length) ∧ RF w' w.heap.size D (trimP (addP p q)) ∧ Fr (fun _ => False) w w' := by
  have hpn := Kd.C_len hp
  have hqn := Kd.C_len hq
  have HK := Aside0.mk (Clone_any w A n c p hp (by omega))
  have HQ := Aside0.mk hq
  have HP := Aside0.mk hpn
  have HQN := Aside0.mk hqn
  clear hp hq hpn hqn
  have core : ∀ (Q : Exit → Act → World → Prop), True := fun _ => trivial
  clear core
  rcases hX with ⟨rfl, rfl⟩ | ⟨rfl, rfl, hlt⟩
  all_goals
    go_enter Try.func86, Try.ntmps86
    go_wp2_with (go_at_call 95; refine HK.out.mono ?_; rintro e w1 ⟨A', c', rfl, hR, hb⟩)
    have HR := Aside0.mk hR
    have HB := Aside0.mk hb
    have HC := Aside0.mk (Kd.C_below HQ.out hb)
    clear hR hb
    go_loopw [19] (fun v19 wr => ∃ (k : Nat) (zs : List F), k ≤ m ∧ v19 = .int .i64 k ∧ Aside0 (zs.length = n ∧ ∀ i, cf zs i = cf p i + (if i < k then cf q i else 0)) ∧ Aside0 (Kd.R fk 5 wr w.heap.size (fun _ => True) (.slice A' n c') zs) ∧ Aside0 (Fr (fun j => OB A' j) w1 wr)) (fun v19 _ => m - (intOf v19).toNat)
    case atStart => exact ⟨0, p, by omega, rfl, ⟨HP.out, fun i => by rw [if_neg (by omega), F.add_zero]⟩, HR, ⟨Fr.refl _ _⟩⟩
    case round =>
      obtain ⟨k, zs, hk, rfl, HZ, HR2, HF⟩ := hrel
      by_cases hkm : k < m
      · obtain ⟨gb, rfl, hgb, _, _, hx, hfz, hset⟩ := R_at (0 : F) HR2.out k (by omega)
        have hqc : Kd.C fk wr B m q := C_fr' HC.out HF.out (fun j hj hn hob => by
          have h1 := (ob_base (Kd.Q_of_R HR.out) j hob).1
          obtain ⟨ad, e, hc⟩ := (Kd.reads_of_C (enc := encF) (d := (0 : F)) (h1 := fun _ => rfl) HQ.out).2.2 hn
          obtain ⟨ad', e', rfl⟩ := hj
          rw [e'] at e
          injection e with e
          subst e
          have h2 := World.block_lt_of_cell? w _ (hc 0 hn)
          rw [add_zero'] at h2
          omega)
        obtain ⟨ad, rfl, hcell⟩ := (Kd.reads_of_C (enc := encF) (d := (0 : F)) (h1 := fun _ => rfl) hqc).2.2 (by omega)
        have hqk := hcell k hkm
        have hz1 : zs.getD k 0 = p.getD k 0 := by
          have := HZ.out.2 k
          rw [if_neg (by omega), F.add_zero] at this
          exact this
        rw [hz1] at hx
        obtain ⟨a, ha⟩ : ∃ a, a = p.getD k 0 := ⟨_, rfl⟩
        obtain ⟨b, hb⟩ : ∃ b, b = q.getD k 0 := ⟨_, rfl⟩
        rw [← ha] at hx
        rw [← hb] at hqk
        have hxr := xorF a b
        have HS := Aside0.mk (hset (a + b))
        have HZ2 : Aside0 ((zs.set k (a + b)).length = n ∧ ∀ i, cf (zs.set k (a + b)) i = cf p i + (if i < k + 1 then cf q i else 0)) := ⟨by rw [List.length_set]; exact HZ.out.1, fun i => by
          rw [cf_set _ _ _ (by rw [HZ.out.1]; omega)]
          by_cases hik : i = k
          · subst hik
            rw [if_pos rfl, if_pos (by omega), ha, hb]; rfl
          · rw [if_neg hik, HZ.out.2 i]
            by_cases h1 : i < k
            · rw [if_pos h1, if_pos (by omega)]
            · rw [if_neg h1, if_neg (by omega)]⟩
        unfold encF at hx hqk
        have hknI : (k : Int) < (n : Int) := by omega
        clear hset hz1 ha hb hcell hqc
        go_wp2
        go_roundw
        case rel => exact ⟨k + 1, _, by omega, by go_num, HZ2, HS, ⟨HF.out.set_ (p := ⟨gb, k, none⟩) (.inl ⟨_, rfl, rfl⟩) _⟩⟩
        case measure => simp [intOf]; omega
      · obtain rfl : k = m := by omega
        have hcr := R_C HR2.out
        have hcd : n ≤ c' := (Kd.R_reads' HR2.out).2.1
        have HT := Aside0.mk (trim_any wr A' n c' zs hcr hcd hl)
        have he : trimP zs = trimP (addP p q) := trim_eqv _ _ (fun i => by
          rw [HZ.out.2 i, cf_add]
          by_cases h1 : i < k
          · rw [if_pos h1]
          · rw [if_neg h1, cf_ge q i (by rw [HQN.out]; omega)])
        rw [he] at HT
        have HE := Aside0.mk he
        clear hcr he
        go_wp2_with (go_at_call 123; refine HT.out.mono ?_; rintro e w2 ⟨rfl, hd⟩)
        go_ret
        refine ⟨A', rfl, ?_, ?_⟩
        · have h1 := RF_len (RF_trim (RF_of_R HR2.out)) HE.out
          obtain ⟨j, rfl⟩ := hd
          exact RF_fr h1 ((Fr.refl (fun _ => False) wr).drewN j) (fun _ _ _ h => h)
        · have h1 : Fr (fun _ => False) w wr := (Fr.of_below HB.out (fun _ => False)).trans HF.out (fun j hj => .inr (ob_base (Kd.Q_of_R HR.out) j hj).1)
          exact h1.below_ hd.below
theorem Add_any (w : World) (A B : Option Addr) (n m c d : Nat) (p q : List F) (hp : Kd.C fk w A n p) (hq : Kd.C fk w B m q) (hl : n ≤ 1099511627776) (hl2 : m ≤ 1099511627776) :
    Calls Try.prog 86 #[.slice A n c, .slice B m d] w fun e w' => ∃ D, e = .returned (.slice D (trimP (addP p q)).length (trimP (addP p q)).length) ∧ RF w' w.heap.size D (trimP (addP p q)) ∧ Fr (fun _ => False) w w' := by
  rcases Nat.lt_or_ge n m with h | h
  · have e : trimP (addP p q) = trimP (addP q p) := trim_eqv _ _ (fun i => by rw [cf_add, cf_add, F.add_comm])
    rw [e]
    exact Add_le w B A m n d c q p hq hp (by omega) hl2 _ _ (.inr ⟨rfl, rfl, h⟩)
  · exact Add_le w A B n m c d p q hp hq h hl _ _ (.inl ⟨rfl, rfl⟩)
end Go.Proofs.Ytpeiejkcoadhfaa
namespace Go.Proofs.Ytpeiejkcoadhfaa
open Go.RowKit Go.Shelf Go.Proofs.YtpeiejkcoadhfaaW.PrintWords Go.Proofs.YtpeiejkcoadhfaaW.PrintMore
open Go.BigFrame
theorem cf_mul_take : ∀ (p q : List F) (k i : Nat), cf (mulP (p.take (k + 1)) q) i = cf (mulP (p.take k) q) i + (if k ≤ i then cf p k * cf q (i - k) else 0)
  | [], q, k, i => by simp [mulP, cf_nil, F.zero_mul, F.add_zero]
  | a :: p, q, 0, i => by
    simp only [List.take_succ_cons, List.take_zero, mulP, cf_add, cf_sc, cf_nil, F.zero_add, Nat.zero_le, if_true, cf_zero, Nat.sub_zero]
    cases i with
    | zero => rw [cf_zero, F.add_zero]
    | succ i => rw [cf_succ, cf_nil, F.add_zero]
  | a :: p, q, k + 1, i => by
    simp only [List.take_succ_cons, mulP, cf_add, cf_sc, F.add_assoc]
    congr 1
    cases i with
    | zero => rw [cf_zero, cf_zero, if_neg (by omega), F.add_zero]
    | succ i =>
      rw [cf_succ, cf_succ, cf_mul_take p q k i, cf_succ]
      by_cases h : k ≤ i
      · rw [if_pos h, if_pos (by omega), show i + 1 - (k + 1) = i - k by omega]
      · rw [if_neg h, if_neg (by omega)]
theorem mul_take_all (p q : List F) : mulP (p.take p.length) q = mulP p q := by rw [List.take_length]
def MulSt (p q zs : List F) (k j : Nat) : Prop := zs.length = p.length + q.length ∧ ∀ i, i < p.length + q.length → cf zs i = cf (mulP (p.take k) q) i + (if k ≤ i ∧ i < k + j then cf p k * cf q (i - k) else 0)
theorem mulSt_start (p q : List F) : MulSt p q (List.replicate (p.length + q.length) 0) 0 0 := by
  refine ⟨by simp, fun i _ => ?_⟩
  rw [if_neg (by omega), F.add_zero, List.take_zero]
  unfold cf
  rw [List.getD_eq_getElem?_getD, List.getElem?_replicate]
  split <;> rfl
theorem mulSt_step {p q zs : List F} {k j : Nat} (h : MulSt p q zs k j) (hk : k < p.length) (hj : j < q.length) (v : F) (hv : v = cf zs (k + j) + cf p k * cf q j) : MulSt p q (zs.set (k + j) v) k (j + 1) := by
  obtain ⟨h1, h2⟩ := h
  refine ⟨by rw [List.length_set]; exact h1, fun i hi => ?_⟩
  rw [cf_set _ _ _ (by omega)]
  by_cases e : i = k + j
  · subst e
    rw [if_pos rfl, hv, h2 _ hi, if_neg (by omega), F.add_zero, if_pos (by omega), Nat.add_sub_cancel_left]
  · rw [if_neg e, h2 i hi]
    by_cases h3 : k ≤ i ∧ i < k + j
    · rw [if_pos h3, if_pos (by omega)]
    · rw [if_neg h3, if_neg (by omega)]
theorem mulSt_row {p q zs : List F} {k : Nat} (h : MulSt p q zs k q.length) : MulSt p q zs (k + 1) 0 := by
  obtain ⟨h1, h2⟩ := h
  refine ⟨h1, fun i hi => ?_⟩
  rw [h2 i hi, cf_mul_take, if_neg (show ¬ (k + 1 ≤ i ∧ i < k + 1 + 0) by omega), F.add_zero]
  by_cases h3 : k ≤ i
  · rw [if_pos h3]
    by_cases h4 : i < k + q.length
    · rw [if_pos ⟨h3, h4⟩]
    · rw [if_neg (by omega), cf_ge q (i - k) (by omega), F.mul_zero]
  · rw [if_neg h3, if_neg (by omega)]
theorem mulSt_end {p q zs : List F} (h : MulSt p q zs p.length 0) : trimP zs = trimP (mulP p q) := by
  refine trim_eqv _ _ (fun i => ?_)
  rcases Nat.lt_or_ge i (p.length + q.length) with hi | hi
  · rw [h.2 i hi, mul_take_all, if_neg (by omega), F.add_zero]
  · rw [cf_ge zs i (by rw [h.1]; exact hi)]
    cases p with
    | nil => rfl
    | cons a p =>
      exact (cf_mul_ge (a :: p) q (p.length + 1) q.length (fun j hj => cf_ge _ _ (by simpa using hj)) (fun j hj => cf_ge _ _ hj) i (by simp at hi; omega) (by omega)).symm
theorem R_zerosF (W : World) (base : Nat) (ok : Nat → Prop) (k : Nat) (hk : k ≤ 281474976710656) (hb : base ≤ W.heap.size) (hok : ok W.heap.size) : Kd.R fk 5 (W.alloc (.cells (Array.replicate k (.int .u8 0)) 5)) base ok (.slice (some ⟨W.heap.size, 0, none⟩) k k) (List.replicate k 0) := by
  refine Kd.R_of_own ?_ (fun j hj => ?_)
  · refine ⟨by rw [encs_length, Nat.mul_one], .inr ⟨W.heap.size, k, Array.replicate k (.int .u8 0), by simp, hb, blk_new _ _, by simp, by simp only [maxLen]; omega, by simp, ?_⟩⟩
    simp [encs, encF, F.zero_v]
  · have : W.heap.size = j := by simpa [Value.ownBlock] using hj
    exact this ▸ hok
theorem C_at {w wr : World} {A : Option Addr} {n : Nat} {p : List F} {S : Nat → Prop} (h : Kd.C fk w A n p) (hf : Fr S w wr) (hS : ∀ j, S j → w.heap.size ≤ j) (k : Nat) (hk : k < n) : ∃ ad, A = some ad ∧ wr.cell? (ad.add k) = some (.int .u8 ((p.getD k 0).v : Int)) := by
  obtain ⟨ad, e, hc⟩ := (Kd.reads_of_C (enc := encF) (d := (0 : F)) (h1 := fun _ => rfl) h).2.2 (by omega)
  refine ⟨ad, e, hf.cell (hc k hk) (fun hb => ?_)⟩
  have h1 := World.block_lt_of_cell? w _ (hc k hk)
  have := hS _ hb
  omega
set_option maxRecDepth 100000 in
set_option maxHeartbeats 1600000 in
theorem MulP_any (w : World) (g : Nat) (A B : Option Addr) (n m c d : Nat) (p q : List F) (hF : Fld w g) (hp : Kd.C fk w A n p) (hq : Kd.C fk w B m q) (hl : n + m ≤ 1099511627776) :
    Calls Try.prog 87 #[.pointer (some ⟨g, 0, none⟩), .slice A n c, .slice B m d] w fun e w' => ∃ D, e = .returned (.slice D (trimP (mulP p q)).length (trimP (mulP p q)).length) ∧ RF w' w.heap.size D (trimP (mulP p q)) ∧ Fr (fun _ => False) w w' := by
  have hpn := Kd.C_len hp
  have hqn := Kd.C_len hq
  have HP := Aside0.mk hp
  have HQ := Aside0.mk hq
  have HPN := Aside0.mk hpn
  have HQN := Aside0.mk hqn
  have HF := Aside0.mk hF
  have hmk := fun W : World => make_u8 (P := Try.prog) 36 5 Try.underlying36 info5 (n + m) (by omega) W
  rw [Int.natCast_add] at hmk
  have hR0 := R_zerosF w w.heap.size (fun _ => True) (n + m) (by omega) (Nat.le_refl _) trivial
  have HR0 := Aside0.mk hR0
  have H0 : Aside0 (MulSt p q (List.replicate (n + m) 0) 0 0) := ⟨by rw [← hpn, ← hqn]; exact mulSt_start p q⟩
  clear hp hq hpn hqn hF hR0
  go_enter Try.func87, Try.ntmps87
  go_wp2
  go_loopw [20] (fun v20 wr => ∃ (k : Nat) (zs : List F), k ≤ n ∧ v20 = .int .i64 k ∧ Aside0 (MulSt p q zs k 0) ∧ Aside0 (Kd.R fk 5 wr w.heap.size (fun _ => True) (.slice (some ⟨w.heap.size, 0, none⟩) (n + m) (n + m)) zs) ∧ Aside0 (Below w.heap.size w wr)) (fun v20 _ => n - (intOf v20).toNat)
  case atStart => exact ⟨0, _, by omega, rfl, H0, HR0, ⟨below_alloc (Below.refl _ _) _⟩⟩
  case round =>
    clear H0 HR0 hmk
    obtain ⟨k, zs, hk, rfl, HZ, HR, HB⟩ := hrel
    obtain ⟨wo, rfl⟩ : ∃ wo : World, wo = wr := ⟨_, rfl⟩
    by_cases hlt : k < n
    · obtain ⟨adA, rfl, hca⟩ := C_at HP.out (Fr.of_below HB.out (fun _ => False)) (fun _ h => h.elim) k hlt
      obtain ⟨a, ha⟩ : ∃ a, a = p.getD k 0 := ⟨_, rfl⟩
      rw [← ha] at hca
      have HAA := Aside0.mk ha
      clear ha
      go_wp2
      go_loopw [27] (fun v27 wr => ∃ (j : Nat) (ys : List F), j ≤ m ∧ v27 = .int .i64 j ∧ Aside0 (MulSt p q ys k j) ∧ Aside0 (Kd.R fk 5 wr w.heap.size (fun _ => True) (.slice (some ⟨w.heap.size, 0, none⟩) (n + m) (n + m)) ys) ∧ Aside0 (Below w.heap.size w wr)) (fun v27 _ => m - (intOf v27).toNat)
      case atStart => exact ⟨0, zs, by omega, rfl, HZ, HR, HB⟩
      case round =>
        clear HZ HR HB hca
        obtain ⟨j, ys, hj, rfl, HY, HR, HB⟩ := hrel
        by_cases hjm : j < m
        · obtain ⟨adB, rfl, hcb⟩ := C_at HQ.out (Fr.of_below HB.out (fun _ => False)) (fun _ h => h.elim) j hjm
          obtain ⟨b, hb⟩ : ∃ b, b = q.getD j 0 := ⟨_, rfl⟩
          obtain ⟨gb, e, _, _, _, hx, hfz, hset⟩ := R_at (0 : F) HR.out (k + j) (by omega)
          injection e with e
          injection e with e _ _
          subst e
          obtain ⟨z, hz⟩ : ∃ z, z = ys.getD (k + j) 0 := ⟨_, rfl⟩
          rw [← hz] at hx
          rw [← hb] at hcb
          have hst := mulSt_step HY.out (by rw [HPN.out]; exact hlt) (by rw [HQN.out]; exact hjm) (z + a * b) (by rw [hz, HAA.out, hb]; rfl)
          have hxr := xorF z (a * b)
          have HS := Aside0.mk (And.intro hst (hset (z + a * b)))
          have HFW := Aside0.mk (HF.out.fr (Fr.of_below HB.out (fun _ => False)) (fun h => h))
          have HMU := Aside0.mk (fun t => MulF (wr.drewN t) g a b (HFW.out.drew))
          unfold encF at hx
          have hkj : (k : Int) + (j : Int) < (n : Int) + (m : Int) := by omega
          have hkj0 : (0 : Int) ≤ (k : Int) + (j : Int) := by omega
          have hkjn : ((k : Int) + (j : Int)).toNat = k + j := by omega
          have hwr : IntKind.i64.wrap ((k : Int) + (j : Int)) = (k : Int) + (j : Int) := IntWalk.i64_in _ ⟨by omega, by omega⟩
          generalize a * b = ab at HS hxr HMU
          clear hset hst hz hb
          go_wp2
          refine wp_region_drawn_tail 11 (by kernel_rfl) (by kernel_rfl) ?_
          simp only [List.take_succ_cons, List.take_zero, List.drop_succ_cons, List.drop_zero]
          repeat (first | go_big_quiet_skip | (go_big_quiet_want; go_big_quiet_op; first | go_big_quiet_on | (apply Exists.intro; refine ⟨fun t => ?_, ?_⟩; (go_at_call 31; exact quiet_drawn (HMU.out t)); go_big_quiet_on)))
          refine wpQuiet_nil ?_
          rintro _ ⟨t, rfl⟩
          go_wp2
          go_roundw
          case rel => exact ⟨j + 1, _, by omega, by go_num, ⟨HS.out.1⟩, ⟨Kd.R_drewN HS.out.2 t⟩, ⟨below_drawN (HB.out.setCell (p := ⟨w.heap.size, k + j, none⟩) (Nat.le_refl _) _) t⟩⟩
          case measure => simp [intOf]; omega
        · obtain rfl : j = m := by omega
          have hst : Aside0 (MulSt p q ys (k + 1) 0) := ⟨mulSt_row (HQN.out.symm ▸ HY.out)⟩
          go_wp2
          go_roundw
          case rel => exact ⟨k + 1, ys, by omega, by go_num, hst, HR, HB⟩
          case measure => simp [intOf]; omega
    · obtain rfl : k = n := by omega
      have he := mulSt_end (HPN.out.symm ▸ HZ.out : MulSt p q zs p.length 0)
      have HT := Aside0.mk (trim_any wo (some ⟨w.heap.size, 0, none⟩) (k + m) (k + m) zs (R_C HR.out) (Nat.le_refl _) hl)
      rw [he] at HT
      have HE := Aside0.mk he
      clear he
      go_wp2_with (go_at_call 123; refine HT.out.mono ?_; rintro e w2 ⟨rfl, hd⟩)
      go_ret
      refine ⟨_, rfl, ?_, (Fr.of_below HB.out _).below_ hd.below⟩
      have h1 := RF_len (RF_trim (RF_of_R HR.out)) HE.out
      obtain ⟨j, rfl⟩ := hd
      exact RF_fr h1 ((Fr.refl (fun _ => False) wo).drewN j) (fun _ _ _ h => h)
end Go.Proofs.Ytpeiejkcoadhfaa
namespace Go.Proofs.Ytpeiejkcoadhfaa
open Go.RowKit Go.Shelf Go.Proofs.YtpeiejkcoadhfaaW.PrintWords Go.Proofs.YtpeiejkcoadhfaaW.PrintMore
open Go.BigFrame
theorem R_litF (W : World) (base : Nat) (ok : Nat → Prop) (p : List F) (hn : p.length ≤ 1000) (hb : base ≤ W.heap.size) (hok : ok W.heap.size) : Kd.R fk 5 (W.alloc (.cells (p.map encF).toArray 5)) base ok (.slice (some ⟨W.heap.size, 0, none⟩) p.length p.length) p := by
  refine Kd.R_of_own ?_ (fun j hj => ?_)
  · exact own_lit_of W base 5 p hb (by omega)
  · have : W.heap.size = j := by simpa [Value.ownBlock] using hj
    exact this ▸ hok
set_option maxRecDepth 100000 in
set_option maxHeartbeats 800000 in
theorem Roots_any (w : World) (g : Nat) (A : Option Addr) (n c : Nat) (xs : List F) (hF : Fld w g) (hx : Kd.C fk w A n xs) (hl : n ≤ 1000000) :
    Calls Try.prog 83 #[.pointer (some ⟨g, 0, none⟩), .slice A n c] w fun e w' => ∃ D, e = .returned (.slice D (n + 1) (n + 1)) ∧ RF w' w.heap.size D (roots xs) ∧ Fr (fun _ => False) w w' := by
  have hxn := Kd.C_len hx
  have HX := Aside0.mk hx
  have HXN := Aside0.mk hxn
  have HF := Aside0.mk hF
  have HR0 := Aside0.mk (RF_of_R (R_litF w w.heap.size (fun _ => True) [1] (by decide) (Nat.le_refl _) trivial))
  clear hx hxn hF
  go_enter Try.func83, Try.ntmps83
  go_wp2
  go_loopw [5, 11] (fun v5 v11 wr => ∃ (k L : Nat) (D : Option Addr), k ≤ n ∧ v11 = .int .i64 k ∧ v5 = .slice D L L ∧ Aside0 (L = k + 1) ∧ Aside0 (RF wr w.heap.size D (roots (xs.take k))) ∧ Aside0 (Below w.heap.size w wr)) (fun _ v11 _ => n - (intOf v11).toNat)
  case atStart => exact ⟨0, 1, some ⟨w.heap.size, 0, none⟩, by omega, rfl, rfl, ⟨rfl⟩, HR0, ⟨below_alloc (Below.refl _ _) _⟩⟩
  case round =>
    clear HR0
    obtain ⟨k, L, D, hk, rfl, rfl, HL, HR, HB⟩ := hrel
    by_cases hlt : k < n
    · obtain ⟨ad, rfl, hc⟩ := C_at HX.out (Fr.of_below HB.out (fun _ => False)) (fun _ h => h.elim) k hlt
      obtain ⟨x, hx⟩ : ∃ x, x = xs.getD k 0 := ⟨_, rfl⟩
      rw [← hx] at hc
      have hrl := roots_length (xs.take k)
      have htl : (xs.take k).length = k := by rw [List.length_take, HXN.out]; omega
      rw [htl, ← HL.out] at hrl
      have hb1 : Below wr.heap.size wr (wr.alloc (.cells #[.int .u8 (x.v : Int), .int .u8 1] 5)) := below_alloc (Below.refl _ _) _
      have hq := R_C (R_litF wr wr.heap.size (fun _ => True) (lin x) (by simp [lin]) (Nat.le_refl _) trivial)
      have c1 := MulP_any (wr.alloc (.cells #[.int .u8 (x.v : Int), .int .u8 1] 5)) g D (some ⟨wr.heap.size, 0, none⟩) L 2 L 2 (roots (xs.take k)) (lin x) ((HF.out.fr (Fr.of_below HB.out (fun _ => False)) (fun h => h)).fr (Fr.of_below hb1 (fun _ => False)) (fun h => h)) (by rw [← hrl]; exact Kd.C_below HR.out.1 hb1) hq (by have := HL.out; omega)
      have hsn : trimP (mulP (roots (xs.take k)) (lin x)) = roots (xs.take (k + 1)) := by
        rw [List.take_add_one, List.getElem?_eq_getElem (by rw [HXN.out]; exact hlt), Option.toList_some, roots_snoc, hx, List.getD_eq_getElem?_getD, List.getElem?_eq_getElem (by rw [HXN.out]; exact hlt)]
        rfl
      have hrl2 : (roots (xs.take (k + 1))).length = k + 2 := by rw [roots_length, List.length_take, HXN.out]; omega
      rw [hsn, hrl2] at c1
      have HC1 := Aside0.mk c1
      have HB1 := Aside0.mk (HB.out.trans (hb1.mono HB.out.size))
      clear c1 hq hb1 hrl htl hsn hrl2 hx
      go_wp2_with (go_at_call 87; (with_reducible refine HC1.out.mono ?_); rintro e w2 ⟨D2, rfl, hR2, hf2⟩; have HR2 := Aside0.mk hR2; have HF2 := Aside0.mk hf2; clear hR2 hf2)
      go_roundw
      case rel => exact ⟨k + 1, k + 2, D2, by omega, by go_num, rfl, ⟨rfl⟩, ⟨RF_lower HR2.out (by have := HB.out.size; simp; omega)⟩, ⟨HB1.out.trans (HF2.out.below (by exact HB1.out.size) (fun _ h => h.elim))⟩⟩
      case measure => simp [intOf]; omega
    · obtain rfl : k = n := by omega
      go_wp2
      go_ret
      have e : xs.take k = xs := List.take_of_length_le (by rw [HXN.out]; exact Nat.le_refl _)
      have h1 := HR.out
      rw [e] at h1
      have hL := HL.out
      subst hL
      exact ⟨D, rfl, h1, Fr.of_below HB.out _⟩
end Go.Proofs.Ytpeiejkcoadhfaa
namespace Go.Proofs.Ytpeiejkcoadhfaa
open Go.RowKit Go.Shelf Go.Proofs.YtpeiejkcoadhfaaW.PrintWords Go.Proofs.YtpeiejkcoadhfaaW.PrintMore
open Go.BigFrame
theorem mul_add_left : ∀ (a b q : List F), Eqv (mulP (addP a b) q) (addP (mulP a q) (mulP b q))
  | [], b, q => fun i => by rw [show addP [] b = b from rfl, cf_add, show mulP [] q = [] from rfl, cf_nil, F.zero_add]
  | a :: p, [], q => fun i => by rw [show addP (a :: p) [] = a :: p from rfl, cf_add, show mulP [] q = [] from rfl, cf_nil, F.add_zero]
  | a :: p, b :: r, q => fun i => by
    have ih := mul_add_left p r q
    simp only [addP, mulP, cf_add, cf_sc, F.add_mul]
    have h : cf (0 :: mulP (addP p r) q) i = cf (0 :: mulP p q) i + cf (0 :: mulP r q) i := by
      cases i with
      | zero => rw [cf_zero, cf_zero, cf_zero, F.add_zero]
      | succ i => rw [cf_succ, cf_succ, cf_succ, ih i, cf_add]
    rw [h]
    exact F.add4 _ _ _ _
theorem mul_shift (c : F) (d : List F) : ∀ (s i : Nat), cf (mulP (List.replicate s 0 ++ [c]) d) i = if s ≤ i then c * cf d (i - s) else 0
  | 0, i => by
    simp only [List.replicate_zero, List.nil_append, mulP, cf_add, cf_sc, Nat.zero_le, if_true, Nat.sub_zero]
    cases i with
    | zero => rw [cf_zero, F.add_zero]
    | succ i => rw [cf_succ, cf_nil, F.add_zero]
  | s + 1, i => by
    simp only [List.replicate_succ, List.cons_append, mulP, cf_add, cf_sc, F.zero_mul, F.zero_add]
    cases i with
    | zero => rw [cf_zero, if_neg (by omega)]
    | succ i =>
      rw [cf_succ, mul_shift c d s i]
      by_cases h : s ≤ i
      · rw [if_pos h, if_pos (by omega), show i + 1 - (s + 1) = i - s by omega]
      · rw [if_neg h, if_neg (by omega)]
theorem cf_shift (c : F) (s i : Nat) : cf (List.replicate s 0 ++ [c]) i = if i = s then c else 0 := by
  unfold cf
  rw [List.getD_eq_getElem?_getD, List.getElem?_append, List.length_replicate]
  by_cases h : i < s
  · rw [if_pos h, List.getElem?_replicate, if_pos h, if_neg (by omega)]; rfl
  · rw [if_neg h]
    by_cases e : i = s
    · subst e; rw [Nat.sub_self, if_pos rfl]; rfl
    · rw [if_neg e, List.getElem?_eq_none (by simp; omega)]; rfl
theorem mul_set {q : List F} (d : List F) {s : Nat} (c : F) (hs : s < q.length) (h0 : cf q s = 0) (i : Nat) : cf (mulP (q.set s c) d) i = cf (mulP q d) i + (if s ≤ i then c * cf d (i - s) else 0) := by
  have e : Eqv (q.set s c) (addP q (List.replicate s 0 ++ [c])) := fun j => by
    rw [cf_set _ _ _ hs, cf_add, cf_shift]
    by_cases hj : j = s
    · subst hj; rw [if_pos rfl, if_pos rfl, h0, F.zero_add]
    · rw [if_neg hj, if_neg hj, F.add_zero]
  rw [Eqv.mul e (Eqv.refl d) i, mul_add_left _ _ _ i, cf_add, mul_shift]
def DivSt (p d q r : List F) (low : Nat) : Prop := q.length = p.length ∧ r.length = p.length ∧ (∀ i, cf p i = cf (mulP q d) i + cf r i) ∧ ∀ i, i + low < (trimP r).length → cf q i = 0
theorem div_start (p d : List F) (low : Nat) : DivSt p d (List.replicate p.length 0) p low := by
  have hz : ∀ i, cf (List.replicate p.length (0 : F)) i = 0 := fun i => by
    unfold cf
    rw [List.getD_eq_getElem?_getD, List.getElem?_replicate]
    split <;> rfl
  exact ⟨by simp, rfl, fun i => by rw [mulP_zero hz d i, F.zero_add], fun i _ => hz i⟩
theorem div_step {p d q r r' : List F} {low t : Nat} (h : DivSt p d q r low) (ht : (trimP r).length = t + 1) (hl : low ≤ t) (hd : (trimP d).length = low + 1) (c : F) (hc : c = cf r t * (cf d low).inv)
    (hr' : r'.length = p.length ∧ ∀ i, cf r' i = cf r i + (if t - low ≤ i ∧ i < t - low + (low + 1) then c * cf d (i - (t - low)) else 0)) : DivSt p d (q.set (t - low) c) r' low ∧ (trimP r').length ≤ t := by
  obtain ⟨h1, h2, h3, h4⟩ := h
  have htl : t < p.length := by have := trim_length r; omega
  have hdz : ∀ j, low < j → cf d j = 0 := fun j hj => by rw [← cf_trim d]; exact cf_ge _ _ (by omega)
  have hd0 : cf d low ≠ 0 := by
    have := trim_last d (by intro e; rw [e] at hd; simp at hd)
    rw [cf_trim, hd] at this
    exact this
  have hr0 : ∀ j, t < j → cf r j = 0 := fun j hj => by rw [← cf_trim r]; exact cf_ge _ _ (by omega)
  have hlen : (trimP r').length ≤ t := trim_le (fun i hi => by
    rw [hr'.2 i]
    rcases Nat.eq_or_lt_of_le hi with e | h5
    · subst e
      rw [if_pos (by omega), show t - (t - low) = low by omega, hc, F.mul_assoc, F.mul_comm _ (cf d low), F.mul_inv _ hd0, F.mul_one, F.add_self]
    · rw [hr0 i h5, if_neg (by omega), F.add_zero])
  refine ⟨⟨by rw [List.length_set]; exact h1, hr'.1, fun i => ?_, fun i hi => ?_⟩, hlen⟩
  · rw [mul_set d c (by omega) (h4 _ (by omega)), hr'.2 i, h3 i]
    have e : (if t - low ≤ i then c * cf d (i - (t - low)) else 0) = (if t - low ≤ i ∧ i < t - low + (low + 1) then c * cf d (i - (t - low)) else 0) := by
      by_cases h5 : t - low ≤ i
      · rw [if_pos h5]
        by_cases h6 : i < t - low + (low + 1)
        · rw [if_pos ⟨h5, h6⟩]
        · rw [if_neg (by omega), hdz _ (by omega), F.mul_zero]
      · rw [if_neg h5, if_neg (by omega)]
    rw [e, F.add4, F.add_self, F.add_zero]
  · rw [cf_set _ _ _ (by omega), if_neg (by omega)]
    exact h4 i (by omega)
theorem InvF (w : World) (g : Nat) (a : F) (hF : Fld w g) : Calls Try.prog 32 #[.pointer (some ⟨g, 0, none⟩), .int .u8 (a.v : Int)] w fun e w' => e = .returned (.tuple #[.int .u8 (a.inv.v : Int), .bool (decide (a.v ≠ 0))]) ∧ Drawn0 w w' := Inv_any w g a.v hF a.lt
set_option maxRecDepth 100000 in
set_option maxHeartbeats 1600000 in
theorem DivP_any (w : World) (g : Nat) (A B : Option Addr) (n m c c2 : Nat) (p d : List F) (low : Nat) (hF : Fld w g) (hp : Kd.C fk w A n p) (hd : Kd.C fk w B m d) (hmc : m ≤ c2) (hl : n ≤ 1000000) (hl2 : m ≤ 1000000) (hlow : (trimP d).length = low + 1) :
    Calls Try.prog 130 #[.pointer (some ⟨g, 0, none⟩), .slice A n c, .slice B m c2] w fun e w' => ∃ X Y q r, e = .returned (.tuple #[.slice X (trimP q).length (trimP q).length, .slice Y (trimP r).length (trimP r).length, .bool true]) ∧
      RF w' w.heap.size X (trimP q) ∧ RF w' w.heap.size Y (trimP r) ∧ (∀ i, cf p i = cf (mulP q d) i + cf r i) ∧ (trimP r).length ≤ low ∧ Fr (fun _ => False) w w' := by
  have hpn := Kd.C_len hp
  have hdm := Kd.C_len hd
  have hle := trim_length d
  have hlm : low < m := by omega
  have HD := Aside0.mk (Degree_any w B m c2 d hd hmc (by omega))
  rw [hlow] at HD
  have HP := Aside0.mk hp
  have HDD := Aside0.mk hd
  have HPN := Aside0.mk hpn
  have HF := Aside0.mk hF
  have HLOW := Aside0.mk hlow
  have hl0 : ¬ (low : Int) < 0 := by omega
  have hl1 : (low : Int) < (m : Int) := by omega
  clear hp hd hpn hdm hF hle hlow
  obtain ⟨adB, rfl, hcb⟩ := C_at HDD.out (Fr.refl (fun _ => False) w) (fun _ h => h.elim) low hlm
  obtain ⟨dl, hdl⟩ : ∃ dl, dl = d.getD low 0 := ⟨_, rfl⟩
  rw [← hdl] at hcb
  have HI := Aside0.mk (fun t => InvF (w.drewN t) g dl HF.out.drew)
  have HDL := Aside0.mk hdl
  have HK := Aside0.mk (fun t => Clone_any (w.drewN t) A n c p (C_drewN HP.out t) (by omega))
  have hmk := fun W : World => make_u8 (P := Try.prog) 36 5 Try.underlying36 info5 n (by omega) W
  clear hdl
  go_enter Try.func130, Try.ntmps130
  go_wp2_with (first
    | (go_at_call 134; (with_reducible refine HD.out.mono ?_); rintro e w1 ⟨rfl, ⟨k, rfl⟩⟩)
    | (go_at_call 32; (with_reducible refine (HI.out _).mono ?_); rintro e w1 ⟨rfl, ⟨k2, rfl⟩⟩)
    | (go_at_call 95; (with_reducible refine (HK.out _).mono ?_); rintro e w1 ⟨R, cr, rfl, hR, hb⟩; have HR := Aside0.mk hR; have HB := Aside0.mk hb; clear hR hb))
  have hz1 : w.heap.size ≤ w1.heap.size := HB.out.size
  have hrR : Kd.R fk 5 w1 w.heap.size (fun j => j < w1.heap.size) (.slice R n cr) p := Kd.R_mono (Kd.R_bound HR.out) (fun j hj => hj.2.2.1)
  obtain ⟨gq, hgq⟩ : ∃ gq, gq = w1.heap.size := ⟨_, rfl⟩
  have hb0 : Below w.heap.size w w1 := ⟨HB.out.os, HB.out.tape, HB.out.output, HB.out.size, HB.out.block⟩
  obtain ⟨wz, hwz⟩ : ∃ wz, wz = w1.alloc (Obj.cells (Array.replicate n (Value.int IntKind.u8 0)) 5) := ⟨_, rfl⟩
  have hbz : Below w1.heap.size w1 wz := by rw [hwz]; exact below_alloc (Below.refl _ _) _
  have hqR : Kd.R fk 5 wz w.heap.size (fun j => j = gq) (.slice (some ⟨gq, 0, none⟩) n n) (List.replicate n 0) := by
    rw [hwz, hgq]; exact R_zerosF w1 w.heap.size _ n (by omega) hz1 rfl
  have hrR2 := Kd.R_below hrR hbz
  rw [← hgq] at hrR2
  have HQ := Aside0.mk hqR
  have HR2 := Aside0.mk hrR2
  have HBZ := Aside0.mk (hb0.trans (hbz.mono hb0.size))
  have hrc : n ≤ cr := (Kd.R_reads' hrR2).2.1
  have HD2 := Aside0.mk (Degree_any wz R n cr p (R_C hrR2) hrc (by omega))
  rw [← hgq, ← hwz]
  have HZ := Aside0.mk (And.intro hz1 hgq)
  have HST : Aside0 (DivSt p d (List.replicate n 0) p low) := ⟨by rw [← HPN.out]; exact div_start p d low⟩
  clear hrR hqR hrR2 hb0 hwz hbz hz1 hgq HR HB hmk HK
  refine HD2.out.mono ?_
  rintro e w3 ⟨rfl, ⟨k3, rfl⟩⟩
  clear HD2
  go_wp2
  go_loopw [12] (fun v12 wr => ∃ (T : Nat) (qs rs : List F), v12 = .int .i64 ((T : Int) - 1) ∧ Aside0 (T = (trimP rs).length) ∧ Aside0 (DivSt p d qs rs low) ∧ Aside0 (Kd.R fk 5 wr w.heap.size (fun j => j < gq) (.slice R n cr) rs) ∧ Aside0 (Kd.R fk 5 wr w.heap.size (fun j => j = gq) (.slice (some ⟨gq, 0, none⟩) n n) qs) ∧ Aside0 (Below w.heap.size w wr)) (fun v12 _ => (intOf v12 + 1).toNat)
  case atStart => exact ⟨_, _, p, rfl, ⟨rfl⟩, HST, ⟨Kd.R_drewN HR2.out _⟩, ⟨Kd.R_drewN HQ.out _⟩, ⟨below_drawN HBZ.out _⟩⟩
  case round =>
    clear HST HR2 HQ HBZ
    obtain ⟨T, qs, rs, rfl, HT, HS, HR, HQ, HB⟩ := hrel
    obtain ⟨wo, rfl⟩ : ∃ wo : World, wo = wr := ⟨_, rfl⟩
    by_cases hT : low < T
    · obtain ⟨s, rfl⟩ : ∃ s, T = s + low + 1 := ⟨T - low - 1, by omega⟩
      have hidx : (((s + low + 1 : Nat) : Int) - 1) = (s : Int) + (low : Int) := by omega
      rw [hidx]
      have htn : s + low < n := by
        have h1 := HT.out
        have h2 := trim_length rs
        have h3 := HS.out.2.1
        have h4 := HPN.out
        omega
      obtain ⟨gr, rfl, hgr0, _, hgr, hx, _, _⟩ := R_at (0 : F) HR.out (s + low) htn
      obtain ⟨z, hz⟩ : ∃ z, z = rs.getD (s + low) 0 := ⟨_, rfl⟩
      rw [← hz] at hx
      unfold encF at hx
      have hcbo := HB.out.cell (p := adB.add low) (by have := World.block_lt_of_cell? w _ hcb; exact this)
      have hFo : Fld wo g := HF.out.fr (Fr.of_below HB.out (fun _ => False)) (fun h => h)
      have HM1 := Aside0.mk (MulF wo g z dl.inv hFo)
      obtain ⟨cc, hcc⟩ : ∃ cc, cc = z * dl.inv := ⟨_, rfl⟩
      rw [← hcc] at HM1
      obtain ⟨gq', e, _, _, _, hqx, hqz, hqset⟩ := R_at (0 : F) HQ.out s (by omega)
      injection e with e
      injection e with e _ _
      subst e
      have HQS := Aside0.mk (hqset cc)
      have hgne : gr ≠ gq := by omega
      have HRS := Aside0.mk (Kd.R_far HR.out (p := ⟨gq, s, none⟩) (fun k hk => by show k ≠ gq; omega) (encF cc))
      unfold encF at hqx HQS HRS
      have HBS := Aside0.mk (HB.out.setCell (p := ⟨gq, s, none⟩) (by have := HZ.out; show w.heap.size ≤ gq; omega) (.int .u8 (cc.v : Int)))
      have HCC := Aside0.mk (And.intro hcc hz)
      have hsl : (s : Int) + (low : Int) < (n : Int) := by omega
      have hs0 : (0 : Int) ≤ (s : Int) + (low : Int) := by omega
      have hge : (low : Int) ≤ (s : Int) + (low : Int) := by omega
      have hsn : ((s : Int) + (low : Int)).toNat = s + low := by omega
      have hs1 : (s : Int) < (n : Int) := by omega
      clear hqset hcc hz hidx
      go_wp2_with (go_at_call 31; (with_reducible refine HM1.out.mono ?_); rintro e w4 ⟨rfl, ⟨k4, rfl⟩⟩)
      go_loopw [55] (fun v55 wr => ∃ (j : Nat) (ys : List F), j ≤ low + 1 ∧ v55 = .int .i64 j ∧ Aside0 (ys.length = p.length ∧ ∀ i, cf ys i = cf rs i + (if s ≤ i ∧ i < s + j then cc * cf d (i - s) else 0)) ∧ Aside0 (Kd.R fk 5 wr w.heap.size (fun j => j < gq) (.slice (some ⟨gr, 0, none⟩) n cr) ys) ∧ Aside0 (Kd.R fk 5 wr w.heap.size (fun j => j = gq) (.slice (some ⟨gq, 0, none⟩) n n) (qs.set s cc)) ∧ Aside0 (Below w.heap.size w wr)) (fun v55 _ => low + 1 - (intOf v55).toNat)
      case atStart => exact ⟨0, rs, by omega, rfl, ⟨HS.out.2.1, fun i => by rw [if_neg (by omega), F.add_zero]⟩, ⟨Kd.R_drewN HRS.out _⟩, ⟨Kd.R_drewN HQS.out _⟩, ⟨below_drawN HBS.out _⟩⟩
      case round =>
        clear HRS HQS HBS hx hqx hqz hcbo hFo HM1
        obtain ⟨j, ys, hj, rfl, HY, HR2, HQ2, HB2⟩ := hrel
        by_cases hjl : j < low + 1
        · obtain ⟨adB', e, hcb2⟩ := C_at HDD.out (Fr.of_below HB2.out (fun _ => False)) (fun _ h => h.elim) j (by omega)
          injection e with e
          subst e
          obtain ⟨b, hb⟩ : ∃ b, b = d.getD j 0 := ⟨_, rfl⟩
          rw [← hb] at hcb2
          obtain ⟨gb, e, _, _, _, hy, hfz, hset⟩ := R_at (0 : F) HR2.out (s + j) (by omega)
          injection e with e
          injection e with e _ _
          subst e
          obtain ⟨y, hyy⟩ : ∃ y, y = ys.getD (s + j) 0 := ⟨_, rfl⟩
          rw [← hyy] at hy
          unfold encF at hy
          have hF2 : Fld wr g := HF.out.fr (Fr.of_below HB2.out (fun _ => False)) (fun h => h)
          have HMU := Aside0.mk (fun t => MulF (wr.drewN t) g cc b hF2.drew)
          have hxr := xorF y (cc * b)
          have HS2 := Aside0.mk (hset (y + cc * b))
          have hgne2 : gr ≠ gq := hgne
          have HQ3 := Aside0.mk (Kd.R_far HQ2.out (p := ⟨gr, s + j, none⟩) (fun k hk => by show k ≠ gr; omega) (encF (y + cc * b)))
          have HB3 := Aside0.mk (HB2.out.setCell (p := ⟨gr, s + j, none⟩) hgr0 (encF (y + cc * b)))
          have HY2 : Aside0 ((ys.set (s + j) (y + cc * b)).length = p.length ∧ ∀ i, cf (ys.set (s + j) (y + cc * b)) i = cf rs i + (if s ≤ i ∧ i < s + (j + 1) then cc * cf d (i - s) else 0)) := ⟨by rw [List.length_set]; exact HY.out.1, fun i => by
            rw [cf_set _ _ _ (by rw [HY.out.1, HPN.out]; omega)]
            by_cases hi : i = s + j
            · subst hi
              rw [if_pos rfl, if_pos (by omega), Nat.add_sub_cancel_left, hyy, hb]
              have h2 := HY.out.2 (s + j)
              rw [if_neg (by omega), F.add_zero] at h2
              have h3 : ys.getD (s + j) 0 = cf rs (s + j) := h2
              rw [h3]; rfl
            · rw [if_neg hi, HY.out.2 i]
              by_cases h4 : s ≤ i ∧ i < s + j
              · rw [if_pos h4, if_pos (by omega)]
              · rw [if_neg h4, if_neg (by omega)]⟩
          unfold encF at HS2 HQ3 HB3
          generalize cc * b = cb at HMU hxr HS2 HQ3 HB3 HY2
          have hsj : (s : Int) + (j : Int) < (n : Int) := by omega
          have hsj0 : (0 : Int) ≤ (s : Int) + (j : Int) := by omega
          have hsjn : ((s : Int) + (j : Int)).toNat = s + j := by omega
          have hw1 : IntKind.i64.wrap ((s : Int) + (j : Int)) = (s : Int) + (j : Int) := IntWalk.i64_in _ ⟨by omega, by omega⟩
          have hw2 : IntKind.i64.wrap ((s : Int) + (low : Int) - (low : Int)) = (s : Int) := by rw [show (s : Int) + (low : Int) - (low : Int) = (s : Int) by omega]; exact IntWalk.i64_in _ ⟨by omega, by omega⟩
          have hw3 : IntKind.i64.wrap (s : Int) = (s : Int) := IntWalk.i64_in _ ⟨by omega, by omega⟩
          have hjm : (j : Int) < (m : Int) := by omega
          have hjl2 : (j : Int) < (low : Int) + 1 := by omega
          clear hset hb hyy
          go_wp2
          refine wp_region_drawn_tail 16 (by kernel_rfl) (by kernel_rfl) ?_
          simp only [List.take_succ_cons, List.take_zero, List.drop_succ_cons, List.drop_zero]
          repeat (first | go_big_quiet_skip | (go_big_quiet_want; go_big_quiet_op; first | go_big_quiet_on | (apply Exists.intro; refine ⟨fun t => ?_, ?_⟩; (go_at_call 31; exact quiet_drawn (HMU.out t)); go_big_quiet_on)))
          refine wpQuiet_nil ?_
          rintro _ ⟨t, rfl⟩
          go_wp2
          go_roundw
          case rel => exact ⟨j + 1, _, by omega, by go_num, HY2, ⟨Kd.R_drewN HS2.out t⟩, ⟨Kd.R_drewN HQ3.out t⟩, ⟨below_drawN HB3.out t⟩⟩
          case measure => simp [intOf]; omega
        · obtain rfl : j = low + 1 := by omega
          have hstep := div_step (r' := ys) HS.out (t := s + low) (by rw [← HT.out]) (by omega) HLOW.out cc (by rw [HCC.out.1, HCC.out.2, HDL.out]; rfl) ⟨HY.out.1, by rw [Nat.add_sub_cancel]; exact HY.out.2⟩
          rw [Nat.add_sub_cancel] at hstep
          have HSTEP := Aside0.mk hstep.1
          have hlt := hstep.2
          have HD3 := Aside0.mk (Degree_any wr (some ⟨gr, 0, none⟩) n cr ys (R_C HR2.out) hrc (by omega))
          obtain ⟨T', hT'⟩ : ∃ T', T' = (trimP ys).length := ⟨_, rfl⟩
          rw [← hT'] at HD3 hlt
          have HT' := Aside0.mk hT'
          clear hstep hT'
          go_wp2_with (go_at_call 134; (with_reducible refine HD3.out.mono ?_); rintro e w5 ⟨rfl, ⟨k5, rfl⟩⟩)
          go_roundw
          case rel => exact ⟨T', _, ys, rfl, HT', HSTEP, ⟨Kd.R_drewN HR2.out k5⟩, ⟨Kd.R_drewN HQ2.out k5⟩, ⟨below_drawN HB2.out k5⟩⟩
          case measure => simp only [intOf]; omega
    · have hTI : ¬ (low : Int) ≤ (T : Int) - 1 := by omega
      have HT1 := Aside0.mk (fun t => trim_any (wo.drewN t) (some ⟨gq, 0, none⟩) n n qs (C_drewN (R_C HQ.out) t) (Nat.le_refl _) (by omega))
      have HT2 := Aside0.mk (fun t => trim_any (wo.drewN t) R n cr rs (C_drewN (R_C HR.out) t) hrc (by omega))
      have HT0 := Aside0.mk (trim_any wo (some ⟨gq, 0, none⟩) n n qs (R_C HQ.out) (Nat.le_refl _) (by omega))
      have hTr : (trimP rs).length ≤ low := by rw [← HT.out]; omega
      have HTR := Aside0.mk hTr
      clear hTr
      go_wp2_with fail
      (with_reducible refine HT0.out.mono ?_)
      rintro e w4 ⟨rfl, ⟨k4, rfl⟩⟩
      go_wp2_with fail
      (with_reducible refine (HT2.out k4).mono ?_)
      rintro e w5 ⟨rfl, ⟨k5, rfl⟩⟩
      go_wp2
      go_ret3
      refine ⟨some ⟨gq, 0, none⟩, R, qs, rs, rfl, ?_, ?_, HS.out.2.2.1, HTR.out, ?_⟩
      · exact RF_fr (RF_trim (RF_of_R HQ.out)) ((Fr.refl (fun _ => False) wo).drewN (k4 + k5)) (fun _ _ _ h => h)
      · exact RF_fr (RF_trim (RF_of_R HR.out)) ((Fr.refl (fun _ => False) wo).drewN (k4 + k5)) (fun _ _ _ h => h)
      · exact (Fr.of_below HB.out _).drewN (k4 + k5)
end Go.Proofs.Ytpeiejkcoadhfaa
namespace Go.Proofs.Ytpeiejkcoadhfaa
open Go.RowKit Go.Shelf Go.Proofs.YtpeiejkcoadhfaaW.PrintWords Go.Proofs.YtpeiejkcoadhfaaW.PrintMore
attribute [local go_sem] Oper.semAt_some
abbrev Oth : Type := Nat × (Option Addr × List F)
def encO (x : Oth) : Array Value := #[.int .i64 (x.1 : Int), .slice x.2.1 x.2.2.length x.2.2.length]
def RelO (xs : List F) (b : Nat) (pre : List Oth) (x : Oth) (W : World) : Prop := pre.length < xs.length ∧ x.1 = pre.length ∧ RF W b x.2.1 x.2.2 ∧ Basis xs x.1 x.2.2 ∧ x.2.2.length ≤ xs.length
theorem lin_trim (x : F) : trimP (lin x) = lin x := by simp [lin, trimP, F.one_ne]
set_option maxRecDepth 100000 in
set_option maxHeartbeats 1600000 in
theorem others_seq (S : Nat → Prop) (w : World) (bf bx g : Nat) (A : Option Addr) (n c : Nat) (xs : List F) (hF : Fld w g) (hx : Kd.C fk w A n xs) (hl : n ≤ 1000) (hu : Unl xs) (hS : ∀ k, S k → k < w.heap.size)
    (hg : ¬ S g) (hA : ∀ j, OB A j → 0 < n → ¬ S j) (hbf : w.heap[bf]? = some (.cells #[.pointer (some ⟨g, 0, none⟩)] 23 (0, 0))) (hbx : w.heap[bx]? = some (.cells #[.slice A n c] 36 (0, 0))) (hSf : ¬ S bf) (hSx : ¬ S bx) :
    SeqG Try.prog 132 #[.pointer (some ⟨bf, 0, none⟩), .pointer (some ⟨bx, 0, none⟩)] encO (RelO xs w.heap.size) S (fun ys => ys.length = n) w := by
  intro l J W hW hWz hJ hY h0
  obtain rfl : xs.length = n := Kd.C_len hx
  refine callsIn_of_wp Try.func132 rfl trivial ?_ rfl
  simp only [Try.ntmps132, List.size_toArray, List.length_cons, List.length_nil, Nat.reduceAdd, Nat.reduceSub, Array.replicate_succ, Array.replicate_zero, List.push_toArray, List.append_toArray, List.nil_append, List.cons_append]
  have hAlt : ∀ j, OB A j → 0 < xs.length → j < w.heap.size := fun j hj hn => by
    obtain ⟨ad, e, rfl⟩ := hj
    obtain ⟨ad', e', hc⟩ := (Kd.reads_of_C (enc := encF) (d := (0 : F)) (h1 := fun _ => rfl) hx).2.2 hn
    rw [e] at e'
    injection e' with e'
    subst e'
    have h1 := World.block_lt_of_cell? w _ (hc 0 hn)
    rwa [add_zero'] at h1
  -- what stays
  have HBF : Aside0 (∀ {W1 : World}, Fr (fun k => S k ∨ k = w.heap.size ∨ k = w.heap.size + 1) W W1 → W1.cell? ⟨bf, 0, none⟩ = some (.pointer (some ⟨g, 0, none⟩)) ∧ W1.cell? ⟨bx, 0, none⟩ = some (.slice A xs.length c) ∧ Fld W1 g ∧ Kd.C fk W1 A xs.length xs) := ⟨fun {W1} hf => by
    have h1 := blk_lt hbf
    have h2 := blk_lt hbx
    have h3 := fld_lt hF
    refine ⟨cell_at (hf.blk (blk_below hbf hW) (fun h => ?_)) rfl, cell_at (hf.blk (blk_below hbx hW) (fun h => ?_)) rfl, (hF.fr (Fr.of_below hW (fun _ => False)) (fun h => h)).fr hf (fun h => ?_), C_fr' (Kd.C_below hx hW) hf (fun j hj hn h => ?_)⟩
    · rcases h with h | h | h
      · exact hSf h
      · omega
      · omega
    · rcases h with h | h | h
      · exact hSx h
      · omega
      · omega
    · rcases h with h | h | h
      · exact hg h
      · omega
      · omega
    · have := hAlt j hj hn
      rcases h with h | h | h
      · exact hA j hj hn h
      · omega
      · omega⟩
  obtain ⟨c1, c2, hF1, hx1⟩ := HBF.out (Fr.refl _ W)
  have HR := Aside0.mk (Roots_any W g A xs.length c xs hF1 hx1 (by omega))
  have HY := Aside0.mk hY
  have HJ := Aside0.mk hJ
  have H0 := Aside0.mk h0
  have HU := Aside0.mk hu
  have HWZ := Aside0.mk hWz
  have HS := Aside0.mk hS
  have HWB := Aside0.mk hW
  clear hY hJ h0 hW hAlt hx hbf hbx hSf hSx hA hg hF hF1 hx1 hu hWz hS
  gi_wp2_with (refine ⟨trivial, ?_⟩; gi_at_call 83; refine (callsIn_wide.2 HR.out).mono ?_; rintro e W1 ⟨D, rfl, hD, hfD⟩; obtain ⟨c3, c4, hF3, hx3⟩ := HBF.out (hfD.mono (fun _ h => h.elim)); have HD := Aside0.mk hD; have HFD := Aside0.mk hfD; clear hD hfD hF3 hx3)
  clear c1 c2 c3 c4
  gi_loopw [15] (fun v15 wr => ∃ (k : Nat) (ys : List Oth), k ≤ xs.length ∧ v15 = .int .i64 k ∧ ys.length = k ∧ Aside0 (J ys wr) ∧ Aside0 (Fr (fun k => S k ∨ k = w.heap.size ∨ k = w.heap.size + 1) W1 wr)) (fun v15 _ => xs.length - (intOf v15).toNat)
  case atStart => exact ⟨0, [], by omega, rfl, rfl, ⟨HJ.out _ _ _ H0.out (HFD.out.below (Nat.le_refl _) (fun _ h => h.elim))⟩, ⟨Fr.refl _ _⟩⟩
  case round =>
    clear H0 HR
    obtain ⟨k, ys, hk, rfl, hys, HJy, HFr⟩ := hrel
    have HYS := Aside0.mk hys
    clear hys
    by_cases hlt : k < xs.length
    · obtain ⟨c1, c2, hF1, hx1⟩ := HBF.out ((HFD.out.mono (fun _ h => h.elim)).trans' HFr.out)
      obtain ⟨adx, rfl, hcx⟩ := C_at hx1 (Fr.refl (fun _ => False) wr) (fun _ h => h.elim) k hlt
      obtain ⟨x, hx⟩ : ∃ x, x = xs.getD k 0 := ⟨_, rfl⟩
      rw [← hx] at hcx
      have hDr := RF_fr HD.out HFr.out (fun j hj _ h => by
        have h1 := HWZ.out
        rcases h with h | h | h
        · have := HS.out j h; omega
        · omega
        · omega)
      have hrl := roots_length xs
      have hb1 : Below wr.heap.size wr (wr.alloc (.cells #[.int .u8 (x.v : Int), .int .u8 1] 5)) := below_alloc (Below.refl _ _) _
      have hd := R_C (R_litF wr wr.heap.size (fun _ => True) (lin x) (by simp [lin]) (Nat.le_refl _) trivial)
      have c5 := DivP_any (wr.alloc (.cells #[.int .u8 (x.v : Int), .int .u8 1] 5)) g D (some ⟨wr.heap.size, 0, none⟩) (xs.length + 1) 2 (xs.length + 1) 2 (roots xs) (lin x) 1 (hF1.fr (Fr.of_below hb1 (fun _ => False)) (fun h => h)) (by rw [← hrl]; exact Kd.C_below hDr.1 hb1) hd (by omega) (by omega) (by omega) (by rw [lin_trim]; rfl)
      have HC5 := Aside0.mk c5
      have HX := Aside0.mk hx
      have HB1 := Aside0.mk hb1
      clear c5 hd hrl hDr hb1 hx hF1 hx1
      have HPO : Aside0 (∀ (X : Option Addr) (q r : List F) (W3 : World), RF W3 (wr.alloc (.cells #[.int .u8 (x.v : Int), .int .u8 1] 5)).heap.size X (trimP q) → (∀ i, cf (roots xs) i = cf (mulP q (lin x)) i + cf r i) → (trimP r).length ≤ 1 → Fr (fun _ => False) (wr.alloc (.cells #[.int .u8 (x.v : Int), .int .u8 1] 5)) W3 →
          YieldAt Fence.wide 1 Try.prog l #[.int .i64 (k : Int), .slice X (trimP q).length (trimP q).length] W3 fun e W' => e = .returned (.bool true) ∧ J (ys ++ [(k, X, trimP q)]) W' ∧ Fr (fun k => S k ∨ k = w.heap.size ∨ k = w.heap.size + 1) W1 W') := ⟨fun X q r W3 hX hqr hr1 hf3 => by
        have hbas : Basis xs k (trimP q) := basis_quo HU.out hlt (r := trimP r) (fun j => by
          rw [hqr j, ← HX.out]
          congr 1
          · exact Eqv.mul (cf_trim q).symm (Eqv.refl _) j
          · exact (cf_trim r j).symm) hr1
        have hlen : (trimP q).length ≤ xs.length := by
          have := trim_le (p := trimP q) (n := xs.length) (fun i hi => hbas.1 i hi)
          rwa [trim_trim] at this
        have hb3 : Below wr.heap.size wr W3 := HB1.out.trans ((hf3.below (Nat.le_refl _) (fun _ h => h.elim)).mono HB1.out.size)
        have hsz : w.heap.size ≤ (wr.alloc (.cells #[.int .u8 (x.v : Int), .int .u8 1] 5)).heap.size := by
          have h1 := HWZ.out
          have h2 := HFD.out.size
          have h3 := HFr.out.size
          have h4 := HB1.out.size
          omega
        refine (HY.out ys (k, X, trimP q) W3 (HJ.out _ _ _ HJy.out hb3) ⟨by rw [HYS.out]; exact hlt, HYS.out.symm, RF_lower hX hsz, hbas, hlen⟩).mono ?_
        rintro e W' ⟨he, hj, hf⟩
        exact ⟨he, hj, (HFr.out.below_ hb3).trans' hf⟩⟩
      gi_wp2_with (refine ⟨trivial, ?_⟩; gi_at_call 130; refine (callsIn_wide.2 HC5.out).mono ?_; rintro e W3 ⟨X, Y, q, r, rfl, hX, hYr, hqr, hr1, hf3⟩; obtain ⟨fn, tmps, assign, body, hy, hRd⟩ := HPO.out X q r W3 hX hqr hr1 hf3; clear hX hYr hqr hr1 hf3)
      refine hRd.mono ?_
      rintro ee W' ⟨rfl, hj', hf'⟩
      have HF' := Aside0.mk hf'
      have HJ' := Aside0.mk hj'
      clear hj' hf'
      gi_wp2
      go_roundw
      case rel => exact ⟨k + 1, _, by omega, by go_num, by rw [List.length_append, HYS.out]; rfl, HJ', HF'⟩
      case measure => simp only [intOf]; omega
    · obtain rfl : k = xs.length := by omega
      gi_wp2
      go_end0
      exact ⟨⟨_, rfl⟩, ys, HYS.out, HJy.out⟩
end Go.Proofs.Ytpeiejkcoadhfaa
namespace Go.Proofs.Ytpeiejkcoadhfaa
open Go.RowKit Go.Shelf
theorem results_cell2 {fn : Func} {a b : Tmp} {t u : TypeId} (h : fn.results = #[.cell a t, .cell b u]) (tmps : Array Value) (P : Program) (w : World) {p q : Addr} {x y : Value} (ha : tmps.getD a undef = .pointer (some p)) (hb : tmps.getD b undef = .pointer (some q))
    (hx : (loadVar t p).run P w = .ok x w) (hy : (loadVar u q).run P w = .ok y w) : (results fn tmps).run P w = .ok (.tuple #[x, y]) w := by
  rw [Array.getD_eq_getD_getElem?] at ha hb
  simp [results, h, ha, hb, asAddr, hx, hy]
theorem load36 {w : World} {p : Addr} {A : Option Addr} {n c : Nat} (h : w.cell? p = some (.slice A n c)) : (loadVar 36 p).run Try.prog w = .ok (.slice A n c) w := by
  go_simp
theorem load4 {w : World} {p : Addr} {b : Bool} (h : w.cell? p = some (.bool b)) : (loadVar 4 p).run Try.prog w = .ok (.bool b) w := by
  go_simp
end Go.Proofs.Ytpeiejkcoadhfaa
namespace Go.Proofs.Ytpeiejkcoadhfaa
open Go.RowKit Go.Shelf Go.Proofs.YtpeiejkcoadhfaaW.PrintWords Go.Proofs.YtpeiejkcoadhfaaW.PrintMore
theorem zeroCells_list (k : Nat) : (Builtin.zeroCells (Value.int .u8 0).cells k).toList = List.replicate k (.int .u8 0) := by
  have e : (Value.int .u8 0).cells = #[.int .u8 0] := rfl
  rw [e]
  apply List.ext_getElem
  · simp [Builtin.zeroCells]
  · intro i h1 h2
    simp [Builtin.zeroCells, Nat.mod_one]
theorem run_append_room_zeros {P : Program} (w : World) (t tn ty e : TypeId) (i : TypeInfo) (kq kn : IntKind) (ht : P.underlying t = some (.slice e)) (htn : P.underlying tn = some (.int kn)) (hi : P.info? e = some i) (hz : i.zero = some (.int .u8 0)) (hsz : i.size = 1) (hby : i.bytes = 1)
    (g n cap : Nat) (cur : Array Value) (hg : w.heap[g]? = some (.cells cur e (0, 0))) (k : Nat) (hroom : n + k ≤ cap) (hcur : cur.size = cap) (hk : k ≤ 140737488355328) :
    (Builtin.append_ #[t, tn] ty #[.slice (some ⟨g, 0, none⟩) n cap, .int kq k]).run P w = .ok (.slice (some ⟨g, 0, none⟩) (n + k) cap) (w.setRow g (cur.toList.take n ++ List.replicate k (Value.int .u8 0) ++ cur.toList.drop (n + k)).toArray) := by
  have hst := run_storeCells_at P g n e (List.replicate k (.int .u8 0)) 0 cur w hg (by rw [List.length_replicate]; omega) (fun u hu => by rw [(List.mem_replicate.1 hu).2]; rfl)
  rw [List.length_replicate] at hst
  simp only [Nat.add_zero] at hst
  have hw : IntKind.i64.wrap (k : Int) = k := by rw [IntKind.wrap_i64]; omega
  have h48i : ¬ (281474976710656 < (k : Int)) := by omega
  have hneg : ¬ ((k : Int) < 0) := by omega
  by_cases hk0 : k = 0
  · subst hk0
    simp only [List.replicate_zero, List.append_nil] at hst ⊢
    simp [Builtin.append_, run_underlying ht, run_underlying htn, sizeOf, typeInfo, hi, hsz, hby, asInt, asIntOf, hroom, Addr.add_lit, Nat.add_zero] at hst ⊢
    simp_all
  · have hz2 := zeroCells_list k
    simp [Builtin.append_, run_underlying ht, run_underlying htn, sizeOf, typeInfo, zeroValue, hi, hz, hsz, hby, asInt, asIntOf, hw, hneg, h48i, hk0, hroom, Addr.add_lit, hz2, hst]
theorem encs_zeros (k : Nat) : encs encF (List.replicate k (0 : F)) = List.replicate k (Value.int .u8 0) := by
  induction k with
  | zero => rfl
  | succ k ih => rw [List.replicate_succ, List.replicate_succ, ← ih]; rfl
theorem R_append_zeros (W : World) (base : Nat) {v : Value} {xs : List F} {ok : Nat → Prop} (h : Kd.R fk 5 W base ok v xs) (k : Nat) (hn : xs.length + k ≤ 140737488355328) (hbase : base ≤ W.heap.size) (hok : ∀ k, W.heap.size ≤ k → ok k) :
    ∃ v' W', (Builtin.append_ #[36, 3] 36 #[v, .int .i64 (k : Int)]).run Try.prog W = .ok v' W' ∧ Kd.R fk 5 W' base ok v' (xs ++ List.replicate k 0) ∧ W.grownBy W' v.ownBlock ∧ (v'.ownBlock = v.ownBlock ∨ ∃ b, v'.ownBlock = some b ∧ W.heap.size ≤ b) := by
  obtain ⟨i, hi, hz, hs, hb⟩ := info_parts info5
  have ho := Kd.own_of_R h
  obtain ⟨n, hnn⟩ : ∃ n, n = xs.length := ⟨_, rfl⟩
  rw [← hnn] at ho hn
  have hel : (encs encF xs).length = n := by rw [encs_length]; omega
  have hlen : (encs encF xs ++ List.replicate k (Value.int .u8 0)).length = (n + k) * 1 := by rw [List.length_append, hel, List.length_replicate, Nat.mul_one]
  suffices H : ∃ v' W', (Builtin.append_ #[36, 3] 36 #[v, .int .i64 (k : Int)]).run Try.prog W = .ok v' W' ∧ W'.ownsRow base 5 1 v' (n + k) (encs encF xs ++ List.replicate k (Value.int .u8 0)) ∧ W.grownBy W' v.ownBlock ∧ (v'.ownBlock = v.ownBlock ∨ v'.ownBlock = some W.heap.size) by
    obtain ⟨v', W', h1, h2, h3, h4⟩ := H
    rw [← encs_zeros, ← encs_append] at h2
    have e : n + k = (xs ++ List.replicate k (0 : F)).length := by rw [List.length_append, List.length_replicate, hnn]
    rw [e] at h2
    refine ⟨v', W', h1, Kd.R_of_own h2 (fun j hj => ?_), h3, ?_⟩
    · rcases h4 with e1 | e1
      · exact h.1 j (by rw [← e1]; exact hj)
      · rw [e1] at hj
        injection hj with hj
        subst hj
        exact hok _ (Nat.le_refl _)
    · rcases h4 with e1 | e1
      · exact .inl e1
      · exact .inr ⟨_, e1, Nat.le_refl _⟩
  have grown : ∀ (old : Nat), old < n + k → ∀ (row : Option Nat),
      (W.drew.alloc (.cells ((encs encF xs).toArray ++ Builtin.zeroCells (Value.int .u8 0).cells k ++ Builtin.zeroCells (Value.int .u8 0).cells (grownCap W (n + k) old 5 - (n + k))) 5)).ownsRow base 5 1
        (.slice (some ⟨W.heap.size, 0, none⟩) (n + k) (grownCap W (n + k) old 5)) (n + k) (encs encF xs ++ List.replicate k (Value.int .u8 0)) ∧
      W.grownBy (W.drew.alloc (.cells ((encs encF xs).toArray ++ Builtin.zeroCells (Value.int .u8 0).cells k ++ Builtin.zeroCells (Value.int .u8 0).cells (grownCap W (n + k) old 5 - (n + k))) 5)) row := by
    intro old hold row
    have hge := grownCap_ge W (n + k) old 5
    have hcm : grownCap W (n + k) old 5 ≤ maxLen := grownCap_le_maxLen W (n + k) old 5 (by unfold maxLen; omega)
    have hc1 : (Value.int .u8 0).cells.size = 1 := rfl
    refine ⟨⟨hlen, .inr ⟨W.heap.size, _, _, rfl, hbase, heap_alloc_new W.drew _, hge, hcm, ?_, ?_⟩⟩, ⟨rfl, rfl, rfl, by simp, fun j hj _ => RowKit.Below.heap_alloc W.drew _ j hj⟩⟩
    · simp only [Array.size_append, List.size_toArray, size_zeroCells, hc1, hel, Nat.mul_one]
      omega
    · simp only [Array.toList_append, zeroCells_list]
      rw [← hlen]
      exact List.take_left
  rcases ho.2 with ⟨rfl, hn0⟩ | ⟨g, cap, cur, rfl, hbg, hg, hnc, hcm, hcs, htake⟩
  · by_cases hk : k = 0
    · subst hk
      have hw : IntKind.i64.wrap (0 : Int) = 0 := by rw [IntKind.wrap_i64]; omega
      refine ⟨.slice none 0 0, W, ?_, ?_, World.grownBy.refl _ _, .inl rfl⟩
      · simp [Builtin.append_, run_underlying Try.underlying36, run_underlying Try.underlying3, sizeOf, typeInfo, hi, asInt, asIntOf, hw, hb]
      · rw [hn0]
        have e : encs encF xs = [] := List.eq_nil_of_length_eq_zero (by rw [hel]; exact hn0)
        rw [e]
        exact World.ownsRow_nil W base 5 1
    · have hr := Lib.run_append_nil_zeros (P := Try.prog) W 36 3 36 5 i (.int .u8 0) .i64 .i64 Try.underlying36 Try.underlying3 hi hz k (by omega) (by omega) (by omega) (by rw [hb]; omega)
      have hgr := grown 0 (by omega) (Value.ownBlock (.slice none 0 0))
      have e : encs encF xs = [] := List.eq_nil_of_length_eq_zero (by rw [hel]; exact hn0)
      rw [e, hn0] at hgr ⊢
      simp only [Nat.zero_add, List.nil_append, Array.empty_append] at hgr ⊢
      exact ⟨_, _, hr, hgr.1, hgr.2, .inr rfl⟩
  · rw [Nat.mul_one] at hcs htake
    by_cases hroom : n + k ≤ cap
    · have hr := run_append_room_zeros (P := Try.prog) W 36 3 36 5 i .i64 .i64 Try.underlying36 Try.underlying3 hi hz hs hb g n cap cur hg k hroom hcs (by omega)
      rw [htake] at hr
      refine ⟨_, _, hr, ⟨hlen, .inr ⟨g, cap, _, rfl, hbg, setRow_heap W g cur _ 5 _ hg, hroom, hcm, ?_, ?_⟩⟩, ⟨rfl, rfl, rfl, by simp, fun j _ hj => setRow_other W g j _ (fun e => hj (by simp [Value.ownBlock, e]))⟩, .inl rfl⟩
      · have e2 : cur.toList.length = cap := by rw [Array.length_toList]; exact hcs
        simp only [List.size_toArray, List.length_append, List.length_drop, List.length_replicate, hel, e2]
        omega
      · rw [← hlen]
        exact List.take_left
    · have holds : ∀ j u, (encs encF xs)[j]? = some u → W.cell? ((⟨g, 0, none⟩ : Addr).add j) = some u := ho.cells (g := g) rfl
      have hold : (Builtin.firstCells i.size n (.slice (some ⟨g, 0, none⟩) n cap)).run Try.prog W.drew = .ok (encs encF xs).toArray W.drew := run_firstCells_some (P := Try.prog) W.drew i.size n ⟨g, 0, none⟩ n cap (encs encF xs) (by rw [hel, hs]; omega) holds
      have hr := Lib.run_append_grow_zeros (P := Try.prog) W 36 3 36 5 i (.int .u8 0) .i64 .i64 Try.underlying36 Try.underlying3 hi hz (some ⟨g, 0, none⟩) n cap (encs encF xs) hold k (by omega) (by omega) (by omega) (by omega) (by rw [hb]; omega) (growslice_fits (by omega) (by rw [hb]; omega))
      have hgr := grown cap (by omega) (Value.ownBlock (.slice (some ⟨g, 0, none⟩) n cap))
      exact ⟨_, _, hr, hgr.1, hgr.2, .inr rfl⟩
end Go.Proofs.Ytpeiejkcoadhfaa

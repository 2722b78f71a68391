/- What the view's laws take, Vt23: PzK, PzR, PzS, VwM, VwU, VwV, PzY, VwEV. -/
import Derived.Test.YtpeiejkcoadhfaaVt16
import Derived.Test.YtpeiejkcoadhfaaVt20
import Derived.Test.YtpeiejkcoadhfaaVt21
import Derived.Test.YtpeiejkcoadhfaaVt22
import Derived.Deep.RegionLaw
set_option linter.all false
namespace Go.Proofs.Ytpeiejkcoadhfaa
open Go.RowKit Go.Shelf Go.Proofs.YtpeiejkcoadhfaaW.PrintWords Go.Proofs.YtpeiejkcoadhfaaW.PrintMore
def colF (xs : List F) (k j : Nat) : List F := (xs.drop (j * k)).take k ++ List.replicate (k - ((xs.drop (j * k)).take k).length) 0
theorem colF_bs (xs : List F) (k j : Nat) : colOf (bs xs) k j = bs (colF xs k j) := by
  unfold colOf colF bs
  rw [List.map_append, List.map_replicate, List.map_take, List.map_drop]
  congr 1
  simp [F.zero_v]
theorem colF_length (xs : List F) (k j : Nat) : (colF xs k j).length = k := by
  have := colOf_length (bs xs) k j
  rw [colF_bs, bs_length] at this
  exact this
open Classical in
noncomputable def thruP (xs ys : List F) : List F := if h : ∃ s, Thru xs ys s then Classical.choose h else []
theorem thruP_eq {xs ys s : List F} (hu : Unl xs) (h : Thru xs ys s) : thruP xs ys = s := by
  have he : ∃ s, Thru xs ys s := ⟨s, h⟩
  unfold thruP
  rw [dif_pos he]
  exact thru_unique hu (Classical.choose_spec he) h
theorem ptF_inj {a b : Nat} (ha : a < 255) (hb : b < 255) (h : ptF a = ptF b) : a = b := by
  have h1 : (a % 256 + 1) % 256 = (b % 256 + 1) % 256 := congrArg F.v h
  omega
theorem unl_map {N : Nat} (f : Nat → F) (h : ∀ i j, i < N → j < N → f i = f j → i = j) : Unl ((List.range N).map f) := by
  unfold Unl
  rw [List.nodup_iff_pairwise_ne, List.pairwise_map]
  refine List.Pairwise.imp_of_mem ?_ (List.nodup_iff_pairwise_ne.1 List.nodup_range)
  intro a b ha hb hne e
  exact hne (h a b (List.mem_range.1 ha) (List.mem_range.1 hb) e)
theorem secL_unl (N K : Nat) (h : N + K ≤ 255) : Unl (secL N K) := unl_map _ (fun i j hi hj e => by have := ptF_inj (by omega) (by omega) e; omega)
noncomputable def polysL (N T K : Nat) (data rnd : List F) : List (List F) := (List.range (ncol data.length K)).map fun j => trimP (addP (thruP (secL N K) (colF data K j)) (trimP (mulP (roots (secL N K)) (pieceL rnd T j))))
theorem thruP_len (xs ys : List F) : (thruP xs ys).length ≤ xs.length := by
  unfold thruP
  split
  · rename_i h
    exact (Classical.choose_spec h).2.1
  · simp
theorem polysL_len (N T K : Nat) (data rnd : List F) : ∀ q ∈ polysL N T K data rnd, q.length ≤ K + 1 + T := fun q hq => by
  obtain ⟨j, _, rfl⟩ := List.mem_map.1 hq
  have hrl := roots_length (secL N K)
  rw [secL_length] at hrl
  have ht := thruP_len (secL N K) (colF data K j)
  rw [secL_length] at ht
  have h2 : (trimP (mulP (roots (secL N K)) (pieceL rnd T j))).length ≤ K + 1 + T := trim_le (fun i hi => cf_mul_ge _ _ (K + 1) T (fun k hk => cf_ge _ _ (by omega)) (fun k hk => cf_ge _ _ (by simp [pieceL]; omega)) i (by omega) (by omega))
  exact trim_le (fun i hi => by rw [cf_add, cf_ge _ i (by omega), cf_ge _ i (by omega), F.add_zero])
theorem polysL_length (N T K : Nat) (data rnd : List F) : (polysL N T K data rnd).length = ncol data.length K := by simp [polysL]
end Go.Proofs.Ytpeiejkcoadhfaa
namespace Go.Proofs.Ytpeiejkcoadhfaa
open Go.RowKit Go.Shelf Go.Proofs.YtpeiejkcoadhfaaW.PrintWords Go.Proofs.YtpeiejkcoadhfaaW.PrintMore
open Go.BigFrame
theorem step_append_run {P : Program} {ops : Array Oper} {o : Oper} {a : Act} {w w' : World} {K : Act → World → Prop} {Q : Exit → Act → World → Prop} {E : Prop} {v y v' : Value}
    (hg : o.guard = none) (s x : Operand) (t t' : TypeId) (hop : o.op = Op.call { callee := Callee.builtin Builtin.append, args := #[s, x], argTypes := #[t, t'] })
    (hs : a.eval s = v) (hx : a.eval x = y) (hrun : (Builtin.append_ #[t, t'] o.type #[v, y]).run P w = .ok v' w') (hK : K (a.put o.dst v') w') :
    if Region.wanted o (yielded ops a.tmps) = true then Oper.wp P o a w K Q else E := by
  have hw : Region.wanted o (yielded ops a.tmps) = true := by simp [Region.wanted, hg]
  rw [if_pos hw]
  unfold Oper.wp
  simp only [execOp, hop, resolve, invoke, builtin, Sem.run_bind, Sem.run_pure, Result.andThen_ok, List.map_toArray, List.map_cons, List.map_nil, hs, hx, hrun]
  exact hK
end Go.Proofs.Ytpeiejkcoadhfaa
namespace Go.Proofs.Ytpeiejkcoadhfaa
open Go.RowKit Go.Shelf Go.Proofs.YtpeiejkcoadhfaaW.PrintWords Go.Proofs.YtpeiejkcoadhfaaW.PrintMore
def Gd (N T K E Rm : Int) : Prop := 0 ≤ N ∧ N ≤ 255 ∧ 1 ≤ T ∧ T ≤ 255 ∧ 1 ≤ K ∧ K ≤ 255 ∧ 0 ≤ E ∧ E ≤ 255 ∧ 1 ≤ Rm ∧ Rm ≤ 512 ∧ T + K + 2 * E ≤ N ∧ N + K ≤ 255
instance (N T K E Rm : Int) : Decidable (Gd N T K E Rm) := by unfold Gd; infer_instance
def goodB (N T K E Rm : Int) : Bool := decide (Gd N T K E Rm)
theorem good_true {N T K E Rm : Int} (h : goodB N T K E Rm = true) : Gd N T K E Rm := of_decide_eq_true h
theorem dgood_f (N T K E Rm : Int) (hN : -9223372036854775808 ≤ N ∧ N ≤ 9223372036854775807) : PDealPoints.deal_Good.f N T K E Rm = some (goodB N T K E Rm) := by
  unfold PDealPoints.deal_Good.f goodB
  simp only [wrap64]
  repeat' split
  all_goals (congr 1; rw [eq_comm]; first | (rw [decide_eq_false_iff_not]; unfold Gd; omega) | (rw [decide_eq_decide]; unfold Gd; omega))
theorem rgood_f (N T K E Rm : Int) (hN : -9223372036854775808 ≤ N ∧ N ≤ 9223372036854775807) : PDealPoints.shamrockref10_Good.f 5 N T K E Rm = some (goodB N T K E Rm) := by
  have e1 : wrap64 (0 + 1) = 1 := by unfold wrap64; omega
  have e2 : wrap64 (1 + 1) = 2 := by unfold wrap64; omega
  have e3 : wrap64 (2 + 1) = 3 := by unfold wrap64; omega
  have e4 : wrap64 (3 + 1) = 4 := by unfold wrap64; omega
  have r0 : rd [N, T, K, E] 0 = N := rfl
  have r1 : rd [N, T, K, E] 1 = T := rfl
  have r2 : rd [N, T, K, E] 2 = K := rfl
  have r3 : rd [N, T, K, E] 3 = E := rfl
  have l4 : (([N, T, K, E] : List Int).length : Int) = 4 := rfl
  unfold PDealPoints.shamrockref10_Good.f
  simp only [Option.bind_some, PDealPoints.shamrockref10_Good.l0, l4, e1, e2, e3, e4, r0, r1, r2, r3]
  unfold goodB
  simp only [wrap64, Int.reduceLT, Int.reduceLE, ↓reduceIte]
  by_cases c0 : N < 0
  · rw [if_pos c0]; congr 1; rw [eq_comm, decide_eq_false_iff_not]; unfold Gd; omega
  rw [if_neg c0]
  by_cases c1 : N > 255
  · rw [if_pos c1]; congr 1; rw [eq_comm, decide_eq_false_iff_not]; unfold Gd; omega
  rw [if_neg c1]
  by_cases c2 : T < 0
  · rw [if_pos c2]; congr 1; rw [eq_comm, decide_eq_false_iff_not]; unfold Gd; omega
  rw [if_neg c2]
  by_cases c3 : T > 255
  · rw [if_pos c3]; congr 1; rw [eq_comm, decide_eq_false_iff_not]; unfold Gd; omega
  rw [if_neg c3]
  by_cases c4 : K < 0
  · rw [if_pos c4]; congr 1; rw [eq_comm, decide_eq_false_iff_not]; unfold Gd; omega
  rw [if_neg c4]
  by_cases c5 : K > 255
  · rw [if_pos c5]; congr 1; rw [eq_comm, decide_eq_false_iff_not]; unfold Gd; omega
  rw [if_neg c5]
  by_cases c6 : E < 0
  · rw [if_pos c6]; congr 1; rw [eq_comm, decide_eq_false_iff_not]; unfold Gd; omega
  rw [if_neg c6]
  by_cases c7 : E > 255
  · rw [if_pos c7]; congr 1; rw [eq_comm, decide_eq_false_iff_not]; unfold Gd; omega
  rw [if_neg c7]
  clear e1 e2 e3 e4 r0 r1 r2 r3 l4
  repeat' split
  all_goals (congr 1; rw [eq_comm]; first | (rw [decide_eq_false_iff_not]; unfold Gd; omega) | (rw [decide_eq_decide]; unfold Gd; omega))
theorem Good_any (w : World) (N T K E Rm : Int) (hN : -9223372036854775808 ≤ N ∧ N ≤ 9223372036854775807) : Calls Try.prog 43 #[parV N T K E Rm] w fun e w' => e = .returned (.bool (goodB N T K E Rm)) ∧ Below w.heap.size w w' :=
  PDealPoints.deal_Good.calls _ _ _ _ _ _ w (dgood_f N T K E Rm hN)
theorem RGood_any (w : World) (N T K E Rm : Int) (hN : -9223372036854775808 ≤ N ∧ N ≤ 9223372036854775807) : Calls Try.prog 44 #[parV N T K E Rm] w fun e w' => e = .returned (.bool (goodB N T K E Rm)) ∧ Below w.heap.size w w' :=
  PDealPoints.shamrockref10_Good.calls 5 _ _ _ _ _ _ w (rgood_f N T K E Rm hN)
theorem R_bs {w : World} {base : Nat} {ok : Nat → Prop} {v : Value} {p : List F} (h : Kd.R u8 5 w base ok v (bs p)) : ∃ B c, v = .slice B p.length c ∧ p.length ≤ c ∧ Kd.C fk w B p.length p := by
  obtain ⟨B, c, rfl⟩ := Kd.R_slice h
  have h1 := Kd.R_reads' h
  rw [bs_length] at h1 h ⊢
  exact ⟨B, c, rfl, h1.2.1, C_bs.1 h1.2.2⟩
theorem bs_append (p q : List F) : bs (p ++ q) = bs p ++ bs q := by simp [bs]
end Go.Proofs.Ytpeiejkcoadhfaa
namespace Go.Proofs.Ytpeiejkcoadhfaa
structure Ri where
  kind : Int
  target : Int
  ds : List Int
  sn : List Int
def ri0 : Ri := ⟨0, 0, [], []⟩
def RisTo (N : Int) (l : List Int) (n : Nat) : Prop := ∀ i, i < n → 0 ≤ l.getD i 0 ∧ l.getD i 0 < N ∧ (0 < i → l.getD (i - 1) 0 < l.getD i 0)
def Ris (N : Int) (l : List Int) : Prop := RisTo N l l.length
instance (N : Int) (l : List Int) (n : Nat) : Decidable (RisTo N l n) := by unfold RisTo; infer_instance
instance (N : Int) (l : List Int) : Decidable (Ris N l) := by unfold Ris; infer_instance
theorem risTo_zero (N : Int) (l : List Int) : RisTo N l 0 := fun i hi => by omega
theorem risTo_succ {N : Int} {l : List Int} {k : Nat} (h : RisTo N l k) (h0 : 0 ≤ l.getD k 0) (h1 : l.getD k 0 < N) (h2 : 0 < k → l.getD (k - 1) 0 < l.getD k 0) : RisTo N l (k + 1) := fun i hi => by
  rcases Nat.lt_or_ge i k with e | e
  · exact h i e
  · obtain rfl : i = k := by omega
    exact ⟨h0, h1, h2⟩
theorem ris_lt {N : Int} {l : List Int} (h : Ris N l) : ∀ j, j < l.length → ∀ i, i < j → l.getD i 0 < l.getD j 0
  | 0, _, i, hi => by omega
  | j + 1, hj, i, hi => by
    have h1 := (h (j + 1) hj).2.2 (by omega)
    rw [Nat.add_sub_cancel] at h1
    rcases Nat.lt_or_ge i j with e | e
    · exact Int.lt_trans (ris_lt h j (by omega) i e) h1
    · obtain rfl : i = j := by omega
      exact h1
theorem mem_getI {l : List Int} {x : Int} (h : x ∈ l) : ∃ i, i < l.length ∧ l.getD i 0 = x := by
  obtain ⟨i, hi, rfl⟩ := List.mem_iff_getElem.1 h
  exact ⟨i, hi, by rw [List.getD_eq_getElem?_getD, List.getElem?_eq_getElem hi]; rfl⟩
theorem getI_mem {l : List Int} {i : Nat} (h : i < l.length) : l.getD i 0 ∈ l := by
  rw [List.getD_eq_getElem?_getD, List.getElem?_eq_getElem h]
  exact List.getElem_mem h
theorem ris_mem {N : Int} {l : List Int} (h : Ris N l) {x : Int} (hx : x ∈ l) : 0 ≤ x ∧ x < N := by
  obtain ⟨i, hi, rfl⟩ := mem_getI hx
  exact ⟨(h i hi).1, (h i hi).2.1⟩
theorem ris_nodup {N : Int} {l : List Int} (h : Ris N l) : l.Nodup := by
  unfold List.Nodup
  rw [List.pairwise_iff_getElem]
  intro i j hi hj hij e
  have h1 := ris_lt h j hj i hij
  rw [List.getD_eq_getElem?_getD, List.getD_eq_getElem?_getD, List.getElem?_eq_getElem hi, List.getElem?_eq_getElem hj] at h1
  simp only [Option.getD_some] at h1
  omega
theorem unseenI {α : Type} [DecidableEq α] : ∀ (l m : List α), l.Nodup → m.length < l.length → ∃ x ∈ l, x ∉ m
  | [], m, _, h => by simp at h
  | a :: l, m, hn, h => by
    obtain ⟨h1, h2⟩ := List.nodup_cons.1 hn
    by_cases ha : a ∈ m
    · obtain ⟨x, hx, hm⟩ := unseenI l (m.erase a) h2 (by rw [List.length_erase_of_mem ha]; simp only [List.length_cons] at h; have := List.length_pos_of_mem ha; omega)
      refine ⟨x, List.mem_cons_of_mem _ hx, fun hm' => hm ?_⟩
      exact (List.mem_erase_of_ne (fun e => h1 (by rw [← e]; exact hx))).2 hm'
    · exact ⟨a, List.mem_cons_self .., ha⟩
theorem sub_len {α : Type} [DecidableEq α] {l m : List α} (hn : l.Nodup) (h : ∀ x ∈ l, x ∈ m) : l.length ≤ m.length := by
  rcases Nat.lt_or_ge m.length l.length with e | e
  · obtain ⟨x, h1, h2⟩ := unseenI l m hn e
    exact absurd (h x h1) h2
  · exact e
def addI (acc : List Int) (x : Int) : List Int := if x ∈ acc then acc else acc ++ [x]
def nd (l : List Int) : List Int := l.foldl addI []
theorem nd_snoc (l : List Int) (x : Int) : nd (l ++ [x]) = addI (nd l) x := by simp [nd, List.foldl_append]
theorem addI_mem (acc : List Int) (x y : Int) : y ∈ addI acc x ↔ y ∈ acc ∨ y = x := by
  unfold addI
  by_cases h : x ∈ acc
  · rw [if_pos h]
    exact ⟨.inl, fun e => e.elim id (fun e => e ▸ h)⟩
  · rw [if_neg h, List.mem_append, List.mem_singleton]
theorem addI_nodup {acc : List Int} (h : acc.Nodup) (x : Int) : (addI acc x).Nodup := by
  unfold addI
  by_cases hx : x ∈ acc
  · rw [if_pos hx]; exact h
  · rw [if_neg hx, List.nodup_append]
    refine ⟨h, List.nodup_cons.2 ⟨by simp, List.nodup_nil⟩, fun a ha b hb e => hx ?_⟩
    rw [List.mem_singleton] at hb
    rw [← hb, ← e]
    exact ha
theorem fold_mem : ∀ (l acc : List Int) (y : Int), y ∈ l.foldl addI acc ↔ y ∈ acc ∨ y ∈ l
  | [], acc, y => by simp
  | x :: l, acc, y => by
    rw [List.foldl_cons, fold_mem l _ y, addI_mem, List.mem_cons]
    constructor
    · rintro ((h | h) | h)
      · exact .inl h
      · exact .inr (.inl h)
      · exact .inr (.inr h)
    · rintro (h | h | h)
      · exact .inl (.inl h)
      · exact .inl (.inr h)
      · exact .inr h
theorem fold_nodup : ∀ (l : List Int) {acc : List Int}, acc.Nodup → (l.foldl addI acc).Nodup
  | [], _, h => h
  | x :: l, _, h => fold_nodup l (addI_nodup h x)
theorem nd_mem (l : List Int) (x : Int) : x ∈ nd l ↔ x ∈ l := by
  have h := fold_mem l [] x
  simpa [nd] using h
theorem nd_nodup (l : List Int) : (nd l).Nodup := fold_nodup l List.nodup_nil
theorem nd_le {l m : List Int} (h : ∀ x ∈ l, x ∈ m) : (nd l).length ≤ (nd m).length :=
  sub_len (nd_nodup l) (fun x hx => (nd_mem m x).2 (h x ((nd_mem l x).1 hx)))
def cardN (N : Nat) (cur : List Int) : Nat := ((List.range N).filter fun h : Nat => decide ((h : Int) ∈ cur)).length
theorem card_nd {N : Nat} {cur : List Int} (h : ∀ x ∈ cur, 0 ≤ x ∧ x < (N : Int)) : cardN N cur = (nd cur).length := by
  have e : cardN N cur = (((List.range N).filter fun h : Nat => decide ((h : Int) ∈ cur)).map fun h : Nat => (h : Int)).length := by rw [List.length_map]; rfl
  rw [e]
  refine Nat.le_antisymm (sub_len ?_ (fun x hx => ?_)) (sub_len (nd_nodup cur) (fun x hx => ?_))
  · unfold List.Nodup
    rw [List.pairwise_map]
    refine List.Pairwise.imp ?_ (List.Pairwise.filter _ List.nodup_range)
    intro a b hab e
    exact hab (by omega)
  · obtain ⟨a, ha, rfl⟩ := List.mem_map.1 hx
    exact (nd_mem cur _).2 (of_decide_eq_true (List.mem_filter.1 ha).2)
  · have h1 := (nd_mem cur x).1 hx
    obtain ⟨h2, h3⟩ := h x h1
    refine List.mem_map.2 ⟨x.toNat, List.mem_filter.2 ⟨List.mem_range.2 (by omega), ?_⟩, by omega⟩
    rw [decide_eq_true_iff, Int.toNat_of_nonneg h2]
    exact h1
theorem getD_mid {α : Type} (l m : List α) (x d : α) : (l ++ x :: m).getD l.length d = x := by
  rw [List.getD_eq_getElem?_getD, List.getElem?_append_right (Nat.le_refl _), Nat.sub_self]; rfl
def epStep (s : List (List Int) × List Int) (r : Ri) : List (List Int) × List Int := if r.kind = 2 then (s.1 ++ [s.2 ++ r.sn], r.sn) else (s.1, s.2 ++ r.sn)
def epEnd (s : List (List Int) × List Int) : List (List Int) := s.1 ++ [s.2]
def epochs (rs : List Ri) : List (List Int) := epEnd (rs.foldl epStep ([], []))
def epFrom : List Ri → List Int → List (List Int)
  | [], cur => [cur]
  | r :: rs, cur => if r.kind = 2 then (cur ++ r.sn) :: epFrom rs r.sn else epFrom rs (cur ++ r.sn)
theorem ep_from : ∀ (rs : List Ri) (old : List (List Int)) (cur : List Int), epEnd (rs.foldl epStep (old, cur)) = old ++ epFrom rs cur
  | [], old, cur => rfl
  | r :: rs, old, cur => by
    rw [List.foldl_cons]
    unfold epFrom
    by_cases h : r.kind = 2
    · have e : epStep (old, cur) r = (old ++ [cur ++ r.sn], r.sn) := by unfold epStep; rw [if_pos h]
      rw [e, if_pos h, ep_from rs, List.append_assoc]
      rfl
    · have e : epStep (old, cur) r = (old, cur ++ r.sn) := by unfold epStep; rw [if_neg h]
      rw [e, if_neg h, ep_from rs]
theorem epochs_from (rs : List Ri) : epochs rs = epFrom rs [] := by
  unfold epochs
  rw [ep_from]
  rfl
theorem ep_take (rs : List Ri) (k : Nat) (hk : k < rs.length) (s : List (List Int) × List Int) : (rs.take (k + 1)).foldl epStep s = epStep ((rs.take k).foldl epStep s) (rs.getD k ri0) := by
  rw [List.take_add_one, List.foldl_append, List.getD_eq_getElem?_getD, List.getElem?_eq_getElem hk]
  rfl
def roundOk (N T : Int) (r : Ri) : Prop := (r.kind = 0 ∨ r.kind = 2 ∨ r.kind = 3 ∨ r.kind = 4) ∧ (r.ds.length : Int) = (if r.kind = 0 then 0 else T + 1) ∧ 0 ≤ r.target ∧ r.target < N ∧ Ris N r.ds ∧ Ris N r.sn ∧ (r.kind = 3 → r.target ∉ r.ds)
instance (N T : Int) (r : Ri) : Decidable (roundOk N T r) := by unfold roundOk; infer_instance
def MayP (N T K E Rm size : Int) (rs : List Ri) : Prop := Gd N T K E Rm ∧ 0 ≤ size ∧ size ≤ 256 ∧ rs.length ≤ 1024 ∧ (∀ r ∈ rs, roundOk N T r) ∧ ∀ c ∈ epochs rs, ((nd c).length : Int) ≤ T
instance (N T K E Rm size : Int) (rs : List Ri) : Decidable (MayP N T K E Rm size rs) := by unfold MayP; infer_instance
def refOk (N : Nat) (T : Int) : List Ri → List Int → Prop
  | [], _ => True
  | r :: rs, cur => roundOk N T r ∧ (cardN N (cur ++ r.sn) : Int) ≤ T ∧ refOk N T rs (if r.kind = 2 then r.sn else cur ++ r.sn)
instance refOkD (N : Nat) (T : Int) : ∀ (rs : List Ri) (cur : List Int), Decidable (refOk N T rs cur)
  | [], _ => .isTrue trivial
  | r :: rs, cur => by
    have := refOkD N T rs (if r.kind = 2 then r.sn else cur ++ r.sn)
    unfold refOk
    infer_instance
theorem ref_iff {N : Nat} {T : Int} : ∀ (rs : List Ri) (cur : List Int), (∀ x ∈ cur, 0 ≤ x ∧ x < (N : Int)) → ((nd cur).length : Int) ≤ T → (refOk N T rs cur ↔ (∀ r ∈ rs, roundOk N T r) ∧ ∀ c ∈ epFrom rs cur, ((nd c).length : Int) ≤ T)
  | [], cur, _, hT => by
    constructor
    · intro _
      refine ⟨fun r hr => (by cases hr), fun c hc => ?_⟩
      rw [epFrom, List.mem_singleton] at hc
      rw [hc]; exact hT
    · intro _
      trivial
  | r :: rs, cur, hc, hT => by
    by_cases hr : roundOk N T r
    · have hsn : ∀ x ∈ r.sn, 0 ≤ x ∧ x < (N : Int) := fun x hx => ris_mem hr.2.2.2.2.2.1 hx
      have hall : ∀ x ∈ cur ++ r.sn, 0 ≤ x ∧ x < (N : Int) := fun x hx => (List.mem_append.1 hx).elim (hc x) (hsn x)
      have hcard := card_nd hall
      have hsub : (nd r.sn).length ≤ (nd (cur ++ r.sn)).length := nd_le (fun x hx => List.mem_append_right _ hx)
      unfold refOk epFrom
      rw [hcard]
      by_cases hk : r.kind = 2
      · rw [if_pos hk, if_pos hk]
        constructor
        · rintro ⟨_, h2, h3⟩
          obtain ⟨h4, h5⟩ := (ref_iff rs r.sn hsn (by omega)).1 h3
          refine ⟨fun x hx => ?_, fun c hc => ?_⟩
          · rcases List.mem_cons.1 hx with e | e
            · rw [e]; exact hr
            · exact h4 x e
          · rcases List.mem_cons.1 hc with e | e
            · rw [e]; exact h2
            · exact h5 c e
        · rintro ⟨h4, h5⟩
          have h2 := h5 _ (List.mem_cons_self ..)
          exact ⟨hr, h2, (ref_iff rs r.sn hsn (by omega)).2 ⟨fun x hx => h4 x (List.mem_cons_of_mem _ hx), fun c hc => h5 c (List.mem_cons_of_mem _ hc)⟩⟩
      · rw [if_neg hk, if_neg hk]
        constructor
        · rintro ⟨_, h2, h3⟩
          obtain ⟨h4, h5⟩ := (ref_iff rs _ hall h2).1 h3
          refine ⟨fun x hx => ?_, h5⟩
          rcases List.mem_cons.1 hx with e | e
          · rw [e]; exact hr
          · exact h4 x e
        · rintro ⟨h4, h5⟩
          have h2 : ((nd (cur ++ r.sn)).length : Int) ≤ T := by
            have h6 := from_le rs (cur ++ r.sn)
            obtain ⟨c, hc1, hc2⟩ := h6
            have := h5 c hc1
            omega
          exact ⟨hr, h2, (ref_iff rs _ hall h2).2 ⟨fun x hx => h4 x (List.mem_cons_of_mem _ hx), h5⟩⟩
    · constructor
      · intro h
        exact absurd h.1 hr
      · intro h
        exact absurd (h.1 r (List.mem_cons_self ..)) hr
where
  from_le : ∀ (rs : List Ri) (cur : List Int), ∃ c ∈ epFrom rs cur, (nd cur).length ≤ (nd c).length
    | [], cur => ⟨cur, List.mem_singleton.2 rfl, Nat.le_refl _⟩
    | r :: rs, cur => by
      have hle : (nd cur).length ≤ (nd (cur ++ r.sn)).length := nd_le (fun x hx => List.mem_append_left _ hx)
      unfold epFrom
      by_cases hk : r.kind = 2
      · rw [if_pos hk]
        exact ⟨_, List.mem_cons_self .., hle⟩
      · rw [if_neg hk]
        obtain ⟨c, h1, h2⟩ := from_le rs (cur ++ r.sn)
        exact ⟨c, h1, Nat.le_trans hle h2⟩
theorem gd_nat2 {N T K E Rm : Int} (h : Gd N T K E Rm) : ∃ n t k : Nat, N = n ∧ T = t ∧ K = k ∧ n ≤ 255 ∧ 1 ≤ t ∧ t ≤ 255 ∧ 1 ≤ k ∧ k ≤ 255 ∧ n + k ≤ 255 ∧ t + k ≤ n := by
  obtain ⟨h1, h2, h3, h4, h5, h6, h7, h8, h9, h10, h11, h12⟩ := h
  exact ⟨N.toNat, T.toNat, K.toNat, by omega, by omega, by omega, by omega, by omega, by omega, by omega, by omega, by omega, by omega⟩
theorem ris_len {N : Int} {l : List Int} (h : Ris N l) : l.length ≤ N.toNat := by
  have h1 := sub_len (m := (List.range N.toNat).map fun i : Nat => (i : Int)) (ris_nodup h) (fun x hx => by
    obtain ⟨h2, h3⟩ := ris_mem h hx
    exact List.mem_map.2 ⟨x.toNat, List.mem_range.2 (by omega), by omega⟩)
  simpa using h1
def tapesL (T K cols : Nat) (rs : List Ri) : List Int := ((T * cols : Nat) : Int) :: rs.flatMap fun r => r.ds.map fun _ => ((eachN T K r.kind * cols : Nat) : Int)
end Go.Proofs.Ytpeiejkcoadhfaa
namespace Go.Proofs.Ytpeiejkcoadhfaa
open Go.RowKit Go.Shelf Go.Proofs.YtpeiejkcoadhfaaW.PrintWords Go.Proofs.YtpeiejkcoadhfaaW.PrintMore
open Go.BigFrame
abbrev kz : Kd Int := Kd.int .i64
theorem z_at {w wr : World} {A : Option Addr} {n : Nat} {l : List Int} {S : Nat → Prop} (h : Kd.C kz w A n l) (hf : Fr S w wr) (hS : ∀ j, S j → w.heap.size ≤ j) (k : Nat) (hk : k < n) : ∃ ad, A = some ad ∧ wr.cell? (ad.add k) = some (.int .i64 (l.getD k 0)) := by
  have hr := Kd.reads_of_C (enc := Value.int .i64) (d := (0 : Int)) (h1 := fun _ => rfl) h
  obtain ⟨ad, e, hc⟩ := hr.2.2 (by omega)
  refine ⟨ad, e, ?_⟩
  have h1 := hc k hk
  exact hf.cell h1 (fun hs => by have := World.block_lt_of_cell? w _ h1; have := hS _ hs; simp only [Addr.add] at *; omega)
theorem mem_take {l : List Int} {k : Nat} {x : Int} (hk : k < l.length) : x ∈ l.take (k + 1) ↔ x ∈ l.take k ∨ l.getD k 0 = x := by
  rw [take_snoc 0 l k hk, List.mem_append, List.mem_singleton]
  exact ⟨fun h => h.imp id Eq.symm, fun h => h.imp id Eq.symm⟩
set_option maxRecDepth 100000 in
set_option maxHeartbeats 1600000 in
theorem Index_any (w : World) (A : Option Addr) (n c : Nat) (l : List Int) (x : Int) (hC : Kd.C kz w A n l) (hn : n ≤ 9223372036854775807) :
    Calls Try.prog 131 #[.slice A n c, .int .i64 x] w fun e w' => (∃ i : Int, e = .returned (.int .i64 i) ∧ (decide (x ∈ l) = decide (0 ≤ i))) ∧ Drawn0 w w' := by
  obtain rfl : l.length = n := Kd.C_len hC
  have HC := Aside0.mk hC
  obtain ⟨r, hr⟩ : ∃ r, r = decide (x ∈ l) := ⟨_, rfl⟩
  have HR := Aside0.mk hr
  obtain ⟨n, hnl⟩ : ∃ n, n = l.length := ⟨_, rfl⟩
  have HN := Aside0.mk hnl
  rw [← hr]
  rw [← hnl] at hn HC ⊢
  clear hC hr hnl
  go_enter Try.func131, Try.ntmps131
  go_wp2
  go_loopw [8] (fun v8 wr => ∃ (k t : Nat), k ≤ n ∧ v8 = .int .i64 k ∧ wr = w.drewN t ∧ Aside0 (x ∉ l.take k)) (fun v8 _ => n - (intOf v8).toNat)
  case atStart => exact ⟨0, 0, by omega, rfl, rfl, ⟨by simp⟩⟩
  case round =>
    obtain ⟨k, t, hk, rfl, rfl, HT⟩ := hrel
    by_cases hlt : k < n
    · obtain ⟨ad, rfl, hx⟩ := z_at HC.out (Fr.refl (fun _ => False) w) (fun _ h => h.elim) k hlt
      obtain ⟨y, hy⟩ : ∃ y, y = l.getD k 0 := ⟨_, rfl⟩
      rw [← hy] at hx
      have hjI : (k : Int) < (n : Int) := by omega
      by_cases e : x = y
      · have HY : Aside0 (r = true) := ⟨by
          rw [HR.out, decide_eq_true_iff, e, hy]
          exact getI_mem (by rw [← HN.out]; exact hlt)⟩
        subst e
        clear hy
        go_wp2
        go_ret
        exact ⟨⟨_, rfl, by rw [HY.out]; simp⟩, ⟨_, rfl⟩⟩
      · have HX : Aside0 (x ∉ l.take (k + 1)) := ⟨by
          rw [mem_take (by rw [← HN.out]; exact hlt), not_or]
          exact ⟨HT.out, fun h => e (by rw [hy]; exact h.symm)⟩⟩
        clear hy
        go_wp2
        go_roundw
        case rel => exact ⟨k + 1, t, by omega, by go_num, rfl, HX⟩
        case measure => simp [intOf]; omega
    · obtain rfl : k = n := by omega
      have HY : Aside0 (r = false) := ⟨by
        rw [HR.out, decide_eq_false_iff_not]
        have h := HT.out
        rwa [List.take_of_length_le (by rw [HN.out]; exact Nat.le_refl _)] at h⟩
      go_wp2
      go_ret
      exact ⟨⟨_, rfl, by rw [HY.out]; simp⟩, ⟨_, rfl⟩⟩
set_option maxRecDepth 100000 in
set_option maxHeartbeats 1600000 in
theorem Contains_any (w : World) (A : Option Addr) (n c : Nat) (l : List Int) (x : Int) (hC : Kd.C kz w A n l) (hn : n ≤ 9223372036854775807) :
    Calls Try.prog 114 #[.slice A n c, .int .i64 x] w fun e w' => e = .returned (.bool (decide (x ∈ l))) ∧ Drawn0 w w' := by
  have HI := Aside0.mk (Index_any w A n c l x hC hn)
  obtain ⟨r, hr⟩ : ∃ r, r = decide (x ∈ l) := ⟨_, rfl⟩
  rw [← hr] at HI ⊢
  clear hC hr
  go_enter Try.func114, Try.ntmps114
  go_wp2_with (go_at_call 131; with_reducible refine HI.out.mono ?_; rintro e w1 ⟨⟨i, rfl, hi⟩, hd⟩)
  go_ret
  exact ⟨by rw [hi]; rfl, hd⟩
theorem ris_no {N : Int} {l : List Int} {k : Nat} (hk : k < l.length) (h : l.getD k 0 < 0 ∨ N ≤ l.getD k 0 ∨ (0 < k ∧ l.getD k 0 ≤ l.getD (k - 1) 0)) : ¬ Ris N l := fun hr => by
  have h1 := hr k hk
  rcases h with h | h | ⟨h, h2⟩
  · omega
  · omega
  · have := h1.2.2 h; omega
set_option maxRecDepth 100000 in
set_option maxHeartbeats 1600000 in
theorem rising_any (w : World) (N T K E Rm : Int) (A : Option Addr) (n c : Nat) (l : List Int) (hC : Kd.C kz w A n l) (hn : n ≤ 9223372036854775807) :
    Calls Try.prog 127 #[parV N T K E Rm, .slice A n c] w fun e w' => e = .returned (.bool (decide (Ris N l))) ∧ Below w.heap.size w w' := by
  obtain rfl : l.length = n := Kd.C_len hC
  obtain ⟨r, hr⟩ : ∃ r, r = decide (Ris N l) := ⟨_, rfl⟩
  have HR := Aside0.mk hr
  rw [← hr]
  obtain ⟨w1, hw1, hz1, a0, hb1⟩ := heap1 w (Obj.cells #[Value.int IntKind.i64 N, Value.int IntKind.i64 T, Value.int IntKind.i64 K, Value.int IntKind.i64 E, Value.int IntKind.i64 Rm] 48)
  have HC := Aside0.mk (Kd.C_below hC hb1)
  obtain ⟨n, hnl⟩ : ∃ n, n = l.length := ⟨_, rfl⟩
  have HN := Aside0.mk hnl
  rw [← hnl] at hn HC ⊢
  have c0 : w1.cell? ⟨w.heap.size, 0, none⟩ = some (.int .i64 N) := cell_at a0 rfl
  have HW := Aside0.mk hw1
  have HB := Aside0.mk hb1
  clear hC hr hnl a0 hb1
  have hu48 := Try.underlying48
  unfold parV
  go_enter Try.func127, Try.ntmps127
  go_wp2
  rw [← HW.out]
  obtain ⟨s, hs⟩ : ∃ s, s = w.heap.size := ⟨_, rfl⟩
  rw [← hs] at c0 ⊢
  clear hw1 hz1 hs
  go_loopw [9] (fun v9 wr => ∃ (k t : Nat), k ≤ n ∧ v9 = .int .i64 k ∧ wr = w1.drewN t ∧ Aside0 (RisTo N l k)) (fun v9 _ => n - (intOf v9).toNat)
  case atStart => exact ⟨0, 0, by omega, rfl, rfl, ⟨risTo_zero _ _⟩⟩
  case round =>
    obtain ⟨k, t, hk, rfl, rfl, HT⟩ := hrel
    by_cases hlt : k < n
    · obtain ⟨ad, rfl, hx⟩ := z_at HC.out (Fr.refl (fun _ => False) w1) (fun _ h => h.elim) k hlt
      obtain ⟨y, hy⟩ : ∃ y, y = l.getD k 0 := ⟨_, rfl⟩
      rw [← hy] at hx
      have hjI : (k : Int) < (n : Int) := by omega
      have hlen : k < l.length := by rw [← HN.out]; exact hlt
      by_cases e0 : y < 0
      · have HY : Aside0 (r = false) := ⟨by rw [HR.out]; exact decide_eq_false (ris_no hlen (.inl (by rw [← hy]; exact e0)))⟩
        clear hy hlen
        go_wp2
        go_ret
        exact ⟨by rw [HY.out]; rfl, HB.out.trans ⟨rfl, rfl, rfl, Nat.le_refl _, fun _ _ => rfl⟩⟩
      by_cases e1 : N ≤ y
      · have HY : Aside0 (r = false) := ⟨by rw [HR.out]; exact decide_eq_false (ris_no hlen (.inr (.inl (by rw [← hy]; exact e1))))⟩
        have e0' : 0 ≤ y := by omega
        clear hy hlen
        go_wp2
        go_ret
        exact ⟨by rw [HY.out]; rfl, HB.out.trans ⟨rfl, rfl, rfl, Nat.le_refl _, fun _ _ => rfl⟩⟩
      have e0' : 0 ≤ y := by omega
      have e1' : y < N := by omega
      rcases Nat.eq_zero_or_pos k with k0 | k0
      · subst k0
        rw [add_zero'] at hx
        have HX : Aside0 (RisTo N l 1) := ⟨risTo_succ HT.out (by rw [← hy]; exact e0') (by rw [← hy]; exact e1') (fun h => by omega)⟩
        clear hy hlen
        go_wp2
        go_roundw
        case rel => exact ⟨1, _, by omega, by go_num, rfl, HX⟩
        case measure => simp [intOf]; omega
      · obtain ⟨ad2, hade, hx2⟩ := z_at HC.out (Fr.refl (fun _ => False) w1) (fun _ h => h.elim) (k - 1) (by omega)
        injection hade with hade
        subst hade
        obtain ⟨z, hz⟩ : ∃ z, z = l.getD (k - 1) 0 := ⟨_, rfl⟩
        rw [← hz] at hx2
        have hkm : wrap64 ((k : Int) - 1) = ((k - 1 : Nat) : Int) := by rw [wr_pred _ (by omega)]; omega
        by_cases e2 : y ≤ z
        · have HY : Aside0 (r = false) := ⟨by rw [HR.out]; exact decide_eq_false (ris_no hlen (.inr (.inr ⟨k0, by rw [← hy, ← hz]; exact e2⟩)))⟩
          clear hy hlen hz
          go_wp2
          go_ret
          exact ⟨by rw [HY.out]; rfl, HB.out.trans ⟨rfl, rfl, rfl, Nat.le_refl _, fun _ _ => rfl⟩⟩
        · have e2' : z < y := by omega
          have HX : Aside0 (RisTo N l (k + 1)) := ⟨risTo_succ HT.out (by rw [← hy]; exact e0') (by rw [← hy]; exact e1') (fun h => by rw [← hy, ← hz]; exact e2')⟩
          clear hy hlen hz
          go_wp2
          go_roundw
          case rel => exact ⟨k + 1, _, by omega, by go_num, rfl, HX⟩
          case measure => simp [intOf]; omega
    · obtain rfl : k = n := by omega
      have HY : Aside0 (r = true) := ⟨by
        rw [HR.out, decide_eq_true_iff]
        have h := HT.out
        rw [HN.out] at h
        exact h⟩
      go_wp2
      go_ret
      exact ⟨by rw [HY.out]; rfl, HB.out.trans ⟨rfl, rfl, rfl, Nat.le_refl _, fun _ _ => rfl⟩⟩
end Go.Proofs.Ytpeiejkcoadhfaa
namespace Go.Proofs.Ytpeiejkcoadhfaa
open Go.RowKit Go.Shelf Go.Proofs.YtpeiejkcoadhfaaW.PrintWords Go.Proofs.YtpeiejkcoadhfaaW.PrintMore Go.Proofs.Ytpeiejkcoadhfaa.PViewEmpty
open Go.BigFrame
def toS (r : Ri) : S90 := ⟨r.kind, r.target, r.ds, r.sn⟩
def RL (w : World) (A : Option Addr) (n : Nat) (rs : List Ri) : Prop := Kd.C k90 w A n (rs.map toS)
theorem RL_len {w : World} {A : Option Addr} {n : Nat} {rs : List Ri} (h : RL w A n rs) : rs.length = n := by have := Kd.C_len h; rwa [List.length_map] at this
theorem RL_below {w W : World} {A : Option Addr} {n : Nat} {rs : List Ri} (h : RL w A n rs) (hb : Below w.heap.size w W) : RL W A n rs := Kd.C_below h hb
theorem RL_at {w : World} {A : Option Addr} {n : Nat} {rs : List Ri} (h : RL w A n rs) (i : Nat) (hi : i < n) : ∃ (r : Ri) (ad : Addr) (D S : Option Addr) (nd cd ns cs : Nat), r = rs.getD i ri0 ∧ A = some ad ∧ w.cell? (ad.add (i * 4)) = some (.int .i64 r.kind) ∧ w.cell? ⟨(ad.add (i * 4)).block, (ad.add (i * 4)).off + 1, none⟩ = some (.int .i64 r.target) ∧ w.cell? ⟨(ad.add (i * 4)).block, (ad.add (i * 4)).off + 2, none⟩ = some (.slice D nd cd) ∧ w.cell? ⟨(ad.add (i * 4)).block, (ad.add (i * 4)).off + 3, none⟩ = some (.slice S ns cs) ∧
    r.ds.length = nd ∧ nd ≤ cd ∧ Kd.C kz w D nd r.ds ∧ r.sn.length = ns ∧ ns ≤ cs ∧ Kd.C kz w S ns r.sn := by
  have hl := RL_len h
  unfold RL at h
  obtain ⟨ad, A2, c2, A3, c3, e, h0, h1, h2, h3, h4, h5, h6, h7⟩ := at_T90 h (i : Int) (by omega) (by omega)
  have hx : rd_T90 (rs.map toS) (i : Int) = toS (rs.getD i ri0) := by
    unfold rd_T90
    rw [Int.toNat_natCast, List.getD_eq_getElem?_getD, List.getD_eq_getElem?_getD, List.getElem?_map, List.getElem?_eq_getElem (by omega)]
    rfl
  rw [hx] at h0 h1 h2 h3 h4 h5 h6 h7
  simp only [Int.toNat_natCast] at h0 h1 h2 h3
  exact ⟨_, ad, A2, A3, _, c2, _, c3, rfl, e, h0, h1, h2, h3, rfl, h4, h5, rfl, h6, h7⟩
theorem rd_nat (l : List Int) (i : Nat) : rd l (i : Int) = l.getD i 0 := by unfold rd; rw [Int.toNat_natCast]
theorem RIn_l0 (l : List Int) (x : Int) (hl : l.length ≤ 9223372036854775807) (d : Nat) : ∀ (q i : Nat), i + d = l.length → d < q → x ∉ l.take i → shamrockref24_in.l0 q l x (i : Int) = some (decide (x ∈ l)) := by
  induction d with
  | zero =>
    intro q i hi hq hx
    obtain ⟨q, rfl⟩ : ∃ m, q = m + 1 := ⟨q - 1, by omega⟩
    rw [List.take_of_length_le (by omega)] at hx
    simp only [shamrockref24_in.l0]
    rw [if_neg (by omega), decide_eq_false hx]
  | succ d ih =>
    intro q i hi hq hx
    obtain ⟨q, rfl⟩ : ∃ m, q = m + 1 := ⟨q - 1, by omega⟩
    simp only [shamrockref24_in.l0]
    rw [if_pos (by omega), if_pos (by omega), rd_nat, wr_succ i (by omega)]
    by_cases e : l.getD i 0 = x
    · rw [if_pos e, decide_eq_true (by rw [← e]; exact getI_mem (by omega))]
    · rw [if_neg e]
      exact ih q (i + 1) (by omega) (by omega) (by rw [mem_take (by omega), not_or]; exact ⟨hx, e⟩)
theorem RIn_any (w : World) (A : Option Addr) (n c : Nat) (l : List Int) (x : Int) (hC : Kd.C kz w A n l) (hc : n ≤ c) (hn : n ≤ 9223372036854775807) :
    Calls Try.prog 103 #[.slice A n c, .int .i64 x] w fun e w' => e = .returned (.bool (decide (x ∈ l))) ∧ Drawn0 w w' := by
  obtain rfl : l.length = n := Kd.C_len hC
  exact shamrockref24_in.calls (l.length + 1) A c l x _ w hC hc (RIn_l0 l x hn l.length (l.length + 1) 0 (by omega) (by omega) (by simp))
theorem RRis_l0 (N : Int) (l : List Int) (hl : l.length ≤ 9223372036854775807) (d : Nat) : ∀ (q i : Nat), i + d = l.length → d < q → RisTo N l i → shamrockref24_rising.l0 q l N (i : Int) = some (decide (Ris N l)) := by
  induction d with
  | zero =>
    intro q i hi hq hx
    obtain ⟨q, rfl⟩ : ∃ m, q = m + 1 := ⟨q - 1, by omega⟩
    obtain rfl : i = l.length := by omega
    simp only [shamrockref24_rising.l0]
    rw [if_neg (by omega), decide_eq_true (show Ris N l from hx)]
  | succ d ih =>
    intro q i hi hq hx
    obtain ⟨q, rfl⟩ : ∃ m, q = m + 1 := ⟨q - 1, by omega⟩
    simp only [shamrockref24_rising.l0]
    rw [if_pos (by omega), if_pos (by omega), rd_nat, wr_succ i (by omega)]
    by_cases e0 : l.getD i 0 < 0
    · rw [if_pos e0, decide_eq_false (ris_no (by omega) (.inl e0))]
    rw [if_neg e0]
    by_cases e1 : l.getD i 0 ≥ N
    · rw [if_pos e1, decide_eq_false (ris_no (by omega) (.inr (.inl e1)))]
    rw [if_neg e1]
    rcases Nat.eq_zero_or_pos i with k0 | k0
    · rw [if_neg (by omega)]
      exact ih q (i + 1) (by omega) (by omega) (risTo_succ hx (by omega) (by omega) (fun h => by omega))
    · have hp : wrap64 ((i : Int) - 1) = ((i - 1 : Nat) : Int) := by rw [wr_pred _ (by omega)]; omega
      rw [if_pos (by omega), hp, if_pos (by omega), if_pos (by omega), rd_nat]
      by_cases e2 : l.getD i 0 ≤ l.getD (i - 1) 0
      · rw [if_pos e2, decide_eq_false (ris_no (by omega) (.inr (.inr ⟨k0, e2⟩)))]
      · rw [if_neg e2]
        exact ih q (i + 1) (by omega) (by omega) (risTo_succ hx (by omega) (by omega) (fun _ => by omega))
theorem RRising_any (w : World) (N : Int) (A : Option Addr) (n c : Nat) (l : List Int) (hC : Kd.C kz w A n l) (hc : n ≤ c) (hn : n ≤ 9223372036854775807) :
    Calls Try.prog 102 #[.slice A n c, .int .i64 N] w fun e w' => e = .returned (.bool (decide (Ris N l))) ∧ Drawn0 w w' := by
  obtain rfl : l.length = n := Kd.C_len hC
  exact shamrockref24_rising.calls (l.length + 1) A c l N _ w hC hc (RRis_l0 N l hn l.length (l.length + 1) 0 (by omega) (by omega) (risTo_zero _ _))
end Go.Proofs.Ytpeiejkcoadhfaa
namespace Go.Proofs.Ytpeiejkcoadhfaa
open Go.RowKit Go.Shelf Go.Proofs.YtpeiejkcoadhfaaW.PrintWords Go.Proofs.YtpeiejkcoadhfaaW.PrintMore
open Go.BigFrame
theorem dealtL_length (cols en : Nat) (fs rnd : List F) : (dealtL cols en fs rnd).length = cols := by simp [dealtL]
def factorL (N K : Nat) (kind : Int) (t : F) : List F := if kind = 2 then roots (secL N K) else if kind = 3 then lin t else [1]
end Go.Proofs.Ytpeiejkcoadhfaa
namespace Go.Proofs.Ytpeiejkcoadhfaa
open Go.RowKit Go.Shelf Go.Proofs.YtpeiejkcoadhfaaW.PrintWords Go.Proofs.YtpeiejkcoadhfaaW.PrintMore Go.Proofs.Ytpeiejkcoadhfaa.PViewEmpty
open Go.BigFrame
def Evt (P : Nat → Prop) : Prop := ∃ k0, ∀ k, k0 ≤ k → P k
theorem Evt.succ {P Q : Nat → Prop} (h : Evt P) (hs : ∀ k, P k → Q (k + 1)) : Evt Q := by
  obtain ⟨k0, h⟩ := h
  refine ⟨k0 + 1, fun k hk => ?_⟩
  obtain ⟨k, rfl⟩ : ∃ m, k = m + 1 := ⟨k - 1, by omega⟩
  exact hs k (h k (by omega))
theorem Evt.and {P Q : Nat → Prop} (h : Evt P) (h' : Evt Q) : Evt fun k => P k ∧ Q k := by
  obtain ⟨a, h⟩ := h
  obtain ⟨b, h'⟩ := h'
  exact ⟨a + b, fun k hk => ⟨h k (by omega), h' k (by omega)⟩⟩
theorem Evt.all {P : Nat → Prop} (h : ∀ k, P k) : Evt P := ⟨0, fun k _ => h k⟩
theorem Evt.mono {P Q : Nat → Prop} (h : Evt P) (hs : ∀ k, P k → Q k) : Evt Q := by
  obtain ⟨a, h⟩ := h
  exact ⟨a, fun k hk => hs k (h k hk)⟩
theorem Evt.some {P : Nat → Prop} (h : Evt P) : ∃ k, P k := by
  obtain ⟨a, h⟩ := h
  exact ⟨a, h a (Nat.le_refl _)⟩
abbrev krow : Kd (List Int) := Kd.slice 5 (Kd.int .u8)
theorem rdL2 (ts : List (List F)) (i : Nat) (h : i < ts.length) : rd_L2 (ts.map bs) (i : Int) = bs (ts.getD i []) := by
  unfold rd_L2
  rw [Int.toNat_natCast, List.getD_eq_getElem?_getD, List.getD_eq_getElem?_getD, List.getElem?_map, List.getElem?_eq_getElem h]
  rfl
theorem PL_rows {w : World} {A : Option Addr} {n : Nat} {qs : List (List F)} (h : PL w A n qs) : Kd.C krow w A n (qs.map bs) := by
  obtain ⟨hs, h1, h2, h3⟩ := h
  refine ⟨by rw [List.length_map]; exact h2, h1.2.1, fun hn => ?_⟩
  obtain ⟨ad, e, hc⟩ := hd_at h1 0 hn
  refine ⟨ad, e, fun j p hj => ?_⟩
  have hjn : j < n := by
    have := (List.getElem?_eq_some_iff.1 hj).1
    rw [List.length_map] at this
    omega
  obtain ⟨ad', e', hc'⟩ := hd_at h1 j hjn
  rw [e] at e'
  injection e' with e'
  subst e'
  obtain ⟨g1, g2, g3⟩ := h3 j hjn
  have hp : p = bs (qs.getD j []) := by
    rw [List.getElem?_map] at hj
    rw [List.getD_eq_getElem?_getD]
    cases h : qs[j]? with
    | none => rw [h] at hj; cases hj
    | some x => rw [h] at hj; injection hj with hj; exact hj.symm
  subst hp
  refine ⟨[encHd (hs.getD j hd0)], rfl, ⟨(hs.getD j hd0).1, (hs.getD j hd0).2.2, ?_, by rw [bs_length]; omega, by rw [bs_length]; exact C_bs.2 g3⟩, fun i u hu => ?_⟩
  · rw [bs_length, ← g1]; rfl
  · cases i with
    | zero =>
      injection hu with hu
      subst hu
      have : krow.sz = 1 := rfl
      rw [this, Nat.mul_one, Nat.add_zero]
      exact hc'
    | succ i => simp at hu
end Go.Proofs.Ytpeiejkcoadhfaa

/- What the view's laws take, Vu42: VwCC. -/
import Derived.Test.YtpeiejkcoadhfaaVu15
import Derived.Lib.AppendZerosOnto
set_option linter.all false
namespace Go.Proofs.Ytpeiejkcoadhfaa
open Go.RowKit Go.Shelf Go.Proofs.YtpeiejkcoadhfaaW.PrintWords Go.Proofs.YtpeiejkcoadhfaaW.PrintMore
theorem zar (k : Nat) : (Builtin.zeroCells (Value.int .u8 0).cells k).toList = List.replicate k (.int .u8 0) := by
 have e : (Value.int .u8 0).cells = #[.int .u8 0] := rfl
 rw [e]
 apply List.ext_getElem
 ·simp [Builtin.zeroCells]
 intro i h1 h2
 simp [Builtin.zeroCells, Nat.mod_one]
theorem zag {P : Program} (w : World) (t tn ty e : TypeId) (i : TypeInfo) (kq kn : IntKind) (ht : P.underlying t = some (.slice e)) (htn : P.underlying tn = some (.int kn)) (hi : P.info? e = some i) (hz : i.zero = some (.int .u8 0)) (hsz : i.size = 1) (hby : i.bytes = 1)
 (g n cap : Nat) (cur : Array Value) (hg : w.heap[g]? = some (.cells cur e (0, 0))) (k : Nat) (hroom : n + k ≤ cap) (hcur : cur.size = cap) (hk : k ≤ 140737488355328) :
 (Builtin.append_ #[t, tn] ty #[.slice (some ⟨g, 0, none⟩) n cap, .int kq k]).run P w = .ok (.slice (some ⟨g, 0, none⟩) (n + k) cap) (w.setRow g (cur.toList.take n ++ List.replicate k (Value.int .u8 0) ++ cur.toList.drop (n + k)).toArray) := by
 have hst := run_storeCells_at P g n e (List.replicate k (.int .u8 0)) 0 cur w hg (by rw [List.length_replicate]; omega) (fun u hu => by rw [(List.mem_replicate.1 hu).2]; rfl)
 rw [List.length_replicate] at hst
 simp only [Nat.add_zero] at hst
 have hw : IntKind.i64.wrap (k : Int) = k := by rw [IntKind.wrap_i64]; omega
 have h48i : ¬ (281474976710656 < (k : Int)) := by omega
 have hneg : ¬ ((k : Int) < 0) := by omega
 by_cases hk0 : k = 0
 ·subst hk0
  simp only [List.replicate_zero, List.append_nil] at hst ⊢
  simp [Builtin.append_, run_underlying ht, run_underlying htn, sizeOf, typeInfo, hi, hsz, hby, asInt, asIntOf, hroom, Addr.add_lit, Nat.add_zero] at hst ⊢
  simp_all
 have hz2 := zar k
 simp [Builtin.append_, run_underlying ht, run_underlying htn, sizeOf, typeInfo, zeroValue, hi, hz, hsz, hby, asInt, asIntOf, hw, hneg, h48i, hk0, hroom, Addr.add_lit, hz2, hst]
theorem ziE (k : Nat) : encs zZ (List.replicate k (0 : F)) = List.replicate k (Value.int .u8 0) := by
 induction k with
 | zero => rfl
 | succ k ih => rw [List.replicate_succ, List.replicate_succ, ← ih]; rfl
theorem zeI (W : World) (base : Nat) {v : Value} {xs : List F} {ok : Nat → Prop} (h : Kd.R fk 5 W base ok v xs) (k : Nat) (hn : xs.length + k ≤ 140737488355328) (hbase : base ≤ W.heap.size) (hok : ∀ k, W.heap.size ≤ k → ok k) :
 ∃ v' W', (Builtin.append_ #[36, 3] 36 #[v, .int .i64 (k : Int)]).run Try.prog W = .ok v' W' ∧ Kd.R fk 5 W' base ok v' (xs ++ List.replicate k 0) ∧ W.grownBy W' v.ownBlock ∧ (v'.ownBlock = v.ownBlock ∨ ∃ b, v'.ownBlock = some b ∧ W.heap.size ≤ b) := by
 obtain ⟨i, hi, hz, hs, hb⟩ := info_parts yJ
 have ho := Kd.own_of_R h
 obtain ⟨n, hnn⟩ : ∃ n, n = xs.length := ⟨_, rfl⟩
 rw [← hnn] at ho hn
 have hel : (encs zZ xs).length = n := by rw [zO]; omega
 have hlen : (encs zZ xs ++ List.replicate k (Value.int .u8 0)).length = (n + k) * 1 := by rw [List.length_append, hel, List.length_replicate, Nat.mul_one]
 suffices H : ∃ v' W', (Builtin.append_ #[36, 3] 36 #[v, .int .i64 (k : Int)]).run Try.prog W = .ok v' W' ∧ W'.ownsRow base 5 1 v' (n + k) (encs zZ xs ++ List.replicate k (Value.int .u8 0)) ∧ W.grownBy W' v.ownBlock ∧ (v'.ownBlock = v.ownBlock ∨ v'.ownBlock = some W.heap.size) by
  obtain ⟨v', W', h1, h2, h3, h4⟩ := H
  rw [← ziE, ← zai] at h2
  have e : n + k = (xs ++ List.replicate k (0 : F)).length := by rw [List.length_append, List.length_replicate, hnn]
  rw [e] at h2
  refine ⟨v', W', h1, Kd.R_of_own h2 (fun j hj => ?_), h3, ?_⟩
  ·rcases h4 with e1 | e1
   ·exact h.1 j (by rw [← e1]; exact hj)
   rw [e1] at hj
   injection hj with hj
   subst hj
   exact hok _ (Nat.le_refl _)
  rcases h4 with e1 | e1
  ·exact .inl e1
  exact .inr ⟨_, e1, Nat.le_refl _⟩
 have grown : ∀ (old : Nat), old < n + k → ∀ (row : Option Nat),
  (W.drew.alloc (.cells ((encs zZ xs).toArray ++ Builtin.zeroCells (Value.int .u8 0).cells k ++ Builtin.zeroCells (Value.int .u8 0).cells (grownCap W (n + k) old 5 - (n + k))) 5)).ownsRow base 5 1
    (.slice (some ⟨W.heap.size, 0, none⟩) (n + k) (grownCap W (n + k) old 5)) (n + k) (encs zZ xs ++ List.replicate k (Value.int .u8 0)) ∧
  W.grownBy (W.drew.alloc (.cells ((encs zZ xs).toArray ++ Builtin.zeroCells (Value.int .u8 0).cells k ++ Builtin.zeroCells (Value.int .u8 0).cells (grownCap W (n + k) old 5 - (n + k))) 5)) row := by
  intro old hold row
  have hge := grownCap_ge W (n + k) old 5
  have hcm : grownCap W (n + k) old 5 ≤ maxLen := grownCap_le_maxLen W (n + k) old 5 (by unfold maxLen; omega)
  have hc1 : (Value.int .u8 0).cells.size = 1 := rfl
  refine ⟨⟨hlen, .inr ⟨W.heap.size, _, _, rfl, hbase, heap_alloc_new W.drew _, hge, hcm, ?_, ?_⟩⟩, ⟨rfl, rfl, rfl, by simp, fun j hj _ => RowKit.Below.heap_alloc W.drew _ j hj⟩⟩
  ·simp only [Array.size_append, List.size_toArray, size_zeroCells, hc1, hel, Nat.mul_one]
   omega
  simp only [Array.toList_append, zar]
  rw [← hlen]
  exact List.take_left
 rcases ho.2 with ⟨rfl, hn0⟩ | ⟨g, cap, cur, rfl, hbg, hg, hnc, hcm, hcs, htake⟩
 ·by_cases hk : k = 0
  ·subst hk
   have hw : IntKind.i64.wrap (0 : Int) = 0 := by rw [IntKind.wrap_i64]; omega
   refine ⟨.slice none 0 0, W, ?_, ?_, World.grownBy.refl _ _, .inl rfl⟩
   ·simp [Builtin.append_, run_underlying Try.underlying36, run_underlying Try.underlying3, sizeOf, typeInfo, hi, asInt, asIntOf, hw, hb]
   rw [hn0]
   have e : encs zZ xs = [] := List.eq_nil_of_length_eq_zero (by rw [hel]; exact hn0)
   rw [e]
   exact World.ownsRow_nil W base 5 1
  have hr := Lib.run_append_nil_zeros (P := Try.prog) W 36 3 36 5 i (.int .u8 0) .i64 .i64 Try.underlying36 Try.underlying3 hi hz k (by omega) (by omega) (by omega) (by rw [hb]; omega)
  have hgr := grown 0 (by omega) (Value.ownBlock (.slice none 0 0))
  have e : encs zZ xs = [] := List.eq_nil_of_length_eq_zero (by rw [hel]; exact hn0)
  rw [e, hn0] at hgr ⊢
  simp only [Nat.zero_add, List.nil_append, Array.empty_append] at hgr ⊢
  exact ⟨_, _, hr, hgr.1, hgr.2, .inr rfl⟩
 rw [Nat.mul_one] at hcs htake
 by_cases hroom : n + k ≤ cap
 ·have hr := zag (P := Try.prog) W 36 3 36 5 i .i64 .i64 Try.underlying36 Try.underlying3 hi hz hs hb g n cap cur hg k hroom hcs (by omega)
  rw [htake] at hr
  refine ⟨_, _, hr, ⟨hlen, .inr ⟨g, cap, _, rfl, hbg, setRow_heap W g cur _ 5 _ hg, hroom, hcm, ?_, ?_⟩⟩, ⟨rfl, rfl, rfl, by simp, fun j _ hj => setRow_other W g j _ (fun e => hj (by simp [Value.ownBlock, e]))⟩, .inl rfl⟩
  ·have e2 : cur.toList.length = cap := by rw [Array.length_toList]; exact hcs
   simp only [List.size_toArray, List.length_append, List.length_drop, List.length_replicate, hel, e2]
   omega
  rw [← hlen]
  exact List.take_left
 have holds : ∀ j u, (encs zZ xs)[j]? = some u → W.cell? ((⟨g, 0, none⟩ : Addr).add j) = some u := ho.cells (g := g) rfl
 have hold : (Builtin.firstCells i.size n (.slice (some ⟨g, 0, none⟩) n cap)).run Try.prog W.drew = .ok (encs zZ xs).toArray W.drew := run_firstCells_some (P := Try.prog) W.drew i.size n ⟨g, 0, none⟩ n cap (encs zZ xs) (by rw [hel, hs]; omega) holds
 have hr := Lib.run_append_grow_zeros (P := Try.prog) W 36 3 36 5 i (.int .u8 0) .i64 .i64 Try.underlying36 Try.underlying3 hi hz (some ⟨g, 0, none⟩) n cap (encs zZ xs) hold k (by omega) (by omega) (by omega) (by omega) (by rw [hb]; omega) (growslice_fits (by omega) (by rw [hb]; omega))
 have hgr := grown cap (by omega) (Value.ownBlock (.slice (some ⟨g, 0, none⟩) n cap))
 exact ⟨_, _, hr, hgr.1, hgr.2, .inr rfl⟩
end Go.Proofs.Ytpeiejkcoadhfaa

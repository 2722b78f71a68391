/- What the view's laws take, Vu29: PzZ. -/
import Derived.Test.YtpeiejkcoadhfaaVu28
set_option linter.all false
namespace Go.Proofs.Ytpeiejkcoadhfaa
open Go.RowKit Go.Shelf Go.Proofs.YtpeiejkcoadhfaaW.PrintWords Go.Proofs.YtpeiejkcoadhfaaW.PrintMore
open Go.BigFrame
attribute [local go_sem] Oper.semAt_some
def jz (N : Nat) (qs : List (List F)) (h j : Nat) : List (List F) := (List.range N).map fun i => (qs.take (if i < h then qs.length else if i = h then j else 0)).map fun q => ev q (ptF i)
theorem zfj (N : Nat) (qs : List (List F)) (h j i : Nat) (hi : i < N) : (jz N qs h j).getD i [] = (qs.take (if i < h then qs.length else if i = h then j else 0)).map fun q => ev q (ptF i) := zy _ _ _ _ hi
theorem zhF (N : Nat) (qs : List (List F)) : jz N qs 0 0 = List.replicate N [] := by
 apply List.ext_getElem
 ·simp [jz]
 intro i h1 h2
 simp only [jz, List.getElem_map, List.getElem_range, List.getElem_replicate]
 rw [if_neg (by omega)]
 split <;> simp
theorem zhS (N : Nat) (qs : List (List F)) (h : Nat) : jz N qs h qs.length = jz N qs (h + 1) 0 := by
 apply List.ext_getElem
 ·simp [jz]
 intro i h1 h2
 simp only [jz, List.getElem_map, List.getElem_range]
 congr 2
 by_cases c1 : i < h
 ·rw [if_pos c1, if_pos (by omega)]
 rw [if_neg c1]
 by_cases c2 : i = h
 ·rw [if_pos c2, if_pos (by omega)]
 rw [if_neg c2, if_neg (by omega)]
 split <;> rfl
theorem zlf (N : Nat) (qs : List (List F)) : jz N qs N 0 = yH N qs := by
 apply List.ext_getElem
 ·simp [jz, yH]
 intro i h1 h2
 have : i < N := by simpa [jz] using h1
 simp only [jz, yH, List.getElem_map, List.getElem_range]
 rw [if_pos this, List.take_length]
theorem ziS (N : Nat) (qs : List (List F)) (h j : Nat) (hh : h < N) (hj : j < qs.length) : (jz N qs h j).set h ((jz N qs h j).getD h [] ++ [ev (qs.getD j []) (ptF h)]) = jz N qs h (j + 1) := by
 rw [zfj _ _ _ _ _ hh, if_neg (by omega), if_pos rfl]
 apply List.ext_getElem
 ·simp [jz]
 intro i h1 h2
 have hi : i < N := by simpa [jz] using h2
 rw [List.getElem_set]
 by_cases e : h = i
 ·subst e
  rw [if_pos rfl]
  simp only [jz, List.getElem_map, List.getElem_range]
  rw [if_neg (by omega), if_pos trivial]
  exact (Zv (fun q => ev q (ptF h)) [] qs j hj).symm
 rw [if_neg e]
 simp only [jz, List.getElem_map, List.getElem_range]
 congr 2
 by_cases c1 : i < h
 ·rw [if_pos c1, if_pos c1]
 rw [if_neg c1, if_neg c1, if_neg (by omega), if_neg (by omega)]
theorem zfi (N : Nat) (qs : List (List F)) (h j : Nat) (hh : h < N) (hj : j ≤ qs.length) : ((jz N qs h j).getD h []).length = j := by
 rw [zfj _ _ _ _ _ hh, if_neg (by omega), if_pos rfl, List.length_map, List.length_take]
 omega
theorem zoz (h : Nat) (hh : h ≤ 1000000) : IntKind.u8.wrap (IntKind.i64.wrap ((h : Int) + 1)) = ((ptF h).v : Int) := by
 rw [IntWalk.i64_in _ ⟨by omega, by omega⟩, zjx, IntKind.wrap_u8]
 omega
set_option maxRecDepth 100000 in
set_option maxHeartbeats 3200000 in
theorem zda (w : World) (N : Nat) (T K E Rm : Int) (A : Option Addr) (n c : Nat) (qs : List (List F)) (hP : PL w A n qs) (hN : N ≤ 1000) (hn : n ≤ 100000) (hq : ∀ q ∈ qs, q.length ≤ 1099511627776) :
 Calls Try.prog 53 #[zv N T K E Rm, .slice A n c] w fun e w' => ∃ b, e = .returned (.slice (some ⟨b, 0, none⟩) N N) ∧ w.heap.size ≤ b ∧ yP w' w.heap.size (fun _ => True) b N (yH N qs) ∧ Below w.heap.size w w' := by
 have hmk := fun W : World => zmn (P := Try.prog) 37 36 (.slice none 0 0) 24 Try.underlying37 zaa rfl (by omega) N (by omega) W
 have HP := za.mk hP
 have HQ := za.mk hq
 clear hP hq
 have hu48 := Try.underlying48
 unfold zv
 go_enter Try.func53, Try.ntmps53
 go_wp2
 obtain ⟨w1, hw1, hz1, a0, hb1⟩ := zU w (Obj.cells #[Value.int IntKind.i64 N, Value.int IntKind.i64 T, Value.int IntKind.i64 K, Value.int IntKind.i64 E, Value.int IntKind.i64 Rm] 48)
 obtain ⟨V, hV, hzV, a1, hbV⟩ := zU w1 (Obj.cells (Array.replicate N (Value.slice none 0 0)) 36)
 have hR0 : yP V w1.heap.size (fun _ => True) w1.heap.size N (List.replicate N []) := by rw [hV]; exact zel w1 _ _ N (by omega)
 rw [← hw1, ← hV]
 obtain ⟨s, hs⟩ : ∃ s, s = w.heap.size := ⟨_, rfl⟩
 rw [hz1] at hR0 hzV
 rw [← hs] at a0 hR0 hzV ⊢
 have a0' := zl a0 hbV
 rw [← zhF N qs] at hR0
 have HR0 := za.mk hR0
 have HS := za.mk hs
 have HV : za (Below w.heap.size w V ∧ V.heap.size = s + 2) := ⟨hb1.trans (hbV.mono hb1.size), by omega⟩
 have HC0 : za (∀ W, Fr (fun j => s + 1 ≤ j) V W → W.cell? ⟨s, 0, none⟩ = some (.int .i64 N)) := ⟨fun W hW => zh (hW.blk a0' (by omega)) rfl⟩
 clear hw1 hV hR0 hs a0 a0' a1 hb1 hbV hz1 hzV hmk
 go_loopw [6] (fun v6 wr => ∃ (h : Nat), h ≤ N ∧ v6 = .int .i64 h ∧ za (yP wr (s + 1) (fun _ => True) (s + 1) N (jz N qs h 0)) ∧ za (Fr (fun j => s + 1 ≤ j) V wr)) (fun v6 _ => N - (intOf v6).toNat)
 case atStart => exact ⟨0, by omega, rfl, HR0, ⟨Fr.refl _ _⟩⟩
 clear HR0
 obtain ⟨h, hh, rfl, HR, HF⟩ := hrel
 obtain ⟨wo, rfl⟩ : ∃ wo : World, wo = wr := ⟨_, rfl⟩
 have c0 := HC0.out _ HF.out
 by_cases hlt : h < N
 ·go_wp2
  clear c0
  go_loopw [7] (fun v7 wr => ∃ (j : Nat), j ≤ n ∧ v7 = .int .i64 j ∧ za (yP wr (s + 1) (fun _ => True) (s + 1) N (jz N qs h j)) ∧ za (Fr (fun j => s + 1 ≤ j) V wr)) (fun v7 _ => n - (intOf v7).toNat)
  case atStart => exact ⟨0, by omega, rfl, HR, HF⟩
  clear HR HF
  obtain ⟨j, hj, rfl, HR, HF⟩ := hrel
  have hbw : Below w.heap.size w wr := HV.out.1.trans (HF.out.below HV.out.1.size (fun j hj => by have := HS.out; omega))
  have hqn : qs.length = n := by obtain ⟨_, _, h, _⟩ := HP.out; exact h
  by_cases hjn : j < n
  ·obtain ⟨ad, Bq, cq, rfl, hcell, hle, hCq⟩ := jV (zG HP.out hbw) j hjn
   have hst := ziS N qs h j hlt (by omega)
   obtain ⟨q, hq⟩ : ∃ q, q = qs.getD j [] := ⟨_, rfl⟩
   have hql : q.length ≤ 1099511627776 := by
    refine HQ.out q ?_
    rw [hq, List.getD_eq_getElem?_getD, List.getElem?_eq_getElem (by omega)]
    exact List.getElem_mem _
   rw [← hq] at hcell hle hCq hst
   have hpt := zoz h (by omega)
   obtain ⟨x, hx⟩ : ∃ x, x = ptF h := ⟨_, rfl⟩
   rw [← hx] at hpt hst
   have HE := za.mk (zfy wr.drew Bq q.length cq q x (Kd.C_below hCq (yf (Below.refl _ _))) hql)
   obtain ⟨y, hy⟩ : ∃ y, y = ev q x := ⟨_, rfl⟩
   rw [← hy] at HE hst
   have hzs : s + 1 < wr.heap.size := by have := HF.out.size; have := HV.out.2; omega
   obtain ⟨A', c', hxx, _⟩ := zcs wr (s + 1) (fun _ => True) (s + 1) N _ HR.out (by omega) (fun _ _ => trivial) h hlt y j (zfi N qs h j hlt (by omega)) (by omega)
   have HPU : za (∀ W, Fr (fun _ => False) wr W → W.cell? ⟨s + 1, h, none⟩ = some (.slice A' j c') ∧ W.cell? (ad.add j) = some (.slice Bq q.length cq) ∧ (W.alloc (.cells #[.int .u8 y.v] 5)).cell? ⟨s + 1, h, none⟩ = some (.slice A' j c') ∧ (W.alloc (.cells #[.int .u8 y.v] 5)).cell? (ad.add j) = some (.slice Bq q.length cq) ∧
    ∃ B' d' W', (Builtin.append_ #[36, 36] 36 #[.slice A' j c', .slice (some ⟨W.heap.size, 0, none⟩) 1 1]).run Try.prog (W.alloc (.cells #[.int .u8 y.v] 5)) = .ok (.slice B' (j + 1) d') W' ∧ W'.cell? ⟨s + 1, h, none⟩ = some (.slice A' j c') ∧ W'.frozen? ⟨s + 1, h, none⟩ = false ∧
      ∀ v', v' = W'.setCell ⟨s + 1, h, none⟩ (.slice B' (j + 1) d') → za (yP v' (s + 1) (fun _ => True) (s + 1) N (jz N qs h (j + 1))) ∧ za (Fr (fun j => s + 1 ≤ j) V v')) := ⟨fun W hW => by
    have hcA : W.cell? ⟨s + 1, h, none⟩ = some (.slice A' j c') := hW.cell hxx (fun h => h)
    have hal : Fr (fun _ => False) W (W.alloc (.cells #[.int .u8 y.v] 5)) := (Fr.refl _ W).alloc _
    obtain ⟨A2, c2, hx2, B', d', W', hrun, hx', hz', hR', hF'⟩ := zcs W (s + 1) (fun _ => True) (s + 1) N _ (zgt HR.out hW) (by have := hW.size; omega) (fun _ _ => trivial) h hlt y j (zfi N qs h j hlt (by omega)) (by omega)
    rw [hcA] at hx2
    injection hx2 with hx2
    injection hx2 with e1 e2 e3
    subst e1; subst e3
    rw [hst] at hR'
    refine ⟨hcA, hW.cell hcell (fun h => h), hal.cell hcA (fun h => h), (hW.trans' hal).cell hcell (fun h => h), B', d', W', hrun, hx', hz', ?_⟩
    rintro v' rfl
    exact ⟨⟨hR'⟩, ⟨(HF.out.trans hW (fun _ h => h.elim)).trans hF' (fun i hi => by rcases hi with h1 | ⟨h1, _⟩ <;> exact .inl (by omega))⟩⟩⟩
   have hjI : (j : Int) < (n : Int) := by omega
   have hsI : (h : Int) < (N : Int) := by omega
   obtain ⟨p0, p1, _⟩ := HPU.out wr.drew ((Fr.refl _ wr).drew)
   obtain ⟨nq, hnq⟩ : ∃ nq, nq = q.length := ⟨_, rfl⟩
   rw [← hnq] at hcell hle HE HPU p1
   clear hst hq hx hy hCq hql hbw hqn hzs hxx hnq
   go_wp2
   go_region_law (first
    | (rw [if_pos (by rfl)]; go_simp; go_at_call 56; with_reducible refine HE.out.mono ?_; rintro e W1 ⟨rfl, hd⟩; obtain ⟨q0, q1, q2, q3, B', d', W', hrun, q4, q5, hfin⟩ := HPU.out W1 ((Fr.refl _ wr).drew.trans' (Fr.of_drawn0 hd)); replace hrun := za.mk hrun; replace hfin := za.mk hfin; clear hd; go_simp)
    | refine yF rfl _ _ _ _ rfl rfl rfl hrun.out ?_)
   all_goals
    have hf2 := hfin.out _ rfl
    clear hfin hrun HPU
    go_wp2
    go_roundw
    case rel => exact ⟨j + 1, by omega, by go_num, hf2.1, hf2.2⟩
    simp [intOf]; omega
  obtain rfl : j = n := by omega
  have hnx := HR.out
  rw [← hqn, zhS] at hnx
  have HNX := za.mk hnx
  clear hqn hnx hbw
  go_wp2
  go_roundw
  case rel => exact ⟨h + 1, by omega, by go_num, HNX, HF⟩
  simp [intOf]; omega
 obtain rfl : h = N := by omega
 go_wp2
 go_ret
 have hs := HS.out
 refine ⟨s + 1, rfl, by omega, ?_, HV.out.1.trans (HF.out.below HV.out.1.size (fun j hj => by omega))⟩
 have h1 := HR.out
 rw [zlf] at h1
 exact ZZ h1 (by omega)
end Go.Proofs.Ytpeiejkcoadhfaa

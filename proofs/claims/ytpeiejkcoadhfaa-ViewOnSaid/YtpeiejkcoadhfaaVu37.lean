/- What the view's laws take, Vu37: VwBD. -/
import Derived.Test.YtpeiejkcoadhfaaVu24
import Derived.WideKeyEntry
set_option linter.all false
namespace Go.Proofs.Ytpeiejkcoadhfaa
open Go.RowKit Go.Shelf Go.Proofs.YtpeiejkcoadhfaaW.PrintWords Go.Proofs.YtpeiejkcoadhfaaW.PrintMore
open Go.BigFrame Go.Maps Go.WideShapes Go.ChangeMaps Go.MapKept
open Go.WideElems (Fit rd rg pl)
theorem zha {H : Type} {P : Program} {w : World} {t k e : TypeId} {R : Value → Option (DataW H × List MemPlace)} {b : Nat} {es : Array MapEntry} {clock : Nat} (K : Keyed P k) (ht : P.underlying t = some (.map k e)) {z : Value} (hz : ∀ u : World, (zeroValue e).run P u = .ok z u) (hb : w.heap[b]? = some (.map es clock)) (F : Fit P k R es clock)
 {key : Value} {kl : Lit} (hkey : keyOf P k key = some kl) :
 ∃ (v0 : Value) (st : Nat) (es1 : Array MapEntry) (clock1 : Nat), (Instr.mapEntry t (.map (some b)) key).run P w = .ok (.tuple #[v0, goInt st]) (setBlock w b (.map es1 clock1)) ∧
   ∀ (w2 : World) (val : Value), w2.heap[b]? = some (.map es1 clock1) → ∃ es' clock', (Instr.entryStore t (.map (some b)) (goInt st) val).run P w2 = .ok () (setBlock w2 b (.map es' clock')) ∧
     (Instr.mapUpdate t (.map (some b)) key val).run P w = .ok () (setBlock w b (.map es' clock')) := by
 obtain ⟨s1, s2, _⟩ := F.stamped
 rcases K.find w hkey es.toList F.keys with ⟨h1, h2⟩ | ⟨j, e0, h1, h2, h3⟩
 ·refine ⟨z, clock, es.push ⟨key, z, clock⟩, clock + 1, ?_, fun w2 val hw2 => ⟨es.push ⟨key, val, clock⟩, clock + 1, ?_, ?_⟩⟩
  ·simp [Instr.mapEntry, run_underlying ht, MapKept.run_getObj_map hb, K.check w false hkey, h1, hz, MapKept.run_setObj_map _ hb, Result.andThen, setBlock]
  ·have hidx : (es.push ⟨key, z, clock⟩).findIdx? (fun e => ((e.born : Nat) : Int) == ((clock : Nat) : Int)) = some es.size := by
    rw [WideElems.findIdx_arr]
    have := WideElems.findIdx_born (l := (es.push ⟨key, z, clock⟩).toList) (j := es.size) (e0 := ⟨key, z, clock⟩) (by
     simp only [Array.toList_push, List.map_append, List.map_cons, List.map_nil]
     refine List.nodup_append.2 ⟨s2, by simp, fun a ha c hc e1 => ?_⟩
     simp only [List.mem_singleton] at hc
     obtain ⟨x, hx, rfl⟩ := List.mem_map.1 ha
     have := s1 x hx
     omega) (by simp)
    exact this
   have hmod : (es.push ⟨key, z, clock⟩).modify es.size (fun e => { e with val := val }) = es.push ⟨key, val, clock⟩ := by
    apply Array.ext'
    rw [Array.toList_modify, Array.toList_push, Array.toList_push, ← Array.length_toList, WideElems.modify_last]
   simp [Instr.entryStore, MapKept.run_getObj_map hw2, asInt, asIntOf, goInt, hidx, hmod, MapKept.run_setObj_map _ hw2, Result.andThen, setBlock]
  simp [Instr.mapUpdate, run_underlying ht, MapKept.run_getObj_map hb, K.check w false hkey, h1, MapKept.run_setObj_map _ hb, Result.andThen, setBlock]
 have hj : es[j]? = some e0 := by simpa using h2
 have hsame : es.modify j (fun e => { e with key := key }) = es := by
  apply Array.ext'
  rw [Array.toList_modify, modify_eq_set _ _ _ _ h2]
  have : ({ e0 with key := key } : MapEntry) = e0 := by rw [← h3]
  rw [this]
  exact WideElems.set_self _ _ _ h2
 refine ⟨e0.val, e0.born, es, clock, ?_, fun w2 val hw2 => ⟨es.modify j (fun e' => { e' with key := key, val := val }), clock, ?_, ?_⟩⟩
 ·simp [Instr.mapEntry, run_underlying ht, MapKept.run_getObj_map hb, K.check w false hkey, h1, hj, h3, K.stays w hkey, hsame, MapKept.run_setObj_map _ hb, Result.andThen, setBlock]
 ·have hidx : es.findIdx? (fun e => ((e.born : Nat) : Int) == ((e0.born : Nat) : Int)) = some j := by
   rw [WideElems.findIdx_arr]
   exact WideElems.findIdx_born s2 h2
  have hmod : es.modify j (fun e => { e with val := val }) = es.modify j (fun e' => { e' with key := key, val := val }) := by
   apply Array.ext'
   rw [Array.toList_modify, Array.toList_modify, modify_eq_set _ _ _ _ h2, modify_eq_set _ _ _ _ h2, ← h3]
  simp [Instr.entryStore, MapKept.run_getObj_map hw2, asInt, asIntOf, goInt, hidx, hmod, MapKept.run_setObj_map _ hw2, Result.andThen, setBlock]
 simp [Instr.mapUpdate, run_underlying ht, MapKept.run_getObj_map hb, K.check w false hkey, h1, hj, h3, K.stays w hkey, MapKept.run_setObj_map _ hb, Result.andThen, setBlock]
def zov (v : Value) : Option (DataW Value × List MemPlace) := some (.held v, [])
def zhW : Value := .slice none 0 0
def zeR (w : World) (b n : Nat) (f : Int → Value) : Prop := ∃ D : DataW Value, w.ownsMap Try.prog 3 zov b n D ∧ Maps.Tidy D ∧ ∀ x : Int, D.atKey (.int .i64 x) (.held zhW) = .held (f x)
theorem zoa (w : World) : zeR (w.alloc (.map #[] 0)) w.heap.size 0 (fun _ => zhW) := ⟨_, World.ownsMap_made _ _ _ _, Maps.tidy_empty, fun _ => rfl⟩
theorem zer {S : Nat → Prop} {w w1 : World} {b n : Nat} {f : Int → Value} (h : zeR w b n f) (hf : Fr S w w1) (hb : ¬ S b) : zeR w1 b n f := by
 obtain ⟨D, ⟨es, cl, h1, h2⟩, h3⟩ := h
 exact ⟨D, ⟨es, cl, hf.blk h1 hb, h2⟩, h3⟩
theorem zdt {w : World} {b n : Nat} {f : Int → Value} (h : zeR w b n f) : ∃ es cl, w.heap[b]? = some (.map es cl) := by
 obtain ⟨_, ⟨es, cl, hb, _⟩, _⟩ := h
 exact ⟨es, cl, hb⟩
theorem zmi (w : World) : (zeroValue 36).run Try.prog w = .ok zhW w := by kernel_rfl
set_option maxRecDepth 100000 in
theorem zlF {w : World} {b n : Nat} {f : Int → Value} (h : zeR w b n f) (x : Int) (hx : 0 ≤ x ∧ x ≤ 255) : (Instr.lookup 128 (.map (some b)) (.int .i64 x) false).run Try.prog w = .ok (f x) w := by
 obtain ⟨D, h1, _, h2⟩ := h
 have hkey : keyOf Try.prog 3 (.int .i64 x) = some (.int .i64 x) := keyOf_int_mk Try.underlying3 (zdL (by omega))
 obtain ⟨v, ps, hrun, hv⟩ := h1.lookup (t := 128) zjT Try.underlying128 (zmi w) (zd := .held zhW) (zp := []) rfl hkey
 rw [h2 x] at hv
 unfold zov at hv
 injection hv with hv
 injection hv with hv _
 injection hv with hv
 rw [hrun, hv]
theorem zcW (w : World) (b : Nat) (o : Obj) : Fr (fun k => k = b) w (setBlock w b o) := ⟨rfl, rfl, rfl, by simp [setBlock], fun k _ hk => by simp only [setBlock]; rw [Array.getElem?_setIfInBounds_ne (fun e => hk e.symm)]⟩
set_option maxRecDepth 100000 in
theorem zlb {w : World} {b n : Nat} {f : Int → Value} (h : zeR w b n f) (x : Int) (hx : 0 ≤ x ∧ x ≤ 255) (hn : n ≤ 1099511627776) :
 ∃ (v0 : Value) (st : Nat) (w1 : World), (Instr.mapEntry 128 (.map (some b)) (.int .i64 x)).run Try.prog w = .ok (.tuple #[v0, .int .i64 st]) w1 ∧ Fr (fun k => k = b) w w1 ∧
   ∀ (w2 : World) (val : Value), w2.heap[b]? = w1.heap[b]? → ∃ w3, (Instr.entryStore 128 (.map (some b)) (.int .i64 st) val).run Try.prog w2 = .ok () w3 ∧ zeR w3 b (n + 1) (fun y => if y = x then val else f y) ∧ Fr (fun k => k = b) w2 w3 := by
 obtain ⟨D, h1, ht, h2⟩ := h
 have hkey : keyOf Try.prog 3 (.int .i64 x) = some (.int .i64 x) := keyOf_int_mk Try.underlying3 (zdL (by omega))
 have hD := h1
 obtain ⟨es, clock, hb, F, hs, _⟩ := hD
 obtain ⟨v0, st, es1, clock1, e1, e2⟩ := zha (t := 128) zjT Try.underlying128 zmi hb F hkey
 refine ⟨v0, st, _, e1, zcW _ _ _, fun w2 val hw2 => ?_⟩
 rw [heap_setBlock_same hb] at hw2
 obtain ⟨es', clock', e3, e4⟩ := e2 w2 val hw2
 obtain ⟨w', hr, hm, hg⟩ := h1.update (t := 128) zjT Try.underlying128 (by unfold maxLen; omega) hkey (val := val) (d := .held val) (ps := []) rfl
 rw [e4] at hr
 injection hr with _ hr
 subst hr
 refine ⟨_, e3, ⟨D.put (.int .i64 x) (.held val), ?_, ht.put (zbJ x) _, fun y => ?_⟩, zcW _ _ _⟩
 ·obtain ⟨es2, cl2, hb2, r⟩ := hm
  refine ⟨es2, cl2, ?_, r⟩
  rw [heap_setBlock_same hb] at hb2
  rw [heap_setBlock_same hw2]
  exact hb2
 by_cases e : y = x
 ·subst e
  rw [Maps.atKey_put_same ht.isMap (zbJ y)]
  simp only [if_true, ↓reduceIte]
 rw [Maps.atKey_put_other (by intro e'; injection e' with _ e'; exact e e'), h2 y]
 simp only [if_neg e]
end Go.Proofs.Ytpeiejkcoadhfaa

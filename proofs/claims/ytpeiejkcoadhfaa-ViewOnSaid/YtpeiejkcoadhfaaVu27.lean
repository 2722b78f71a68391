/- What the view's laws take, Vu27: VwP. -/
import Derived.Test.YtpeiejkcoadhfaaVu13
set_option linter.all false
namespace Go.Proofs.Ytpeiejkcoadhfaa
def Js (t : List F) (n c : Nat) : List F := (t.drop (c * n)).take n
def jx (t : List F) (n : Nat) (us : Nat → List F) : List F := (List.range t.length).map fun k => cf t k + cf (us (k / n)) (k % n)
theorem yK (t : List F) (n : Nat) (us : Nat → List F) : (jx t n us).length = t.length := by simp [jx]
theorem zdp (t : List F) (n : Nat) (us : Nat → List F) (k : Nat) (hk : k < t.length) : cf (jx t n us) k = cf t k + cf (us (k / n)) (k % n) := by
 show (jx t n us).getD k 0 = _
 unfold jx
 rw [List.getD_eq_getElem?_getD, List.getElem?_map, List.getElem?_range hk]
 rfl
theorem zgL (t : List F) (n c i : Nat) (hi : i < n) : cf (Js t n c) i = cf t (c * n + i) := by
 show ((t.drop (c * n)).take n).getD i 0 = t.getD (c * n + i) 0
 rw [List.getD_eq_getElem?_getD, List.getD_eq_getElem?_getD, List.getElem?_take_of_lt hi, List.getElem?_drop]
theorem zcY (t : List F) (n c i : Nat) (hi : n ≤ i) : cf (Js t n c) i = 0 :=
 zJ _ _ (by unfold Js; rw [List.length_take]; omega)
theorem ZC {a b : List F} (hl : a.length = b.length) (h : ∀ i, i < a.length → cf a i = cf b i) : a = b := by
 apply List.ext_getElem hl
 intro i h1 h2
 have h3 := h i h1
 unfold cf at h3
 rw [List.getD_eq_getElem?_getD, List.getD_eq_getElem?_getD, List.getElem?_eq_getElem h1, List.getElem?_eq_getElem h2] at h3
 exact h3
theorem zfa (t : List F) (n : Nat) (us : Nat → List F) : jx (jx t n us) n us = t := by
 refine ZC (by rw [yK, yK]) (fun i hi => ?_)
 rw [yK, yK] at hi
 rw [zdp _ _ _ _ (by rw [yK]; exact hi), zdp _ _ _ _ hi, F.add_assoc, F.add_self, F.add_zero]
theorem zbl (t : List F) (n cols : Nat) (us : Nat → List F) (hl : t.length = n * cols) (c : Nat) (hc : c < cols) (hu : ∀ i, n ≤ i → cf (us c) i = 0) (x : F) : ev (Js (jx t n us) n c) x = ev (Js t n c) x + ev (us c) x := by
 rw [← ZM]
 refine zbC _ _ (fun i => ?_) x
 rw [zS]
 rcases Nat.lt_or_ge i n with hi | hi
 ·have hlt : c * n + i < t.length := by
   have h1 : (c + 1) * n ≤ cols * n := Nat.mul_le_mul_right n hc
   rw [Nat.add_mul, Nat.one_mul] at h1
   rw [hl, Nat.mul_comm n cols]
   omega
  rw [zgL _ _ _ _ hi, zgL _ _ _ _ hi, zdp _ _ _ _ hlt]
  have h1 : (c * n + i) / n = c := by rw [Nat.mul_comm, Nat.mul_add_div (by omega), Nat.div_eq_of_lt hi, Nat.add_zero]
  have h2 : (c * n + i) % n = i := by rw [Nat.mul_comm, Nat.mul_add_mod, Nat.mod_eq_of_lt hi]
  rw [h1, h2]
 rw [zcY _ _ _ _ hi, zcY _ _ _ _ hi, hu i hi, F.add_zero]
structure Rnd where
 kind : Int
 dealers : List Nat
 target : Nat
 seen : List Nat
abbrev Ev := Nat → Nat → F
def yo (cols : Nat) (q : Ev) (h : Nat) : List F := (List.range cols).map fun c => q c h
def yg (q : Ev) (ds : List Ev) : Ev := fun c h => ds.foldl (fun a d => a + d c h) (q c h)
def yI (h : Nat) : List Nat → List (List F) → List F
 | d :: ds, t :: ts => (if d = h then t else []) ++ yI h ds ts
 | _, _ => []
def ZY (N cols : Nat) (r : Rnd) (q : Ev) (ds : List Ev) (ts : List (List F)) : List F :=
 (r.seen.flatMap fun h => yo cols q h ++ (ds.flatMap fun d => yo cols d h) ++ yI h r.dealers ts ++ (if r.kind = 2 then yo cols (yg q ds) h else [])) ++
 ((List.range N).flatMap fun h => if r.kind = 4 ∨ (r.kind = 3 ∧ r.target ∈ r.seen ∧ h ≠ r.target) then yo cols (yg q ds) h else [])
theorem Zt {cols : Nat} {q q' : Ev} {h : Nat} (e : ∀ c, c < cols → q c h = q' c h) : yo cols q h = yo cols q' h := by
 unfold yo
 exact List.map_congr_left (fun c hc => e c (List.mem_range.1 hc))
theorem Jf {α β : Type} {l : List α} {f g : α → List β} (h : ∀ a ∈ l, f a = g a) : l.flatMap f = l.flatMap g := by
 induction l with
 | nil => rfl
 | cons a l ih => rw [List.flatMap_cons, List.flatMap_cons, h a (List.mem_cons_self ..), ih (fun b hb => h b (List.mem_cons_of_mem _ hb))]
theorem zcN {N cols : Nat} {r : Rnd} {q q' : Ev} {ds ds' : List Ev} {ts ts' : List (List F)} (ha : ∀ h ∈ r.seen, ∀ c, c < cols → q' c h = q c h) (hb : ∀ h ∈ r.seen, (ds'.flatMap fun d => yo cols d h) = ds.flatMap fun d => yo cols d h) (hc : ∀ h ∈ r.seen, yI h r.dealers ts' = yI h r.dealers ts)
 (hd : r.kind = 2 → ∀ h ∈ r.seen, ∀ c, c < cols → yg q' ds' c h = yg q ds c h) (he : (r.kind = 4 ∨ (r.kind = 3 ∧ r.target ∈ r.seen)) → ∀ c h, c < cols → yg q' ds' c h = yg q ds c h) : ZY N cols r q' ds' ts' = ZY N cols r q ds ts := by
 unfold ZY
 congr 1
 ·refine Jf (fun h hh => ?_)
  rw [Zt (ha h hh), hb h hh, hc h hh]
  by_cases hk : r.kind = 2
  ·rw [if_pos hk, if_pos hk, Zt (hd hk h hh)]
  rw [if_neg hk, if_neg hk]
 refine Jf (fun h _ => ?_)
 by_cases hk : r.kind = 4 ∨ (r.kind = 3 ∧ r.target ∈ r.seen ∧ h ≠ r.target)
 ·rw [if_pos hk, if_pos hk]
  refine Zt (fun c hcc => he ?_ c h hcc)
  rcases hk with h1 | ⟨h1, h2, _⟩
  ·exact .inl h1
  exact .inr ⟨h1, h2⟩
 rw [if_neg hk, if_neg hk]
theorem zbd (ds : List Ev) (c h : Nat) : ∀ a : F, ds.foldl (fun a d => a + d c h) a = a + ds.foldl (fun a d => a + d c h) 0 := by
 induction ds with
 | nil => intro a; rw [List.foldl_nil, List.foldl_nil, F.add_zero]
 | cons d ds ih => intro a; rw [List.foldl_cons, List.foldl_cons, ih, ih (0 + d c h), F.zero_add, F.add_assoc]
def Tn (ε : Ev) (cols : Nat) (seen : List Nat) : List Nat → List Ev → List Ev → List (List F) → List (List F) → Prop
 | x :: xs, d :: ds, d' :: ds', t :: ts, t' :: ts' => (x ∉ seen ∧ (∀ c h, c < cols → d' c h = d c h + ε c h) ∧ ds' = ds ∧ ts' = ts) ∨ (d' = d ∧ t' = t ∧ Tn ε cols seen xs ds ds' ts ts')
 | _, _, _, _, _ => False
theorem zlv {ε : Ev} {cols : Nat} {seen : List Nat} {h : Nat} (hh : h ∈ seen) : ∀ {xs : List Nat} {ds ds' : List Ev} {ts ts' : List (List F)}, Tn ε cols seen xs ds ds' ts ts' → yI h xs ts' = yI h xs ts
 | x :: xs, d :: ds, d' :: ds', t :: ts, t' :: ts', .inl ⟨h1, _, _, h4⟩ => by
   subst h4
   have hx : x ≠ h := fun e => h1 (by rw [e]; exact hh)
   rw [yI, yI, if_neg hx, if_neg hx]
 | x :: xs, d :: ds, d' :: ds', t :: ts, t' :: ts', .inr ⟨_, h2, h3⟩ => by
   rw [yI, yI, h2, zlv hh h3]
theorem zjm {ε : Ev} {cols : Nat} {seen : List Nat} {h : Nat} (hz : ∀ c, c < cols → ε c h = 0) : ∀ {xs : List Nat} {ds ds' : List Ev} {ts ts' : List (List F)}, Tn ε cols seen xs ds ds' ts ts' → (ds'.flatMap fun d => yo cols d h) = ds.flatMap fun d => yo cols d h
 | x :: xs, d :: ds, d' :: ds', t :: ts, t' :: ts', .inl ⟨_, h2, h3, _⟩ => by
   subst h3
   rw [List.flatMap_cons, List.flatMap_cons, Zt (fun c hc => by rw [h2 c h hc, hz c hc, F.add_zero])]
 | x :: xs, d :: ds, d' :: ds', t :: ts, t' :: ts', .inr ⟨h1, _, h3⟩ => by
   rw [List.flatMap_cons, List.flatMap_cons, h1, zjm hz h3]
theorem zlD {ε : Ev} {cols : Nat} {seen : List Nat} {c h : Nat} (hc : c < cols) : ∀ {xs : List Nat} {ds ds' : List Ev} {ts ts' : List (List F)}, Tn ε cols seen xs ds ds' ts ts' → ∀ a : F, ds'.foldl (fun a d => a + d c h) a = ds.foldl (fun a d => a + d c h) a + ε c h
 | x :: xs, d :: ds, d' :: ds', t :: ts, t' :: ts', .inl ⟨_, h2, h3, _⟩, a => by
   subst h3
   rw [List.foldl_cons, List.foldl_cons, h2 c h hc, zbd ds' c h (a + (d c h + ε c h)), zbd ds' c h (a + d c h), ← F.add_assoc a, F.add_assoc (a + d c h), F.add_assoc (a + d c h), F.add_comm (ε c h)]
 | x :: xs, d :: ds, d' :: ds', t :: ts, t' :: ts', .inr ⟨h1, _, h3⟩, a => by
   rw [List.foldl_cons, List.foldl_cons, h1]
   exact zlD hc h3 _
theorem zkT {q q' : Ev} {δ : Ev} {c h : Nat} (ds : List Ev) (e : q' c h = q c h + δ c h) : yg q' ds c h = yg q ds c h + δ c h := by
 unfold yg
 rw [e, zbd ds c h (q c h + δ c h), zbd ds c h (q c h), F.add_assoc, F.add_assoc, F.add_comm (δ c h)]
theorem ziO {N cols : Nat} {r : Rnd} {q q' : Ev} {ds ds' : List Ev} {ts ts' : List (List F)} {δ ε : Ev} (hq : ∀ c h, c < cols → q' c h = q c h + δ c h) (hδ : ∀ h ∈ r.seen, ∀ c, c < cols → δ c h = 0) (hε : ∀ h ∈ r.seen, ∀ c, c < cols → ε c h = 0)
 (ht : Tn ε cols r.seen r.dealers ds ds' ts ts') (he : (r.kind = 4 ∨ (r.kind = 3 ∧ r.target ∈ r.seen)) → ∀ c h, c < cols → δ c h = ε c h) :
 ZY N cols r q' ds' ts' = ZY N cols r q ds ts ∧ ∀ c h, c < cols → yg q' ds' c h = yg q ds c h + (δ c h + ε c h) := by
 have hs : ∀ c h, c < cols → yg q' ds' c h = yg q ds c h + (δ c h + ε c h) := fun c h hc => by
  have h1 : yg q' ds' c h = yg q' ds c h + ε c h := zlD hc ht _
  rw [h1, zkT ds (hq c h hc), F.add_assoc]
 refine ⟨zcN (fun h hh c hc => by rw [hq c h hc, hδ h hh c hc, F.add_zero]) (fun h hh => zjm (hε h hh) ht) (fun h hh => zlv hh ht) (fun _ h hh c hc => by rw [hs c h hc, hδ h hh c hc, hε h hh c hc, F.add_zero, F.add_zero]) (fun hk c h hc => by rw [hs c h hc, he hk c h hc, F.add_self, F.add_zero]), hs⟩
theorem zij {N cols : Nat} {r : Rnd} {q q' : Ev} {ds : List Ev} {ts : List (List F)} {δ : Ev} (hq : ∀ c h, c < cols → q' c h = q c h + δ c h) (hδ : ∀ h ∈ r.seen, ∀ c, c < cols → δ c h = 0) (hk : r.kind = 0 ∨ (r.kind = 3 ∧ r.target ∉ r.seen)) :
 ZY N cols r q' ds ts = ZY N cols r q ds ts := by
 refine zcN (fun h hh c hc => by rw [hq c h hc, hδ h hh c hc, F.add_zero]) (fun _ _ => rfl) (fun _ _ => rfl) (fun h2 => ?_) (fun h2 => ?_)
 ·rcases hk with h1 | ⟨h1, _⟩ <;> (rw [h1] at h2; exact absurd h2 (by decide))
 rcases hk with h1 | ⟨h1, h3⟩
 ·rcases h2 with h2 | ⟨h2, _⟩ <;> (rw [h1] at h2; exact absurd h2 (by decide))
 rcases h2 with h2 | ⟨_, h2⟩
 ·rw [h1] at h2; exact absurd h2 (by decide)
 exact absurd h2 h3
def Jb (fac : F → F) (n : Nat) (pt : Nat → F) (t : List F) : Ev := fun c h => ev (Js t n c) (pt h) * fac (pt h)
def yt (seen : List Nat) (n : Nat) (us : Nat → List F) : List Nat → List (List F) → List (List F)
 | x :: xs, t :: ts => if x ∈ seen then t :: yt seen n us xs ts else jx t n us :: ts
 | _, ts => ts
theorem Jy (seen : List Nat) (n : Nat) (us : Nat → List F) : ∀ (xs : List Nat) (ts : List (List F)), (yt seen n us xs ts).length = ts.length
 | [], ts => by cases ts <;> rfl
 | x :: xs, [] => rfl
 | x :: xs, t :: ts => by
   unfold yt
   split
   ·rw [List.length_cons, Jy seen n us xs ts]; rfl
   rfl
theorem zbS (seen : List Nat) (n : Nat) (us : Nat → List F) : ∀ (xs : List Nat) (ts : List (List F)), yt seen n us xs (yt seen n us xs ts) = ts
 | [], ts => by cases ts <;> rfl
 | x :: xs, [] => rfl
 | x :: xs, t :: ts => by
   by_cases h : x ∈ seen
   ·have e : yt seen n us (x :: xs) (t :: ts) = t :: yt seen n us xs ts := by rw [yt, if_pos h]
    rw [e, yt, if_pos h, zbS seen n us xs ts]
   have e : yt seen n us (x :: xs) (t :: ts) = jx t n us :: ts := by rw [yt, if_neg h]
   rw [e, yt, if_neg h, zfa]
theorem zcO (seen : List Nat) (n : Nat) (us : Nat → List F) : ∀ (xs : List Nat) (ts : List (List F)), (yt seen n us xs ts).map List.length = ts.map List.length
 | [], ts => by cases ts <;> rfl
 | x :: xs, [] => rfl
 | x :: xs, t :: ts => by
   unfold yt
   split
   ·rw [List.map_cons, List.map_cons, zcO seen n us xs ts]
   rw [List.map_cons, List.map_cons, yK]
theorem zjD {ε : Ev} {cols n : Nat} {seen : List Nat} {fac : F → F} {pt : Nat → F} {us : Nat → List F} (hu : ∀ c, c < cols → ∀ i, n ≤ i → cf (us c) i = 0) (he : ∀ c h, c < cols → ev (us c) (pt h) * fac (pt h) = ε c h) : ∀ {xs : List Nat} {ts : List (List F)}, xs.length = ts.length → (∀ t ∈ ts, t.length = n * cols) → (∃ x ∈ xs, x ∉ seen) →
 Tn ε cols seen xs (ts.map (Jb fac n pt)) ((yt seen n us xs ts).map (Jb fac n pt)) ts (yt seen n us xs ts)
 | [], _, _, _, hx => by obtain ⟨x, hx, _⟩ := hx; cases hx
 | x :: xs, [], hl, _, _ => by simp at hl
 | x :: xs, t :: ts, hl, ht, hx => by
   by_cases h : x ∈ seen
   ·have e : yt seen n us (x :: xs) (t :: ts) = t :: yt seen n us xs ts := by rw [yt, if_pos h]
    rw [e]
    refine .inr ⟨rfl, rfl, zjD hu he (by simpa using hl) (fun t' h' => ht t' (List.mem_cons_of_mem _ h')) ?_⟩
    obtain ⟨y, hy, hn⟩ := hx
    rcases List.mem_cons.1 hy with e1 | e1
    ·rw [e1] at hn; exact absurd h hn
    exact ⟨y, e1, hn⟩
   have e : yt seen n us (x :: xs) (t :: ts) = jx t n us :: ts := by rw [yt, if_neg h]
   rw [e]
   refine .inl ⟨h, fun c h' hc => ?_, rfl, rfl⟩
   show ev (Js (jx t n us) n c) (pt h') * fac (pt h') = ev (Js t n c) (pt h') * fac (pt h') + ε c h'
   rw [zbl t n cols us (ht t (List.mem_cons_self ..)) c hc (hu c hc), F.add_mul, he c h' hc]
theorem zmc : ∀ (l m : List Nat), l.Nodup → m.length < l.length → ∃ x ∈ l, x ∉ m
 | [], m, _, h => by simp at h
 | a :: l, m, hn, h => by
   obtain ⟨h1, h2⟩ := List.nodup_cons.1 hn
   by_cases ha : a ∈ m
   ·obtain ⟨x, hx, hm⟩ := zmc l (m.erase a) h2 (by rw [List.length_erase_of_mem ha]; simp only [List.length_cons] at h; have := List.length_pos_of_mem ha; omega)
    refine ⟨x, List.mem_cons_of_mem _ hx, fun hm' => hm ?_⟩
    exact (List.mem_erase_of_ne (fun e => h1 (by rw [← e]; exact hx))).2 hm'
   exact ⟨a, List.mem_cons_self .., ha⟩
section
variable (N cols : Nat) (fac : Rnd → F → F) (each : Rnd → Nat) (pt : Nat → F)
def Zl : List Rnd → Ev → List (List F) → List F
 | [], _, _ => []
 | r :: rs, q, ts => ZY N cols r q ((ts.take r.dealers.length).map (Jb (fac r) (each r) pt)) (ts.take r.dealers.length) ++
   Zl rs (if r.kind = 2 then yg q ((ts.take r.dealers.length).map (Jb (fac r) (each r) pt)) else q) (ts.drop r.dealers.length)
def Ze (us : Nat → Rnd → Option (Nat → List F)) : List Rnd → Nat → List (List F) → List (List F)
 | [], _, _ => []
 | r :: rs, e, ts => (match us e r with | none => ts.take r.dealers.length | some u => yt r.seen (each r) u r.dealers (ts.take r.dealers.length)) ++ Ze us rs (if r.kind = 2 then e + 1 else e) (ts.drop r.dealers.length)
def zeC (δ : Nat → Ev) (us : Nat → Rnd → Option (Nat → List F)) : List Rnd → Nat → List (List F) → Prop
 | [], _, _ => True
 | r :: rs, e, ts => r.dealers.length ≤ ts.length ∧ (∀ t ∈ ts.take r.dealers.length, t.length = each r * cols) ∧ (∀ h ∈ r.seen, ∀ c, c < cols → δ e c h = 0) ∧ (r.kind = 2 → ∀ h ∈ r.seen, ∀ c, c < cols → δ (e + 1) c h = 0) ∧
   (match us e r with
     | none => r.kind = 0 ∨ (r.kind = 3 ∧ r.target ∉ r.seen)
     | some u => (r.kind = 2 ∨ r.kind = 3 ∨ r.kind = 4) ∧ (∃ x ∈ r.dealers, x ∉ r.seen) ∧ (∀ c, c < cols → ∀ i, each r ≤ i → cf (u c) i = 0) ∧ ∀ c h, c < cols → ev (u c) (pt h) * fac r (pt h) = if r.kind = 2 then δ e c h + δ (e + 1) c h else δ e c h) ∧
   zeC δ us rs (if r.kind = 2 then e + 1 else e) (ts.drop r.dealers.length)
theorem zaL {δ : Nat → Ev} {us : Nat → Rnd → Option (Nat → List F)} : ∀ (rs : List Rnd) (e : Nat) (q q' : Ev) (ts : List (List F)), zeC cols fac each pt δ us rs e ts → (∀ c h, c < cols → q' c h = q c h + δ e c h) → Zl N cols fac each pt rs q' (Ze each us rs e ts) = Zl N cols fac each pt rs q ts
 | [], _, _, _, _, _, _ => rfl
 | r :: rs, e, q, q', ts, hok, hq => by
   obtain ⟨h1, h2, h3, h4, h5, h6⟩ := hok
   have hnow : (ts.take r.dealers.length).length = r.dealers.length := by rw [List.length_take]; omega
   rw [Zl, Zl, Ze]
   cases hu : us e r with
   | none =>
     rw [hu] at h5
     simp only at h5 ⊢
     rw [List.take_left' hnow, List.drop_left' hnow, zij hq h3 h5]
     have hk2 : r.kind ≠ 2 := by rcases h5 with h | ⟨h, _⟩ <;> (rw [h]; decide)
     rw [if_neg hk2, if_neg hk2, if_neg hk2]
     rw [if_neg hk2] at h6
     rw [zaL rs e q q' _ h6 hq]
   | some u =>
     rw [hu] at h5
     simp only at h5 ⊢
     obtain ⟨hk, hx, hdeg, hev⟩ := h5
     have hl' : (yt r.seen (each r) u r.dealers (ts.take r.dealers.length)).length = r.dealers.length := by rw [Jy]; exact hnow
     rw [List.take_left' hl', List.drop_left' hl']
     have hT := zjD (ε := fun c h => if r.kind = 2 then δ e c h + δ (e + 1) c h else δ e c h) (seen := r.seen) (pt := pt) (fac := fac r) hdeg hev hnow.symm h2 hx
     have hε : ∀ h ∈ r.seen, ∀ c, c < cols → (fun c h => if r.kind = 2 then δ e c h + δ (e + 1) c h else δ e c h) c h = 0 := fun h hh c hc => by
      simp only []
      by_cases k2 : r.kind = 2
      ·rw [if_pos k2, h3 h hh c hc, h4 k2 h hh c hc, F.add_zero]
      rw [if_neg k2, h3 h hh c hc]
     obtain ⟨e1, e2⟩ := ziO (N := N) hq h3 hε hT (fun hk' c h _ => by
      have k2 : r.kind ≠ 2 := by rcases hk' with h | ⟨h, _⟩ <;> (rw [h]; decide)
      simp only [if_neg k2])
     rw [e1]
     congr 1
     by_cases k2 : r.kind = 2
     ·rw [if_pos k2, if_pos k2, if_pos k2]
      rw [if_pos k2] at h6
      refine zaL rs (e + 1) _ _ _ h6 (fun c h hc => ?_)
      rw [e2 c h hc]
      simp only [if_pos k2]
      rw [← F.add_assoc (δ e c h), F.add_self, F.zero_add]
     rw [if_neg k2, if_neg k2, if_neg k2]
     rw [if_neg k2] at h6
     exact zaL rs e q q' _ h6 hq
end
def zkG : List Rnd → List (List F) → Prop
 | [], ts => ts = []
 | r :: rs, ts => r.dealers.length ≤ ts.length ∧ zkG rs (ts.drop r.dealers.length)
section
variable (each : Rnd → Nat) (us : Nat → Rnd → Option (Nat → List F))
theorem zgv (r : Rnd) (e : Nat) {ts : List (List F)} (h : r.dealers.length ≤ ts.length) : (match us e r with | none => ts.take r.dealers.length | some u => yt r.seen (each r) u r.dealers (ts.take r.dealers.length)).length = r.dealers.length := by
 cases us e r with
 | none => simp only []; rw [List.length_take]; omega
 | some u => simp only []; rw [Jy, List.length_take]; omega
theorem zcJ : ∀ (rs : List Rnd) (e : Nat) (ts : List (List F)), zkG rs ts → Ze each us rs e (Ze each us rs e ts) = ts
 | [], _, ts, h => by rw [show ts = [] from h]; rfl
 | r :: rs, e, ts, h => by
   obtain ⟨h1, h2⟩ := h
   have hn := zgv each us r e h1
   rw [Ze]
   conv => lhs; rw [Ze]
   rw [List.take_left' hn, List.drop_left' hn, zcJ rs _ _ h2]
   cases us e r with
   | none => simp only []; exact List.take_append_drop _ _
   | some u => simp only []; rw [zbS]; exact List.take_append_drop _ _
theorem zea : ∀ (rs : List Rnd) (e : Nat) (ts : List (List F)), zkG rs ts → (Ze each us rs e ts).map List.length = ts.map List.length
 | [], _, ts, h => by rw [show ts = [] from h]; rfl
 | r :: rs, e, ts, h => by
   obtain ⟨h1, h2⟩ := h
   rw [Ze, List.map_append, zea rs _ _ h2]
   conv => rhs; rw [← List.take_append_drop r.dealers.length ts, List.map_append]
   congr 1
   cases us e r with
   | none => rfl
   | some u => exact zcO _ _ _ _ _
end
theorem zif {cols T : Nat} {tape : List F} {us : Nat → List F} {rt : F → F} {a b : Nat → F → F} {δ : Nat → F → F} (hl : tape.length = T * cols) (hu : ∀ c, c < cols → ∀ i, T ≤ i → cf (us c) i = 0) (he : ∀ c x, c < cols → ev (us c) x * rt x = δ c x + (a c x + b c x)) (c : Nat) (hc : c < cols) (x : F) :
 b c x + ev (Js (jx tape T us) T c) x * rt x = (a c x + ev (Js tape T c) x * rt x) + δ c x := by
 rw [zbl tape T cols us hl c hc (hu c hc), F.add_mul, he c x hc]
 have e1 : δ c x + (a c x + b c x) = a c x + b c x + δ c x := F.add_comm _ _
 rw [e1, ← F.add_assoc (b c x), F.add_comm (b c x) (ev (Js tape T c) x * rt x), F.add_assoc (ev (Js tape T c) x * rt x), ← F.add_assoc (b c x) (a c x + b c x), F.add_comm (a c x) (b c x), ← F.add_assoc (b c x), F.add_self, F.zero_add, ← F.add_assoc, F.add_comm (ev (Js tape T c) x * rt x) (a c x)]
theorem zjw {p d q : List F} {low T : Nat} (hd0 : cf d low ≠ 0) (hd1 : ∀ i, low < i → cf d i = 0) (heq : ∀ i, cf p i = cf (zB q d) i) (hdeg : ∀ i, low + T ≤ i → cf p i = 0) : ∀ i, T ≤ i → cf q i = 0 := by
 intro i hi
 rw [← zY q i]
 by_cases h0 : zj q = []
 ·rw [h0]; rfl
 by_cases hlt : i < (zj q).length
 ·exfalso
  obtain ⟨m, hm⟩ : ∃ m, m = (zj q).length - 1 := ⟨_, rfl⟩
  have h1 := ZX q h0
  rw [← hm] at h1
  have h2 := JR q d m low (fun j hj => by rw [← zY q j]; exact zJ _ _ (by omega)) hd1
  have h3 := heq (m + low)
  rw [hdeg (m + low) (by omega), h2, ← zY q m] at h3
  rcases F.mul_eq_zero h3.symm with h | h
  ·exact h1 h
  exact hd0 h
 exact zJ _ _ (by omega)
theorem zcf {xs p d q r : List F} {T : Nat} (hu : Unl xs) (hd0 : cf d xs.length ≠ 0) (hd1 : ∀ i, xs.length < i → cf d i = 0) (hdx : ∀ x ∈ xs, ev d x = 0) (hp : ∀ x ∈ xs, ev p x = 0) (heq : ∀ i, cf p i = cf (zB q d) i + cf r i) (hr : (zj r).length ≤ xs.length) (hdeg : ∀ i, xs.length + T ≤ i → cf p i = 0) :
 (∀ x, ev p x = ev q x * ev d x) ∧ ∀ i, T ≤ i → cf q i = 0 := by
 have hev : ∀ x, ev p x = ev q x * ev d x + ev r x := fun x => by
  rw [← zbw, ← ZM]
  exact zbC _ _ (fun i => by rw [zS]; exact heq i) x
 have hr0 : ∀ i, cf r i = 0 := fun i => by
  rw [← zY r i]
  refine zaN xs.length (zj r) xs (fun i hi => zJ _ _ (by omega)) hu (Nat.le_refl _) (fun x hx => ?_) i
  have h1 := hev x
  rw [hp x hx, hdx x hx, F.mul_zero, F.zero_add] at h1
  rw [Ju]
  exact h1.symm
 refine ⟨fun x => by rw [hev x, zbb hr0 x, F.add_zero], zjw hd0 hd1 (fun i => by rw [heq i, hr0 i, F.add_zero]) hdeg⟩
theorem zkq {xs p q r : List F} {T : Nat} (hu : Unl xs) (hp : ∀ x ∈ xs, ev p x = 0) (heq : ∀ i, cf p i = cf (zB q (zw xs)) i + cf r i) (hr : (zj r).length ≤ xs.length) (hdeg : ∀ i, xs.length + T ≤ i → cf p i = 0) :
 (∀ x, ev p x = ev q x * ev (zw xs) x) ∧ ∀ i, T ≤ i → cf q i = 0 :=
 zcf hu (by rw [(jB xs).1]; exact F.one_ne) (jB xs).2 (fun x hx => (zaE xs x).2 hx) hp heq hr hdeg
theorem znV {t : F} {p q r : List F} {T : Nat} (hp : ev p t = 0) (heq : ∀ i, cf p i = cf (zB q (lin t)) i + cf r i) (hr : (zj r).length ≤ 1) (hdeg : ∀ i, 1 + T ≤ i → cf p i = 0) :
 (∀ x, ev p x = ev q x * ev (lin t) x) ∧ ∀ i, T ≤ i → cf q i = 0 :=
 zcf (xs := [t]) (List.nodup_cons.2 ⟨by simp, List.nodup_nil⟩) F.one_ne (fun i hi => zJ _ _ (by simp only [List.length_singleton] at hi; simp only [lin, List.length_cons, List.length_nil]; omega)) (fun x hx => by rw [List.mem_singleton.1 hx, ziX, F.add_self]) (fun x hx => by rw [List.mem_singleton.1 hx]; exact hp) heq hr hdeg
theorem zmZ {p q r : List F} {T : Nat} (heq : ∀ i, cf p i = cf (zB q [1]) i + cf r i) (hr : (zj r).length ≤ 0) (hdeg : ∀ i, T ≤ i → cf p i = 0) :
 (∀ x, ev p x = ev q x * ev [1] x) ∧ ∀ i, T ≤ i → cf q i = 0 :=
 zcf (xs := []) List.nodup_nil F.one_ne (fun i hi => zJ _ _ (by simp only [List.length_nil] at hi; simp only [List.length_cons, List.length_nil]; omega)) (fun x hx => by cases hx) (fun x hx => by cases hx) heq hr (fun i hi => hdeg i (by simpa using hi))
theorem zkj {xs zs ys s : List F} {n : Nat} (h : zbu (xs ++ zs) (ys ++ List.replicate n 0) s) (hl : ys.length = xs.length) (hn : n = zs.length) : (∀ i, i < xs.length → ev s (xs.getD i 0) = ys.getD i 0) ∧ (∀ z ∈ zs, ev s z = 0) ∧ ∀ i, xs.length + zs.length ≤ i → cf s i = 0 := by
 obtain ⟨_, h2, h3⟩ := h
 rw [List.length_append] at h2 h3
 refine ⟨fun i hi => ?_, fun z hz => ?_, fun i hi => zJ _ _ (by omega)⟩
 ·have h4 := h3 i (by omega)
  rw [List.getD_eq_getElem?_getD, List.getElem?_append_left hi, ← List.getD_eq_getElem?_getD, List.getD_eq_getElem?_getD (l := ys ++ _), List.getElem?_append_left (by omega), ← List.getD_eq_getElem?_getD] at h4
  exact h4
 obtain ⟨i, hi, rfl⟩ := zax hz
 have h4 := h3 (xs.length + i) (by omega)
 rw [List.getD_eq_getElem?_getD, List.getElem?_append_right (by omega), Nat.add_sub_cancel_left, ← List.getD_eq_getElem?_getD, List.getD_eq_getElem?_getD (l := ys ++ _), List.getElem?_append_right (by omega), List.getElem?_replicate] at h4
 rw [h4]
 split <;> rfl
end Go.Proofs.Ytpeiejkcoadhfaa

/- What the view's laws take, Vt27: VwP. -/
import Derived.Test.YtpeiejkcoadhfaaVt13
set_option linter.all false
namespace Go.Proofs.Ytpeiejkcoadhfaa
def chunk (t : List F) (n c : Nat) : List F := (t.drop (c * n)).take n
def addT (t : List F) (n : Nat) (us : Nat → List F) : List F := (List.range t.length).map fun k => cf t k + cf (us (k / n)) (k % n)
theorem addT_length (t : List F) (n : Nat) (us : Nat → List F) : (addT t n us).length = t.length := by simp [addT]
theorem cf_addT (t : List F) (n : Nat) (us : Nat → List F) (k : Nat) (hk : k < t.length) : cf (addT t n us) k = cf t k + cf (us (k / n)) (k % n) := by
  show (addT t n us).getD k 0 = _
  unfold addT
  rw [List.getD_eq_getElem?_getD, List.getElem?_map, List.getElem?_range hk]
  rfl
theorem list_ext_cf {a b : List F} (hl : a.length = b.length) (h : ∀ i, i < a.length → cf a i = cf b i) : a = b := by
  apply List.ext_getElem hl
  intro i h1 h2
  have h3 := h i h1
  unfold cf at h3
  rw [List.getD_eq_getElem?_getD, List.getD_eq_getElem?_getD, List.getElem?_eq_getElem h1, List.getElem?_eq_getElem h2] at h3
  exact h3
theorem addT_addT (t : List F) (n : Nat) (us : Nat → List F) : addT (addT t n us) n us = t := by
  refine list_ext_cf (by rw [addT_length, addT_length]) (fun i hi => ?_)
  rw [addT_length, addT_length] at hi
  rw [cf_addT _ _ _ _ (by rw [addT_length]; exact hi), cf_addT _ _ _ _ hi, F.add_assoc, F.add_self, F.add_zero]
structure Rnd where
  kind : Int
  dealers : List Nat
  target : Nat
  seen : List Nat
abbrev Ev := Nat → Nat → F
def rowE (cols : Nat) (q : Ev) (h : Nat) : List F := (List.range cols).map fun c => q c h
def sumE (q : Ev) (ds : List Ev) : Ev := fun c h => ds.foldl (fun a d => a + d c h) (q c h)
def ownE (h : Nat) : List Nat → List (List F) → List F
  | d :: ds, t :: ts => (if d = h then t else []) ++ ownE h ds ts
  | _, _ => []
def roundE (N cols : Nat) (r : Rnd) (q : Ev) (ds : List Ev) (ts : List (List F)) : List F :=
  (r.seen.flatMap fun h => rowE cols q h ++ (ds.flatMap fun d => rowE cols d h) ++ ownE h r.dealers ts ++ (if r.kind = 2 then rowE cols (sumE q ds) h else [])) ++
  ((List.range N).flatMap fun h => if r.kind = 4 ∨ (r.kind = 3 ∧ r.target ∈ r.seen ∧ h ≠ r.target) then rowE cols (sumE q ds) h else [])
theorem rowE_congr {cols : Nat} {q q' : Ev} {h : Nat} (e : ∀ c, c < cols → q c h = q' c h) : rowE cols q h = rowE cols q' h := by
  unfold rowE
  exact List.map_congr_left (fun c hc => e c (List.mem_range.1 hc))
theorem flatMap_congr' {α β : Type} {l : List α} {f g : α → List β} (h : ∀ a ∈ l, f a = g a) : l.flatMap f = l.flatMap g := by
  induction l with
  | nil => rfl
  | cons a l ih => rw [List.flatMap_cons, List.flatMap_cons, h a (List.mem_cons_self ..), ih (fun b hb => h b (List.mem_cons_of_mem _ hb))]
def dealtE (fac : F → F) (n : Nat) (pt : Nat → F) (t : List F) : Ev := fun c h => ev (chunk t n c) (pt h) * fac (pt h)
def turnTs (seen : List Nat) (n : Nat) (us : Nat → List F) : List Nat → List (List F) → List (List F)
  | x :: xs, t :: ts => if x ∈ seen then t :: turnTs seen n us xs ts else addT t n us :: ts
  | _, ts => ts
theorem turnTs_length (seen : List Nat) (n : Nat) (us : Nat → List F) : ∀ (xs : List Nat) (ts : List (List F)), (turnTs seen n us xs ts).length = ts.length
  | [], ts => by cases ts <;> rfl
  | x :: xs, [] => rfl
  | x :: xs, t :: ts => by
    unfold turnTs
    split
    · rw [List.length_cons, turnTs_length seen n us xs ts]; rfl
    · rfl
theorem turnTs_twice (seen : List Nat) (n : Nat) (us : Nat → List F) : ∀ (xs : List Nat) (ts : List (List F)), turnTs seen n us xs (turnTs seen n us xs ts) = ts
  | [], ts => by cases ts <;> rfl
  | x :: xs, [] => rfl
  | x :: xs, t :: ts => by
    by_cases h : x ∈ seen
    · have e : turnTs seen n us (x :: xs) (t :: ts) = t :: turnTs seen n us xs ts := by rw [turnTs, if_pos h]
      rw [e, turnTs, if_pos h, turnTs_twice seen n us xs ts]
    · have e : turnTs seen n us (x :: xs) (t :: ts) = addT t n us :: ts := by rw [turnTs, if_neg h]
      rw [e, turnTs, if_neg h, addT_addT]
theorem turnTs_lens (seen : List Nat) (n : Nat) (us : Nat → List F) : ∀ (xs : List Nat) (ts : List (List F)), (turnTs seen n us xs ts).map List.length = ts.map List.length
  | [], ts => by cases ts <;> rfl
  | x :: xs, [] => rfl
  | x :: xs, t :: ts => by
    unfold turnTs
    split
    · rw [List.map_cons, List.map_cons, turnTs_lens seen n us xs ts]
    · rw [List.map_cons, List.map_cons, addT_length]
theorem unseen : ∀ (l m : List Nat), l.Nodup → m.length < l.length → ∃ x ∈ l, x ∉ m
  | [], m, _, h => by simp at h
  | a :: l, m, hn, h => by
    obtain ⟨h1, h2⟩ := List.nodup_cons.1 hn
    by_cases ha : a ∈ m
    · obtain ⟨x, hx, hm⟩ := unseen l (m.erase a) h2 (by rw [List.length_erase_of_mem ha]; simp only [List.length_cons] at h; have := List.length_pos_of_mem ha; omega)
      refine ⟨x, List.mem_cons_of_mem _ hx, fun hm' => hm ?_⟩
      exact (List.mem_erase_of_ne (fun e => h1 (by rw [← e]; exact hx))).2 hm'
    · exact ⟨a, List.mem_cons_self .., ha⟩
section
variable (N cols : Nat) (fac : Rnd → F → F) (each : Rnd → Nat) (pt : Nat → F)
def lookE : List Rnd → Ev → List (List F) → List F
  | [], _, _ => []
  | r :: rs, q, ts => roundE N cols r q ((ts.take r.dealers.length).map (dealtE (fac r) (each r) pt)) (ts.take r.dealers.length) ++
    lookE rs (if r.kind = 2 then sumE q ((ts.take r.dealers.length).map (dealtE (fac r) (each r) pt)) else q) (ts.drop r.dealers.length)
def turnE (us : Nat → Rnd → Option (Nat → List F)) : List Rnd → Nat → List (List F) → List (List F)
  | [], _, _ => []
  | r :: rs, e, ts => (match us e r with | none => ts.take r.dealers.length | some u => turnTs r.seen (each r) u r.dealers (ts.take r.dealers.length)) ++ turnE us rs (if r.kind = 2 then e + 1 else e) (ts.drop r.dealers.length)
def TurnOk (δ : Nat → Ev) (us : Nat → Rnd → Option (Nat → List F)) : List Rnd → Nat → List (List F) → Prop
  | [], _, _ => True
  | r :: rs, e, ts => r.dealers.length ≤ ts.length ∧ (∀ t ∈ ts.take r.dealers.length, t.length = each r * cols) ∧ (∀ h ∈ r.seen, ∀ c, c < cols → δ e c h = 0) ∧ (r.kind = 2 → ∀ h ∈ r.seen, ∀ c, c < cols → δ (e + 1) c h = 0) ∧
    (match us e r with
      | none => r.kind = 0 ∨ (r.kind = 3 ∧ r.target ∉ r.seen)
      | some u => (r.kind = 2 ∨ r.kind = 3 ∨ r.kind = 4) ∧ (∃ x ∈ r.dealers, x ∉ r.seen) ∧ (∀ c, c < cols → ∀ i, each r ≤ i → cf (u c) i = 0) ∧ ∀ c h, c < cols → ev (u c) (pt h) * fac r (pt h) = if r.kind = 2 then δ e c h + δ (e + 1) c h else δ e c h) ∧
    TurnOk δ us rs (if r.kind = 2 then e + 1 else e) (ts.drop r.dealers.length)
end
def Fits : List Rnd → List (List F) → Prop
  | [], ts => ts = []
  | r :: rs, ts => r.dealers.length ≤ ts.length ∧ Fits rs (ts.drop r.dealers.length)
section
variable (each : Rnd → Nat) (us : Nat → Rnd → Option (Nat → List F))
theorem turn_now_len (r : Rnd) (e : Nat) {ts : List (List F)} (h : r.dealers.length ≤ ts.length) : (match us e r with | none => ts.take r.dealers.length | some u => turnTs r.seen (each r) u r.dealers (ts.take r.dealers.length)).length = r.dealers.length := by
  cases us e r with
  | none => simp only []; rw [List.length_take]; omega
  | some u => simp only []; rw [turnTs_length, List.length_take]; omega
theorem turnE_twice : ∀ (rs : List Rnd) (e : Nat) (ts : List (List F)), Fits rs ts → turnE each us rs e (turnE each us rs e ts) = ts
  | [], _, ts, h => by rw [show ts = [] from h]; rfl
  | r :: rs, e, ts, h => by
    obtain ⟨h1, h2⟩ := h
    have hn := turn_now_len each us r e h1
    rw [turnE]
    conv => lhs; rw [turnE]
    rw [List.take_left' hn, List.drop_left' hn, turnE_twice rs _ _ h2]
    cases us e r with
    | none => simp only []; exact List.take_append_drop _ _
    | some u => simp only []; rw [turnTs_twice]; exact List.take_append_drop _ _
theorem turnE_lens : ∀ (rs : List Rnd) (e : Nat) (ts : List (List F)), Fits rs ts → (turnE each us rs e ts).map List.length = ts.map List.length
  | [], _, ts, h => by rw [show ts = [] from h]; rfl
  | r :: rs, e, ts, h => by
    obtain ⟨h1, h2⟩ := h
    rw [turnE, List.map_append, turnE_lens rs _ _ h2]
    conv => rhs; rw [← List.take_append_drop r.dealers.length ts, List.map_append]
    congr 1
    cases us e r with
    | none => rfl
    | some u => exact turnTs_lens _ _ _ _ _
end
theorem quo_deg {p d q : List F} {low T : Nat} (hd0 : cf d low ≠ 0) (hd1 : ∀ i, low < i → cf d i = 0) (heq : ∀ i, cf p i = cf (mulP q d) i) (hdeg : ∀ i, low + T ≤ i → cf p i = 0) : ∀ i, T ≤ i → cf q i = 0 := by
  intro i hi
  rw [← cf_trim q i]
  by_cases h0 : trimP q = []
  · rw [h0]; rfl
  · by_cases hlt : i < (trimP q).length
    · exfalso
      obtain ⟨m, hm⟩ : ∃ m, m = (trimP q).length - 1 := ⟨_, rfl⟩
      have h1 := trim_last q h0
      rw [← hm] at h1
      have h2 := cf_mul_top q d m low (fun j hj => by rw [← cf_trim q j]; exact cf_ge _ _ (by omega)) hd1
      have h3 := heq (m + low)
      rw [hdeg (m + low) (by omega), h2, ← cf_trim q m] at h3
      rcases F.mul_eq_zero h3.symm with h | h
      · exact h1 h
      · exact hd0 h
    · exact cf_ge _ _ (by omega)
theorem div_exact {xs p d q r : List F} {T : Nat} (hu : Unl xs) (hd0 : cf d xs.length ≠ 0) (hd1 : ∀ i, xs.length < i → cf d i = 0) (hdx : ∀ x ∈ xs, ev d x = 0) (hp : ∀ x ∈ xs, ev p x = 0) (heq : ∀ i, cf p i = cf (mulP q d) i + cf r i) (hr : (trimP r).length ≤ xs.length) (hdeg : ∀ i, xs.length + T ≤ i → cf p i = 0) :
    (∀ x, ev p x = ev q x * ev d x) ∧ ∀ i, T ≤ i → cf q i = 0 := by
  have hev : ∀ x, ev p x = ev q x * ev d x + ev r x := fun x => by
    rw [← ev_mul, ← ev_add]
    exact ev_eqv _ _ (fun i => by rw [cf_add]; exact heq i) x
  have hr0 : ∀ i, cf r i = 0 := fun i => by
    rw [← cf_trim r i]
    refine few_roots xs.length (trimP r) xs (fun i hi => cf_ge _ _ (by omega)) hu (Nat.le_refl _) (fun x hx => ?_) i
    have h1 := hev x
    rw [hp x hx, hdx x hx, F.mul_zero, F.zero_add] at h1
    rw [ev_trim]
    exact h1.symm
  refine ⟨fun x => by rw [hev x, ev_nought hr0 x, F.add_zero], quo_deg hd0 hd1 (fun i => by rw [heq i, hr0 i, F.add_zero]) hdeg⟩
theorem roots_div {xs p q r : List F} {T : Nat} (hu : Unl xs) (hp : ∀ x ∈ xs, ev p x = 0) (heq : ∀ i, cf p i = cf (mulP q (roots xs)) i + cf r i) (hr : (trimP r).length ≤ xs.length) (hdeg : ∀ i, xs.length + T ≤ i → cf p i = 0) :
    (∀ x, ev p x = ev q x * ev (roots xs) x) ∧ ∀ i, T ≤ i → cf q i = 0 :=
  div_exact hu (by rw [(roots_top xs).1]; exact F.one_ne) (roots_top xs).2 (fun x hx => (ev_roots xs x).2 hx) hp heq hr hdeg
theorem lin_div {t : F} {p q r : List F} {T : Nat} (hp : ev p t = 0) (heq : ∀ i, cf p i = cf (mulP q (lin t)) i + cf r i) (hr : (trimP r).length ≤ 1) (hdeg : ∀ i, 1 + T ≤ i → cf p i = 0) :
    (∀ x, ev p x = ev q x * ev (lin t) x) ∧ ∀ i, T ≤ i → cf q i = 0 :=
  div_exact (xs := [t]) (List.nodup_cons.2 ⟨by simp, List.nodup_nil⟩) F.one_ne (fun i hi => cf_ge _ _ (by simp only [List.length_singleton] at hi; simp only [lin, List.length_cons, List.length_nil]; omega)) (fun x hx => by rw [List.mem_singleton.1 hx, ev_lin, F.add_self]) (fun x hx => by rw [List.mem_singleton.1 hx]; exact hp) heq hr hdeg
theorem one_div {p q r : List F} {T : Nat} (heq : ∀ i, cf p i = cf (mulP q [1]) i + cf r i) (hr : (trimP r).length ≤ 0) (hdeg : ∀ i, T ≤ i → cf p i = 0) :
    (∀ x, ev p x = ev q x * ev [1] x) ∧ ∀ i, T ≤ i → cf q i = 0 :=
  div_exact (xs := []) List.nodup_nil F.one_ne (fun i hi => cf_ge _ _ (by simp only [List.length_nil] at hi; simp only [List.length_cons, List.length_nil]; omega)) (fun x hx => by cases hx) (fun x hx => by cases hx) heq hr (fun i hi => hdeg i (by simpa using hi))
theorem differ_at {xs zs ys s : List F} {n : Nat} (h : Thru (xs ++ zs) (ys ++ List.replicate n 0) s) (hl : ys.length = xs.length) (hn : n = zs.length) : (∀ i, i < xs.length → ev s (xs.getD i 0) = ys.getD i 0) ∧ (∀ z ∈ zs, ev s z = 0) ∧ ∀ i, xs.length + zs.length ≤ i → cf s i = 0 := by
  obtain ⟨_, h2, h3⟩ := h
  rw [List.length_append] at h2 h3
  refine ⟨fun i hi => ?_, fun z hz => ?_, fun i hi => cf_ge _ _ (by omega)⟩
  · have h4 := h3 i (by omega)
    rw [List.getD_eq_getElem?_getD, List.getElem?_append_left hi, ← List.getD_eq_getElem?_getD, List.getD_eq_getElem?_getD (l := ys ++ _), List.getElem?_append_left (by omega), ← List.getD_eq_getElem?_getD] at h4
    exact h4
  · obtain ⟨i, hi, rfl⟩ := mem_getD hz
    have h4 := h3 (xs.length + i) (by omega)
    rw [List.getD_eq_getElem?_getD, List.getElem?_append_right (by omega), Nat.add_sub_cancel_left, ← List.getD_eq_getElem?_getD, List.getD_eq_getElem?_getD (l := ys ++ _), List.getElem?_append_right (by omega), List.getElem?_replicate] at h4
    rw [h4]
    split <;> rfl
end Go.Proofs.Ytpeiejkcoadhfaa

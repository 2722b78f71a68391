/- How an argument that can be read is opened: its kind's word 'K' holds of its cells, its numbers fit, and its bulk bounds it. -/
import Derived.Test.YtbkhoepoeaiccaaDoorRows
import Derived.Test.YtbkhoepoeaiccaaDoorBase
import Derived.ProofKit
import Derived.OpenShut
import Derived.ChangeOld
import Derived.Deep.Slices
namespace Go.Proofs.YtbkhoepoeaiccaaDoor
open Go.RowKit Go.ChangeShapes Go.WideShapes Go.Proofs.YtbkhoepoeaiccaaDoorW.PrintWords

theorem bulk_one {H : Type} (d : DataW H) : 1 ≤ Rows.uptoBulk d := by
  cases d with
  | lit l => cases l <;> simp [Rows.uptoBulk]
  | nil => simp [Rows.uptoBulk]
  | ptr d => simp [Rows.uptoBulk]
  | slice elems spare => simp [Rows.uptoBulk]
  | agg parts => simp [Rows.uptoBulk]
  | iface t d => simp [Rows.uptoBulk]
  | map entries => simp [Rows.uptoBulk]
  | held h => simp [Rows.uptoBulk]
theorem bulk_bound {H : Type} {l : List (DataW H)} (hk : Rows.uptoSmall H l = true) : Rows.uptoBulkAll l ≤ 1048576 := of_decide_eq_true hk

/-- A value of type t that can be read is of kind d: its numbers fit (wf), its bulk is at least mu. -/
def Opens (P : Program) {α : Type} (d : Kd α) (t : TypeId) (wf : α → Prop) (mu : α → Nat) : Prop :=
  d.sz = P.cellsOf t ∧ ∀ (H : Type) (enc : TypeId × Value → H) (W : World) (base : Nat) (spare : Nat → Bool) (held : Bool) (fuel : Nat) (cs : List Value) (x : DataW H × List MemPlace),
    DataW.trod enc P W base spare held fuel t cs = some x → ∃ a : α, d.K W a cs ∧ wf a ∧ mu a ≤ Rows.uptoBulk x.1

section
variable {P : Program}
theorem opens_int (t : TypeId) (k : IntKind) (ht : P.underlying t = some (.int k)) (hc : P.cellsOf t = 1) : Opens P (Kd.int k) t (fun x => (Lit.int k x).wf = true) (fun _ => 1) := by
  refine ⟨hc.symm, fun H enc W base spare held fuel cs x h => ?_⟩
  obtain ⟨n, rfl, rfl, hw⟩ := DataW.trod_int ht h
  exact ⟨n, rfl, hw, bulk_one _⟩

theorem opens_string (t : TypeId) (ht : P.underlying t = some .string) (hc : P.cellsOf t = 1) : Opens P Kd.string t (fun s => s.size ≤ maxLen) (fun s => s.size + 1) := by
  refine ⟨hc.symm, fun H enc W base spare held fuel cs x h => ?_⟩
  obtain ⟨s, rfl, rfl, hw⟩ := DataW.trod_string ht h
  refine ⟨s, rfl, hw, ?_⟩
  simp only [Rows.uptoBulk, Array.length_toList]
  exact Nat.le_refl _

theorem bulkAll_sum {H : Type} {α : Type} (mu : α → Nat) : ∀ (l : List α) (D : List (DataW H)), l.length = D.length → (∀ (i : Nat) (a : α) (x : DataW H), l[i]? = some a → D[i]? = some x → mu a ≤ Rows.uptoBulk x) → (l.map mu).sum ≤ Rows.uptoBulkAll D
  | [], [], _, _ => by simp [Rows.uptoBulkAll]
  | a :: l, x :: D, hl, h => by
    have h0 := h 0 a x rfl rfl
    have h1 := bulkAll_sum mu l D (by simpa using hl) (fun i b y hb hy => h (i + 1) b y (by simpa using hb) (by simpa using hy))
    simp only [List.map_cons, List.sum_cons, Rows.uptoBulkAll]
    omega
  | [], _ :: _, hl, _ => by simp at hl
  | _ :: _, [], hl, _ => by simp at hl

theorem listOf {α : Type} (n : Nat) (p : Nat → α → Prop) (h : ∀ i, i < n → ∃ a, p i a) : ∃ l : List α, l.length = n ∧ ∀ (i : Nat) (a : α), l[i]? = some a → p i a := by
  induction n with
  | zero => exact ⟨[], rfl, fun i a ha => by simp at ha⟩
  | succ n ih =>
    obtain ⟨l, hl, hp⟩ := ih (fun i hi => h i (by omega))
    obtain ⟨a, ha⟩ := h n (by omega)
    refine ⟨l ++ [a], by simp [hl], fun i b hb => ?_⟩
    rcases Nat.lt_or_ge i n with hi | hi
    · rw [List.getElem?_append_left (by omega)] at hb
      exact hp i b hb
    · rw [List.getElem?_append_right (by omega)] at hb
      rcases Nat.eq_or_lt_of_le hi with he | he
      · subst he
        rw [hl, Nat.sub_self] at hb
        have : a = b := by simpa using hb
        subst this; exact ha
      · rw [List.getElem?_eq_none (by simp; omega)] at hb
        cases hb

/-- A slice: its elements, those up to its length. -/
theorem opens_slice {α : Type} {d : Kd α} {e : Nat} {wf : α → Prop} {mu : α → Nat} (t : TypeId) (ht : P.underlying t = some (.slice e)) (hc : P.cellsOf t = 1) (he : Opens P d e wf mu) :
    Opens P (Kd.slice e d) t (fun l => ∀ a ∈ l, wf a) (fun l => (l.map mu).sum + 1) := by
  refine ⟨hc.symm, fun H enc W base spare held fuel cs x h => ?_⟩
  rcases Go.Deep.open_slice ht h with ⟨rfl, rfl⟩ | ⟨a, len, cap, m, n, D, Pl, rfl, _, hl, hm, hmm, rfl, hi⟩
  · refine ⟨[], ⟨none, 0, rfl, Nat.le_refl _, rfl, Nat.zero_le _, fun h => absurd h (by simp)⟩, fun a ha => (by cases ha), by simp [Rows.uptoBulk]⟩
  · have hlm : len ≤ m := by rw [hmm]; split <;> omega
    obtain ⟨l, hll, hp⟩ := listOf len (fun i (b : α) => ∃ cs', W.cells? base (a.add (i * P.cellsOf e)) (P.cellsOf e) = some cs' ∧ d.K W b cs' ∧ wf b ∧ mu b ≤ Rows.uptoBulk (D i)) (fun i hlt => by
      obtain ⟨cs', h1, h2⟩ := hi i (by omega)
      obtain ⟨b, h3, h4, h5⟩ := he.2 H enc W base spare held n cs' _ h2
      exact ⟨b, cs', h1, h3, h4, h5⟩)
    refine ⟨l, ⟨some a, cap, by rw [hll], by omega, ?_⟩, fun b hb => ?_, ?_⟩
    · refine ⟨rfl, by rw [hll]; simp only [maxLen] at hm; omega, fun _ => ⟨a, rfl, fun j p hj => ?_⟩⟩
      obtain ⟨cs', h1, h2, _, _⟩ := hp j p hj
      obtain ⟨_, hlen, hat⟩ := World.cells?_some h1
      refine ⟨cs', by rw [hlen, he.1], h2, fun i u hu => ?_⟩
      have hil : i < P.cellsOf e := by have := (List.getElem?_eq_some_iff.1 hu).1; omega
      rw [he.1, ← Go.Deep.add_add, hat i hil, hu]
    · obtain ⟨i, hb⟩ := List.getElem?_of_mem hb
      obtain ⟨cs', _, _, h3, _⟩ := hp i b hb
      exact h3
    · have := bulkAll_sum (H := H) mu l ((List.range len).map D) (by simp [hll]) (fun i b y hb hy => by
        obtain ⟨cs', _, _, _, h4⟩ := hp i b hb
        have hlt : i < len := by have := (List.getElem?_eq_some_iff.1 hb).1; omega
        rw [List.getElem?_map, List.getElem?_range hlt] at hy
        have : D i = y := by simpa using hy
        rw [← this]; exact h4)
      simp only [Rows.uptoBulk]
      omega

/-- Fields that lie one behind the other. -/
def OpensF (P : Program) {α : Type} (d : Kd α) (fs : List Field) (off : Nat) (wf : α → Prop) (mu : α → Nat) : Prop :=
  ∀ (H : Type) (enc : TypeId × Value → H) (W : World) (base : Nat) (spare : Nat → Bool) (held : Bool) (fuel : Nat) (cs : List Value) (xs : List (DataW H × List MemPlace)), xs.length = fs.length → off + d.sz ≤ cs.length →
    (∀ (i : Nat) (f : Field), fs[i]? = some f → DataW.trod enc P W base spare held fuel f.type ((cs.drop f.offset).take (P.cellsOf f.type)) = xs[i]?) → ∃ a : α, d.K W a ((cs.drop off).take d.sz) ∧ wf a ∧ mu a ≤ Rows.uptoBulkAll (xs.map (·.1))
theorem opensF_one {α : Type} {d : Kd α} {wf : α → Prop} {mu : α → Nat} (f : Field) (off : Nat) (ho : f.offset = off) (h : Opens P d f.type wf mu) : OpensF P d [f] off wf mu := by
  intro H enc W base spare held fuel cs xs hl hlen hx
  match xs, hl with
  | [x], _ =>
    have h0 := hx 0 f rfl
    rw [ho, ← h.1] at h0
    obtain ⟨a, h1, h2, h3⟩ := h.2 H enc W base spare held fuel _ x h0
    exact ⟨a, h1, h2, by simp only [List.map_cons, List.map_nil, Rows.uptoBulkAll]; omega⟩
theorem opensF_cons {α β : Type} {d : Kd α} {d' : Kd β} {wf : α → Prop} {mu : α → Nat} {wf' : β → Prop} {mu' : β → Nat} (f : Field) (fs : List Field) (off : Nat) (ho : f.offset = off) (h : Opens P d f.type wf mu) (h' : OpensF P d' fs (off + d.sz) wf' mu') :
    OpensF P (Kd.pair d d') (f :: fs) off (fun p => wf p.1 ∧ wf' p.2) (fun p => mu p.1 + mu' p.2) := by
  intro H enc W base spare held fuel cs xs hl hlen hx
  match xs, hl with
  | x :: xs, hl =>
    have hsz : (Kd.pair d d').sz = d.sz + d'.sz := rfl
    rw [hsz] at hlen
    have h0 := hx 0 f rfl
    rw [ho, ← h.1] at h0
    obtain ⟨a, h1, h2, h3⟩ := h.2 H enc W base spare held fuel _ x h0
    obtain ⟨b, k1, k2, k3⟩ := h' H enc W base spare held fuel cs xs (by simpa using hl) (by omega) (fun i g hg => by have := hx (i + 1) g (by simpa using hg); simpa using this)
    refine ⟨(a, b), ⟨_, _, ?_, h1, k1⟩, ⟨h2, k2⟩, by simp only [List.map_cons, Rows.uptoBulkAll]; omega⟩
    rw [hsz, List.take_add, List.drop_drop]
theorem opens_struct {α β : Type} {d : Kd α} {wf : α → Prop} {mu : α → Nat} (t : TypeId) (fs : Array Field) (ht : P.underlying t = some (.struct fs)) (hc : P.cellsOf t = d.sz) (h : OpensF P d fs.toList 0 wf mu) (f : β → α) (g : α → β) (hfg : ∀ a, f (g a) = a) :
    Opens P (Kd.iso d f) t (fun b => wf (f b)) (fun b => mu (f b) + 1) := by
  refine ⟨hc.symm, fun H enc W base spare held fuel cs x hx => ?_⟩
  obtain ⟨xs, n, rfl, rfl, hl, hxl, hat⟩ := DataW.trod_struct ht hx
  obtain ⟨a, h1, h2, h3⟩ := h H enc W base spare held n cs xs (by simpa using hxl) (by omega) (fun i g hg => hat i g (by simpa using hg))
  refine ⟨g a, ?_, by show wf (f (g a)); rw [hfg]; exact h2, ?_⟩
  · show d.K W (f (g a)) cs
    rw [hfg]
    rwa [List.drop_zero, List.take_of_length_le (by omega)] at h1
  · show mu (f (g a)) + 1 ≤ _
    rw [hfg]
    simp only [Rows.uptoBulk]
    omega
theorem arg_slice {H : Type} {enc : TypeId × Value → H} {W : World} {base : Nat} {spare : Nat → Bool} {held : Bool} {α : Type} {d : Kd α} {e t : Nat} {wf : List α → Prop} {mu : List α → Nat} {a : Option Addr} {len cap : Nat} {dd : DataW H} {p : List MemPlace}
    (ho : Opens P (Kd.slice e d) t wf mu) (h : DataW.Trod enc P W base spare held t (.slice a len cap) dd p) : ∃ l : List α, l.length = len ∧ d.C W a len l ∧ len ≤ cap ∧ wf l ∧ mu l ≤ Rows.uptoBulk dd := by
  obtain ⟨fuel, hf⟩ := h
  obtain ⟨l, ⟨A, c, hv, hle, hC⟩, hw, hm⟩ := ho.2 H enc W base spare held fuel _ _ hf
  have hv' : [Value.slice a len cap] = [.slice A l.length c] := hv
  injection hv' with hv' _
  injection hv' with h1 h2 h3
  subst h1; subst h2; subst h3
  exact ⟨l, rfl, hC, hle, hw, hm⟩
theorem arg_agg {H : Type} {enc : TypeId × Value → H} {W : World} {base : Nat} {spare : Nat → Bool} {held : Bool} {α : Type} {d : Kd α} {t : Nat} {wf : α → Prop} {mu : α → Nat} {cs : Array Value} {dd : DataW H} {p : List MemPlace}
    (ho : Opens P d t wf mu) (h : DataW.Trod enc P W base spare held t (.agg cs) dd p) : ∃ a : α, d.K W a cs.toList ∧ wf a ∧ mu a ≤ Rows.uptoBulk dd := by
  obtain ⟨fuel, hf⟩ := h
  obtain ⟨a, hK, hw, hm⟩ := ho.2 H enc W base spare held fuel _ _ hf
  exact ⟨a, hK, hw, hm⟩
end
end Go.Proofs.YtbkhoepoeaiccaaDoor

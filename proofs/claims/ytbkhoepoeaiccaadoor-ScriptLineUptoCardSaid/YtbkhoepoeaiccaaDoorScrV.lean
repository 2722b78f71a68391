/- What the row's list gives: the library's state (Env); how the arguments are opened; the plain card's parts. -/
import Derived.Test.YtbkhoepoeaiccaaDoorScrU
import Derived.Test.YtbkhoepoeaiccaaDoorOpen
import Derived.Stop.LaidErr
import Derived.Lib.LaidTab
import Derived.Lib.LaidIn
import Derived.LaidSub
namespace Go.Proofs.YtbkhoepoeaiccaaDoor
open Go.RowKit Go.ChangeShapes Go.WideShapes Go.Shelf Go.Proofs.YtbkhoepoeaiccaaDoorW.PrintWords Go.Proofs.YtbkhoepoeaiccaaDoor.PScriptReads

theorem gPow : Tryd.prog.globalNamed "internal/strconv.uint64pow10" = some 3 := by kernel_rfl
theorem gSyn : Tryd.prog.globalNamed "strconv.ErrSyntax" = some 1 := by kernel_rfl
theorem gRng : Tryd.prog.globalNamed "strconv.ErrRange" = some 2 := by kernel_rfl
theorem gPowT : (Tryd.prog.globals[3]?).map (·.type) = some 99 := by kernel_rfl
theorem gSynT : (Tryd.prog.globals[1]?).map (·.type) = some 43 := by kernel_rfl
theorem gRngT : (Tryd.prog.globals[2]?).map (·.type) = some 43 := by kernel_rfl
theorem cells99 : Tryd.prog.cellsOf 99 = 20 := by kernel_rfl
theorem cells2 : Tryd.prog.cellsOf 61 = 1 := by kernel_rfl
theorem cells106 : Tryd.prog.cellsOf 106 = 1 := by kernel_rfl
theorem cells9 : Tryd.prog.cellsOf 9 = 1 := by kernel_rfl
theorem errName : "*" ++ "errors.errorString" = "*errors.errorString" := by decide
theorem row104 (u : TypeId) (h : Tryd.prog.typeName? 3 u = some "*errors.errorString") : u = 104 :=
  typeName_ptr_named (nm := "errors.errorString") (by rw [errName]; kernel_rfl) (by kernel_rfl) (by decide) u (by rw [errName]; exact h)
abbrev laidL : List (String × DataW Unit) := [("math/bits.deBruijn32tab", Rows.laid_math_bits_deBruijn32tab), ("math/bits.deBruijn64tab", Rows.laid_math_bits_deBruijn64tab), ("internal/strconv.uint64pow10", Rows.laid_internal_strconv_uint64pow10), ("unicode/utf8.acceptRanges", Rows.laid_unicode_utf8_acceptRanges), ("strconv.ErrRange", Rows.laid_strconv_ErrRange), ("strconv.ErrSyntax", Rows.laid_strconv_ErrSyntax), ("unicode/utf8.first", Rows.laid_unicode_utf8_first)]
/-- What the row's list, and the world's shape, give. -/
theorem Env_of {W : World} (h : laidMet Tryd.prog laidL W) (hs : W.ShapedOpen Tryd.prog) : Env W := by
  refine ⟨Tryd.laysM146.s1_3 W hs, Lib.tabIs_of_head gPow gPowT Tryd.underlying99 Tryd.underlying61 cells2 cells99 h.tail.tail, ?_, ?_⟩
  · obtain ⟨a, s, h1, _⟩ := laid_sentinel h.tail.tail.tail.tail.tail gSyn gSynT Tryd.underlying43 row104 Tryd.underlying104 Tryd.underlying106 rfl rfl Tryd.underlying9 cells106 cells9
    exact ⟨_, _, h1⟩
  · obtain ⟨a, s, h1, _⟩ := laid_sentinel h.tail.tail.tail.tail gRng gRngT Tryd.underlying43 row104 Tryd.underlying104 Tryd.underlying106 rfl rfl Tryd.underlying9 cells106 cells9
    exact ⟨_, _, h1⟩
/-! ### A world for the witness -/
def valOne : DataW Unit → List Value
  | .lit (.int k z) => [.int k z]
  | _ => []
def valTwo : DataW Unit → List Value
  | .agg l => l.flatMap valOne
  | d => valOne d
def valTab : DataW Unit → List Value
  | .agg l => l.flatMap valTwo
  | _ => []
noncomputable def lowW : Nat := (World.holding Tryd.prog default ⟨#[], #[], []⟩).heap.size
noncomputable def laidWorld (os : Os) : World :=
  let w0 := World.holding Tryd.prog os ⟨#[.cells #[.string ⟨#[118, 97, 108, 117, 101, 32, 111, 117, 116, 32, 111, 102, 32, 114, 97, 110, 103, 101]⟩] 106, .cells #[.string ⟨#[105, 110, 118, 97, 108, 105, 100, 32, 115, 121, 110, 116, 97, 120]⟩] 106], #[], []⟩
  let put (h : Array Obj) (g : Nat) (cs : Array Value) : Array Obj := h.modify g fun
    | .cells _ t frozen => .cells cs t frozen
    | o => o
  let h1 := put w0.heap 6 (valTab Rows.laid_math_bits_deBruijn32tab).toArray
  let h2 := put h1 7 (valTab Rows.laid_math_bits_deBruijn64tab).toArray
  let h3 := put h2 3 (valTab Rows.laid_internal_strconv_uint64pow10).toArray
  let h4 := put h3 5 (valTab Rows.laid_unicode_utf8_acceptRanges).toArray
  let h5 := put h4 4 (valTab Rows.laid_unicode_utf8_first).toArray
  let h6 := put h5 2 #[.iface 104 (.pointer (some ⟨lowW, 0, none⟩))]
  let h7 := put h6 1 #[.iface 104 (.pointer (some ⟨lowW + 1, 0, none⟩))]
  { w0 with heap := h7 }
set_option maxRecDepth 100000 in
theorem laid_met (os : Os) (args : Array Value) : laidMet Tryd.prog laidL ((laidWorld os).forCall (fun _ _ => 0) ⟨#[], args, []⟩).memory :=
  (LaidIn.of_run (l := laidL) [1, 2, 3, 4, 5, 6, 7, lowW, lowW + 1] 8 (by kernel_rfl) (by kernel_rfl) (by kernel_rfl) (by kernel_rfl)).met

/-! ### How the arguments are opened -/
theorem opens_u8 : Opens Tryd.prog (Kd.int .u8) 5 (fun x => (Lit.int .u8 x).wf = true) (fun _ => 1) := opens_int 5 .u8 Tryd.underlying5 (by kernel_rfl)
theorem opens_i64 : Opens Tryd.prog (Kd.int .i64) 3 (fun x => (Lit.int .i64 x).wf = true) (fun _ => 1) := opens_int 3 .i64 Tryd.underlying3 (by kernel_rfl)
theorem opens_str : Opens Tryd.prog Kd.string 9 (fun s => s.size ≤ maxLen) (fun s => s.size + 1) := opens_string 9 Tryd.underlying9 (by kernel_rfl)
theorem opens_bytes : Opens Tryd.prog (Kd.slice 5 (Kd.int .u8)) 31 (fun l => ∀ a ∈ l, (Lit.int .u8 a).wf = true) (fun l => (l.map fun _ => 1).sum + 1) := opens_slice 31 Tryd.underlying31 (by kernel_rfl) opens_u8
def wf33 (x : S33) : Prop := (Lit.int .i64 x.f0).wf = true ∧ (Lit.int .i64 x.f1).wf = true ∧ (Lit.int .i64 x.f2).wf = true ∧ (Lit.int .i64 x.f3).wf = true ∧ x.f4.size ≤ maxLen ∧ ∀ a ∈ x.f5, (Lit.int .u8 a).wf = true
def mu33 (x : S33) : Nat := 1 + (1 + (1 + (1 + ((x.f4.size + 1) + ((x.f5.map fun _ => 1).sum + 1))))) + 1
theorem opens_step : Opens Tryd.prog k33 33 wf33 mu33 :=
  opens_struct 33 _ Tryd.underlying33 (by kernel_rfl) (opensF_cons _ _ 0 rfl opens_i64 (opensF_cons _ _ 1 rfl opens_i64 (opensF_cons _ _ 2 rfl opens_i64 (opensF_cons _ _ 3 rfl opens_i64 (opensF_cons _ _ 4 rfl opens_str (opensF_one _ 5 rfl opens_bytes)))))) (fun x : S33 => (x.f0, x.f1, x.f2, x.f3, x.f4, x.f5)) (fun p => ⟨p.1, p.2.1, p.2.2.1, p.2.2.2.1, p.2.2.2.2.1, p.2.2.2.2.2⟩) (fun _ => rfl)
theorem opens_steps : Opens Tryd.prog (Kd.slice 33 k33) 22 (fun l => ∀ x ∈ l, wf33 x) (fun l => (l.map mu33).sum + 1) := opens_slice 22 Tryd.underlying22 (by kernel_rfl) opens_step
theorem sum_ones {α : Type} (l : List α) : (l.map fun _ => 1).sum = l.length := by
  induction l with
  | nil => rfl
  | cons a l ih => rw [List.map_cons, List.sum_cons, ih, List.length_cons]; omega
theorem bytes_bl (l : List Int) (h : ∀ a ∈ l, (Lit.int .u8 a).wf = true) : ∃ p : List UInt8, bl p = l := by
  induction l with
  | nil => exact ⟨[], rfl⟩
  | cons a l ih =>
    obtain ⟨p, hp⟩ := ih (fun b hb => h b (List.mem_cons_of_mem _ hb))
    have h1 : 0 ≤ a ∧ a ≤ 255 := by simpa [Lit.wf, IntKind.min, IntKind.max, IntKind.signed, IntKind.bits] using h a (List.mem_cons_self ..)
    refine ⟨UInt8.ofNat a.toNat :: p, ?_⟩
    show ((UInt8.ofNat a.toNat).toNat : Int) :: bl p = a :: l
    rw [hp, UInt8.toNat_ofNat', Nat.mod_eq_of_lt (by omega)]
    congr 1
    omega
theorem i64_wf {a : Int} (h : (Lit.int .i64 a).wf = true) : I64 a := by
  have h1 : -9223372036854775808 ≤ a ∧ a ≤ 9223372036854775807 := by simpa [Lit.wf, IntKind.min, IntKind.max, IntKind.signed, IntKind.bits] using h
  exact h1
/-- The steps that were read. -/
theorem steps_of (l : List S33) (h : ∀ x ∈ l, wf33 x) : ∃ m : List St, m.map toS = l ∧ AllWf m ∧ (printL m).length ≤ 15 * (l.map mu33).sum := by
  induction l with
  | nil => exact ⟨[], rfl, fun x hx => (by cases hx), Nat.le_refl _⟩
  | cons x l ih =>
    obtain ⟨m, hm, hw, hl⟩ := ih (fun b hb => h b (List.mem_cons_of_mem _ hb))
    obtain ⟨h0, h1, h2, h3, h4, h5⟩ := h x (List.mem_cons_self ..)
    obtain ⟨p, hp⟩ := bytes_bl x.f5 h5
    have hxw : St.wf ⟨x.f0, x.f1, x.f2, x.f3, x.f4.data.toList, p⟩ := ⟨i64_wf h0, i64_wf h1, i64_wf h2, i64_wf h3⟩
    refine ⟨⟨x.f0, x.f1, x.f2, x.f3, x.f4.data.toList, p⟩ :: m, ?_, ?_, ?_⟩
    · rw [List.map_cons, hm]
      congr 1
      obtain ⟨f0, f1, f2, f3, ⟨⟨f4⟩⟩, f5⟩ := x
      unfold toS
      simp only at hp ⊢
      rw [hp]
    · intro y hy
      rcases List.mem_cons.1 hy with e | e
      · rw [e]; exact hxw
      · exact hw y e
    · rw [printL_cons, List.length_append, List.map_cons, List.sum_cons, List.length_cons]
      have hb := bare_len _ hxw
      have hps : p.length = x.f5.length := by rw [← hp, bl_length]
      have h4s : x.f4.data.toList.length = x.f4.size := by rw [Array.length_toList]; rfl
      simp only at hb
      have hmu : mu33 x = x.f4.size + x.f5.length + 7 := by
        unfold mu33
        rw [sum_ones]
        omega
      omega
end Go.Proofs.YtbkhoepoeaiccaaDoor

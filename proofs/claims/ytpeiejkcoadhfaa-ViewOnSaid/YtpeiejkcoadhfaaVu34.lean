/- What the view's laws take, Vu34: VwAP. -/
import Derived.Test.YtpeiejkcoadhfaaVu22
import Derived.Test.YtpeiejkcoadhfaaVu23
import Derived.Test.YtpeiejkcoadhfaaVu26
set_option linter.all false
namespace Go.Proofs.Ytpeiejkcoadhfaa
def ofS (s : PViewEmpty.S90) : Ri := ⟨s.f0, s.f1, s.f2, s.f3⟩
theorem zjl (l : List PViewEmpty.S90) : (l.map ofS).map toS = l := by
 rw [List.map_map]
 exact List.map_id'' (fun _ => rfl) l
theorem znI (l : List Ri) : (l.map toS).map ofS = l := by
 rw [List.map_map]
 exact List.map_id'' (fun _ => rfl) l
def znx (N : Int) (rs : List Ri) : Prop := (-9223372036854775808 ≤ N ∧ N ≤ 9223372036854775807) ∧ rs.length ≤ 9223372036854775807 ∧ ∀ r ∈ rs, r.ds.length ≤ 9223372036854775807 ∧ r.sn.length ≤ 9223372036854775807
instance (N : Int) (rs : List Ri) : Decidable (znx N rs) := by unfold znx; infer_instance
namespace PViewEmpty
open Go.RowKit Go.Proofs.YtpeiejkcoadhfaaW.PrintWords Go.Proofs.YtpeiejkcoadhfaaW.PrintLast Go.Proofs.YtpeiejkcoadhfaaW.PrintMore
def shamrockref24_May.f (_k : Nat) (a0_0 a0_1 a0_2 a0_3 a0_4 a1 : Int) (l2 : List S90) : Option Bool :=
 if znx a0_0 (l2.map ofS) then some (decide (zbR a0_0 a0_1 a0_2 a0_3 a0_4 a1 (l2.map ofS))) else none
theorem shamrockref24_May.calls (k : Nat) (a0_0 : Int) (a0_1 : Int) (a0_2 : Int) (a0_3 : Int) (a0_4 : Int) (a1 : Int) (A2 : Option Addr) (c2 : Nat) (l2 : List (S90)) (r : Bool) (w : World) (hr2 : Kd.C k90 w A2 l2.length l2) (hc2 : l2.length ≤ c2) (h : shamrockref24_May.f k a0_0 a0_1 a0_2 a0_3 a0_4 a1 l2 = some r) :
 Calls Try.prog 66 #[.agg #[.int .i64 a0_0, .int .i64 a0_1, .int .i64 a0_2, .int .i64 a0_3, .int .i64 a0_4], .int .i64 a1, .slice A2 l2.length c2] w fun e w' => e = .returned (.bool r) ∧ Below w.heap.size w w' := by
 unfold shamrockref24_May.f at h
 by_cases hg : znx a0_0 (l2.map ofS)
 ·rw [if_pos hg] at h
  injection h with h
  subst h
  refine zlq w a0_0 a0_1 a0_2 a0_3 a0_4 a1 A2 l2.length c2 (l2.map ofS) ?_ ?_ hg.2.2 hg.1
  ·unfold RL
   rw [zjl]
   exact hr2
  have := hg.2.1
  rwa [List.length_map] at this
 rw [if_neg hg] at h
 cases h
end PViewEmpty
theorem zlQ (N T K E Rm size : Int) (rs : List Ri) (hrl : rs.length ≤ 9223372036854775807) (hsm : ∀ r ∈ rs, r.ds.length ≤ 9223372036854775807 ∧ r.sn.length ≤ 9223372036854775807) (hN : -9223372036854775808 ≤ N ∧ N ≤ 9223372036854775807) : Evt fun k => PViewEmpty.shamrockref24_May.f k N T K E Rm size (rs.map toS) = some (decide (zbR N T K E Rm size rs)) :=
 ⟨0, fun k _ => by
   unfold PViewEmpty.shamrockref24_May.f
   rw [znI, if_pos ⟨hN, hrl, hsm⟩]⟩
end Go.Proofs.Ytpeiejkcoadhfaa

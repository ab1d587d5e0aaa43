/- What this text proves: within a region that draws its order, the condition on the world under which loads are taken first may be made stronger on the way. No conditions. -/
import Derived.Test.YtfpbkofjbnmkeaaBase
import Derived.Deep.RegionHeld3
import Derived.Laws.Tables
namespace Go.Proofs.Ytfpbkofjbnmkeaa
open Go

theorem wpAnyH_more {P : Program} {ops : Array Oper} {Q : Exit → Act → World → Prop} {md : Region.Mode} {S T : World → Prop} (hST : ∀ w, T w → S w) :
    ∀ (fuel : Nat) (listed : Array Bool) (a : Act) (w : World), wpAnyH P md ops Q T fuel listed a w → wpAnyH P md ops Q S fuel listed a w := by
  intro fuel
  induction fuel with
  | zero => intro listed a w h; exact h
  | succ fuel ih =>
    intro listed a w h
    exact ⟨h.1, fun i hi => wpOp_mono (fun a' w' hh => ⟨hST _ hh.1, ih _ _ _ hh.2⟩) (h.2 i hi)⟩
/-- from here on T is held, which says more. -/
theorem held_more {P : Program} {ops : Array Oper} {Q : Exit → Act → World → Prop} {md : Region.Mode} {S : World → Prop} {fuel : Nat} {listed : Array Bool} {a : Act} {w : World} (T : World → Prop) (hT : T w) (hST : ∀ w, T w → S w)
    (h : T w → wpAnyH P md ops Q T fuel listed a w) : wpAnyH P md ops Q S fuel listed a w := wpAnyH_more hST _ _ _ _ (h hT)
/-- an operation that yields v wherever S holds goes first. -/
theorem held_on {P : Program} {ops : Array Oper} {Q : Exit → Act → World → Prop} {md : Region.Mode} {S : World → Prop} (i : Nat) {v : Value} {fuel : Nat} {listed : Array Bool} {a : Act} {w : World} {dst : Option Tmp} {op : Op} {type : TypeId} {pos : String} {after : Array Edge} {guard : Option (Nat × Bool)}
    (hi : ops[i]? = some ⟨dst, op, type, pos, after, guard⟩)
    (hs : (Region.noSelect ops && Region.free md ops listed i && (Region.ready md ops listed).contains i) = true)
    (hQ : ∀ c a w, Q (.panic c) (a.put dst v) w → Q (.panic c) a w)
    (hw : Region.wanted ⟨dst, op, type, pos, after, guard⟩ (yielded ops a.tmps) = true) (hS : S w)
    (hy : ∀ w, S w → (execOp a.eval ⟨dst, op, type, pos, after, guard⟩).run P w = .ok (.value v) w)
    (h : wpAnyH P md ops Q S fuel (listed.setIfInBounds i true) (a.put dst v) w) : wpAnyH P md ops Q S (fuel + 1) listed a w := by
  simp only [Bool.and_eq_true] at hs
  exact wpAnyH_take hi hs.1.1 hs.1.2 hs.2 hQ (.inl ⟨hw, hy⟩) hS h
/-- an operation that its guard shuts out goes first. -/
theorem held_off {P : Program} {ops : Array Oper} {Q : Exit → Act → World → Prop} {md : Region.Mode} {S : World → Prop} (i : Nat) {fuel : Nat} {listed : Array Bool} {a : Act} {w : World} {dst : Option Tmp} {op : Op} {type : TypeId} {pos : String} {after : Array Edge} {guard : Option (Nat × Bool)}
    (hi : ops[i]? = some ⟨dst, op, type, pos, after, guard⟩)
    (hs : (Region.noSelect ops && Region.free md ops listed i && (Region.ready md ops listed).contains i) = true)
    (hQ : ∀ c a w, Q (.panic c) (a.put dst undef) w → Q (.panic c) a w)
    (hw : Region.wanted ⟨dst, op, type, pos, after, guard⟩ (yielded ops a.tmps) = false) (hS : S w)
    (h : wpAnyH P md ops Q S fuel (listed.setIfInBounds i true) (a.put dst undef) w) : wpAnyH P md ops Q S (fuel + 1) listed a w := by
  simp only [Bool.and_eq_true] at hs
  exact wpAnyH_take hi hs.1.1 hs.1.2 hs.2 hQ (.inr ⟨hw, rfl⟩) hS h
/-- a load whose run is known wherever S holds goes first. -/
theorem held_load {P : Program} {ops : Array Oper} {Q : Exit → Act → World → Prop} {md : Region.Mode} {S : World → Prop} (i : Nat) {v : Value} {fuel : Nat} {listed : Array Bool} {a : Act} {w : World} {dst : Option Tmp} {ty : TypeId} {x : Operand} {type : TypeId} {pos : String} {after : Array Edge} {guard : Option (Nat × Bool)}
    (hi : ops[i]? = some ⟨dst, .load ty x, type, pos, after, guard⟩)
    (hs : (Region.noSelect ops && Region.free md ops listed i && (Region.ready md ops listed).contains i) = true)
    (hQ : ∀ c a w, Q (.panic c) (a.put dst v) w → Q (.panic c) a w)
    (hw : Region.wanted ⟨dst, .load ty x, type, pos, after, guard⟩ (yielded ops a.tmps) = true) (hS : S w)
    {p : Value} (hp : a.eval x = p) (hy : ∀ w, S w → (Instr.loadAt ty p).run P w = .ok v w)
    (h : wpAnyH P md ops Q S fuel (listed.setIfInBounds i true) (a.put dst v) w) : wpAnyH P md ops Q S (fuel + 1) listed a w :=
  held_on i hi hs hQ hw hS (fun w hw => by simp only [execOp, hp, Sem.run_bind, hy w hw, Result.andThen_ok, Sem.run_pure]) h
/-- a look-up whose run is known wherever S holds goes first. -/
theorem held_lookup {P : Program} {ops : Array Oper} {Q : Exit → Act → World → Prop} {md : Region.Mode} {S : World → Prop} (i : Nat) {v : Value} {fuel : Nat} {listed : Array Bool} {a : Act} {w : World} {dst : Option Tmp} {ty : TypeId} {m x : Operand} {c : Bool} {type : TypeId} {pos : String} {after : Array Edge} {guard : Option (Nat × Bool)}
    (hi : ops[i]? = some ⟨dst, .lookup ty m x c, type, pos, after, guard⟩)
    (hs : (Region.noSelect ops && Region.free md ops listed i && (Region.ready md ops listed).contains i) = true)
    (hQ : ∀ c a w, Q (.panic c) (a.put dst v) w → Q (.panic c) a w)
    (hw : Region.wanted ⟨dst, .lookup ty m x c, type, pos, after, guard⟩ (yielded ops a.tmps) = true) (hS : S w)
    {p q : Value} (hp : a.eval m = p) (hq : a.eval x = q) (hy : ∀ w, S w → (Instr.lookup ty p q c).run P w = .ok v w)
    (h : wpAnyH P md ops Q S fuel (listed.setIfInBounds i true) (a.put dst v) w) : wpAnyH P md ops Q S (fuel + 1) listed a w :=
  held_on i hi hs hQ hw hS (fun w hw => by simp only [execOp, hp, hq, Sem.run_bind, hy w hw, Result.andThen_ok, Sem.run_pure]) h
/-- a struct or an array that is built goes first. -/
theorem held_build {P : Program} {ops : Array Oper} {Q : Exit → Act → World → Prop} {md : Region.Mode} {S : World → Prop} (i : Nat) {fuel : Nat} {listed : Array Bool} {a : Act} {w : World} {dst : Option Tmp} {t : TypeId} {parts : Array (Nat × Operand)} {type : TypeId} {pos : String} {after : Array Edge} {guard : Option (Nat × Bool)}
    (hi : ops[i]? = some ⟨dst, .build t parts, type, pos, after, guard⟩)
    (hs : (Region.noSelect ops && Region.free md ops listed i && (Region.ready md ops listed).contains i) = true)
    {cells : Array Value} (hQ : ∀ c a w, Q (.panic c) (a.put dst (.agg cells)) w → Q (.panic c) a w)
    (hw : Region.wanted ⟨dst, .build t parts, type, pos, after, guard⟩ (yielded ops a.tmps) = true) (hS : S w)
    {vs : Array (Nat × Value)} (hp : (parts.map fun (i, x) => (i, a.eval x)) = vs) (hb : P.built t vs.toList = some cells)
    (h : wpAnyH P md ops Q S fuel (listed.setIfInBounds i true) (a.put dst (.agg cells)) w) : wpAnyH P md ops Q S (fuel + 1) listed a w :=
  held_on i hi hs hQ hw hS (fun w hw => by simp only [execOp, hp, run_build w t _ cells hb, Sem.run_bind, Result.andThen_ok, Sem.run_pure]) h
theorem below_drewN {B : Nat} {a w : World} (h : RowKit.Below B a w) (n : Nat) : RowKit.Below B a (w.drewN n) := ⟨h.os, h.tape, h.output, h.size, h.block⟩
end Go.Proofs.Ytfpbkofjbnmkeaa

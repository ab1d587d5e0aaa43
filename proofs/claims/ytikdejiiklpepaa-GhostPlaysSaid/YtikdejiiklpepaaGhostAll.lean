/- What this text proves: the contract of (*ghost.List).All. Conditions: the theorem's own. -/
import Derived.Test.YtikdejiiklpepaaGhost
import Derived.Deep.LoopGhost
import Derived.Maps.AppendAt
namespace Go.Proofs.Ytikdejiiklpepaa
open Go Go.RowKit
open Go.Proofs

theorem infoU32 : (Try.prog.info? 33).map (fun i => (i.zero, i.size, i.bytes)) = some (some (.int .u32 0), 1, 4) := by kernel_rfl

theorem infoLink : (Try.prog.info? 47).map (fun i => (i.zero, i.size, i.bytes)) = some (some (.agg #[.int .u32 0, .pointer none, .pointer none]), 3, 24) := by kernel_rfl

/-- Behind some rounds of All: done lies in the slice v, x is the link that is next. -/
def AllRel (w : World) (l : Nat) (ns : List (Nat × Int)) (k : Nat) (v x : Value) (wr : World) : Prop :=
  ∃ done rest, ns = done ++ rest ∧ k = rest.length ∧ x = pt (nextOf l rest) ∧ wr.ownsRow w.heap.size 33 1 v done.length (done.map fun n => .int .u32 n.2) ∧ Below w.heap.size w wr

set_option maxHeartbeats 2000000 in
theorem all_calls (w : World) (l : Nat) (room : Int) (xs : List Int) (F : Nat → Prop) (h : GList w l room xs F) :
    Calls Try.prog 16 #[pt l] w fun e w' => ∃ v, e = .returned v ∧ w'.ownsRow w.heap.size 33 1 v xs.length (xs.map (.int .u32)) ∧ Below w.heap.size w w' := by
  obtain ⟨⟨bm, ns, hg, rfl, hF⟩, hlt⟩ := h
  obtain ⟨f0, hf0⟩ : ∃ f, f = nextOf l ns := ⟨_, rfl⟩
  have c2 : w.cell? ⟨l, 2, none⟩ = some (pt f0) := by rw [hf0]; exact hg.ring.first.1
  have HF0 := Lib.hid hf0; clear hf0
  have HG := Lib.hid hg
  clear hg hF hlt
  obtain ⟨i0, hi, hz0, hz1, hz2⟩ := info_parts infoU32
  obtain ⟨j, hj, _, hj1, _⟩ := info_parts infoLink
  go_enter Try.func16, Try.ntmps16
  go_wp2_with fail
  go_loopg [3, 4] ns.length (fun k v x wr => AllRel w l ns k v x wr)
  case atStart => exact ⟨[], ns, rfl, rfl, by rw [HF0.out], World.ownsRow_nil _ _ _ _, Below.refl _ _⟩
  case round =>
    obtain ⟨done, rest, hns, hk, hx, hown, hbel⟩ := hrel
    subst hx
    have hsz := HG.out.size
    have hmost := HG.out.most
    cases rest with
    | nil =>
      simp only [nextOf]
      have HH : Hid (ns = done ++ [] ∧ wr.ownsRow w.heap.size 33 1 u3 done.length (done.map fun n => .int .u32 n.2) ∧ Below w.heap.size w wr) := Lib.hid ⟨hns, hown, hbel⟩
      clear hns hown hbel hk
      have hq := run_neq_ptr_same wr ⟨l, 0, none⟩ Try.underlying45 hj
      go_wp2_with fail
      go_ret
      obtain ⟨hns, hown, hbel⟩ := HH.out
      rw [List.append_nil] at hns
      subst hns
      exact ⟨_, rfl, by simpa [Function.comp_def] using hown, hbel⟩
    | cons n rest =>
      simp only [nextOf]
      have hlx : (l = n.1) = False := by
        have := HG.out.nodup
        rw [hns] at this
        simp only [List.map_append, List.map_cons, List.nodup_cons, List.mem_append, List.mem_cons, not_or] at this
        exact eq_false this.1.2.1
      obtain ⟨q, q1, q2, q3⟩ := HG.out.ring
      have hpath : Path w l (done ++ n :: rest) q := by rw [← hns]; exact q1
      obtain ⟨m, _, _, _, g3, g4⟩ := Path.append.1 hpath
      have hmem : n.1 ∈ l :: ns.map (·.1) := by rw [hns]; simp
      have hnlt := HG.out.lt _ hmem
      have k0 : wr.cell? ⟨n.1, 0, none⟩ = some (.int .u32 n.2) := (hbel.cell (p := ⟨n.1, 0, none⟩) hnlt).trans g3
      have k2 : wr.cell? ⟨n.1, 2, none⟩ = some (pt (nextOf l rest)) := by
        refine (hbel.cell (p := ⟨n.1, 2, none⟩) hnlt).trans ?_
        cases rest with
        | nil =>
          obtain rfl : n.1 = q := g4
          exact q2
        | cons n' t => exact g4.1
      obtain ⟨f1, hf1⟩ : ∃ f, f = nextOf l rest := ⟨_, rfl⟩
      rw [← hf1] at k2
      have HF1 := Lib.hid hf1; clear hf1
      have hlen : done.length + rest.length + 1 ≤ 4096 := by rw [hns] at hsz; simp at hsz; omega
      have hwsz := hbel.size
      have HH : Hid (ns = done ++ n :: rest ∧ gk = (n :: rest).length) := Lib.hid ⟨hns, hk⟩
      obtain ⟨cn, en, hn⟩ := HG.out.blk _ hmem
      obtain ⟨cl, el, hl⟩ := HG.out.blk l (by simp)
      have hq := run_neq_ptr_other wr (a := ⟨n.1, 0, none⟩) (b := ⟨l, 0, none⟩) Try.underlying45 hj (by omega) (fun e => by injection e with e _; exact hlx.mp e.symm) ((hbel.block _ hnlt).trans hn) ((hbel.block _ (lt_of_at hl)).trans hl)
      clear hns hk hpath g3 g4 hmem q1 q2 q3 hlx hn hl
      go_wp2_with (first | (at_builtin; refine wpList_append_own _ rfl _ _ 29 rfl w.heap.size 33 i0 (.int .u32 0) 1 4 Try.underlying29 hi hz0 hz1 hz2 rfl (by decide) _ _ _ rfl (hown.alloc _) ⟨wr.heap.size, 0, none⟩ 1 1 [.int .u32 n.2] rfl rfl (cell_one_new _ _ _) (ints_oneCell .u32 [n.2]) (by unfold maxLen; omega) (by omega) (by simp; omega) ?_; intro v' w1 hown' hgrow _; have k3 := grown_cell hown hgrow (p := ⟨n.1, 2, none⟩) hnlt k2; have hb1 := grown_below hown hgrow hbel hwsz))
      go_roundg rest.length
      case measure => rw [HH.out.2]; simp
      case rel =>
        refine ⟨done ++ [n], rest, by rw [HH.out.1]; simp, rfl, by rw [← HF1.out], ?_, hb1⟩
        simpa using hown'
end Go.Proofs.Ytikdejiiklpepaa

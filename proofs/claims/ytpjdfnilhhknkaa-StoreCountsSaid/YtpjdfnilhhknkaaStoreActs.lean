/- What this text proves: acts that came in. No conditions. -/
import Derived.Test.YtpjdfnilhhknkaaStoreLaw
namespace Go.Proofs.Ytpjdfnilhhknkaa
open Go Go.ChangeShapes Go.WideShapes Go.ChangeAt Go.RowKit
open Go.Proofs
set_option linter.unusedVariables false
set_option linter.unusedSimpArgs false

theorem fits_split : ∀ {ks ks' : List Fk} {vs : List Value}, Fits (ks ++ ks') vs → ∃ v1 v2, vs = v1 ++ v2 ∧ Fits ks v1 ∧ Fits ks' v2
  | [], _, vs, h => ⟨[], vs, rfl, trivial, h⟩
  | k :: ks, _, [], h => h.elim
  | k :: ks, ks', v :: vs, h => by
    obtain ⟨v1, v2, rfl, h1, h2⟩ := fits_split (ks := ks) (ks' := ks') h.2
    exact ⟨v :: v1, v2, rfl, ⟨h.1, h1⟩, h2⟩
theorem fits_rep {q : IntKind} : ∀ {n : Nat} {vs : List Value}, Fits (List.replicate n (.int q)) vs → ∃ ns : List Int, vs = ns.map (.int q) ∧ ns.length = n ∧ ∀ x ∈ ns, (Lit.int q x).wf = true
  | 0, [], _ => ⟨[], rfl, rfl, fun x hx => by simp at hx⟩
  | 0, _ :: _, h => h.elim
  | _ + 1, [], h => h.elim
  | n + 1, v :: vs, h => by
    obtain ⟨ns, rfl, h1, h2⟩ := fits_rep (n := n) h.2
    obtain ⟨x, rfl, hx⟩ := h.1
    refine ⟨x :: ns, rfl, by simp [h1], fun y hy => ?_⟩
    rcases List.mem_cons.1 hy with rfl | hy
    · exact hx
    · exact h2 y hy
theorem fits_one {q : IntKind} {vs : List Value} (h : Fits [.int q] vs) : ∃ x, vs = [.int q x] ∧ (Lit.int q x).wf = true := by
  obtain ⟨ns, rfl, h1, h2⟩ := fits_rep (n := 1) h
  obtain ⟨x, rfl⟩ : ∃ x, ns = [x] := by
    rcases ns with _ | ⟨x, _ | ⟨y, r⟩⟩ <;> simp at h1
    exact ⟨x, rfl⟩
  exact ⟨x, rfl, h2 x (by simp)⟩
def keyFk : List Fk := List.replicate 32 (.int .u8) ++ [.int .u32]
theorem key_of_fits {vs : List Value} (h : Fits keyFk vs) : ∃ k : KeyV, k.Good ∧ vs = k.cells := by
  obtain ⟨v1, v2, rfl, h1, h2⟩ := fits_split h
  obtain ⟨s, rfl, hs1, hs2⟩ := fits_rep h1
  obtain ⟨n, rfl, hn⟩ := fits_one h2
  exact ⟨⟨s, n⟩, ⟨hs1, hs2, hn⟩, rfl⟩
def actFk : List Fk := [.int .u8] ++ (keyFk ++ ([.int .i64] ++ ([.int .i64] ++ [.int .i64])))
theorem act_of_fits {vs : List Value} (h : Fits actFk vs) : ∃ a : ActV, a.Good ∧ vs = a.cells := by
  obtain ⟨v1, v2, rfl, h1, h2⟩ := fits_split h
  obtain ⟨x, rfl, hx⟩ := fits_one h1
  obtain ⟨v3, v4, rfl, h3, h4⟩ := fits_split h2
  obtain ⟨k, hk, rfl⟩ := key_of_fits h3
  obtain ⟨v5, v6, rfl, h5, h6⟩ := fits_split h4
  obtain ⟨p, rfl, hp⟩ := fits_one h5
  obtain ⟨v7, v8, rfl, h7, h8⟩ := fits_split h6
  obtain ⟨q, rfl, hq⟩ := fits_one h7
  obtain ⟨r, rfl, hr⟩ := fits_one h8
  exact ⟨⟨x, k, ⟨p, q, r⟩⟩, ⟨hx, hk⟩, rfl⟩
theorem ActV.one {c : ActV} : ∀ x ∈ c.cells, x.oneCell' = true := by
  intro x hx
  simp only [ActV.cells, KeyV.cells, PlaceV.cells, List.mem_append, List.mem_map, List.mem_cons, List.not_mem_nil, or_false] at hx
  rcases hx with rfl | (⟨y, _, rfl⟩ | rfl) | (rfl | rfl | rfl) <;> rfl
theorem flatAct : flatK Try.prog 8 36 = some actFk := by kernel_rfl
theorem cellsAct : Try.prog.cellsOf 36 = 37 := by kernel_rfl
set_option maxRecDepth 50000 in
theorem open_act {H : Type} {enc : TypeId × Value → H} {w : World} {spare : Nat → Bool} {held : Bool} {base0 base : Nat} {r : Reach} {v : Value} {d : DataW H} {p : List MemPlace} (hok : Value.okWide Try.prog w r base 36 v) (h : DataW.Trod enc Try.prog w base0 spare held 36 v d p) :
    ∃ a : ActV, v = a.val ∧ a.Good := by
  obtain ⟨cs, rfl, hf⟩ := open_agg (.inl ⟨_, Try.underlying36⟩) flatAct hok h
  obtain ⟨a, ha, rfl⟩ := act_of_fits hf
  exact ⟨a, rfl, ha⟩
abbrev GActs := List {a : ActV // a.Good}
def GActs.cells (l : GActs) : List Value := l.flatMap (fun a => a.1.cells)
set_option maxRecDepth 50000 in
theorem open_acts {H : Type} {enc : TypeId × Value → H} {w : World} {spare : Nat → Bool} {held : Bool} {base0 : Nat} {v : Value} {d : DataW H} {p : List MemPlace} (hok : ∃ a n c, v = .slice a n c) (h : DataW.Trod enc Try.prog w base0 spare held 22 v d p) :
    ∃ acts : GActs, Reads w 37 v acts.length acts.cells ∧ acts.length ≤ maxLen ∧ True := by
  obtain ⟨n, xs, h1, h2, h3, _⟩ := open_flat Try.underlying22 cellsAct flatAct hok h
  obtain ⟨l, g1, g2, g3⟩ := list_of_pieces (fun a : {a : ActV // a.Good} => a.1.cells) (fun _ => True) 37 (fun a => ActV.len a.2) n xs h1.1 (fun i hi => by
    obtain ⟨a, ha, e⟩ := act_of_fits (h3 i hi)
    exact ⟨⟨a, ha⟩, e, trivial⟩)
  subst g1 g2
  exact ⟨l, h1, h2, trivial⟩
end Go.Proofs.Ytpjdfnilhhknkaa

/- What this text proves: 'm[k] += x' on a map of pairs, as the two steps that the machine takes. No conditions. -/
import Derived.Test.YtpjdfnilhhknkaaBase
namespace Go.Proofs.Ytpjdfnilhhknkaa
open Go Go.RowKit
open Go.Maps (Keyed)
set_option linter.unusedVariables false

/-- the entry at key is known by the number n. -/
def Entered (w : World) (P : Program) (k : TypeId) (b : Nat) (m : List (Value × Value)) (key : Value) (n : Int) : Prop :=
  MapAt w P k b m ∧ ∃ (es : Array MapEntry) (clk j : Nat) (e0 : MapEntry), w.heap[b]? = some (.map es clk) ∧ es[j]? = some e0 ∧ e0.key = key ∧ (e0.born : Int) = n
theorem Entered.of_block {w w' : World} {P : Program} {k : TypeId} {b : Nat} {m : List (Value × Value)} {key : Value} {n : Int} (h : Entered w P k b m key n) (hb : w'.heap[b]? = w.heap[b]?) : Entered w' P k b m key n := by
  obtain ⟨h1, es, clk, j, e0, h2, h3⟩ := h
  exact ⟨h1.of_block hb, es, clk, j, e0, hb.trans h2, h3⟩
theorem Entered.upd {S : Nat → Prop} {w w' : World} {P : Program} {k : TypeId} {b : Nat} {m : List (Value × Value)} {key : Value} {n : Int} (h : Entered w P k b m key n) (hu : Upd S w w') (hn : ¬ S b) : Entered w' P k b m key n :=
  h.of_block (hu.block b h.1.lt hn)
section
variable {P : Program} {k e t : TypeId} {w : World} {b : Nat} {m : List (Value × Value)} {key val v : Value} {kl : Lit} {n : Int}
theorem MapAt.entry (h : MapAt w P k b m) (K : Keyed P k) (ht : P.underlying t = some (.map k e)) (hkey : keyOf P k key = some kl) (hv : alook m key = some v) :
    ∃ w' n, (Instr.mapEntry t (.map (some b)) key).run P w = .ok (.tuple #[v, .int .i64 n]) w' ∧ Entered w' P k b m key n ∧ Upd (· = b) w w' := by
  classical
  obtain ⟨es, clk, h1, h2, h3, h4⟩ := h.find K hkey
  have hlt := lt_of_at h1
  rcases h4 with ⟨r1, r2, r3⟩ | ⟨j, e0, r1, r2, r3, r4, r5⟩
  · rw [r2] at hv; cases hv
  · rw [r4] at hv
    cases hv
    have hst : (Instr.keyThatStays e0.key key).run P w = .ok key w := by rw [r3]; exact K.stays w hkey
    have hes : (es.modify j fun x => { x with key := key }) = es := by
      apply Array.ext_getElem?
      intro i
      rw [Array.getElem?_modify]
      split
      · rename_i hij
        subst hij
        rw [r2]
        simp [← r3]
      · rfl
    refine ⟨ChangeMaps.setBlock w b (.map es clk), e0.born, ?_, ?_, ((Upd.refl (fun i => i = b) w).setBlock (fun _ => rfl) _)⟩
    · simp [Instr.mapEntry, run_underlying ht, MapKept.run_getObj_map h1, K.check w false hkey, r1, hst, MapKept.run_setObj_map _ h1, Result.andThen, ChangeMaps.setBlock, hes, r2, goInt]
    · have hb : (ChangeMaps.setBlock w b (.map es clk)).heap[b]? = some (.map es clk) := at_setBlock_same hlt _
      exact ⟨h.of_block (hb.trans h1.symm), es, clk, j, e0, hb, r2, r3, rfl⟩
theorem Entered.put (h : Entered w P k b m key n) (hkey : keyOf P k key = some kl) :
    ∃ w', (Instr.entryStore t (.map (some b)) (.int .i64 n) val).run P w = .ok () w' ∧ MapAt w' P k b (aput m key val) ∧ Upd (· = b) w w' := by
  classical
  obtain ⟨⟨⟨es', clk', g1, g2, g3⟩, g4, g5⟩, es, clk, j, e0, h1, r2, r3, hn⟩ := h
  rw [h1] at g1
  obtain ⟨rfl, rfl⟩ : es = es' ∧ clk = clk' := by cases g1; exact ⟨rfl, rfl⟩
  have hlt := lt_of_at h1
  have hj : j < es.size := (Array.getElem?_eq_some_iff.1 r2).1
  have hej : es[j] = e0 := (Array.getElem?_eq_some_iff.1 r2).2
  have hm : m.map (·.1) = es.toList.map (·.key) := by rw [← g2]; simp [pairs]
  have huniq : ∀ (i : Nat) (x : MapEntry), es[i]? = some x → x.key = key → i = j := by
    intro i x hi hx
    rw [hm] at g5
    have hi' : (es.toList.map (·.key))[i]? = some key := by simp [hi, hx]
    have hj' : (es.toList.map (·.key))[j]? = some key := by simp [r2, r3]
    exact (List.getElem?_inj (List.getElem?_eq_some_iff.1 hi').1 g5).1 (hi'.trans hj'.symm)
  have hfind : es.findIdx? (fun e => (e.born : Int) == n) = some j := by
    rw [Array.findIdx?_eq_some_iff_getElem]
    refine ⟨hj, by simp [hej, hn], fun i hij => ?_⟩
    have hi : i < es.size := by omega
    intro hb
    have hb' : es[i].born = e0.born := by
      have : (es[i].born : Int) = n := by simpa using hb
      omega
    have nd := g3.2.1
    have hi' : (es.toList.map (·.born))[i]? = some e0.born := by simp [hi, hb']
    have hj' : (es.toList.map (·.born))[j]? = some e0.born := by simp [hj, hej]
    have := (List.getElem?_inj (List.getElem?_eq_some_iff.1 hi').1 nd).1 (hi'.trans hj'.symm)
    omega
  have r4 : alook m key = some e0.val := by
    have hmem : (e0.key, e0.val) ∈ m := by rw [← g2]; exact List.mem_map.2 ⟨e0, by simpa using Array.mem_of_getElem? r2, rfl⟩
    unfold alook
    cases hf : m.find? (fun p => decide (p.1 = key)) with
    | none => exact absurd r3 (by simpa using List.find?_eq_none.1 hf _ hmem)
    | some q =>
      have hq1 : q.1 = key := by simpa using List.find?_some hf
      have hqm := List.mem_of_find?_eq_some hf
      rw [← g2] at hqm
      obtain ⟨x, hx, rfl⟩ := List.mem_map.1 hqm
      obtain ⟨i, hi⟩ := List.getElem?_of_mem hx
      have hij := huniq i x (by simpa using hi) hq1
      subst hij
      have : x = e0 := by simpa [r2] using hi.symm
      subst this
      rfl
  have hmap : (aput m key val).map (·.1) = m.map (·.1) := by
    simp only [aput, r4, Option.isSome_some, if_true, List.map_map]
    refine List.map_congr_left (fun p _ => ?_)
    simp only [Function.comp_apply]
    split <;> simp_all
  refine ⟨ChangeMaps.setBlock w b (.map (es.modify j fun x => { x with val := val }) clk), ?_, ⟨⟨_, clk, at_setBlock_same hlt _, ?_, MapKept.stamped_modify g3 j _ (fun _ _ => rfl) (fun _ _ _ => rfl)⟩, ?_, ?_⟩, ((Upd.refl (fun i => i = b) w).setBlock (fun _ => rfl) _)⟩
  · simp [Instr.entryStore, MapKept.run_getObj_map h1, hfind, MapKept.run_setObj_map _ h1, Result.andThen, ChangeMaps.setBlock, asInt, asIntOf]
  · rw [aput_some r4, ← g2]
    simp only [pairs, List.map_map]
    apply List.ext_getElem?
    intro i
    simp only [List.getElem?_map, Array.getElem?_toList, Array.getElem?_modify, Function.comp_def]
    by_cases hij : j = i
    · subst hij
      simp [r2, r3]
    · rw [if_neg hij]
      cases hi : es[i]? with
      | none => simp
      | some x =>
        have : x.key ≠ key := fun e => hij (huniq i x hi e).symm
        simp [this]
  · intro p hp
    have : p.1 ∈ (aput m key val).map (·.1) := List.mem_map.2 ⟨p, hp, rfl⟩
    rw [hmap] at this
    obtain ⟨q, hq, hqe⟩ := List.mem_map.1 this
    rw [← hqe]
    exact g4 q hq
  · rw [hmap]; exact g5
end
theorem wp_mapEntry {P : Program} {k e t : TypeId} {w : World} {b : Nat} {l : List (Value × Value)} {o : Oper} {a : Act} {K : Act → World → Prop} {Q : Exit → Act → World → Prop} (m x : Operand) (hop : o.op = Op.mapEntry t m x) (hk : Maps.Keyed P k) (ht : P.underlying t = some (.map k e))
    (h : MapAt w P k b l) (hm : a.eval m = .map (some b)) (key : Value) (kl : Lit) (hkey : keyOf P k key = some kl) (hx : a.eval x = key) {v : Value} (hv : alook l key = some v)
    (hK : ∀ w' n, Entered w' P k b l key n → Upd (· = b) w w' → K (a.put o.dst (.tuple #[v, .int .i64 n])) w') : o.wp P a w K Q := by
  obtain ⟨w', n, hrun, r1, r2⟩ := h.entry hk ht hkey hv
  unfold Oper.wp
  simp [execOp, hop, hm, hx, hrun, Result.andThen]
  exact hK w' n r1 r2
theorem wp_entryStore {P : Program} {k t : TypeId} {w : World} {b : Nat} {l : List (Value × Value)} {o : Oper} {a : Act} {K : Act → World → Prop} {Q : Exit → Act → World → Prop} (m s x : Operand) (hop : o.op = Op.entryStore t m s x)
    {key : Value} {kl : Lit} {n : Int} (h : Entered w P k b l key n) (hm : a.eval m = .map (some b)) (hkey : keyOf P k key = some kl) (hs : a.eval s = .int .i64 n) (val : Value) (hx : a.eval x = val)
    (hK : ∀ w', MapAt w' P k b (aput l key val) → Upd (· = b) w w' → K (a.put o.dst undef) w') : o.wp P a w K Q := by
  obtain ⟨w', hrun, r1, r2⟩ := h.put (t := t) (val := val) hkey
  unfold Oper.wp
  simp [execOp, hop, hm, hs, hx, hrun, Result.andThen]
  exact hK w' r1 r2
end Go.Proofs.Ytpjdfnilhhknkaa

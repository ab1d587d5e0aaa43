/- What this text proves: plain laws on worlds (what turns, what stays) and on a map's block that reads as a list of pairs, over any program. No conditions. -/
import Derived.WalkKit
import Derived.WalkLawsBesides
import Derived.WalkSpells
import Derived.Maps.Own
import Derived.Maps.OwnSet
import Derived.Deep.Draws
import Derived.DeepKeys4
namespace Go.Proofs.Ytfpbkofjbnmkeaa
open Go Go.RowKit
open Go.Maps (Keyed)

/-- w' is w but for the blocks of S and for new ones. -/
structure Upd (S : Nat → Prop) (w w' : World) : Prop where
  os : w'.os = w.os
  tape : w'.tape = w.tape
  output : w'.output = w.output
  size : w.heap.size ≤ w'.heap.size
  block : ∀ k, k < w.heap.size → ¬ S k → w'.heap[k]? = w.heap[k]?

theorem Upd.refl (S : Nat → Prop) (w : World) : Upd S w w := ⟨rfl, rfl, rfl, Nat.le_refl _, fun _ _ _ => rfl⟩
theorem Upd.trans {S S' : Nat → Prop} {a b c : World} (h : Upd S a b) (k : Upd S' b c) (hs : ∀ i, i < a.heap.size → S' i → S i) : Upd S a c :=
  ⟨k.os.trans h.os, k.tape.trans h.tape, k.output.trans h.output, Nat.le_trans h.size k.size,
    fun i hi hn => (k.block i (Nat.lt_of_lt_of_le hi h.size) (fun e => hn (hs i hi e))).trans (h.block i hi hn)⟩
theorem Upd.mono {S S' : Nat → Prop} {a b : World} (h : Upd S a b) (hs : ∀ i, i < a.heap.size → S i → S' i) : Upd S' a b :=
  ⟨h.os, h.tape, h.output, h.size, fun i hi hn => h.block i hi (fun e => hn (hs i hi e))⟩
theorem Upd.drew {S : Nat → Prop} {a b : World} (h : Upd S a b) : Upd S a b.drew := ⟨h.os, h.tape, h.output, h.size, h.block⟩
theorem Upd.drewN {S : Nat → Prop} {a b : World} (h : Upd S a b) (n : Nat) : Upd S a (b.drewN n) := ⟨h.os, h.tape, h.output, h.size, h.block⟩
theorem Upd.of_drew {S : Nat → Prop} {a b : World} (h : Upd S a.drew b) : Upd S a b := ⟨h.os, h.tape, h.output, h.size, h.block⟩
theorem Upd.alloc {S : Nat → Prop} {a b : World} (h : Upd S a b) (o : Obj) : Upd S a (b.alloc o) :=
  h.trans (S' := fun _ => False) ⟨rfl, rfl, rfl, by simp, fun k hk _ => Below.heap_alloc _ _ _ hk⟩ (fun _ _ f => f.elim)
theorem Upd.setCell {S : Nat → Prop} {a b : World} (h : Upd S a b) {p : Addr} (hp : p.block < a.heap.size → S p.block) (u : Value) : Upd S a (b.setCell p u) :=
  ⟨h.os, h.tape, h.output, by simpa using h.size, fun i hi hn => by
    rw [Below.heap_setCell _ _ _ _ (fun e => hn (by subst e; exact hp hi))]; exact h.block i hi hn⟩
theorem Upd.grown {S : Nat → Prop} {a b c : World} {row : Option Nat} (h : Upd S a b) (hg : b.grownBy c row) (hr : ∀ k, row = some k → k < a.heap.size → S k) : Upd S a c :=
  h.trans (S' := fun k => row = some k) ⟨hg.os, hg.tape, hg.output, hg.size, fun k hk hn => hg.block k hk (fun e => hn e.symm)⟩ (fun i hi e => hr i e hi)
theorem Upd.setBlock {S : Nat → Prop} {a b : World} (h : Upd S a b) {k : Nat} (hk : k < a.heap.size → S k) (o : Obj) : Upd S a (ChangeMaps.setBlock b k o) :=
  ⟨h.os, h.tape, h.output, by simpa [ChangeMaps.setBlock] using h.size, fun i hi hn => by
    simp only [ChangeMaps.setBlock]
    rw [Array.getElem?_setIfInBounds_ne (fun e => hn (by subst e; exact hk hi))]; exact h.block i hi hn⟩
theorem Upd.below {S : Nat → Prop} {a b : World} {B : Nat} (h : Upd S a b) (hB : B ≤ a.heap.size) (hs : ∀ i, S i → B ≤ i) : Below B a b :=
  ⟨h.os, h.tape, h.output, h.size, fun k hk => h.block k (by omega) (fun e => by have := hs k e; omega)⟩
theorem Upd.cell {S : Nat → Prop} {a b : World} (h : Upd S a b) {p : Addr} {v : Value} (hc : a.cell? p = some v) (hn : ¬ S p.block) : b.cell? p = some v :=
  (World.cell?_of_block (h.block _ (World.block_lt_of_cell? a p hc) hn)).trans hc
theorem Upd.at {S : Nat → Prop} {a b : World} (h : Upd S a b) {k : Nat} {o : Obj} (hc : a.heap[k]? = some o) (hn : ¬ S k) : b.heap[k]? = some o :=
  (h.block _ (Array.getElem?_eq_some_iff.1 hc).1 hn).trans hc
theorem lt_of_at {a : World} {k : Nat} {o : Obj} (hc : a.heap[k]? = some o) : k < a.heap.size := (Array.getElem?_eq_some_iff.1 hc).1

/-- A cell of a block that is known whole. -/
theorem cell_at {w : World} {b : Nat} {c : Array Value} {e : TypeId} {f : Nat × Nat} (h : w.heap[b]? = some (.cells c e f)) (i : Nat) : w.cell? ⟨b, i, none⟩ = c[i]? := by
  simp [World.cell?, h]
theorem free_at {w : World} {b : Nat} {c : Array Value} {e : TypeId} (h : w.heap[b]? = some (.cells c e (0, 0))) (i : Nat) : w.frozen? ⟨b, i, none⟩ = false := by
  simp [World.frozen?, h]
theorem at_setCell_same {w : World} {b : Nat} {c : Array Value} {e : TypeId} {f : Nat × Nat} (h : w.heap[b]? = some (.cells c e f)) (i : Nat) (v : Value) :
    (w.setCell ⟨b, i, none⟩ v).heap[b]? = some (.cells (c.setIfInBounds i v) e f) := by
  simp [World.setCell, Array.getElem?_modify, h]
theorem at_setCell_other {w : World} {b k : Nat} (i : Nat) (v : Value) (hk : k ≠ b) : (w.setCell ⟨b, i, none⟩ v).heap[k]? = w.heap[k]? :=
  Below.heap_setCell _ _ _ _ hk
theorem at_alloc_new (w : World) (o : Obj) : (w.alloc o).heap[w.heap.size]? = some o := by
  show (w.heap.push o)[w.heap.size]? = _
  simp
theorem at_alloc_old {w : World} {k : Nat} {x : Obj} (h : w.heap[k]? = some x) (o : Obj) : (w.alloc o).heap[k]? = some x :=
  (Below.heap_alloc w o k (lt_of_at h)).trans h
theorem at_setBlock_same {w : World} {b : Nat} (h : b < w.heap.size) (o : Obj) : (ChangeMaps.setBlock w b o).heap[b]? = some o := by
  simp [ChangeMaps.setBlock, h]
theorem at_setBlock_other {w : World} {b k : Nat} (o : Obj) (hk : k ≠ b) : (ChangeMaps.setBlock w b o).heap[k]? = w.heap[k]? := by
  simp only [ChangeMaps.setBlock]; rw [Array.getElem?_setIfInBounds_ne (fun e => hk e.symm)]

/-- the new blocks. -/
def fresh (w w' : World) (k : Nat) : Prop := w.heap.size ≤ k ∧ k < w'.heap.size
/-- the blocks from B on that are there. -/
def from_ (B : Nat) (w : World) (k : Nat) : Prop := B ≤ k ∧ k < w.heap.size

/-! ### an append to a row of the call's own, behind a new block -/
theorem grown_cell {wr w1 : World} {o : Obj} {base size n : Nat} {e : TypeId} {v : Value} {xs : List Value} (hown : wr.ownsRow base e size v n xs) (hg : (wr.alloc o).grownBy w1 v.ownBlock) {p : Addr} {u : Value} (hp : p.block < base) (hc : wr.cell? p = some u) : w1.cell? p = some u := by
  have hlt := World.block_lt_of_cell? wr p hc
  refine hg.cell ((World.cell?_alloc_lt _ _ _ hlt).trans hc) (fun h => ?_)
  have := (hown.lt _ h.symm).1
  omega
theorem grown_below {w wr w1 : World} {o : Obj} {base size n : Nat} {e : TypeId} {v : Value} {xs : List Value} (hown : wr.ownsRow base e size v n xs) (hg : (wr.alloc o).grownBy w1 v.ownBlock) (hb : Below base w wr) (hB : base ≤ wr.heap.size) : Below base w w1 :=
  (hb.alloc hB o).grown hg (by simp; omega) (fun k hk => (hown.lt k hk).1)
theorem below_upd {w w' : World} {B : Nat} (h : Below B w w') : Upd (fun k => B ≤ k) w w' := ⟨h.os, h.tape, h.output, h.size, fun k _ hn => h.block k (by omega)⟩

/-! ### a map's block as a list of pairs -/
open Classical in
noncomputable def alook (m : List (Value × Value)) (x : Value) : Option Value := (m.find? (fun p => decide (p.1 = x))).map (·.2)
open Classical in
/-- the pair at x put out. -/
noncomputable def adel (m : List (Value × Value)) (x : Value) : List (Value × Value) := m.filter (fun p => decide (p.1 ≠ x))
open Classical in
noncomputable def aput (m : List (Value × Value)) (x v : Value) : List (Value × Value) :=
  if (alook m x).isSome then m.map (fun p => if p.1 = x then (x, v) else p) else m ++ [(x, v)]

def pairs (es : Array MapEntry) : List (Value × Value) := es.toList.map (fun e => (e.key, e.val))

/-- Block b is a map of just the pairs m, in the order of their births. -/
structure MapAt (w : World) (P : Program) (k : TypeId) (b : Nat) (m : List (Value × Value)) : Prop where
  here : ∃ es clk, w.heap[b]? = some (.map es clk) ∧ pairs es = m ∧ MapKept.Stamped es clk
  keys : ∀ p ∈ m, ∃ l, keyOf P k p.1 = some l
  once : (m.map (·.1)).Nodup

theorem MapAt.of_block {w w' : World} {P : Program} {k : TypeId} {b : Nat} {m : List (Value × Value)} (h : MapAt w P k b m) (hb : w'.heap[b]? = w.heap[b]?) : MapAt w' P k b m := by
  obtain ⟨⟨es, clk, h1, h2, h3⟩, h4, h5⟩ := h
  exact ⟨⟨es, clk, hb.trans h1, h2, h3⟩, h4, h5⟩
theorem MapAt.drew {w : World} {P : Program} {k : TypeId} {b : Nat} {m : List (Value × Value)} (h : MapAt w P k b m) : MapAt w.drew P k b m := h.of_block rfl
theorem MapAt.lt {w : World} {P : Program} {k : TypeId} {b : Nat} {m : List (Value × Value)} (h : MapAt w P k b m) : b < w.heap.size := by
  obtain ⟨⟨es, clk, h1, _⟩, _⟩ := h
  exact lt_of_at h1
theorem MapAt.upd {S : Nat → Prop} {w w' : World} {P : Program} {k : TypeId} {b : Nat} {m : List (Value × Value)} (h : MapAt w P k b m) (hu : Upd S w w') (hn : ¬ S b) : MapAt w' P k b m :=
  h.of_block (hu.block b h.lt hn)
theorem MapAt.made (w : World) (P : Program) (k : TypeId) : MapAt (w.alloc (.map #[] 0)) P k w.heap.size [] :=
  ⟨⟨#[], 0, at_alloc_new _ _, rfl, MapKept.stamped_empty 0⟩, by simp, by simp⟩

section
variable {P : Program} {k e t : TypeId} {w : World} {b : Nat} {m : List (Value × Value)} {key val : Value} {kl : Lit}

theorem MapAt.find (h : MapAt w P k b m) (K : Keyed P k) (hkey : keyOf P k key = some kl) : ∃ es clk, w.heap[b]? = some (.map es clk) ∧ pairs es = m ∧ MapKept.Stamped es clk ∧
    (((Instr.findKey k key es.toList).run P w = .ok none w ∧ alook m key = none ∧ ∀ x ∈ es.toList, x.key ≠ key) ∨
     ∃ j e0, (Instr.findKey k key es.toList).run P w = .ok (some (j, e0.val)) w ∧ es[j]? = some e0 ∧ e0.key = key ∧ alook m key = some e0.val ∧ ∀ i x, es[i]? = some x → x.key = key → i = j) := by
  classical
  obtain ⟨⟨es, clk, h1, h2, h3⟩, h4, h5⟩ := h
  refine ⟨es, clk, h1, h2, h3, ?_⟩
  have hk : ∀ e ∈ es.toList, ∃ l, keyOf P k e.key = some l := fun e he => h4 (e.key, e.val) (by rw [← h2]; exact List.mem_map.2 ⟨e, he, rfl⟩)
  have hinj : ∀ (i j : Nat) (x y : MapEntry), es[i]? = some x → es[j]? = some y → x.key = y.key → i = j := by
    intro i j x y hi hj hxy
    have hm : m.map (·.1) = es.toList.map (·.key) := by rw [← h2]; simp [pairs]
    rw [hm] at h5
    have hi' : (es.toList.map (·.key))[i]? = some x.key := by simp [hi]
    have hj' : (es.toList.map (·.key))[j]? = some x.key := by simp [hj, hxy]
    exact (List.getElem?_inj (List.getElem?_eq_some_iff.1 hi').1 h5).1 (hi'.trans hj'.symm)
  rcases K.find w hkey es.toList hk with ⟨r1, r2⟩ | ⟨j, e0, r1, r2, r3⟩
  · refine .inl ⟨r1, ?_, r2⟩
    simp only [alook, ← h2, pairs, Option.map_eq_none_iff, List.find?_eq_none, List.mem_map, forall_exists_index, and_imp, forall_apply_eq_imp_iff₂, decide_eq_true_eq]
    exact fun x hx => r2 x hx
  · have r2' : es[j]? = some e0 := by simpa using r2
    refine .inr ⟨j, e0, r1, r2', r3, ?_, fun i x hi hx => hinj i j x e0 hi r2' (hx.trans r3.symm)⟩
    have hmem : (e0.key, e0.val) ∈ m := by rw [← h2]; exact List.mem_map.2 ⟨e0, List.mem_of_getElem? r2, rfl⟩
    unfold alook
    cases hf : m.find? (fun p => decide (p.1 = key)) with
    | none => exact absurd r3 (by simpa using List.find?_eq_none.1 hf _ hmem)
    | some q =>
      have hq1 : q.1 = key := by simpa using List.find?_some hf
      have hqm := List.mem_of_find?_eq_some hf
      rw [← h2] at hqm
      obtain ⟨x, hx, rfl⟩ := List.mem_map.1 hqm
      obtain ⟨i, hi⟩ := List.getElem?_of_mem hx
      have hij := hinj i j x e0 (by simpa using hi) r2' (hq1.trans r3.symm)
      subst hij
      have : x = e0 := by simpa [r2'] using hi.symm
      subst this
      rfl

/-- 'm[k]' and 'v, ok := m[k]'. -/
theorem MapAt.look (h : MapAt w P k b m) (K : Keyed P k) (ht : P.underlying t = some (.map k e)) {z : Value} (hz : (zeroValue e).run P w = .ok z w) (hkey : keyOf P k key = some kl) (c : Bool) :
    (Instr.lookup t (.map (some b)) key c).run P w = .ok (if c then .tuple #[(alook m key).getD z, .bool (alook m key).isSome] else (alook m key).getD z) w := by
  obtain ⟨es, clk, h1, h2, h3, h4⟩ := h.find K hkey
  rcases h4 with ⟨r1, r2, _⟩ | ⟨j, e0, r1, _, _, r2, _⟩
  · simp [Instr.lookup, run_underlying ht, MapKept.run_getObj_map h1, K.check w _ hkey, r1, hz, Result.andThen, r2]
  · simp [Instr.lookup, run_underlying ht, MapKept.run_getObj_map h1, K.check w _ hkey, r1, Result.andThen, r2]

theorem pairs_push (es : Array MapEntry) (x : MapEntry) : pairs (es.push x) = pairs es ++ [(x.key, x.val)] := by simp [pairs]

theorem alook_none_adel (h : alook m key = none) : adel m key = m := by
  classical
  simp only [alook, Option.map_eq_none_iff, List.find?_eq_none, decide_eq_true_eq] at h
  simp only [adel]
  exact List.filter_eq_self.2 (fun p hp => by simpa using h p hp)

/-- 'delete(m, k)'. -/
theorem MapAt.drop {ty : TypeId} (h : MapAt w P k b m) (K : Keyed P k) (ht : P.underlying t = some (.map k e)) (hkey : keyOf P k key = some kl) :
    ∃ w', (Builtin.delete_ #[t, k] ty #[.map (some b), key]).run P w = .ok (.tuple #[]) w' ∧ MapAt w' P k b (adel m key) ∧ Upd (· = b) w w' := by
  classical
  obtain ⟨es, clk, h1, h2, h3, h4⟩ := h.find K hkey
  have hsub : (adel m key).Sublist m := List.filter_sublist
  have keys' : ∀ p ∈ adel m key, ∃ l, keyOf P k p.1 = some l := fun p hp => h.keys p (hsub.subset hp)
  have once' : ((adel m key).map (·.1)).Nodup := h.once.sublist (hsub.map _)
  have hlt := lt_of_at h1
  rcases h4 with ⟨r1, r2, r3⟩ | ⟨j, e0, r1, r2, r3, r4, r5⟩
  · refine ⟨ChangeMaps.setBlock w b (.map es clk), ?_, ⟨⟨es, clk, at_setBlock_same hlt _, ?_, h3⟩, keys', once'⟩, ((Upd.refl (fun i => i = b) w).setBlock (fun _ => rfl) _)⟩
    · simp [Builtin.delete_, run_underlying ht, MapKept.run_getObj_map h1, K.check w _ hkey, r1, MapKept.run_setObj_map _ h1, Result.andThen, ChangeMaps.setBlock]
    · rw [h2, alook_none_adel r2]
  · have hjs : j < es.size := (Array.getElem?_eq_some_iff.1 r2).1
    have hsub : (es.eraseIdxIfInBounds j).toList = es.toList.eraseIdx j := by
      unfold Array.eraseIdxIfInBounds
      rw [dif_pos hjs]
      simp
    refine ⟨ChangeMaps.setBlock w b (.map (es.eraseIdxIfInBounds j) clk), ?_, ⟨⟨_, clk, at_setBlock_same hlt _, ?_, MapKept.stamped_erase h3 j⟩, keys', once'⟩, ((Upd.refl (fun i => i = b) w).setBlock (fun _ => rfl) _)⟩
    · simp [Builtin.delete_, run_underlying ht, MapKept.run_getObj_map h1, K.check w _ hkey, r1, MapKept.run_setObj_map _ h1, Result.andThen, ChangeMaps.setBlock]
    · rw [pairs, hsub, adel, ← h2, pairs, List.filter_map]
      congr 1
      have hf := ChangeMaps.filter_eq_eraseIdx (fun x : MapEntry => decide (x.key = key)) es.toList j e0 (by simpa using r2) (by simpa using r3) ?_
      · rw [← hf]
        refine List.filter_congr (fun x _ => ?_)
        simp
      · refine List.pairwise_iff_getElem.2 (fun i i' hi hi' hlt hh => ?_)
        simp only [decide_eq_true_eq] at hh
        have a1 := r5 i _ (by simp [show i < es.size by simpa using hi]) hh.1
        have a2 := r5 i' _ (by simp [show i' < es.size by simpa using hi']) hh.2
        omega

theorem aput_none (h : alook m key = none) : aput m key val = m ++ [(key, val)] := by simp [aput, h]
theorem aput_some {v : Value} (h : alook m key = some v) : aput m key val = (open Classical in m.map (fun p => if p.1 = key then (key, val) else p)) := by simp [aput, h]
theorem alook_mem {v : Value} (h : alook m key = some v) : (key, v) ∈ m := by
  classical
  unfold alook at h
  obtain ⟨q, hq, rfl⟩ := Option.map_eq_some_iff.1 h
  have h1 : q.1 = key := by simpa using List.find?_some hq
  rw [← h1]
  exact List.mem_of_find?_eq_some hq

/-- 'm[k] = v'. -/
theorem MapAt.put (h : MapAt w P k b m) (K : Keyed P k) (ht : P.underlying t = some (.map k e)) (hkey : keyOf P k key = some kl) :
    ∃ w', (Instr.mapUpdate t (.map (some b)) key val).run P w = .ok () w' ∧ MapAt w' P k b (aput m key val) ∧ Upd (· = b) w w' := by
  classical
  obtain ⟨es, clk, h1, h2, h3, h4⟩ := h.find K hkey
  have hlt := lt_of_at h1
  rcases h4 with ⟨r1, r2, r3⟩ | ⟨j, e0, r1, r2, r3, r4, r5⟩
  · refine ⟨ChangeMaps.setBlock w b (.map (es.push ⟨key, val, clk⟩) (clk + 1)), ?_, ⟨⟨_, _, at_setBlock_same hlt _, ?_, MapKept.stamped_push h3 r3⟩, ?_, ?_⟩, ((Upd.refl (fun i => i = b) w).setBlock (fun _ => rfl) _)⟩
    · simp [Instr.mapUpdate, run_underlying ht, MapKept.run_getObj_map h1, K.check w false hkey, r1, MapKept.run_setObj_map _ h1, Result.andThen, ChangeMaps.setBlock]
    · rw [pairs_push, h2, aput_none r2]
    · rw [aput_none r2]
      intro p hp
      rcases List.mem_append.1 hp with hp | hp
      · exact h.keys p hp
      · obtain rfl := List.mem_singleton.1 hp
        exact ⟨_, hkey⟩
    · rw [aput_none r2, List.map_append]
      refine List.nodup_append.2 ⟨h.once, by simp, ?_⟩
      intro a ha c hc
      simp at hc
      subst hc
      rintro rfl
      rw [← h2] at ha
      simp only [pairs, List.map_map, List.mem_map, Function.comp_apply] at ha
      obtain ⟨x, hx, hxe⟩ := ha
      exact r3 x hx hxe
  · have hmap : (aput m key val).map (·.1) = m.map (·.1) := by
      simp only [aput, r4, Option.isSome_some, if_true, List.map_map]
      refine List.map_congr_left (fun p _ => ?_)
      simp only [Function.comp_apply]
      split <;> simp_all
    refine ⟨ChangeMaps.setBlock w b (.map (es.modify j fun x => { x with key := key, val := val }) clk), ?_, ⟨⟨_, clk, at_setBlock_same hlt _, ?_, MapKept.stamped_modify h3 j _ (fun _ _ => rfl) ?_⟩, ?_, ?_⟩, ((Upd.refl (fun i => i = b) w).setBlock (fun _ => rfl) _)⟩
    · have hst : (Instr.keyThatStays (((es[j]?).map (·.key)).getD key) key).run P w = .ok key w := by rw [r2]; simp only [Option.map_some, Option.getD_some, r3]; exact K.stays w hkey
      simp [Instr.mapUpdate, run_underlying ht, MapKept.run_getObj_map h1, K.check w false hkey, r1, hst, MapKept.run_setObj_map _ h1, Result.andThen, ChangeMaps.setBlock]
    · rw [aput_some r4, ← h2]
      simp only [pairs, List.map_map]
      apply List.ext_getElem?
      intro i
      simp only [List.getElem?_map, Array.getElem?_toList, Array.getElem?_modify, Function.comp_def]
      by_cases hij : j = i
      · subst hij
        simp [r2, r3]
      · rw [if_neg hij]
        cases hi : es[i]? with
        | none => simp
        | some x =>
          have : x.key ≠ key := fun e => hij (r5 i x hi e).symm
          simp [this]
    · intro x hx hxj
      rw [r2] at hxj
      obtain rfl := Option.some.inj hxj
      exact r3.symm
    · intro p hp
      have : p.1 ∈ (aput m key val).map (·.1) := List.mem_map.2 ⟨p, hp, rfl⟩
      rw [hmap] at this
      obtain ⟨q, hq, hqe⟩ := List.mem_map.1 this
      rw [← hqe]
      exact h.keys q hq
    · rw [hmap]; exact h.once

/-- 'len(m)'. -/
theorem MapAt.len (h : MapAt w P k b m) (ht : P.underlying t = some (.map k e)) (ty : TypeId) : (Builtin.len_ #[t] ty #[.map (some b)]).run P w = .ok (.int .i64 m.length) w := by
  obtain ⟨⟨es, clk, h1, h2, h3⟩, _, _⟩ := h
  subst h2
  simp [Builtin.len_, run_underlying ht, MapKept.run_getObj_map h1, Result.andThen, pairs, goInt]
end
end Go.Proofs.Ytfpbkofjbnmkeaa

/- What this text proves: how often a chunk is needed, as a number and as a map of numbers. Conditions: each theorem's own. -/
import Derived.Test.YtpjdfnilhhknkaaStoreActs
import Derived.Test.YtpjdfnilhhknkaaMapOp
namespace Go.Proofs.Ytpjdfnilhhknkaa
open Go Go.RowKit
open Go.Proofs

theorem alook_aput {m : List (Value × Value)} {x v y : Value} : alook (aput m x v) y = open Classical in if x = y then some v else alook m y := by
  classical
  cases h : alook m x with
  | none =>
    rw [aput_none h]
    unfold alook at h ⊢
    rw [List.find?_append]
    by_cases e : x = y
    · subst e
      have hn : m.find? (fun p => decide (p.1 = x)) = none := by simpa using h
      simp [hn]
    · simp only [if_neg e]
      cases hf : m.find? (fun p => decide (p.1 = y)) with
      | none => simp [e]
      | some q => simp
  | some u =>
    rw [aput_some h]
    unfold alook at h ⊢
    rw [List.find?_map]
    have hq : ((fun p : Value × Value => decide (p.1 = y)) ∘ fun p : Value × Value => if p.1 = x then (x, v) else p) = fun p => decide (p.1 = y) := by
      funext p
      simp only [Function.comp_apply]
      by_cases e : p.1 = x
      · rw [if_pos e, e]
      · rw [if_neg e]
    rw [hq]
    by_cases e : x = y
    · subst e
      rw [if_pos rfl]
      obtain ⟨q, hq, rfl⟩ := Option.map_eq_some_iff.1 h
      have h1 : q.1 = x := by simpa using List.find?_some hq
      rw [hq]
      simp [h1]
    · rw [if_neg e]
      cases hf : m.find? (fun p => decide (p.1 = y)) with
      | none => rfl
      | some q =>
        have h1 : q.1 = y := by simpa using List.find?_some hf
        have h2 : ¬ q.1 = x := fun f => e (f.symm.trans h1)
        simp [h2]
theorem getC_put (l : List ChunkV) (c : ChunkV) (k : KeyV) : getC (putC l c) k = if c.key = k then some c else getC l k := by
  unfold putC
  cases h : getC l c.key with
  | none =>
    rw [if_neg (by simp)]
    unfold getC at h ⊢
    rw [List.find?_append]
    by_cases e : c.key = k
    · subst e
      rw [if_pos rfl, h]
      simp
    · rw [if_neg e]
      cases hf : l.find? (fun c => decide (c.key = k)) with
      | none => simp [e]
      | some q => simp
  | some u =>
    rw [if_pos (by simp)]
    unfold getC at h ⊢
    rw [List.find?_map]
    have hq : ((fun d : ChunkV => decide (d.key = k)) ∘ fun d : ChunkV => if d.key = c.key then c else d) = fun d => decide (d.key = k) := by
      funext d
      simp only [Function.comp_apply]
      by_cases e : d.key = c.key
      · rw [if_pos e, e]
      · rw [if_neg e]
    rw [hq]
    by_cases e : c.key = k
    · subst e
      rw [if_pos rfl, h]
      have h1 : u.key = c.key := by simpa using List.find?_some h
      simp [h1]
    · rw [if_neg e]
      cases hf : l.find? (fun d => decide (d.key = k)) with
      | none => rfl
      | some q =>
        have h1 : q.key = k := by simpa using List.find?_some hf
        have h2 : ¬ q.key = c.key := fun f => e (f.symm.trans h1)
        simp [h2]
theorem getC_del (l : List ChunkV) (k' k : KeyV) : getC (delC l k') k = if k' = k then none else getC l k := by
  unfold getC delC
  by_cases e : k' = k
  · subst e
    rw [if_pos rfl, List.find?_eq_none]
    intro c hc
    have := (List.mem_filter.1 hc).2
    simpa using this
  · rw [if_neg e]
    induction l with
    | nil => rfl
    | cons c l ih =>
      by_cases h : c.key = k'
      · rw [List.filter_cons_of_neg (by simpa using h), ih, List.find?_cons_of_neg (by simp only [decide_eq_true_eq]; exact fun f => e (h.symm.trans f))]
      · rw [List.filter_cons_of_pos (by simpa using h), List.find?_cons, List.find?_cons, ih]
theorem getC_snoc {l : List ChunkV} {c : ChunkV} (h : getC l c.key = none) (k : KeyV) : getC (l ++ [c]) k = if c.key = k then some c else getC l k := by
  have := getC_put l c k
  unfold putC at this
  rw [h] at this
  exact this
def cnt (l : List ChunkV) (k : KeyV) : Int := ((getC l k).map (·.refs)).getD 0
/-- the map rm tells the numbers of l. -/
def Cnt (rm : List (Value × Value)) (l : List ChunkV) : Prop := ∀ k : KeyV, k.Good → (alook rm k.val).getD (.int .i64 0) = .int .i64 (cnt l k)
theorem Cnt.keep {rm : List (Value × Value)} {l l' : List ChunkV} (h : Cnt rm l) (hk : ∀ k, cnt l' k = cnt l k) : Cnt rm l' := fun k g => by rw [hk]; exact h k g
theorem Cnt.set {rm : List (Value × Value)} {l l' : List ChunkV} {a : KeyV} {n : Int} (h : Cnt rm l) (ha : a.Good) (hk : ∀ k, cnt l' k = if a = k then n else cnt l k) : Cnt (aput rm a.val (.int .i64 n)) l' := fun k g => by
  classical
  rw [hk, alook_aput]
  by_cases e : a = k
  · subst e
    rw [if_pos rfl, if_pos rfl]
    rfl
  · rw [if_neg e, if_neg (fun f => e ((KeyV.val_inj ha g).1 f))]
    exact h k g
theorem Cnt.there {rm : List (Value × Value)} {l : List ChunkV} {a : KeyV} (h : Cnt rm l) (ha : a.Good) (hn : 0 < cnt l a) : alook rm a.val = some (.int .i64 (cnt l a)) := by
  have := h a ha
  cases hv : alook rm a.val with
  | none =>
    rw [hv] at this
    simp at this
    omega
  | some v =>
    rw [hv] at this
    rw [← this]
    rfl
theorem mem_putC {l : List ChunkV} {c d : ChunkV} (h : d ∈ putC l c) : d = c ∨ d ∈ l := by
  unfold putC at h
  split at h
  · obtain ⟨e, he, rfl⟩ := List.mem_map.1 h
    split
    · exact .inl rfl
    · exact .inr he
  · rcases List.mem_append.1 h with h | h
    · exact .inr h
    · exact .inl (List.mem_singleton.1 h)
theorem mem_delC {l : List ChunkV} {k : KeyV} {d : ChunkV} (h : d ∈ delC l k) : d ∈ l := List.filter_sublist.subset h
theorem cnt_put (l : List ChunkV) (c : ChunkV) (k : KeyV) : cnt (putC l c) k = if c.key = k then c.refs else cnt l k := by
  unfold cnt
  rw [getC_put]
  split <;> rfl
theorem cnt_del (l : List ChunkV) (k' k : KeyV) : cnt (delC l k') k = if k' = k then 0 else cnt l k := by
  unfold cnt
  rw [getC_del]
  split <;> rfl
theorem cnt_snoc {l : List ChunkV} {c : ChunkV} (h : getC l c.key = none) (k : KeyV) : cnt (l ++ [c]) k = if c.key = k then c.refs else cnt l k := by
  unfold cnt
  rw [getC_snoc h]
  split <;> rfl
theorem cnt_none {l : List ChunkV} {k : KeyV} (h : getC l k = none) : cnt l k = 0 := by unfold cnt; rw [h]; rfl
theorem cnt_some {l : List ChunkV} {k : KeyV} {c : ChunkV} (h : getC l k = some c) : cnt l k = c.refs := by unfold cnt; rw [h]; rfl
end Go.Proofs.Ytpjdfnilhhknkaa

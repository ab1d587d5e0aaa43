/- What this text proves: the laws of XBase on maps at the operation, for the walk, and the links of the list of layer 15. No conditions. -/
import Derived.Test.YtfpbkofjbnmkeaaBase
import Derived.LaidEqlPtr
namespace Go.Proofs.Ytfpbkofjbnmkeaa
open Go Go.RowKit
open Go.Maps (Keyed)
section
variable {P : Program} {k e t : TypeId} {w : World} {b : Nat} {l : List (Value × Value)} {ops : Array Oper} {rest : List Oper} {o : Oper} {a : Act} {Q : Exit → Act → World → Prop}

theorem wpl_lookup_ok (hg : o.guard = none) (m x : Operand) (t : TypeId) (hop : o.op = Op.lookup t m x true) (k e : TypeId) (K : Keyed P k) (ht : P.underlying t = some (.map k e)) (z : Value) (hz : (zeroValue e).run P w = .ok z w) (b : Nat)
    (l : List (Value × Value)) (h : MapAt w P k b l) (hm : a.eval m = .map (some b)) (key : Value) (kl : Lit) (hkey : keyOf P k key = some kl) (hx : a.eval x = key) (r : Option Value) (hr : alook l key = r)
    (hK : wpList P ops Q rest (a.put o.dst (.tuple #[r.getD z, .bool r.isSome])) w) : wpList P ops Q (o :: rest) a w := by
  refine wpList_plain hg fun K' hK' => ?_
  subst hr
  have hrun := h.look K ht hz hkey true
  unfold Oper.wp
  simp [execOp, hop, hm, hx, hrun, Result.andThen]
  exact hK' _ _ hK
theorem wpl_lookup (hg : o.guard = none) (m x : Operand) (t : TypeId) (hop : o.op = Op.lookup t m x false) (k e : TypeId) (K : Keyed P k) (ht : P.underlying t = some (.map k e)) (z : Value) (hz : (zeroValue e).run P w = .ok z w) (b : Nat)
    (l : List (Value × Value)) (h : MapAt w P k b l) (hm : a.eval m = .map (some b)) (key : Value) (kl : Lit) (hkey : keyOf P k key = some kl) (hx : a.eval x = key) (r : Option Value) (hr : alook l key = r)
    (hK : wpList P ops Q rest (a.put o.dst (r.getD z)) w) : wpList P ops Q (o :: rest) a w := by
  refine wpList_plain hg fun K' hK' => ?_
  subst hr
  have hrun := h.look K ht hz hkey false
  unfold Oper.wp
  simp [execOp, hop, hm, hx, hrun, Result.andThen]
  exact hK' _ _ hK
theorem wpl_mapUpdate (hg : o.guard = none) (m x v : Operand) (t : TypeId) (hop : o.op = Op.mapUpdate t m x v) (k e : TypeId) (K : Keyed P k) (ht : P.underlying t = some (.map k e)) (b : Nat)
    (l : List (Value × Value)) (h : MapAt w P k b l) (hm : a.eval m = .map (some b)) (key val : Value) (kl : Lit) (hkey : keyOf P k key = some kl) (hx : a.eval x = key) (hv : a.eval v = val)
    (hK : ∀ w', MapAt w' P k b (aput l key val) → Upd (· = b) w w' → wpList P ops Q rest (a.put o.dst undef) w') : wpList P ops Q (o :: rest) a w := by
  refine wpList_plain hg fun K' hK' => ?_
  obtain ⟨w', hrun, r1, r2⟩ := h.put (val := val) K ht hkey
  unfold Oper.wp
  simp [execOp, hop, hm, hx, hv, hrun, Result.andThen]
  exact hK' _ _ (hK w' r1 r2)
theorem wpl_delete (hg : o.guard = none) (m x : Operand) (t k : TypeId) (hop : o.op = Op.call { callee := Callee.builtin Builtin.delete, args := #[m, x], argTypes := #[t, k] }) (e : TypeId) (K : Keyed P k) (ht : P.underlying t = some (.map k e)) (b : Nat)
    (l : List (Value × Value)) (h : MapAt w P k b l) (hm : a.eval m = .map (some b)) (key : Value) (kl : Lit) (hkey : keyOf P k key = some kl) (hx : a.eval x = key)
    (hK : ∀ w', MapAt w' P k b (adel l key) → Upd (· = b) w w' → wpList P ops Q rest (a.put o.dst (.tuple #[])) w') : wpList P ops Q (o :: rest) a w := by
  refine wpList_plain hg fun K' hK' => ?_
  obtain ⟨w', hrun, r1, r2⟩ := h.drop (ty := o.type) K ht hkey
  unfold Oper.wp
  simp [execOp, hop, resolve, invoke, builtin, hm, hx, hrun, Result.andThen]
  exact hK' _ _ (hK w' r1 r2)
theorem wpl_len (hg : o.guard = none) (m : Operand) (t : TypeId) (hop : o.op = Op.call { callee := Callee.builtin Builtin.len, args := #[m], argTypes := #[t] }) (k e : TypeId) (ht : P.underlying t = some (.map k e)) (b : Nat)
    (l : List (Value × Value)) (h : MapAt w P k b l) (hm : a.eval m = .map (some b))
    (hK : wpList P ops Q rest (a.put o.dst (.int .i64 l.length)) w) : wpList P ops Q (o :: rest) a w := by
  refine wpList_plain hg fun K' hK' => ?_
  have hrun := h.len ht o.type
  unfold Oper.wp
  simp [execOp, hop, resolve, invoke, builtin, hm, hrun, Result.andThen]
  exact hK' _ _ hK
end

theorem run_neq_ptr_same {P : Program} (w : World) {tp te : TypeId} {j : TypeInfo} (a : Addr) (hp : P.underlying tp = some (.pointer te)) (hte : P.info? te = some j) :
    (binOp .neq tp (.pointer (some a)) (.pointer (some a))).run P w = .ok (.bool false) w := by
  have h : ∀ d : Nat, (Op.equalIn (d + 1) tp (.pointer (some a)) (.pointer (some a))).run P w = .ok true w := fun d => by
    simp [Op.equalIn, run_underlying hp, sizeOf, typeInfo, hte, run_sameAddr_same]
  simp only [binOp]
  simp [Op.equal, Op.maxDepth, h 9999]
theorem run_neq_ptr_other {P : Program} (w : World) {tp te : TypeId} {j : TypeInfo} {a b : Addr} {ca cb : Array Value} {ta tb : TypeId} (hp : P.underlying tp = some (.pointer te)) (hte : P.info? te = some j) (hsz : j.size ≠ 0)
    (hne : a ≠ b) (ha : w.heap[a.block]? = some (.cells ca ta (0, 0))) (hb : w.heap[b.block]? = some (.cells cb tb (0, 0))) :
    (binOp .neq tp (.pointer (some a)) (.pointer (some b))).run P w = .ok (.bool true) w := by
  have h : ∀ d : Nat, (Op.equalIn (d + 1) tp (.pointer (some a)) (.pointer (some b))).run P w = .ok false w := fun d => by
    simp [Op.equalIn, run_underlying hp, sizeOf, typeInfo, hte, hsz, run_sameAddr_other w hne ha hb]
  simp only [binOp]
  simp [Op.equal, Op.maxDepth, h 9999]

/-- The world at hand under a name of its own. -/
theorem wp_world {P : Program} {c : Code} {Q : Exit → Act → World → Prop} {a : Act} {w : World} (h : ∀ W, W = w → c.wp P Q a W) : c.wp P Q a w := h w rfl
theorem wpList_world {P : Program} {ops l : _} {Q : Exit → Act → World → Prop} {a : Act} {w : World} (h : ∀ W, W = w → wpList P ops Q l a W) : wpList P ops Q l a w := h w rfl
theorem calls_world {P : Program} {f : FuncId} {args : Array Value} {R : Ending → World → Prop} {w : World} (h : ∀ W, W = w → Calls P f args W R) : Calls P f args w R := h w rfl

/-! ### links -/
abbrev pt (b : Nat) : Value := .pointer (some ⟨b, 0, none⟩)
def older (w : World) (x y : Nat) : Prop := w.cell? ⟨x, 2, none⟩ = some (pt y)
def newer (w : World) (x y : Nat) : Prop := w.cell? ⟨x, 1, none⟩ = some (pt y)
def addrIs (w : World) (x : Nat) (a : Int) : Prop := w.cell? ⟨x, 0, none⟩ = some (.int .u32 a)

/-- From p on, link by link to the elder one, just the links s; the last is q. -/
def Path (w : World) : Nat → List (Nat × Int) → Nat → Prop
  | p, [], q => p = q
  | p, n :: t, q => older w p n.1 ∧ newer w n.1 p ∧ addrIs w n.1 n.2 ∧ Path w n.1 t q

theorem Path.congr {w w' : World} : ∀ {s : List (Nat × Int)} {p q : Nat}, Path w p s q → (∀ x ∈ s.map (·.1), w'.cell? ⟨x, 0, none⟩ = w.cell? ⟨x, 0, none⟩ ∧ w'.cell? ⟨x, 1, none⟩ = w.cell? ⟨x, 1, none⟩) →
    (∀ x ∈ (p :: s.map (·.1)).dropLast, w'.cell? ⟨x, 2, none⟩ = w.cell? ⟨x, 2, none⟩) → Path w' p s q
  | [], _, _, h, _, _ => h
  | n :: t, p, q, ⟨h1, h2, h3, h4⟩, c1, c2 => by
    have e1 := c1 n.1 (by simp)
    refine ⟨(c2 p (by simp)).trans h1, e1.2.trans h2, e1.1.trans h3, Path.congr h4 (fun x hx => c1 x (by simp at hx ⊢; exact .inr hx)) (fun x hx => c2 x ?_)⟩
    simp only [List.map_cons, List.dropLast_cons_cons, List.mem_cons]
    exact .inr hx
theorem Path.append {w : World} {t : List (Nat × Int)} {q : Nat} : ∀ {s : List (Nat × Int)} {p : Nat}, Path w p (s ++ t) q ↔ ∃ m, Path w p s m ∧ Path w m t q
  | [], p => by simp [Path]
  | n :: s, p => by
    simp only [List.cons_append, Path, Path.append (s := s) (p := n.1)]
    constructor
    · rintro ⟨h1, h2, h3, m, h4, h5⟩; exact ⟨m, ⟨h1, h2, h3, h4⟩, h5⟩
    · rintro ⟨m, ⟨h1, h2, h3, h4⟩, h5⟩; exact ⟨h1, h2, h3, m, h4, h5⟩
theorem Path.last_mem {w : World} : ∀ {s : List (Nat × Int)} {p q : Nat}, Path w p s q → q ∈ p :: s.map (·.1)
  | [], _, _, h => by simp [show _ = _ from h]
  | n :: t, p, q, ⟨_, _, _, h4⟩ => by
    have := Path.last_mem h4
    simp only [List.map_cons, List.mem_cons] at this ⊢
    exact .inr this
theorem Path.last_eq {w : World} : ∀ {s : List (Nat × Int)} {p q : Nat}, Path w p s q → (p :: s.map (·.1)).getLast? = some q
  | [], _, _, h => by simp [show _ = _ from h]
  | n :: t, p, q, ⟨_, _, _, h4⟩ => by
    have := Path.last_eq h4
    simpa [List.getLast?_cons_cons] using this

/-- A ring through l: all links, the latest first. -/
def Ring (w : World) (l : Nat) (ns : List (Nat × Int)) : Prop := ∃ q, Path w l ns q ∧ older w q l ∧ newer w l q

theorem mem_dropLast_ne {q x : Nat} {s : List Nat} (hd : s.Nodup) (hl : s.getLast? = some q) (hx : x ∈ s.dropLast) : x ≠ q := by
  have hs : s = s.dropLast ++ [q] := by
    cases s with
    | nil => simp at hl
    | cons a r =>
      have := List.dropLast_concat_getLast (l := a :: r) (by simp)
      rw [List.getLast?_eq_some_getLast (by simp)] at hl
      rw [Option.some.inj hl] at this
      exact this.symm
  rw [hs] at hd
  have := (List.nodup_append.1 hd).2.2 x hx q (by simp)
  exact this

/-- the link that stands behind the last of s in a ring. -/
def nextOf (l : Nat) (t : List (Nat × Int)) : Nat := match t with | [] => l | n :: _ => n.1

/-- A link put out: its neighbours lead to each other. -/
theorem Ring.cut {w w' : World} {l x : Nat} {a : Int} {s t : List (Nat × Int)} (h : Ring w l (s ++ (x, a) :: t)) (hd : (l :: (s ++ (x, a) :: t).map (·.1)).Nodup) :
    ∃ p, newer w x p ∧ older w x (nextOf l t) ∧ older w p x ∧ newer w (nextOf l t) x ∧ p ∈ l :: s.map (·.1) ∧
      (w'.cell? ⟨p, 2, none⟩ = some (pt (nextOf l t)) → w'.cell? ⟨nextOf l t, 1, none⟩ = some (pt p) →
       (∀ y i, y ∈ l :: (s ++ t).map (·.1) → (y, i) ≠ (p, 2) → (y, i) ≠ (nextOf l t, 1) → w'.cell? ⟨y, i, none⟩ = w.cell? ⟨y, i, none⟩) → Ring w' l (s ++ t)) := by
  obtain ⟨q, h1, h2, h3⟩ := h
  obtain ⟨p, h4, h5, h6, h7, h8⟩ := Path.append.1 h1
  simp only at h5 h6 h7 h8
  have hlast := h4.last_eq
  have hmem := h4.last_mem
  simp only [List.map_append, List.map_cons, List.nodup_cons, List.mem_append, List.mem_cons, List.nodup_append, not_or] at hd
  obtain ⟨⟨hl1, hl2, hl3⟩, hs, ⟨hxt, htd⟩, hst⟩ := hd
  have hpx : p ≠ x := by
    rintro rfl
    rcases List.mem_cons.1 hmem with e | e
    · exact hl2 e.symm
    · exact hst _ e _ (.inl rfl) rfl
  have hls : (l :: s.map (·.1)).Nodup := List.nodup_cons.2 ⟨hl1, hs⟩
  refine ⟨p, h6, ?_, h5, ?_, hmem, fun c1 c2 c3 => ?_⟩
  · cases t with
    | nil => obtain rfl : x = q := h8; exact h2
    | cons n t => exact h8.1
  · cases t with
    | nil => obtain rfl : x = q := h8; exact h3
    | cons n t => exact h8.2.1
  · have keep1 : ∀ y ∈ (s ++ t).map (·.1), w'.cell? ⟨y, 0, none⟩ = w.cell? ⟨y, 0, none⟩ := fun y hy => c3 y 0 (List.mem_cons_of_mem _ hy) (by simp) (by simp)
    have hps : Path w' l s p := by
      refine h4.congr (fun y hy => ⟨keep1 y (by simp at hy ⊢; obtain ⟨b, hb⟩ := hy; exact .inl ⟨b, hb⟩), c3 y 1 (by simp at hy ⊢; obtain ⟨b, hb⟩ := hy; exact .inr (.inl ⟨b, hb⟩)) (by simp) ?_⟩) (fun y hy => c3 y 2 ?_ ?_ (by simp))
      · intro e
        simp only [Prod.mk.injEq, and_true] at e
        subst e
        cases t with
        | nil => exact hl1 hy
        | cons n t => exact hst _ hy n.1 (.inr (by simp)) rfl
      · have := (List.dropLast_sublist _).subset hy
        simp at this ⊢
        rcases this with e | ⟨b, hb⟩
        · exact .inl e
        · exact .inr (.inl ⟨b, hb⟩)
      · intro e
        simp only [Prod.mk.injEq, and_true] at e
        exact mem_dropLast_ne hls hlast hy e
    cases t with
    | nil =>
      refine ⟨p, by simpa using hps, c1, c2⟩
    | cons n t =>
      obtain ⟨g1, g2, g3, g4⟩ := h8
      simp only [nextOf] at c1 c2 c3
      have htd' : (n.1 :: t.map (·.1)).Nodup := by simpa using htd
      have hpt : ∀ y, y ∈ n.1 :: t.map (·.1) → y ≠ p := by
        rintro y hy rfl
        rcases List.mem_cons.1 hmem with e | e
        · exact hl3 (by rw [← e]; simpa using hy)
        · exact hst _ e _ (.inr (by simpa using hy)) rfl
      have hqm := g4.last_mem
      have hql : l ∉ n.1 :: t.map (·.1) := by simpa using hl3
      refine ⟨q, Path.append.2 ⟨p, hps, c1, c2, (keep1 n.1 (by simp)).trans g3, g4.congr (fun y hy => ⟨keep1 y (by simp at hy ⊢; obtain ⟨b, hb⟩ := hy; exact .inr (.inr ⟨b, hb⟩)), c3 y 1 (by simp at hy ⊢; obtain ⟨b, hb⟩ := hy; exact .inr (.inr (.inr ⟨b, hb⟩))) (by simp) ?_⟩) (fun y hy => c3 y 2 ?_ ?_ (by simp))⟩, ?_, ?_⟩
      · intro e
        simp only [Prod.mk.injEq, and_true] at e
        subst e
        exact (List.nodup_cons.1 htd').1 hy
      · have := (List.dropLast_sublist _).subset hy
        simp at this ⊢
        rcases this with e | ⟨b, hb⟩
        · exact .inr (.inr (.inl e))
        · exact .inr (.inr (.inr ⟨b, hb⟩))
      · intro e
        simp only [Prod.mk.injEq, and_true] at e
        exact hpt y ((List.dropLast_sublist _).subset hy) e
      · refine (c3 q 2 ?_ ?_ (by simp)).trans h2
        · simp at hqm ⊢
          rcases hqm with e | ⟨b, hb⟩
          · exact .inr (.inr (.inl e))
          · exact .inr (.inr (.inr ⟨b, hb⟩))
        · intro e
          simp only [Prod.mk.injEq, and_true] at e
          exact hpt q hqm e
      · refine (c3 l 1 (by simp) (by simp) ?_).trans h3
        intro e
        simp only [Prod.mk.injEq, and_true] at e
        exact hql (by rw [e]; simp)

/-- A new link ahead of all others. -/
theorem Ring.push {w w' : World} {l x : Nat} {a : Int} {ns : List (Nat × Int)} (h : Ring w l ns) (hd : (l :: ns.map (·.1)).Nodup) (hx : x ∉ l :: ns.map (·.1))
    (c0 : w'.cell? ⟨x, 0, none⟩ = some (.int .u32 a)) (c1 : w'.cell? ⟨x, 1, none⟩ = some (pt l)) (c2 : w'.cell? ⟨x, 2, none⟩ = some (pt (nextOf l ns)))
    (d1 : w'.cell? ⟨l, 2, none⟩ = some (pt x)) (d2 : w'.cell? ⟨nextOf l ns, 1, none⟩ = some (pt x))
    (c3 : ∀ y i, y ∈ l :: ns.map (·.1) → (y, i) ≠ (l, 2) → (y, i) ≠ (nextOf l ns, 1) → w'.cell? ⟨y, i, none⟩ = w.cell? ⟨y, i, none⟩) : Ring w' l ((x, a) :: ns) := by
  obtain ⟨q, h1, h2, h3⟩ := h
  cases ns with
  | nil => exact ⟨x, ⟨d1, c1, c0, rfl⟩, c2, d2⟩
  | cons n t =>
    obtain ⟨g1, g2, g3, g4⟩ := h1
    simp only [nextOf] at *
    have htd : (n.1 :: t.map (·.1)).Nodup := (List.nodup_cons.1 hd).2
    have hql : l ∉ n.1 :: t.map (·.1) := (List.nodup_cons.1 hd).1
    have hqm := g4.last_mem
    refine ⟨q, ⟨d1, c1, c0, c2, d2, (c3 n.1 0 (by simp) (by simp) (by simp)).trans g3, g4.congr (fun y hy => ⟨c3 y 0 (by simp at hy ⊢; obtain ⟨b, hb⟩ := hy; exact .inr (.inr ⟨b, hb⟩)) (by simp) (by simp), c3 y 1 (by simp at hy ⊢; obtain ⟨b, hb⟩ := hy; exact .inr (.inr ⟨b, hb⟩)) (by simp) ?_⟩) (fun y hy => c3 y 2 ?_ ?_ (by simp))⟩, ?_, ?_⟩
    · intro e
      simp only [Prod.mk.injEq, and_true] at e
      subst e
      exact (List.nodup_cons.1 htd).1 hy
    · have := (List.dropLast_sublist _).subset hy
      simp at this ⊢
      rcases this with e | ⟨b, hb⟩
      · exact .inr (.inl e)
      · exact .inr (.inr ⟨b, hb⟩)
    · intro e
      simp only [Prod.mk.injEq, and_true] at e
      subst e
      exact hql ((List.dropLast_sublist _).subset hy)
    · refine (c3 q 2 ?_ ?_ (by simp)).trans h2
      · simp at hqm ⊢
        rcases hqm with e | ⟨b, hb⟩
        · exact .inr (.inl e)
        · exact .inr (.inr ⟨b, hb⟩)
      · intro e
        simp only [Prod.mk.injEq, and_true] at e
        subst e
        exact hql hqm
    · refine (c3 l 1 (by simp) (by simp) ?_).trans h3
      intro e
      simp only [Prod.mk.injEq, and_true] at e
      exact hql (by rw [e]; simp)
end Go.Proofs.Ytfpbkofjbnmkeaa

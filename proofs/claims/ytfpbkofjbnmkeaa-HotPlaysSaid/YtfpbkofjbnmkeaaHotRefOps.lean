/- What this text proves: contracts of pumiceref16's New, Drop, Get, Offer, All. Conditions: each theorem's own. -/
import Derived.Test.YtfpbkofjbnmkeaaHotRef
namespace Go.Proofs.Ytfpbkofjbnmkeaa
open Go Go.RowKit Go.Lib
open Go.Proofs
set_option linter.unusedVariables false
set_option linter.unusedSimpArgs false

/-- the document's cache, as a value. -/
structure Doc where
  room : Int
  k : Int
  its : List It
  gl : List Int
def DocAt (w : World) (r : Nat) (d : Doc) (F : Nat → Prop) : Prop := RAt w r d.room d.k d.its d.gl F
theorem DocAt.lt {w : World} {r : Nat} {d : Doc} {F : Nat → Prop} (H : DocAt w r d F) : ∀ q, F q → q < w.heap.size := by
  obtain ⟨v, g, Fg, H⟩ := H
  exact H.lt
theorem DocAt.upd {S : Nat → Prop} {w w' : World} {r : Nat} {d : Doc} {F : Nat → Prop} (H : DocAt w r d F) (hu : Upd S w w') (hs : ∀ q, F q → ¬ S q) : DocAt w' r d F := RAt.upd H hu hs
def DTurned (w w' : World) (r : Nat) (d : Doc) (F : Nat → Prop) : Prop := (∃ F', (∀ q, F' q → F q ∨ fresh w w' q) ∧ DocAt w' r d F') ∧ Upd F w w'
theorem DTurned.trans {w w1 w2 : World} {r : Nat} {d1 d2 : Doc} {F : Nat → Prop} (T : DTurned w w1 r d1 F) (h : ∀ F1, (∀ q, F1 q → F q ∨ fresh w w1 q) → DocAt w1 r d1 F1 → DTurned w1 w2 r d2 F1) : DTurned w w2 r d2 F := by
  obtain ⟨⟨F1, hF1, H1⟩, hu1⟩ := T
  obtain ⟨⟨F2, hF2, H2⟩, hu2⟩ := h F1 hF1 H1
  have hs1 := hu1.size
  have hs2 := hu2.size
  refine ⟨⟨F2, fun q hq => ?_, H2⟩, hu1.trans hu2 (fun i hi hk => (hF1 i hk).elim id (fun f => by have := f.1; omega))⟩
  rcases hF2 q hq with f | f
  · rcases hF1 q f with f | f
    · exact .inl f
    · exact .inr ⟨f.1, by have := f.2; omega⟩
  · exact .inr ⟨by have := f.1; omega, f.2⟩
theorem DTurned.two {w w1 w2 : World} {r : Nat} {d2 : Doc} {F F1 : Nat → Prop} (hF1 : ∀ q, F1 q → F q ∨ fresh w w1 q) (hu1 : Upd F w w1) (T : DTurned w1 w2 r d2 F1) : DTurned w w2 r d2 F := by
  obtain ⟨⟨F2, hF2, H2⟩, hu2⟩ := T
  have hs1 := hu1.size
  have hs2 := hu2.size
  refine ⟨⟨F2, fun q hq => ?_, H2⟩, hu1.trans hu2 (fun i hi hk => (hF1 i hk).elim id (fun f => by have := f.1; omega))⟩
  rcases hF2 q hq with f | f
  · rcases hF1 q f with f | f
    · exact .inl f
    · exact .inr ⟨f.1, by have := f.2; omega⟩
  · exact .inr ⟨by have := f.1; omega, f.2⟩
theorem DTurned.upd {w w1 w2 : World} {r : Nat} {d : Doc} {F : Nat → Prop} (T : DTurned w w1 r d F) (hu : Upd (fun _ => False) w1 w2) : DTurned w w2 r d F :=
  T.trans fun F1 _ H1 => ⟨⟨F1, fun q hq => .inl hq, H1.upd hu (fun _ _ f => f)⟩, hu.mono (fun _ _ f => f.elim)⟩
theorem take_at {w : World} {r : Nat} {d : Doc} {F : Nat → Prop} (H : DocAt w r d F) (a : Int) (hx : d.its.length ≤ 5000) :
    Calls Try.prog 27 #[pt r, .int .u32 a] w fun e w' => e = .returned (.tuple #[itVal ((findI d.its a).getD zeroIt), .bool (findI d.its a).isSome]) ∧ DTurned w w' r { d with its := delI d.its a } F := by
  obtain ⟨v, g, Fg, H⟩ := H
  refine (take_calls H a hx).mono ?_
  rintro e w' ⟨rfl, ⟨v', H'⟩, hu⟩
  exact ⟨rfl, ⟨_, fun q hq => hq, v', g, Fg, H'⟩, hu⟩
theorem front_at {w : World} {r : Nat} {d : Doc} {F : Nat → Prop} (H : DocAt w r d F) (p : It) (h0 : 0 ≤ d.room) (hx : d.its.length ≤ 5000) :
    Calls Try.prog 29 #[pt r, itVal p] w fun e w' => e = .returned (.tuple #[]) ∧ DTurned w w' r { d with its := (p :: d.its).take d.room.toNat } F := by
  obtain ⟨v, g, Fg, H⟩ := H
  obtain ⟨room, k, its, gl⟩ := d
  obtain ⟨m, rfl⟩ := Int.eq_ofNat_of_zero_le (show 0 ≤ room from h0)
  refine (front_calls H p hx).mono ?_
  rintro e w' ⟨rfl, ⟨v', H'⟩, hu⟩
  exact ⟨rfl, ⟨_, fun q hq => hq, v', g, Fg, H'⟩, hu⟩
theorem rnew_calls (w : World) (room k : Int) : Calls Try.prog 14 #[.int .i64 room, .int .i64 k] w fun e w' => ∃ r, e = .returned (pt r) ∧ DocAt w' r ⟨room, k, [], []⟩ (fun q => w.heap.size ≤ q ∧ q < w'.heap.size) ∧ Upd (fun _ => False) w w' := by
  go_enter Try.func14, Try.ntmps14
  go_wp2_with fail
  go_ret
  have h0 := at_alloc_old (heap_alloc_last w (.cells #[.slice none 0 0, .int .i64 k] 62)) (.cells #[.slice none 0 0, .int .i64 room, pt w.heap.size] 65)
  have h1 := heap_alloc_last (w.alloc (.cells #[.slice none 0 0, .int .i64 k] 62)) (.cells #[.slice none 0 0, .int .i64 room, pt w.heap.size] 65)
  rw [size_alloc] at h1
  refine ⟨_, rfl, ⟨.slice none 0 0, w.heap.size, fun q => q = w.heap.size, h1, World.ownsRow_nil _ _ _ _, ⟨⟨_, h0, World.ownsRow_nil _ _ _ _, fun q hq => by simp [Value.ownBlock] at hq⟩, rfl, fun q hq => by rw [hq, size_alloc, size_alloc]; omega⟩, ?_, fun q hq => by simp [Value.ownBlock] at hq, fun q hq => ?_, fun q hq => hq.2⟩, ((Upd.refl _ w).alloc _).alloc _⟩
  · exact ⟨by omega, by rw [size_alloc, size_alloc]; omega⟩
  · rw [hq]
    exact ⟨⟨Nat.le_refl _, by rw [size_alloc, size_alloc]; omega⟩, by omega⟩
def dropD (d : Doc) (a : Int) : Doc := { d with its := delI d.its a }
theorem rdropc_calls {w : World} {r : Nat} {d : Doc} {F : Nat → Prop} (H : DocAt w r d F) (a : Int) (hx : d.its.length ≤ 5000) :
    Calls Try.prog 17 #[pt r, .int .u32 a] w fun e w' => e = .returned (.bool (findI d.its a).isSome) ∧ DTurned w w' r (dropD d a) F := by
  obtain ⟨p, hp⟩ : ∃ p, p = (findI d.its a).getD zeroIt := ⟨_, rfl⟩
  obtain ⟨bb, hb⟩ : ∃ bb, bb = (findI d.its a).isSome := ⟨_, rfl⟩
  have HT := Lib.hid (take_at H a hx)
  rw [← hp, ← hb] at HT
  rw [← hb]
  have e : itVal p = .agg #[.int .u32 p.1, .string (strOfNums p.2)] := rfl
  rw [e] at HT
  clear hp hb e
  go_enter Try.func17, Try.ntmps17
  go_wp2_with fail
  refine HT.out.mono ?_
  rintro e w1 ⟨rfl, T1⟩
  cases bb
  all_goals
    go_wp2_with fail
    go_ret
    exact ⟨rfl, T1.upd ((Upd.refl _ w1).alloc _)⟩
def getD' (d : Doc) (a : Int) : Doc := match findI d.its a with
  | none => { d with its := delI d.its a }
  | some p => { d with its := (p :: delI d.its a).take d.room.toNat }
theorem delI_len (its : List It) (a : Int) : (delI its a).length ≤ its.length := by
  unfold delI
  exact List.length_eraseP_le
theorem rget_calls {w : World} {r : Nat} {d : Doc} {F : Nat → Prop} (H : DocAt w r d F) (a : Int) (h0 : 0 ≤ d.room) (hx : d.its.length ≤ 5000) :
    Calls Try.prog 16 #[pt r, .int .u32 a] w fun e w' => e = .returned (.tuple #[.string (strOfNums ((findI d.its a).getD zeroIt).2), .bool (findI d.its a).isSome]) ∧ DTurned w w' r (getD' d a) F := by
  obtain ⟨p, hp⟩ : ∃ p, p = (findI d.its a).getD zeroIt := ⟨_, rfl⟩
  have HT := Lib.hid (take_at H a hx)
  have hdl := delI_len d.its a
  rw [← hp] at HT ⊢
  have e : itVal p = .agg #[.int .u32 p.1, .string (strOfNums p.2)] := rfl
  rw [e] at HT
  unfold getD'
  cases hf : findI d.its a with
  | none =>
    rw [hf] at HT
    simp only [Option.isSome_none] at HT ⊢
    clear hp e hf
    go_enter Try.func16, Try.ntmps16
    go_wp2_with fail
    refine HT.out.mono ?_
    rintro e w1 ⟨rfl, T1⟩
    go_wp2_with fail
    go_ret2
    exact ⟨rfl, T1.upd ((Upd.refl _ w1).alloc _)⟩
  | some x =>
    rw [hf] at HT hp
    simp only [Option.isSome_some, Option.getD_some] at HT hp ⊢
    subst hp
    clear e hf
    go_enter Try.func16, Try.ntmps16
    go_wp2_with fail
    refine HT.out.mono ?_
    rintro e w1 ⟨rfl, T1⟩
    obtain ⟨⟨F1, hF1, H1⟩, hu1⟩ := T1
    have hnf : ¬ F1 w1.heap.size := fun f => by have := H1.lt _ f; omega
    have HX := Lib.hid (And.intro hF1 (And.intro H1 (And.intro hu1 hnf)))
    clear hF1 H1 hu1 hnf
    go_wp2_with fail
    have hz := heap_alloc_last w1 (.cells #[.int .u32 p.1, .string (strOfNums p.2)] 67)
    have hu2 := (Upd.refl (fun _ => False) w1).alloc (.cells #[.int .u32 p.1, .string (strOfNums p.2)] 67)
    refine (front_at (HX.out.2.1.upd hu2 (fun _ _ f => f)) p h0 (by show (delI d.its a).length ≤ 5000; omega)).mono ?_
    rintro e w2 ⟨rfl, T2⟩
    have hz2 := T2.2.at hz HX.out.2.2.2
    have k1 : w2.cell? ⟨w1.heap.size, 1, none⟩ = some (.string (strOfNums p.2)) := cell_at hz2 1
    have HT2 := Lib.hid (And.intro T2 hu2)
    clear T2 hz hz2 hu2
    go_wp2_with fail
    go_ret2
    exact ⟨rfl, DTurned.two HX.out.1 HX.out.2.2.1 (DTurned.two (fun q hq => .inl hq) (HT2.out.2.mono (fun _ _ f => f.elim)) HT2.out.1)⟩
def offerD (d : Doc) (a : Int) (bs : List Int) : Bool × Doc :=
  if (findI d.its a).isSome then (true, { d with its := ((a, bs) :: delI d.its a).take d.room.toNat })
  else if a ∈ d.gl ∧ d.room ≠ 0 then (true, { d with its := ((a, bs) :: d.its).take d.room.toNat, gl := askList d.k d.gl a })
  else (false, { d with gl := askList d.k d.gl a })
theorem RLies.ask {w w' : World} {r : Nat} {room k : Int} {its : List It} {gl gl' : List Int} {F : Nat → Prop} {v : Value} {g : Nat} {Fg : Nat → Prop} (H : RLies w r room k its gl F v g Fg) (hl : RList w' g k gl' (fun q => Fg q ∨ fresh w w' q)) (hu : Upd Fg w w') :
    RLies w' r room k its gl' (fun q => F q ∨ fresh w w' q) v g (fun q => Fg q ∨ fresh w w' q) := by
  have hr := H.lt r H.fr
  have hs := hu.size
  refine ⟨hu.at H.here (fun f => (H.fg r f).2 rfl), ownsRow_upd H.row hu (fun q hq => (H.fv q hq).2.2), hl, .inl H.fr, fun q hq => ?_, fun q hq => ?_, fun q hq => ?_⟩
  · have h1 := H.fv q hq
    have h2 := H.lt q h1.1
    exact ⟨.inl h1.1, h1.2.1, fun f => f.elim h1.2.2 (fun f => by have := f.1; omega)⟩
  · rcases hq with hq | hq
    · exact ⟨.inl (H.fg q hq).1, (H.fg q hq).2⟩
    · exact ⟨.inr hq, fun e => by have := hq.1; omega⟩
  · rcases hq with hq | hq
    · exact Nat.lt_of_lt_of_le (H.lt q hq) hs
    · exact hq.2
theorem delI_none {its : List It} {a : Int} (h : findI its a = none) : delI its a = its := by
  unfold findI at h
  rw [List.find?_eq_none] at h
  exact (find_not (fun p hp => by simpa using h p hp)).2
theorem roffer_calls {w : World} {r : Nat} {d : Doc} {F : Nat → Prop} (H : DocAt w r d F) (a : Int) (bs : List Int) (h0 : 0 ≤ d.room) (hk0 : 0 ≤ d.k) (hx : d.its.length ≤ 5000) (hg : d.gl.length ≤ 100000) :
    Calls Try.prog 15 #[pt r, .int .u32 a, .string (strOfNums bs)] w fun e w' => e = .returned (.bool (offerD d a bs).1) ∧ DTurned w w' r (offerD d a bs).2 F := by
  obtain ⟨p, hp⟩ : ∃ p, p = (findI d.its a).getD zeroIt := ⟨_, rfl⟩
  have HT := Lib.hid (take_at H a hx)
  have hdl := delI_len d.its a
  rw [← hp] at HT
  have e : itVal p = .agg #[.int .u32 p.1, .string (strOfNums p.2)] := rfl
  rw [e] at HT
  have hq : itVal (a, bs) = .agg #[.int .u32 a, .string (strOfNums bs)] := rfl
  unfold offerD
  by_cases hsome : (findI d.its a).isSome = true
  · rw [if_pos hsome]
    rw [hsome] at HT
    clear hp e
    go_enter Try.func15, Try.ntmps15
    go_wp2_with fail
    refine HT.out.mono ?_
    rintro e w1 ⟨rfl, T1⟩
    have HT1 := Lib.hid T1; clear T1
    go_wp2_with fail
    have T2 := HT1.out.upd ((Upd.refl (fun _ => False) w1).alloc (.cells #[.int .u32 p.1, .string (strOfNums p.2)] 67))
    obtain ⟨⟨F1, hF1, H1⟩, hu1⟩ := T2
    rw [← hq]
    refine (front_at H1 (a, bs) h0 (by show (delI d.its a).length ≤ 5000; omega)).mono ?_
    rintro e w2 ⟨rfl, T3⟩
    have HT3 := Lib.hid (And.intro hF1 (And.intro H1 (And.intro hu1 T3))); clear T3 hF1 H1 hu1
    go_wp2_with fail
    go_ret
    exact ⟨rfl, DTurned.two HT3.out.1 HT3.out.2.2.1 HT3.out.2.2.2⟩
  · rw [if_neg hsome]
    have hn : findI d.its a = none := by simpa using hsome
    have hd := delI_none hn
    rw [hn] at HT
    simp only [Option.isSome_none] at HT
    rw [hd] at HT
    clear hp e
    have hbb : ∀ bb : Bool, decide (a ∈ d.gl) = bb → (bb = true ↔ a ∈ d.gl) := fun bb h => by rw [← h]; simp
    obtain ⟨bb, hb⟩ : ∃ bb, bb = decide (a ∈ d.gl) := ⟨_, rfl⟩
    have HB := Lib.hid (hbb bb hb.symm)
    have HBE := Lib.hid hb
    clear hbb hb
    generalize hres : (if a ∈ d.gl ∧ d.room ≠ 0 then (true, ({ d with its := ((a, bs) :: d.its).take d.room.toNat, gl := askList d.k d.gl a } : Doc)) else (false, { d with gl := askList d.k d.gl a })) = res
    have HRES := Lib.hid hres
    clear hres
    by_cases hr : d.room = 0
    all_goals
      have HR := Lib.hid hr
      cases bb
    all_goals
      go_enter Try.func15, Try.ntmps15
      go_wp2_with fail
      refine HT.out.mono ?_
      rintro e w1 ⟨rfl, T1⟩
      have T2 := T1.upd ((Upd.refl (fun _ => False) w1).alloc (.cells #[.int .u32 p.1, .string (strOfNums p.2)] 67))
      obtain ⟨⟨F1, hF1, v, g, Fg, H1⟩, hu1⟩ := T2
      have HT2 := Lib.hid (And.intro hF1 (And.intro H1 hu1))
      have c1 := cell_at H1.here 1
      have c2 := cell_at H1.here 2
      clear T1 hF1 H1 hu1
      go_wp2_with fail
      have hra := rask_calls _ g d.k d.gl Fg a HT2.out.2.1.list hg hk0
      rw [← HBE.out] at hra
      refine hra.mono ?_
      rintro e w2 ⟨rfl, hl2, hu2⟩
      have A := HT2.out.2.1.ask hl2 hu2
      have c21 := cell_at A.here 1
      have HA := Lib.hid (And.intro A (hu2.mono (fun q _ f => (HT2.out.2.1.fg q f).1)))
      clear A hl2 hu2 hra c1 c2
      have hrm : (d.room == 0) = decide (d.room = 0) := rfl
      go_wp2_with fail
    iterate 3
      go_ret
      have e : res = (false, { d with gl := askList d.k d.gl a }) := by
        rw [← HRES.out]
        first
          | rw [if_neg (fun f => absurd (HB.out.2 f.1) (by decide))]
          | rw [if_neg (fun f => f.2 HR.out)]
      rw [e]
      exact ⟨rfl, DTurned.two HT2.out.1 HT2.out.2.2 ⟨⟨_, fun q hq => hq, v, g, _, HA.out.1⟩, HA.out.2⟩⟩
    rw [← hq]
    refine (front_at (d := { d with gl := askList d.k d.gl a }) ⟨v, g, _, HA.out.1⟩ (a, bs) h0 hx).mono ?_
    rintro e w3 ⟨rfl, T3⟩
    have HT3 := Lib.hid T3; clear T3
    go_wp2_with fail
    go_ret
    have e : res = (true, { d with its := ((a, bs) :: d.its).take d.room.toNat, gl := askList d.k d.gl a }) := by rw [← HRES.out, if_pos ⟨HB.out.1 (by first | rfl | trivial), HR.out⟩]
    rw [e]
    exact ⟨rfl, DTurned.two HT2.out.1 HT2.out.2.2 (DTurned.two (fun q hq => hq) HA.out.2 HT3.out)⟩
set_option maxHeartbeats 2000000 in
theorem rall_calls {w : World} {r : Nat} {d : Doc} {F : Nat → Prop} (H : DocAt w r d F) (hx : d.its.length ≤ 5000) :
    Calls Try.prog 20 #[pt r] w fun e w' => ∃ v', e = .returned v' ∧ w'.ownsRow w.heap.size 23 1 v' (d.its.map (·.1)).length ((d.its.map (·.1)).map (.int .u32)) ∧ Below w.heap.size w w' := by
  obtain ⟨v, g, Fg, H⟩ := H
  obtain ⟨its, hits⟩ : ∃ its, its = d.its := ⟨_, rfl⟩
  rw [← hits] at H hx ⊢
  obtain ⟨ao, c, hv⟩ := (owns_reads H.row).len
  subst hv
  have hr := H.lt r H.fr
  have c0 : w.cell? ⟨r, 0, none⟩ = some (.slice ao its.length c) := cell_at H.here 0
  have HH := Lib.hid H
  clear H hits
  obtain ⟨i0, hi, hz0, hz1, hz2⟩ := info_parts infoU32
  go_enter Try.func20, Try.ntmps20
  go_wp2_with fail
  go_loopg [3, 4] its.length (fun n l i wr => ∃ q : Nat, q + n = its.length ∧ i = .int .i64 q ∧ Hid (wr.ownsRow w.heap.size 23 1 l q (((its.take q).map (·.1)).map (.int .u32)) ∧ Below w.heap.size w wr))
  case atStart => exact ⟨0, by simp, rfl, Lib.hid ⟨World.ownsRow_nil _ _ _ _, Below.refl _ _⟩⟩
  case round =>
    obtain ⟨q, hq, rfl, HO⟩ := hrel
    have c0r : wr.cell? ⟨r, 0, none⟩ = some (.slice ao its.length c) := (HO.out.2.cell (p := ⟨r, 0, none⟩) hr).trans c0
    by_cases hlt : q < its.length
    · have hcc := its_cells hlt
      obtain ⟨x, hxx⟩ : ∃ x, x = its[q] := ⟨_, rfl⟩
      rw [← hxx] at hcc
      have hwsz := HO.out.2.size
      have HK := Lib.hid hcc; have HX := Lib.hid (And.intro hlt hxx)
      have HR : Hid (Reads wr 2 (.slice ao its.length c) its.length (its.flatMap It.cells)) := Lib.hid ((owns_reads HH.out.row).keep (fun k hk hl => HO.out.2.block k hl))
      clear hcc hxx
      go_wp2_with (first
        | ((with_reducible change wpList _ _ _ (⟨_, Op.indexAddr _ _ _, _, _, _, _⟩ :: _) _ _); refine wpl_index rfl _ _ _ rfl 67 2 Try.underlying63 sizeItem (by decide) _ _ _ HR.out rfl q rfl HX.out.1 ?_; intro bk off _ hcell; have e0 := hcell 0 _ HK.out.1; clear hcell; simp only [Nat.add_zero] at e0)
        | ((with_reducible change wpList _ _ _ (⟨_, Op.call { callee := Callee.builtin Builtin.append, args := _, argTypes := _ }, _, _, _, _⟩ :: _) _ _); refine wpList_append_own _ rfl _ _ 44 rfl w.heap.size 23 i0 (.int .u32 0) 1 4 Try.underlying44 hi hz0 hz1 hz2 rfl (by decide) _ _ _ rfl (HO.out.1.alloc _) ⟨wr.heap.size, 0, none⟩ 1 1 [.int .u32 x.1] rfl rfl (cell_one_new _ _ _) (ints_oneCell .u32 [x.1]) (by unfold maxLen; omega) (by omega) (by simp; omega) ?_; intro v' w1 hown' hgrow _; have hb1 := grown_below HO.out.1 hgrow HO.out.2 hwsz; have HO1 := Lib.hid (And.intro hown' hb1); clear hown' hgrow hb1))
      go_roundg (its.length - (q + 1))
      case measure => have := HX.out.1; omega
      case rel =>
        refine ⟨q + 1, by have := HX.out.1; omega, by go_num, Lib.hid ⟨?_, HO1.out.2⟩⟩
        have hl := HX.out.1
        rw [List.take_succ_eq_append_getElem hl, ← HX.out.2]
        simpa using HO1.out.1
    · have hnl : ¬ ((q : Int) < (its.length : Int)) := by omega
      go_wp2_with fail
      go_ret
      have e : its.take q = its := List.take_of_length_le (by omega)
      have e3 : its.length = q := by omega
      refine ⟨_, rfl, ?_, HO.out.2⟩
      have h1 := HO.out.1
      rw [e] at h1
      have e4 : (its.map (·.1)).length = its.length := by simp
      first
        | (rw [e4, e3]; exact h1)
        | (rw [e3, ← List.map_map]; exact h1)
end Go.Proofs.Ytfpbkofjbnmkeaa

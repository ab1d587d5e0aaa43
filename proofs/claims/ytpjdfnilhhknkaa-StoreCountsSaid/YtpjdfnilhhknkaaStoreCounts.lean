/- What this text proves: the walk of StoreCounts. No conditions. -/
import Derived.Test.YtpjdfnilhhknkaaStoreCnt
namespace Go.Proofs.Ytpjdfnilhhknkaa.storeCounts
open Go Go.RowKit
open Go.Proofs Go.Proofs.Ytpjdfnilhhknkaa
set_option linter.unusedVariables false
set_option linter.unusedSimpArgs false

/-- behind k acts. -/
structure St (w : World) (B b m r : Nat) (F : Nat → Prop) (k : Nat) (l : List ChunkV) (rm : List (Value × Value)) (wr : World) : Prop where
  store : StoreV wr b m l F
  map : MapAt wr Try.prog 32 r rm
  cnt : Cnt rm l
  refs : ∀ c ∈ l, 0 < c.refs ∧ c.refs ≤ k
  below : Below B w wr
  size : B ≤ wr.heap.size
theorem wp_lookup {P : Program} {k e t : TypeId} {w : World} {b : Nat} {l : List (Value × Value)} {o : Oper} {a : Act} {K : Act → World → Prop} {Q : Exit → Act → World → Prop} (m x : Operand) (hop : o.op = Op.lookup t m x false) (hk : Maps.Keyed P k) (ht : P.underlying t = some (.map k e)) (z : Value) (hz : (zeroValue e).run P w = .ok z w)
    (h : MapAt w P k b l) (hm : a.eval m = .map (some b)) (key : Value) (kl : Lit) (hkey : keyOf P k key = some kl) (hx : a.eval x = key) (v : Value) (hr : (alook l key).getD z = v)
    (hK : K (a.put o.dst v) w) : o.wp P a w K Q := by
  subst hr
  have hrun := h.look hk ht hz hkey false
  unfold Oper.wp
  simp [execOp, hop, hm, hx, hrun, Result.andThen]
  exact hK
set_option maxRecDepth 20000 in
set_option maxHeartbeats 8000000 in
theorem walk (acts : GActs) (v : Value) (w : World) (hv : Reads w 37 v acts.length acts.cells) (hl : acts.length ≤ maxLen) :
    Calls Try.prog 3 #[v] w fun e w' => e = .returned (.bool true) ∧ Below w.heap.size w w' := by
  obtain ⟨B, hB⟩ : ∃ B, B = w.heap.size := ⟨_, rfl⟩
  rw [← hB]
  have HV := Lib.hid hv; clear hv
  obtain ⟨va, vc, hva⟩ := HV.out.len
  subst hva
  have HB := Lib.hid hB; clear hB
  have hmm := @run_makeMap Try.prog
  go_enter Try.func3, Try.ntmps3
  go_wp2_with fail
  refine (shown_calls w).mono ?_
  rintro e w0 ⟨rfl, hu0⟩
  have hb0 : Below B w w0 := hu0.below (by rw [HB.out]; exact Nat.le_refl _) (fun _ f => f.elim)
  have hs0 : B ≤ w0.heap.size := by have := hu0.size; rw [HB.out]; exact this
  clear hu0
  go_wp2_with fail
  refine (new_calls w0).mono ?_
  rintro e w1 ⟨b, m, rfl, hS, hu⟩
  have hst : St w B b m w1.heap.size (fresh w0 w1) 0 [] [] (w1.alloc (.map #[] 0)) := by
    have hu' : Upd (fun _ => False) w0 (w1.alloc (.map #[] 0)) := hu.alloc _
    exact ⟨hS.upd ((Upd.refl (fun _ => False) w1).alloc _) (fun _ _ f => f), MapAt.made w1 Try.prog 32, fun k hk => rfl, fun c hc => by simp at hc, hb0.trans (hu'.below hs0 (fun _ f => f.elim)), Nat.le_trans hs0 hu'.size⟩
  have HX0 : Hid ((∀ k, fresh w0 w1 k → B ≤ k) ∧ (∀ k, fresh w0 w1 k → k < w1.heap.size) ∧ m < w1.heap.size ∧ B ≤ m ∧ b ≠ m) := Lib.hid ⟨fun k hk => Nat.le_trans hs0 hk.1, fun k hk => hk.2, hS.self.2.1.2, Nat.le_trans hs0 hS.self.2.1.1, hS.self.2.2⟩
  have HB1 : Hid (B ≤ w1.heap.size) := Lib.hid (Nat.le_trans hs0 hu.size)
  have HS := Lib.hid hst
  clear hst hS hu hb0 hs0
  generalize fresh w0 w1 = F at *
  go_wp2_with fail
  have hv1 := HV.out.below HS.out.below (by rw [HB.out]; exact Nat.le_refl _)
  refine (few_calls _ _ _ _ hv1 hl).mono ?_
  rintro e w2 ⟨v1, rfl, hsl, rfl⟩
  have hv2 := hsl.1 _ _ HV.out
  clear hsl hv1
  simp only [Nat.zero_mul, List.drop_zero, Nat.sub_zero] at hv2
  unfold GActs.cells at hv2
  rw [flatMap_take (fun a : {a : ActV // a.Good} => a.1.cells) 37 (fun a => ActV.len a.2)] at hv2
  obtain ⟨acts', hacts⟩ : ∃ acts', acts' = acts.take (min acts.length 200) := ⟨_, rfl⟩
  rw [← hacts] at hv2
  have hlen : acts'.length = min acts.length 200 := by rw [hacts]; simp
  rw [← hlen] at hv2
  have hle : acts'.length ≤ 200 := by omega
  obtain ⟨va1, vc1, hva1⟩ := hv2.len
  subst hva1
  have HV2 := Lib.hid hv2
  clear hv2 hacts hlen HV
  obtain ⟨r, hr⟩ : ∃ r, r = w1.heap.size := ⟨_, rfl⟩
  rw [← hr] at HX0 HB1 HS
  go_wp2_with fail
  rw [← hr]
  have HRR := Lib.hid hr; clear hr
  go_loopg [22] acts'.length (fun g i wr => ∃ (k : Nat) (l : List ChunkV) (rm : List (Value × Value)), k + g = acts'.length ∧ i = .int .i64 k ∧ St w B b m r F k l rm wr)
  case atStart => exact ⟨0, [], [], by simp, rfl, HS.out⟩
  case round =>
    obtain ⟨k, l, rm, hk, rfl, hst⟩ := hrel
    have HC := Lib.hid hst; clear hst
    clear HS
    by_cases hlt : k < acts'.length
    · obtain ⟨⟨a, ha⟩, hak⟩ : ∃ x, acts'[k] = x := ⟨_, rfl⟩
      have HAK := Lib.hid hak; clear hak
      have HX := Lib.hid hlt
      have hal := ActV.len ha
      have hkl := KeyV.clen ha.key
      have HR : Hid (Reads wr 37 (.slice va1 acts'.length vc1) acts'.length (acts'.flatMap fun a => a.1.cells)) := Lib.hid (HV2.out.below HC.out.below (by rw [HB.out]; exact Nat.le_refl _))
      have HK : Hid (∀ j u, a.cells[j]? = some u → (acts'.flatMap fun a => a.1.cells)[k * 37 + j]? = some u) := Lib.hid (fun j u hu => by
        rw [flatMap_get (fun a : {a : ActV // a.Good} => a.1.cells) 37 (fun a => ActV.len a.2) acts' k j hlt (by have := (List.getElem?_eq_some_iff.1 hu).1; omega), HAK.out]
        exact hu)
      obtain ⟨lit, hlit⟩ := key_lit ha.key
      obtain ⟨wn, hwn⟩ : ∃ n, n = cnt l a.key := ⟨_, rfl⟩
      have hlook : (alook rm a.key.val).getD (.int .i64 0) = .int .i64 wn := by rw [hwn]; exact HC.out.cnt a.key ha.key
      have HWN := Lib.hid hwn; clear hwn
      have HLO := Lib.hid hlook; clear hlook
      have HLIT := Lib.hid hlit; clear hlit
      go_wp2_with (first
        | ((with_reducible change wpList _ _ _ (⟨_, Op.indexAddr _ _ _, _, _, _, _⟩ :: _) _ _); refine wpl_index rfl _ _ _ rfl 36 37 Try.underlying22 sizeAct (by decide) _ _ _ HR.out rfl k rfl HX.out ?_; intro bk off _ hcell; have HRA : Hid (wr.rangeAt bk off a.cells) := Lib.hid (fun j u hu => hcell j u (HK.out j u hu)); clear hcell)
        | ((with_reducible change wpList _ _ _ (⟨_, Op.load _ _, _, _, _, _⟩ :: _) _ _); refine wpl_load rfl 36 _ rfl bk off rfl a.cells _ HRA.out Try.underlying36 rfl (by rw [hal]; kernel_rfl) ?_)
        | ((with_reducible change wpList _ _ _ (⟨_, Op.store _ _ _, _, _, _, _⟩ :: _) _ _); refine wpList_store_mid rfl _ _ _ rfl wr.heap.size 0 a.cells.toArray rfl rfl (there_new wr _ _ (by rw [List.size_toArray, hal]; exact Nat.le_refl _)) (by simp only [List.size_toArray]; rw [hal]; kernel_rfl) (all_oneCell_toArray ActV.one) ?_
           refine wpList_world fun W2 hW2 => ?_
           have h4 : W2.heap[wr.heap.size]? = some (.cells a.cells.toArray 36 (0, 0)) := by rw [hW2]; exact at_setAll (heap_alloc_last wr _) (by rw [hal]; rfl)
           have hu2 : Upd (fun _ => False) wr W2 := by rw [hW2]; exact Upd.setCells (S := fun _ => False) (fun hg => absurd hg (Nat.lt_irrefl _)) _ _ ((Upd.refl _ wr).alloc _)
           have hr2 : W2.rangeAt wr.heap.size 0 a.cells := range_at h4 (fun j v hv => by simpa using hv)
           have HR2 := Lib.hid hr2; have HU2 := Lib.hid hu2
           have hlt2 : wr.heap.size < W2.heap.size := lt_of_at h4
           clear h4 hu2 hr2 hW2)
        | ((with_reducible change wpList _ _ _ (⟨_, Op.load _ _, _, _, _, _⟩ :: _) _ _); refine wpl_load rfl 36 _ rfl wr.heap.size 0 rfl a.cells _ HR2.out Try.underlying36 rfl (by rw [hal]; kernel_rfl) ?_)
        | ((with_reducible change wpList _ _ _ (⟨_, Op.load _ _, _, _, _, _⟩ :: _) _ _); refine wpl_load rfl 32 _ rfl wr.heap.size 1 rfl a.key.cells _ (ActV.keyAt ha HR2.out) Try.underlying32 rfl (by rw [hkl]; kernel_rfl) ?_)
        | ((with_reducible change wpList _ _ _ (⟨_, Op.lookup _ _ _ _, _, _, _, _⟩ :: _) _ _); refine wpl_lookupg rfl _ _ rfl keyedKey Try.underlying26 (.int .i64 0) (by kernel_rfl) (HC.out.map.upd HU2.out (fun f => f)) rfl a.key.val lit HLIT.out rfl (.int .i64 wn) HLO.out ?_))
      refine (does_calls (HC.out.store.upd HU2.out (fun _ _ f => f)) ha (fun c hc => ⟨(HC.out.refs c hc).1, by have := (HC.out.refs c hc).2; omega⟩)).mono ?_
      rintro e w3 ⟨rfl, hS3, hu3⟩
      have hmw : m < wr.heap.size ∧ r < wr.heap.size := ⟨HC.out.store.lt m HC.out.store.self.2.1, HC.out.map.lt⟩
      have hrm : r ≠ m := by have := HX0.out.2.2.1; have := HRR.out; omega
      have HM3 := Lib.hid ((HC.out.map.upd HU2.out (fun f => f)).upd hu3 hrm)
      have hr3 := hu3.range HR2.out (fun f => by have := hmw.1; omega)
      have e0 : w3.cell? ⟨wr.heap.size, 0, none⟩ = some (.int .u8 a.kind) := hr3 0 _ rfl
      have hu13 : Upd (fun x => x = m) wr w3 := (HU2.out.mono (fun _ _ f => f.elim)).trans hu3 (fun _ _ f => f)
      have HB3 := Lib.hid (HC.out.below.trans (hu13.below HC.out.size (fun k f => by rw [f]; exact HX0.out.2.2.2.1)))
      have HZ3 := Lib.hid (Nat.le_trans HC.out.size hu13.size)
      have HT3 := Lib.hid (show wr.heap.size < w3.heap.size from Nat.lt_of_lt_of_le hlt2 hu3.size)
      have HMW := Lib.hid hmw
      have HR3 := Lib.hid hr3; have HS3 := Lib.hid hS3
      clear hr3 hS3 hu3 hu13 hmw hrm HU2 HR2
      have hk4 : a.kind % 4 = 0 ∨ a.kind % 4 = 1 ∨ a.kind % 4 = 2 ∨ a.kind % 4 = 3 := by have := wf_u8 ha.kind; omega
      have hk0 := wf_u8 ha.kind
      obtain ⟨rr, hrr⟩ : ∃ rr, getC l a.key = rr := ⟨_, rfl⟩
      obtain ⟨g, er, l', hstep⟩ : ∃ g er l', step l a = (g, er, l') := ⟨_, _, _, rfl⟩
      rw [hstep] at HS3
      rw [hstep]
      unfold step at hstep
      rw [hrr] at hstep
      rcases hk4 with hkk | hkk | hkk | hkk
      · rcases rr with _ | c
        · obtain rfl : wn = 0 := by rw [HWN.out]; exact cnt_none hrr
          simp only [hkk] at hstep
          obtain ⟨rfl, rfl, hl'⟩ : false = g ∧ (0 : Int) = er ∧ _ = l' := by injection hstep with h1 h2; injection h2 with h2 h3; exact ⟨h1, h2, h3⟩
          clear hstep
          obtain ⟨d, hd⟩ : ∃ d : ChunkV, d = ⟨a.key, a.place, 1⟩ := ⟨_, rfl⟩
          have hget : getC l' a.key = some d := by
            rw [← hl', getC_snoc (c := ⟨a.key, a.place, 1⟩) hrr, if_pos rfl, hd]
          have hcnt : Cnt (aput rm a.key.val (.int .i64 1)) l' := by
            rw [← hl']
            refine HC.out.cnt.set ha.key (fun k => ?_)
            rw [cnt_snoc (c := ⟨a.key, a.place, 1⟩) hrr]
          have hrefs : ∀ c ∈ l', 0 < c.refs ∧ c.refs ≤ (k + 1 : Nat) := by
            intro x hx
            rw [← hl'] at hx
            rcases List.mem_append.1 hx with hx | hx
            · exact ⟨(HC.out.refs x hx).1, by have := (HC.out.refs x hx).2; push_cast; omega⟩
            · rw [List.mem_singleton.1 hx]; exact ⟨by show (0:Int) < 1; omega, by show (1:Int) ≤ _; push_cast; omega⟩
          have hdm := hrefs d (getC_key hget).2
          have hvl : d.cells.length = 37 := ChunkV.clen (HS3.out.good d (getC_key hget).2)
          have hdpos : decide (0 < d.refs) = true := decide_eq_true hdm.1
          have c36 := ChunkV.at36 (HS3.out.good d (getC_key hget).2)
          have hlk : (alook (aput rm a.key.val (.int .i64 1)) a.key.val).getD (.int .i64 0) = .int .i64 d.refs := by
            rw [hcnt a.key ha.key]
            unfold cnt
            rw [hget]
            rfl
          have HGET := Lib.hid hget; have HCNT := Lib.hid hcnt; have HREFS := Lib.hid hrefs; have HLK := Lib.hid hlk
          clear hget hcnt hrefs hlk hd hdm
          go_wp2_with (first
            | ((with_reducible change wpList _ _ _ (⟨_, Op.load _ _, _, _, _, _⟩ :: _) _ _); refine wpl_load rfl 32 _ rfl wr.heap.size 1 rfl a.key.cells _ (ActV.keyAt ha HR3.out) Try.underlying32 rfl (by rw [hkl]; kernel_rfl) ?_)
            | ((with_reducible change wpList _ _ _ (⟨_, Op.mapUpdate _ _ _ _, _, _, _, _⟩ :: _) _ _); refine wpl_mapUpdate rfl _ _ _ 26 rfl 32 _ keyedKey Try.underlying26 r _ HM3.out rfl a.key.val (.int .i64 1) lit HLIT.out rfl rfl ?_
               intro w4 hm4 hu4
               have HM4 := Lib.hid hm4
               have HS4 := Lib.hid (HS3.out.upd hu4 (fun x hx f => by subst f; exact absurd (HX0.out.2.1 _ hx) (by have := HRR.out; omega)))
               have HR4 := Lib.hid (hu4.range HR3.out (fun f => by have := HMW.out.2; omega))
               have hBr : B ≤ r := by have := HB1.out; have := HRR.out; omega
               have HB4 := Lib.hid (HB3.out.trans (hu4.below HZ3.out (fun k f => by rw [f]; exact hBr)))
               have HZ4 := Lib.hid (Nat.le_trans HZ3.out hu4.size)
               clear hm4 hu4)
            | ((with_reducible change wpList _ _ _ (⟨_, Op.load _ _, _, _, _, _⟩ :: _) _ _); refine wpl_load rfl 32 _ rfl wr.heap.size 1 rfl a.key.cells _ (ActV.keyAt ha HR4.out) Try.underlying32 rfl (by rw [hkl]; kernel_rfl) ?_))
          refine (get_at HS4.out ha.key HGET.out).mono ?_
          rintro e w5 ⟨rfl, hu5⟩
          have HU5 := Lib.hid hu5; clear hu5
          go_wp2_with (first
            | ((with_reducible change wpList _ _ _ (⟨_, Op.store _ _ _, _, _, _, _⟩ :: _) _ _); refine wpList_store_mid rfl _ _ _ rfl w5.heap.size 0 d.cells.toArray rfl rfl (there_new w5 _ _ (by rw [List.size_toArray, hvl]; exact Nat.le_refl _)) (by simp only [List.size_toArray]; rw [hvl]; kernel_rfl) (all_oneCell_toArray ChunkV.one) ?_
               refine wpList_world fun W6 hW6 => ?_
               have h4 : W6.heap[w5.heap.size]? = some (.cells d.cells.toArray 41 (0, 0)) := by rw [hW6]; exact at_setAll (heap_alloc_last w5 _) (by rw [hvl]; rfl)
               have hu6 : Upd (fun _ => False) w5 W6 := by rw [hW6]; exact Upd.setCells (S := fun _ => False) (fun hg => absurd hg (Nat.lt_irrefl _)) _ _ ((Upd.refl _ w5).alloc _)
               have e36 : W6.cell? ⟨w5.heap.size, 36, none⟩ = some (.int .i64 d.refs) := by rw [cell_at h4, c36]
               have HU6 := Lib.hid hu6
               clear h4 hu6 hW6))
          have hu46 : Upd (fun _ => False) w4 W6 := HU5.out.trans HU6.out (fun _ _ f => f)
          have hm6 := HM4.out.upd hu46 (fun f => f)
          have hr6 := hu46.range HR4.out (fun f => f)
          refine wp_region_held_drew (S := fun w' => Upd (fun _ => False) W6 w') rfl (Upd.refl _ W6).drew (fun hHeld => ?_)
          have g2 : ∀ w', Upd (fun _ => False) W6 w' → (Instr.loadAt 32 (.pointer (some ⟨wr.heap.size, 1, none⟩))).run Try.prog w' = .ok a.key.val w' := fun w' hw => run_loadAt_mid w' _ 1 32 a.key.cells _ (hw.range (ActV.keyAt ha hr6) (fun f => f)) Try.underlying32 rfl (by rw [hkl]; kernel_rfl)
          have g3 : ∀ w', Upd (fun _ => False) W6 w' → (Instr.lookup 26 (.map (some r)) a.key.val false).run Try.prog w' = .ok (.int .i64 d.refs) w' := fun w' hw => by
            have := (hm6.upd hw (fun f => f)).look (t := 26) (c := false) keyedKey Try.underlying26 (z := .int .i64 0) (by kernel_rfl) HLIT.out
            rw [HLK.out] at this
            simpa using this
          have g4 : ∀ w', Upd (fun _ => False) W6 w' → w'.cell? ⟨w5.heap.size, 36, none⟩ = some (.int .i64 d.refs) := fun w' hw => hw.cell e36 (fun f => f)
          have HU46 := Lib.hid hu46; have HM6 := Lib.hid hm6
          clear hu46 hm6 hr6 e36
          first
            | (refine held_on 0 rfl (by kernel_rfl) (fun _ _ _ h => h) (by rfl) (by assumption) (v := ?_) ?_ ?_
               rotate_left
               · intro w hS; (try dsimp only at hS); first | (go_simp; done) | (go_simp; with_reducible rfl)
               try simp only [Act.put, List.setIfInBounds_toArray, List.set_cons_zero, List.set_cons_succ])
            | (refine held_off 0 rfl (by kernel_rfl) (fun _ _ _ h => h) (by rfl) (by assumption) ?_
               try simp only [Act.put, List.setIfInBounds_toArray, List.set_cons_zero, List.set_cons_succ])
            | (go_outline; fail "take 0")
          first
            | (refine held_on 1 rfl (by kernel_rfl) (fun _ _ _ h => h) (by rfl) (by assumption) (v := ?_) ?_ ?_
               rotate_left
               · intro w hS; (try dsimp only at hS); first | (go_simp; done) | (go_simp; with_reducible rfl)
               try simp only [Act.put, List.setIfInBounds_toArray, List.set_cons_zero, List.set_cons_succ])
            | (refine held_off 1 rfl (by kernel_rfl) (fun _ _ _ h => h) (by rfl) (by assumption) ?_
               try simp only [Act.put, List.setIfInBounds_toArray, List.set_cons_zero, List.set_cons_succ])
            | (go_outline; fail "take 1")
          first
            | (refine held_on 2 rfl (by kernel_rfl) (fun _ _ _ h => h) (by rfl) (by assumption) (v := ?_) ?_ ?_
               rotate_left
               · intro w hS; (try dsimp only at hS); first | (go_simp; done) | (go_simp; with_reducible rfl)
               try simp only [Act.put, List.setIfInBounds_toArray, List.set_cons_zero, List.set_cons_succ])
            | (refine held_off 2 rfl (by kernel_rfl) (fun _ _ _ h => h) (by rfl) (by assumption) ?_
               try simp only [Act.put, List.setIfInBounds_toArray, List.set_cons_zero, List.set_cons_succ])
            | (go_outline; fail "take 2")
          first
            | (refine held_on 3 rfl (by kernel_rfl) (fun _ _ _ h => h) (by rfl) (by assumption) (v := ?_) ?_ ?_
               rotate_left
               · intro w hS; (try dsimp only at hS); first | (go_simp; done) | (go_simp; with_reducible rfl)
               try simp only [Act.put, List.setIfInBounds_toArray, List.set_cons_zero, List.set_cons_succ])
            | (refine held_off 3 rfl (by kernel_rfl) (fun _ _ _ h => h) (by rfl) (by assumption) ?_
               try simp only [Act.put, List.setIfInBounds_toArray, List.set_cons_zero, List.set_cons_succ])
            | (go_outline; fail "take 3")
          first
            | (refine held_on 4 rfl (by kernel_rfl) (fun _ _ _ h => h) (by rfl) (by assumption) (v := ?_) ?_ ?_
               rotate_left
               · intro w hS; (try dsimp only at hS); first | (go_simp; done) | (go_simp; with_reducible rfl)
               try simp only [Act.put, List.setIfInBounds_toArray, List.set_cons_zero, List.set_cons_succ])
            | (refine held_off 4 rfl (by kernel_rfl) (fun _ _ _ h => h) (by rfl) (by assumption) ?_
               try simp only [Act.put, List.setIfInBounds_toArray, List.set_cons_zero, List.set_cons_succ])
            | (go_outline; fail "take 4")
          first
            | (refine held_on 5 rfl (by kernel_rfl) (fun _ _ _ h => h) (by rfl) (by assumption) (v := ?_) ?_ ?_
               rotate_left
               · intro w hS; (try dsimp only at hS); first | (go_simp; done) | (go_simp; with_reducible rfl)
               try simp only [Act.put, List.setIfInBounds_toArray, List.set_cons_zero, List.set_cons_succ])
            | (refine held_off 5 rfl (by kernel_rfl) (fun _ _ _ h => h) (by rfl) (by assumption) ?_
               try simp only [Act.put, List.setIfInBounds_toArray, List.set_cons_zero, List.set_cons_succ])
            | (go_outline; fail "take 5")
          first
            | (refine held_on 6 rfl (by kernel_rfl) (fun _ _ _ h => h) (by rfl) (by assumption) (v := ?_) ?_ ?_
               rotate_left
               · intro w hS; (try dsimp only at hS); first | (go_simp; done) | (go_simp; with_reducible rfl)
               try simp only [Act.put, List.setIfInBounds_toArray, List.set_cons_zero, List.set_cons_succ])
            | (refine held_off 6 rfl (by kernel_rfl) (fun _ _ _ h => h) (by rfl) (by assumption) ?_
               try simp only [Act.put, List.setIfInBounds_toArray, List.set_cons_zero, List.set_cons_succ])
            | (go_outline; fail "take 6")
          first
            | (refine held_on 7 rfl (by kernel_rfl) (fun _ _ _ h => h) (by rfl) (by assumption) (v := ?_) ?_ ?_
               rotate_left
               · intro w hS; (try dsimp only at hS); first | (go_simp; done) | (go_simp; with_reducible rfl)
               try simp only [Act.put, List.setIfInBounds_toArray, List.set_cons_zero, List.set_cons_succ])
            | (refine held_off 7 rfl (by kernel_rfl) (fun _ _ _ h => h) (by rfl) (by assumption) ?_
               try simp only [Act.put, List.setIfInBounds_toArray, List.set_cons_zero, List.set_cons_succ])
            | (go_outline; fail "take 7")
          refine held_load 8 rfl (by kernel_rfl) (fun _ _ _ h => h) (by rfl) (by assumption) rfl g2 ?_
          try simp only [Act.put, List.setIfInBounds_toArray, List.set_cons_zero, List.set_cons_succ]
          refine held_lookup 9 rfl (by kernel_rfl) (fun _ _ _ h => h) (by rfl) (by assumption) rfl rfl g3 ?_
          try simp only [Act.put, List.setIfInBounds_toArray, List.set_cons_zero, List.set_cons_succ]
          first
            | (refine held_on 10 rfl (by kernel_rfl) (fun _ _ _ h => h) (by rfl) (by assumption) (v := ?_) ?_ ?_
               rotate_left
               · intro w hS; (try dsimp only at hS); first | (go_simp; done) | (go_simp; with_reducible rfl)
               try simp only [Act.put, List.setIfInBounds_toArray, List.set_cons_zero, List.set_cons_succ])
            | (refine held_off 10 rfl (by kernel_rfl) (fun _ _ _ h => h) (by rfl) (by assumption) ?_
               try simp only [Act.put, List.setIfInBounds_toArray, List.set_cons_zero, List.set_cons_succ])
            | (go_outline; fail "take 10")
          first
            | (refine held_on 11 rfl (by kernel_rfl) (fun _ _ _ h => h) (by rfl) (by assumption) (v := ?_) ?_ ?_
               rotate_left
               · intro w hS; (try dsimp only at hS); first | (go_simp; done) | (go_simp; with_reducible rfl)
               try simp only [Act.put, List.setIfInBounds_toArray, List.set_cons_zero, List.set_cons_succ])
            | (refine held_off 11 rfl (by kernel_rfl) (fun _ _ _ h => h) (by rfl) (by assumption) ?_
               try simp only [Act.put, List.setIfInBounds_toArray, List.set_cons_zero, List.set_cons_succ])
            | (go_outline; fail "take 11")
          first
            | (refine held_on 12 rfl (by kernel_rfl) (fun _ _ _ h => h) (by rfl) (by assumption) (v := ?_) ?_ ?_
               rotate_left
               · intro w hS; (try dsimp only at hS); first | (go_simp; done) | (go_simp; with_reducible rfl)
               try simp only [Act.put, List.setIfInBounds_toArray, List.set_cons_zero, List.set_cons_succ])
            | (refine held_off 12 rfl (by kernel_rfl) (fun _ _ _ h => h) (by rfl) (by assumption) ?_
               try simp only [Act.put, List.setIfInBounds_toArray, List.set_cons_zero, List.set_cons_succ])
            | (go_outline; fail "take 12")
          first
            | (refine held_on 13 rfl (by kernel_rfl) (fun _ _ _ h => h) (by rfl) (by assumption) (v := ?_) ?_ ?_
               rotate_left
               · intro w hS; (try dsimp only at hS); first | (go_simp; done) | (go_simp; with_reducible rfl)
               try simp only [Act.put, List.setIfInBounds_toArray, List.set_cons_zero, List.set_cons_succ])
            | (refine held_off 13 rfl (by kernel_rfl) (fun _ _ _ h => h) (by rfl) (by assumption) ?_
               try simp only [Act.put, List.setIfInBounds_toArray, List.set_cons_zero, List.set_cons_succ])
            | (go_outline; fail "take 13")
          first
            | (refine held_on 14 rfl (by kernel_rfl) (fun _ _ _ h => h) (by rfl) (by assumption) (v := ?_) ?_ ?_
               rotate_left
               · intro w hS; (try dsimp only at hS); first | (go_simp; done) | (go_simp; with_reducible rfl)
               try simp only [Act.put, List.setIfInBounds_toArray, List.set_cons_zero, List.set_cons_succ])
            | (refine held_off 14 rfl (by kernel_rfl) (fun _ _ _ h => h) (by rfl) (by assumption) ?_
               try simp only [Act.put, List.setIfInBounds_toArray, List.set_cons_zero, List.set_cons_succ])
            | (go_outline; fail "take 14")
          first
            | (refine held_on 15 rfl (by kernel_rfl) (fun _ _ _ h => h) (by rfl) (by assumption) (v := ?_) ?_ ?_
               rotate_left
               · intro w hS; (try dsimp only at hS); first | (go_simp; done) | (go_simp; with_reducible rfl)
               try simp only [Act.put, List.setIfInBounds_toArray, List.set_cons_zero, List.set_cons_succ])
            | (refine held_off 15 rfl (by kernel_rfl) (fun _ _ _ h => h) (by rfl) (by assumption) ?_
               try simp only [Act.put, List.setIfInBounds_toArray, List.set_cons_zero, List.set_cons_succ])
            | (go_outline; fail "take 15")
          first
            | (refine held_on 16 rfl (by kernel_rfl) (fun _ _ _ h => h) (by rfl) (by assumption) (v := ?_) ?_ ?_
               rotate_left
               · intro w hS; (try dsimp only at hS); first | (go_simp; done) | (go_simp; with_reducible rfl)
               try simp only [Act.put, List.setIfInBounds_toArray, List.set_cons_zero, List.set_cons_succ])
            | (refine held_off 16 rfl (by kernel_rfl) (fun _ _ _ h => h) (by rfl) (by assumption) ?_
               try simp only [Act.put, List.setIfInBounds_toArray, List.set_cons_zero, List.set_cons_succ])
            | (go_outline; fail "take 16")
          first
            | (refine held_on 17 rfl (by kernel_rfl) (fun _ _ _ h => h) (by rfl) (by assumption) (v := ?_) ?_ ?_
               rotate_left
               · intro w hS; (try dsimp only at hS); first | (go_simp; done) | (go_simp; with_reducible rfl)
               try simp only [Act.put, List.setIfInBounds_toArray, List.set_cons_zero, List.set_cons_succ])
            | (refine held_off 17 rfl (by kernel_rfl) (fun _ _ _ h => h) (by rfl) (by assumption) ?_
               try simp only [Act.put, List.setIfInBounds_toArray, List.set_cons_zero, List.set_cons_succ])
            | (go_outline; fail "take 17")
          refine held_load 18 rfl (by kernel_rfl) (fun _ _ _ h => h) (by rfl) (by assumption) rfl g2 ?_
          try simp only [Act.put, List.setIfInBounds_toArray, List.set_cons_zero, List.set_cons_succ]
          refine held_lookup 19 rfl (by kernel_rfl) (fun _ _ _ h => h) (by rfl) (by assumption) rfl rfl g3 ?_
          try simp only [Act.put, List.setIfInBounds_toArray, List.set_cons_zero, List.set_cons_succ]
          first
            | (refine held_on 20 rfl (by kernel_rfl) (fun _ _ _ h => h) (by rfl) (by assumption) (v := ?_) ?_ ?_
               rotate_left
               · intro w hS; (try dsimp only at hS); first | (go_simp; done) | (go_simp; with_reducible rfl)
               try simp only [Act.put, List.setIfInBounds_toArray, List.set_cons_zero, List.set_cons_succ])
            | (refine held_off 20 rfl (by kernel_rfl) (fun _ _ _ h => h) (by rfl) (by assumption) ?_
               try simp only [Act.put, List.setIfInBounds_toArray, List.set_cons_zero, List.set_cons_succ])
            | (go_outline; fail "take 20")
          first
            | (refine held_on 21 rfl (by kernel_rfl) (fun _ _ _ h => h) (by rfl) (by assumption) (v := ?_) ?_ ?_
               rotate_left
               · intro w hS; (try dsimp only at hS); first | (go_simp; done) | (go_simp; with_reducible rfl)
               try simp only [Act.put, List.setIfInBounds_toArray, List.set_cons_zero, List.set_cons_succ])
            | (refine held_off 21 rfl (by kernel_rfl) (fun _ _ _ h => h) (by rfl) (by assumption) ?_
               try simp only [Act.put, List.setIfInBounds_toArray, List.set_cons_zero, List.set_cons_succ])
            | (go_outline; fail "take 21")
          refine wpAnyH_done (by kernel_rfl) ?_ _
          go_wp2_with fail
          go_roundg (acts'.length - (k + 1))
          case measure => have := HX.out; omega
          case rel => exact ⟨k + 1, l', aput rm a.key.val (.int .i64 1), by have := HX.out; omega, by go_num, ⟨HS4.out.upd (HU46.out.drewN _) (fun _ _ f => f), HM6.out.upd ((Upd.refl (fun _ => False) W6).drewN _) (fun f => f), HCNT.out, HREFS.out, HB4.out.trans ((HU46.out.drewN _).below HZ4.out (fun _ f => f.elim)), Nat.le_trans HZ4.out HU46.out.size⟩⟩
        · have hwc : wn = c.refs := by rw [HWN.out]; exact cnt_some hrr
          have hcr := HC.out.refs c (getC_key hrr).2
          have hcm := getC_key hrr
          have hwp : 0 < wn := by omega
          have hwd : decide (0 < wn) = true := decide_eq_true hwp
          have hw0 : (wn == 0) = false := by simpa using (by omega : ¬ wn = 0)
          have hwb : wn ≤ 200 := by have := HX.out; omega
          simp only [hkk] at hstep
          obtain ⟨rfl, rfl, hl'⟩ : false = g ∧ (3 : Int) = er ∧ _ = l' := by injection hstep with h1 h2; injection h2 with h2 h3; exact ⟨h1, h2, h3⟩
          clear hstep
          obtain ⟨d, hd⟩ : ∃ d : ChunkV, d = c := ⟨_, rfl⟩
          have hget : getC l' a.key = some d := by
            rw [← hl', hrr, hd]
          have hcnt : Cnt (rm) l' := by
            rw [← hl']; exact HC.out.cnt
          have hrefs : ∀ c ∈ l', 0 < c.refs ∧ c.refs ≤ (k + 1 : Nat) := by
            rw [← hl']; exact fun c hc => ⟨(HC.out.refs c hc).1, by have := (HC.out.refs c hc).2; push_cast; omega⟩
          have hdm := hrefs d (getC_key hget).2
          have hvl : d.cells.length = 37 := ChunkV.clen (HS3.out.good d (getC_key hget).2)
          have hdpos : decide (0 < d.refs) = true := decide_eq_true hdm.1
          have c36 := ChunkV.at36 (HS3.out.good d (getC_key hget).2)
          have hlk : (alook (rm) a.key.val).getD (.int .i64 0) = .int .i64 d.refs := by
            rw [hcnt a.key ha.key]
            unfold cnt
            rw [hget]
            rfl
          have HGET := Lib.hid hget; have HCNT := Lib.hid hcnt; have HREFS := Lib.hid hrefs; have HLK := Lib.hid hlk
          clear hget hcnt hrefs hlk hd hdm
          go_wp2_with (first
            | ((with_reducible change wpList _ _ _ (⟨_, Op.load _ _, _, _, _, _⟩ :: _) _ _); refine wpl_load rfl 32 _ rfl wr.heap.size 1 rfl a.key.cells _ (ActV.keyAt ha HR3.out) Try.underlying32 rfl (by rw [hkl]; kernel_rfl) ?_))
          refine (get_at HS3.out ha.key HGET.out).mono ?_
          rintro e w5 ⟨rfl, hu5⟩
          have HU5 := Lib.hid hu5; clear hu5
          go_wp2_with (first
            | ((with_reducible change wpList _ _ _ (⟨_, Op.store _ _ _, _, _, _, _⟩ :: _) _ _); refine wpList_store_mid rfl _ _ _ rfl w5.heap.size 0 d.cells.toArray rfl rfl (there_new w5 _ _ (by rw [List.size_toArray, hvl]; exact Nat.le_refl _)) (by simp only [List.size_toArray]; rw [hvl]; kernel_rfl) (all_oneCell_toArray ChunkV.one) ?_
               refine wpList_world fun W6 hW6 => ?_
               have h4 : W6.heap[w5.heap.size]? = some (.cells d.cells.toArray 41 (0, 0)) := by rw [hW6]; exact at_setAll (heap_alloc_last w5 _) (by rw [hvl]; rfl)
               have hu6 : Upd (fun _ => False) w5 W6 := by rw [hW6]; exact Upd.setCells (S := fun _ => False) (fun hg => absurd hg (Nat.lt_irrefl _)) _ _ ((Upd.refl _ w5).alloc _)
               have e36 : W6.cell? ⟨w5.heap.size, 36, none⟩ = some (.int .i64 d.refs) := by rw [cell_at h4, c36]
               have HU6 := Lib.hid hu6
               clear h4 hu6 hW6))
          have hu46 : Upd (fun _ => False) w3 W6 := HU5.out.trans HU6.out (fun _ _ f => f)
          have hm6 := HM3.out.upd hu46 (fun f => f)
          have hr6 := hu46.range HR3.out (fun f => f)
          refine wp_region_held_drew (S := fun w' => Upd (fun _ => False) W6 w') rfl (Upd.refl _ W6).drew (fun hHeld => ?_)
          have g2 : ∀ w', Upd (fun _ => False) W6 w' → (Instr.loadAt 32 (.pointer (some ⟨wr.heap.size, 1, none⟩))).run Try.prog w' = .ok a.key.val w' := fun w' hw => run_loadAt_mid w' _ 1 32 a.key.cells _ (hw.range (ActV.keyAt ha hr6) (fun f => f)) Try.underlying32 rfl (by rw [hkl]; kernel_rfl)
          have g3 : ∀ w', Upd (fun _ => False) W6 w' → (Instr.lookup 26 (.map (some r)) a.key.val false).run Try.prog w' = .ok (.int .i64 d.refs) w' := fun w' hw => by
            have := (hm6.upd hw (fun f => f)).look (t := 26) (c := false) keyedKey Try.underlying26 (z := .int .i64 0) (by kernel_rfl) HLIT.out
            rw [HLK.out] at this
            simpa using this
          have g4 : ∀ w', Upd (fun _ => False) W6 w' → w'.cell? ⟨w5.heap.size, 36, none⟩ = some (.int .i64 d.refs) := fun w' hw => hw.cell e36 (fun f => f)
          have HU46 := Lib.hid hu46; have HM6 := Lib.hid hm6
          clear hu46 hm6 hr6 e36
          first
            | (refine held_on 0 rfl (by kernel_rfl) (fun _ _ _ h => h) (by rfl) (by assumption) (v := ?_) ?_ ?_
               rotate_left
               · intro w hS; (try dsimp only at hS); first | (go_simp; done) | (go_simp; with_reducible rfl)
               try simp only [Act.put, List.setIfInBounds_toArray, List.set_cons_zero, List.set_cons_succ])
            | (refine held_off 0 rfl (by kernel_rfl) (fun _ _ _ h => h) (by rfl) (by assumption) ?_
               try simp only [Act.put, List.setIfInBounds_toArray, List.set_cons_zero, List.set_cons_succ])
            | (go_outline; fail "take 0")
          first
            | (refine held_on 1 rfl (by kernel_rfl) (fun _ _ _ h => h) (by rfl) (by assumption) (v := ?_) ?_ ?_
               rotate_left
               · intro w hS; (try dsimp only at hS); first | (go_simp; done) | (go_simp; with_reducible rfl)
               try simp only [Act.put, List.setIfInBounds_toArray, List.set_cons_zero, List.set_cons_succ])
            | (refine held_off 1 rfl (by kernel_rfl) (fun _ _ _ h => h) (by rfl) (by assumption) ?_
               try simp only [Act.put, List.setIfInBounds_toArray, List.set_cons_zero, List.set_cons_succ])
            | (go_outline; fail "take 1")
          first
            | (refine held_on 2 rfl (by kernel_rfl) (fun _ _ _ h => h) (by rfl) (by assumption) (v := ?_) ?_ ?_
               rotate_left
               · intro w hS; (try dsimp only at hS); first | (go_simp; done) | (go_simp; with_reducible rfl)
               try simp only [Act.put, List.setIfInBounds_toArray, List.set_cons_zero, List.set_cons_succ])
            | (refine held_off 2 rfl (by kernel_rfl) (fun _ _ _ h => h) (by rfl) (by assumption) ?_
               try simp only [Act.put, List.setIfInBounds_toArray, List.set_cons_zero, List.set_cons_succ])
            | (go_outline; fail "take 2")
          first
            | (refine held_on 3 rfl (by kernel_rfl) (fun _ _ _ h => h) (by rfl) (by assumption) (v := ?_) ?_ ?_
               rotate_left
               · intro w hS; (try dsimp only at hS); first | (go_simp; done) | (go_simp; with_reducible rfl)
               try simp only [Act.put, List.setIfInBounds_toArray, List.set_cons_zero, List.set_cons_succ])
            | (refine held_off 3 rfl (by kernel_rfl) (fun _ _ _ h => h) (by rfl) (by assumption) ?_
               try simp only [Act.put, List.setIfInBounds_toArray, List.set_cons_zero, List.set_cons_succ])
            | (go_outline; fail "take 3")
          first
            | (refine held_on 4 rfl (by kernel_rfl) (fun _ _ _ h => h) (by rfl) (by assumption) (v := ?_) ?_ ?_
               rotate_left
               · intro w hS; (try dsimp only at hS); first | (go_simp; done) | (go_simp; with_reducible rfl)
               try simp only [Act.put, List.setIfInBounds_toArray, List.set_cons_zero, List.set_cons_succ])
            | (refine held_off 4 rfl (by kernel_rfl) (fun _ _ _ h => h) (by rfl) (by assumption) ?_
               try simp only [Act.put, List.setIfInBounds_toArray, List.set_cons_zero, List.set_cons_succ])
            | (go_outline; fail "take 4")
          first
            | (refine held_on 5 rfl (by kernel_rfl) (fun _ _ _ h => h) (by rfl) (by assumption) (v := ?_) ?_ ?_
               rotate_left
               · intro w hS; (try dsimp only at hS); first | (go_simp; done) | (go_simp; with_reducible rfl)
               try simp only [Act.put, List.setIfInBounds_toArray, List.set_cons_zero, List.set_cons_succ])
            | (refine held_off 5 rfl (by kernel_rfl) (fun _ _ _ h => h) (by rfl) (by assumption) ?_
               try simp only [Act.put, List.setIfInBounds_toArray, List.set_cons_zero, List.set_cons_succ])
            | (go_outline; fail "take 5")
          first
            | (refine held_on 6 rfl (by kernel_rfl) (fun _ _ _ h => h) (by rfl) (by assumption) (v := ?_) ?_ ?_
               rotate_left
               · intro w hS; (try dsimp only at hS); first | (go_simp; done) | (go_simp; with_reducible rfl)
               try simp only [Act.put, List.setIfInBounds_toArray, List.set_cons_zero, List.set_cons_succ])
            | (refine held_off 6 rfl (by kernel_rfl) (fun _ _ _ h => h) (by rfl) (by assumption) ?_
               try simp only [Act.put, List.setIfInBounds_toArray, List.set_cons_zero, List.set_cons_succ])
            | (go_outline; fail "take 6")
          first
            | (refine held_on 7 rfl (by kernel_rfl) (fun _ _ _ h => h) (by rfl) (by assumption) (v := ?_) ?_ ?_
               rotate_left
               · intro w hS; (try dsimp only at hS); first | (go_simp; done) | (go_simp; with_reducible rfl)
               try simp only [Act.put, List.setIfInBounds_toArray, List.set_cons_zero, List.set_cons_succ])
            | (refine held_off 7 rfl (by kernel_rfl) (fun _ _ _ h => h) (by rfl) (by assumption) ?_
               try simp only [Act.put, List.setIfInBounds_toArray, List.set_cons_zero, List.set_cons_succ])
            | (go_outline; fail "take 7")
          refine held_load 8 rfl (by kernel_rfl) (fun _ _ _ h => h) (by rfl) (by assumption) rfl g2 ?_
          try simp only [Act.put, List.setIfInBounds_toArray, List.set_cons_zero, List.set_cons_succ]
          refine held_lookup 9 rfl (by kernel_rfl) (fun _ _ _ h => h) (by rfl) (by assumption) rfl rfl g3 ?_
          try simp only [Act.put, List.setIfInBounds_toArray, List.set_cons_zero, List.set_cons_succ]
          first
            | (refine held_on 10 rfl (by kernel_rfl) (fun _ _ _ h => h) (by rfl) (by assumption) (v := ?_) ?_ ?_
               rotate_left
               · intro w hS; (try dsimp only at hS); first | (go_simp; done) | (go_simp; with_reducible rfl)
               try simp only [Act.put, List.setIfInBounds_toArray, List.set_cons_zero, List.set_cons_succ])
            | (refine held_off 10 rfl (by kernel_rfl) (fun _ _ _ h => h) (by rfl) (by assumption) ?_
               try simp only [Act.put, List.setIfInBounds_toArray, List.set_cons_zero, List.set_cons_succ])
            | (go_outline; fail "take 10")
          first
            | (refine held_on 11 rfl (by kernel_rfl) (fun _ _ _ h => h) (by rfl) (by assumption) (v := ?_) ?_ ?_
               rotate_left
               · intro w hS; (try dsimp only at hS); first | (go_simp; done) | (go_simp; with_reducible rfl)
               try simp only [Act.put, List.setIfInBounds_toArray, List.set_cons_zero, List.set_cons_succ])
            | (refine held_off 11 rfl (by kernel_rfl) (fun _ _ _ h => h) (by rfl) (by assumption) ?_
               try simp only [Act.put, List.setIfInBounds_toArray, List.set_cons_zero, List.set_cons_succ])
            | (go_outline; fail "take 11")
          first
            | (refine held_on 12 rfl (by kernel_rfl) (fun _ _ _ h => h) (by rfl) (by assumption) (v := ?_) ?_ ?_
               rotate_left
               · intro w hS; (try dsimp only at hS); first | (go_simp; done) | (go_simp; with_reducible rfl)
               try simp only [Act.put, List.setIfInBounds_toArray, List.set_cons_zero, List.set_cons_succ])
            | (refine held_off 12 rfl (by kernel_rfl) (fun _ _ _ h => h) (by rfl) (by assumption) ?_
               try simp only [Act.put, List.setIfInBounds_toArray, List.set_cons_zero, List.set_cons_succ])
            | (go_outline; fail "take 12")
          first
            | (refine held_on 13 rfl (by kernel_rfl) (fun _ _ _ h => h) (by rfl) (by assumption) (v := ?_) ?_ ?_
               rotate_left
               · intro w hS; (try dsimp only at hS); first | (go_simp; done) | (go_simp; with_reducible rfl)
               try simp only [Act.put, List.setIfInBounds_toArray, List.set_cons_zero, List.set_cons_succ])
            | (refine held_off 13 rfl (by kernel_rfl) (fun _ _ _ h => h) (by rfl) (by assumption) ?_
               try simp only [Act.put, List.setIfInBounds_toArray, List.set_cons_zero, List.set_cons_succ])
            | (go_outline; fail "take 13")
          first
            | (refine held_on 14 rfl (by kernel_rfl) (fun _ _ _ h => h) (by rfl) (by assumption) (v := ?_) ?_ ?_
               rotate_left
               · intro w hS; (try dsimp only at hS); first | (go_simp; done) | (go_simp; with_reducible rfl)
               try simp only [Act.put, List.setIfInBounds_toArray, List.set_cons_zero, List.set_cons_succ])
            | (refine held_off 14 rfl (by kernel_rfl) (fun _ _ _ h => h) (by rfl) (by assumption) ?_
               try simp only [Act.put, List.setIfInBounds_toArray, List.set_cons_zero, List.set_cons_succ])
            | (go_outline; fail "take 14")
          first
            | (refine held_on 15 rfl (by kernel_rfl) (fun _ _ _ h => h) (by rfl) (by assumption) (v := ?_) ?_ ?_
               rotate_left
               · intro w hS; (try dsimp only at hS); first | (go_simp; done) | (go_simp; with_reducible rfl)
               try simp only [Act.put, List.setIfInBounds_toArray, List.set_cons_zero, List.set_cons_succ])
            | (refine held_off 15 rfl (by kernel_rfl) (fun _ _ _ h => h) (by rfl) (by assumption) ?_
               try simp only [Act.put, List.setIfInBounds_toArray, List.set_cons_zero, List.set_cons_succ])
            | (go_outline; fail "take 15")
          first
            | (refine held_on 16 rfl (by kernel_rfl) (fun _ _ _ h => h) (by rfl) (by assumption) (v := ?_) ?_ ?_
               rotate_left
               · intro w hS; (try dsimp only at hS); first | (go_simp; done) | (go_simp; with_reducible rfl)
               try simp only [Act.put, List.setIfInBounds_toArray, List.set_cons_zero, List.set_cons_succ])
            | (refine held_off 16 rfl (by kernel_rfl) (fun _ _ _ h => h) (by rfl) (by assumption) ?_
               try simp only [Act.put, List.setIfInBounds_toArray, List.set_cons_zero, List.set_cons_succ])
            | (go_outline; fail "take 16")
          first
            | (refine held_on 17 rfl (by kernel_rfl) (fun _ _ _ h => h) (by rfl) (by assumption) (v := ?_) ?_ ?_
               rotate_left
               · intro w hS; (try dsimp only at hS); first | (go_simp; done) | (go_simp; with_reducible rfl)
               try simp only [Act.put, List.setIfInBounds_toArray, List.set_cons_zero, List.set_cons_succ])
            | (refine held_off 17 rfl (by kernel_rfl) (fun _ _ _ h => h) (by rfl) (by assumption) ?_
               try simp only [Act.put, List.setIfInBounds_toArray, List.set_cons_zero, List.set_cons_succ])
            | (go_outline; fail "take 17")
          refine held_load 18 rfl (by kernel_rfl) (fun _ _ _ h => h) (by rfl) (by assumption) rfl g2 ?_
          try simp only [Act.put, List.setIfInBounds_toArray, List.set_cons_zero, List.set_cons_succ]
          refine held_lookup 19 rfl (by kernel_rfl) (fun _ _ _ h => h) (by rfl) (by assumption) rfl rfl g3 ?_
          try simp only [Act.put, List.setIfInBounds_toArray, List.set_cons_zero, List.set_cons_succ]
          first
            | (refine held_on 20 rfl (by kernel_rfl) (fun _ _ _ h => h) (by rfl) (by assumption) (v := ?_) ?_ ?_
               rotate_left
               · intro w hS; (try dsimp only at hS); first | (go_simp; done) | (go_simp; with_reducible rfl)
               try simp only [Act.put, List.setIfInBounds_toArray, List.set_cons_zero, List.set_cons_succ])
            | (refine held_off 20 rfl (by kernel_rfl) (fun _ _ _ h => h) (by rfl) (by assumption) ?_
               try simp only [Act.put, List.setIfInBounds_toArray, List.set_cons_zero, List.set_cons_succ])
            | (go_outline; fail "take 20")
          first
            | (refine held_on 21 rfl (by kernel_rfl) (fun _ _ _ h => h) (by rfl) (by assumption) (v := ?_) ?_ ?_
               rotate_left
               · intro w hS; (try dsimp only at hS); first | (go_simp; done) | (go_simp; with_reducible rfl)
               try simp only [Act.put, List.setIfInBounds_toArray, List.set_cons_zero, List.set_cons_succ])
            | (refine held_off 21 rfl (by kernel_rfl) (fun _ _ _ h => h) (by rfl) (by assumption) ?_
               try simp only [Act.put, List.setIfInBounds_toArray, List.set_cons_zero, List.set_cons_succ])
            | (go_outline; fail "take 21")
          refine wpAnyH_done (by kernel_rfl) ?_ _
          go_wp2_with fail
          go_roundg (acts'.length - (k + 1))
          case measure => have := HX.out; omega
          case rel => exact ⟨k + 1, l', rm, by have := HX.out; omega, by go_num, ⟨HS3.out.upd (HU46.out.drewN _) (fun _ _ f => f), HM6.out.upd ((Upd.refl (fun _ => False) W6).drewN _) (fun f => f), HCNT.out, HREFS.out, HB3.out.trans ((HU46.out.drewN _).below HZ3.out (fun _ f => f.elim)), Nat.le_trans HZ3.out HU46.out.size⟩⟩
      · rcases rr with _ | c
        · obtain rfl : wn = 0 := by rw [HWN.out]; exact cnt_none hrr
          simp only [hkk] at hstep
          obtain ⟨rfl, rfl, hl'⟩ : false = g ∧ (2 : Int) = er ∧ _ = l' := by injection hstep with h1 h2; injection h2 with h2 h3; exact ⟨h1, h2, h3⟩
          clear hstep
          have hget : getC l' a.key = none := by
            rw [← hl', hrr]
          have hcnt : Cnt (rm) l' := by
            rw [← hl']; exact HC.out.cnt
          have hrefs : ∀ c ∈ l', 0 < c.refs ∧ c.refs ≤ (k + 1 : Nat) := by
            rw [← hl']; exact fun c hc => ⟨(HC.out.refs c hc).1, by have := (HC.out.refs c hc).2; push_cast; omega⟩
          have hvl : zeroChunk.cells.length = 37 := ChunkV.clen zeroKey_good
          have c36 : zeroChunk.cells.toArray[36]? = some (.int .i64 0) := rfl
          have hlk : (alook (rm) a.key.val).getD (.int .i64 0) = .int .i64 0 := by
            rw [hcnt a.key ha.key]
            unfold cnt
            rw [hget]
            rfl
          have HGET := Lib.hid hget; have HCNT := Lib.hid hcnt; have HREFS := Lib.hid hrefs; have HLK := Lib.hid hlk
          clear hget hcnt hrefs hlk
          go_wp2_with (first
            | ((with_reducible change wpList _ _ _ (⟨_, Op.load _ _, _, _, _, _⟩ :: _) _ _); refine wpl_load rfl 32 _ rfl wr.heap.size 1 rfl a.key.cells _ (ActV.keyAt ha HR3.out) Try.underlying32 rfl (by rw [hkl]; kernel_rfl) ?_))
          refine (get_at HS3.out ha.key HGET.out).mono ?_
          rintro e w5 ⟨rfl, hu5⟩
          have HU5 := Lib.hid hu5; clear hu5
          go_wp2_with (first
            | ((with_reducible change wpList _ _ _ (⟨_, Op.store _ _ _, _, _, _, _⟩ :: _) _ _); refine wpList_store_mid rfl _ _ _ rfl w5.heap.size 0 zeroChunk.cells.toArray rfl rfl (there_new w5 _ _ (by rw [List.size_toArray, hvl]; exact Nat.le_refl _)) (by simp only [List.size_toArray]; rw [hvl]; kernel_rfl) (all_oneCell_toArray ChunkV.one) ?_
               refine wpList_world fun W6 hW6 => ?_
               have h4 : W6.heap[w5.heap.size]? = some (.cells zeroChunk.cells.toArray 41 (0, 0)) := by rw [hW6]; exact at_setAll (heap_alloc_last w5 _) (by rw [hvl]; rfl)
               have hu6 : Upd (fun _ => False) w5 W6 := by rw [hW6]; exact Upd.setCells (S := fun _ => False) (fun hg => absurd hg (Nat.lt_irrefl _)) _ _ ((Upd.refl _ w5).alloc _)
               have e36 : W6.cell? ⟨w5.heap.size, 36, none⟩ = some (.int .i64 0) := by rw [cell_at h4, c36]
               have HU6 := Lib.hid hu6
               clear h4 hu6 hW6))
          have hu46 : Upd (fun _ => False) w3 W6 := HU5.out.trans HU6.out (fun _ _ f => f)
          have hm6 := HM3.out.upd hu46 (fun f => f)
          have hr6 := hu46.range HR3.out (fun f => f)
          refine wp_region_held_drew (S := fun w' => Upd (fun _ => False) W6 w') rfl (Upd.refl _ W6).drew (fun hHeld => ?_)
          have g2 : ∀ w', Upd (fun _ => False) W6 w' → (Instr.loadAt 32 (.pointer (some ⟨wr.heap.size, 1, none⟩))).run Try.prog w' = .ok a.key.val w' := fun w' hw => run_loadAt_mid w' _ 1 32 a.key.cells _ (hw.range (ActV.keyAt ha hr6) (fun f => f)) Try.underlying32 rfl (by rw [hkl]; kernel_rfl)
          have g3 : ∀ w', Upd (fun _ => False) W6 w' → (Instr.lookup 26 (.map (some r)) a.key.val false).run Try.prog w' = .ok (.int .i64 0) w' := fun w' hw => by
            have := (hm6.upd hw (fun f => f)).look (t := 26) (c := false) keyedKey Try.underlying26 (z := .int .i64 0) (by kernel_rfl) HLIT.out
            rw [HLK.out] at this
            simpa using this
          have g4 : ∀ w', Upd (fun _ => False) W6 w' → w'.cell? ⟨w5.heap.size, 36, none⟩ = some (.int .i64 0) := fun w' hw => hw.cell e36 (fun f => f)
          have HU46 := Lib.hid hu46; have HM6 := Lib.hid hm6
          clear hu46 hm6 hr6 e36
          first
            | (refine held_on 0 rfl (by kernel_rfl) (fun _ _ _ h => h) (by rfl) (by assumption) (v := ?_) ?_ ?_
               rotate_left
               · intro w hS; (try dsimp only at hS); first | (go_simp; done) | (go_simp; with_reducible rfl)
               try simp only [Act.put, List.setIfInBounds_toArray, List.set_cons_zero, List.set_cons_succ])
            | (refine held_off 0 rfl (by kernel_rfl) (fun _ _ _ h => h) (by rfl) (by assumption) ?_
               try simp only [Act.put, List.setIfInBounds_toArray, List.set_cons_zero, List.set_cons_succ])
            | (go_outline; fail "take 0")
          first
            | (refine held_on 1 rfl (by kernel_rfl) (fun _ _ _ h => h) (by rfl) (by assumption) (v := ?_) ?_ ?_
               rotate_left
               · intro w hS; (try dsimp only at hS); first | (go_simp; done) | (go_simp; with_reducible rfl)
               try simp only [Act.put, List.setIfInBounds_toArray, List.set_cons_zero, List.set_cons_succ])
            | (refine held_off 1 rfl (by kernel_rfl) (fun _ _ _ h => h) (by rfl) (by assumption) ?_
               try simp only [Act.put, List.setIfInBounds_toArray, List.set_cons_zero, List.set_cons_succ])
            | (go_outline; fail "take 1")
          first
            | (refine held_on 2 rfl (by kernel_rfl) (fun _ _ _ h => h) (by rfl) (by assumption) (v := ?_) ?_ ?_
               rotate_left
               · intro w hS; (try dsimp only at hS); first | (go_simp; done) | (go_simp; with_reducible rfl)
               try simp only [Act.put, List.setIfInBounds_toArray, List.set_cons_zero, List.set_cons_succ])
            | (refine held_off 2 rfl (by kernel_rfl) (fun _ _ _ h => h) (by rfl) (by assumption) ?_
               try simp only [Act.put, List.setIfInBounds_toArray, List.set_cons_zero, List.set_cons_succ])
            | (go_outline; fail "take 2")
          first
            | (refine held_on 3 rfl (by kernel_rfl) (fun _ _ _ h => h) (by rfl) (by assumption) (v := ?_) ?_ ?_
               rotate_left
               · intro w hS; (try dsimp only at hS); first | (go_simp; done) | (go_simp; with_reducible rfl)
               try simp only [Act.put, List.setIfInBounds_toArray, List.set_cons_zero, List.set_cons_succ])
            | (refine held_off 3 rfl (by kernel_rfl) (fun _ _ _ h => h) (by rfl) (by assumption) ?_
               try simp only [Act.put, List.setIfInBounds_toArray, List.set_cons_zero, List.set_cons_succ])
            | (go_outline; fail "take 3")
          first
            | (refine held_on 4 rfl (by kernel_rfl) (fun _ _ _ h => h) (by rfl) (by assumption) (v := ?_) ?_ ?_
               rotate_left
               · intro w hS; (try dsimp only at hS); first | (go_simp; done) | (go_simp; with_reducible rfl)
               try simp only [Act.put, List.setIfInBounds_toArray, List.set_cons_zero, List.set_cons_succ])
            | (refine held_off 4 rfl (by kernel_rfl) (fun _ _ _ h => h) (by rfl) (by assumption) ?_
               try simp only [Act.put, List.setIfInBounds_toArray, List.set_cons_zero, List.set_cons_succ])
            | (go_outline; fail "take 4")
          first
            | (refine held_on 5 rfl (by kernel_rfl) (fun _ _ _ h => h) (by rfl) (by assumption) (v := ?_) ?_ ?_
               rotate_left
               · intro w hS; (try dsimp only at hS); first | (go_simp; done) | (go_simp; with_reducible rfl)
               try simp only [Act.put, List.setIfInBounds_toArray, List.set_cons_zero, List.set_cons_succ])
            | (refine held_off 5 rfl (by kernel_rfl) (fun _ _ _ h => h) (by rfl) (by assumption) ?_
               try simp only [Act.put, List.setIfInBounds_toArray, List.set_cons_zero, List.set_cons_succ])
            | (go_outline; fail "take 5")
          first
            | (refine held_on 6 rfl (by kernel_rfl) (fun _ _ _ h => h) (by rfl) (by assumption) (v := ?_) ?_ ?_
               rotate_left
               · intro w hS; (try dsimp only at hS); first | (go_simp; done) | (go_simp; with_reducible rfl)
               try simp only [Act.put, List.setIfInBounds_toArray, List.set_cons_zero, List.set_cons_succ])
            | (refine held_off 6 rfl (by kernel_rfl) (fun _ _ _ h => h) (by rfl) (by assumption) ?_
               try simp only [Act.put, List.setIfInBounds_toArray, List.set_cons_zero, List.set_cons_succ])
            | (go_outline; fail "take 6")
          first
            | (refine held_on 7 rfl (by kernel_rfl) (fun _ _ _ h => h) (by rfl) (by assumption) (v := ?_) ?_ ?_
               rotate_left
               · intro w hS; (try dsimp only at hS); first | (go_simp; done) | (go_simp; with_reducible rfl)
               try simp only [Act.put, List.setIfInBounds_toArray, List.set_cons_zero, List.set_cons_succ])
            | (refine held_off 7 rfl (by kernel_rfl) (fun _ _ _ h => h) (by rfl) (by assumption) ?_
               try simp only [Act.put, List.setIfInBounds_toArray, List.set_cons_zero, List.set_cons_succ])
            | (go_outline; fail "take 7")
          refine held_load 8 rfl (by kernel_rfl) (fun _ _ _ h => h) (by rfl) (by assumption) rfl g2 ?_
          try simp only [Act.put, List.setIfInBounds_toArray, List.set_cons_zero, List.set_cons_succ]
          refine held_lookup 9 rfl (by kernel_rfl) (fun _ _ _ h => h) (by rfl) (by assumption) rfl rfl g3 ?_
          try simp only [Act.put, List.setIfInBounds_toArray, List.set_cons_zero, List.set_cons_succ]
          first
            | (refine held_on 10 rfl (by kernel_rfl) (fun _ _ _ h => h) (by rfl) (by assumption) (v := ?_) ?_ ?_
               rotate_left
               · intro w hS; (try dsimp only at hS); first | (go_simp; done) | (go_simp; with_reducible rfl)
               try simp only [Act.put, List.setIfInBounds_toArray, List.set_cons_zero, List.set_cons_succ])
            | (refine held_off 10 rfl (by kernel_rfl) (fun _ _ _ h => h) (by rfl) (by assumption) ?_
               try simp only [Act.put, List.setIfInBounds_toArray, List.set_cons_zero, List.set_cons_succ])
            | (go_outline; fail "take 10")
          first
            | (refine held_on 11 rfl (by kernel_rfl) (fun _ _ _ h => h) (by rfl) (by assumption) (v := ?_) ?_ ?_
               rotate_left
               · intro w hS; (try dsimp only at hS); first | (go_simp; done) | (go_simp; with_reducible rfl)
               try simp only [Act.put, List.setIfInBounds_toArray, List.set_cons_zero, List.set_cons_succ])
            | (refine held_off 11 rfl (by kernel_rfl) (fun _ _ _ h => h) (by rfl) (by assumption) ?_
               try simp only [Act.put, List.setIfInBounds_toArray, List.set_cons_zero, List.set_cons_succ])
            | (go_outline; fail "take 11")
          first
            | (refine held_on 12 rfl (by kernel_rfl) (fun _ _ _ h => h) (by rfl) (by assumption) (v := ?_) ?_ ?_
               rotate_left
               · intro w hS; (try dsimp only at hS); first | (go_simp; done) | (go_simp; with_reducible rfl)
               try simp only [Act.put, List.setIfInBounds_toArray, List.set_cons_zero, List.set_cons_succ])
            | (refine held_off 12 rfl (by kernel_rfl) (fun _ _ _ h => h) (by rfl) (by assumption) ?_
               try simp only [Act.put, List.setIfInBounds_toArray, List.set_cons_zero, List.set_cons_succ])
            | (go_outline; fail "take 12")
          first
            | (refine held_on 13 rfl (by kernel_rfl) (fun _ _ _ h => h) (by rfl) (by assumption) (v := ?_) ?_ ?_
               rotate_left
               · intro w hS; (try dsimp only at hS); first | (go_simp; done) | (go_simp; with_reducible rfl)
               try simp only [Act.put, List.setIfInBounds_toArray, List.set_cons_zero, List.set_cons_succ])
            | (refine held_off 13 rfl (by kernel_rfl) (fun _ _ _ h => h) (by rfl) (by assumption) ?_
               try simp only [Act.put, List.setIfInBounds_toArray, List.set_cons_zero, List.set_cons_succ])
            | (go_outline; fail "take 13")
          first
            | (refine held_on 14 rfl (by kernel_rfl) (fun _ _ _ h => h) (by rfl) (by assumption) (v := ?_) ?_ ?_
               rotate_left
               · intro w hS; (try dsimp only at hS); first | (go_simp; done) | (go_simp; with_reducible rfl)
               try simp only [Act.put, List.setIfInBounds_toArray, List.set_cons_zero, List.set_cons_succ])
            | (refine held_off 14 rfl (by kernel_rfl) (fun _ _ _ h => h) (by rfl) (by assumption) ?_
               try simp only [Act.put, List.setIfInBounds_toArray, List.set_cons_zero, List.set_cons_succ])
            | (go_outline; fail "take 14")
          first
            | (refine held_on 15 rfl (by kernel_rfl) (fun _ _ _ h => h) (by rfl) (by assumption) (v := ?_) ?_ ?_
               rotate_left
               · intro w hS; (try dsimp only at hS); first | (go_simp; done) | (go_simp; with_reducible rfl)
               try simp only [Act.put, List.setIfInBounds_toArray, List.set_cons_zero, List.set_cons_succ])
            | (refine held_off 15 rfl (by kernel_rfl) (fun _ _ _ h => h) (by rfl) (by assumption) ?_
               try simp only [Act.put, List.setIfInBounds_toArray, List.set_cons_zero, List.set_cons_succ])
            | (go_outline; fail "take 15")
          first
            | (refine held_on 16 rfl (by kernel_rfl) (fun _ _ _ h => h) (by rfl) (by assumption) (v := ?_) ?_ ?_
               rotate_left
               · intro w hS; (try dsimp only at hS); first | (go_simp; done) | (go_simp; with_reducible rfl)
               try simp only [Act.put, List.setIfInBounds_toArray, List.set_cons_zero, List.set_cons_succ])
            | (refine held_off 16 rfl (by kernel_rfl) (fun _ _ _ h => h) (by rfl) (by assumption) ?_
               try simp only [Act.put, List.setIfInBounds_toArray, List.set_cons_zero, List.set_cons_succ])
            | (go_outline; fail "take 16")
          first
            | (refine held_on 17 rfl (by kernel_rfl) (fun _ _ _ h => h) (by rfl) (by assumption) (v := ?_) ?_ ?_
               rotate_left
               · intro w hS; (try dsimp only at hS); first | (go_simp; done) | (go_simp; with_reducible rfl)
               try simp only [Act.put, List.setIfInBounds_toArray, List.set_cons_zero, List.set_cons_succ])
            | (refine held_off 17 rfl (by kernel_rfl) (fun _ _ _ h => h) (by rfl) (by assumption) ?_
               try simp only [Act.put, List.setIfInBounds_toArray, List.set_cons_zero, List.set_cons_succ])
            | (go_outline; fail "take 17")
          refine held_load 18 rfl (by kernel_rfl) (fun _ _ _ h => h) (by rfl) (by assumption) rfl g2 ?_
          try simp only [Act.put, List.setIfInBounds_toArray, List.set_cons_zero, List.set_cons_succ]
          refine held_lookup 19 rfl (by kernel_rfl) (fun _ _ _ h => h) (by rfl) (by assumption) rfl rfl g3 ?_
          try simp only [Act.put, List.setIfInBounds_toArray, List.set_cons_zero, List.set_cons_succ]
          first
            | (refine held_on 20 rfl (by kernel_rfl) (fun _ _ _ h => h) (by rfl) (by assumption) (v := ?_) ?_ ?_
               rotate_left
               · intro w hS; (try dsimp only at hS); first | (go_simp; done) | (go_simp; with_reducible rfl)
               try simp only [Act.put, List.setIfInBounds_toArray, List.set_cons_zero, List.set_cons_succ])
            | (refine held_off 20 rfl (by kernel_rfl) (fun _ _ _ h => h) (by rfl) (by assumption) ?_
               try simp only [Act.put, List.setIfInBounds_toArray, List.set_cons_zero, List.set_cons_succ])
            | (go_outline; fail "take 20")
          first
            | (refine held_on 21 rfl (by kernel_rfl) (fun _ _ _ h => h) (by rfl) (by assumption) (v := ?_) ?_ ?_
               rotate_left
               · intro w hS; (try dsimp only at hS); first | (go_simp; done) | (go_simp; with_reducible rfl)
               try simp only [Act.put, List.setIfInBounds_toArray, List.set_cons_zero, List.set_cons_succ])
            | (refine held_off 21 rfl (by kernel_rfl) (fun _ _ _ h => h) (by rfl) (by assumption) ?_
               try simp only [Act.put, List.setIfInBounds_toArray, List.set_cons_zero, List.set_cons_succ])
            | (go_outline; fail "take 21")
          refine wpAnyH_done (by kernel_rfl) ?_ _
          go_wp2_with fail
          go_roundg (acts'.length - (k + 1))
          case measure => have := HX.out; omega
          case rel => exact ⟨k + 1, l', rm, by have := HX.out; omega, by go_num, ⟨HS3.out.upd (HU46.out.drewN _) (fun _ _ f => f), HM6.out.upd ((Upd.refl (fun _ => False) W6).drewN _) (fun f => f), HCNT.out, HREFS.out, HB3.out.trans ((HU46.out.drewN _).below HZ3.out (fun _ f => f.elim)), Nat.le_trans HZ3.out HU46.out.size⟩⟩
        · have hwc : wn = c.refs := by rw [HWN.out]; exact cnt_some hrr
          have hcr := HC.out.refs c (getC_key hrr).2
          have hcm := getC_key hrr
          have hwp : 0 < wn := by omega
          have hwd : decide (0 < wn) = true := decide_eq_true hwp
          have hw0 : (wn == 0) = false := by simpa using (by omega : ¬ wn = 0)
          have hwb : wn ≤ 200 := by have := HX.out; omega
          simp only [hkk] at hstep
          obtain ⟨rfl, rfl, hl'⟩ : false = g ∧ (0 : Int) = er ∧ _ = l' := by injection hstep with h1 h2; injection h2 with h2 h3; exact ⟨h1, h2, h3⟩
          clear hstep
          have hth : alook rm a.key.val = some (.int .i64 wn) := by
            have := HC.out.cnt.there ha.key (by rw [← HWN.out]; omega)
            rw [this, ← HWN.out]
          obtain ⟨d, hd⟩ : ∃ d : ChunkV, d = { c with refs := c.refs + 1 } := ⟨_, rfl⟩
          have hget : getC l' a.key = some d := by
            rw [← hl', getC_put, if_pos hcm.1, hd]
          have hcnt : Cnt (aput rm a.key.val (.int .i64 (wn + 1))) l' := by
            rw [← hl']
            refine HC.out.cnt.set ha.key (fun k => ?_)
            rw [cnt_put, show ({ c with refs := c.refs + 1 } : ChunkV).key = a.key from hcm.1, hwc]
          have hrefs : ∀ c ∈ l', 0 < c.refs ∧ c.refs ≤ (k + 1 : Nat) := by
            intro x hx
            rw [← hl'] at hx
            rcases mem_putC hx with rfl | hx
            · exact ⟨by show 0 < c.refs + 1; omega, by show c.refs + 1 ≤ _; have := hcr.2; push_cast; omega⟩
            · exact ⟨(HC.out.refs x hx).1, by have := (HC.out.refs x hx).2; push_cast; omega⟩
          have hdm := hrefs d (getC_key hget).2
          have hvl : d.cells.length = 37 := ChunkV.clen (HS3.out.good d (getC_key hget).2)
          have hdpos : decide (0 < d.refs) = true := decide_eq_true hdm.1
          have c36 := ChunkV.at36 (HS3.out.good d (getC_key hget).2)
          have hlk : (alook (aput rm a.key.val (.int .i64 (wn + 1))) a.key.val).getD (.int .i64 0) = .int .i64 d.refs := by
            rw [hcnt a.key ha.key]
            unfold cnt
            rw [hget]
            rfl
          have HGET := Lib.hid hget; have HCNT := Lib.hid hcnt; have HREFS := Lib.hid hrefs; have HLK := Lib.hid hlk
          clear hget hcnt hrefs hlk hd hdm
          have HTH := Lib.hid hth; clear hth
          have hwrap : IntKind.i64.wrap (wn + 1) = wn + 1 := by simp [IntKind.wrap, IntKind.bits, IntKind.signed]; omega
          have hcl := And.intro hwc (And.intro hcr hcm)
          clear hwc hcr hcm
          have HCL := Lib.hid hcl; clear hcl
          go_wp2_with fail
          refine wp_region_held_drew (S := fun w' => Upd (fun x => x = r) w3 w') rfl (Upd.refl _ w3).drew (fun hHeld => ?_)
          have q2 : ∀ w', Upd (fun x => x = r) w3 w' → (Instr.loadAt 32 (.pointer (some ⟨wr.heap.size, 1, none⟩))).run Try.prog w' = .ok a.key.val w' := fun w' hw => run_loadAt_mid w' _ 1 32 a.key.cells _ (hw.range (ActV.keyAt ha HR3.out) (fun f => by have := HMW.out.2; omega)) Try.underlying32 rfl (by rw [hkl]; kernel_rfl)
          first
            | (refine held_on 0 rfl (by kernel_rfl) (fun _ _ _ h => h) (by rfl) (by assumption) (v := ?_) ?_ ?_
               rotate_left
               · intro w hS; (try dsimp only at hS); first | (go_simp; done) | (go_simp; with_reducible rfl)
               try simp only [Act.put, List.setIfInBounds_toArray, List.set_cons_zero, List.set_cons_succ])
            | (refine held_off 0 rfl (by kernel_rfl) (fun _ _ _ h => h) (by rfl) (by assumption) ?_
               try simp only [Act.put, List.setIfInBounds_toArray, List.set_cons_zero, List.set_cons_succ])
            | (go_outline; fail "take 0")
          first
            | (refine held_on 1 rfl (by kernel_rfl) (fun _ _ _ h => h) (by rfl) (by assumption) (v := ?_) ?_ ?_
               rotate_left
               · intro w hS; (try dsimp only at hS); first | (go_simp; done) | (go_simp; with_reducible rfl)
               try simp only [Act.put, List.setIfInBounds_toArray, List.set_cons_zero, List.set_cons_succ])
            | (refine held_off 1 rfl (by kernel_rfl) (fun _ _ _ h => h) (by rfl) (by assumption) ?_
               try simp only [Act.put, List.setIfInBounds_toArray, List.set_cons_zero, List.set_cons_succ])
            | (go_outline; fail "take 1")
          refine held_load 2 rfl (by kernel_rfl) (fun _ _ _ h => h) (by rfl) (by assumption) rfl q2 ?_
          try simp only [Act.put, List.setIfInBounds_toArray, List.set_cons_zero, List.set_cons_succ]
          refine wpAnyH_ready (rs := [3, 5]) (by kernel_rfl) (by simp) (AllReadyH.cons rfl (fun K hK => ?_) (AllReadyH.cons rfl (fun K hK => ?_) AllReadyH.nil))
          · rw [if_pos (by rfl)]
            refine wp_lookup _ _ rfl keyedKey Try.underlying26 (.int .i64 0) (by kernel_rfl) (HM3.out.of_block rfl) rfl a.key.val lit HLIT.out rfl (.int .i64 wn) HLO.out ?_
            refine hK.out _ _ hHeld (fun hHeld => ?_)
            clear hK K
            first
              | (refine held_on 4 rfl (by kernel_rfl) (fun _ _ _ h => h) (by rfl) (by assumption) (v := ?_) ?_ ?_
                 rotate_left
                 · intro w hS; (try dsimp only at hS); first | (go_simp; done) | (go_simp; with_reducible rfl)
                 try simp only [Act.put, List.setIfInBounds_toArray, List.set_cons_zero, List.set_cons_succ])
              | (refine held_off 4 rfl (by kernel_rfl) (fun _ _ _ h => h) (by rfl) (by assumption) ?_
                 try simp only [Act.put, List.setIfInBounds_toArray, List.set_cons_zero, List.set_cons_succ])
              | (go_outline; fail "take 4")
            refine wpAnyH_ready (rs := [5]) (by kernel_rfl) (by simp) (AllReadyH.cons rfl (fun K hK => ?_) AllReadyH.nil)
            rw [if_pos (by rfl)]
            refine wp_mapEntry _ _ rfl keyedKey Try.underlying26 (HM3.out.of_block rfl) rfl a.key.val lit HLIT.out rfl HTH.out (fun wE n hE huE => ?_)
            have HE := Lib.hid hE; clear hE
            refine hK.out _ _ (hHeld.trans huE (fun _ _ f => f)) (fun hHeld => ?_)
            clear hK K huE
            first
              | (refine held_on 6 rfl (by kernel_rfl) (fun _ _ _ h => h) (by rfl) (by assumption) (v := ?_) ?_ ?_
                 rotate_left
                 · intro w hS; (try dsimp only at hS); first | (go_simp; done) | (go_simp; with_reducible rfl)
                 try simp only [Act.put, List.setIfInBounds_toArray, List.set_cons_zero, List.set_cons_succ])
              | (refine held_off 6 rfl (by kernel_rfl) (fun _ _ _ h => h) (by rfl) (by assumption) ?_
                 try simp only [Act.put, List.setIfInBounds_toArray, List.set_cons_zero, List.set_cons_succ])
              | (go_outline; fail "take 6")
            refine wpAnyH_ready (rs := [7]) (by kernel_rfl) (by simp) (AllReadyH.cons rfl (fun K hK => ?_) AllReadyH.nil)
            rw [if_pos (by rfl)]
            refine wp_entryStore _ _ _ rfl (HE.out.of_block rfl) rfl HLIT.out rfl (.int .i64 (wn + 1)) rfl (fun w4 hm4 huS => ?_)
            have hu4 : Upd (fun x => x = r) w3 w4 := hHeld.trans huS (fun _ _ f => f)
            refine hK.out _ _ hu4 (fun hHeld => ?_)
            have HM4 := Lib.hid hm4
            have HS4 := Lib.hid (HS3.out.upd hu4 (fun x hx f => by subst f; exact absurd (HX0.out.2.1 _ hx) (by have := HRR.out; omega)))
            have HR4 := Lib.hid (hu4.range HR3.out (fun f => by have := HMW.out.2; omega))
            have hBr : B ≤ r := by have := HB1.out; have := HRR.out; omega
            have HB4 := Lib.hid (HB3.out.trans (hu4.below HZ3.out (fun k f => by rw [f]; exact hBr)))
            have HZ4 := Lib.hid (Nat.le_trans HZ3.out hu4.size)
            clear hK K hHeld huS hm4 hu4 q2
            refine wpAnyH_done (by kernel_rfl) ?_ _
            go_wp2_with (first
              | ((with_reducible change wpList _ _ _ (⟨_, Op.load _ _, _, _, _, _⟩ :: _) _ _); refine wpl_load rfl 32 _ rfl wr.heap.size 1 rfl a.key.cells _ (ActV.keyAt ha HR4.out) Try.underlying32 rfl (by rw [hkl]; kernel_rfl) ?_))
            refine (get_at HS4.out ha.key HGET.out).mono ?_
            rintro e w5 ⟨rfl, hu5⟩
            have HU5 := Lib.hid hu5; clear hu5
            go_wp2_with (first
              | ((with_reducible change wpList _ _ _ (⟨_, Op.store _ _ _, _, _, _, _⟩ :: _) _ _); refine wpList_store_mid rfl _ _ _ rfl w5.heap.size 0 d.cells.toArray rfl rfl (there_new w5 _ _ (by rw [List.size_toArray, hvl]; exact Nat.le_refl _)) (by simp only [List.size_toArray]; rw [hvl]; kernel_rfl) (all_oneCell_toArray ChunkV.one) ?_
                 refine wpList_world fun W6 hW6 => ?_
                 have h4 : W6.heap[w5.heap.size]? = some (.cells d.cells.toArray 41 (0, 0)) := by rw [hW6]; exact at_setAll (heap_alloc_last w5 _) (by rw [hvl]; rfl)
                 have hu6 : Upd (fun _ => False) w5 W6 := by rw [hW6]; exact Upd.setCells (S := fun _ => False) (fun hg => absurd hg (Nat.lt_irrefl _)) _ _ ((Upd.refl _ w5).alloc _)
                 have e36 : W6.cell? ⟨w5.heap.size, 36, none⟩ = some (.int .i64 d.refs) := by rw [cell_at h4, c36]
                 have HU6 := Lib.hid hu6
                 clear h4 hu6 hW6))
            have hu46 : Upd (fun _ => False) w4 W6 := HU5.out.trans HU6.out (fun _ _ f => f)
            have hm6 := HM4.out.upd hu46 (fun f => f)
            have hr6 := hu46.range HR4.out (fun f => f)
            refine wp_region_held_drew (S := fun w' => Upd (fun _ => False) W6 w') rfl (Upd.refl _ W6).drew (fun hHeld => ?_)
            have g2 : ∀ w', Upd (fun _ => False) W6 w' → (Instr.loadAt 32 (.pointer (some ⟨wr.heap.size, 1, none⟩))).run Try.prog w' = .ok a.key.val w' := fun w' hw => run_loadAt_mid w' _ 1 32 a.key.cells _ (hw.range (ActV.keyAt ha hr6) (fun f => f)) Try.underlying32 rfl (by rw [hkl]; kernel_rfl)
            have g3 : ∀ w', Upd (fun _ => False) W6 w' → (Instr.lookup 26 (.map (some r)) a.key.val false).run Try.prog w' = .ok (.int .i64 d.refs) w' := fun w' hw => by
              have := (hm6.upd hw (fun f => f)).look (t := 26) (c := false) keyedKey Try.underlying26 (z := .int .i64 0) (by kernel_rfl) HLIT.out
              rw [HLK.out] at this
              simpa using this
            have g4 : ∀ w', Upd (fun _ => False) W6 w' → w'.cell? ⟨w5.heap.size, 36, none⟩ = some (.int .i64 d.refs) := fun w' hw => hw.cell e36 (fun f => f)
            have HU46 := Lib.hid hu46; have HM6 := Lib.hid hm6
            clear hu46 hm6 hr6 e36
            first
              | (refine held_on 0 rfl (by kernel_rfl) (fun _ _ _ h => h) (by rfl) (by assumption) (v := ?_) ?_ ?_
                 rotate_left
                 · intro w hS; (try dsimp only at hS); first | (go_simp; done) | (go_simp; with_reducible rfl)
                 try simp only [Act.put, List.setIfInBounds_toArray, List.set_cons_zero, List.set_cons_succ])
              | (refine held_off 0 rfl (by kernel_rfl) (fun _ _ _ h => h) (by rfl) (by assumption) ?_
                 try simp only [Act.put, List.setIfInBounds_toArray, List.set_cons_zero, List.set_cons_succ])
              | (go_outline; fail "take 0")
            first
              | (refine held_on 1 rfl (by kernel_rfl) (fun _ _ _ h => h) (by rfl) (by assumption) (v := ?_) ?_ ?_
                 rotate_left
                 · intro w hS; (try dsimp only at hS); first | (go_simp; done) | (go_simp; with_reducible rfl)
                 try simp only [Act.put, List.setIfInBounds_toArray, List.set_cons_zero, List.set_cons_succ])
              | (refine held_off 1 rfl (by kernel_rfl) (fun _ _ _ h => h) (by rfl) (by assumption) ?_
                 try simp only [Act.put, List.setIfInBounds_toArray, List.set_cons_zero, List.set_cons_succ])
              | (go_outline; fail "take 1")
            first
              | (refine held_on 2 rfl (by kernel_rfl) (fun _ _ _ h => h) (by rfl) (by assumption) (v := ?_) ?_ ?_
                 rotate_left
                 · intro w hS; (try dsimp only at hS); first | (go_simp; done) | (go_simp; with_reducible rfl)
                 try simp only [Act.put, List.setIfInBounds_toArray, List.set_cons_zero, List.set_cons_succ])
              | (refine held_off 2 rfl (by kernel_rfl) (fun _ _ _ h => h) (by rfl) (by assumption) ?_
                 try simp only [Act.put, List.setIfInBounds_toArray, List.set_cons_zero, List.set_cons_succ])
              | (go_outline; fail "take 2")
            first
              | (refine held_on 3 rfl (by kernel_rfl) (fun _ _ _ h => h) (by rfl) (by assumption) (v := ?_) ?_ ?_
                 rotate_left
                 · intro w hS; (try dsimp only at hS); first | (go_simp; done) | (go_simp; with_reducible rfl)
                 try simp only [Act.put, List.setIfInBounds_toArray, List.set_cons_zero, List.set_cons_succ])
              | (refine held_off 3 rfl (by kernel_rfl) (fun _ _ _ h => h) (by rfl) (by assumption) ?_
                 try simp only [Act.put, List.setIfInBounds_toArray, List.set_cons_zero, List.set_cons_succ])
              | (go_outline; fail "take 3")
            first
              | (refine held_on 4 rfl (by kernel_rfl) (fun _ _ _ h => h) (by rfl) (by assumption) (v := ?_) ?_ ?_
                 rotate_left
                 · intro w hS; (try dsimp only at hS); first | (go_simp; done) | (go_simp; with_reducible rfl)
                 try simp only [Act.put, List.setIfInBounds_toArray, List.set_cons_zero, List.set_cons_succ])
              | (refine held_off 4 rfl (by kernel_rfl) (fun _ _ _ h => h) (by rfl) (by assumption) ?_
                 try simp only [Act.put, List.setIfInBounds_toArray, List.set_cons_zero, List.set_cons_succ])
              | (go_outline; fail "take 4")
            first
              | (refine held_on 5 rfl (by kernel_rfl) (fun _ _ _ h => h) (by rfl) (by assumption) (v := ?_) ?_ ?_
                 rotate_left
                 · intro w hS; (try dsimp only at hS); first | (go_simp; done) | (go_simp; with_reducible rfl)
                 try simp only [Act.put, List.setIfInBounds_toArray, List.set_cons_zero, List.set_cons_succ])
              | (refine held_off 5 rfl (by kernel_rfl) (fun _ _ _ h => h) (by rfl) (by assumption) ?_
                 try simp only [Act.put, List.setIfInBounds_toArray, List.set_cons_zero, List.set_cons_succ])
              | (go_outline; fail "take 5")
            first
              | (refine held_on 6 rfl (by kernel_rfl) (fun _ _ _ h => h) (by rfl) (by assumption) (v := ?_) ?_ ?_
                 rotate_left
                 · intro w hS; (try dsimp only at hS); first | (go_simp; done) | (go_simp; with_reducible rfl)
                 try simp only [Act.put, List.setIfInBounds_toArray, List.set_cons_zero, List.set_cons_succ])
              | (refine held_off 6 rfl (by kernel_rfl) (fun _ _ _ h => h) (by rfl) (by assumption) ?_
                 try simp only [Act.put, List.setIfInBounds_toArray, List.set_cons_zero, List.set_cons_succ])
              | (go_outline; fail "take 6")
            first
              | (refine held_on 7 rfl (by kernel_rfl) (fun _ _ _ h => h) (by rfl) (by assumption) (v := ?_) ?_ ?_
                 rotate_left
                 · intro w hS; (try dsimp only at hS); first | (go_simp; done) | (go_simp; with_reducible rfl)
                 try simp only [Act.put, List.setIfInBounds_toArray, List.set_cons_zero, List.set_cons_succ])
              | (refine held_off 7 rfl (by kernel_rfl) (fun _ _ _ h => h) (by rfl) (by assumption) ?_
                 try simp only [Act.put, List.setIfInBounds_toArray, List.set_cons_zero, List.set_cons_succ])
              | (go_outline; fail "take 7")
            refine held_load 8 rfl (by kernel_rfl) (fun _ _ _ h => h) (by rfl) (by assumption) rfl g2 ?_
            try simp only [Act.put, List.setIfInBounds_toArray, List.set_cons_zero, List.set_cons_succ]
            refine held_lookup 9 rfl (by kernel_rfl) (fun _ _ _ h => h) (by rfl) (by assumption) rfl rfl g3 ?_
            try simp only [Act.put, List.setIfInBounds_toArray, List.set_cons_zero, List.set_cons_succ]
            first
              | (refine held_on 10 rfl (by kernel_rfl) (fun _ _ _ h => h) (by rfl) (by assumption) (v := ?_) ?_ ?_
                 rotate_left
                 · intro w hS; (try dsimp only at hS); first | (go_simp; done) | (go_simp; with_reducible rfl)
                 try simp only [Act.put, List.setIfInBounds_toArray, List.set_cons_zero, List.set_cons_succ])
              | (refine held_off 10 rfl (by kernel_rfl) (fun _ _ _ h => h) (by rfl) (by assumption) ?_
                 try simp only [Act.put, List.setIfInBounds_toArray, List.set_cons_zero, List.set_cons_succ])
              | (go_outline; fail "take 10")
            first
              | (refine held_on 11 rfl (by kernel_rfl) (fun _ _ _ h => h) (by rfl) (by assumption) (v := ?_) ?_ ?_
                 rotate_left
                 · intro w hS; (try dsimp only at hS); first | (go_simp; done) | (go_simp; with_reducible rfl)
                 try simp only [Act.put, List.setIfInBounds_toArray, List.set_cons_zero, List.set_cons_succ])
              | (refine held_off 11 rfl (by kernel_rfl) (fun _ _ _ h => h) (by rfl) (by assumption) ?_
                 try simp only [Act.put, List.setIfInBounds_toArray, List.set_cons_zero, List.set_cons_succ])
              | (go_outline; fail "take 11")
            first
              | (refine held_on 12 rfl (by kernel_rfl) (fun _ _ _ h => h) (by rfl) (by assumption) (v := ?_) ?_ ?_
                 rotate_left
                 · intro w hS; (try dsimp only at hS); first | (go_simp; done) | (go_simp; with_reducible rfl)
                 try simp only [Act.put, List.setIfInBounds_toArray, List.set_cons_zero, List.set_cons_succ])
              | (refine held_off 12 rfl (by kernel_rfl) (fun _ _ _ h => h) (by rfl) (by assumption) ?_
                 try simp only [Act.put, List.setIfInBounds_toArray, List.set_cons_zero, List.set_cons_succ])
              | (go_outline; fail "take 12")
            first
              | (refine held_on 13 rfl (by kernel_rfl) (fun _ _ _ h => h) (by rfl) (by assumption) (v := ?_) ?_ ?_
                 rotate_left
                 · intro w hS; (try dsimp only at hS); first | (go_simp; done) | (go_simp; with_reducible rfl)
                 try simp only [Act.put, List.setIfInBounds_toArray, List.set_cons_zero, List.set_cons_succ])
              | (refine held_off 13 rfl (by kernel_rfl) (fun _ _ _ h => h) (by rfl) (by assumption) ?_
                 try simp only [Act.put, List.setIfInBounds_toArray, List.set_cons_zero, List.set_cons_succ])
              | (go_outline; fail "take 13")
            first
              | (refine held_on 14 rfl (by kernel_rfl) (fun _ _ _ h => h) (by rfl) (by assumption) (v := ?_) ?_ ?_
                 rotate_left
                 · intro w hS; (try dsimp only at hS); first | (go_simp; done) | (go_simp; with_reducible rfl)
                 try simp only [Act.put, List.setIfInBounds_toArray, List.set_cons_zero, List.set_cons_succ])
              | (refine held_off 14 rfl (by kernel_rfl) (fun _ _ _ h => h) (by rfl) (by assumption) ?_
                 try simp only [Act.put, List.setIfInBounds_toArray, List.set_cons_zero, List.set_cons_succ])
              | (go_outline; fail "take 14")
            first
              | (refine held_on 15 rfl (by kernel_rfl) (fun _ _ _ h => h) (by rfl) (by assumption) (v := ?_) ?_ ?_
                 rotate_left
                 · intro w hS; (try dsimp only at hS); first | (go_simp; done) | (go_simp; with_reducible rfl)
                 try simp only [Act.put, List.setIfInBounds_toArray, List.set_cons_zero, List.set_cons_succ])
              | (refine held_off 15 rfl (by kernel_rfl) (fun _ _ _ h => h) (by rfl) (by assumption) ?_
                 try simp only [Act.put, List.setIfInBounds_toArray, List.set_cons_zero, List.set_cons_succ])
              | (go_outline; fail "take 15")
            first
              | (refine held_on 16 rfl (by kernel_rfl) (fun _ _ _ h => h) (by rfl) (by assumption) (v := ?_) ?_ ?_
                 rotate_left
                 · intro w hS; (try dsimp only at hS); first | (go_simp; done) | (go_simp; with_reducible rfl)
                 try simp only [Act.put, List.setIfInBounds_toArray, List.set_cons_zero, List.set_cons_succ])
              | (refine held_off 16 rfl (by kernel_rfl) (fun _ _ _ h => h) (by rfl) (by assumption) ?_
                 try simp only [Act.put, List.setIfInBounds_toArray, List.set_cons_zero, List.set_cons_succ])
              | (go_outline; fail "take 16")
            first
              | (refine held_on 17 rfl (by kernel_rfl) (fun _ _ _ h => h) (by rfl) (by assumption) (v := ?_) ?_ ?_
                 rotate_left
                 · intro w hS; (try dsimp only at hS); first | (go_simp; done) | (go_simp; with_reducible rfl)
                 try simp only [Act.put, List.setIfInBounds_toArray, List.set_cons_zero, List.set_cons_succ])
              | (refine held_off 17 rfl (by kernel_rfl) (fun _ _ _ h => h) (by rfl) (by assumption) ?_
                 try simp only [Act.put, List.setIfInBounds_toArray, List.set_cons_zero, List.set_cons_succ])
              | (go_outline; fail "take 17")
            refine held_load 18 rfl (by kernel_rfl) (fun _ _ _ h => h) (by rfl) (by assumption) rfl g2 ?_
            try simp only [Act.put, List.setIfInBounds_toArray, List.set_cons_zero, List.set_cons_succ]
            refine held_lookup 19 rfl (by kernel_rfl) (fun _ _ _ h => h) (by rfl) (by assumption) rfl rfl g3 ?_
            try simp only [Act.put, List.setIfInBounds_toArray, List.set_cons_zero, List.set_cons_succ]
            first
              | (refine held_on 20 rfl (by kernel_rfl) (fun _ _ _ h => h) (by rfl) (by assumption) (v := ?_) ?_ ?_
                 rotate_left
                 · intro w hS; (try dsimp only at hS); first | (go_simp; done) | (go_simp; with_reducible rfl)
                 try simp only [Act.put, List.setIfInBounds_toArray, List.set_cons_zero, List.set_cons_succ])
              | (refine held_off 20 rfl (by kernel_rfl) (fun _ _ _ h => h) (by rfl) (by assumption) ?_
                 try simp only [Act.put, List.setIfInBounds_toArray, List.set_cons_zero, List.set_cons_succ])
              | (go_outline; fail "take 20")
            first
              | (refine held_on 21 rfl (by kernel_rfl) (fun _ _ _ h => h) (by rfl) (by assumption) (v := ?_) ?_ ?_
                 rotate_left
                 · intro w hS; (try dsimp only at hS); first | (go_simp; done) | (go_simp; with_reducible rfl)
                 try simp only [Act.put, List.setIfInBounds_toArray, List.set_cons_zero, List.set_cons_succ])
              | (refine held_off 21 rfl (by kernel_rfl) (fun _ _ _ h => h) (by rfl) (by assumption) ?_
                 try simp only [Act.put, List.setIfInBounds_toArray, List.set_cons_zero, List.set_cons_succ])
              | (go_outline; fail "take 21")
            refine wpAnyH_done (by kernel_rfl) ?_ _
            go_wp2_with fail
            go_roundg (acts'.length - (k + 1))
            case measure => have := HX.out; omega
            case rel => exact ⟨k + 1, l', aput rm a.key.val (.int .i64 (wn + 1)), by have := HX.out; omega, by go_num, ⟨HS4.out.upd (HU46.out.drewN _) (fun _ _ f => f), HM6.out.upd ((Upd.refl (fun _ => False) W6).drewN _) (fun f => f), HCNT.out, HREFS.out, HB4.out.trans ((HU46.out.drewN _).below HZ4.out (fun _ f => f.elim)), Nat.le_trans HZ4.out HU46.out.size⟩⟩
          · rw [if_pos (by rfl)]
            refine wp_mapEntry _ _ rfl keyedKey Try.underlying26 (HM3.out.of_block rfl) rfl a.key.val lit HLIT.out rfl HTH.out (fun wE n hE huE => ?_)
            have HE := Lib.hid hE; clear hE
            refine hK.out _ _ (hHeld.trans huE (fun _ _ f => f)) (fun hHeld => ?_)
            clear hK K huE
            first
              | (refine held_on 6 rfl (by kernel_rfl) (fun _ _ _ h => h) (by rfl) (by assumption) (v := ?_) ?_ ?_
                 rotate_left
                 · intro w hS; (try dsimp only at hS); first | (go_simp; done) | (go_simp; with_reducible rfl)
                 try simp only [Act.put, List.setIfInBounds_toArray, List.set_cons_zero, List.set_cons_succ])
              | (refine held_off 6 rfl (by kernel_rfl) (fun _ _ _ h => h) (by rfl) (by assumption) ?_
                 try simp only [Act.put, List.setIfInBounds_toArray, List.set_cons_zero, List.set_cons_succ])
              | (go_outline; fail "take 6")
            refine wpAnyH_ready (rs := [3]) (by kernel_rfl) (by simp) (AllReadyH.cons rfl (fun K hK => ?_) AllReadyH.nil)
            rw [if_pos (by rfl)]
            refine wp_lookup _ _ rfl keyedKey Try.underlying26 (.int .i64 0) (by kernel_rfl) (HE.out.1.of_block rfl) rfl a.key.val lit HLIT.out rfl (.int .i64 wn) HLO.out ?_
            refine hK.out _ _ hHeld (fun hHeld => ?_)
            clear hK K
            first
              | (refine held_on 4 rfl (by kernel_rfl) (fun _ _ _ h => h) (by rfl) (by assumption) (v := ?_) ?_ ?_
                 rotate_left
                 · intro w hS; (try dsimp only at hS); first | (go_simp; done) | (go_simp; with_reducible rfl)
                 try simp only [Act.put, List.setIfInBounds_toArray, List.set_cons_zero, List.set_cons_succ])
              | (refine held_off 4 rfl (by kernel_rfl) (fun _ _ _ h => h) (by rfl) (by assumption) ?_
                 try simp only [Act.put, List.setIfInBounds_toArray, List.set_cons_zero, List.set_cons_succ])
              | (go_outline; fail "take 4")
            refine wpAnyH_ready (rs := [7]) (by kernel_rfl) (by simp) (AllReadyH.cons rfl (fun K hK => ?_) AllReadyH.nil)
            rw [if_pos (by rfl)]
            refine wp_entryStore _ _ _ rfl (HE.out.of_block rfl) rfl HLIT.out rfl (.int .i64 (wn + 1)) rfl (fun w4 hm4 huS => ?_)
            have hu4 : Upd (fun x => x = r) w3 w4 := hHeld.trans huS (fun _ _ f => f)
            refine hK.out _ _ hu4 (fun hHeld => ?_)
            have HM4 := Lib.hid hm4
            have HS4 := Lib.hid (HS3.out.upd hu4 (fun x hx f => by subst f; exact absurd (HX0.out.2.1 _ hx) (by have := HRR.out; omega)))
            have HR4 := Lib.hid (hu4.range HR3.out (fun f => by have := HMW.out.2; omega))
            have hBr : B ≤ r := by have := HB1.out; have := HRR.out; omega
            have HB4 := Lib.hid (HB3.out.trans (hu4.below HZ3.out (fun k f => by rw [f]; exact hBr)))
            have HZ4 := Lib.hid (Nat.le_trans HZ3.out hu4.size)
            clear hK K hHeld huS hm4 hu4 q2
            refine wpAnyH_done (by kernel_rfl) ?_ _
            go_wp2_with (first
              | ((with_reducible change wpList _ _ _ (⟨_, Op.load _ _, _, _, _, _⟩ :: _) _ _); refine wpl_load rfl 32 _ rfl wr.heap.size 1 rfl a.key.cells _ (ActV.keyAt ha HR4.out) Try.underlying32 rfl (by rw [hkl]; kernel_rfl) ?_))
            refine (get_at HS4.out ha.key HGET.out).mono ?_
            rintro e w5 ⟨rfl, hu5⟩
            have HU5 := Lib.hid hu5; clear hu5
            go_wp2_with (first
              | ((with_reducible change wpList _ _ _ (⟨_, Op.store _ _ _, _, _, _, _⟩ :: _) _ _); refine wpList_store_mid rfl _ _ _ rfl w5.heap.size 0 d.cells.toArray rfl rfl (there_new w5 _ _ (by rw [List.size_toArray, hvl]; exact Nat.le_refl _)) (by simp only [List.size_toArray]; rw [hvl]; kernel_rfl) (all_oneCell_toArray ChunkV.one) ?_
                 refine wpList_world fun W6 hW6 => ?_
                 have h4 : W6.heap[w5.heap.size]? = some (.cells d.cells.toArray 41 (0, 0)) := by rw [hW6]; exact at_setAll (heap_alloc_last w5 _) (by rw [hvl]; rfl)
                 have hu6 : Upd (fun _ => False) w5 W6 := by rw [hW6]; exact Upd.setCells (S := fun _ => False) (fun hg => absurd hg (Nat.lt_irrefl _)) _ _ ((Upd.refl _ w5).alloc _)
                 have e36 : W6.cell? ⟨w5.heap.size, 36, none⟩ = some (.int .i64 d.refs) := by rw [cell_at h4, c36]
                 have HU6 := Lib.hid hu6
                 clear h4 hu6 hW6))
            have hu46 : Upd (fun _ => False) w4 W6 := HU5.out.trans HU6.out (fun _ _ f => f)
            have hm6 := HM4.out.upd hu46 (fun f => f)
            have hr6 := hu46.range HR4.out (fun f => f)
            refine wp_region_held_drew (S := fun w' => Upd (fun _ => False) W6 w') rfl (Upd.refl _ W6).drew (fun hHeld => ?_)
            have g2 : ∀ w', Upd (fun _ => False) W6 w' → (Instr.loadAt 32 (.pointer (some ⟨wr.heap.size, 1, none⟩))).run Try.prog w' = .ok a.key.val w' := fun w' hw => run_loadAt_mid w' _ 1 32 a.key.cells _ (hw.range (ActV.keyAt ha hr6) (fun f => f)) Try.underlying32 rfl (by rw [hkl]; kernel_rfl)
            have g3 : ∀ w', Upd (fun _ => False) W6 w' → (Instr.lookup 26 (.map (some r)) a.key.val false).run Try.prog w' = .ok (.int .i64 d.refs) w' := fun w' hw => by
              have := (hm6.upd hw (fun f => f)).look (t := 26) (c := false) keyedKey Try.underlying26 (z := .int .i64 0) (by kernel_rfl) HLIT.out
              rw [HLK.out] at this
              simpa using this
            have g4 : ∀ w', Upd (fun _ => False) W6 w' → w'.cell? ⟨w5.heap.size, 36, none⟩ = some (.int .i64 d.refs) := fun w' hw => hw.cell e36 (fun f => f)
            have HU46 := Lib.hid hu46; have HM6 := Lib.hid hm6
            clear hu46 hm6 hr6 e36
            first
              | (refine held_on 0 rfl (by kernel_rfl) (fun _ _ _ h => h) (by rfl) (by assumption) (v := ?_) ?_ ?_
                 rotate_left
                 · intro w hS; (try dsimp only at hS); first | (go_simp; done) | (go_simp; with_reducible rfl)
                 try simp only [Act.put, List.setIfInBounds_toArray, List.set_cons_zero, List.set_cons_succ])
              | (refine held_off 0 rfl (by kernel_rfl) (fun _ _ _ h => h) (by rfl) (by assumption) ?_
                 try simp only [Act.put, List.setIfInBounds_toArray, List.set_cons_zero, List.set_cons_succ])
              | (go_outline; fail "take 0")
            first
              | (refine held_on 1 rfl (by kernel_rfl) (fun _ _ _ h => h) (by rfl) (by assumption) (v := ?_) ?_ ?_
                 rotate_left
                 · intro w hS; (try dsimp only at hS); first | (go_simp; done) | (go_simp; with_reducible rfl)
                 try simp only [Act.put, List.setIfInBounds_toArray, List.set_cons_zero, List.set_cons_succ])
              | (refine held_off 1 rfl (by kernel_rfl) (fun _ _ _ h => h) (by rfl) (by assumption) ?_
                 try simp only [Act.put, List.setIfInBounds_toArray, List.set_cons_zero, List.set_cons_succ])
              | (go_outline; fail "take 1")
            first
              | (refine held_on 2 rfl (by kernel_rfl) (fun _ _ _ h => h) (by rfl) (by assumption) (v := ?_) ?_ ?_
                 rotate_left
                 · intro w hS; (try dsimp only at hS); first | (go_simp; done) | (go_simp; with_reducible rfl)
                 try simp only [Act.put, List.setIfInBounds_toArray, List.set_cons_zero, List.set_cons_succ])
              | (refine held_off 2 rfl (by kernel_rfl) (fun _ _ _ h => h) (by rfl) (by assumption) ?_
                 try simp only [Act.put, List.setIfInBounds_toArray, List.set_cons_zero, List.set_cons_succ])
              | (go_outline; fail "take 2")
            first
              | (refine held_on 3 rfl (by kernel_rfl) (fun _ _ _ h => h) (by rfl) (by assumption) (v := ?_) ?_ ?_
                 rotate_left
                 · intro w hS; (try dsimp only at hS); first | (go_simp; done) | (go_simp; with_reducible rfl)
                 try simp only [Act.put, List.setIfInBounds_toArray, List.set_cons_zero, List.set_cons_succ])
              | (refine held_off 3 rfl (by kernel_rfl) (fun _ _ _ h => h) (by rfl) (by assumption) ?_
                 try simp only [Act.put, List.setIfInBounds_toArray, List.set_cons_zero, List.set_cons_succ])
              | (go_outline; fail "take 3")
            first
              | (refine held_on 4 rfl (by kernel_rfl) (fun _ _ _ h => h) (by rfl) (by assumption) (v := ?_) ?_ ?_
                 rotate_left
                 · intro w hS; (try dsimp only at hS); first | (go_simp; done) | (go_simp; with_reducible rfl)
                 try simp only [Act.put, List.setIfInBounds_toArray, List.set_cons_zero, List.set_cons_succ])
              | (refine held_off 4 rfl (by kernel_rfl) (fun _ _ _ h => h) (by rfl) (by assumption) ?_
                 try simp only [Act.put, List.setIfInBounds_toArray, List.set_cons_zero, List.set_cons_succ])
              | (go_outline; fail "take 4")
            first
              | (refine held_on 5 rfl (by kernel_rfl) (fun _ _ _ h => h) (by rfl) (by assumption) (v := ?_) ?_ ?_
                 rotate_left
                 · intro w hS; (try dsimp only at hS); first | (go_simp; done) | (go_simp; with_reducible rfl)
                 try simp only [Act.put, List.setIfInBounds_toArray, List.set_cons_zero, List.set_cons_succ])
              | (refine held_off 5 rfl (by kernel_rfl) (fun _ _ _ h => h) (by rfl) (by assumption) ?_
                 try simp only [Act.put, List.setIfInBounds_toArray, List.set_cons_zero, List.set_cons_succ])
              | (go_outline; fail "take 5")
            first
              | (refine held_on 6 rfl (by kernel_rfl) (fun _ _ _ h => h) (by rfl) (by assumption) (v := ?_) ?_ ?_
                 rotate_left
                 · intro w hS; (try dsimp only at hS); first | (go_simp; done) | (go_simp; with_reducible rfl)
                 try simp only [Act.put, List.setIfInBounds_toArray, List.set_cons_zero, List.set_cons_succ])
              | (refine held_off 6 rfl (by kernel_rfl) (fun _ _ _ h => h) (by rfl) (by assumption) ?_
                 try simp only [Act.put, List.setIfInBounds_toArray, List.set_cons_zero, List.set_cons_succ])
              | (go_outline; fail "take 6")
            first
              | (refine held_on 7 rfl (by kernel_rfl) (fun _ _ _ h => h) (by rfl) (by assumption) (v := ?_) ?_ ?_
                 rotate_left
                 · intro w hS; (try dsimp only at hS); first | (go_simp; done) | (go_simp; with_reducible rfl)
                 try simp only [Act.put, List.setIfInBounds_toArray, List.set_cons_zero, List.set_cons_succ])
              | (refine held_off 7 rfl (by kernel_rfl) (fun _ _ _ h => h) (by rfl) (by assumption) ?_
                 try simp only [Act.put, List.setIfInBounds_toArray, List.set_cons_zero, List.set_cons_succ])
              | (go_outline; fail "take 7")
            refine held_load 8 rfl (by kernel_rfl) (fun _ _ _ h => h) (by rfl) (by assumption) rfl g2 ?_
            try simp only [Act.put, List.setIfInBounds_toArray, List.set_cons_zero, List.set_cons_succ]
            refine held_lookup 9 rfl (by kernel_rfl) (fun _ _ _ h => h) (by rfl) (by assumption) rfl rfl g3 ?_
            try simp only [Act.put, List.setIfInBounds_toArray, List.set_cons_zero, List.set_cons_succ]
            first
              | (refine held_on 10 rfl (by kernel_rfl) (fun _ _ _ h => h) (by rfl) (by assumption) (v := ?_) ?_ ?_
                 rotate_left
                 · intro w hS; (try dsimp only at hS); first | (go_simp; done) | (go_simp; with_reducible rfl)
                 try simp only [Act.put, List.setIfInBounds_toArray, List.set_cons_zero, List.set_cons_succ])
              | (refine held_off 10 rfl (by kernel_rfl) (fun _ _ _ h => h) (by rfl) (by assumption) ?_
                 try simp only [Act.put, List.setIfInBounds_toArray, List.set_cons_zero, List.set_cons_succ])
              | (go_outline; fail "take 10")
            first
              | (refine held_on 11 rfl (by kernel_rfl) (fun _ _ _ h => h) (by rfl) (by assumption) (v := ?_) ?_ ?_
                 rotate_left
                 · intro w hS; (try dsimp only at hS); first | (go_simp; done) | (go_simp; with_reducible rfl)
                 try simp only [Act.put, List.setIfInBounds_toArray, List.set_cons_zero, List.set_cons_succ])
              | (refine held_off 11 rfl (by kernel_rfl) (fun _ _ _ h => h) (by rfl) (by assumption) ?_
                 try simp only [Act.put, List.setIfInBounds_toArray, List.set_cons_zero, List.set_cons_succ])
              | (go_outline; fail "take 11")
            first
              | (refine held_on 12 rfl (by kernel_rfl) (fun _ _ _ h => h) (by rfl) (by assumption) (v := ?_) ?_ ?_
                 rotate_left
                 · intro w hS; (try dsimp only at hS); first | (go_simp; done) | (go_simp; with_reducible rfl)
                 try simp only [Act.put, List.setIfInBounds_toArray, List.set_cons_zero, List.set_cons_succ])
              | (refine held_off 12 rfl (by kernel_rfl) (fun _ _ _ h => h) (by rfl) (by assumption) ?_
                 try simp only [Act.put, List.setIfInBounds_toArray, List.set_cons_zero, List.set_cons_succ])
              | (go_outline; fail "take 12")
            first
              | (refine held_on 13 rfl (by kernel_rfl) (fun _ _ _ h => h) (by rfl) (by assumption) (v := ?_) ?_ ?_
                 rotate_left
                 · intro w hS; (try dsimp only at hS); first | (go_simp; done) | (go_simp; with_reducible rfl)
                 try simp only [Act.put, List.setIfInBounds_toArray, List.set_cons_zero, List.set_cons_succ])
              | (refine held_off 13 rfl (by kernel_rfl) (fun _ _ _ h => h) (by rfl) (by assumption) ?_
                 try simp only [Act.put, List.setIfInBounds_toArray, List.set_cons_zero, List.set_cons_succ])
              | (go_outline; fail "take 13")
            first
              | (refine held_on 14 rfl (by kernel_rfl) (fun _ _ _ h => h) (by rfl) (by assumption) (v := ?_) ?_ ?_
                 rotate_left
                 · intro w hS; (try dsimp only at hS); first | (go_simp; done) | (go_simp; with_reducible rfl)
                 try simp only [Act.put, List.setIfInBounds_toArray, List.set_cons_zero, List.set_cons_succ])
              | (refine held_off 14 rfl (by kernel_rfl) (fun _ _ _ h => h) (by rfl) (by assumption) ?_
                 try simp only [Act.put, List.setIfInBounds_toArray, List.set_cons_zero, List.set_cons_succ])
              | (go_outline; fail "take 14")
            first
              | (refine held_on 15 rfl (by kernel_rfl) (fun _ _ _ h => h) (by rfl) (by assumption) (v := ?_) ?_ ?_
                 rotate_left
                 · intro w hS; (try dsimp only at hS); first | (go_simp; done) | (go_simp; with_reducible rfl)
                 try simp only [Act.put, List.setIfInBounds_toArray, List.set_cons_zero, List.set_cons_succ])
              | (refine held_off 15 rfl (by kernel_rfl) (fun _ _ _ h => h) (by rfl) (by assumption) ?_
                 try simp only [Act.put, List.setIfInBounds_toArray, List.set_cons_zero, List.set_cons_succ])
              | (go_outline; fail "take 15")
            first
              | (refine held_on 16 rfl (by kernel_rfl) (fun _ _ _ h => h) (by rfl) (by assumption) (v := ?_) ?_ ?_
                 rotate_left
                 · intro w hS; (try dsimp only at hS); first | (go_simp; done) | (go_simp; with_reducible rfl)
                 try simp only [Act.put, List.setIfInBounds_toArray, List.set_cons_zero, List.set_cons_succ])
              | (refine held_off 16 rfl (by kernel_rfl) (fun _ _ _ h => h) (by rfl) (by assumption) ?_
                 try simp only [Act.put, List.setIfInBounds_toArray, List.set_cons_zero, List.set_cons_succ])
              | (go_outline; fail "take 16")
            first
              | (refine held_on 17 rfl (by kernel_rfl) (fun _ _ _ h => h) (by rfl) (by assumption) (v := ?_) ?_ ?_
                 rotate_left
                 · intro w hS; (try dsimp only at hS); first | (go_simp; done) | (go_simp; with_reducible rfl)
                 try simp only [Act.put, List.setIfInBounds_toArray, List.set_cons_zero, List.set_cons_succ])
              | (refine held_off 17 rfl (by kernel_rfl) (fun _ _ _ h => h) (by rfl) (by assumption) ?_
                 try simp only [Act.put, List.setIfInBounds_toArray, List.set_cons_zero, List.set_cons_succ])
              | (go_outline; fail "take 17")
            refine held_load 18 rfl (by kernel_rfl) (fun _ _ _ h => h) (by rfl) (by assumption) rfl g2 ?_
            try simp only [Act.put, List.setIfInBounds_toArray, List.set_cons_zero, List.set_cons_succ]
            refine held_lookup 19 rfl (by kernel_rfl) (fun _ _ _ h => h) (by rfl) (by assumption) rfl rfl g3 ?_
            try simp only [Act.put, List.setIfInBounds_toArray, List.set_cons_zero, List.set_cons_succ]
            first
              | (refine held_on 20 rfl (by kernel_rfl) (fun _ _ _ h => h) (by rfl) (by assumption) (v := ?_) ?_ ?_
                 rotate_left
                 · intro w hS; (try dsimp only at hS); first | (go_simp; done) | (go_simp; with_reducible rfl)
                 try simp only [Act.put, List.setIfInBounds_toArray, List.set_cons_zero, List.set_cons_succ])
              | (refine held_off 20 rfl (by kernel_rfl) (fun _ _ _ h => h) (by rfl) (by assumption) ?_
                 try simp only [Act.put, List.setIfInBounds_toArray, List.set_cons_zero, List.set_cons_succ])
              | (go_outline; fail "take 20")
            first
              | (refine held_on 21 rfl (by kernel_rfl) (fun _ _ _ h => h) (by rfl) (by assumption) (v := ?_) ?_ ?_
                 rotate_left
                 · intro w hS; (try dsimp only at hS); first | (go_simp; done) | (go_simp; with_reducible rfl)
                 try simp only [Act.put, List.setIfInBounds_toArray, List.set_cons_zero, List.set_cons_succ])
              | (refine held_off 21 rfl (by kernel_rfl) (fun _ _ _ h => h) (by rfl) (by assumption) ?_
                 try simp only [Act.put, List.setIfInBounds_toArray, List.set_cons_zero, List.set_cons_succ])
              | (go_outline; fail "take 21")
            refine wpAnyH_done (by kernel_rfl) ?_ _
            go_wp2_with fail
            go_roundg (acts'.length - (k + 1))
            case measure => have := HX.out; omega
            case rel => exact ⟨k + 1, l', aput rm a.key.val (.int .i64 (wn + 1)), by have := HX.out; omega, by go_num, ⟨HS4.out.upd (HU46.out.drewN _) (fun _ _ f => f), HM6.out.upd ((Upd.refl (fun _ => False) W6).drewN _) (fun f => f), HCNT.out, HREFS.out, HB4.out.trans ((HU46.out.drewN _).below HZ4.out (fun _ f => f.elim)), Nat.le_trans HZ4.out HU46.out.size⟩⟩
      · rcases rr with _ | c
        · obtain rfl : wn = 0 := by rw [HWN.out]; exact cnt_none hrr
          simp only [hkk] at hstep
          obtain ⟨rfl, rfl, hl'⟩ : false = g ∧ (2 : Int) = er ∧ _ = l' := by injection hstep with h1 h2; injection h2 with h2 h3; exact ⟨h1, h2, h3⟩
          clear hstep
          have hget : getC l' a.key = none := by
            rw [← hl', hrr]
          have hcnt : Cnt (rm) l' := by
            rw [← hl']; exact HC.out.cnt
          have hrefs : ∀ c ∈ l', 0 < c.refs ∧ c.refs ≤ (k + 1 : Nat) := by
            rw [← hl']; exact fun c hc => ⟨(HC.out.refs c hc).1, by have := (HC.out.refs c hc).2; push_cast; omega⟩
          have hvl : zeroChunk.cells.length = 37 := ChunkV.clen zeroKey_good
          have c36 : zeroChunk.cells.toArray[36]? = some (.int .i64 0) := rfl
          have hlk : (alook (rm) a.key.val).getD (.int .i64 0) = .int .i64 0 := by
            rw [hcnt a.key ha.key]
            unfold cnt
            rw [hget]
            rfl
          have HGET := Lib.hid hget; have HCNT := Lib.hid hcnt; have HREFS := Lib.hid hrefs; have HLK := Lib.hid hlk
          clear hget hcnt hrefs hlk
          go_wp2_with (first
            | ((with_reducible change wpList _ _ _ (⟨_, Op.load _ _, _, _, _, _⟩ :: _) _ _); refine wpl_load rfl 32 _ rfl wr.heap.size 1 rfl a.key.cells _ (ActV.keyAt ha HR3.out) Try.underlying32 rfl (by rw [hkl]; kernel_rfl) ?_))
          refine (get_at HS3.out ha.key HGET.out).mono ?_
          rintro e w5 ⟨rfl, hu5⟩
          have HU5 := Lib.hid hu5; clear hu5
          go_wp2_with (first
            | ((with_reducible change wpList _ _ _ (⟨_, Op.store _ _ _, _, _, _, _⟩ :: _) _ _); refine wpList_store_mid rfl _ _ _ rfl w5.heap.size 0 zeroChunk.cells.toArray rfl rfl (there_new w5 _ _ (by rw [List.size_toArray, hvl]; exact Nat.le_refl _)) (by simp only [List.size_toArray]; rw [hvl]; kernel_rfl) (all_oneCell_toArray ChunkV.one) ?_
               refine wpList_world fun W6 hW6 => ?_
               have h4 : W6.heap[w5.heap.size]? = some (.cells zeroChunk.cells.toArray 41 (0, 0)) := by rw [hW6]; exact at_setAll (heap_alloc_last w5 _) (by rw [hvl]; rfl)
               have hu6 : Upd (fun _ => False) w5 W6 := by rw [hW6]; exact Upd.setCells (S := fun _ => False) (fun hg => absurd hg (Nat.lt_irrefl _)) _ _ ((Upd.refl _ w5).alloc _)
               have e36 : W6.cell? ⟨w5.heap.size, 36, none⟩ = some (.int .i64 0) := by rw [cell_at h4, c36]
               have HU6 := Lib.hid hu6
               clear h4 hu6 hW6))
          have hu46 : Upd (fun _ => False) w3 W6 := HU5.out.trans HU6.out (fun _ _ f => f)
          have hm6 := HM3.out.upd hu46 (fun f => f)
          have hr6 := hu46.range HR3.out (fun f => f)
          refine wp_region_held_drew (S := fun w' => Upd (fun _ => False) W6 w') rfl (Upd.refl _ W6).drew (fun hHeld => ?_)
          have g2 : ∀ w', Upd (fun _ => False) W6 w' → (Instr.loadAt 32 (.pointer (some ⟨wr.heap.size, 1, none⟩))).run Try.prog w' = .ok a.key.val w' := fun w' hw => run_loadAt_mid w' _ 1 32 a.key.cells _ (hw.range (ActV.keyAt ha hr6) (fun f => f)) Try.underlying32 rfl (by rw [hkl]; kernel_rfl)
          have g3 : ∀ w', Upd (fun _ => False) W6 w' → (Instr.lookup 26 (.map (some r)) a.key.val false).run Try.prog w' = .ok (.int .i64 0) w' := fun w' hw => by
            have := (hm6.upd hw (fun f => f)).look (t := 26) (c := false) keyedKey Try.underlying26 (z := .int .i64 0) (by kernel_rfl) HLIT.out
            rw [HLK.out] at this
            simpa using this
          have g4 : ∀ w', Upd (fun _ => False) W6 w' → w'.cell? ⟨w5.heap.size, 36, none⟩ = some (.int .i64 0) := fun w' hw => hw.cell e36 (fun f => f)
          have HU46 := Lib.hid hu46; have HM6 := Lib.hid hm6
          clear hu46 hm6 hr6 e36
          first
            | (refine held_on 0 rfl (by kernel_rfl) (fun _ _ _ h => h) (by rfl) (by assumption) (v := ?_) ?_ ?_
               rotate_left
               · intro w hS; (try dsimp only at hS); first | (go_simp; done) | (go_simp; with_reducible rfl)
               try simp only [Act.put, List.setIfInBounds_toArray, List.set_cons_zero, List.set_cons_succ])
            | (refine held_off 0 rfl (by kernel_rfl) (fun _ _ _ h => h) (by rfl) (by assumption) ?_
               try simp only [Act.put, List.setIfInBounds_toArray, List.set_cons_zero, List.set_cons_succ])
            | (go_outline; fail "take 0")
          first
            | (refine held_on 1 rfl (by kernel_rfl) (fun _ _ _ h => h) (by rfl) (by assumption) (v := ?_) ?_ ?_
               rotate_left
               · intro w hS; (try dsimp only at hS); first | (go_simp; done) | (go_simp; with_reducible rfl)
               try simp only [Act.put, List.setIfInBounds_toArray, List.set_cons_zero, List.set_cons_succ])
            | (refine held_off 1 rfl (by kernel_rfl) (fun _ _ _ h => h) (by rfl) (by assumption) ?_
               try simp only [Act.put, List.setIfInBounds_toArray, List.set_cons_zero, List.set_cons_succ])
            | (go_outline; fail "take 1")
          first
            | (refine held_on 2 rfl (by kernel_rfl) (fun _ _ _ h => h) (by rfl) (by assumption) (v := ?_) ?_ ?_
               rotate_left
               · intro w hS; (try dsimp only at hS); first | (go_simp; done) | (go_simp; with_reducible rfl)
               try simp only [Act.put, List.setIfInBounds_toArray, List.set_cons_zero, List.set_cons_succ])
            | (refine held_off 2 rfl (by kernel_rfl) (fun _ _ _ h => h) (by rfl) (by assumption) ?_
               try simp only [Act.put, List.setIfInBounds_toArray, List.set_cons_zero, List.set_cons_succ])
            | (go_outline; fail "take 2")
          first
            | (refine held_on 3 rfl (by kernel_rfl) (fun _ _ _ h => h) (by rfl) (by assumption) (v := ?_) ?_ ?_
               rotate_left
               · intro w hS; (try dsimp only at hS); first | (go_simp; done) | (go_simp; with_reducible rfl)
               try simp only [Act.put, List.setIfInBounds_toArray, List.set_cons_zero, List.set_cons_succ])
            | (refine held_off 3 rfl (by kernel_rfl) (fun _ _ _ h => h) (by rfl) (by assumption) ?_
               try simp only [Act.put, List.setIfInBounds_toArray, List.set_cons_zero, List.set_cons_succ])
            | (go_outline; fail "take 3")
          first
            | (refine held_on 4 rfl (by kernel_rfl) (fun _ _ _ h => h) (by rfl) (by assumption) (v := ?_) ?_ ?_
               rotate_left
               · intro w hS; (try dsimp only at hS); first | (go_simp; done) | (go_simp; with_reducible rfl)
               try simp only [Act.put, List.setIfInBounds_toArray, List.set_cons_zero, List.set_cons_succ])
            | (refine held_off 4 rfl (by kernel_rfl) (fun _ _ _ h => h) (by rfl) (by assumption) ?_
               try simp only [Act.put, List.setIfInBounds_toArray, List.set_cons_zero, List.set_cons_succ])
            | (go_outline; fail "take 4")
          first
            | (refine held_on 5 rfl (by kernel_rfl) (fun _ _ _ h => h) (by rfl) (by assumption) (v := ?_) ?_ ?_
               rotate_left
               · intro w hS; (try dsimp only at hS); first | (go_simp; done) | (go_simp; with_reducible rfl)
               try simp only [Act.put, List.setIfInBounds_toArray, List.set_cons_zero, List.set_cons_succ])
            | (refine held_off 5 rfl (by kernel_rfl) (fun _ _ _ h => h) (by rfl) (by assumption) ?_
               try simp only [Act.put, List.setIfInBounds_toArray, List.set_cons_zero, List.set_cons_succ])
            | (go_outline; fail "take 5")
          first
            | (refine held_on 6 rfl (by kernel_rfl) (fun _ _ _ h => h) (by rfl) (by assumption) (v := ?_) ?_ ?_
               rotate_left
               · intro w hS; (try dsimp only at hS); first | (go_simp; done) | (go_simp; with_reducible rfl)
               try simp only [Act.put, List.setIfInBounds_toArray, List.set_cons_zero, List.set_cons_succ])
            | (refine held_off 6 rfl (by kernel_rfl) (fun _ _ _ h => h) (by rfl) (by assumption) ?_
               try simp only [Act.put, List.setIfInBounds_toArray, List.set_cons_zero, List.set_cons_succ])
            | (go_outline; fail "take 6")
          first
            | (refine held_on 7 rfl (by kernel_rfl) (fun _ _ _ h => h) (by rfl) (by assumption) (v := ?_) ?_ ?_
               rotate_left
               · intro w hS; (try dsimp only at hS); first | (go_simp; done) | (go_simp; with_reducible rfl)
               try simp only [Act.put, List.setIfInBounds_toArray, List.set_cons_zero, List.set_cons_succ])
            | (refine held_off 7 rfl (by kernel_rfl) (fun _ _ _ h => h) (by rfl) (by assumption) ?_
               try simp only [Act.put, List.setIfInBounds_toArray, List.set_cons_zero, List.set_cons_succ])
            | (go_outline; fail "take 7")
          refine held_load 8 rfl (by kernel_rfl) (fun _ _ _ h => h) (by rfl) (by assumption) rfl g2 ?_
          try simp only [Act.put, List.setIfInBounds_toArray, List.set_cons_zero, List.set_cons_succ]
          refine held_lookup 9 rfl (by kernel_rfl) (fun _ _ _ h => h) (by rfl) (by assumption) rfl rfl g3 ?_
          try simp only [Act.put, List.setIfInBounds_toArray, List.set_cons_zero, List.set_cons_succ]
          first
            | (refine held_on 10 rfl (by kernel_rfl) (fun _ _ _ h => h) (by rfl) (by assumption) (v := ?_) ?_ ?_
               rotate_left
               · intro w hS; (try dsimp only at hS); first | (go_simp; done) | (go_simp; with_reducible rfl)
               try simp only [Act.put, List.setIfInBounds_toArray, List.set_cons_zero, List.set_cons_succ])
            | (refine held_off 10 rfl (by kernel_rfl) (fun _ _ _ h => h) (by rfl) (by assumption) ?_
               try simp only [Act.put, List.setIfInBounds_toArray, List.set_cons_zero, List.set_cons_succ])
            | (go_outline; fail "take 10")
          first
            | (refine held_on 11 rfl (by kernel_rfl) (fun _ _ _ h => h) (by rfl) (by assumption) (v := ?_) ?_ ?_
               rotate_left
               · intro w hS; (try dsimp only at hS); first | (go_simp; done) | (go_simp; with_reducible rfl)
               try simp only [Act.put, List.setIfInBounds_toArray, List.set_cons_zero, List.set_cons_succ])
            | (refine held_off 11 rfl (by kernel_rfl) (fun _ _ _ h => h) (by rfl) (by assumption) ?_
               try simp only [Act.put, List.setIfInBounds_toArray, List.set_cons_zero, List.set_cons_succ])
            | (go_outline; fail "take 11")
          first
            | (refine held_on 12 rfl (by kernel_rfl) (fun _ _ _ h => h) (by rfl) (by assumption) (v := ?_) ?_ ?_
               rotate_left
               · intro w hS; (try dsimp only at hS); first | (go_simp; done) | (go_simp; with_reducible rfl)
               try simp only [Act.put, List.setIfInBounds_toArray, List.set_cons_zero, List.set_cons_succ])
            | (refine held_off 12 rfl (by kernel_rfl) (fun _ _ _ h => h) (by rfl) (by assumption) ?_
               try simp only [Act.put, List.setIfInBounds_toArray, List.set_cons_zero, List.set_cons_succ])
            | (go_outline; fail "take 12")
          first
            | (refine held_on 13 rfl (by kernel_rfl) (fun _ _ _ h => h) (by rfl) (by assumption) (v := ?_) ?_ ?_
               rotate_left
               · intro w hS; (try dsimp only at hS); first | (go_simp; done) | (go_simp; with_reducible rfl)
               try simp only [Act.put, List.setIfInBounds_toArray, List.set_cons_zero, List.set_cons_succ])
            | (refine held_off 13 rfl (by kernel_rfl) (fun _ _ _ h => h) (by rfl) (by assumption) ?_
               try simp only [Act.put, List.setIfInBounds_toArray, List.set_cons_zero, List.set_cons_succ])
            | (go_outline; fail "take 13")
          first
            | (refine held_on 14 rfl (by kernel_rfl) (fun _ _ _ h => h) (by rfl) (by assumption) (v := ?_) ?_ ?_
               rotate_left
               · intro w hS; (try dsimp only at hS); first | (go_simp; done) | (go_simp; with_reducible rfl)
               try simp only [Act.put, List.setIfInBounds_toArray, List.set_cons_zero, List.set_cons_succ])
            | (refine held_off 14 rfl (by kernel_rfl) (fun _ _ _ h => h) (by rfl) (by assumption) ?_
               try simp only [Act.put, List.setIfInBounds_toArray, List.set_cons_zero, List.set_cons_succ])
            | (go_outline; fail "take 14")
          first
            | (refine held_on 15 rfl (by kernel_rfl) (fun _ _ _ h => h) (by rfl) (by assumption) (v := ?_) ?_ ?_
               rotate_left
               · intro w hS; (try dsimp only at hS); first | (go_simp; done) | (go_simp; with_reducible rfl)
               try simp only [Act.put, List.setIfInBounds_toArray, List.set_cons_zero, List.set_cons_succ])
            | (refine held_off 15 rfl (by kernel_rfl) (fun _ _ _ h => h) (by rfl) (by assumption) ?_
               try simp only [Act.put, List.setIfInBounds_toArray, List.set_cons_zero, List.set_cons_succ])
            | (go_outline; fail "take 15")
          first
            | (refine held_on 16 rfl (by kernel_rfl) (fun _ _ _ h => h) (by rfl) (by assumption) (v := ?_) ?_ ?_
               rotate_left
               · intro w hS; (try dsimp only at hS); first | (go_simp; done) | (go_simp; with_reducible rfl)
               try simp only [Act.put, List.setIfInBounds_toArray, List.set_cons_zero, List.set_cons_succ])
            | (refine held_off 16 rfl (by kernel_rfl) (fun _ _ _ h => h) (by rfl) (by assumption) ?_
               try simp only [Act.put, List.setIfInBounds_toArray, List.set_cons_zero, List.set_cons_succ])
            | (go_outline; fail "take 16")
          first
            | (refine held_on 17 rfl (by kernel_rfl) (fun _ _ _ h => h) (by rfl) (by assumption) (v := ?_) ?_ ?_
               rotate_left
               · intro w hS; (try dsimp only at hS); first | (go_simp; done) | (go_simp; with_reducible rfl)
               try simp only [Act.put, List.setIfInBounds_toArray, List.set_cons_zero, List.set_cons_succ])
            | (refine held_off 17 rfl (by kernel_rfl) (fun _ _ _ h => h) (by rfl) (by assumption) ?_
               try simp only [Act.put, List.setIfInBounds_toArray, List.set_cons_zero, List.set_cons_succ])
            | (go_outline; fail "take 17")
          refine held_load 18 rfl (by kernel_rfl) (fun _ _ _ h => h) (by rfl) (by assumption) rfl g2 ?_
          try simp only [Act.put, List.setIfInBounds_toArray, List.set_cons_zero, List.set_cons_succ]
          refine held_lookup 19 rfl (by kernel_rfl) (fun _ _ _ h => h) (by rfl) (by assumption) rfl rfl g3 ?_
          try simp only [Act.put, List.setIfInBounds_toArray, List.set_cons_zero, List.set_cons_succ]
          first
            | (refine held_on 20 rfl (by kernel_rfl) (fun _ _ _ h => h) (by rfl) (by assumption) (v := ?_) ?_ ?_
               rotate_left
               · intro w hS; (try dsimp only at hS); first | (go_simp; done) | (go_simp; with_reducible rfl)
               try simp only [Act.put, List.setIfInBounds_toArray, List.set_cons_zero, List.set_cons_succ])
            | (refine held_off 20 rfl (by kernel_rfl) (fun _ _ _ h => h) (by rfl) (by assumption) ?_
               try simp only [Act.put, List.setIfInBounds_toArray, List.set_cons_zero, List.set_cons_succ])
            | (go_outline; fail "take 20")
          first
            | (refine held_on 21 rfl (by kernel_rfl) (fun _ _ _ h => h) (by rfl) (by assumption) (v := ?_) ?_ ?_
               rotate_left
               · intro w hS; (try dsimp only at hS); first | (go_simp; done) | (go_simp; with_reducible rfl)
               try simp only [Act.put, List.setIfInBounds_toArray, List.set_cons_zero, List.set_cons_succ])
            | (refine held_off 21 rfl (by kernel_rfl) (fun _ _ _ h => h) (by rfl) (by assumption) ?_
               try simp only [Act.put, List.setIfInBounds_toArray, List.set_cons_zero, List.set_cons_succ])
            | (go_outline; fail "take 21")
          refine wpAnyH_done (by kernel_rfl) ?_ _
          go_wp2_with fail
          go_roundg (acts'.length - (k + 1))
          case measure => have := HX.out; omega
          case rel => exact ⟨k + 1, l', rm, by have := HX.out; omega, by go_num, ⟨HS3.out.upd (HU46.out.drewN _) (fun _ _ f => f), HM6.out.upd ((Upd.refl (fun _ => False) W6).drewN _) (fun f => f), HCNT.out, HREFS.out, HB3.out.trans ((HU46.out.drewN _).below HZ3.out (fun _ f => f.elim)), Nat.le_trans HZ3.out HU46.out.size⟩⟩
        · by_cases hc1 : c.refs = 1
          · have hwc : wn = c.refs := by rw [HWN.out]; exact cnt_some hrr
            have hcr := HC.out.refs c (getC_key hrr).2
            have hcm := getC_key hrr
            have hwp : 0 < wn := by omega
            have hwd : decide (0 < wn) = true := decide_eq_true hwp
            have hw0 : (wn == 0) = false := by simpa using (by omega : ¬ wn = 0)
            have hwb : wn ≤ 200 := by have := HX.out; omega
            simp only [hkk] at hstep
            rw [if_pos hc1] at hstep
            obtain ⟨rfl, rfl, hl'⟩ : true = g ∧ (0 : Int) = er ∧ _ = l' := by injection hstep with h1 h2; injection h2 with h2 h3; exact ⟨h1, h2, h3⟩
            clear hstep
            obtain rfl : wn = 1 := by omega
            have hth : alook rm a.key.val = some (.int .i64 1) := by
              have := HC.out.cnt.there ha.key (by rw [← HWN.out]; omega)
              rw [this, ← HWN.out]
            have hget : getC l' a.key = none := by
              rw [← hl', getC_del, if_pos rfl]
            have hcnt : Cnt (aput rm a.key.val (.int .i64 (0))) l' := by
              rw [← hl']
              refine HC.out.cnt.set ha.key (fun k => ?_)
              rw [cnt_del]
            have hrefs : ∀ c ∈ l', 0 < c.refs ∧ c.refs ≤ (k + 1 : Nat) := by
              intro x hx
              rw [← hl'] at hx
              have hx := mem_delC hx
              exact ⟨(HC.out.refs x hx).1, by have := (HC.out.refs x hx).2; push_cast; omega⟩
            have hvl : zeroChunk.cells.length = 37 := ChunkV.clen zeroKey_good
            have c36 : zeroChunk.cells.toArray[36]? = some (.int .i64 0) := rfl
            have hlk : (alook (aput rm a.key.val (.int .i64 (0))) a.key.val).getD (.int .i64 0) = .int .i64 0 := by
              rw [hcnt a.key ha.key]
              unfold cnt
              rw [hget]
              rfl
            have HGET := Lib.hid hget; have HCNT := Lib.hid hcnt; have HREFS := Lib.hid hrefs; have HLK := Lib.hid hlk
            clear hget hcnt hrefs hlk
            have HTH := Lib.hid hth; clear hth
            have hcl := And.intro hwc (And.intro hcr hcm)
            clear hwc hcr hcm
            have HCL := Lib.hid hcl; clear hcl
            go_wp2_with fail
            refine wp_region_held_drew (S := fun w' => Upd (fun x => x = r) w3 w') rfl (Upd.refl _ w3).drew (fun hHeld => ?_)
            have q2 : ∀ w', Upd (fun x => x = r) w3 w' → (Instr.loadAt 32 (.pointer (some ⟨wr.heap.size, 1, none⟩))).run Try.prog w' = .ok a.key.val w' := fun w' hw => run_loadAt_mid w' _ 1 32 a.key.cells _ (hw.range (ActV.keyAt ha HR3.out) (fun f => by have := HMW.out.2; omega)) Try.underlying32 rfl (by rw [hkl]; kernel_rfl)
            first
              | (refine held_on 0 rfl (by kernel_rfl) (fun _ _ _ h => h) (by rfl) (by assumption) (v := ?_) ?_ ?_
                 rotate_left
                 · intro w hS; (try dsimp only at hS); first | (go_simp; done) | (go_simp; with_reducible rfl)
                 try simp only [Act.put, List.setIfInBounds_toArray, List.set_cons_zero, List.set_cons_succ])
              | (refine held_off 0 rfl (by kernel_rfl) (fun _ _ _ h => h) (by rfl) (by assumption) ?_
                 try simp only [Act.put, List.setIfInBounds_toArray, List.set_cons_zero, List.set_cons_succ])
              | (go_outline; fail "take 0")
            first
              | (refine held_on 1 rfl (by kernel_rfl) (fun _ _ _ h => h) (by rfl) (by assumption) (v := ?_) ?_ ?_
                 rotate_left
                 · intro w hS; (try dsimp only at hS); first | (go_simp; done) | (go_simp; with_reducible rfl)
                 try simp only [Act.put, List.setIfInBounds_toArray, List.set_cons_zero, List.set_cons_succ])
              | (refine held_off 1 rfl (by kernel_rfl) (fun _ _ _ h => h) (by rfl) (by assumption) ?_
                 try simp only [Act.put, List.setIfInBounds_toArray, List.set_cons_zero, List.set_cons_succ])
              | (go_outline; fail "take 1")
            refine held_load 2 rfl (by kernel_rfl) (fun _ _ _ h => h) (by rfl) (by assumption) rfl q2 ?_
            try simp only [Act.put, List.setIfInBounds_toArray, List.set_cons_zero, List.set_cons_succ]
            refine wpAnyH_ready (rs := [3, 5]) (by kernel_rfl) (by simp) (AllReadyH.cons rfl (fun K hK => ?_) (AllReadyH.cons rfl (fun K hK => ?_) AllReadyH.nil))
            · rw [if_pos (by rfl)]
              refine wp_lookup _ _ rfl keyedKey Try.underlying26 (.int .i64 0) (by kernel_rfl) (HM3.out.of_block rfl) rfl a.key.val lit HLIT.out rfl (.int .i64 1) HLO.out ?_
              refine hK.out _ _ hHeld (fun hHeld => ?_)
              clear hK K
              first
                | (refine held_on 4 rfl (by kernel_rfl) (fun _ _ _ h => h) (by rfl) (by assumption) (v := ?_) ?_ ?_
                   rotate_left
                   · intro w hS; (try dsimp only at hS); first | (go_simp; done) | (go_simp; with_reducible rfl)
                   try simp only [Act.put, List.setIfInBounds_toArray, List.set_cons_zero, List.set_cons_succ])
                | (refine held_off 4 rfl (by kernel_rfl) (fun _ _ _ h => h) (by rfl) (by assumption) ?_
                   try simp only [Act.put, List.setIfInBounds_toArray, List.set_cons_zero, List.set_cons_succ])
                | (go_outline; fail "take 4")
              refine wpAnyH_ready (rs := [5]) (by kernel_rfl) (by simp) (AllReadyH.cons rfl (fun K hK => ?_) AllReadyH.nil)
              rw [if_pos (by rfl)]
              refine wp_mapEntry _ _ rfl keyedKey Try.underlying26 (HM3.out.of_block rfl) rfl a.key.val lit HLIT.out rfl HTH.out (fun wE n hE huE => ?_)
              have HE := Lib.hid hE; clear hE
              refine hK.out _ _ (hHeld.trans huE (fun _ _ f => f)) (fun hHeld => ?_)
              clear hK K huE
              first
                | (refine held_on 6 rfl (by kernel_rfl) (fun _ _ _ h => h) (by rfl) (by assumption) (v := ?_) ?_ ?_
                   rotate_left
                   · intro w hS; (try dsimp only at hS); first | (go_simp; done) | (go_simp; with_reducible rfl)
                   try simp only [Act.put, List.setIfInBounds_toArray, List.set_cons_zero, List.set_cons_succ])
                | (refine held_off 6 rfl (by kernel_rfl) (fun _ _ _ h => h) (by rfl) (by assumption) ?_
                   try simp only [Act.put, List.setIfInBounds_toArray, List.set_cons_zero, List.set_cons_succ])
                | (go_outline; fail "take 6")
              refine wpAnyH_ready (rs := [7]) (by kernel_rfl) (by simp) (AllReadyH.cons rfl (fun K hK => ?_) AllReadyH.nil)
              rw [if_pos (by rfl)]
              refine wp_entryStore _ _ _ rfl (HE.out.of_block rfl) rfl HLIT.out rfl (.int .i64 (0)) rfl (fun w4 hm4 huS => ?_)
              have hu4 : Upd (fun x => x = r) w3 w4 := hHeld.trans huS (fun _ _ f => f)
              refine hK.out _ _ hu4 (fun hHeld => ?_)
              have HM4 := Lib.hid hm4
              have HS4 := Lib.hid (HS3.out.upd hu4 (fun x hx f => by subst f; exact absurd (HX0.out.2.1 _ hx) (by have := HRR.out; omega)))
              have HR4 := Lib.hid (hu4.range HR3.out (fun f => by have := HMW.out.2; omega))
              have hBr : B ≤ r := by have := HB1.out; have := HRR.out; omega
              have HB4 := Lib.hid (HB3.out.trans (hu4.below HZ3.out (fun k f => by rw [f]; exact hBr)))
              have HZ4 := Lib.hid (Nat.le_trans HZ3.out hu4.size)
              clear hK K hHeld huS hm4 hu4 q2
              refine wpAnyH_done (by kernel_rfl) ?_ _
              go_wp2_with (first
                | ((with_reducible change wpList _ _ _ (⟨_, Op.load _ _, _, _, _, _⟩ :: _) _ _); refine wpl_load rfl 32 _ rfl wr.heap.size 1 rfl a.key.cells _ (ActV.keyAt ha HR4.out) Try.underlying32 rfl (by rw [hkl]; kernel_rfl) ?_))
              refine (get_at HS4.out ha.key HGET.out).mono ?_
              rintro e w5 ⟨rfl, hu5⟩
              have HU5 := Lib.hid hu5; clear hu5
              go_wp2_with (first
                | ((with_reducible change wpList _ _ _ (⟨_, Op.store _ _ _, _, _, _, _⟩ :: _) _ _); refine wpList_store_mid rfl _ _ _ rfl w5.heap.size 0 zeroChunk.cells.toArray rfl rfl (there_new w5 _ _ (by rw [List.size_toArray, hvl]; exact Nat.le_refl _)) (by simp only [List.size_toArray]; rw [hvl]; kernel_rfl) (all_oneCell_toArray ChunkV.one) ?_
                   refine wpList_world fun W6 hW6 => ?_
                   have h4 : W6.heap[w5.heap.size]? = some (.cells zeroChunk.cells.toArray 41 (0, 0)) := by rw [hW6]; exact at_setAll (heap_alloc_last w5 _) (by rw [hvl]; rfl)
                   have hu6 : Upd (fun _ => False) w5 W6 := by rw [hW6]; exact Upd.setCells (S := fun _ => False) (fun hg => absurd hg (Nat.lt_irrefl _)) _ _ ((Upd.refl _ w5).alloc _)
                   have e36 : W6.cell? ⟨w5.heap.size, 36, none⟩ = some (.int .i64 0) := by rw [cell_at h4, c36]
                   have HU6 := Lib.hid hu6
                   clear h4 hu6 hW6))
              have hu46 : Upd (fun _ => False) w4 W6 := HU5.out.trans HU6.out (fun _ _ f => f)
              have hm6 := HM4.out.upd hu46 (fun f => f)
              have hr6 := hu46.range HR4.out (fun f => f)
              refine wp_region_held_drew (S := fun w' => Upd (fun _ => False) W6 w') rfl (Upd.refl _ W6).drew (fun hHeld => ?_)
              have g2 : ∀ w', Upd (fun _ => False) W6 w' → (Instr.loadAt 32 (.pointer (some ⟨wr.heap.size, 1, none⟩))).run Try.prog w' = .ok a.key.val w' := fun w' hw => run_loadAt_mid w' _ 1 32 a.key.cells _ (hw.range (ActV.keyAt ha hr6) (fun f => f)) Try.underlying32 rfl (by rw [hkl]; kernel_rfl)
              have g3 : ∀ w', Upd (fun _ => False) W6 w' → (Instr.lookup 26 (.map (some r)) a.key.val false).run Try.prog w' = .ok (.int .i64 0) w' := fun w' hw => by
                have := (hm6.upd hw (fun f => f)).look (t := 26) (c := false) keyedKey Try.underlying26 (z := .int .i64 0) (by kernel_rfl) HLIT.out
                rw [HLK.out] at this
                simpa using this
              have g4 : ∀ w', Upd (fun _ => False) W6 w' → w'.cell? ⟨w5.heap.size, 36, none⟩ = some (.int .i64 0) := fun w' hw => hw.cell e36 (fun f => f)
              have HU46 := Lib.hid hu46; have HM6 := Lib.hid hm6
              clear hu46 hm6 hr6 e36
              first
                | (refine held_on 0 rfl (by kernel_rfl) (fun _ _ _ h => h) (by rfl) (by assumption) (v := ?_) ?_ ?_
                   rotate_left
                   · intro w hS; (try dsimp only at hS); first | (go_simp; done) | (go_simp; with_reducible rfl)
                   try simp only [Act.put, List.setIfInBounds_toArray, List.set_cons_zero, List.set_cons_succ])
                | (refine held_off 0 rfl (by kernel_rfl) (fun _ _ _ h => h) (by rfl) (by assumption) ?_
                   try simp only [Act.put, List.setIfInBounds_toArray, List.set_cons_zero, List.set_cons_succ])
                | (go_outline; fail "take 0")
              first
                | (refine held_on 1 rfl (by kernel_rfl) (fun _ _ _ h => h) (by rfl) (by assumption) (v := ?_) ?_ ?_
                   rotate_left
                   · intro w hS; (try dsimp only at hS); first | (go_simp; done) | (go_simp; with_reducible rfl)
                   try simp only [Act.put, List.setIfInBounds_toArray, List.set_cons_zero, List.set_cons_succ])
                | (refine held_off 1 rfl (by kernel_rfl) (fun _ _ _ h => h) (by rfl) (by assumption) ?_
                   try simp only [Act.put, List.setIfInBounds_toArray, List.set_cons_zero, List.set_cons_succ])
                | (go_outline; fail "take 1")
              first
                | (refine held_on 2 rfl (by kernel_rfl) (fun _ _ _ h => h) (by rfl) (by assumption) (v := ?_) ?_ ?_
                   rotate_left
                   · intro w hS; (try dsimp only at hS); first | (go_simp; done) | (go_simp; with_reducible rfl)
                   try simp only [Act.put, List.setIfInBounds_toArray, List.set_cons_zero, List.set_cons_succ])
                | (refine held_off 2 rfl (by kernel_rfl) (fun _ _ _ h => h) (by rfl) (by assumption) ?_
                   try simp only [Act.put, List.setIfInBounds_toArray, List.set_cons_zero, List.set_cons_succ])
                | (go_outline; fail "take 2")
              first
                | (refine held_on 3 rfl (by kernel_rfl) (fun _ _ _ h => h) (by rfl) (by assumption) (v := ?_) ?_ ?_
                   rotate_left
                   · intro w hS; (try dsimp only at hS); first | (go_simp; done) | (go_simp; with_reducible rfl)
                   try simp only [Act.put, List.setIfInBounds_toArray, List.set_cons_zero, List.set_cons_succ])
                | (refine held_off 3 rfl (by kernel_rfl) (fun _ _ _ h => h) (by rfl) (by assumption) ?_
                   try simp only [Act.put, List.setIfInBounds_toArray, List.set_cons_zero, List.set_cons_succ])
                | (go_outline; fail "take 3")
              first
                | (refine held_on 4 rfl (by kernel_rfl) (fun _ _ _ h => h) (by rfl) (by assumption) (v := ?_) ?_ ?_
                   rotate_left
                   · intro w hS; (try dsimp only at hS); first | (go_simp; done) | (go_simp; with_reducible rfl)
                   try simp only [Act.put, List.setIfInBounds_toArray, List.set_cons_zero, List.set_cons_succ])
                | (refine held_off 4 rfl (by kernel_rfl) (fun _ _ _ h => h) (by rfl) (by assumption) ?_
                   try simp only [Act.put, List.setIfInBounds_toArray, List.set_cons_zero, List.set_cons_succ])
                | (go_outline; fail "take 4")
              first
                | (refine held_on 5 rfl (by kernel_rfl) (fun _ _ _ h => h) (by rfl) (by assumption) (v := ?_) ?_ ?_
                   rotate_left
                   · intro w hS; (try dsimp only at hS); first | (go_simp; done) | (go_simp; with_reducible rfl)
                   try simp only [Act.put, List.setIfInBounds_toArray, List.set_cons_zero, List.set_cons_succ])
                | (refine held_off 5 rfl (by kernel_rfl) (fun _ _ _ h => h) (by rfl) (by assumption) ?_
                   try simp only [Act.put, List.setIfInBounds_toArray, List.set_cons_zero, List.set_cons_succ])
                | (go_outline; fail "take 5")
              first
                | (refine held_on 6 rfl (by kernel_rfl) (fun _ _ _ h => h) (by rfl) (by assumption) (v := ?_) ?_ ?_
                   rotate_left
                   · intro w hS; (try dsimp only at hS); first | (go_simp; done) | (go_simp; with_reducible rfl)
                   try simp only [Act.put, List.setIfInBounds_toArray, List.set_cons_zero, List.set_cons_succ])
                | (refine held_off 6 rfl (by kernel_rfl) (fun _ _ _ h => h) (by rfl) (by assumption) ?_
                   try simp only [Act.put, List.setIfInBounds_toArray, List.set_cons_zero, List.set_cons_succ])
                | (go_outline; fail "take 6")
              first
                | (refine held_on 7 rfl (by kernel_rfl) (fun _ _ _ h => h) (by rfl) (by assumption) (v := ?_) ?_ ?_
                   rotate_left
                   · intro w hS; (try dsimp only at hS); first | (go_simp; done) | (go_simp; with_reducible rfl)
                   try simp only [Act.put, List.setIfInBounds_toArray, List.set_cons_zero, List.set_cons_succ])
                | (refine held_off 7 rfl (by kernel_rfl) (fun _ _ _ h => h) (by rfl) (by assumption) ?_
                   try simp only [Act.put, List.setIfInBounds_toArray, List.set_cons_zero, List.set_cons_succ])
                | (go_outline; fail "take 7")
              refine held_load 8 rfl (by kernel_rfl) (fun _ _ _ h => h) (by rfl) (by assumption) rfl g2 ?_
              try simp only [Act.put, List.setIfInBounds_toArray, List.set_cons_zero, List.set_cons_succ]
              refine held_lookup 9 rfl (by kernel_rfl) (fun _ _ _ h => h) (by rfl) (by assumption) rfl rfl g3 ?_
              try simp only [Act.put, List.setIfInBounds_toArray, List.set_cons_zero, List.set_cons_succ]
              first
                | (refine held_on 10 rfl (by kernel_rfl) (fun _ _ _ h => h) (by rfl) (by assumption) (v := ?_) ?_ ?_
                   rotate_left
                   · intro w hS; (try dsimp only at hS); first | (go_simp; done) | (go_simp; with_reducible rfl)
                   try simp only [Act.put, List.setIfInBounds_toArray, List.set_cons_zero, List.set_cons_succ])
                | (refine held_off 10 rfl (by kernel_rfl) (fun _ _ _ h => h) (by rfl) (by assumption) ?_
                   try simp only [Act.put, List.setIfInBounds_toArray, List.set_cons_zero, List.set_cons_succ])
                | (go_outline; fail "take 10")
              first
                | (refine held_on 11 rfl (by kernel_rfl) (fun _ _ _ h => h) (by rfl) (by assumption) (v := ?_) ?_ ?_
                   rotate_left
                   · intro w hS; (try dsimp only at hS); first | (go_simp; done) | (go_simp; with_reducible rfl)
                   try simp only [Act.put, List.setIfInBounds_toArray, List.set_cons_zero, List.set_cons_succ])
                | (refine held_off 11 rfl (by kernel_rfl) (fun _ _ _ h => h) (by rfl) (by assumption) ?_
                   try simp only [Act.put, List.setIfInBounds_toArray, List.set_cons_zero, List.set_cons_succ])
                | (go_outline; fail "take 11")
              first
                | (refine held_on 12 rfl (by kernel_rfl) (fun _ _ _ h => h) (by rfl) (by assumption) (v := ?_) ?_ ?_
                   rotate_left
                   · intro w hS; (try dsimp only at hS); first | (go_simp; done) | (go_simp; with_reducible rfl)
                   try simp only [Act.put, List.setIfInBounds_toArray, List.set_cons_zero, List.set_cons_succ])
                | (refine held_off 12 rfl (by kernel_rfl) (fun _ _ _ h => h) (by rfl) (by assumption) ?_
                   try simp only [Act.put, List.setIfInBounds_toArray, List.set_cons_zero, List.set_cons_succ])
                | (go_outline; fail "take 12")
              first
                | (refine held_on 13 rfl (by kernel_rfl) (fun _ _ _ h => h) (by rfl) (by assumption) (v := ?_) ?_ ?_
                   rotate_left
                   · intro w hS; (try dsimp only at hS); first | (go_simp; done) | (go_simp; with_reducible rfl)
                   try simp only [Act.put, List.setIfInBounds_toArray, List.set_cons_zero, List.set_cons_succ])
                | (refine held_off 13 rfl (by kernel_rfl) (fun _ _ _ h => h) (by rfl) (by assumption) ?_
                   try simp only [Act.put, List.setIfInBounds_toArray, List.set_cons_zero, List.set_cons_succ])
                | (go_outline; fail "take 13")
              first
                | (refine held_on 14 rfl (by kernel_rfl) (fun _ _ _ h => h) (by rfl) (by assumption) (v := ?_) ?_ ?_
                   rotate_left
                   · intro w hS; (try dsimp only at hS); first | (go_simp; done) | (go_simp; with_reducible rfl)
                   try simp only [Act.put, List.setIfInBounds_toArray, List.set_cons_zero, List.set_cons_succ])
                | (refine held_off 14 rfl (by kernel_rfl) (fun _ _ _ h => h) (by rfl) (by assumption) ?_
                   try simp only [Act.put, List.setIfInBounds_toArray, List.set_cons_zero, List.set_cons_succ])
                | (go_outline; fail "take 14")
              first
                | (refine held_on 15 rfl (by kernel_rfl) (fun _ _ _ h => h) (by rfl) (by assumption) (v := ?_) ?_ ?_
                   rotate_left
                   · intro w hS; (try dsimp only at hS); first | (go_simp; done) | (go_simp; with_reducible rfl)
                   try simp only [Act.put, List.setIfInBounds_toArray, List.set_cons_zero, List.set_cons_succ])
                | (refine held_off 15 rfl (by kernel_rfl) (fun _ _ _ h => h) (by rfl) (by assumption) ?_
                   try simp only [Act.put, List.setIfInBounds_toArray, List.set_cons_zero, List.set_cons_succ])
                | (go_outline; fail "take 15")
              first
                | (refine held_on 16 rfl (by kernel_rfl) (fun _ _ _ h => h) (by rfl) (by assumption) (v := ?_) ?_ ?_
                   rotate_left
                   · intro w hS; (try dsimp only at hS); first | (go_simp; done) | (go_simp; with_reducible rfl)
                   try simp only [Act.put, List.setIfInBounds_toArray, List.set_cons_zero, List.set_cons_succ])
                | (refine held_off 16 rfl (by kernel_rfl) (fun _ _ _ h => h) (by rfl) (by assumption) ?_
                   try simp only [Act.put, List.setIfInBounds_toArray, List.set_cons_zero, List.set_cons_succ])
                | (go_outline; fail "take 16")
              first
                | (refine held_on 17 rfl (by kernel_rfl) (fun _ _ _ h => h) (by rfl) (by assumption) (v := ?_) ?_ ?_
                   rotate_left
                   · intro w hS; (try dsimp only at hS); first | (go_simp; done) | (go_simp; with_reducible rfl)
                   try simp only [Act.put, List.setIfInBounds_toArray, List.set_cons_zero, List.set_cons_succ])
                | (refine held_off 17 rfl (by kernel_rfl) (fun _ _ _ h => h) (by rfl) (by assumption) ?_
                   try simp only [Act.put, List.setIfInBounds_toArray, List.set_cons_zero, List.set_cons_succ])
                | (go_outline; fail "take 17")
              refine held_load 18 rfl (by kernel_rfl) (fun _ _ _ h => h) (by rfl) (by assumption) rfl g2 ?_
              try simp only [Act.put, List.setIfInBounds_toArray, List.set_cons_zero, List.set_cons_succ]
              refine held_lookup 19 rfl (by kernel_rfl) (fun _ _ _ h => h) (by rfl) (by assumption) rfl rfl g3 ?_
              try simp only [Act.put, List.setIfInBounds_toArray, List.set_cons_zero, List.set_cons_succ]
              first
                | (refine held_on 20 rfl (by kernel_rfl) (fun _ _ _ h => h) (by rfl) (by assumption) (v := ?_) ?_ ?_
                   rotate_left
                   · intro w hS; (try dsimp only at hS); first | (go_simp; done) | (go_simp; with_reducible rfl)
                   try simp only [Act.put, List.setIfInBounds_toArray, List.set_cons_zero, List.set_cons_succ])
                | (refine held_off 20 rfl (by kernel_rfl) (fun _ _ _ h => h) (by rfl) (by assumption) ?_
                   try simp only [Act.put, List.setIfInBounds_toArray, List.set_cons_zero, List.set_cons_succ])
                | (go_outline; fail "take 20")
              first
                | (refine held_on 21 rfl (by kernel_rfl) (fun _ _ _ h => h) (by rfl) (by assumption) (v := ?_) ?_ ?_
                   rotate_left
                   · intro w hS; (try dsimp only at hS); first | (go_simp; done) | (go_simp; with_reducible rfl)
                   try simp only [Act.put, List.setIfInBounds_toArray, List.set_cons_zero, List.set_cons_succ])
                | (refine held_off 21 rfl (by kernel_rfl) (fun _ _ _ h => h) (by rfl) (by assumption) ?_
                   try simp only [Act.put, List.setIfInBounds_toArray, List.set_cons_zero, List.set_cons_succ])
                | (go_outline; fail "take 21")
              refine wpAnyH_done (by kernel_rfl) ?_ _
              go_wp2_with fail
              go_roundg (acts'.length - (k + 1))
              case measure => have := HX.out; omega
              case rel => exact ⟨k + 1, l', aput rm a.key.val (.int .i64 (0)), by have := HX.out; omega, by go_num, ⟨HS4.out.upd (HU46.out.drewN _) (fun _ _ f => f), HM6.out.upd ((Upd.refl (fun _ => False) W6).drewN _) (fun f => f), HCNT.out, HREFS.out, HB4.out.trans ((HU46.out.drewN _).below HZ4.out (fun _ f => f.elim)), Nat.le_trans HZ4.out HU46.out.size⟩⟩
            · rw [if_pos (by rfl)]
              refine wp_mapEntry _ _ rfl keyedKey Try.underlying26 (HM3.out.of_block rfl) rfl a.key.val lit HLIT.out rfl HTH.out (fun wE n hE huE => ?_)
              have HE := Lib.hid hE; clear hE
              refine hK.out _ _ (hHeld.trans huE (fun _ _ f => f)) (fun hHeld => ?_)
              clear hK K huE
              first
                | (refine held_on 6 rfl (by kernel_rfl) (fun _ _ _ h => h) (by rfl) (by assumption) (v := ?_) ?_ ?_
                   rotate_left
                   · intro w hS; (try dsimp only at hS); first | (go_simp; done) | (go_simp; with_reducible rfl)
                   try simp only [Act.put, List.setIfInBounds_toArray, List.set_cons_zero, List.set_cons_succ])
                | (refine held_off 6 rfl (by kernel_rfl) (fun _ _ _ h => h) (by rfl) (by assumption) ?_
                   try simp only [Act.put, List.setIfInBounds_toArray, List.set_cons_zero, List.set_cons_succ])
                | (go_outline; fail "take 6")
              refine wpAnyH_ready (rs := [3]) (by kernel_rfl) (by simp) (AllReadyH.cons rfl (fun K hK => ?_) AllReadyH.nil)
              rw [if_pos (by rfl)]
              refine wp_lookup _ _ rfl keyedKey Try.underlying26 (.int .i64 0) (by kernel_rfl) (HE.out.1.of_block rfl) rfl a.key.val lit HLIT.out rfl (.int .i64 1) HLO.out ?_
              refine hK.out _ _ hHeld (fun hHeld => ?_)
              clear hK K
              first
                | (refine held_on 4 rfl (by kernel_rfl) (fun _ _ _ h => h) (by rfl) (by assumption) (v := ?_) ?_ ?_
                   rotate_left
                   · intro w hS; (try dsimp only at hS); first | (go_simp; done) | (go_simp; with_reducible rfl)
                   try simp only [Act.put, List.setIfInBounds_toArray, List.set_cons_zero, List.set_cons_succ])
                | (refine held_off 4 rfl (by kernel_rfl) (fun _ _ _ h => h) (by rfl) (by assumption) ?_
                   try simp only [Act.put, List.setIfInBounds_toArray, List.set_cons_zero, List.set_cons_succ])
                | (go_outline; fail "take 4")
              refine wpAnyH_ready (rs := [7]) (by kernel_rfl) (by simp) (AllReadyH.cons rfl (fun K hK => ?_) AllReadyH.nil)
              rw [if_pos (by rfl)]
              refine wp_entryStore _ _ _ rfl (HE.out.of_block rfl) rfl HLIT.out rfl (.int .i64 (0)) rfl (fun w4 hm4 huS => ?_)
              have hu4 : Upd (fun x => x = r) w3 w4 := hHeld.trans huS (fun _ _ f => f)
              refine hK.out _ _ hu4 (fun hHeld => ?_)
              have HM4 := Lib.hid hm4
              have HS4 := Lib.hid (HS3.out.upd hu4 (fun x hx f => by subst f; exact absurd (HX0.out.2.1 _ hx) (by have := HRR.out; omega)))
              have HR4 := Lib.hid (hu4.range HR3.out (fun f => by have := HMW.out.2; omega))
              have hBr : B ≤ r := by have := HB1.out; have := HRR.out; omega
              have HB4 := Lib.hid (HB3.out.trans (hu4.below HZ3.out (fun k f => by rw [f]; exact hBr)))
              have HZ4 := Lib.hid (Nat.le_trans HZ3.out hu4.size)
              clear hK K hHeld huS hm4 hu4 q2
              refine wpAnyH_done (by kernel_rfl) ?_ _
              go_wp2_with (first
                | ((with_reducible change wpList _ _ _ (⟨_, Op.load _ _, _, _, _, _⟩ :: _) _ _); refine wpl_load rfl 32 _ rfl wr.heap.size 1 rfl a.key.cells _ (ActV.keyAt ha HR4.out) Try.underlying32 rfl (by rw [hkl]; kernel_rfl) ?_))
              refine (get_at HS4.out ha.key HGET.out).mono ?_
              rintro e w5 ⟨rfl, hu5⟩
              have HU5 := Lib.hid hu5; clear hu5
              go_wp2_with (first
                | ((with_reducible change wpList _ _ _ (⟨_, Op.store _ _ _, _, _, _, _⟩ :: _) _ _); refine wpList_store_mid rfl _ _ _ rfl w5.heap.size 0 zeroChunk.cells.toArray rfl rfl (there_new w5 _ _ (by rw [List.size_toArray, hvl]; exact Nat.le_refl _)) (by simp only [List.size_toArray]; rw [hvl]; kernel_rfl) (all_oneCell_toArray ChunkV.one) ?_
                   refine wpList_world fun W6 hW6 => ?_
                   have h4 : W6.heap[w5.heap.size]? = some (.cells zeroChunk.cells.toArray 41 (0, 0)) := by rw [hW6]; exact at_setAll (heap_alloc_last w5 _) (by rw [hvl]; rfl)
                   have hu6 : Upd (fun _ => False) w5 W6 := by rw [hW6]; exact Upd.setCells (S := fun _ => False) (fun hg => absurd hg (Nat.lt_irrefl _)) _ _ ((Upd.refl _ w5).alloc _)
                   have e36 : W6.cell? ⟨w5.heap.size, 36, none⟩ = some (.int .i64 0) := by rw [cell_at h4, c36]
                   have HU6 := Lib.hid hu6
                   clear h4 hu6 hW6))
              have hu46 : Upd (fun _ => False) w4 W6 := HU5.out.trans HU6.out (fun _ _ f => f)
              have hm6 := HM4.out.upd hu46 (fun f => f)
              have hr6 := hu46.range HR4.out (fun f => f)
              refine wp_region_held_drew (S := fun w' => Upd (fun _ => False) W6 w') rfl (Upd.refl _ W6).drew (fun hHeld => ?_)
              have g2 : ∀ w', Upd (fun _ => False) W6 w' → (Instr.loadAt 32 (.pointer (some ⟨wr.heap.size, 1, none⟩))).run Try.prog w' = .ok a.key.val w' := fun w' hw => run_loadAt_mid w' _ 1 32 a.key.cells _ (hw.range (ActV.keyAt ha hr6) (fun f => f)) Try.underlying32 rfl (by rw [hkl]; kernel_rfl)
              have g3 : ∀ w', Upd (fun _ => False) W6 w' → (Instr.lookup 26 (.map (some r)) a.key.val false).run Try.prog w' = .ok (.int .i64 0) w' := fun w' hw => by
                have := (hm6.upd hw (fun f => f)).look (t := 26) (c := false) keyedKey Try.underlying26 (z := .int .i64 0) (by kernel_rfl) HLIT.out
                rw [HLK.out] at this
                simpa using this
              have g4 : ∀ w', Upd (fun _ => False) W6 w' → w'.cell? ⟨w5.heap.size, 36, none⟩ = some (.int .i64 0) := fun w' hw => hw.cell e36 (fun f => f)
              have HU46 := Lib.hid hu46; have HM6 := Lib.hid hm6
              clear hu46 hm6 hr6 e36
              first
                | (refine held_on 0 rfl (by kernel_rfl) (fun _ _ _ h => h) (by rfl) (by assumption) (v := ?_) ?_ ?_
                   rotate_left
                   · intro w hS; (try dsimp only at hS); first | (go_simp; done) | (go_simp; with_reducible rfl)
                   try simp only [Act.put, List.setIfInBounds_toArray, List.set_cons_zero, List.set_cons_succ])
                | (refine held_off 0 rfl (by kernel_rfl) (fun _ _ _ h => h) (by rfl) (by assumption) ?_
                   try simp only [Act.put, List.setIfInBounds_toArray, List.set_cons_zero, List.set_cons_succ])
                | (go_outline; fail "take 0")
              first
                | (refine held_on 1 rfl (by kernel_rfl) (fun _ _ _ h => h) (by rfl) (by assumption) (v := ?_) ?_ ?_
                   rotate_left
                   · intro w hS; (try dsimp only at hS); first | (go_simp; done) | (go_simp; with_reducible rfl)
                   try simp only [Act.put, List.setIfInBounds_toArray, List.set_cons_zero, List.set_cons_succ])
                | (refine held_off 1 rfl (by kernel_rfl) (fun _ _ _ h => h) (by rfl) (by assumption) ?_
                   try simp only [Act.put, List.setIfInBounds_toArray, List.set_cons_zero, List.set_cons_succ])
                | (go_outline; fail "take 1")
              first
                | (refine held_on 2 rfl (by kernel_rfl) (fun _ _ _ h => h) (by rfl) (by assumption) (v := ?_) ?_ ?_
                   rotate_left
                   · intro w hS; (try dsimp only at hS); first | (go_simp; done) | (go_simp; with_reducible rfl)
                   try simp only [Act.put, List.setIfInBounds_toArray, List.set_cons_zero, List.set_cons_succ])
                | (refine held_off 2 rfl (by kernel_rfl) (fun _ _ _ h => h) (by rfl) (by assumption) ?_
                   try simp only [Act.put, List.setIfInBounds_toArray, List.set_cons_zero, List.set_cons_succ])
                | (go_outline; fail "take 2")
              first
                | (refine held_on 3 rfl (by kernel_rfl) (fun _ _ _ h => h) (by rfl) (by assumption) (v := ?_) ?_ ?_
                   rotate_left
                   · intro w hS; (try dsimp only at hS); first | (go_simp; done) | (go_simp; with_reducible rfl)
                   try simp only [Act.put, List.setIfInBounds_toArray, List.set_cons_zero, List.set_cons_succ])
                | (refine held_off 3 rfl (by kernel_rfl) (fun _ _ _ h => h) (by rfl) (by assumption) ?_
                   try simp only [Act.put, List.setIfInBounds_toArray, List.set_cons_zero, List.set_cons_succ])
                | (go_outline; fail "take 3")
              first
                | (refine held_on 4 rfl (by kernel_rfl) (fun _ _ _ h => h) (by rfl) (by assumption) (v := ?_) ?_ ?_
                   rotate_left
                   · intro w hS; (try dsimp only at hS); first | (go_simp; done) | (go_simp; with_reducible rfl)
                   try simp only [Act.put, List.setIfInBounds_toArray, List.set_cons_zero, List.set_cons_succ])
                | (refine held_off 4 rfl (by kernel_rfl) (fun _ _ _ h => h) (by rfl) (by assumption) ?_
                   try simp only [Act.put, List.setIfInBounds_toArray, List.set_cons_zero, List.set_cons_succ])
                | (go_outline; fail "take 4")
              first
                | (refine held_on 5 rfl (by kernel_rfl) (fun _ _ _ h => h) (by rfl) (by assumption) (v := ?_) ?_ ?_
                   rotate_left
                   · intro w hS; (try dsimp only at hS); first | (go_simp; done) | (go_simp; with_reducible rfl)
                   try simp only [Act.put, List.setIfInBounds_toArray, List.set_cons_zero, List.set_cons_succ])
                | (refine held_off 5 rfl (by kernel_rfl) (fun _ _ _ h => h) (by rfl) (by assumption) ?_
                   try simp only [Act.put, List.setIfInBounds_toArray, List.set_cons_zero, List.set_cons_succ])
                | (go_outline; fail "take 5")
              first
                | (refine held_on 6 rfl (by kernel_rfl) (fun _ _ _ h => h) (by rfl) (by assumption) (v := ?_) ?_ ?_
                   rotate_left
                   · intro w hS; (try dsimp only at hS); first | (go_simp; done) | (go_simp; with_reducible rfl)
                   try simp only [Act.put, List.setIfInBounds_toArray, List.set_cons_zero, List.set_cons_succ])
                | (refine held_off 6 rfl (by kernel_rfl) (fun _ _ _ h => h) (by rfl) (by assumption) ?_
                   try simp only [Act.put, List.setIfInBounds_toArray, List.set_cons_zero, List.set_cons_succ])
                | (go_outline; fail "take 6")
              first
                | (refine held_on 7 rfl (by kernel_rfl) (fun _ _ _ h => h) (by rfl) (by assumption) (v := ?_) ?_ ?_
                   rotate_left
                   · intro w hS; (try dsimp only at hS); first | (go_simp; done) | (go_simp; with_reducible rfl)
                   try simp only [Act.put, List.setIfInBounds_toArray, List.set_cons_zero, List.set_cons_succ])
                | (refine held_off 7 rfl (by kernel_rfl) (fun _ _ _ h => h) (by rfl) (by assumption) ?_
                   try simp only [Act.put, List.setIfInBounds_toArray, List.set_cons_zero, List.set_cons_succ])
                | (go_outline; fail "take 7")
              refine held_load 8 rfl (by kernel_rfl) (fun _ _ _ h => h) (by rfl) (by assumption) rfl g2 ?_
              try simp only [Act.put, List.setIfInBounds_toArray, List.set_cons_zero, List.set_cons_succ]
              refine held_lookup 9 rfl (by kernel_rfl) (fun _ _ _ h => h) (by rfl) (by assumption) rfl rfl g3 ?_
              try simp only [Act.put, List.setIfInBounds_toArray, List.set_cons_zero, List.set_cons_succ]
              first
                | (refine held_on 10 rfl (by kernel_rfl) (fun _ _ _ h => h) (by rfl) (by assumption) (v := ?_) ?_ ?_
                   rotate_left
                   · intro w hS; (try dsimp only at hS); first | (go_simp; done) | (go_simp; with_reducible rfl)
                   try simp only [Act.put, List.setIfInBounds_toArray, List.set_cons_zero, List.set_cons_succ])
                | (refine held_off 10 rfl (by kernel_rfl) (fun _ _ _ h => h) (by rfl) (by assumption) ?_
                   try simp only [Act.put, List.setIfInBounds_toArray, List.set_cons_zero, List.set_cons_succ])
                | (go_outline; fail "take 10")
              first
                | (refine held_on 11 rfl (by kernel_rfl) (fun _ _ _ h => h) (by rfl) (by assumption) (v := ?_) ?_ ?_
                   rotate_left
                   · intro w hS; (try dsimp only at hS); first | (go_simp; done) | (go_simp; with_reducible rfl)
                   try simp only [Act.put, List.setIfInBounds_toArray, List.set_cons_zero, List.set_cons_succ])
                | (refine held_off 11 rfl (by kernel_rfl) (fun _ _ _ h => h) (by rfl) (by assumption) ?_
                   try simp only [Act.put, List.setIfInBounds_toArray, List.set_cons_zero, List.set_cons_succ])
                | (go_outline; fail "take 11")
              first
                | (refine held_on 12 rfl (by kernel_rfl) (fun _ _ _ h => h) (by rfl) (by assumption) (v := ?_) ?_ ?_
                   rotate_left
                   · intro w hS; (try dsimp only at hS); first | (go_simp; done) | (go_simp; with_reducible rfl)
                   try simp only [Act.put, List.setIfInBounds_toArray, List.set_cons_zero, List.set_cons_succ])
                | (refine held_off 12 rfl (by kernel_rfl) (fun _ _ _ h => h) (by rfl) (by assumption) ?_
                   try simp only [Act.put, List.setIfInBounds_toArray, List.set_cons_zero, List.set_cons_succ])
                | (go_outline; fail "take 12")
              first
                | (refine held_on 13 rfl (by kernel_rfl) (fun _ _ _ h => h) (by rfl) (by assumption) (v := ?_) ?_ ?_
                   rotate_left
                   · intro w hS; (try dsimp only at hS); first | (go_simp; done) | (go_simp; with_reducible rfl)
                   try simp only [Act.put, List.setIfInBounds_toArray, List.set_cons_zero, List.set_cons_succ])
                | (refine held_off 13 rfl (by kernel_rfl) (fun _ _ _ h => h) (by rfl) (by assumption) ?_
                   try simp only [Act.put, List.setIfInBounds_toArray, List.set_cons_zero, List.set_cons_succ])
                | (go_outline; fail "take 13")
              first
                | (refine held_on 14 rfl (by kernel_rfl) (fun _ _ _ h => h) (by rfl) (by assumption) (v := ?_) ?_ ?_
                   rotate_left
                   · intro w hS; (try dsimp only at hS); first | (go_simp; done) | (go_simp; with_reducible rfl)
                   try simp only [Act.put, List.setIfInBounds_toArray, List.set_cons_zero, List.set_cons_succ])
                | (refine held_off 14 rfl (by kernel_rfl) (fun _ _ _ h => h) (by rfl) (by assumption) ?_
                   try simp only [Act.put, List.setIfInBounds_toArray, List.set_cons_zero, List.set_cons_succ])
                | (go_outline; fail "take 14")
              first
                | (refine held_on 15 rfl (by kernel_rfl) (fun _ _ _ h => h) (by rfl) (by assumption) (v := ?_) ?_ ?_
                   rotate_left
                   · intro w hS; (try dsimp only at hS); first | (go_simp; done) | (go_simp; with_reducible rfl)
                   try simp only [Act.put, List.setIfInBounds_toArray, List.set_cons_zero, List.set_cons_succ])
                | (refine held_off 15 rfl (by kernel_rfl) (fun _ _ _ h => h) (by rfl) (by assumption) ?_
                   try simp only [Act.put, List.setIfInBounds_toArray, List.set_cons_zero, List.set_cons_succ])
                | (go_outline; fail "take 15")
              first
                | (refine held_on 16 rfl (by kernel_rfl) (fun _ _ _ h => h) (by rfl) (by assumption) (v := ?_) ?_ ?_
                   rotate_left
                   · intro w hS; (try dsimp only at hS); first | (go_simp; done) | (go_simp; with_reducible rfl)
                   try simp only [Act.put, List.setIfInBounds_toArray, List.set_cons_zero, List.set_cons_succ])
                | (refine held_off 16 rfl (by kernel_rfl) (fun _ _ _ h => h) (by rfl) (by assumption) ?_
                   try simp only [Act.put, List.setIfInBounds_toArray, List.set_cons_zero, List.set_cons_succ])
                | (go_outline; fail "take 16")
              first
                | (refine held_on 17 rfl (by kernel_rfl) (fun _ _ _ h => h) (by rfl) (by assumption) (v := ?_) ?_ ?_
                   rotate_left
                   · intro w hS; (try dsimp only at hS); first | (go_simp; done) | (go_simp; with_reducible rfl)
                   try simp only [Act.put, List.setIfInBounds_toArray, List.set_cons_zero, List.set_cons_succ])
                | (refine held_off 17 rfl (by kernel_rfl) (fun _ _ _ h => h) (by rfl) (by assumption) ?_
                   try simp only [Act.put, List.setIfInBounds_toArray, List.set_cons_zero, List.set_cons_succ])
                | (go_outline; fail "take 17")
              refine held_load 18 rfl (by kernel_rfl) (fun _ _ _ h => h) (by rfl) (by assumption) rfl g2 ?_
              try simp only [Act.put, List.setIfInBounds_toArray, List.set_cons_zero, List.set_cons_succ]
              refine held_lookup 19 rfl (by kernel_rfl) (fun _ _ _ h => h) (by rfl) (by assumption) rfl rfl g3 ?_
              try simp only [Act.put, List.setIfInBounds_toArray, List.set_cons_zero, List.set_cons_succ]
              first
                | (refine held_on 20 rfl (by kernel_rfl) (fun _ _ _ h => h) (by rfl) (by assumption) (v := ?_) ?_ ?_
                   rotate_left
                   · intro w hS; (try dsimp only at hS); first | (go_simp; done) | (go_simp; with_reducible rfl)
                   try simp only [Act.put, List.setIfInBounds_toArray, List.set_cons_zero, List.set_cons_succ])
                | (refine held_off 20 rfl (by kernel_rfl) (fun _ _ _ h => h) (by rfl) (by assumption) ?_
                   try simp only [Act.put, List.setIfInBounds_toArray, List.set_cons_zero, List.set_cons_succ])
                | (go_outline; fail "take 20")
              first
                | (refine held_on 21 rfl (by kernel_rfl) (fun _ _ _ h => h) (by rfl) (by assumption) (v := ?_) ?_ ?_
                   rotate_left
                   · intro w hS; (try dsimp only at hS); first | (go_simp; done) | (go_simp; with_reducible rfl)
                   try simp only [Act.put, List.setIfInBounds_toArray, List.set_cons_zero, List.set_cons_succ])
                | (refine held_off 21 rfl (by kernel_rfl) (fun _ _ _ h => h) (by rfl) (by assumption) ?_
                   try simp only [Act.put, List.setIfInBounds_toArray, List.set_cons_zero, List.set_cons_succ])
                | (go_outline; fail "take 21")
              refine wpAnyH_done (by kernel_rfl) ?_ _
              go_wp2_with fail
              go_roundg (acts'.length - (k + 1))
              case measure => have := HX.out; omega
              case rel => exact ⟨k + 1, l', aput rm a.key.val (.int .i64 (0)), by have := HX.out; omega, by go_num, ⟨HS4.out.upd (HU46.out.drewN _) (fun _ _ f => f), HM6.out.upd ((Upd.refl (fun _ => False) W6).drewN _) (fun f => f), HCNT.out, HREFS.out, HB4.out.trans ((HU46.out.drewN _).below HZ4.out (fun _ f => f.elim)), Nat.le_trans HZ4.out HU46.out.size⟩⟩
          · have hwc : wn = c.refs := by rw [HWN.out]; exact cnt_some hrr
            have hcr := HC.out.refs c (getC_key hrr).2
            have hcm := getC_key hrr
            have hwp : 0 < wn := by omega
            have hwd : decide (0 < wn) = true := decide_eq_true hwp
            have hw0 : (wn == 0) = false := by simpa using (by omega : ¬ wn = 0)
            have hwb : wn ≤ 200 := by have := HX.out; omega
            simp only [hkk] at hstep
            rw [if_neg hc1] at hstep
            obtain ⟨rfl, rfl, hl'⟩ : false = g ∧ (0 : Int) = er ∧ _ = l' := by injection hstep with h1 h2; injection h2 with h2 h3; exact ⟨h1, h2, h3⟩
            clear hstep
            have hw1 : (wn == 1) = false := by simpa using (by omega : ¬ wn = 1)
            have hth : alook rm a.key.val = some (.int .i64 wn) := by
              have := HC.out.cnt.there ha.key (by rw [← HWN.out]; omega)
              rw [this, ← HWN.out]
            obtain ⟨d, hd⟩ : ∃ d : ChunkV, d = { c with refs := c.refs - 1 } := ⟨_, rfl⟩
            have hget : getC l' a.key = some d := by
              rw [← hl', getC_put, if_pos hcm.1, hd]
            have hcnt : Cnt (aput rm a.key.val (.int .i64 (wn - 1))) l' := by
              rw [← hl']
              refine HC.out.cnt.set ha.key (fun k => ?_)
              rw [cnt_put, show ({ c with refs := c.refs - 1 } : ChunkV).key = a.key from hcm.1, hwc]
            have hrefs : ∀ c ∈ l', 0 < c.refs ∧ c.refs ≤ (k + 1 : Nat) := by
              intro x hx
              rw [← hl'] at hx
              rcases mem_putC hx with rfl | hx
              · exact ⟨by show 0 < c.refs - 1; omega, by show c.refs - 1 ≤ _; have := hcr.2; push_cast; omega⟩
              · exact ⟨(HC.out.refs x hx).1, by have := (HC.out.refs x hx).2; push_cast; omega⟩
            have hdm := hrefs d (getC_key hget).2
            have hvl : d.cells.length = 37 := ChunkV.clen (HS3.out.good d (getC_key hget).2)
            have hdpos : decide (0 < d.refs) = true := decide_eq_true hdm.1
            have c36 := ChunkV.at36 (HS3.out.good d (getC_key hget).2)
            have hlk : (alook (aput rm a.key.val (.int .i64 (wn - 1))) a.key.val).getD (.int .i64 0) = .int .i64 d.refs := by
              rw [hcnt a.key ha.key]
              unfold cnt
              rw [hget]
              rfl
            have HGET := Lib.hid hget; have HCNT := Lib.hid hcnt; have HREFS := Lib.hid hrefs; have HLK := Lib.hid hlk
            clear hget hcnt hrefs hlk hd hdm
            have HTH := Lib.hid hth; clear hth
            have hwrap : IntKind.i64.wrap (wn - 1) = wn - 1 := by simp [IntKind.wrap, IntKind.bits, IntKind.signed]; omega
            have hcl := And.intro hwc (And.intro hcr hcm)
            clear hwc hcr hcm
            have HCL := Lib.hid hcl; clear hcl
            go_wp2_with fail
            refine wp_region_held_drew (S := fun w' => Upd (fun x => x = r) w3 w') rfl (Upd.refl _ w3).drew (fun hHeld => ?_)
            have q2 : ∀ w', Upd (fun x => x = r) w3 w' → (Instr.loadAt 32 (.pointer (some ⟨wr.heap.size, 1, none⟩))).run Try.prog w' = .ok a.key.val w' := fun w' hw => run_loadAt_mid w' _ 1 32 a.key.cells _ (hw.range (ActV.keyAt ha HR3.out) (fun f => by have := HMW.out.2; omega)) Try.underlying32 rfl (by rw [hkl]; kernel_rfl)
            first
              | (refine held_on 0 rfl (by kernel_rfl) (fun _ _ _ h => h) (by rfl) (by assumption) (v := ?_) ?_ ?_
                 rotate_left
                 · intro w hS; (try dsimp only at hS); first | (go_simp; done) | (go_simp; with_reducible rfl)
                 try simp only [Act.put, List.setIfInBounds_toArray, List.set_cons_zero, List.set_cons_succ])
              | (refine held_off 0 rfl (by kernel_rfl) (fun _ _ _ h => h) (by rfl) (by assumption) ?_
                 try simp only [Act.put, List.setIfInBounds_toArray, List.set_cons_zero, List.set_cons_succ])
              | (go_outline; fail "take 0")
            first
              | (refine held_on 1 rfl (by kernel_rfl) (fun _ _ _ h => h) (by rfl) (by assumption) (v := ?_) ?_ ?_
                 rotate_left
                 · intro w hS; (try dsimp only at hS); first | (go_simp; done) | (go_simp; with_reducible rfl)
                 try simp only [Act.put, List.setIfInBounds_toArray, List.set_cons_zero, List.set_cons_succ])
              | (refine held_off 1 rfl (by kernel_rfl) (fun _ _ _ h => h) (by rfl) (by assumption) ?_
                 try simp only [Act.put, List.setIfInBounds_toArray, List.set_cons_zero, List.set_cons_succ])
              | (go_outline; fail "take 1")
            refine held_load 2 rfl (by kernel_rfl) (fun _ _ _ h => h) (by rfl) (by assumption) rfl q2 ?_
            try simp only [Act.put, List.setIfInBounds_toArray, List.set_cons_zero, List.set_cons_succ]
            refine wpAnyH_ready (rs := [3, 5]) (by kernel_rfl) (by simp) (AllReadyH.cons rfl (fun K hK => ?_) (AllReadyH.cons rfl (fun K hK => ?_) AllReadyH.nil))
            · rw [if_pos (by rfl)]
              refine wp_lookup _ _ rfl keyedKey Try.underlying26 (.int .i64 0) (by kernel_rfl) (HM3.out.of_block rfl) rfl a.key.val lit HLIT.out rfl (.int .i64 wn) HLO.out ?_
              refine hK.out _ _ hHeld (fun hHeld => ?_)
              clear hK K
              first
                | (refine held_on 4 rfl (by kernel_rfl) (fun _ _ _ h => h) (by rfl) (by assumption) (v := ?_) ?_ ?_
                   rotate_left
                   · intro w hS; (try dsimp only at hS); first | (go_simp; done) | (go_simp; with_reducible rfl)
                   try simp only [Act.put, List.setIfInBounds_toArray, List.set_cons_zero, List.set_cons_succ])
                | (refine held_off 4 rfl (by kernel_rfl) (fun _ _ _ h => h) (by rfl) (by assumption) ?_
                   try simp only [Act.put, List.setIfInBounds_toArray, List.set_cons_zero, List.set_cons_succ])
                | (go_outline; fail "take 4")
              refine wpAnyH_ready (rs := [5]) (by kernel_rfl) (by simp) (AllReadyH.cons rfl (fun K hK => ?_) AllReadyH.nil)
              rw [if_pos (by rfl)]
              refine wp_mapEntry _ _ rfl keyedKey Try.underlying26 (HM3.out.of_block rfl) rfl a.key.val lit HLIT.out rfl HTH.out (fun wE n hE huE => ?_)
              have HE := Lib.hid hE; clear hE
              refine hK.out _ _ (hHeld.trans huE (fun _ _ f => f)) (fun hHeld => ?_)
              clear hK K huE
              first
                | (refine held_on 6 rfl (by kernel_rfl) (fun _ _ _ h => h) (by rfl) (by assumption) (v := ?_) ?_ ?_
                   rotate_left
                   · intro w hS; (try dsimp only at hS); first | (go_simp; done) | (go_simp; with_reducible rfl)
                   try simp only [Act.put, List.setIfInBounds_toArray, List.set_cons_zero, List.set_cons_succ])
                | (refine held_off 6 rfl (by kernel_rfl) (fun _ _ _ h => h) (by rfl) (by assumption) ?_
                   try simp only [Act.put, List.setIfInBounds_toArray, List.set_cons_zero, List.set_cons_succ])
                | (go_outline; fail "take 6")
              refine wpAnyH_ready (rs := [7]) (by kernel_rfl) (by simp) (AllReadyH.cons rfl (fun K hK => ?_) AllReadyH.nil)
              rw [if_pos (by rfl)]
              refine wp_entryStore _ _ _ rfl (HE.out.of_block rfl) rfl HLIT.out rfl (.int .i64 (wn - 1)) rfl (fun w4 hm4 huS => ?_)
              have hu4 : Upd (fun x => x = r) w3 w4 := hHeld.trans huS (fun _ _ f => f)
              refine hK.out _ _ hu4 (fun hHeld => ?_)
              have HM4 := Lib.hid hm4
              have HS4 := Lib.hid (HS3.out.upd hu4 (fun x hx f => by subst f; exact absurd (HX0.out.2.1 _ hx) (by have := HRR.out; omega)))
              have HR4 := Lib.hid (hu4.range HR3.out (fun f => by have := HMW.out.2; omega))
              have hBr : B ≤ r := by have := HB1.out; have := HRR.out; omega
              have HB4 := Lib.hid (HB3.out.trans (hu4.below HZ3.out (fun k f => by rw [f]; exact hBr)))
              have HZ4 := Lib.hid (Nat.le_trans HZ3.out hu4.size)
              clear hK K hHeld huS hm4 hu4 q2
              refine wpAnyH_done (by kernel_rfl) ?_ _
              go_wp2_with (first
                | ((with_reducible change wpList _ _ _ (⟨_, Op.load _ _, _, _, _, _⟩ :: _) _ _); refine wpl_load rfl 32 _ rfl wr.heap.size 1 rfl a.key.cells _ (ActV.keyAt ha HR4.out) Try.underlying32 rfl (by rw [hkl]; kernel_rfl) ?_))
              refine (get_at HS4.out ha.key HGET.out).mono ?_
              rintro e w5 ⟨rfl, hu5⟩
              have HU5 := Lib.hid hu5; clear hu5
              go_wp2_with (first
                | ((with_reducible change wpList _ _ _ (⟨_, Op.store _ _ _, _, _, _, _⟩ :: _) _ _); refine wpList_store_mid rfl _ _ _ rfl w5.heap.size 0 d.cells.toArray rfl rfl (there_new w5 _ _ (by rw [List.size_toArray, hvl]; exact Nat.le_refl _)) (by simp only [List.size_toArray]; rw [hvl]; kernel_rfl) (all_oneCell_toArray ChunkV.one) ?_
                   refine wpList_world fun W6 hW6 => ?_
                   have h4 : W6.heap[w5.heap.size]? = some (.cells d.cells.toArray 41 (0, 0)) := by rw [hW6]; exact at_setAll (heap_alloc_last w5 _) (by rw [hvl]; rfl)
                   have hu6 : Upd (fun _ => False) w5 W6 := by rw [hW6]; exact Upd.setCells (S := fun _ => False) (fun hg => absurd hg (Nat.lt_irrefl _)) _ _ ((Upd.refl _ w5).alloc _)
                   have e36 : W6.cell? ⟨w5.heap.size, 36, none⟩ = some (.int .i64 d.refs) := by rw [cell_at h4, c36]
                   have HU6 := Lib.hid hu6
                   clear h4 hu6 hW6))
              have hu46 : Upd (fun _ => False) w4 W6 := HU5.out.trans HU6.out (fun _ _ f => f)
              have hm6 := HM4.out.upd hu46 (fun f => f)
              have hr6 := hu46.range HR4.out (fun f => f)
              refine wp_region_held_drew (S := fun w' => Upd (fun _ => False) W6 w') rfl (Upd.refl _ W6).drew (fun hHeld => ?_)
              have g2 : ∀ w', Upd (fun _ => False) W6 w' → (Instr.loadAt 32 (.pointer (some ⟨wr.heap.size, 1, none⟩))).run Try.prog w' = .ok a.key.val w' := fun w' hw => run_loadAt_mid w' _ 1 32 a.key.cells _ (hw.range (ActV.keyAt ha hr6) (fun f => f)) Try.underlying32 rfl (by rw [hkl]; kernel_rfl)
              have g3 : ∀ w', Upd (fun _ => False) W6 w' → (Instr.lookup 26 (.map (some r)) a.key.val false).run Try.prog w' = .ok (.int .i64 d.refs) w' := fun w' hw => by
                have := (hm6.upd hw (fun f => f)).look (t := 26) (c := false) keyedKey Try.underlying26 (z := .int .i64 0) (by kernel_rfl) HLIT.out
                rw [HLK.out] at this
                simpa using this
              have g4 : ∀ w', Upd (fun _ => False) W6 w' → w'.cell? ⟨w5.heap.size, 36, none⟩ = some (.int .i64 d.refs) := fun w' hw => hw.cell e36 (fun f => f)
              have HU46 := Lib.hid hu46; have HM6 := Lib.hid hm6
              clear hu46 hm6 hr6 e36
              first
                | (refine held_on 0 rfl (by kernel_rfl) (fun _ _ _ h => h) (by rfl) (by assumption) (v := ?_) ?_ ?_
                   rotate_left
                   · intro w hS; (try dsimp only at hS); first | (go_simp; done) | (go_simp; with_reducible rfl)
                   try simp only [Act.put, List.setIfInBounds_toArray, List.set_cons_zero, List.set_cons_succ])
                | (refine held_off 0 rfl (by kernel_rfl) (fun _ _ _ h => h) (by rfl) (by assumption) ?_
                   try simp only [Act.put, List.setIfInBounds_toArray, List.set_cons_zero, List.set_cons_succ])
                | (go_outline; fail "take 0")
              first
                | (refine held_on 1 rfl (by kernel_rfl) (fun _ _ _ h => h) (by rfl) (by assumption) (v := ?_) ?_ ?_
                   rotate_left
                   · intro w hS; (try dsimp only at hS); first | (go_simp; done) | (go_simp; with_reducible rfl)
                   try simp only [Act.put, List.setIfInBounds_toArray, List.set_cons_zero, List.set_cons_succ])
                | (refine held_off 1 rfl (by kernel_rfl) (fun _ _ _ h => h) (by rfl) (by assumption) ?_
                   try simp only [Act.put, List.setIfInBounds_toArray, List.set_cons_zero, List.set_cons_succ])
                | (go_outline; fail "take 1")
              first
                | (refine held_on 2 rfl (by kernel_rfl) (fun _ _ _ h => h) (by rfl) (by assumption) (v := ?_) ?_ ?_
                   rotate_left
                   · intro w hS; (try dsimp only at hS); first | (go_simp; done) | (go_simp; with_reducible rfl)
                   try simp only [Act.put, List.setIfInBounds_toArray, List.set_cons_zero, List.set_cons_succ])
                | (refine held_off 2 rfl (by kernel_rfl) (fun _ _ _ h => h) (by rfl) (by assumption) ?_
                   try simp only [Act.put, List.setIfInBounds_toArray, List.set_cons_zero, List.set_cons_succ])
                | (go_outline; fail "take 2")
              first
                | (refine held_on 3 rfl (by kernel_rfl) (fun _ _ _ h => h) (by rfl) (by assumption) (v := ?_) ?_ ?_
                   rotate_left
                   · intro w hS; (try dsimp only at hS); first | (go_simp; done) | (go_simp; with_reducible rfl)
                   try simp only [Act.put, List.setIfInBounds_toArray, List.set_cons_zero, List.set_cons_succ])
                | (refine held_off 3 rfl (by kernel_rfl) (fun _ _ _ h => h) (by rfl) (by assumption) ?_
                   try simp only [Act.put, List.setIfInBounds_toArray, List.set_cons_zero, List.set_cons_succ])
                | (go_outline; fail "take 3")
              first
                | (refine held_on 4 rfl (by kernel_rfl) (fun _ _ _ h => h) (by rfl) (by assumption) (v := ?_) ?_ ?_
                   rotate_left
                   · intro w hS; (try dsimp only at hS); first | (go_simp; done) | (go_simp; with_reducible rfl)
                   try simp only [Act.put, List.setIfInBounds_toArray, List.set_cons_zero, List.set_cons_succ])
                | (refine held_off 4 rfl (by kernel_rfl) (fun _ _ _ h => h) (by rfl) (by assumption) ?_
                   try simp only [Act.put, List.setIfInBounds_toArray, List.set_cons_zero, List.set_cons_succ])
                | (go_outline; fail "take 4")
              first
                | (refine held_on 5 rfl (by kernel_rfl) (fun _ _ _ h => h) (by rfl) (by assumption) (v := ?_) ?_ ?_
                   rotate_left
                   · intro w hS; (try dsimp only at hS); first | (go_simp; done) | (go_simp; with_reducible rfl)
                   try simp only [Act.put, List.setIfInBounds_toArray, List.set_cons_zero, List.set_cons_succ])
                | (refine held_off 5 rfl (by kernel_rfl) (fun _ _ _ h => h) (by rfl) (by assumption) ?_
                   try simp only [Act.put, List.setIfInBounds_toArray, List.set_cons_zero, List.set_cons_succ])
                | (go_outline; fail "take 5")
              first
                | (refine held_on 6 rfl (by kernel_rfl) (fun _ _ _ h => h) (by rfl) (by assumption) (v := ?_) ?_ ?_
                   rotate_left
                   · intro w hS; (try dsimp only at hS); first | (go_simp; done) | (go_simp; with_reducible rfl)
                   try simp only [Act.put, List.setIfInBounds_toArray, List.set_cons_zero, List.set_cons_succ])
                | (refine held_off 6 rfl (by kernel_rfl) (fun _ _ _ h => h) (by rfl) (by assumption) ?_
                   try simp only [Act.put, List.setIfInBounds_toArray, List.set_cons_zero, List.set_cons_succ])
                | (go_outline; fail "take 6")
              first
                | (refine held_on 7 rfl (by kernel_rfl) (fun _ _ _ h => h) (by rfl) (by assumption) (v := ?_) ?_ ?_
                   rotate_left
                   · intro w hS; (try dsimp only at hS); first | (go_simp; done) | (go_simp; with_reducible rfl)
                   try simp only [Act.put, List.setIfInBounds_toArray, List.set_cons_zero, List.set_cons_succ])
                | (refine held_off 7 rfl (by kernel_rfl) (fun _ _ _ h => h) (by rfl) (by assumption) ?_
                   try simp only [Act.put, List.setIfInBounds_toArray, List.set_cons_zero, List.set_cons_succ])
                | (go_outline; fail "take 7")
              refine held_load 8 rfl (by kernel_rfl) (fun _ _ _ h => h) (by rfl) (by assumption) rfl g2 ?_
              try simp only [Act.put, List.setIfInBounds_toArray, List.set_cons_zero, List.set_cons_succ]
              refine held_lookup 9 rfl (by kernel_rfl) (fun _ _ _ h => h) (by rfl) (by assumption) rfl rfl g3 ?_
              try simp only [Act.put, List.setIfInBounds_toArray, List.set_cons_zero, List.set_cons_succ]
              first
                | (refine held_on 10 rfl (by kernel_rfl) (fun _ _ _ h => h) (by rfl) (by assumption) (v := ?_) ?_ ?_
                   rotate_left
                   · intro w hS; (try dsimp only at hS); first | (go_simp; done) | (go_simp; with_reducible rfl)
                   try simp only [Act.put, List.setIfInBounds_toArray, List.set_cons_zero, List.set_cons_succ])
                | (refine held_off 10 rfl (by kernel_rfl) (fun _ _ _ h => h) (by rfl) (by assumption) ?_
                   try simp only [Act.put, List.setIfInBounds_toArray, List.set_cons_zero, List.set_cons_succ])
                | (go_outline; fail "take 10")
              first
                | (refine held_on 11 rfl (by kernel_rfl) (fun _ _ _ h => h) (by rfl) (by assumption) (v := ?_) ?_ ?_
                   rotate_left
                   · intro w hS; (try dsimp only at hS); first | (go_simp; done) | (go_simp; with_reducible rfl)
                   try simp only [Act.put, List.setIfInBounds_toArray, List.set_cons_zero, List.set_cons_succ])
                | (refine held_off 11 rfl (by kernel_rfl) (fun _ _ _ h => h) (by rfl) (by assumption) ?_
                   try simp only [Act.put, List.setIfInBounds_toArray, List.set_cons_zero, List.set_cons_succ])
                | (go_outline; fail "take 11")
              first
                | (refine held_on 12 rfl (by kernel_rfl) (fun _ _ _ h => h) (by rfl) (by assumption) (v := ?_) ?_ ?_
                   rotate_left
                   · intro w hS; (try dsimp only at hS); first | (go_simp; done) | (go_simp; with_reducible rfl)
                   try simp only [Act.put, List.setIfInBounds_toArray, List.set_cons_zero, List.set_cons_succ])
                | (refine held_off 12 rfl (by kernel_rfl) (fun _ _ _ h => h) (by rfl) (by assumption) ?_
                   try simp only [Act.put, List.setIfInBounds_toArray, List.set_cons_zero, List.set_cons_succ])
                | (go_outline; fail "take 12")
              first
                | (refine held_on 13 rfl (by kernel_rfl) (fun _ _ _ h => h) (by rfl) (by assumption) (v := ?_) ?_ ?_
                   rotate_left
                   · intro w hS; (try dsimp only at hS); first | (go_simp; done) | (go_simp; with_reducible rfl)
                   try simp only [Act.put, List.setIfInBounds_toArray, List.set_cons_zero, List.set_cons_succ])
                | (refine held_off 13 rfl (by kernel_rfl) (fun _ _ _ h => h) (by rfl) (by assumption) ?_
                   try simp only [Act.put, List.setIfInBounds_toArray, List.set_cons_zero, List.set_cons_succ])
                | (go_outline; fail "take 13")
              first
                | (refine held_on 14 rfl (by kernel_rfl) (fun _ _ _ h => h) (by rfl) (by assumption) (v := ?_) ?_ ?_
                   rotate_left
                   · intro w hS; (try dsimp only at hS); first | (go_simp; done) | (go_simp; with_reducible rfl)
                   try simp only [Act.put, List.setIfInBounds_toArray, List.set_cons_zero, List.set_cons_succ])
                | (refine held_off 14 rfl (by kernel_rfl) (fun _ _ _ h => h) (by rfl) (by assumption) ?_
                   try simp only [Act.put, List.setIfInBounds_toArray, List.set_cons_zero, List.set_cons_succ])
                | (go_outline; fail "take 14")
              first
                | (refine held_on 15 rfl (by kernel_rfl) (fun _ _ _ h => h) (by rfl) (by assumption) (v := ?_) ?_ ?_
                   rotate_left
                   · intro w hS; (try dsimp only at hS); first | (go_simp; done) | (go_simp; with_reducible rfl)
                   try simp only [Act.put, List.setIfInBounds_toArray, List.set_cons_zero, List.set_cons_succ])
                | (refine held_off 15 rfl (by kernel_rfl) (fun _ _ _ h => h) (by rfl) (by assumption) ?_
                   try simp only [Act.put, List.setIfInBounds_toArray, List.set_cons_zero, List.set_cons_succ])
                | (go_outline; fail "take 15")
              first
                | (refine held_on 16 rfl (by kernel_rfl) (fun _ _ _ h => h) (by rfl) (by assumption) (v := ?_) ?_ ?_
                   rotate_left
                   · intro w hS; (try dsimp only at hS); first | (go_simp; done) | (go_simp; with_reducible rfl)
                   try simp only [Act.put, List.setIfInBounds_toArray, List.set_cons_zero, List.set_cons_succ])
                | (refine held_off 16 rfl (by kernel_rfl) (fun _ _ _ h => h) (by rfl) (by assumption) ?_
                   try simp only [Act.put, List.setIfInBounds_toArray, List.set_cons_zero, List.set_cons_succ])
                | (go_outline; fail "take 16")
              first
                | (refine held_on 17 rfl (by kernel_rfl) (fun _ _ _ h => h) (by rfl) (by assumption) (v := ?_) ?_ ?_
                   rotate_left
                   · intro w hS; (try dsimp only at hS); first | (go_simp; done) | (go_simp; with_reducible rfl)
                   try simp only [Act.put, List.setIfInBounds_toArray, List.set_cons_zero, List.set_cons_succ])
                | (refine held_off 17 rfl (by kernel_rfl) (fun _ _ _ h => h) (by rfl) (by assumption) ?_
                   try simp only [Act.put, List.setIfInBounds_toArray, List.set_cons_zero, List.set_cons_succ])
                | (go_outline; fail "take 17")
              refine held_load 18 rfl (by kernel_rfl) (fun _ _ _ h => h) (by rfl) (by assumption) rfl g2 ?_
              try simp only [Act.put, List.setIfInBounds_toArray, List.set_cons_zero, List.set_cons_succ]
              refine held_lookup 19 rfl (by kernel_rfl) (fun _ _ _ h => h) (by rfl) (by assumption) rfl rfl g3 ?_
              try simp only [Act.put, List.setIfInBounds_toArray, List.set_cons_zero, List.set_cons_succ]
              first
                | (refine held_on 20 rfl (by kernel_rfl) (fun _ _ _ h => h) (by rfl) (by assumption) (v := ?_) ?_ ?_
                   rotate_left
                   · intro w hS; (try dsimp only at hS); first | (go_simp; done) | (go_simp; with_reducible rfl)
                   try simp only [Act.put, List.setIfInBounds_toArray, List.set_cons_zero, List.set_cons_succ])
                | (refine held_off 20 rfl (by kernel_rfl) (fun _ _ _ h => h) (by rfl) (by assumption) ?_
                   try simp only [Act.put, List.setIfInBounds_toArray, List.set_cons_zero, List.set_cons_succ])
                | (go_outline; fail "take 20")
              first
                | (refine held_on 21 rfl (by kernel_rfl) (fun _ _ _ h => h) (by rfl) (by assumption) (v := ?_) ?_ ?_
                   rotate_left
                   · intro w hS; (try dsimp only at hS); first | (go_simp; done) | (go_simp; with_reducible rfl)
                   try simp only [Act.put, List.setIfInBounds_toArray, List.set_cons_zero, List.set_cons_succ])
                | (refine held_off 21 rfl (by kernel_rfl) (fun _ _ _ h => h) (by rfl) (by assumption) ?_
                   try simp only [Act.put, List.setIfInBounds_toArray, List.set_cons_zero, List.set_cons_succ])
                | (go_outline; fail "take 21")
              refine wpAnyH_done (by kernel_rfl) ?_ _
              go_wp2_with fail
              go_roundg (acts'.length - (k + 1))
              case measure => have := HX.out; omega
              case rel => exact ⟨k + 1, l', aput rm a.key.val (.int .i64 (wn - 1)), by have := HX.out; omega, by go_num, ⟨HS4.out.upd (HU46.out.drewN _) (fun _ _ f => f), HM6.out.upd ((Upd.refl (fun _ => False) W6).drewN _) (fun f => f), HCNT.out, HREFS.out, HB4.out.trans ((HU46.out.drewN _).below HZ4.out (fun _ f => f.elim)), Nat.le_trans HZ4.out HU46.out.size⟩⟩
            · rw [if_pos (by rfl)]
              refine wp_mapEntry _ _ rfl keyedKey Try.underlying26 (HM3.out.of_block rfl) rfl a.key.val lit HLIT.out rfl HTH.out (fun wE n hE huE => ?_)
              have HE := Lib.hid hE; clear hE
              refine hK.out _ _ (hHeld.trans huE (fun _ _ f => f)) (fun hHeld => ?_)
              clear hK K huE
              first
                | (refine held_on 6 rfl (by kernel_rfl) (fun _ _ _ h => h) (by rfl) (by assumption) (v := ?_) ?_ ?_
                   rotate_left
                   · intro w hS; (try dsimp only at hS); first | (go_simp; done) | (go_simp; with_reducible rfl)
                   try simp only [Act.put, List.setIfInBounds_toArray, List.set_cons_zero, List.set_cons_succ])
                | (refine held_off 6 rfl (by kernel_rfl) (fun _ _ _ h => h) (by rfl) (by assumption) ?_
                   try simp only [Act.put, List.setIfInBounds_toArray, List.set_cons_zero, List.set_cons_succ])
                | (go_outline; fail "take 6")
              refine wpAnyH_ready (rs := [3]) (by kernel_rfl) (by simp) (AllReadyH.cons rfl (fun K hK => ?_) AllReadyH.nil)
              rw [if_pos (by rfl)]
              refine wp_lookup _ _ rfl keyedKey Try.underlying26 (.int .i64 0) (by kernel_rfl) (HE.out.1.of_block rfl) rfl a.key.val lit HLIT.out rfl (.int .i64 wn) HLO.out ?_
              refine hK.out _ _ hHeld (fun hHeld => ?_)
              clear hK K
              first
                | (refine held_on 4 rfl (by kernel_rfl) (fun _ _ _ h => h) (by rfl) (by assumption) (v := ?_) ?_ ?_
                   rotate_left
                   · intro w hS; (try dsimp only at hS); first | (go_simp; done) | (go_simp; with_reducible rfl)
                   try simp only [Act.put, List.setIfInBounds_toArray, List.set_cons_zero, List.set_cons_succ])
                | (refine held_off 4 rfl (by kernel_rfl) (fun _ _ _ h => h) (by rfl) (by assumption) ?_
                   try simp only [Act.put, List.setIfInBounds_toArray, List.set_cons_zero, List.set_cons_succ])
                | (go_outline; fail "take 4")
              refine wpAnyH_ready (rs := [7]) (by kernel_rfl) (by simp) (AllReadyH.cons rfl (fun K hK => ?_) AllReadyH.nil)
              rw [if_pos (by rfl)]
              refine wp_entryStore _ _ _ rfl (HE.out.of_block rfl) rfl HLIT.out rfl (.int .i64 (wn - 1)) rfl (fun w4 hm4 huS => ?_)
              have hu4 : Upd (fun x => x = r) w3 w4 := hHeld.trans huS (fun _ _ f => f)
              refine hK.out _ _ hu4 (fun hHeld => ?_)
              have HM4 := Lib.hid hm4
              have HS4 := Lib.hid (HS3.out.upd hu4 (fun x hx f => by subst f; exact absurd (HX0.out.2.1 _ hx) (by have := HRR.out; omega)))
              have HR4 := Lib.hid (hu4.range HR3.out (fun f => by have := HMW.out.2; omega))
              have hBr : B ≤ r := by have := HB1.out; have := HRR.out; omega
              have HB4 := Lib.hid (HB3.out.trans (hu4.below HZ3.out (fun k f => by rw [f]; exact hBr)))
              have HZ4 := Lib.hid (Nat.le_trans HZ3.out hu4.size)
              clear hK K hHeld huS hm4 hu4 q2
              refine wpAnyH_done (by kernel_rfl) ?_ _
              go_wp2_with (first
                | ((with_reducible change wpList _ _ _ (⟨_, Op.load _ _, _, _, _, _⟩ :: _) _ _); refine wpl_load rfl 32 _ rfl wr.heap.size 1 rfl a.key.cells _ (ActV.keyAt ha HR4.out) Try.underlying32 rfl (by rw [hkl]; kernel_rfl) ?_))
              refine (get_at HS4.out ha.key HGET.out).mono ?_
              rintro e w5 ⟨rfl, hu5⟩
              have HU5 := Lib.hid hu5; clear hu5
              go_wp2_with (first
                | ((with_reducible change wpList _ _ _ (⟨_, Op.store _ _ _, _, _, _, _⟩ :: _) _ _); refine wpList_store_mid rfl _ _ _ rfl w5.heap.size 0 d.cells.toArray rfl rfl (there_new w5 _ _ (by rw [List.size_toArray, hvl]; exact Nat.le_refl _)) (by simp only [List.size_toArray]; rw [hvl]; kernel_rfl) (all_oneCell_toArray ChunkV.one) ?_
                   refine wpList_world fun W6 hW6 => ?_
                   have h4 : W6.heap[w5.heap.size]? = some (.cells d.cells.toArray 41 (0, 0)) := by rw [hW6]; exact at_setAll (heap_alloc_last w5 _) (by rw [hvl]; rfl)
                   have hu6 : Upd (fun _ => False) w5 W6 := by rw [hW6]; exact Upd.setCells (S := fun _ => False) (fun hg => absurd hg (Nat.lt_irrefl _)) _ _ ((Upd.refl _ w5).alloc _)
                   have e36 : W6.cell? ⟨w5.heap.size, 36, none⟩ = some (.int .i64 d.refs) := by rw [cell_at h4, c36]
                   have HU6 := Lib.hid hu6
                   clear h4 hu6 hW6))
              have hu46 : Upd (fun _ => False) w4 W6 := HU5.out.trans HU6.out (fun _ _ f => f)
              have hm6 := HM4.out.upd hu46 (fun f => f)
              have hr6 := hu46.range HR4.out (fun f => f)
              refine wp_region_held_drew (S := fun w' => Upd (fun _ => False) W6 w') rfl (Upd.refl _ W6).drew (fun hHeld => ?_)
              have g2 : ∀ w', Upd (fun _ => False) W6 w' → (Instr.loadAt 32 (.pointer (some ⟨wr.heap.size, 1, none⟩))).run Try.prog w' = .ok a.key.val w' := fun w' hw => run_loadAt_mid w' _ 1 32 a.key.cells _ (hw.range (ActV.keyAt ha hr6) (fun f => f)) Try.underlying32 rfl (by rw [hkl]; kernel_rfl)
              have g3 : ∀ w', Upd (fun _ => False) W6 w' → (Instr.lookup 26 (.map (some r)) a.key.val false).run Try.prog w' = .ok (.int .i64 d.refs) w' := fun w' hw => by
                have := (hm6.upd hw (fun f => f)).look (t := 26) (c := false) keyedKey Try.underlying26 (z := .int .i64 0) (by kernel_rfl) HLIT.out
                rw [HLK.out] at this
                simpa using this
              have g4 : ∀ w', Upd (fun _ => False) W6 w' → w'.cell? ⟨w5.heap.size, 36, none⟩ = some (.int .i64 d.refs) := fun w' hw => hw.cell e36 (fun f => f)
              have HU46 := Lib.hid hu46; have HM6 := Lib.hid hm6
              clear hu46 hm6 hr6 e36
              first
                | (refine held_on 0 rfl (by kernel_rfl) (fun _ _ _ h => h) (by rfl) (by assumption) (v := ?_) ?_ ?_
                   rotate_left
                   · intro w hS; (try dsimp only at hS); first | (go_simp; done) | (go_simp; with_reducible rfl)
                   try simp only [Act.put, List.setIfInBounds_toArray, List.set_cons_zero, List.set_cons_succ])
                | (refine held_off 0 rfl (by kernel_rfl) (fun _ _ _ h => h) (by rfl) (by assumption) ?_
                   try simp only [Act.put, List.setIfInBounds_toArray, List.set_cons_zero, List.set_cons_succ])
                | (go_outline; fail "take 0")
              first
                | (refine held_on 1 rfl (by kernel_rfl) (fun _ _ _ h => h) (by rfl) (by assumption) (v := ?_) ?_ ?_
                   rotate_left
                   · intro w hS; (try dsimp only at hS); first | (go_simp; done) | (go_simp; with_reducible rfl)
                   try simp only [Act.put, List.setIfInBounds_toArray, List.set_cons_zero, List.set_cons_succ])
                | (refine held_off 1 rfl (by kernel_rfl) (fun _ _ _ h => h) (by rfl) (by assumption) ?_
                   try simp only [Act.put, List.setIfInBounds_toArray, List.set_cons_zero, List.set_cons_succ])
                | (go_outline; fail "take 1")
              first
                | (refine held_on 2 rfl (by kernel_rfl) (fun _ _ _ h => h) (by rfl) (by assumption) (v := ?_) ?_ ?_
                   rotate_left
                   · intro w hS; (try dsimp only at hS); first | (go_simp; done) | (go_simp; with_reducible rfl)
                   try simp only [Act.put, List.setIfInBounds_toArray, List.set_cons_zero, List.set_cons_succ])
                | (refine held_off 2 rfl (by kernel_rfl) (fun _ _ _ h => h) (by rfl) (by assumption) ?_
                   try simp only [Act.put, List.setIfInBounds_toArray, List.set_cons_zero, List.set_cons_succ])
                | (go_outline; fail "take 2")
              first
                | (refine held_on 3 rfl (by kernel_rfl) (fun _ _ _ h => h) (by rfl) (by assumption) (v := ?_) ?_ ?_
                   rotate_left
                   · intro w hS; (try dsimp only at hS); first | (go_simp; done) | (go_simp; with_reducible rfl)
                   try simp only [Act.put, List.setIfInBounds_toArray, List.set_cons_zero, List.set_cons_succ])
                | (refine held_off 3 rfl (by kernel_rfl) (fun _ _ _ h => h) (by rfl) (by assumption) ?_
                   try simp only [Act.put, List.setIfInBounds_toArray, List.set_cons_zero, List.set_cons_succ])
                | (go_outline; fail "take 3")
              first
                | (refine held_on 4 rfl (by kernel_rfl) (fun _ _ _ h => h) (by rfl) (by assumption) (v := ?_) ?_ ?_
                   rotate_left
                   · intro w hS; (try dsimp only at hS); first | (go_simp; done) | (go_simp; with_reducible rfl)
                   try simp only [Act.put, List.setIfInBounds_toArray, List.set_cons_zero, List.set_cons_succ])
                | (refine held_off 4 rfl (by kernel_rfl) (fun _ _ _ h => h) (by rfl) (by assumption) ?_
                   try simp only [Act.put, List.setIfInBounds_toArray, List.set_cons_zero, List.set_cons_succ])
                | (go_outline; fail "take 4")
              first
                | (refine held_on 5 rfl (by kernel_rfl) (fun _ _ _ h => h) (by rfl) (by assumption) (v := ?_) ?_ ?_
                   rotate_left
                   · intro w hS; (try dsimp only at hS); first | (go_simp; done) | (go_simp; with_reducible rfl)
                   try simp only [Act.put, List.setIfInBounds_toArray, List.set_cons_zero, List.set_cons_succ])
                | (refine held_off 5 rfl (by kernel_rfl) (fun _ _ _ h => h) (by rfl) (by assumption) ?_
                   try simp only [Act.put, List.setIfInBounds_toArray, List.set_cons_zero, List.set_cons_succ])
                | (go_outline; fail "take 5")
              first
                | (refine held_on 6 rfl (by kernel_rfl) (fun _ _ _ h => h) (by rfl) (by assumption) (v := ?_) ?_ ?_
                   rotate_left
                   · intro w hS; (try dsimp only at hS); first | (go_simp; done) | (go_simp; with_reducible rfl)
                   try simp only [Act.put, List.setIfInBounds_toArray, List.set_cons_zero, List.set_cons_succ])
                | (refine held_off 6 rfl (by kernel_rfl) (fun _ _ _ h => h) (by rfl) (by assumption) ?_
                   try simp only [Act.put, List.setIfInBounds_toArray, List.set_cons_zero, List.set_cons_succ])
                | (go_outline; fail "take 6")
              first
                | (refine held_on 7 rfl (by kernel_rfl) (fun _ _ _ h => h) (by rfl) (by assumption) (v := ?_) ?_ ?_
                   rotate_left
                   · intro w hS; (try dsimp only at hS); first | (go_simp; done) | (go_simp; with_reducible rfl)
                   try simp only [Act.put, List.setIfInBounds_toArray, List.set_cons_zero, List.set_cons_succ])
                | (refine held_off 7 rfl (by kernel_rfl) (fun _ _ _ h => h) (by rfl) (by assumption) ?_
                   try simp only [Act.put, List.setIfInBounds_toArray, List.set_cons_zero, List.set_cons_succ])
                | (go_outline; fail "take 7")
              refine held_load 8 rfl (by kernel_rfl) (fun _ _ _ h => h) (by rfl) (by assumption) rfl g2 ?_
              try simp only [Act.put, List.setIfInBounds_toArray, List.set_cons_zero, List.set_cons_succ]
              refine held_lookup 9 rfl (by kernel_rfl) (fun _ _ _ h => h) (by rfl) (by assumption) rfl rfl g3 ?_
              try simp only [Act.put, List.setIfInBounds_toArray, List.set_cons_zero, List.set_cons_succ]
              first
                | (refine held_on 10 rfl (by kernel_rfl) (fun _ _ _ h => h) (by rfl) (by assumption) (v := ?_) ?_ ?_
                   rotate_left
                   · intro w hS; (try dsimp only at hS); first | (go_simp; done) | (go_simp; with_reducible rfl)
                   try simp only [Act.put, List.setIfInBounds_toArray, List.set_cons_zero, List.set_cons_succ])
                | (refine held_off 10 rfl (by kernel_rfl) (fun _ _ _ h => h) (by rfl) (by assumption) ?_
                   try simp only [Act.put, List.setIfInBounds_toArray, List.set_cons_zero, List.set_cons_succ])
                | (go_outline; fail "take 10")
              first
                | (refine held_on 11 rfl (by kernel_rfl) (fun _ _ _ h => h) (by rfl) (by assumption) (v := ?_) ?_ ?_
                   rotate_left
                   · intro w hS; (try dsimp only at hS); first | (go_simp; done) | (go_simp; with_reducible rfl)
                   try simp only [Act.put, List.setIfInBounds_toArray, List.set_cons_zero, List.set_cons_succ])
                | (refine held_off 11 rfl (by kernel_rfl) (fun _ _ _ h => h) (by rfl) (by assumption) ?_
                   try simp only [Act.put, List.setIfInBounds_toArray, List.set_cons_zero, List.set_cons_succ])
                | (go_outline; fail "take 11")
              first
                | (refine held_on 12 rfl (by kernel_rfl) (fun _ _ _ h => h) (by rfl) (by assumption) (v := ?_) ?_ ?_
                   rotate_left
                   · intro w hS; (try dsimp only at hS); first | (go_simp; done) | (go_simp; with_reducible rfl)
                   try simp only [Act.put, List.setIfInBounds_toArray, List.set_cons_zero, List.set_cons_succ])
                | (refine held_off 12 rfl (by kernel_rfl) (fun _ _ _ h => h) (by rfl) (by assumption) ?_
                   try simp only [Act.put, List.setIfInBounds_toArray, List.set_cons_zero, List.set_cons_succ])
                | (go_outline; fail "take 12")
              first
                | (refine held_on 13 rfl (by kernel_rfl) (fun _ _ _ h => h) (by rfl) (by assumption) (v := ?_) ?_ ?_
                   rotate_left
                   · intro w hS; (try dsimp only at hS); first | (go_simp; done) | (go_simp; with_reducible rfl)
                   try simp only [Act.put, List.setIfInBounds_toArray, List.set_cons_zero, List.set_cons_succ])
                | (refine held_off 13 rfl (by kernel_rfl) (fun _ _ _ h => h) (by rfl) (by assumption) ?_
                   try simp only [Act.put, List.setIfInBounds_toArray, List.set_cons_zero, List.set_cons_succ])
                | (go_outline; fail "take 13")
              first
                | (refine held_on 14 rfl (by kernel_rfl) (fun _ _ _ h => h) (by rfl) (by assumption) (v := ?_) ?_ ?_
                   rotate_left
                   · intro w hS; (try dsimp only at hS); first | (go_simp; done) | (go_simp; with_reducible rfl)
                   try simp only [Act.put, List.setIfInBounds_toArray, List.set_cons_zero, List.set_cons_succ])
                | (refine held_off 14 rfl (by kernel_rfl) (fun _ _ _ h => h) (by rfl) (by assumption) ?_
                   try simp only [Act.put, List.setIfInBounds_toArray, List.set_cons_zero, List.set_cons_succ])
                | (go_outline; fail "take 14")
              first
                | (refine held_on 15 rfl (by kernel_rfl) (fun _ _ _ h => h) (by rfl) (by assumption) (v := ?_) ?_ ?_
                   rotate_left
                   · intro w hS; (try dsimp only at hS); first | (go_simp; done) | (go_simp; with_reducible rfl)
                   try simp only [Act.put, List.setIfInBounds_toArray, List.set_cons_zero, List.set_cons_succ])
                | (refine held_off 15 rfl (by kernel_rfl) (fun _ _ _ h => h) (by rfl) (by assumption) ?_
                   try simp only [Act.put, List.setIfInBounds_toArray, List.set_cons_zero, List.set_cons_succ])
                | (go_outline; fail "take 15")
              first
                | (refine held_on 16 rfl (by kernel_rfl) (fun _ _ _ h => h) (by rfl) (by assumption) (v := ?_) ?_ ?_
                   rotate_left
                   · intro w hS; (try dsimp only at hS); first | (go_simp; done) | (go_simp; with_reducible rfl)
                   try simp only [Act.put, List.setIfInBounds_toArray, List.set_cons_zero, List.set_cons_succ])
                | (refine held_off 16 rfl (by kernel_rfl) (fun _ _ _ h => h) (by rfl) (by assumption) ?_
                   try simp only [Act.put, List.setIfInBounds_toArray, List.set_cons_zero, List.set_cons_succ])
                | (go_outline; fail "take 16")
              first
                | (refine held_on 17 rfl (by kernel_rfl) (fun _ _ _ h => h) (by rfl) (by assumption) (v := ?_) ?_ ?_
                   rotate_left
                   · intro w hS; (try dsimp only at hS); first | (go_simp; done) | (go_simp; with_reducible rfl)
                   try simp only [Act.put, List.setIfInBounds_toArray, List.set_cons_zero, List.set_cons_succ])
                | (refine held_off 17 rfl (by kernel_rfl) (fun _ _ _ h => h) (by rfl) (by assumption) ?_
                   try simp only [Act.put, List.setIfInBounds_toArray, List.set_cons_zero, List.set_cons_succ])
                | (go_outline; fail "take 17")
              refine held_load 18 rfl (by kernel_rfl) (fun _ _ _ h => h) (by rfl) (by assumption) rfl g2 ?_
              try simp only [Act.put, List.setIfInBounds_toArray, List.set_cons_zero, List.set_cons_succ]
              refine held_lookup 19 rfl (by kernel_rfl) (fun _ _ _ h => h) (by rfl) (by assumption) rfl rfl g3 ?_
              try simp only [Act.put, List.setIfInBounds_toArray, List.set_cons_zero, List.set_cons_succ]
              first
                | (refine held_on 20 rfl (by kernel_rfl) (fun _ _ _ h => h) (by rfl) (by assumption) (v := ?_) ?_ ?_
                   rotate_left
                   · intro w hS; (try dsimp only at hS); first | (go_simp; done) | (go_simp; with_reducible rfl)
                   try simp only [Act.put, List.setIfInBounds_toArray, List.set_cons_zero, List.set_cons_succ])
                | (refine held_off 20 rfl (by kernel_rfl) (fun _ _ _ h => h) (by rfl) (by assumption) ?_
                   try simp only [Act.put, List.setIfInBounds_toArray, List.set_cons_zero, List.set_cons_succ])
                | (go_outline; fail "take 20")
              first
                | (refine held_on 21 rfl (by kernel_rfl) (fun _ _ _ h => h) (by rfl) (by assumption) (v := ?_) ?_ ?_
                   rotate_left
                   · intro w hS; (try dsimp only at hS); first | (go_simp; done) | (go_simp; with_reducible rfl)
                   try simp only [Act.put, List.setIfInBounds_toArray, List.set_cons_zero, List.set_cons_succ])
                | (refine held_off 21 rfl (by kernel_rfl) (fun _ _ _ h => h) (by rfl) (by assumption) ?_
                   try simp only [Act.put, List.setIfInBounds_toArray, List.set_cons_zero, List.set_cons_succ])
                | (go_outline; fail "take 21")
              refine wpAnyH_done (by kernel_rfl) ?_ _
              go_wp2_with fail
              go_roundg (acts'.length - (k + 1))
              case measure => have := HX.out; omega
              case rel => exact ⟨k + 1, l', aput rm a.key.val (.int .i64 (wn - 1)), by have := HX.out; omega, by go_num, ⟨HS4.out.upd (HU46.out.drewN _) (fun _ _ f => f), HM6.out.upd ((Upd.refl (fun _ => False) W6).drewN _) (fun f => f), HCNT.out, HREFS.out, HB4.out.trans ((HU46.out.drewN _).below HZ4.out (fun _ f => f.elim)), Nat.le_trans HZ4.out HU46.out.size⟩⟩
      · rcases rr with _ | c
        · obtain rfl : wn = 0 := by rw [HWN.out]; exact cnt_none hrr
          simp only [hkk] at hstep
          obtain ⟨rfl, rfl, hl'⟩ : false = g ∧ (2 : Int) = er ∧ _ = l' := by injection hstep with h1 h2; injection h2 with h2 h3; exact ⟨h1, h2, h3⟩
          clear hstep
          have hget : getC l' a.key = none := by
            rw [← hl', hrr]
          have hcnt : Cnt (rm) l' := by
            rw [← hl']; exact HC.out.cnt
          have hrefs : ∀ c ∈ l', 0 < c.refs ∧ c.refs ≤ (k + 1 : Nat) := by
            rw [← hl']; exact fun c hc => ⟨(HC.out.refs c hc).1, by have := (HC.out.refs c hc).2; push_cast; omega⟩
          have hvl : zeroChunk.cells.length = 37 := ChunkV.clen zeroKey_good
          have c36 : zeroChunk.cells.toArray[36]? = some (.int .i64 0) := rfl
          have hlk : (alook (rm) a.key.val).getD (.int .i64 0) = .int .i64 0 := by
            rw [hcnt a.key ha.key]
            unfold cnt
            rw [hget]
            rfl
          have HGET := Lib.hid hget; have HCNT := Lib.hid hcnt; have HREFS := Lib.hid hrefs; have HLK := Lib.hid hlk
          clear hget hcnt hrefs hlk
          go_wp2_with (first
            | ((with_reducible change wpList _ _ _ (⟨_, Op.load _ _, _, _, _, _⟩ :: _) _ _); refine wpl_load rfl 32 _ rfl wr.heap.size 1 rfl a.key.cells _ (ActV.keyAt ha HR3.out) Try.underlying32 rfl (by rw [hkl]; kernel_rfl) ?_))
          refine (get_at HS3.out ha.key HGET.out).mono ?_
          rintro e w5 ⟨rfl, hu5⟩
          have HU5 := Lib.hid hu5; clear hu5
          go_wp2_with (first
            | ((with_reducible change wpList _ _ _ (⟨_, Op.store _ _ _, _, _, _, _⟩ :: _) _ _); refine wpList_store_mid rfl _ _ _ rfl w5.heap.size 0 zeroChunk.cells.toArray rfl rfl (there_new w5 _ _ (by rw [List.size_toArray, hvl]; exact Nat.le_refl _)) (by simp only [List.size_toArray]; rw [hvl]; kernel_rfl) (all_oneCell_toArray ChunkV.one) ?_
               refine wpList_world fun W6 hW6 => ?_
               have h4 : W6.heap[w5.heap.size]? = some (.cells zeroChunk.cells.toArray 41 (0, 0)) := by rw [hW6]; exact at_setAll (heap_alloc_last w5 _) (by rw [hvl]; rfl)
               have hu6 : Upd (fun _ => False) w5 W6 := by rw [hW6]; exact Upd.setCells (S := fun _ => False) (fun hg => absurd hg (Nat.lt_irrefl _)) _ _ ((Upd.refl _ w5).alloc _)
               have e36 : W6.cell? ⟨w5.heap.size, 36, none⟩ = some (.int .i64 0) := by rw [cell_at h4, c36]
               have HU6 := Lib.hid hu6
               clear h4 hu6 hW6))
          have hu46 : Upd (fun _ => False) w3 W6 := HU5.out.trans HU6.out (fun _ _ f => f)
          have hm6 := HM3.out.upd hu46 (fun f => f)
          have hr6 := hu46.range HR3.out (fun f => f)
          refine wp_region_held_drew (S := fun w' => Upd (fun _ => False) W6 w') rfl (Upd.refl _ W6).drew (fun hHeld => ?_)
          have g2 : ∀ w', Upd (fun _ => False) W6 w' → (Instr.loadAt 32 (.pointer (some ⟨wr.heap.size, 1, none⟩))).run Try.prog w' = .ok a.key.val w' := fun w' hw => run_loadAt_mid w' _ 1 32 a.key.cells _ (hw.range (ActV.keyAt ha hr6) (fun f => f)) Try.underlying32 rfl (by rw [hkl]; kernel_rfl)
          have g3 : ∀ w', Upd (fun _ => False) W6 w' → (Instr.lookup 26 (.map (some r)) a.key.val false).run Try.prog w' = .ok (.int .i64 0) w' := fun w' hw => by
            have := (hm6.upd hw (fun f => f)).look (t := 26) (c := false) keyedKey Try.underlying26 (z := .int .i64 0) (by kernel_rfl) HLIT.out
            rw [HLK.out] at this
            simpa using this
          have g4 : ∀ w', Upd (fun _ => False) W6 w' → w'.cell? ⟨w5.heap.size, 36, none⟩ = some (.int .i64 0) := fun w' hw => hw.cell e36 (fun f => f)
          have HU46 := Lib.hid hu46; have HM6 := Lib.hid hm6
          clear hu46 hm6 hr6 e36
          first
            | (refine held_on 0 rfl (by kernel_rfl) (fun _ _ _ h => h) (by rfl) (by assumption) (v := ?_) ?_ ?_
               rotate_left
               · intro w hS; (try dsimp only at hS); first | (go_simp; done) | (go_simp; with_reducible rfl)
               try simp only [Act.put, List.setIfInBounds_toArray, List.set_cons_zero, List.set_cons_succ])
            | (refine held_off 0 rfl (by kernel_rfl) (fun _ _ _ h => h) (by rfl) (by assumption) ?_
               try simp only [Act.put, List.setIfInBounds_toArray, List.set_cons_zero, List.set_cons_succ])
            | (go_outline; fail "take 0")
          first
            | (refine held_on 1 rfl (by kernel_rfl) (fun _ _ _ h => h) (by rfl) (by assumption) (v := ?_) ?_ ?_
               rotate_left
               · intro w hS; (try dsimp only at hS); first | (go_simp; done) | (go_simp; with_reducible rfl)
               try simp only [Act.put, List.setIfInBounds_toArray, List.set_cons_zero, List.set_cons_succ])
            | (refine held_off 1 rfl (by kernel_rfl) (fun _ _ _ h => h) (by rfl) (by assumption) ?_
               try simp only [Act.put, List.setIfInBounds_toArray, List.set_cons_zero, List.set_cons_succ])
            | (go_outline; fail "take 1")
          first
            | (refine held_on 2 rfl (by kernel_rfl) (fun _ _ _ h => h) (by rfl) (by assumption) (v := ?_) ?_ ?_
               rotate_left
               · intro w hS; (try dsimp only at hS); first | (go_simp; done) | (go_simp; with_reducible rfl)
               try simp only [Act.put, List.setIfInBounds_toArray, List.set_cons_zero, List.set_cons_succ])
            | (refine held_off 2 rfl (by kernel_rfl) (fun _ _ _ h => h) (by rfl) (by assumption) ?_
               try simp only [Act.put, List.setIfInBounds_toArray, List.set_cons_zero, List.set_cons_succ])
            | (go_outline; fail "take 2")
          first
            | (refine held_on 3 rfl (by kernel_rfl) (fun _ _ _ h => h) (by rfl) (by assumption) (v := ?_) ?_ ?_
               rotate_left
               · intro w hS; (try dsimp only at hS); first | (go_simp; done) | (go_simp; with_reducible rfl)
               try simp only [Act.put, List.setIfInBounds_toArray, List.set_cons_zero, List.set_cons_succ])
            | (refine held_off 3 rfl (by kernel_rfl) (fun _ _ _ h => h) (by rfl) (by assumption) ?_
               try simp only [Act.put, List.setIfInBounds_toArray, List.set_cons_zero, List.set_cons_succ])
            | (go_outline; fail "take 3")
          first
            | (refine held_on 4 rfl (by kernel_rfl) (fun _ _ _ h => h) (by rfl) (by assumption) (v := ?_) ?_ ?_
               rotate_left
               · intro w hS; (try dsimp only at hS); first | (go_simp; done) | (go_simp; with_reducible rfl)
               try simp only [Act.put, List.setIfInBounds_toArray, List.set_cons_zero, List.set_cons_succ])
            | (refine held_off 4 rfl (by kernel_rfl) (fun _ _ _ h => h) (by rfl) (by assumption) ?_
               try simp only [Act.put, List.setIfInBounds_toArray, List.set_cons_zero, List.set_cons_succ])
            | (go_outline; fail "take 4")
          first
            | (refine held_on 5 rfl (by kernel_rfl) (fun _ _ _ h => h) (by rfl) (by assumption) (v := ?_) ?_ ?_
               rotate_left
               · intro w hS; (try dsimp only at hS); first | (go_simp; done) | (go_simp; with_reducible rfl)
               try simp only [Act.put, List.setIfInBounds_toArray, List.set_cons_zero, List.set_cons_succ])
            | (refine held_off 5 rfl (by kernel_rfl) (fun _ _ _ h => h) (by rfl) (by assumption) ?_
               try simp only [Act.put, List.setIfInBounds_toArray, List.set_cons_zero, List.set_cons_succ])
            | (go_outline; fail "take 5")
          first
            | (refine held_on 6 rfl (by kernel_rfl) (fun _ _ _ h => h) (by rfl) (by assumption) (v := ?_) ?_ ?_
               rotate_left
               · intro w hS; (try dsimp only at hS); first | (go_simp; done) | (go_simp; with_reducible rfl)
               try simp only [Act.put, List.setIfInBounds_toArray, List.set_cons_zero, List.set_cons_succ])
            | (refine held_off 6 rfl (by kernel_rfl) (fun _ _ _ h => h) (by rfl) (by assumption) ?_
               try simp only [Act.put, List.setIfInBounds_toArray, List.set_cons_zero, List.set_cons_succ])
            | (go_outline; fail "take 6")
          first
            | (refine held_on 7 rfl (by kernel_rfl) (fun _ _ _ h => h) (by rfl) (by assumption) (v := ?_) ?_ ?_
               rotate_left
               · intro w hS; (try dsimp only at hS); first | (go_simp; done) | (go_simp; with_reducible rfl)
               try simp only [Act.put, List.setIfInBounds_toArray, List.set_cons_zero, List.set_cons_succ])
            | (refine held_off 7 rfl (by kernel_rfl) (fun _ _ _ h => h) (by rfl) (by assumption) ?_
               try simp only [Act.put, List.setIfInBounds_toArray, List.set_cons_zero, List.set_cons_succ])
            | (go_outline; fail "take 7")
          refine held_load 8 rfl (by kernel_rfl) (fun _ _ _ h => h) (by rfl) (by assumption) rfl g2 ?_
          try simp only [Act.put, List.setIfInBounds_toArray, List.set_cons_zero, List.set_cons_succ]
          refine held_lookup 9 rfl (by kernel_rfl) (fun _ _ _ h => h) (by rfl) (by assumption) rfl rfl g3 ?_
          try simp only [Act.put, List.setIfInBounds_toArray, List.set_cons_zero, List.set_cons_succ]
          first
            | (refine held_on 10 rfl (by kernel_rfl) (fun _ _ _ h => h) (by rfl) (by assumption) (v := ?_) ?_ ?_
               rotate_left
               · intro w hS; (try dsimp only at hS); first | (go_simp; done) | (go_simp; with_reducible rfl)
               try simp only [Act.put, List.setIfInBounds_toArray, List.set_cons_zero, List.set_cons_succ])
            | (refine held_off 10 rfl (by kernel_rfl) (fun _ _ _ h => h) (by rfl) (by assumption) ?_
               try simp only [Act.put, List.setIfInBounds_toArray, List.set_cons_zero, List.set_cons_succ])
            | (go_outline; fail "take 10")
          first
            | (refine held_on 11 rfl (by kernel_rfl) (fun _ _ _ h => h) (by rfl) (by assumption) (v := ?_) ?_ ?_
               rotate_left
               · intro w hS; (try dsimp only at hS); first | (go_simp; done) | (go_simp; with_reducible rfl)
               try simp only [Act.put, List.setIfInBounds_toArray, List.set_cons_zero, List.set_cons_succ])
            | (refine held_off 11 rfl (by kernel_rfl) (fun _ _ _ h => h) (by rfl) (by assumption) ?_
               try simp only [Act.put, List.setIfInBounds_toArray, List.set_cons_zero, List.set_cons_succ])
            | (go_outline; fail "take 11")
          first
            | (refine held_on 12 rfl (by kernel_rfl) (fun _ _ _ h => h) (by rfl) (by assumption) (v := ?_) ?_ ?_
               rotate_left
               · intro w hS; (try dsimp only at hS); first | (go_simp; done) | (go_simp; with_reducible rfl)
               try simp only [Act.put, List.setIfInBounds_toArray, List.set_cons_zero, List.set_cons_succ])
            | (refine held_off 12 rfl (by kernel_rfl) (fun _ _ _ h => h) (by rfl) (by assumption) ?_
               try simp only [Act.put, List.setIfInBounds_toArray, List.set_cons_zero, List.set_cons_succ])
            | (go_outline; fail "take 12")
          first
            | (refine held_on 13 rfl (by kernel_rfl) (fun _ _ _ h => h) (by rfl) (by assumption) (v := ?_) ?_ ?_
               rotate_left
               · intro w hS; (try dsimp only at hS); first | (go_simp; done) | (go_simp; with_reducible rfl)
               try simp only [Act.put, List.setIfInBounds_toArray, List.set_cons_zero, List.set_cons_succ])
            | (refine held_off 13 rfl (by kernel_rfl) (fun _ _ _ h => h) (by rfl) (by assumption) ?_
               try simp only [Act.put, List.setIfInBounds_toArray, List.set_cons_zero, List.set_cons_succ])
            | (go_outline; fail "take 13")
          first
            | (refine held_on 14 rfl (by kernel_rfl) (fun _ _ _ h => h) (by rfl) (by assumption) (v := ?_) ?_ ?_
               rotate_left
               · intro w hS; (try dsimp only at hS); first | (go_simp; done) | (go_simp; with_reducible rfl)
               try simp only [Act.put, List.setIfInBounds_toArray, List.set_cons_zero, List.set_cons_succ])
            | (refine held_off 14 rfl (by kernel_rfl) (fun _ _ _ h => h) (by rfl) (by assumption) ?_
               try simp only [Act.put, List.setIfInBounds_toArray, List.set_cons_zero, List.set_cons_succ])
            | (go_outline; fail "take 14")
          first
            | (refine held_on 15 rfl (by kernel_rfl) (fun _ _ _ h => h) (by rfl) (by assumption) (v := ?_) ?_ ?_
               rotate_left
               · intro w hS; (try dsimp only at hS); first | (go_simp; done) | (go_simp; with_reducible rfl)
               try simp only [Act.put, List.setIfInBounds_toArray, List.set_cons_zero, List.set_cons_succ])
            | (refine held_off 15 rfl (by kernel_rfl) (fun _ _ _ h => h) (by rfl) (by assumption) ?_
               try simp only [Act.put, List.setIfInBounds_toArray, List.set_cons_zero, List.set_cons_succ])
            | (go_outline; fail "take 15")
          first
            | (refine held_on 16 rfl (by kernel_rfl) (fun _ _ _ h => h) (by rfl) (by assumption) (v := ?_) ?_ ?_
               rotate_left
               · intro w hS; (try dsimp only at hS); first | (go_simp; done) | (go_simp; with_reducible rfl)
               try simp only [Act.put, List.setIfInBounds_toArray, List.set_cons_zero, List.set_cons_succ])
            | (refine held_off 16 rfl (by kernel_rfl) (fun _ _ _ h => h) (by rfl) (by assumption) ?_
               try simp only [Act.put, List.setIfInBounds_toArray, List.set_cons_zero, List.set_cons_succ])
            | (go_outline; fail "take 16")
          first
            | (refine held_on 17 rfl (by kernel_rfl) (fun _ _ _ h => h) (by rfl) (by assumption) (v := ?_) ?_ ?_
               rotate_left
               · intro w hS; (try dsimp only at hS); first | (go_simp; done) | (go_simp; with_reducible rfl)
               try simp only [Act.put, List.setIfInBounds_toArray, List.set_cons_zero, List.set_cons_succ])
            | (refine held_off 17 rfl (by kernel_rfl) (fun _ _ _ h => h) (by rfl) (by assumption) ?_
               try simp only [Act.put, List.setIfInBounds_toArray, List.set_cons_zero, List.set_cons_succ])
            | (go_outline; fail "take 17")
          refine held_load 18 rfl (by kernel_rfl) (fun _ _ _ h => h) (by rfl) (by assumption) rfl g2 ?_
          try simp only [Act.put, List.setIfInBounds_toArray, List.set_cons_zero, List.set_cons_succ]
          refine held_lookup 19 rfl (by kernel_rfl) (fun _ _ _ h => h) (by rfl) (by assumption) rfl rfl g3 ?_
          try simp only [Act.put, List.setIfInBounds_toArray, List.set_cons_zero, List.set_cons_succ]
          first
            | (refine held_on 20 rfl (by kernel_rfl) (fun _ _ _ h => h) (by rfl) (by assumption) (v := ?_) ?_ ?_
               rotate_left
               · intro w hS; (try dsimp only at hS); first | (go_simp; done) | (go_simp; with_reducible rfl)
               try simp only [Act.put, List.setIfInBounds_toArray, List.set_cons_zero, List.set_cons_succ])
            | (refine held_off 20 rfl (by kernel_rfl) (fun _ _ _ h => h) (by rfl) (by assumption) ?_
               try simp only [Act.put, List.setIfInBounds_toArray, List.set_cons_zero, List.set_cons_succ])
            | (go_outline; fail "take 20")
          first
            | (refine held_on 21 rfl (by kernel_rfl) (fun _ _ _ h => h) (by rfl) (by assumption) (v := ?_) ?_ ?_
               rotate_left
               · intro w hS; (try dsimp only at hS); first | (go_simp; done) | (go_simp; with_reducible rfl)
               try simp only [Act.put, List.setIfInBounds_toArray, List.set_cons_zero, List.set_cons_succ])
            | (refine held_off 21 rfl (by kernel_rfl) (fun _ _ _ h => h) (by rfl) (by assumption) ?_
               try simp only [Act.put, List.setIfInBounds_toArray, List.set_cons_zero, List.set_cons_succ])
            | (go_outline; fail "take 21")
          refine wpAnyH_done (by kernel_rfl) ?_ _
          go_wp2_with fail
          go_roundg (acts'.length - (k + 1))
          case measure => have := HX.out; omega
          case rel => exact ⟨k + 1, l', rm, by have := HX.out; omega, by go_num, ⟨HS3.out.upd (HU46.out.drewN _) (fun _ _ f => f), HM6.out.upd ((Upd.refl (fun _ => False) W6).drewN _) (fun f => f), HCNT.out, HREFS.out, HB3.out.trans ((HU46.out.drewN _).below HZ3.out (fun _ f => f.elim)), Nat.le_trans HZ3.out HU46.out.size⟩⟩
        · have hwc : wn = c.refs := by rw [HWN.out]; exact cnt_some hrr
          have hcr := HC.out.refs c (getC_key hrr).2
          have hcm := getC_key hrr
          have hwp : 0 < wn := by omega
          have hwd : decide (0 < wn) = true := decide_eq_true hwp
          have hw0 : (wn == 0) = false := by simpa using (by omega : ¬ wn = 0)
          have hwb : wn ≤ 200 := by have := HX.out; omega
          simp only [hkk] at hstep
          obtain ⟨rfl, rfl, hl'⟩ : false = g ∧ (0 : Int) = er ∧ _ = l' := by injection hstep with h1 h2; injection h2 with h2 h3; exact ⟨h1, h2, h3⟩
          clear hstep
          obtain ⟨d, hd⟩ : ∃ d : ChunkV, d = { c with place := a.place } := ⟨_, rfl⟩
          have hget : getC l' a.key = some d := by
            rw [← hl', getC_put, if_pos hcm.1, hd]
          have hcnt : Cnt (rm) l' := by
            rw [← hl']
            refine HC.out.cnt.keep (fun k => ?_)
            rw [cnt_put]
            split
            · rename_i e
              rw [← e, show ({ c with place := a.place } : ChunkV).key = a.key from hcm.1, cnt_some hrr]
            · rfl
          have hrefs : ∀ c ∈ l', 0 < c.refs ∧ c.refs ≤ (k + 1 : Nat) := by
            intro d hd
            rw [← hl'] at hd
            rcases mem_putC hd with rfl | hd
            · exact ⟨hcr.1, by have := hcr.2; push_cast; omega⟩
            · exact ⟨(HC.out.refs d hd).1, by have := (HC.out.refs d hd).2; push_cast; omega⟩
          have hdm := hrefs d (getC_key hget).2
          have hvl : d.cells.length = 37 := ChunkV.clen (HS3.out.good d (getC_key hget).2)
          have hdpos : decide (0 < d.refs) = true := decide_eq_true hdm.1
          have c36 := ChunkV.at36 (HS3.out.good d (getC_key hget).2)
          have hlk : (alook (rm) a.key.val).getD (.int .i64 0) = .int .i64 d.refs := by
            rw [hcnt a.key ha.key]
            unfold cnt
            rw [hget]
            rfl
          have HGET := Lib.hid hget; have HCNT := Lib.hid hcnt; have HREFS := Lib.hid hrefs; have HLK := Lib.hid hlk
          clear hget hcnt hrefs hlk hd hdm
          go_wp2_with (first
            | ((with_reducible change wpList _ _ _ (⟨_, Op.load _ _, _, _, _, _⟩ :: _) _ _); refine wpl_load rfl 32 _ rfl wr.heap.size 1 rfl a.key.cells _ (ActV.keyAt ha HR3.out) Try.underlying32 rfl (by rw [hkl]; kernel_rfl) ?_))
          refine (get_at HS3.out ha.key HGET.out).mono ?_
          rintro e w5 ⟨rfl, hu5⟩
          have HU5 := Lib.hid hu5; clear hu5
          go_wp2_with (first
            | ((with_reducible change wpList _ _ _ (⟨_, Op.store _ _ _, _, _, _, _⟩ :: _) _ _); refine wpList_store_mid rfl _ _ _ rfl w5.heap.size 0 d.cells.toArray rfl rfl (there_new w5 _ _ (by rw [List.size_toArray, hvl]; exact Nat.le_refl _)) (by simp only [List.size_toArray]; rw [hvl]; kernel_rfl) (all_oneCell_toArray ChunkV.one) ?_
               refine wpList_world fun W6 hW6 => ?_
               have h4 : W6.heap[w5.heap.size]? = some (.cells d.cells.toArray 41 (0, 0)) := by rw [hW6]; exact at_setAll (heap_alloc_last w5 _) (by rw [hvl]; rfl)
               have hu6 : Upd (fun _ => False) w5 W6 := by rw [hW6]; exact Upd.setCells (S := fun _ => False) (fun hg => absurd hg (Nat.lt_irrefl _)) _ _ ((Upd.refl _ w5).alloc _)
               have e36 : W6.cell? ⟨w5.heap.size, 36, none⟩ = some (.int .i64 d.refs) := by rw [cell_at h4, c36]
               have HU6 := Lib.hid hu6
               clear h4 hu6 hW6))
          have hu46 : Upd (fun _ => False) w3 W6 := HU5.out.trans HU6.out (fun _ _ f => f)
          have hm6 := HM3.out.upd hu46 (fun f => f)
          have hr6 := hu46.range HR3.out (fun f => f)
          refine wp_region_held_drew (S := fun w' => Upd (fun _ => False) W6 w') rfl (Upd.refl _ W6).drew (fun hHeld => ?_)
          have g2 : ∀ w', Upd (fun _ => False) W6 w' → (Instr.loadAt 32 (.pointer (some ⟨wr.heap.size, 1, none⟩))).run Try.prog w' = .ok a.key.val w' := fun w' hw => run_loadAt_mid w' _ 1 32 a.key.cells _ (hw.range (ActV.keyAt ha hr6) (fun f => f)) Try.underlying32 rfl (by rw [hkl]; kernel_rfl)
          have g3 : ∀ w', Upd (fun _ => False) W6 w' → (Instr.lookup 26 (.map (some r)) a.key.val false).run Try.prog w' = .ok (.int .i64 d.refs) w' := fun w' hw => by
            have := (hm6.upd hw (fun f => f)).look (t := 26) (c := false) keyedKey Try.underlying26 (z := .int .i64 0) (by kernel_rfl) HLIT.out
            rw [HLK.out] at this
            simpa using this
          have g4 : ∀ w', Upd (fun _ => False) W6 w' → w'.cell? ⟨w5.heap.size, 36, none⟩ = some (.int .i64 d.refs) := fun w' hw => hw.cell e36 (fun f => f)
          have HU46 := Lib.hid hu46; have HM6 := Lib.hid hm6
          clear hu46 hm6 hr6 e36
          first
            | (refine held_on 0 rfl (by kernel_rfl) (fun _ _ _ h => h) (by rfl) (by assumption) (v := ?_) ?_ ?_
               rotate_left
               · intro w hS; (try dsimp only at hS); first | (go_simp; done) | (go_simp; with_reducible rfl)
               try simp only [Act.put, List.setIfInBounds_toArray, List.set_cons_zero, List.set_cons_succ])
            | (refine held_off 0 rfl (by kernel_rfl) (fun _ _ _ h => h) (by rfl) (by assumption) ?_
               try simp only [Act.put, List.setIfInBounds_toArray, List.set_cons_zero, List.set_cons_succ])
            | (go_outline; fail "take 0")
          first
            | (refine held_on 1 rfl (by kernel_rfl) (fun _ _ _ h => h) (by rfl) (by assumption) (v := ?_) ?_ ?_
               rotate_left
               · intro w hS; (try dsimp only at hS); first | (go_simp; done) | (go_simp; with_reducible rfl)
               try simp only [Act.put, List.setIfInBounds_toArray, List.set_cons_zero, List.set_cons_succ])
            | (refine held_off 1 rfl (by kernel_rfl) (fun _ _ _ h => h) (by rfl) (by assumption) ?_
               try simp only [Act.put, List.setIfInBounds_toArray, List.set_cons_zero, List.set_cons_succ])
            | (go_outline; fail "take 1")
          first
            | (refine held_on 2 rfl (by kernel_rfl) (fun _ _ _ h => h) (by rfl) (by assumption) (v := ?_) ?_ ?_
               rotate_left
               · intro w hS; (try dsimp only at hS); first | (go_simp; done) | (go_simp; with_reducible rfl)
               try simp only [Act.put, List.setIfInBounds_toArray, List.set_cons_zero, List.set_cons_succ])
            | (refine held_off 2 rfl (by kernel_rfl) (fun _ _ _ h => h) (by rfl) (by assumption) ?_
               try simp only [Act.put, List.setIfInBounds_toArray, List.set_cons_zero, List.set_cons_succ])
            | (go_outline; fail "take 2")
          first
            | (refine held_on 3 rfl (by kernel_rfl) (fun _ _ _ h => h) (by rfl) (by assumption) (v := ?_) ?_ ?_
               rotate_left
               · intro w hS; (try dsimp only at hS); first | (go_simp; done) | (go_simp; with_reducible rfl)
               try simp only [Act.put, List.setIfInBounds_toArray, List.set_cons_zero, List.set_cons_succ])
            | (refine held_off 3 rfl (by kernel_rfl) (fun _ _ _ h => h) (by rfl) (by assumption) ?_
               try simp only [Act.put, List.setIfInBounds_toArray, List.set_cons_zero, List.set_cons_succ])
            | (go_outline; fail "take 3")
          first
            | (refine held_on 4 rfl (by kernel_rfl) (fun _ _ _ h => h) (by rfl) (by assumption) (v := ?_) ?_ ?_
               rotate_left
               · intro w hS; (try dsimp only at hS); first | (go_simp; done) | (go_simp; with_reducible rfl)
               try simp only [Act.put, List.setIfInBounds_toArray, List.set_cons_zero, List.set_cons_succ])
            | (refine held_off 4 rfl (by kernel_rfl) (fun _ _ _ h => h) (by rfl) (by assumption) ?_
               try simp only [Act.put, List.setIfInBounds_toArray, List.set_cons_zero, List.set_cons_succ])
            | (go_outline; fail "take 4")
          first
            | (refine held_on 5 rfl (by kernel_rfl) (fun _ _ _ h => h) (by rfl) (by assumption) (v := ?_) ?_ ?_
               rotate_left
               · intro w hS; (try dsimp only at hS); first | (go_simp; done) | (go_simp; with_reducible rfl)
               try simp only [Act.put, List.setIfInBounds_toArray, List.set_cons_zero, List.set_cons_succ])
            | (refine held_off 5 rfl (by kernel_rfl) (fun _ _ _ h => h) (by rfl) (by assumption) ?_
               try simp only [Act.put, List.setIfInBounds_toArray, List.set_cons_zero, List.set_cons_succ])
            | (go_outline; fail "take 5")
          first
            | (refine held_on 6 rfl (by kernel_rfl) (fun _ _ _ h => h) (by rfl) (by assumption) (v := ?_) ?_ ?_
               rotate_left
               · intro w hS; (try dsimp only at hS); first | (go_simp; done) | (go_simp; with_reducible rfl)
               try simp only [Act.put, List.setIfInBounds_toArray, List.set_cons_zero, List.set_cons_succ])
            | (refine held_off 6 rfl (by kernel_rfl) (fun _ _ _ h => h) (by rfl) (by assumption) ?_
               try simp only [Act.put, List.setIfInBounds_toArray, List.set_cons_zero, List.set_cons_succ])
            | (go_outline; fail "take 6")
          first
            | (refine held_on 7 rfl (by kernel_rfl) (fun _ _ _ h => h) (by rfl) (by assumption) (v := ?_) ?_ ?_
               rotate_left
               · intro w hS; (try dsimp only at hS); first | (go_simp; done) | (go_simp; with_reducible rfl)
               try simp only [Act.put, List.setIfInBounds_toArray, List.set_cons_zero, List.set_cons_succ])
            | (refine held_off 7 rfl (by kernel_rfl) (fun _ _ _ h => h) (by rfl) (by assumption) ?_
               try simp only [Act.put, List.setIfInBounds_toArray, List.set_cons_zero, List.set_cons_succ])
            | (go_outline; fail "take 7")
          refine held_load 8 rfl (by kernel_rfl) (fun _ _ _ h => h) (by rfl) (by assumption) rfl g2 ?_
          try simp only [Act.put, List.setIfInBounds_toArray, List.set_cons_zero, List.set_cons_succ]
          refine held_lookup 9 rfl (by kernel_rfl) (fun _ _ _ h => h) (by rfl) (by assumption) rfl rfl g3 ?_
          try simp only [Act.put, List.setIfInBounds_toArray, List.set_cons_zero, List.set_cons_succ]
          first
            | (refine held_on 10 rfl (by kernel_rfl) (fun _ _ _ h => h) (by rfl) (by assumption) (v := ?_) ?_ ?_
               rotate_left
               · intro w hS; (try dsimp only at hS); first | (go_simp; done) | (go_simp; with_reducible rfl)
               try simp only [Act.put, List.setIfInBounds_toArray, List.set_cons_zero, List.set_cons_succ])
            | (refine held_off 10 rfl (by kernel_rfl) (fun _ _ _ h => h) (by rfl) (by assumption) ?_
               try simp only [Act.put, List.setIfInBounds_toArray, List.set_cons_zero, List.set_cons_succ])
            | (go_outline; fail "take 10")
          first
            | (refine held_on 11 rfl (by kernel_rfl) (fun _ _ _ h => h) (by rfl) (by assumption) (v := ?_) ?_ ?_
               rotate_left
               · intro w hS; (try dsimp only at hS); first | (go_simp; done) | (go_simp; with_reducible rfl)
               try simp only [Act.put, List.setIfInBounds_toArray, List.set_cons_zero, List.set_cons_succ])
            | (refine held_off 11 rfl (by kernel_rfl) (fun _ _ _ h => h) (by rfl) (by assumption) ?_
               try simp only [Act.put, List.setIfInBounds_toArray, List.set_cons_zero, List.set_cons_succ])
            | (go_outline; fail "take 11")
          first
            | (refine held_on 12 rfl (by kernel_rfl) (fun _ _ _ h => h) (by rfl) (by assumption) (v := ?_) ?_ ?_
               rotate_left
               · intro w hS; (try dsimp only at hS); first | (go_simp; done) | (go_simp; with_reducible rfl)
               try simp only [Act.put, List.setIfInBounds_toArray, List.set_cons_zero, List.set_cons_succ])
            | (refine held_off 12 rfl (by kernel_rfl) (fun _ _ _ h => h) (by rfl) (by assumption) ?_
               try simp only [Act.put, List.setIfInBounds_toArray, List.set_cons_zero, List.set_cons_succ])
            | (go_outline; fail "take 12")
          first
            | (refine held_on 13 rfl (by kernel_rfl) (fun _ _ _ h => h) (by rfl) (by assumption) (v := ?_) ?_ ?_
               rotate_left
               · intro w hS; (try dsimp only at hS); first | (go_simp; done) | (go_simp; with_reducible rfl)
               try simp only [Act.put, List.setIfInBounds_toArray, List.set_cons_zero, List.set_cons_succ])
            | (refine held_off 13 rfl (by kernel_rfl) (fun _ _ _ h => h) (by rfl) (by assumption) ?_
               try simp only [Act.put, List.setIfInBounds_toArray, List.set_cons_zero, List.set_cons_succ])
            | (go_outline; fail "take 13")
          first
            | (refine held_on 14 rfl (by kernel_rfl) (fun _ _ _ h => h) (by rfl) (by assumption) (v := ?_) ?_ ?_
               rotate_left
               · intro w hS; (try dsimp only at hS); first | (go_simp; done) | (go_simp; with_reducible rfl)
               try simp only [Act.put, List.setIfInBounds_toArray, List.set_cons_zero, List.set_cons_succ])
            | (refine held_off 14 rfl (by kernel_rfl) (fun _ _ _ h => h) (by rfl) (by assumption) ?_
               try simp only [Act.put, List.setIfInBounds_toArray, List.set_cons_zero, List.set_cons_succ])
            | (go_outline; fail "take 14")
          first
            | (refine held_on 15 rfl (by kernel_rfl) (fun _ _ _ h => h) (by rfl) (by assumption) (v := ?_) ?_ ?_
               rotate_left
               · intro w hS; (try dsimp only at hS); first | (go_simp; done) | (go_simp; with_reducible rfl)
               try simp only [Act.put, List.setIfInBounds_toArray, List.set_cons_zero, List.set_cons_succ])
            | (refine held_off 15 rfl (by kernel_rfl) (fun _ _ _ h => h) (by rfl) (by assumption) ?_
               try simp only [Act.put, List.setIfInBounds_toArray, List.set_cons_zero, List.set_cons_succ])
            | (go_outline; fail "take 15")
          first
            | (refine held_on 16 rfl (by kernel_rfl) (fun _ _ _ h => h) (by rfl) (by assumption) (v := ?_) ?_ ?_
               rotate_left
               · intro w hS; (try dsimp only at hS); first | (go_simp; done) | (go_simp; with_reducible rfl)
               try simp only [Act.put, List.setIfInBounds_toArray, List.set_cons_zero, List.set_cons_succ])
            | (refine held_off 16 rfl (by kernel_rfl) (fun _ _ _ h => h) (by rfl) (by assumption) ?_
               try simp only [Act.put, List.setIfInBounds_toArray, List.set_cons_zero, List.set_cons_succ])
            | (go_outline; fail "take 16")
          first
            | (refine held_on 17 rfl (by kernel_rfl) (fun _ _ _ h => h) (by rfl) (by assumption) (v := ?_) ?_ ?_
               rotate_left
               · intro w hS; (try dsimp only at hS); first | (go_simp; done) | (go_simp; with_reducible rfl)
               try simp only [Act.put, List.setIfInBounds_toArray, List.set_cons_zero, List.set_cons_succ])
            | (refine held_off 17 rfl (by kernel_rfl) (fun _ _ _ h => h) (by rfl) (by assumption) ?_
               try simp only [Act.put, List.setIfInBounds_toArray, List.set_cons_zero, List.set_cons_succ])
            | (go_outline; fail "take 17")
          refine held_load 18 rfl (by kernel_rfl) (fun _ _ _ h => h) (by rfl) (by assumption) rfl g2 ?_
          try simp only [Act.put, List.setIfInBounds_toArray, List.set_cons_zero, List.set_cons_succ]
          refine held_lookup 19 rfl (by kernel_rfl) (fun _ _ _ h => h) (by rfl) (by assumption) rfl rfl g3 ?_
          try simp only [Act.put, List.setIfInBounds_toArray, List.set_cons_zero, List.set_cons_succ]
          first
            | (refine held_on 20 rfl (by kernel_rfl) (fun _ _ _ h => h) (by rfl) (by assumption) (v := ?_) ?_ ?_
               rotate_left
               · intro w hS; (try dsimp only at hS); first | (go_simp; done) | (go_simp; with_reducible rfl)
               try simp only [Act.put, List.setIfInBounds_toArray, List.set_cons_zero, List.set_cons_succ])
            | (refine held_off 20 rfl (by kernel_rfl) (fun _ _ _ h => h) (by rfl) (by assumption) ?_
               try simp only [Act.put, List.setIfInBounds_toArray, List.set_cons_zero, List.set_cons_succ])
            | (go_outline; fail "take 20")
          first
            | (refine held_on 21 rfl (by kernel_rfl) (fun _ _ _ h => h) (by rfl) (by assumption) (v := ?_) ?_ ?_
               rotate_left
               · intro w hS; (try dsimp only at hS); first | (go_simp; done) | (go_simp; with_reducible rfl)
               try simp only [Act.put, List.setIfInBounds_toArray, List.set_cons_zero, List.set_cons_succ])
            | (refine held_off 21 rfl (by kernel_rfl) (fun _ _ _ h => h) (by rfl) (by assumption) ?_
               try simp only [Act.put, List.setIfInBounds_toArray, List.set_cons_zero, List.set_cons_succ])
            | (go_outline; fail "take 21")
          refine wpAnyH_done (by kernel_rfl) ?_ _
          go_wp2_with fail
          go_roundg (acts'.length - (k + 1))
          case measure => have := HX.out; omega
          case rel => exact ⟨k + 1, l', rm, by have := HX.out; omega, by go_num, ⟨HS3.out.upd (HU46.out.drewN _) (fun _ _ f => f), HM6.out.upd ((Upd.refl (fun _ => False) W6).drewN _) (fun f => f), HCNT.out, HREFS.out, HB3.out.trans ((HU46.out.drewN _).below HZ3.out (fun _ f => f.elim)), Nat.le_trans HZ3.out HU46.out.size⟩⟩
    · have hb := HC.out.below
      have : ¬ ((k : Int) < (acts'.length : Int)) := by omega
      go_wp2_with fail
      go_ret
      exact ⟨rfl, hb⟩
end Go.Proofs.Ytpjdfnilhhknkaa.storeCounts

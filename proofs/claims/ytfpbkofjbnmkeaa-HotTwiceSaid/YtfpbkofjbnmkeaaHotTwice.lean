/- What this text proves: the walk of HotTwice. No conditions. -/
import Derived.Test.YtfpbkofjbnmkeaaHotActs
import Derived.Test.YtfpbkofjbnmkeaaRowKit
namespace Go.Proofs.Ytfpbkofjbnmkeaa.hotTwice
open Go Go.RowKit Go.Lib
open Go.Proofs Go.Proofs.Ytfpbkofjbnmkeaa
set_option linter.unusedVariables false
set_option linter.unusedSimpArgs false
/-- a stands with elements of S alone ahead of it. -/
def Ahead (h : Hot) (a : Int) (S : List Int) : Prop := ∃ ys zs, h.xs = ys ++ a :: zs ∧ ∀ y ∈ ys, y ∈ S
theorem keep_head {h : Hot} (hn : h.xs.Nodup) (hr : 1 ≤ h.room) (a : Int) (bs : List Int) : (∃ zs, (evict (keepH h a bs)).xs = a :: zs) ∧ (evict (keepH h a bs)).m a = some bs := by
  have hk : (keepH h a bs).m a = some bs := by
    show setM h.m a (some bs) a = some bs
    unfold setM
    rw [if_pos rfl]
  unfold evict
  split
  · rename_i d hd
    have hd' : (frontL h.xs a)[h.room.toNat]? = some d := hd
    have hne : d ≠ a := by
      intro e
      have hnd := nodup_frontL (a := a) hn
      have h0 : (frontL h.xs a)[0]? = some a := rfl
      rw [e] at hd'
      have := (List.getElem?_inj (by simp [frontL]) hnd).1 (h0.trans hd'.symm)
      omega
    refine ⟨⟨(h.xs.erase a).erase d, ?_⟩, ?_⟩
    · show (frontL h.xs a).erase d = _
      unfold frontL
      rw [List.erase_cons_tail (by simpa using fun e => hne e.symm)]
    · show setM (keepH h a bs).m d none a = some bs
      unfold setM
      rw [if_neg hne]
      exact hk
  · exact ⟨⟨_, rfl⟩, hk⟩
theorem twice_there {h : Hot} (g : h.Good) (hr : 1 ≤ h.room) (hk : 1 ≤ h.k) {a : Int} (hw : (Lit.int .u32 a).wf = true) {one two : List Int} (h1 : one.length ≤ 100000) : (∃ zs, (offerH (offerH h a one).2 a two).2.xs = a :: zs) ∧ (offerH (offerH h a one).2 a two).2.m a = some two := by
  have g1 := offer_good g hw h1
  have r1 := (offer_room h a one).1
  have main : (∃ bs, (offerH h a one).2.m a = some bs) ∨ ((offerH h a one).2.m a = none ∧ a ∈ (offerH h a one).2.gl) := by
    unfold offerH
    split
    · exact .inl ⟨one, (keep_head g.once hr a one).2⟩
    · rename_i hm
      split
      · exact .inl ⟨one, (keep_head (h := { h with gl := askList h.k h.gl a }) g.once hr a one).2⟩
      · rename_i hg
        refine .inr ⟨by simpa using hm, ?_⟩
        have hn : a ∉ h.gl := fun f => hg ⟨f, by omega⟩
        show a ∈ askList h.k h.gl a
        unfold askList
        rw [if_neg hn]
        have : 1 ≤ h.k.toNat := by omega
        obtain ⟨m, hm⟩ : ∃ m, h.k.toNat = m + 1 := ⟨h.k.toNat - 1, by omega⟩
        rw [hm, List.take_succ_cons]
        simp
  generalize (offerH h a one).2 = h' at *
  rcases main with ⟨bs, hb⟩ | ⟨hb, hgl⟩
  · unfold offerH
    rw [if_pos (by rw [hb]; rfl)]
    exact keep_head g1.once (by omega) a two
  · unfold offerH
    rw [if_neg (by rw [hb]; simp), if_pos ⟨hgl, by omega⟩]
    exact keep_head (h := { h' with gl := askList h'.k h'.gl a }) g1.once (by show 1 ≤ h'.room; omega) a two
theorem nodup_sub_len : ∀ {ys S : List Int}, ys.Nodup → (∀ y ∈ ys, y ∈ S) → ys.length ≤ S.length
  | [], _, _, _ => Nat.zero_le _
  | y :: ys, S, hn, hs => by
    have hy := hs y (by simp)
    have ih := nodup_sub_len (S := S.erase y) (List.nodup_cons.1 hn).2 (fun z hz => (List.mem_erase_of_ne (fun e : z = y => (List.nodup_cons.1 hn).1 (by rw [← e]; exact hz))).2 (hs z (by simp [hz])))
    rw [List.length_erase_of_mem hy] at ih
    have := List.length_pos_of_mem hy
    rw [List.length_cons]
    omega
theorem keep_ahead {h : Hot} (hnd : h.xs.Nodup) {a b : Int} (hb : b ≠ a) {S : List Int} (hA : Ahead h a S) (hS : b ∈ S) (hl : (S.length : Int) < h.room) (bs : List Int) : Ahead (evict (keepH h b bs)) a S ∧ (evict (keepH h b bs)).m a = h.m a := by
  obtain ⟨ys, zs, hx, hy⟩ := hA
  obtain ⟨ys', zs', hx', hy'⟩ : ∃ ys' zs', frontL h.xs b = ys' ++ a :: zs' ∧ ∀ y ∈ ys', y ∈ S := by
    unfold frontL
    rw [hx]
    by_cases hby : b ∈ ys
    · exact ⟨b :: ys.erase b, zs, by rw [List.erase_append_left _ hby]; rfl, fun y h => by
        rcases List.mem_cons.1 h with e | e
        · rw [e]; exact hS
        · exact hy y (List.mem_of_mem_erase e)⟩
    · exact ⟨b :: ys, zs.erase b, by rw [List.erase_append_right _ hby, List.erase_cons_tail (by simpa using fun e => hb e.symm)]; rfl, fun y h => by
        rcases List.mem_cons.1 h with e | e
        · rw [e]; exact hS
        · exact hy y e⟩
  have hnd' := nodup_frontL (a := b) hnd
  rw [hx'] at hnd'
  have hk : (keepH h b bs).m a = h.m a := by
    show setM h.m b (some bs) a = h.m a
    unfold setM
    rw [if_neg hb]
  have hylen := nodup_sub_len (List.nodup_append.1 hnd').1 hy'
  unfold evict
  split
  · rename_i d hd
    have hd' : (ys' ++ a :: zs')[h.room.toNat]? = some d := by rw [← hx']; exact hd
    rw [List.getElem?_append_right (by omega)] at hd'
    obtain ⟨q, hq⟩ : ∃ q, h.room.toNat - ys'.length = q + 1 := ⟨h.room.toNat - ys'.length - 1, by omega⟩
    rw [hq, List.getElem?_cons_succ] at hd'
    have hdz := List.mem_of_getElem? hd'
    have hda : d ≠ a := fun e => by
      have := (List.nodup_cons.1 (List.nodup_append.1 hnd').2.1).1
      exact this (e ▸ hdz)
    have hdy : d ∉ ys' := fun f => (List.nodup_append.1 hnd').2.2 d f d (List.mem_cons_of_mem _ hdz) rfl
    refine ⟨⟨ys', zs'.erase d, ?_, hy'⟩, ?_⟩
    · show (frontL h.xs b).erase d = _
      rw [hx', List.erase_append_right _ hdy, List.erase_cons_tail (by simpa using fun e => hda e.symm)]
    · show setM (keepH h b bs).m d none a = h.m a
      unfold setM
      rw [if_neg hda]
      exact hk
  · exact ⟨⟨ys', zs', hx', hy'⟩, hk⟩
theorem offer_ahead {h : Hot} (g : h.Good) {a b : Int} (hb : b ≠ a) {S : List Int} (hA : Ahead h a S) (hS : b ∈ S) (hl : (S.length : Int) < h.room) (bs : List Int) : Ahead (offerH h b bs).2 a S ∧ (offerH h b bs).2.m a = h.m a := by
  unfold offerH
  split
  · exact keep_ahead g.once hb hA hS hl bs
  · split
    · exact keep_ahead (h := { h with gl := askList h.k h.gl b }) g.once hb hA hS hl bs
    · exact ⟨hA, rfl⟩
/-- the k-th address behind. -/
abbrev nb (addr : Int) (k : Nat) : Int := (addr + (k : Int) + 1) % 4294967296
theorem nb_eq (addr : Int) (k : Nat) : nb addr k = (addr + k + 1) % 4294967296 := rfl
theorem nb_wf (addr : Int) (k : Nat) : (Lit.int .u32 (nb addr k)).wf = true := by
  rw [nb_eq]
  have h1 := Int.emod_nonneg (addr + k + 1) (by decide : (4294967296 : Int) ≠ 0)
  have h2 := Int.emod_lt_of_pos (addr + k + 1) (by decide : (0 : Int) < 4294967296)
  simp [Lit.wf, IntKind.min, IntKind.max, IntKind.signed, IntKind.bits]
  omega
theorem nb_ne {addr : Int} (ha : (Lit.int .u32 addr).wf = true) {k : Nat} (hk : k < 1000) : nb addr k ≠ addr := by
  rw [nb_eq]
  have := wf_u32 ha
  omega
def behind (addr : Int) (k : Nat) : List Int := (List.range k).map (nb addr)
set_option maxRecDepth 20000 in
set_option maxHeartbeats 8000000 in
theorem walk (room known : Int) (acts : List HAct) (v : Value) (addr : Int) (w : World) (hr0 : 0 ≤ room) (hr1 : room ≤ 255) (hk0 : 0 ≤ known) (hk1 : known ≤ 255)
    (hv : Reads w 3 v acts.length (acts.flatMap HAct.cells)) (hl : acts.length ≤ maxLen) (hg : ∀ a ∈ acts, a.Good w) (ha : (Lit.int .u32 addr).wf = true) :
    Calls Try.prog 3 #[.int .u8 room, .int .u8 known, v, .int .u32 addr] w fun e w' => e = .returned (.bool true) ∧ Below w.heap.size w w' := by
  obtain ⟨B, hB⟩ : ∃ B, B = w.heap.size := ⟨_, rfl⟩
  rw [← hB]
  have HV := Lib.hid hv; clear hv
  have HG := Lib.hid hg; clear hg
  obtain ⟨n, hn⟩ : ∃ n, n = room % 20 + 1 := ⟨_, rfl⟩
  obtain ⟨kk, hkk⟩ : ∃ kk, kk = known % 20 + 1 := ⟨_, rfl⟩
  have hnb : 1 ≤ n ∧ n ≤ 20 := by omega
  have hkb : 1 ≤ kk ∧ kk ≤ 20 := by omega
  obtain ⟨va, vc, hva⟩ := HV.out.len
  subst hva
  have HN := Lib.hid (And.intro hn hkk); clear hn hkk
  have HB := Lib.hid hB; clear hB
  go_enter Try.func3, Try.ntmps3
  go_wp2_with fail
  refine (shown_calls w).mono ?_
  rintro e w0 ⟨rfl, hu0⟩
  have HU0 := Lib.hid hu0; clear hu0
  go_wp2_with fail
  rw [← HN.out.1, ← HN.out.2]
  refine (new_in w0 n kk (by omega) (by omega) (by omega) (by omega)).mono ?_
  rintro e w1 ⟨b, rfl, I1⟩
  have HI1 := Lib.hid I1; clear I1
  go_wp2_with fail
  have hu01 : Upd (fun _ => False) w w1 := HU0.out.trans HI1.out.since (fun _ _ f => f)
  refine (few_calls w1 _ acts (HV.out.upd hu01 (fun _ _ f => f)) hl (fun a ha => (HG.out a ha).upd hu01)).mono ?_
  rintro e w2 ⟨v1, k0, rfl, hred, hk1', hk2, hbs, rfl⟩
  obtain ⟨acts', hacts⟩ : ∃ acts', acts' = acts.take k0 := ⟨_, rfl⟩
  have hlen : acts'.length = k0 := by rw [hacts, List.length_take]; omega
  rw [← hacts] at hred hbs
  rw [← hlen] at hred
  have HV2 : Hid (∀ W, Upd (fun _ => False) w W → Reads W 3 v1 acts'.length (acts'.flatMap HAct.cells)) := Lib.hid (fun W hW => hred W (HV.out.upd hW (fun _ _ f => f)))
  have hle : acts'.length ≤ 200 := by omega
  have HG2 : Hid (∀ a ∈ acts', a.Good w ∧ a.bs.length ≤ 20000) := Lib.hid (fun a ha => ⟨HG.out a (List.mem_of_mem_take (by rw [← hacts]; exact ha)), hbs a ha⟩)
  obtain ⟨va1, vc1, hva1⟩ := (hred w HV.out).len
  subst hva1
  clear hred hacts hlen HV HG hbs hk1' hk2 hu01
  go_wp2_with fail
  go_loopg [41] acts'.length (fun g i wr => ∃ (k : Nat) (h : Hot), k + g = acts'.length ∧ i = .int .i64 k ∧ Hid (InH w0 wr b h (fun _ => False) ∧ h.Good ∧ h.room = n ∧ h.k = kk))
  case atStart => exact ⟨0, _, by simp, rfl, Lib.hid ⟨HI1.out, new_good n kk (by omega) (by omega), rfl, rfl⟩⟩
  case round =>
    obtain ⟨k, h, hk, rfl, HC⟩ := hrel
    have hsince : Upd (fun _ => False) w wr := HU0.out.trans HC.out.1.since (fun _ _ f => f)
    have HSI := Lib.hid hsince; clear hsince
    by_cases hlt : k < acts'.length
    · obtain ⟨a, hak⟩ : ∃ a, acts'[k] = a := ⟨_, rfl⟩
      have hga := HG2.out a (by rw [← hak]; exact List.getElem_mem _)
      have hc := hacts_cells hlt hak
      obtain ⟨sa, sc, hsv⟩ := hga.1.reads.len
      rw [hsv] at hc
      have hrv : Reads w 1 (.slice sa a.bs.length sc) a.bs.length (By a.bs) := by rw [← hsv]; exact hga.1.reads
      have hlv : a.bs.length ≠ 0 → ∀ q, (Value.slice sa a.bs.length sc).ownBlock = some q → q < w.heap.size := by rw [← hsv]; exact hga.1.lt
      have HK := Lib.hid hc; have HX := Lib.hid hlt; have HGA := Lib.hid hga; have HRV := Lib.hid (And.intro hrv hlv)
      have hkd := wf_u8 hga.1.kind
      have HR : Hid (Reads wr 3 (.slice va1 acts'.length vc1) acts'.length (acts'.flatMap HAct.cells)) := Lib.hid (HV2.out wr HSI.out)
      clear hc hak hga hsv hrv hlv
      have h3 : a.kind % 3 = 0 ∨ a.kind % 3 = 1 ∨ a.kind % 3 = 2 := by omega
      rcases h3 with h3 | h3 | h3
      · go_wp2_with (first
          | ((with_reducible change wpList _ _ _ (⟨_, Op.indexAddr _ _ _, _, _, _, _⟩ :: _) _ _); refine wpl_indexg rfl _ _ _ rfl 32 3 Try.underlying22 sizeHAct (by decide) _ _ _ HR.out rfl k rfl HX.out ?_; intro bk off _ hcell; have c0 := hcell 0 _ HK.out.1; have c1 := hcell 1 _ HK.out.2.1; have c2 := hcell 2 _ HK.out.2.2; clear hcell; simp only [Nat.add_zero] at c0))
        refine calls_world fun W hW => ?_
        have huW : Upd (fun _ => False) wr W := by rw [hW]; exact (Upd.refl _ wr).alloc _
        have HUW := Lib.hid huW
        clear hW huW
        refine (offer_in (HC.out.1.upd HUW.out) HC.out.2.1 a.addr HGA.out.1.addr (HRV.out.1.upd (HSI.out.trans HUW.out (fun _ _ f => f)) (fun _ _ f => f)) (fun h0 q hq => .inl (Nat.lt_of_lt_of_le (HRV.out.2 h0 q hq) HU0.out.size)) (by have := HGA.out.2; omega)).mono ?_
        rintro e w3 ⟨rfl, I3, _⟩
        have HI3 := Lib.hid (show InH w0 w3 b (offerH h a.addr a.bs).2 (fun _ => False) ∧ (offerH h a.addr a.bs).2.Good ∧ (offerH h a.addr a.bs).2.room = n ∧ (offerH h a.addr a.bs).2.k = kk from ⟨I3, offer_good HC.out.2.1 HGA.out.1.addr (by have := HGA.out.2; omega), (offer_room h a.addr a.bs).1.trans HC.out.2.2.1, (offer_room h a.addr a.bs).2.trans HC.out.2.2.2⟩)
        clear I3
        go_wp2_with fail
        go_roundg (acts'.length - (k + 1))
        case measure => have := HX.out; omega
        case rel => exact ⟨k + 1, _, by have := HX.out; omega, by go_num, HI3⟩
      · go_wp2_with (first
          | ((with_reducible change wpList _ _ _ (⟨_, Op.indexAddr _ _ _, _, _, _, _⟩ :: _) _ _); refine wpl_indexg rfl _ _ _ rfl 32 3 Try.underlying22 sizeHAct (by decide) _ _ _ HR.out rfl k rfl HX.out ?_; intro bk off _ hcell; have c0 := hcell 0 _ HK.out.1; have c1 := hcell 1 _ HK.out.2.1; have c2 := hcell 2 _ HK.out.2.2; clear hcell; simp only [Nat.add_zero] at c0))
        refine calls_world fun W hW => ?_
        have huW : Upd (fun _ => False) wr W := by rw [hW]; exact (Upd.refl _ wr).alloc _
        have HUW := Lib.hid huW
        clear hW huW
        cases hm : h.m a.addr with
        | none =>
          refine (getin_none (HC.out.1.upd HUW.out) a.addr HGA.out.1.addr hm).mono ?_
          rintro e w3 ⟨rfl, I3, _⟩
          have HI3 := Lib.hid (show InH w0 w3 b h (fun _ => False) ∧ h.Good ∧ h.room = n ∧ h.k = kk from ⟨I3, HC.out.2⟩)
          clear I3 hm
          go_wp2_with fail
          go_roundg (acts'.length - (k + 1))
          case measure => have := HX.out; omega
          case rel => exact ⟨k + 1, h, by have := HX.out; omega, by go_num, HI3⟩
        | some bs =>
          refine (getin_some (HC.out.1.upd HUW.out) HC.out.2.1 a.addr HGA.out.1.addr hm).mono ?_
          rintro e w3 ⟨v3, rfl, _, I3, _⟩
          have HI3 := Lib.hid (show InH w0 w3 b { h with xs := frontL h.xs a.addr } (fun _ => False) ∧ ({ h with xs := frontL h.xs a.addr } : Hot).Good ∧ h.room = n ∧ h.k = kk from ⟨I3.less (fun _ f => f.elim), front_good HC.out.2.1 ((HC.out.2.1.keys a.addr).2 (by rw [hm]; rfl)), HC.out.2.2⟩)
          clear I3 hm
          go_wp2_with fail
          go_roundg (acts'.length - (k + 1))
          case measure => have := HX.out; omega
          case rel => exact ⟨k + 1, _, by have := HX.out; omega, by go_num, HI3⟩
      · go_wp2_with (first
          | ((with_reducible change wpList _ _ _ (⟨_, Op.indexAddr _ _ _, _, _, _, _⟩ :: _) _ _); refine wpl_indexg rfl _ _ _ rfl 32 3 Try.underlying22 sizeHAct (by decide) _ _ _ HR.out rfl k rfl HX.out ?_; intro bk off _ hcell; have c0 := hcell 0 _ HK.out.1; have c1 := hcell 1 _ HK.out.2.1; have c2 := hcell 2 _ HK.out.2.2; clear hcell; simp only [Nat.add_zero] at c0))
        refine calls_world fun W hW => ?_
        have huW : Upd (fun _ => False) wr W := by rw [hW]; exact (Upd.refl _ wr).alloc _
        have HUW := Lib.hid huW
        clear hW huW
        refine (drop_in (HC.out.1.upd HUW.out) HC.out.2.1 a.addr HGA.out.1.addr).mono ?_
        rintro e w3 ⟨rfl, I3, _⟩
        have HI3 := Lib.hid (show InH w0 w3 b (dropH h a.addr) (fun _ => False) ∧ (dropH h a.addr).Good ∧ (dropH h a.addr).room = n ∧ (dropH h a.addr).k = kk from ⟨I3, drop_good' HC.out.2.1 a.addr, (drop_room h a.addr).1.trans HC.out.2.2.1, (drop_room h a.addr).2.trans HC.out.2.2.2⟩)
        clear I3
        go_wp2_with fail
        go_roundg (acts'.length - (k + 1))
        case measure => have := HX.out; omega
        case rel => exact ⟨k + 1, _, by have := HX.out; omega, by go_num, HI3⟩
    · have hnl : ¬ ((k : Int) < (acts'.length : Int)) := by omega
      have hc1 := run_convert_bytes_const (P := Try.prog) wr 30 5 #[.int .u8 111, .int .u8 110, .int .u8 101] 3 3 Try.underlying30 Try.underlying5
      go_wp2_with fail
      have J1 := HC.out.1.other (w' := wr.alloc (.cells #[.int .u8 111, .int .u8 110, .int .u8 101] 5 (3, 4))) ((Upd.refl _ wr).alloc _)
      refine (offer_in J1 HC.out.2.1 addr ha (reads_lit wr _ _ _ [111, 110, 101] rfl) (fun _ q hq => .inr (.inr (by rw [own_lit hq]; exact ⟨Nat.le_refl _, by rw [size_alloc]; omega⟩))) (by decide)).mono ?_
      rintro e w3 ⟨rfl, I3, _⟩
      obtain ⟨h1, hh1⟩ : ∃ h1, h1 = (offerH h addr [111, 110, 101]).2 := ⟨_, rfl⟩
      rw [← hh1] at I3
      have HI3 := Lib.hid (show InH w0 w3 b h1 (fun _ => False) ∧ h1.Good ∧ h1 = (offerH h addr [111, 110, 101]).2 from ⟨I3.less (fun _ f => f.elim), by rw [hh1]; exact offer_good HC.out.2.1 ha (by decide), hh1⟩)
      clear I3 J1 hc1 hh1
      have hc2 := run_convert_bytes_const (P := Try.prog) w3 30 5 #[.int .u8 116, .int .u8 119, .int .u8 111] 3 3 Try.underlying30 Try.underlying5
      go_wp2_with fail
      have J3 := HI3.out.1.other (w' := w3.alloc (.cells #[.int .u8 116, .int .u8 119, .int .u8 111] 5 (3, 4))) ((Upd.refl _ w3).alloc _)
      refine (offer_in J3 HI3.out.2.1 addr ha (reads_lit w3 _ _ _ [116, 119, 111] rfl) (fun _ q hq => .inr (.inr (by rw [own_lit hq]; exact ⟨Nat.le_refl _, by rw [size_alloc]; omega⟩))) (by decide)).mono ?_
      rintro e w4 ⟨rfl, I4, _⟩
      obtain ⟨h2, hh2⟩ : ∃ h2, h2 = (offerH h1 addr [116, 119, 111]).2 := ⟨_, rfl⟩
      rw [← hh2] at I4
      have htw := twice_there (two := [116, 119, 111]) HC.out.2.1 (by rw [HC.out.2.2.1]; omega) (by rw [HC.out.2.2.2]; omega) ha (one := [111, 110, 101]) (by decide)
      rw [← HI3.out.2.2, ← hh2] at htw
      have hrm : h2.room = n := by rw [hh2, (offer_room h1 addr _).1, HI3.out.2.2, (offer_room h addr _).1]; exact HC.out.2.2.1
      have HI4 := Lib.hid (show InH w0 w4 b h2 (fun _ => False) ∧ h2.Good ∧ h2.room = n ∧ h2.m addr = some [116, 119, 111] ∧ Ahead h2 addr (behind addr 0) from ⟨I4.less (fun _ f => f.elim), by rw [hh2]; exact offer_good HI3.out.2.1 ha (by decide), hrm, htw.2, by obtain ⟨zs, hz⟩ := htw.1; exact ⟨[], zs, hz, fun y hy => by simp at hy⟩⟩)
      clear I4 J3 hc2 hh2 htw hrm HI3 HC hnl
      go_wp2_with fail
      go_loopg [79] n.toNat (fun g i wz => ∃ (q : Nat) (h : Hot), q + g = n.toNat ∧ (q : Int) ≤ n - 1 ∧ i = .int .i64 q ∧ Hid (InH w0 wz b h (fun _ => False) ∧ h.Good ∧ h.room = n ∧ h.m addr = some [116, 119, 111] ∧ Ahead h addr (behind addr q)))
      case atStart => exact ⟨0, h2, by simp, by omega, rfl, HI4⟩
      case round =>
        obtain ⟨q, h5, hq, hqn, rfl, HQ⟩ := hrel
        by_cases hql : (q : Int) < n - 1
        · have hwq : IntKind.u32.wrap (q : Int) = q := by simp [IntKind.wrap, IntKind.bits, IntKind.signed]; omega
          have hnil : ∀ W, Reads W 1 (.slice none 0 0) 0 (By []) := fun W => ⟨rfl, .inl ⟨rfl, rfl⟩⟩
          have HNIL := Lib.hid hnil; clear hnil
          have hS : ((behind addr (q + 1)).length : Int) < h5.room := by rw [HQ.out.2.2.1]; simp [behind]; omega
          have hmem : nb addr q ∈ behind addr (q + 1) := List.mem_map.2 ⟨q, by simp, rfl⟩
          have hA0 : Ahead h5 addr (behind addr (q + 1)) := by
            obtain ⟨ys, zs, h1, h2⟩ := HQ.out.2.2.2.2
            refine ⟨ys, zs, h1, fun y hy => ?_⟩
            obtain ⟨x, hx, e⟩ := List.mem_map.1 (h2 y hy)
            exact List.mem_map.2 ⟨x, by simp at hx ⊢; omega, e⟩
          have hA1 := offer_ahead HQ.out.2.1 (nb_ne ha (k := q) (by omega)) hA0 hmem hS []
          have g1 := offer_good HQ.out.2.1 (nb_wf addr q) (bs := []) (by decide)
          have r1 := (offer_room h5 (nb addr q) []).1
          have hA2 := offer_ahead g1 (nb_ne ha (k := q) (by omega)) hA1.1 hmem (by rw [r1]; exact hS) []
          have g2 := offer_good g1 (nb_wf addr q) (bs := []) (by decide)
          have r2 := (offer_room (offerH h5 (nb addr q) []).2 (nb addr q) []).1
          have HA := Lib.hid (And.intro g1 (And.intro hA2 (And.intro g2 (And.intro (r2.trans (r1.trans HQ.out.2.2.1)) (hA2.2.trans (hA1.2.trans HQ.out.2.2.2.1))))))
          have HQL := Lib.hid (And.intro hq hql)
          clear hS hmem hA0 hA1 hA2 g1 g2 r1 r2
          go_wp2_with fail
          refine (offer_in HQ.out.1 HQ.out.2.1 (nb addr q) (nb_wf addr q) (HNIL.out _) (fun h0 => absurd rfl h0) (by decide)).mono ?_
          rintro e w5 ⟨rfl, I5, _⟩
          have HI5 := Lib.hid I5; clear I5
          go_wp2_with fail
          refine (offer_in HI5.out HA.out.1 (nb addr q) (nb_wf addr q) (HNIL.out _) (fun h0 => absurd rfl h0) (by decide)).mono ?_
          rintro e w6 ⟨rfl, I6, _⟩
          have HI6 := Lib.hid I6; clear I6
          go_wp2_with fail
          go_roundg (gk - 1)
          case measure => have := HQL.out; omega
          case rel => exact ⟨q + 1, _, by have := HQL.out; omega, by have := HQL.out; push_cast; omega, by go_num, Lib.hid ⟨HI6.out, HA.out.2.2.1, HA.out.2.2.2.1, HA.out.2.2.2.2, HA.out.2.1.1⟩⟩
        · go_wp2_with fail
          refine (getin_some HQ.out.1 HQ.out.2.1 addr ha HQ.out.2.2.2.1).mono ?_
          rintro e w7 ⟨v7, rfl, ho7, I7, _⟩
          obtain ⟨a7, c7, hv7⟩ := (owns_reads ho7).len
          subst hv7
          have hcv : (convert 30 9 (.slice a7 3 c7)).run Try.prog w7 = .ok (.string ⟨#[116, 119, 111]⟩) w7 := conv_string (owns_reads ho7)
          have HI7 := Lib.hid I7.since
          clear ho7 I7
          go_wp2_with fail
          go_ret
          have hb0 : Below B w w0 := HU0.out.below (by rw [HB.out]; exact Nat.le_refl _) (fun _ f => f.elim)
          exact ⟨rfl, hb0.trans (HI7.out.below (by rw [HB.out]; exact HU0.out.size) (fun _ f => f.elim))⟩
end Go.Proofs.Ytfpbkofjbnmkeaa.hotTwice

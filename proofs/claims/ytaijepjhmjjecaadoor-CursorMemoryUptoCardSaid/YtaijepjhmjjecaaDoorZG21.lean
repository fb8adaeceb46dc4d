/- Merged: CurFW, CurA, CurOpn, REncode, PhR. -/
import Derived.Test.YtaijepjhmjjecaaDoorZG19
import Derived.Test.YtaijepjhmjjecaaDoorZG20
import Derived.Test.YtaijepjhmjjecaaDoorZG18
import Derived.Test.YtaijepjhmjjecaaDoorZPOpen
import Derived.Test.YtaijepjhmjjecaaDoorZG11
import Derived.Test.YtaijepjhmjjecaaDoorZG17
/- cursor: first. -/
namespace Go.Proofs.YtaijepjhmjjecaaDoor
set_option linter.unusedVariables false
open Go.ChangeShapes Go.WideShapes Go.ChangeAt Go.RowKit

theorem first_low {ps : List PostV} (ok : okV (-1) ps ∨ ps = []) {u : Nat} (hu : u ≤ ps.length) (t : Int) (j : Nat) (hj : j < ps.length) (h1 : u ≤ j) (h2 : j < max u (16 * (u / 16 + seekB ps (u / 16) ((ps.length + 15) / 16 - u / 16) t))) : ps[j].doc < t := by
  have ok : okV (-1) ps := by
    rcases ok with ok | ok
    · exact ok
    · subst ok; simp at hj
  obtain ⟨i1, i2, i3⟩ := takeW_range (fun i => decide (lastF ps (u / 16 + i) < t)) (fun i j hij h => by
    have h9 : lastF ps (u / 16 + j) < t := of_decide_eq_true h
    have h10 := lastF_mono ok (i := u / 16 + i) (j := u / 16 + j) (by omega)
    exact decide_eq_true (by omega)) ((ps.length + 15) / 16 - u / 16)
  change seekB ps (u / 16) ((ps.length + 15) / 16 - u / 16) t ≤ _ at i1
  refine first_blk ok hu (k := u / 16 + seekB ps (u / 16) ((ps.length + 15) / 16 - u / 16) t) (Nat.le_add_right _ _) (fun i h3 h4 h5 => ?_) (by omega) j hj h1 h2
  have h6 : lastF ps (u / 16 + (i - u / 16)) < t := of_decide_eq_true (i2 (i - u / 16) (by show i - u / 16 < seekB _ _ _ _; omega))
  rw [show u / 16 + (i - u / 16) = i by omega] at h6
  unfold lastF at h6
  rw [dif_pos h5] at h6
  exact h6
/-- What first answers and leaves. -/
def FirstP (w : World) (base q : Nat) (lp : Value) (ps : List PostV) (IM : List UInt8) (d : Int) (u mv : Nat) (told : Bool) (t : Int) (e : Ending) (w' : World) : Prop :=
  e = .returned (.int .i64 (firstU ps u t : Nat)) ∧ (∃ bk rv, CurB w' base q lp ps IM d u mv told bk rv) ∧ Eff (· = q) w w'
set_option maxRecDepth 100000 in
set_option maxHeartbeats 16000000 in
theorem first_any (w : World) (base q : Nat) (lp : Value) (ps : List PostV) (IM : List UInt8) (d : Int) (u mv : Nat) (told : Bool) (bk : Int) (rv : Value) (h : CurB w base q lp ps IM d u mv told bk rv) (hbz : base ≤ w.heap.size) (hu : u ≤ ps.length) (t : Int) (EA : Nat → Addr) (hS : Sent6 w EA) :
    Calls Tryd.prog 70 #[.pointer (some ⟨q, 0, none⟩), .int .i64 t] w (FirstP w base q lp ps IM d u mv told t) := by
  have hlk : (okV (-1) ps ∨ ps = []) ∧ ps.length ≤ 2000000 := by
    rcases h.ls with ⟨-, h9⟩ | ⟨_, _, _, _, _, _, hok⟩
    · subst h9; exact ⟨.inr rfl, by simp⟩
    · exact ⟨.inl hok.ok, hok.len⟩
  obtain ⟨hok, hlen⟩ := hlk
  have hq4 := (chp_flat _ ps (Nat.le_refl _)).2.2.2
  obtain ⟨n, hn⟩ : ∃ n, n = ps.length := ⟨_, rfl⟩
  -- the three boxes
  have hqw : q < w.heap.size := lt_of_heap h.blk
  have hb2 : Below w.heap.size w ((w.alloc (.cells #[.pointer (some ⟨q, 0, none⟩)] 34)).alloc (.cells #[.int .i64 t] 3)) := ((Below.refl _ _).alloc (Nat.le_refl _) _).alloc (by simp) _
  have c1 : ((w.alloc (.cells #[.pointer (some ⟨q, 0, none⟩)] 34)).alloc (.cells #[.int .i64 t] 3)).cell? ⟨w.heap.size, 0, none⟩ = some (.pointer (some ⟨q, 0, none⟩)) := blk_cell ((Below.heap_alloc _ _ _ (by simp)).trans (heap_alloc_new w _)) 0
  have c2 : ((w.alloc (.cells #[.pointer (some ⟨q, 0, none⟩)] 34)).alloc (.cells #[.int .i64 t] 3)).cell? ⟨w.heap.size + 1, 0, none⟩ = some (.int .i64 t) := by
    have := heap_alloc_new (w.alloc (.cells #[.pointer (some ⟨q, 0, none⟩)] 34)) (.cells #[.int .i64 t] 3); rw [World.size_alloc] at this; exact blk_cell this 0
  have hz2 : ((w.alloc (.cells #[.pointer (some ⟨q, 0, none⟩)] 34)).alloc (.cells #[.int .i64 t] 3)).heap.size = w.heap.size + 2 := by rw [World.size_alloc, World.size_alloc]
  have H := Lib.hid h
  have HS := Lib.hid hS
  have HB2 := Lib.hid hb2
  have HC1 := Lib.hid c1
  have HC2 := Lib.hid c2
  have HZ2 := Lib.hid hz2
  have HOK := Lib.hid hok
  have HQ4 := Lib.hid hq4
  clear h hS hb2 c1 c2 hz2 hok hq4
  go_enter Tryd.func70, Tryd.ntmps70
  go_upto_region 1 with fail
  generalize (w.alloc (.cells #[.pointer (some ⟨q, 0, none⟩)] 34)).alloc (.cells #[.int .i64 t] 3) = w2 at HB2 HC1 HC2 HZ2 ⊢
  obtain ⟨B, hB⟩ : ∃ B, w.heap.size = B := ⟨_, rfl⟩
  rw [hB] at HC1 HC2 HZ2 hqw ⊢
  have HBE := Lib.hid hB
  clear hB
  have h2 := H.out.below HB2.out (Nat.le_refl _)
  obtain ⟨pl, hpl⟩ : ∃ pl : Int, (u : Int) - 1 = pl := ⟨_, rfl⟩
  have hblk := h2.blk
  rw [hpl] at hblk
  have c1 := HC1.out
  have c3 : w2.cell? ⟨q, 3, none⟩ = some (.int .i64 pl) := blk_cell hblk 3
  have s0 : IntKind.i64.wrap (pl + 1) = (u : Int) := by rw [show pl + 1 = (u : Int) by omega]; exact IntWalk.i64_in _ (by omega)
  have D1 := docsC_q h2 n hn
  clear hblk hpl
  go_wp2
  go_quiet ((go_at_call 20; first | with_reducible exact quiet_left (D1 _) | with_reducible exact quiet_leftN (D1 _) | with_reducible exact quiet_leftNN (D1 _)))
  have hz3 : (w2.drewN nq).heap.size = B + 2 := HZ2.out
  have hb3 := below_drewN HB2.out nq
  have c1' : (w2.drewN nq).cell? ⟨B, 0, none⟩ = some (.pointer (some ⟨q, 0, none⟩)) := HC1.out
  have c2' : (w2.drewN nq).cell? ⟨B + 1, 0, none⟩ = some (.int .i64 t) := HC2.out
  generalize w2.drewN nq = w3 at hz3 hb3 c1' c2' ⊢
  clear c1 c3 s0 D1 h2 HC1 HC2 HZ2 HB2
  obtain ⟨fr, hfr⟩ : ∃ fr, u / 16 = fr := ⟨_, rfl⟩
  have E1 : (u : Int) / 16 = (fr : Int) := by omega
  have hfb : fr ≤ 2000000 := by omega
  have HFR := Lib.hid hfr
  clear hfr
  go_upto_region 3 with fail
  have hb4 := hb3.alloc hb3.size (.cells #[.int .i64 (fr : Nat)] 3)
  have hn4 := heap_alloc_new w3 (.cells #[.int .i64 (fr : Nat)] 3)
  have c14 := alloc_cell (.cells #[.int .i64 (fr : Nat)] 3) c1'
  have c24 := alloc_cell (.cells #[.int .i64 (fr : Nat)] 3) c2'
  rw [hz3] at hn4
  generalize w3.alloc (.cells #[.int .i64 (fr : Nat)] 3) = w4 at hb4 hn4 c14 c24 ⊢
  clear c1' c2' hb3 hz3 E1
  have h4 := H.out.below hb4 (Nat.le_refl _)
  obtain ⟨m, hm⟩ : ∃ m, (n + 15) / 16 - fr = m := ⟨_, rfl⟩
  obtain ⟨e, he⟩ : ∃ e, (n + 15) / 16 = e := ⟨_, rfl⟩
  have E1 : ((n : Int) + 15) / 16 = (e : Int) := by omega
  have E1b : ((n : Int) + 16 - 1) / 16 = (e : Int) := by omega
  have heb : e ≤ 2000000 := by omega
  have hfe : fr ≤ e := by have := HFR.out; omega
  have s1 : IntKind.i64.wrap ((e : Int) - (fr : Int)) = (m : Int) := by rw [show (e : Int) - (fr : Int) = (m : Int) by omega]; exact IntWalk.i64_in _ (by omega)
  have hmb : m ≤ 2000000 := by omega
  obtain ⟨b, hbe⟩ : ∃ b, seekB ps fr m t = b := ⟨_, rfl⟩
  have htw : b ≤ m ∧ (∀ i, i < b → decide (lastF ps (fr + i) < t) = true) ∧ (∀ i, b ≤ i → i < m → decide (lastF ps (fr + i) < t) = false) := by
    have h9 := takeW_range (fun i => decide (lastF ps (fr + i) < t)) (fun i j hij h => by
      have h9 : lastF ps (fr + j) < t := of_decide_eq_true h
      rcases HOK.out with ok | ok
      · have h10 := lastF_mono ok (i := fr + i) (j := fr + j) (by omega)
        exact decide_eq_true (by omega)
      · subst ok
        have e0 : ∀ k, lastF [] k = 0 := fun k => by unfold lastF; rw [dif_neg (by simp)]
        rw [e0] at h9
        exact decide_eq_true (by rw [e0]; exact h9)) m
    rw [show ((List.range m).takeWhile fun i => decide (lastF ps (fr + i) < t)).length = b from hbe] at h9
    exact h9
  obtain ⟨hbm, hlow, hhigh⟩ := htw
  have hC : ∀ W, Below w4.heap.size w4 W → Calls Tryd.prog 86 #[.int .i64 (m : Nat), .func (.func 87) #[] #[.pointer (some ⟨B, 0, none⟩), .pointer (some ⟨B + 2, 0, none⟩), .pointer (some ⟨B + 1, 0, none⟩)]] W fun e w' => e = .returned (.int .i64 (b : Nat)) ∧ Below w4.heap.size w4 w' := fun W hW =>
    search_s (fun W => Below w4.heap.size w4 W) 87 #[.pointer (some ⟨B, 0, none⟩), .pointer (some ⟨B + 2, 0, none⟩), .pointer (some ⟨B + 1, 0, none⟩)] m b (fun i => decide (t ≤ lastF ps (fr + i))) W hW (fun args w => by
      have h1 : Tryd.prog.funcs[(87 : Nat)]? = some Tryd.f87 := by kernel_rfl
      simp [callFunc, h1, mark]; first | rfl | (kernel_rfl)) (by omega)
      (fun W2 i hW2 hi => (firstc_any W2 base q lp ps IM d u mv told bk rv (h4.below hW2 (Nat.le_refl _)) B (B + 2) (B + 1) ((hW2.cell (p := ⟨B, 0, none⟩) (World.block_lt_of_cell? w4 _ c14)).trans c14) fr ((hW2.cell (p := ⟨B + 2, 0, none⟩) (World.block_lt_of_cell? w4 _ (blk_cell hn4 0))).trans (blk_cell hn4 0)) t ((hW2.cell (p := ⟨B + 1, 0, none⟩) (World.block_lt_of_cell? w4 _ c24)).trans c24) i (by rw [HQ4.out, ← hn]; omega)).mono (fun e w' ⟨h5, h6⟩ => ⟨h5, hW2.trans (h6.mono hW2.size)⟩))
      hbm (fun i hi => decide_eq_false (by have := of_decide_eq_true (hlow i hi); omega)) (fun i h5 h6 => decide_eq_true (by have := of_decide_eq_false (hhigh i h5 h6); omega))
  have HFB := Lib.hid (show ∀ (j : Nat) (hj : j < ps.length), u ≤ j → j < max u (16 * (fr + b)) → ps[j].doc < t from fun j hj h1 h2 => by
    have h9 := first_low HOK.out hu t j hj h1
    rw [HFR.out, ← hn, hm, hbe] at h9
    exact h9 h2)
  have HC := Lib.hid hC
  have H4 := Lib.hid h4
  have HB4 := Lib.hid hb4
  have c34 : w4.cell? ⟨B + 2, 0, none⟩ = some (.int .i64 (fr : Nat)) := blk_cell hn4 0
  have hmx : max (m : Int) 0 = (m : Int) := by omega
  have hmf : ∀ (fn : Fn) (first cap : Array Value) (w : World), (Instr.makeFunc fn first cap).run Tryd.prog w = .ok (.func fn first cap) w := fun _ _ _ _ => rfl
  have s2 : IntKind.i64.wrap ((fr : Int) + (b : Int)) = ((fr + b : Nat) : Int) := by rw [show (fr : Int) + (b : Int) = ((fr + b : Nat) : Int) by omega]; exact IntWalk.i64_in _ (by omega)
  have hbd : Below w4.heap.size w4 w4.drew := below_drewN (Below.refl _ _) 1
  have hkb : fr + b ≤ e := by omega
  have hc3 : ∀ W, Below w4.heap.size w4 W → W.cell? ⟨B, 0, none⟩ = some (.pointer (some ⟨q, 0, none⟩)) ∧ W.cell? ⟨B + 1, 0, none⟩ = some (.int .i64 t) ∧ W.cell? ⟨B + 2, 0, none⟩ = some (.int .i64 (fr : Nat)) := fun W hW =>
    ⟨(hW.cell (p := ⟨B, 0, none⟩) (World.block_lt_of_cell? w4 _ c14)).trans c14, (hW.cell (p := ⟨B + 1, 0, none⟩) (World.block_lt_of_cell? w4 _ c24)).trans c24, (hW.cell (p := ⟨B + 2, 0, none⟩) (World.block_lt_of_cell? w4 _ c34)).trans c34⟩
  have HC3 := Lib.hid hc3
  have HN := Lib.hid hn
  have hnl : n ≤ 2000000 := by omega
  clear hC h4 hb4 hlow hhigh hn4 hbe hm he hc3 hbm hn
  go_upto_region 4 with fail
  obtain ⟨kb, hkbe⟩ : ∃ kb, fr + b = kb := ⟨_, rfl⟩
  rw [hkbe] at s2 hkb
  have HKB := Lib.hid hkbe
  clear hkbe
  try simp only [E1b]
  go_cut [9] (fun s9 wx => s9 = .int .i64 (kb : Nat) ∧ Below w4.heap.size w4 wx)
  case first =>
    go_region_with ((go_at_call 86; (with_reducible refine (HC.out _ hbd).mono ?_); rintro e5 w5 ⟨rfl, hb5⟩; obtain ⟨k1, k2, k3⟩ := HC3.out w5 hb5))
    all_goals
      go_wp2
      go_meet
      refine ⟨?_, hb5⟩
      first
        | rfl
        | (rw [show (kb : Int) = (fr : Int) + (b : Int) by have := HKB.out; omega]; rfl)
        | (simp; have := HKB.out; omega)
  case rest =>
    obtain ⟨rfl, hb5⟩ := hcut
    rename_i wx
    obtain ⟨k1, k2, -⟩ := HC3.out _ hb5
    have hb45 := HB4.out.trans (hb5.mono HB4.out.size)
    have h5 := H.out.below hb45 (Nat.le_refl _)
    obtain ⟨kq, hkq⟩ : ∃ kq, 16 * kb = kq := ⟨_, rfl⟩
    obtain ⟨q0, hq0⟩ : ∃ q0, max u kq = q0 := ⟨_, rfl⟩
    have s3 : IntKind.i64.wrap ((kb : Int) * 16) = (kq : Int) := by rw [show (kb : Int) * 16 = (kq : Int) by omega]; exact IntWalk.i64_in _ (by omega)
    have m3 : max (u : Int) (kq : Int) = (q0 : Int) := by omega
    have hlow0 : ∀ (j : Nat) (hj : j < ps.length), u ≤ j → j < q0 → ps[j].doc < t := fun j hj h1 h2 => HFB.out j hj h1 (by rw [HKB.out, hkq, hq0]; exact h2)
    have hu0 : u ≤ q0 := by omega
    have HLOW := Lib.hid hlow0
    have H5 : RowKit.Hid (∃ bk rv, CurB _ base q lp ps IM d u mv told bk rv) := Lib.hid ⟨bk, rv, h5⟩
    have HE5 := Lib.hid (Eff.of_below hb45 (fun i => i = q))
    have hq0b : q0 ≤ 100000000 := by omega
    have HK1 := Lib.hid k1
    have HK2 := Lib.hid k2
    clear hlow0 hkq hq0 h5 hb5 hb45 k1 k2 HC HC3 H4 HB4 c14 c24 c34 E1 E1b s1 s2 hmx hbd
    go_wp2
    go_loopw [10] (fun s10 wr => ∃ g : Nat, s10 = .int .i64 (g : Nat) ∧ u ≤ g ∧ g ≤ 100000000 ∧ RowKit.Hid (∀ (j : Nat) (hj : j < ps.length), u ≤ j → j < g → ps[j].doc < t) ∧ RowKit.Hid (∃ bk rv, CurB wr base q lp ps IM d u mv told bk rv) ∧ RowKit.Hid (Eff (· = q) w wr) ∧ RowKit.Hid (wr.cell? ⟨B, 0, none⟩ = some (.pointer (some ⟨q, 0, none⟩))) ∧ RowKit.Hid (wr.cell? ⟨B + 1, 0, none⟩ = some (.int .i64 t))) (fun s10 _ => n - (intOf s10).toNat)
    case atStart => exact ⟨q0, rfl, hu0, hq0b, HLOW, H5, HE5, HK1, HK2⟩
    case round =>
      clear HLOW H5 HE5 HK1 HK2
      obtain ⟨g, rfl, hug, hgb, HLOW, HCB, HE, HK1, HK2⟩ := hrel
      by_cases hgn : g < n
      · have hgp : g < ps.length := by have := HN.out; omega
        obtain ⟨bk5, rv5, hcb⟩ := HCB.out
        have hfeq : (∀ h : g < ps.length, ¬ ps[g].doc < t) → firstU ps u t = g := fun h9 => firstU_eq hug (by omega) HLOW.out h9
        have hS5 := HS.out.effq HE.out hcb.lo hcb.hq
        have hb1 := below_drewN (Below.refl wr.heap.size wr) 1
        have C1 : Calls Tryd.prog 48 #[.pointer (some ⟨q, 0, none⟩), .int .i64 (g : Nat)] wr.drew (HereP wr.drew base q lp ps IM d u mv told bk5 rv5 ps[g]) := here_any (wr.drewN 1) base q lp ps IM d u mv told bk5 rv5 (hcb.below hb1 (Nat.le_refl _)) (Nat.le_trans hbz HE.out.size) g hgp EA (hS5.below hb1)
        have hlow2 : ps[g].doc < t → ∀ (j : Nat) (hj : j < ps.length), u ≤ j → j < g + 1 → ps[j].doc < t := fun h9 j hj h1 h2 => by
          rcases Nat.lt_or_eq_of_le (show j ≤ g by omega) with h10 | h10
          · exact HLOW.out j hj h1 h10
          · subst h10; exact h9
        have hfeq2 : ¬ ps[g].doc < t → firstU ps u t = g := fun h9 => hfeq (fun _ => h9)
        obtain ⟨x, hx⟩ : ∃ x, ps[g] = x := ⟨_, rfl⟩
        rw [hx] at C1 hlow2 hfeq2
        have k1 : wr.cell? ⟨B, 0, none⟩ = some (.pointer (some ⟨q, 0, none⟩)) := HK1.out
        have k2 : wr.cell? ⟨B + 1, 0, none⟩ = some (.int .i64 t) := HK2.out
        have i1 : (g : Int) < (n : Int) := by omega
        have hnb : ¬ (B = q) := by omega
        have hnb1 : ¬ (B + 1 = q) := by omega
        have hBw : ∀ W, Eff (· = q) wr.drew W → W.cell? ⟨B, 0, none⟩ = some (.pointer (some ⟨q, 0, none⟩)) ∧ W.cell? ⟨B + 1, 0, none⟩ = some (.int .i64 t) := fun W hW => ⟨hW.cell (p := ⟨B, 0, none⟩) hnb HK1.out, hW.cell (p := ⟨B + 1, 0, none⟩) hnb1 HK2.out⟩
        have HC1 := Lib.hid C1
        have HBW := Lib.hid hBw
        have HL2 := Lib.hid hlow2
        have HF2 := Lib.hid hfeq2
        have HED := Lib.hid (HE.out.drewN 1)
        by_cases hlt : x.doc < t
        · have t1 : decide (t ≤ x.doc) = false := decide_eq_false (by omega)
          have HL3 := Lib.hid (HL2.out hlt)
          clear hcb hfeq hS5 hb1 C1 hlow2 hfeq2 hx hBw hgp HLOW HCB HE HK1 HK2
          go_wp2
          go_region_with ((go_at_call 48; (with_reducible refine HC1.out.mono ?_); rintro e6 w6 ⟨A6, C6, rfl, -, ⟨bk6, rv6, h6, -⟩, he6⟩; obtain ⟨d1, d2⟩ := HBW.out w6 he6))
          all_goals
            have HCB6 : RowKit.Hid (∃ bk rv, CurB w6 base q lp ps IM d u mv told bk rv) := Lib.hid ⟨bk6, rv6, h6⟩
            have HE6 := Lib.hid (HED.out.trans he6 (fun i hi _ => hi))
            have HD1 := Lib.hid d1
            have HD2 := Lib.hid d2
            clear h6 he6 d1 d2
            go_wp2
            go_roundw
            case rel => exact ⟨g + 1, by go_num, by omega, by omega, HL3, HCB6, HE6, HD1, HD2⟩
            case measure => simp [intOf]; omega
        · have t1 : decide (t ≤ x.doc) = true := decide_eq_true (by omega)
          have HF3 := Lib.hid (HF2.out hlt)
          clear hcb hfeq hS5 hb1 C1 hlow2 hfeq2 hx hBw hgp HLOW HCB HE HK1 HK2
          go_wp2
          go_region_with ((go_at_call 48; (with_reducible refine HC1.out.mono ?_); rintro e6 w6 ⟨A6, C6, rfl, -, ⟨bk6, rv6, h6, -⟩, he6⟩; obtain ⟨d1, d2⟩ := HBW.out w6 he6))
          all_goals
            have HFIN := Lib.hid (show FirstP w base q lp ps IM d u mv told t (.returned (.int .i64 (g : Nat))) w6 from ⟨by rw [HF3.out], ⟨bk6, rv6, h6⟩, HED.out.trans he6 (fun i hi _ => hi)⟩)
            clear h6 he6 d1 d2
            go_wp2
            go_ret
            exact HFIN.out
      · have i1 : ¬ ((g : Int) < (n : Int)) := by omega
        have hfe : firstU ps u t = n := by
          have hnn := HN.out
          rw [hnn]
          exact firstU_eq hu (Nat.le_refl _) (fun j hj h1 h2 => HLOW.out j hj h1 (by omega)) (fun h9 => absurd h9 (Nat.lt_irrefl _))
        have HFIN := Lib.hid (show FirstP w base q lp ps IM d u mv told t (.returned (.int .i64 (n : Nat))) wr from ⟨by rw [hfe], HCB.out, HE.out⟩)
        clear HLOW HCB HE HK1 HK2 hfe
        go_wp2
        go_ret
        exact HFIN.out
end Go.Proofs.YtaijepjhmjjecaaDoor

/- cursor: Advance. -/
namespace Go.Proofs.YtaijepjhmjjecaaDoor
set_option linter.unusedVariables false
open Go.ChangeShapes Go.WideShapes Go.ChangeAt Go.RowKit

/-- Does Advance stay? -/
def stayU (ps : List PostV) (u : Nat) (t : Int) : Prop := t ≤ docU ps u ∨ u = ps.length + 1
instance (ps : List PostV) (u : Nat) (t : Int) : Decidable (stayU ps u t) := by unfold stayU; exact inferInstance
set_option maxRecDepth 100000 in
set_option maxHeartbeats 4000000 in
theorem adv_any (w : World) (base q : Nat) (lp : Value) (ps : List PostV) (IM : List UInt8) (u mv : Nat) (told : Bool) (h : CurAt w base q lp ps IM u mv told) (hbz : base ≤ w.heap.size) (hmv : mv ≤ 1000000000000000) (t : Int) (EA : Nat → Addr) (hS : Sent6 w EA) :
    Calls Tryd.prog 34 #[.pointer (some ⟨q, 0, none⟩), .int .i64 t] w (CurPost w base q lp ps IM (if stayU ps u t then u else firstU ps u t + 1) (if stayU ps u t then mv else mv + costU u (firstU ps u t) ps.length) (if stayU ps u t then told else false) (.int .i64 (docU ps (if stayU ps u t then u else firstU ps u t + 1)))) := by
  obtain ⟨hl1, -, hl3⟩ := h.lens
  obtain ⟨bk, rv, hc⟩ := h
  obtain ⟨n, hn⟩ : ∃ n, n = ps.length := ⟨_, rfl⟩
  have D1 := docsC_q hc n hn
  obtain ⟨pl, hpl⟩ : ∃ pl : Int, (u : Int) - 1 = pl := ⟨_, rfl⟩
  have hblk := hc.blk
  rw [hpl] at hblk
  have c0 : w.cell? ⟨q, 0, none⟩ = some (.int .i64 (docU ps u)) := blk_cell hblk 0
  have c3 : w.cell? ⟨q, 3, none⟩ = some (.int .i64 pl) := blk_cell hblk 3
  obtain ⟨dv, hdv⟩ : ∃ dv, docU ps u = dv := ⟨_, rfl⟩
  by_cases hst : stayU ps u t
  · simp only [if_pos hst]
    have HFIN : ∀ e : Nat, CurPost w base q lp ps IM u mv told (.int .i64 (docU ps u)) (.returned (.int .i64 dv)) (w.drewN e) := fun e => ⟨by rw [hdv], ⟨bk, rv, hc.below (below_drewN (Below.refl w.heap.size w) e) (Nat.le_refl _)⟩, (Eff.refl _ w).drewN e⟩
    have HF := Lib.hid HFIN
    unfold stayU at hst
    rw [hdv] at c0 hst
    by_cases h1 : t ≤ dv
    · have t1 : decide (t ≤ dv) = true := decide_eq_true h1
      clear hc hS HFIN hblk hpl hn hdv hst
      go_enter Tryd.func34, Tryd.ntmps34
      go_wp2
      go_quiet (fail)
      go_wp2
      go_ret
      exact HF.out _
    · have t1 : decide (t ≤ dv) = false := decide_eq_false h1
      have t2 : (pl == (n : Int)) = true := by simp; omega
      clear hc hS HFIN hblk hpl hn hdv hst
      go_enter Tryd.func34, Tryd.ntmps34
      go_wp2
      go_quiet ((go_at_call 20; first | with_reducible exact quiet_left (D1 _) | with_reducible exact quiet_leftN (D1 _) | with_reducible exact quiet_leftNN (D1 _)))
      go_wp2
      go_ret
      exact HF.out _
  · simp only [if_neg hst]
    have hu : u ≤ ps.length := by unfold stayU at hst; omega
    have t1 : decide (t ≤ dv) = false := decide_eq_false (by unfold stayU at hst; rw [hdv] at hst; omega)
    have t2 : (pl == (n : Int)) = false := beq_false_of_ne (by omega)
    rw [hdv] at c0
    have C2 : ∀ e : Nat, Calls Tryd.prog 70 #[.pointer (some ⟨q, 0, none⟩), .int .i64 t] (w.drewN e) (FirstP (w.drewN e) base q lp ps IM (docU ps u) u mv told t) := fun e => by
      have hb := below_drewN (Below.refl w.heap.size w) e
      exact first_any (w.drewN e) base q lp ps IM (docU ps u) u mv told bk rv (hc.below hb (Nat.le_refl _)) hbz hu t EA (hS.below hb)
    obtain ⟨g, hg⟩ : ∃ g, firstU ps u t = g := ⟨_, rfl⟩
    have hg1 : u ≤ g := by rw [← hg]; exact firstU_ge ps u t
    have hg2 : g ≤ ps.length := by rw [← hg]; exact firstU_le t hu
    have C3 : ∀ (W : World) (bk2 : Int) (rv2 : Value), CurB W base q lp ps IM (docU ps u) u mv told bk2 rv2 → Eff (· = q) w W → Calls Tryd.prog 47 #[.pointer (some ⟨q, 0, none⟩), .int .i64 (g : Nat)] W (CurPost W base q lp ps IM (g + 1) (mv + costU u g ps.length) false (.int .i64 (docU ps (g + 1)))) := fun W bk2 rv2 hW heW =>
      goto_any W base q lp ps IM (docU ps u) u mv told bk2 rv2 hW (Nat.le_trans hbz heW.size) hu g hg1 hg2 hl1 hmv EA (hS.effq heW hc.lo hc.hq)
    unfold FirstP at C2
    simp only [hg] at C2 ⊢
    have HC2 := Lib.hid C2
    have HC3 := Lib.hid C3
    clear hc hS hblk hpl hn hst C2 C3 hg hg1 hg2 hdv hl1 hl3 hu
    go_enter Tryd.func34, Tryd.ntmps34
    go_wp2
    go_quiet ((go_at_call 20; first | with_reducible exact quiet_left (D1 _) | with_reducible exact quiet_leftN (D1 _) | with_reducible exact quiet_leftNN (D1 _)))
    have C4 := HC2.out nq
    have hE : Eff (· = q) w (w.drewN nq) := (Eff.refl _ w).drewN nq
    have HE := Lib.hid hE
    generalize w.drewN nq = w1 at C4 HE ⊢
    clear c3 c0 D1 HC2 hE
    go_wp2_with fail
    with_reducible refine C4.mono ?_
    rintro e w2 ⟨rfl, ⟨bk2, rv2, h2⟩, he2⟩
    clear C4 t1 t2
    have HE2 := Lib.hid (HE.out.trans he2 (fun i hi _ => hi))
    have C5 := HC3.out w2 bk2 rv2 h2 HE2.out
    clear h2 he2 HC3
    go_wp2_with fail
    with_reducible refine C5.mono ?_
    rintro e w3 ⟨rfl, hat, he3⟩
    clear C5
    have HF := Lib.hid (show CurPost w base q lp ps IM (g + 1) (mv + costU u g ps.length) false (.int .i64 (docU ps (g + 1))) (.returned (.int .i64 (docU ps (g + 1)))) w3 from ⟨rfl, hat, HE2.out.trans he3 (fun i hi _ => hi)⟩)
    clear hat he3
    go_wp2
    go_ret
    exact HF.out
end Go.Proofs.YtaijepjhmjjecaaDoor

/- cursor: newCursor, Open, Empty. -/
namespace Go.Proofs.YtaijepjhmjjecaaDoor
set_option linter.unusedVariables false
open Go.ChangeShapes Go.WideShapes Go.ChangeAt Go.RowKit

theorem newc_any (w : World) (lp : Value) (hlp : ∃ a, lp = .pointer a) : Calls Tryd.prog 45 #[lp] w fun e w' => e = .returned (.pointer (some ⟨w.heap.size, 0, none⟩)) ∧ w' = w.alloc (.cells (curC (-1) 0 lp (-1) (-1) (.slice none 0 0) false) 67) := by
  obtain ⟨a, rfl⟩ := hlp
  go_enter Tryd.func45, Tryd.ntmps45
  go_wp2
  go_ret
  exact ⟨rfl, rfl⟩
/-- A cursor that stands ahead of the first. -/
theorem cur_new {w : World} {base : Nat} {lp : Value} {ps : List PostV} {IM : List UInt8} (hls : LsAt w base lp ps IM) (hb : base ≤ w.heap.size) (hlo : Low6 base) :
    CurAt (w.alloc (.cells (curC (-1) 0 lp (-1) (-1) (.slice none 0 0) false) 67)) base w.heap.size lp ps IM 0 0 false :=
  ⟨-1, .slice none 0 0, ⟨heap_alloc_new w _, hb, hlo, Nat.zero_le _, hls.below ((Below.refl _ _).alloc (Nat.le_refl _) _) (Nat.le_refl _), .inl rfl, ⟨_, _, _, rfl⟩⟩⟩
theorem lsOk_of {ps : List PostV} (ok : okV (-1) ps) (hf : FitP ps) (hl : ps.length ≤ 1048576) (hT : totalV ps ≤ 20000000) (him : (imageV ps).length ≤ 1000000000) : LsOk ps (imageV ps) :=
  ⟨ok, blkOk (openV_of ok hf (by omega) (by omega)) him, him, by omega, fun p hp => by have := (hf p hp).2.2; omega⟩
set_option maxRecDepth 100000 in
theorem copen_ok (w : World) (a : Option Addr) (nb cb : Nat) (ps : List PostV) (ok : okV (-1) ps) (hf : FitP ps) (hl : ps.length ≤ 1048576) (hT : totalV ps ≤ 20000000) (him : (imageV ps).length ≤ 1000000000) (hr : Rd w (.slice a nb cb) (bytesV (imageV ps))) (EA : Nat → Addr) (hS : Sent6 w EA) :
    Calls Tryd.prog 14 #[.slice a nb cb] w fun e w' => ∃ q pl, e = .returned (.tuple #[.pointer (some ⟨q, 0, none⟩), .nilIface]) ∧ CurAt w' w.heap.size q (.pointer (some ⟨pl, 0, none⟩)) ps (imageV ps) 0 0 false ∧ Below w.heap.size w w' := by
  have C1 := open_any w a nb cb (imageV ps) hr him EA hS
  have hop := openV_of ok hf (by omega) (by omega)
  have hlk := lsOk_of ok hf hl hT him
  have hlow := hS.low
  have HOP := Lib.hid hop
  have HLK := Lib.hid hlk
  have HLO := Lib.hid hlow
  clear hr hS hop hlk hlow hf ok
  go_enter Tryd.func14, Tryd.ntmps14
  go_wp2_with fail
  with_reducible refine C1.mono ?_
  rintro e w1 ⟨h1, -, hb1⟩
  clear C1
  obtain ⟨p, im, sv, rfl, hl1⟩ := h1 _ HOP.out
  obtain ⟨sa, sc, rfl⟩ := hl1.sk.sl
  have hls : LsAt w1 w.heap.size (.pointer (some ⟨p, 0, none⟩)) ps (imageV ps) := .inr ⟨p, im, sa, sc, rfl, hl1, HLK.out⟩
  have C2 := newc_any w1 (.pointer (some ⟨p, 0, none⟩)) ⟨_, rfl⟩
  have HN := Lib.hid (cur_new hls hb1.size HLO.out)
  have HB := Lib.hid (hb1.alloc hb1.size (.cells (curC (-1) 0 (.pointer (some ⟨p, 0, none⟩)) (-1) (-1) (.slice none 0 0) false) 67))
  clear h1 hb1 hl1 hls
  go_wp2_with fail
  with_reducible refine C2.mono ?_
  rintro e w2 ⟨rfl, rfl⟩
  clear C2
  generalize w1.alloc (.cells (curC (-1) 0 (.pointer (some ⟨p, 0, none⟩)) (-1) (-1) (.slice none 0 0) false) 67) = w2 at HN HB ⊢
  go_wp2
  go_ret2
  exact ⟨_, p, rfl, HN.out, HB.out⟩
set_option maxRecDepth 100000 in
theorem copen_no (w : World) (a : Option Addr) (nb cb : Nat) (b : List UInt8) (hno : openV b = none) (him : b.length ≤ 1000000000) (hr : Rd w (.slice a nb cb) (bytesV b)) (EA : Nat → Addr) (hS : Sent6 w EA) :
    Calls Tryd.prog 14 #[.slice a nb cb] w fun e w' => e = .returned (.tuple #[.pointer none, errV EA 10]) ∧ Below w.heap.size w w' := by
  have C1 := open_any w a nb cb b hr him EA hS
  have HNO := Lib.hid hno
  clear hr hS hno
  go_enter Tryd.func14, Tryd.ntmps14
  go_wp2_with fail
  with_reducible refine C1.mono ?_
  rintro e w1 ⟨-, h1, hb1⟩
  clear C1
  obtain rfl := h1 HNO.out
  unfold errV
  have HB := Lib.hid hb1
  clear h1 hb1
  go_wp2
  go_ret2
  exact ⟨rfl, HB.out⟩
theorem cempty_any (w : World) (hlo : Low6 w.heap.size) : Calls Tryd.prog 26 #[] w fun e w' => ∃ q, e = .returned (.pointer (some ⟨q, 0, none⟩)) ∧ CurAt w' w.heap.size q (.pointer none) [] [] 0 0 false ∧ Below w.heap.size w w' := by
  have C2 := newc_any w (.pointer none) ⟨_, rfl⟩
  have HN := Lib.hid (cur_new (w := w) (base := w.heap.size) (lp := .pointer none) (ps := []) (IM := []) (.inl ⟨rfl, rfl⟩) (Nat.le_refl _) hlo)
  have HB := Lib.hid ((Below.refl w.heap.size w).alloc (Nat.le_refl _) (.cells (curC (-1) 0 (.pointer none) (-1) (-1) (.slice none 0 0) false) 67))
  go_enter Tryd.func26, Tryd.ntmps26
  go_wp2_with fail
  with_reducible refine C2.mono ?_
  rintro e w2 ⟨rfl, rfl⟩
  clear C2
  generalize w.alloc (.cells (curC (-1) 0 (.pointer none) (-1) (-1) (.slice none 0 0) false) 67) = w2 at HN HB ⊢
  go_wp2
  go_ret
  exact ⟨_, rfl, HN.out, HB.out⟩
end Go.Proofs.YtaijepjhmjjecaaDoor

/- posts: the document's Encode. -/
namespace Go.Proofs.YtaijepjhmjjecaaDoor
set_option linter.unusedVariables false
open Go.ChangeShapes Go.WideShapes Go.ChangeAt Go.RowKit

/-- What the document's Encode answers and leaves. -/
def REncPost (w : World) (ps : List PostV) (e : Ending) (w' : World) : Prop :=
  (okV (-1) ps → ∃ A N C, e = .returned (.tuple #[.slice A N C, .int .i64 0]) ∧ Own w' w.heap.size 5 (.slice A N C) (bytesV (imageV ps)) ∧ Below w.heap.size w w') ∧
  (¬ okV (-1) ps → e = .returned (.tuple #[.slice none 0 0, .int .i64 (checkV (-1) ps : Nat)]) ∧ Below w.heap.size w w')
theorem image_sk (ps : List PostV) (q : Nat) : imageV ps = ((uvar ps.length ++ uvar (totalV ps)) ++ hdS (-1) (skV (-1) q (chp ps))) ++ bodyV (blksV (-1) (chp ps)) := by
  rw [hdS_sk, imageV]; simp only [List.append_assoc]
set_option maxRecDepth 100000 in
set_option maxHeartbeats 8000000 in
theorem renc_any (w : World) (a : Option Addr) (n c : Nat) (ps : List PostV) (hr : RdPost w a n ps) (hnc : n ≤ c) (hf : FitP ps) (hl : ps.length ≤ 31000000) (hT : totalV ps ≤ 31000000) (EA : Nat → Addr) (hS : Sent6 w EA) :
    Calls Tryd.prog 21 #[.slice a n c] w (REncPost w ps) := by
  have E1 := rchk8_any w a n c ps hr hf (by omega) EA hS
  by_cases ok : okV (-1) ps
  · have hck : checkV (-1) ps = 0 := ok
    rw [hck] at E1
    obtain ⟨hHV, hBV⟩ := blks_le2 _ (-1) ps (Nat.le_refl _) hf ok (by omega) (by omega) (by omega)
    have hsl := sk_len_le _ (-1) 0 ps (Nat.le_refl _)
    have him := image_sk ps 0
    have HIM := Lib.hid him
    have HR := Lib.hid hr
    have HF := Lib.hid hf
    have HOK := Lib.hid ok
    clear hr hf him hS hck
    go_enter Tryd.func21, Tryd.ntmps21
    go_wp2_with fail
    with_reducible refine E1.mono ?_
    rintro e w1 ⟨rfl, hb1⟩
    clear E1
    have E2 := rskips_any w1 a n c ps (HR.out.below hb1 (Nat.le_refl _)) hnc HF.out HOK.out hl hT
    have HB1 := Lib.hid hb1
    clear hb1
    go_wp2_with fail
    with_reducible refine E2.mono ?_
    rintro e w2 ⟨A, N, C, A2, N2, C2, rfl, hs2, ho2, hb2⟩
    clear E2
    have hb12 := HB1.out.trans (hb2.mono HB1.out.size)
    have E3 := rhead_any w2 a n c ps (HR.out.below hb12 (Nat.le_refl _)) hl hT _ A N C _ hs2 (sk_ok _ (-1) 0 ps (Nat.le_refl _) HF.out HOK.out (by omega) hT) (by omega)
    obtain ⟨HD, hHD⟩ : ∃ HD, (uvar ps.length ++ uvar (totalV ps)) ++ hdS (-1) (skV (-1) 0 (chp ps)) = HD := ⟨_, rfl⟩
    rw [hHD] at E3
    have HS2 := Lib.hid hs2
    have HO2 := Lib.hid ho2
    have HB2 := Lib.hid hb12
    clear hs2 ho2 hb2 hb12
    go_wp2_with fail
    with_reducible refine E3.mono ?_
    rintro e w3 ⟨v3, rfl, ho3, hb3⟩
    clear E3
    obtain ⟨A3, N3, C3, rfl⟩ := own_sl ho3
    have hb23 := HB2.out.trans (hb3.mono HB2.out.size)
    have ho23 := HO2.out.below hb3 (Nat.le_refl _)
    have ho33 := own_base ho3 (base' := w.heap.size) HB2.out.size
    have hhd := hdS_le (-1) _ (sk_ok _ (-1) 0 ps (Nat.le_refl _) HF.out HOK.out (by omega) hT) (by omega)
    have u1 := (uvar_le ps.length (by omega)).2
    have u2 := (uvar_le (totalV ps) (by omega)).2
    have hl3 : (bytesV HD).length + (bytesV (bodyV (blksV (-1) (chp ps)))).length < 1000000000001 := by
      rw [bytesV_length, bytesV_length, ← hHD, List.length_append, List.length_append]; omega
    have hz3 := hb23.size
    have HO3 := Lib.hid ho33
    have HRD3 := Lib.hid ho23.rd
    have H1A := Lib.hid (bytesV_one (bodyV (blksV (-1) (chp ps))))
    have HL3 := Lib.hid hl3
    have HB3 := Lib.hid hb23
    clear ho33 ho23 ho3 hb3 hl3 hb23 hhd
    go_wp2_with (at_builtin; with_reducible refine apN elBytes HO3.out HRD3.out H1A.out HL3.out hz3 rfl _ _ rfl rfl rfl ?_)
    intro v4 w4 k1 k2 k3 k4
    have hb4 := HB3.out.grown k4 hz3 (fun k hk => (HO3.out.lt k hk).1)
    rw [← bytesV_append, ← hHD, ← HIM.out] at k1
    obtain ⟨A4, N4, C4, rfl⟩ := own_sl k1
    have HO4 := Lib.hid k1
    have HB4 := Lib.hid hb4
    clear k1 k2 k3 k4 hb4
    go_wp2
    go_ret2
    exact ⟨fun _ => ⟨_, _, _, rfl, HO4.out, HB4.out⟩, fun h => absurd HOK.out h⟩
  · obtain ⟨G, hG⟩ : ∃ G, checkV (-1) ps = G := ⟨_, rfl⟩
    have hg0 : G ≠ 0 := fun e => ok (hG.trans e)
    have t0 : ((G : Int) != 0) = true := by simp; omega
    have HG := Lib.hid hG
    rw [hG] at E1
    clear hr hf hS hG
    go_enter Tryd.func21, Tryd.ntmps21
    go_wp2_with fail
    with_reducible refine E1.mono ?_
    rintro e w1 ⟨rfl, hb1⟩
    clear E1
    have HB1 := Lib.hid hb1
    clear hb1 hg0
    go_wp2
    go_ret2
    exact ⟨fun h => absurd h ok, fun _ => ⟨by rw [HG.out]; rfl, HB1.out⟩⟩
end Go.Proofs.YtaijepjhmjjecaaDoor

/- The rules of the phrase's frequency, plain. No program occurs here. -/
namespace Go.Proofs.YtaijepjhmjjecaaDoor
set_option linter.unusedVariables false

theorem cntV_mono (S : List Int) (ms : List (List Int)) (s : Int) : cntV S ms s ≤ cntV S ms (s + 1) := by
  unfold cntV
  induction S with
  | nil => simp
  | cons b r ih =>
    rw [List.filter_cons, List.filter_cons]
    by_cases h : (ms.all fun l => hasIn l b (b + s)) = true
    · have h2 : (ms.all fun l => hasIn l b (b + (s + 1))) = true := by
        rw [List.all_eq_true] at h ⊢
        intro l hl
        obtain ⟨x, hx, h3, h4⟩ := hasIn_iff.1 (h l hl)
        exact hasIn_iff.2 ⟨x, hx, h3, by omega⟩
      rw [if_pos h, if_pos h2, List.length_cons, List.length_cons]; omega
    · rw [if_neg h]
      split
      · rw [List.length_cons]; omega
      · exact ih
theorem phOk_slop {ls : List (List Int)} {os : List Int} {s t : Int} (ht : 0 ≤ t ∧ t ≤ 2147483647) (h : phOk ls os s = true) : phOk ls os t = true := by
  unfold phOk at h ⊢
  simp only [Bool.and_eq_true, decide_eq_true_eq] at h ⊢
  exact ⟨⟨⟨h.1.1.1, ht.1⟩, ht.2⟩, h.2⟩
theorem phV_mono {ls : List (List Int)} {os : List Int} {s : Int} (h0 : 0 ≤ s) (h1 : s < 2147483647) : phV ls os s ≤ phV ls os (s + 1) := by
  unfold phV
  by_cases h : phOk ls os s = true
  · rw [if_pos h, if_pos (phOk_slop ⟨by omega, by omega⟩ h)]
    exact cntV_mono _ _ _
  · rw [if_neg h]; exact Nat.zero_le _
theorem movedV_append : ∀ (a b : List (List Int)) (x y : List Int), a.length = x.length → movedV (a ++ b) (x ++ y) = movedV a x ++ movedV b y
  | [], b, [], y, _ => rfl
  | l :: a, b, o :: x, y, h => by
    rw [List.cons_append, List.cons_append, movedV, movedV, movedV_append a b x y (by simpa using h)]; rfl
theorem movedV_rev : ∀ (ls : List (List Int)) (os : List Int), ls.length = os.length → movedV ls.reverse os.reverse = (movedV ls os).reverse
  | [], [], _ => rfl
  | l :: ls, o :: os, h => by
    rw [List.reverse_cons, List.reverse_cons, movedV_append _ _ _ _ (by simpa using h), movedV_rev ls os (by simpa using h)]
    simp [movedV]
theorem phOk_len {ls : List (List Int)} {os : List Int} {s : Int} (h : phOk ls os s = true) : ls.length = os.length := by
  unfold phOk at h
  simp only [Bool.and_eq_true, decide_eq_true_eq] at h
  exact h.1.1.1.2
theorem cntV_all {S : List Int} {ms ms' : List (List Int)} {s : Int} (h : ∀ l, l ∈ ms ↔ l ∈ ms') : cntV S ms s = cntV S ms' s := by
  unfold cntV
  congr 1
  refine List.filter_congr fun b _ => ?_
  rw [Bool.eq_iff_iff, List.all_eq_true, List.all_eq_true]
  exact ⟨fun h9 l hl => h9 l ((h l).2 hl), fun h9 l hl => h9 l ((h l).1 hl)⟩
theorem phV_rev (ls : List (List Int)) (os : List Int) (s : Int) : phV ls.reverse os.reverse s = phV ls os s := by
  have hok : phOk ls.reverse os.reverse s = phOk ls os s := by
    unfold phOk
    simp
  unfold phV
  rw [hok]
  by_cases h : phOk ls os s = true
  · rw [if_pos h, if_pos h, movedV_rev ls os (phOk_len h)]
    have e : riseOf (movedV ls os).reverse.flatten = riseOf (movedV ls os).flatten := riseOf_ext fun z => by simp
    rw [e]
    exact cntV_all fun l => List.mem_reverse
  · rw [if_neg h, if_neg h]
theorem shiftL_shift (o k : Int) (l : List Int) : shiftL (o + k) l = (shiftL o l).map (· - k) := by
  unfold shiftL
  rw [List.map_map]
  exact List.map_congr_left fun x _ => by simp; omega
theorem movedV_shift (k : Int) : ∀ (ls : List (List Int)) (os : List Int), movedV ls (os.map (· + k)) = (movedV ls os).map (List.map (· - k))
  | l :: ls, o :: os => by rw [List.map_cons, movedV, movedV, List.map_cons, movedV_shift k ls os, shiftL_shift]
  | [], _ => by simp [movedV]
  | _ :: _, [] => by simp [movedV]
theorem rise_map (k : Int) {l : List Int} (h : Rise l) : Rise (l.map (· - k)) := by
  unfold Rise
  rw [List.pairwise_map]
  exact h.imp fun {a b} hab => by omega
theorem cntV_shift (k : Int) (S : List Int) (ms : List (List Int)) (s : Int) : cntV (S.map (· - k)) (ms.map (List.map (· - k))) s = cntV S ms s := by
  unfold cntV
  rw [List.filter_map, List.length_map]
  congr 1
  refine List.filter_congr fun b _ => ?_
  simp only [Function.comp]
  rw [Bool.eq_iff_iff, List.all_eq_true, List.all_eq_true]
  constructor
  · intro h l hl
    obtain ⟨x, hx, h1, h2⟩ := hasIn_iff.1 (h _ (List.mem_map_of_mem hl))
    obtain ⟨y, hy, rfl⟩ := List.mem_map.1 hx
    exact hasIn_iff.2 ⟨y, hy, by omega, by omega⟩
  · intro h l hl
    obtain ⟨l', hl', rfl⟩ := List.mem_map.1 hl
    obtain ⟨y, hy, h1, h2⟩ := hasIn_iff.1 (h _ hl')
    exact hasIn_iff.2 ⟨y - k, List.mem_map_of_mem hy, by omega, by omega⟩
theorem phV_shift {ls : List (List Int)} {os : List Int} {s k : Int} (h : phOk ls os s = true) (h2 : phOk ls (os.map (· + k)) s = true) : phV ls (os.map (· + k)) s = phV ls os s := by
  unfold phV
  rw [if_pos h, if_pos h2, movedV_shift]
  have e : riseOf ((movedV ls os).map (List.map (· - k))).flatten = (riseOf (movedV ls os).flatten).map (· - k) := by
    refine rise_ext (riseOf_rise _) (rise_map k (riseOf_rise _)) fun z => ?_
    rw [riseOf_mem, List.mem_map]
    simp only [riseOf_mem, List.mem_flatten, List.mem_map]
    constructor
    · rintro ⟨l, ⟨l', hl', rfl⟩, hz⟩
      obtain ⟨y, hy, rfl⟩ := List.mem_map.1 hz
      exact ⟨y, ⟨l', hl', hy⟩, rfl⟩
    · rintro ⟨y, ⟨l', hl', hy⟩, rfl⟩
      exact ⟨_, ⟨l', hl', rfl⟩, List.mem_map_of_mem hy⟩
  rw [e, cntV_shift]
theorem riseOf_len_map (o : Int) (l : List Int) : (riseOf (shiftL o l)).length = (riseOf l).length := by
  have e : riseOf (shiftL o l) = (riseOf l).map (· - o) := by
    refine rise_ext (riseOf_rise _) (rise_map o (riseOf_rise _)) fun z => ?_
    rw [riseOf_mem, List.mem_map]
    unfold shiftL
    simp only [riseOf_mem, List.mem_map]
  rw [e, List.length_map]
/-- One list: how many unlike numbers it has. -/
theorem phV_one {l : List Int} {o s : Int} (h : phOk [l] [o] s = true) : phV [l] [o] s = (riseOf l).length := by
  have hs : 0 ≤ s := by
    unfold phOk at h
    simp only [Bool.and_eq_true, decide_eq_true_eq] at h
    exact h.1.1.2
  unfold phV
  rw [if_pos h]
  show cntV (riseOf (shiftL o l ++ [])) [shiftL o l] s = _
  rw [List.append_nil]
  unfold cntV
  rw [List.filter_eq_self.2 (fun b hb => ?_), riseOf_len_map]
  rw [List.all_eq_true]
  intro m hm
  rw [List.mem_singleton.1 hm]
  exact hasIn_iff.2 ⟨b, (riseOf_mem _ _).1 hb, by omega, by omega⟩
/-- The lists laid down once more. -/
def laidL (k : Int) : List (List Int) → List Int → List (List Int)
  | l :: ls, o :: os => (l ++ [100 + k + o]) :: laidL k ls os
  | _, _ => []
theorem laidL_moved (k : Int) : ∀ (ls : List (List Int)) (os : List Int), movedV (laidL k ls os) os = (movedV ls os).map (· ++ [100 + k])
  | l :: ls, o :: os => by
    rw [laidL, movedV, movedV, List.map_cons, laidL_moved k ls os]
    congr 1
    unfold shiftL
    rw [List.map_append]
    simp
  | [], [] => rfl
  | [], _ :: _ => rfl
  | _ :: _, [] => rfl
theorem phV_laid {ls : List (List Int)} {os : List Int} {k : Int} (h : phOk ls os 0 = true) (h2 : phOk (laidL k ls os) os 0 = true) (hlt : ∀ l ∈ movedV ls os, ∀ x ∈ l, x < 100 + k) : phV (laidL k ls os) os 0 = phV ls os 0 + 1 := by
  have hne : movedV ls os ≠ [] := fun e => by
    have hl := phOk_len h
    have h9 := movedV_length ls os hl
    rw [e] at h9
    have : ls = [] := List.eq_nil_of_length_eq_zero h9.symm
    unfold phOk at h
    simp [this] at h
  unfold phV
  rw [if_pos h, if_pos h2, laidL_moved]
  generalize movedV ls os = ms at *
  have e : riseOf (ms.map (· ++ [100 + k])).flatten = riseOf ms.flatten ++ [100 + k] := by
    refine rise_ext (riseOf_rise _) (List.pairwise_append.2 ⟨riseOf_rise _, List.pairwise_singleton _ _, fun x hx y hy => ?_⟩) fun z => ?_
    · rw [List.mem_singleton.1 hy]
      obtain ⟨l, hl, hx⟩ := List.mem_flatten.1 ((riseOf_mem _ _).1 hx)
      exact hlt l hl x hx
    · rw [riseOf_mem, List.mem_append, riseOf_mem, List.mem_singleton]
      simp only [List.mem_flatten, List.mem_map]
      constructor
      · rintro ⟨l, ⟨l', hl', rfl⟩, hz⟩
        rcases List.mem_append.1 hz with hz | hz
        · exact .inl ⟨l', hl', hz⟩
        · exact .inr (List.mem_singleton.1 hz)
      · rintro (⟨l, hl, hz⟩ | rfl)
        · exact ⟨_, ⟨l, hl, rfl⟩, List.mem_append_left _ hz⟩
        · cases ms with
          | nil => exact absurd rfl hne
          | cons l r => exact ⟨_, ⟨l, by simp, rfl⟩, by simp⟩
  rw [e]
  unfold cntV
  rw [List.filter_append, List.length_append]
  have hlast : (List.filter (fun b => (ms.map (· ++ [100 + k])).all fun l => hasIn l b (b + 0)) [100 + k]).length = 1 := by
    rw [List.filter_eq_self.2 (fun b hb => ?_)]
    · rfl
    · rw [List.mem_singleton.1 hb, List.all_eq_true]
      intro l hl
      obtain ⟨l', _, rfl⟩ := List.mem_map.1 hl
      exact hasIn_iff.2 ⟨100 + k, by simp, by omega, by omega⟩
  rw [hlast]
  congr 2
  refine List.filter_congr fun b hb => ?_
  obtain ⟨l0, hl0, hb0⟩ := List.mem_flatten.1 ((riseOf_mem _ _).1 hb)
  have hb1 := hlt l0 hl0 b hb0
  rw [Bool.eq_iff_iff, List.all_eq_true, List.all_eq_true]
  constructor
  · intro h9 l hl
    obtain ⟨x, hx, h3, h4⟩ := hasIn_iff.1 (h9 _ (List.mem_map_of_mem hl))
    rcases List.mem_append.1 hx with hx | hx
    · exact hasIn_iff.2 ⟨x, hx, h3, h4⟩
    · rw [List.mem_singleton.1 hx] at h4; omega
  · intro h9 l hl
    obtain ⟨l', hl', rfl⟩ := List.mem_map.1 hl
    obtain ⟨x, hx, h3, h4⟩ := hasIn_iff.1 (h9 _ hl')
    exact hasIn_iff.2 ⟨x, List.mem_append_left _ hx, h3, h4⟩
theorem phOk_mk {ls : List (List Int)} {os : List Int} {s : Int} (h1 : ls ≠ []) (h2 : ls.length = os.length) (h3 : 0 ≤ s) (h4 : s ≤ 2147483647) (h5 : ∀ o ∈ os, 0 ≤ o ∧ o ≤ 2147483646) (h6 : ∀ l ∈ ls, ∀ x ∈ l, 0 ≤ x ∧ x ≤ 2147483646) : phOk ls os s = true := by
  unfold phOk
  simp only [Bool.and_eq_true, decide_eq_true_eq, List.all_eq_true]
  exact ⟨⟨⟨⟨h1, h2⟩, h3⟩, h4⟩, fun o ho => okN_iff.2 (h5 o ho), fun l hl x hx => okN_iff.2 (h6 l hl x hx)⟩
end Go.Proofs.YtaijepjhmjjecaaDoor

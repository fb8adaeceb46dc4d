/- cursor: first. -/
import Derived.Test.YtaijepjhmjjecaaDoorZG21
import Derived.Test.YtaijepjhmjjecaaDoorZG22
namespace Go.Proofs.YtaijepjhmjjecaaDoor
set_option linter.unusedVariables false
open Go.ChangeShapes Go.WideShapes Go.ChangeAt Go.RowKit

theorem first_low {ps : List PostV} (ok : okV (-1) ps ∨ ps = []) {u : Nat} (hu : u ≤ ps.length) (t : Int) (j : Nat) (hj : j < ps.length) (h1 : u ≤ j) (h2 : j < max u (16 * (u / 16 + seekB ps (u / 16) ((ps.length + 15) / 16 - u / 16) t))) : ps[j].doc < t := by
  have ok : okV (-1) ps := by
    rcases ok with ok | ok
    · exact ok
    · subst ok; simp at hj
  obtain ⟨i1, i2, i3⟩ := takeW_range (fun i => decide (lastF ps (u / 16 + i) < t)) (fun i j hij h => by
    have h9 : lastF ps (u / 16 + j) < t := of_decide_eq_true h
    have h10 := lastF_mono ok (i := u / 16 + i) (j := u / 16 + j) (by omega)
    exact decide_eq_true (by omega)) ((ps.length + 15) / 16 - u / 16)
  change seekB ps (u / 16) ((ps.length + 15) / 16 - u / 16) t ≤ _ at i1
  refine first_blk ok hu (k := u / 16 + seekB ps (u / 16) ((ps.length + 15) / 16 - u / 16) t) (Nat.le_add_right _ _) (fun i h3 h4 h5 => ?_) (by omega) j hj h1 h2
  have h6 : lastF ps (u / 16 + (i - u / 16)) < t := of_decide_eq_true (i2 (i - u / 16) (by show i - u / 16 < seekB _ _ _ _; omega))
  rw [show u / 16 + (i - u / 16) = i by omega] at h6
  unfold lastF at h6
  rw [dif_pos h5] at h6
  exact h6
/-- What first answers and leaves. -/
def FirstP (w : World) (base q : Nat) (lp : Value) (ps : List PostV) (IM : List UInt8) (d : Int) (u mv : Nat) (told : Bool) (t : Int) (e : Ending) (w' : World) : Prop :=
  e = .returned (.int .i64 (firstU ps u t : Nat)) ∧ (∃ bk rv, CurB w' base q lp ps IM d u mv told bk rv) ∧ Eff (· = q) w w'
set_option maxRecDepth 100000 in
set_option maxHeartbeats 16000000 in
theorem first_any (w : World) (base q : Nat) (lp : Value) (ps : List PostV) (IM : List UInt8) (d : Int) (u mv : Nat) (told : Bool) (bk : Int) (rv : Value) (h : CurB w base q lp ps IM d u mv told bk rv) (hbz : base ≤ w.heap.size) (hu : u ≤ ps.length) (t : Int) (EA : Nat → Addr) (hS : Sent6 w EA) :
    Calls Tryd.prog 70 #[.pointer (some ⟨q, 0, none⟩), .int .i64 t] w (FirstP w base q lp ps IM d u mv told t) := by
  have hlk : (okV (-1) ps ∨ ps = []) ∧ ps.length ≤ 2000000 := by
    rcases h.ls with ⟨-, h9⟩ | ⟨_, _, _, _, _, _, hok⟩
    · subst h9; exact ⟨.inr rfl, by simp⟩
    · exact ⟨.inl hok.ok, hok.len⟩
  obtain ⟨hok, hlen⟩ := hlk
  have hq4 := (chp_flat _ ps (Nat.le_refl _)).2.2.2
  obtain ⟨n, hn⟩ : ∃ n, n = ps.length := ⟨_, rfl⟩
  -- the three boxes
  have hqw : q < w.heap.size := lt_of_heap h.blk
  have hb2 : Below w.heap.size w ((w.alloc (.cells #[.pointer (some ⟨q, 0, none⟩)] 34)).alloc (.cells #[.int .i64 t] 3)) := ((Below.refl _ _).alloc (Nat.le_refl _) _).alloc (by simp) _
  have c1 : ((w.alloc (.cells #[.pointer (some ⟨q, 0, none⟩)] 34)).alloc (.cells #[.int .i64 t] 3)).cell? ⟨w.heap.size, 0, none⟩ = some (.pointer (some ⟨q, 0, none⟩)) := blk_cell ((Below.heap_alloc _ _ _ (by simp)).trans (heap_alloc_new w _)) 0
  have c2 : ((w.alloc (.cells #[.pointer (some ⟨q, 0, none⟩)] 34)).alloc (.cells #[.int .i64 t] 3)).cell? ⟨w.heap.size + 1, 0, none⟩ = some (.int .i64 t) := by
    have := heap_alloc_new (w.alloc (.cells #[.pointer (some ⟨q, 0, none⟩)] 34)) (.cells #[.int .i64 t] 3); rw [World.size_alloc] at this; exact blk_cell this 0
  have hz2 : ((w.alloc (.cells #[.pointer (some ⟨q, 0, none⟩)] 34)).alloc (.cells #[.int .i64 t] 3)).heap.size = w.heap.size + 2 := by rw [World.size_alloc, World.size_alloc]
  have H := Lib.hid h
  have HS := Lib.hid hS
  have HB2 := Lib.hid hb2
  have HC1 := Lib.hid c1
  have HC2 := Lib.hid c2
  have HZ2 := Lib.hid hz2
  have HOK := Lib.hid hok
  have HQ4 := Lib.hid hq4
  clear h hS hb2 c1 c2 hz2 hok hq4
  go_enter Tryd.func70, Tryd.ntmps70
  go_upto_region 1 with fail
  generalize (w.alloc (.cells #[.pointer (some ⟨q, 0, none⟩)] 34)).alloc (.cells #[.int .i64 t] 3) = w2 at HB2 HC1 HC2 HZ2 ⊢
  obtain ⟨B, hB⟩ : ∃ B, w.heap.size = B := ⟨_, rfl⟩
  rw [hB] at HC1 HC2 HZ2 hqw ⊢
  have HBE := Lib.hid hB
  clear hB
  have h2 := H.out.below HB2.out (Nat.le_refl _)
  obtain ⟨pl, hpl⟩ : ∃ pl : Int, (u : Int) - 1 = pl := ⟨_, rfl⟩
  have hblk := h2.blk
  rw [hpl] at hblk
  have c1 := HC1.out
  have c3 : w2.cell? ⟨q, 3, none⟩ = some (.int .i64 pl) := blk_cell hblk 3
  have s0 : IntKind.i64.wrap (pl + 1) = (u : Int) := by rw [show pl + 1 = (u : Int) by omega]; exact IntWalk.i64_in _ (by omega)
  have D1 := docsC_q h2 n hn
  clear hblk hpl
  go_wp2
  go_quiet ((go_at_call 20; first | with_reducible exact quiet_left (D1 _) | with_reducible exact quiet_leftN (D1 _) | with_reducible exact quiet_leftNN (D1 _)))
  have hz3 : (w2.drewN nq).heap.size = B + 2 := HZ2.out
  have hb3 := below_drewN HB2.out nq
  have c1' : (w2.drewN nq).cell? ⟨B, 0, none⟩ = some (.pointer (some ⟨q, 0, none⟩)) := HC1.out
  have c2' : (w2.drewN nq).cell? ⟨B + 1, 0, none⟩ = some (.int .i64 t) := HC2.out
  generalize w2.drewN nq = w3 at hz3 hb3 c1' c2' ⊢
  clear c1 c3 s0 D1 h2 HC1 HC2 HZ2 HB2
  obtain ⟨fr, hfr⟩ : ∃ fr, u / 16 = fr := ⟨_, rfl⟩
  have E1 : (u : Int) / 16 = (fr : Int) := by omega
  have hfb : fr ≤ 2000000 := by omega
  have HFR := Lib.hid hfr
  clear hfr
  go_upto_region 3 with fail
  have hb4 := hb3.alloc hb3.size (.cells #[.int .i64 (fr : Nat)] 3)
  have hn4 := heap_alloc_new w3 (.cells #[.int .i64 (fr : Nat)] 3)
  have c14 := alloc_cell (.cells #[.int .i64 (fr : Nat)] 3) c1'
  have c24 := alloc_cell (.cells #[.int .i64 (fr : Nat)] 3) c2'
  rw [hz3] at hn4
  generalize w3.alloc (.cells #[.int .i64 (fr : Nat)] 3) = w4 at hb4 hn4 c14 c24 ⊢
  clear c1' c2' hb3 hz3 E1
  have h4 := H.out.below hb4 (Nat.le_refl _)
  obtain ⟨m, hm⟩ : ∃ m, (n + 15) / 16 - fr = m := ⟨_, rfl⟩
  obtain ⟨e, he⟩ : ∃ e, (n + 15) / 16 = e := ⟨_, rfl⟩
  have E1 : ((n : Int) + 15) / 16 = (e : Int) := by omega
  have E1b : ((n : Int) + 16 - 1) / 16 = (e : Int) := by omega
  have heb : e ≤ 2000000 := by omega
  have hfe : fr ≤ e := by have := HFR.out; omega
  have s1 : IntKind.i64.wrap ((e : Int) - (fr : Int)) = (m : Int) := by rw [show (e : Int) - (fr : Int) = (m : Int) by omega]; exact IntWalk.i64_in _ (by omega)
  have hmb : m ≤ 2000000 := by omega
  obtain ⟨b, hbe⟩ : ∃ b, seekB ps fr m t = b := ⟨_, rfl⟩
  have htw : b ≤ m ∧ (∀ i, i < b → decide (lastF ps (fr + i) < t) = true) ∧ (∀ i, b ≤ i → i < m → decide (lastF ps (fr + i) < t) = false) := by
    have h9 := takeW_range (fun i => decide (lastF ps (fr + i) < t)) (fun i j hij h => by
      have h9 : lastF ps (fr + j) < t := of_decide_eq_true h
      rcases HOK.out with ok | ok
      · have h10 := lastF_mono ok (i := fr + i) (j := fr + j) (by omega)
        exact decide_eq_true (by omega)
      · subst ok
        have e0 : ∀ k, lastF [] k = 0 := fun k => by unfold lastF; rw [dif_neg (by simp)]
        rw [e0] at h9
        exact decide_eq_true (by rw [e0]; exact h9)) m
    rw [show ((List.range m).takeWhile fun i => decide (lastF ps (fr + i) < t)).length = b from hbe] at h9
    exact h9
  obtain ⟨hbm, hlow, hhigh⟩ := htw
  have hC : ∀ W, Below w4.heap.size w4 W → Calls Tryd.prog 86 #[.int .i64 (m : Nat), .func (.func 87) #[] #[.pointer (some ⟨B, 0, none⟩), .pointer (some ⟨B + 2, 0, none⟩), .pointer (some ⟨B + 1, 0, none⟩)]] W fun e w' => e = .returned (.int .i64 (b : Nat)) ∧ Below w4.heap.size w4 w' := fun W hW =>
    search_s (fun W => Below w4.heap.size w4 W) 87 #[.pointer (some ⟨B, 0, none⟩), .pointer (some ⟨B + 2, 0, none⟩), .pointer (some ⟨B + 1, 0, none⟩)] m b (fun i => decide (t ≤ lastF ps (fr + i))) W hW (fun args w => by
      have h1 : Tryd.prog.funcs[(87 : Nat)]? = some Tryd.f87 := by kernel_rfl
      simp [callFunc, h1, mark]; first | rfl | (kernel_rfl)) (by omega)
      (fun W2 i hW2 hi => (firstc_any W2 base q lp ps IM d u mv told bk rv (h4.below hW2 (Nat.le_refl _)) B (B + 2) (B + 1) ((hW2.cell (p := ⟨B, 0, none⟩) (World.block_lt_of_cell? w4 _ c14)).trans c14) fr ((hW2.cell (p := ⟨B + 2, 0, none⟩) (World.block_lt_of_cell? w4 _ (blk_cell hn4 0))).trans (blk_cell hn4 0)) t ((hW2.cell (p := ⟨B + 1, 0, none⟩) (World.block_lt_of_cell? w4 _ c24)).trans c24) i (by rw [HQ4.out, ← hn]; omega)).mono (fun e w' ⟨h5, h6⟩ => ⟨h5, hW2.trans (h6.mono hW2.size)⟩))
      hbm (fun i hi => decide_eq_false (by have := of_decide_eq_true (hlow i hi); omega)) (fun i h5 h6 => decide_eq_true (by have := of_decide_eq_false (hhigh i h5 h6); omega))
  have HFB := Lib.hid (show ∀ (j : Nat) (hj : j < ps.length), u ≤ j → j < max u (16 * (fr + b)) → ps[j].doc < t from fun j hj h1 h2 => by
    have h9 := first_low HOK.out hu t j hj h1
    rw [HFR.out, ← hn, hm, hbe] at h9
    exact h9 h2)
  have HC := Lib.hid hC
  have H4 := Lib.hid h4
  have HB4 := Lib.hid hb4
  have c34 : w4.cell? ⟨B + 2, 0, none⟩ = some (.int .i64 (fr : Nat)) := blk_cell hn4 0
  have hmx : max (m : Int) 0 = (m : Int) := by omega
  have hmf : ∀ (fn : Fn) (first cap : Array Value) (w : World), (Instr.makeFunc fn first cap).run Tryd.prog w = .ok (.func fn first cap) w := fun _ _ _ _ => rfl
  have s2 : IntKind.i64.wrap ((fr : Int) + (b : Int)) = ((fr + b : Nat) : Int) := by rw [show (fr : Int) + (b : Int) = ((fr + b : Nat) : Int) by omega]; exact IntWalk.i64_in _ (by omega)
  have hbd : Below w4.heap.size w4 w4.drew := below_drewN (Below.refl _ _) 1
  have hkb : fr + b ≤ e := by omega
  have hc3 : ∀ W, Below w4.heap.size w4 W → W.cell? ⟨B, 0, none⟩ = some (.pointer (some ⟨q, 0, none⟩)) ∧ W.cell? ⟨B + 1, 0, none⟩ = some (.int .i64 t) ∧ W.cell? ⟨B + 2, 0, none⟩ = some (.int .i64 (fr : Nat)) := fun W hW =>
    ⟨(hW.cell (p := ⟨B, 0, none⟩) (World.block_lt_of_cell? w4 _ c14)).trans c14, (hW.cell (p := ⟨B + 1, 0, none⟩) (World.block_lt_of_cell? w4 _ c24)).trans c24, (hW.cell (p := ⟨B + 2, 0, none⟩) (World.block_lt_of_cell? w4 _ c34)).trans c34⟩
  have HC3 := Lib.hid hc3
  have HN := Lib.hid hn
  have hnl : n ≤ 2000000 := by omega
  clear hC h4 hb4 hlow hhigh hn4 hbe hm he hc3 hbm hn
  go_upto_region 4 with fail
  obtain ⟨kb, hkbe⟩ : ∃ kb, fr + b = kb := ⟨_, rfl⟩
  rw [hkbe] at s2 hkb
  have HKB := Lib.hid hkbe
  clear hkbe
  try simp only [E1b]
  go_cut [9] (fun s9 wx => s9 = .int .i64 (kb : Nat) ∧ Below w4.heap.size w4 wx)
  case first =>
    go_region_with ((go_at_call 86; (with_reducible refine (HC.out _ hbd).mono ?_); rintro e5 w5 ⟨rfl, hb5⟩; obtain ⟨k1, k2, k3⟩ := HC3.out w5 hb5))
    all_goals
      go_wp2
      go_meet
      refine ⟨?_, hb5⟩
      first
        | rfl
        | (rw [show (kb : Int) = (fr : Int) + (b : Int) by have := HKB.out; omega]; rfl)
        | (simp; have := HKB.out; omega)
  case rest =>
    obtain ⟨rfl, hb5⟩ := hcut
    rename_i wx
    obtain ⟨k1, k2, -⟩ := HC3.out _ hb5
    have hb45 := HB4.out.trans (hb5.mono HB4.out.size)
    have h5 := H.out.below hb45 (Nat.le_refl _)
    obtain ⟨kq, hkq⟩ : ∃ kq, 16 * kb = kq := ⟨_, rfl⟩
    obtain ⟨q0, hq0⟩ : ∃ q0, max u kq = q0 := ⟨_, rfl⟩
    have s3 : IntKind.i64.wrap ((kb : Int) * 16) = (kq : Int) := by rw [show (kb : Int) * 16 = (kq : Int) by omega]; exact IntWalk.i64_in _ (by omega)
    have m3 : max (u : Int) (kq : Int) = (q0 : Int) := by omega
    have hlow0 : ∀ (j : Nat) (hj : j < ps.length), u ≤ j → j < q0 → ps[j].doc < t := fun j hj h1 h2 => HFB.out j hj h1 (by rw [HKB.out, hkq, hq0]; exact h2)
    have hu0 : u ≤ q0 := by omega
    have HLOW := Lib.hid hlow0
    have H5 : RowKit.Hid (∃ bk rv, CurB _ base q lp ps IM d u mv told bk rv) := Lib.hid ⟨bk, rv, h5⟩
    have HE5 := Lib.hid (Eff.of_below hb45 (fun i => i = q))
    have hq0b : q0 ≤ 100000000 := by omega
    have HK1 := Lib.hid k1
    have HK2 := Lib.hid k2
    clear hlow0 hkq hq0 h5 hb5 hb45 k1 k2 HC HC3 H4 HB4 c14 c24 c34 E1 E1b s1 s2 hmx hbd
    go_wp2
    go_loopw [10] (fun s10 wr => ∃ g : Nat, s10 = .int .i64 (g : Nat) ∧ u ≤ g ∧ g ≤ 100000000 ∧ RowKit.Hid (∀ (j : Nat) (hj : j < ps.length), u ≤ j → j < g → ps[j].doc < t) ∧ RowKit.Hid (∃ bk rv, CurB wr base q lp ps IM d u mv told bk rv) ∧ RowKit.Hid (Eff (· = q) w wr) ∧ RowKit.Hid (wr.cell? ⟨B, 0, none⟩ = some (.pointer (some ⟨q, 0, none⟩))) ∧ RowKit.Hid (wr.cell? ⟨B + 1, 0, none⟩ = some (.int .i64 t))) (fun s10 _ => n - (intOf s10).toNat)
    case atStart => exact ⟨q0, rfl, hu0, hq0b, HLOW, H5, HE5, HK1, HK2⟩
    case round =>
      clear HLOW H5 HE5 HK1 HK2
      obtain ⟨g, rfl, hug, hgb, HLOW, HCB, HE, HK1, HK2⟩ := hrel
      by_cases hgn : g < n
      · have hgp : g < ps.length := by have := HN.out; omega
        obtain ⟨bk5, rv5, hcb⟩ := HCB.out
        have hfeq : (∀ h : g < ps.length, ¬ ps[g].doc < t) → firstU ps u t = g := fun h9 => firstU_eq hug (by omega) HLOW.out h9
        have hS5 := HS.out.effq HE.out hcb.lo hcb.hq
        have hb1 := below_drewN (Below.refl wr.heap.size wr) 1
        have C1 : Calls Tryd.prog 48 #[.pointer (some ⟨q, 0, none⟩), .int .i64 (g : Nat)] wr.drew (HereP wr.drew base q lp ps IM d u mv told bk5 rv5 ps[g]) := here_any (wr.drewN 1) base q lp ps IM d u mv told bk5 rv5 (hcb.below hb1 (Nat.le_refl _)) (Nat.le_trans hbz HE.out.size) g hgp EA (hS5.below hb1)
        have hlow2 : ps[g].doc < t → ∀ (j : Nat) (hj : j < ps.length), u ≤ j → j < g + 1 → ps[j].doc < t := fun h9 j hj h1 h2 => by
          rcases Nat.lt_or_eq_of_le (show j ≤ g by omega) with h10 | h10
          · exact HLOW.out j hj h1 h10
          · subst h10; exact h9
        have hfeq2 : ¬ ps[g].doc < t → firstU ps u t = g := fun h9 => hfeq (fun _ => h9)
        obtain ⟨x, hx⟩ : ∃ x, ps[g] = x := ⟨_, rfl⟩
        rw [hx] at C1 hlow2 hfeq2
        have k1 : wr.cell? ⟨B, 0, none⟩ = some (.pointer (some ⟨q, 0, none⟩)) := HK1.out
        have k2 : wr.cell? ⟨B + 1, 0, none⟩ = some (.int .i64 t) := HK2.out
        have i1 : (g : Int) < (n : Int) := by omega
        have hnb : ¬ (B = q) := by omega
        have hnb1 : ¬ (B + 1 = q) := by omega
        have hBw : ∀ W, Eff (· = q) wr.drew W → W.cell? ⟨B, 0, none⟩ = some (.pointer (some ⟨q, 0, none⟩)) ∧ W.cell? ⟨B + 1, 0, none⟩ = some (.int .i64 t) := fun W hW => ⟨hW.cell (p := ⟨B, 0, none⟩) hnb HK1.out, hW.cell (p := ⟨B + 1, 0, none⟩) hnb1 HK2.out⟩
        have HC1 := Lib.hid C1
        have HBW := Lib.hid hBw
        have HL2 := Lib.hid hlow2
        have HF2 := Lib.hid hfeq2
        have HED := Lib.hid (HE.out.drewN 1)
        by_cases hlt : x.doc < t
        · have t1 : decide (t ≤ x.doc) = false := decide_eq_false (by omega)
          have HL3 := Lib.hid (HL2.out hlt)
          clear hcb hfeq hS5 hb1 C1 hlow2 hfeq2 hx hBw hgp HLOW HCB HE HK1 HK2
          go_wp2
          go_region_with ((go_at_call 48; (with_reducible refine HC1.out.mono ?_); rintro e6 w6 ⟨A6, C6, rfl, -, ⟨bk6, rv6, h6, -⟩, he6⟩; obtain ⟨d1, d2⟩ := HBW.out w6 he6))
          all_goals
            have HCB6 : RowKit.Hid (∃ bk rv, CurB w6 base q lp ps IM d u mv told bk rv) := Lib.hid ⟨bk6, rv6, h6⟩
            have HE6 := Lib.hid (HED.out.trans he6 (fun i hi _ => hi))
            have HD1 := Lib.hid d1
            have HD2 := Lib.hid d2
            clear h6 he6 d1 d2
            go_wp2
            go_roundw
            case rel => exact ⟨g + 1, by go_num, by omega, by omega, HL3, HCB6, HE6, HD1, HD2⟩
            case measure => simp [intOf]; omega
        · have t1 : decide (t ≤ x.doc) = true := decide_eq_true (by omega)
          have HF3 := Lib.hid (HF2.out hlt)
          clear hcb hfeq hS5 hb1 C1 hlow2 hfeq2 hx hBw hgp HLOW HCB HE HK1 HK2
          go_wp2
          go_region_with ((go_at_call 48; (with_reducible refine HC1.out.mono ?_); rintro e6 w6 ⟨A6, C6, rfl, -, ⟨bk6, rv6, h6, -⟩, he6⟩; obtain ⟨d1, d2⟩ := HBW.out w6 he6))
          all_goals
            have HFIN := Lib.hid (show FirstP w base q lp ps IM d u mv told t (.returned (.int .i64 (g : Nat))) w6 from ⟨by rw [HF3.out], ⟨bk6, rv6, h6⟩, HED.out.trans he6 (fun i hi _ => hi)⟩)
            clear h6 he6 d1 d2
            go_wp2
            go_ret
            exact HFIN.out
      · have i1 : ¬ ((g : Int) < (n : Int)) := by omega
        have hfe : firstU ps u t = n := by
          have hnn := HN.out
          rw [hnn]
          exact firstU_eq hu (Nat.le_refl _) (fun j hj h1 h2 => HLOW.out j hj h1 (by omega)) (fun h9 => absurd h9 (Nat.lt_irrefl _))
        have HFIN := Lib.hid (show FirstP w base q lp ps IM d u mv told t (.returned (.int .i64 (n : Nat))) wr from ⟨by rw [hfe], HCB.out, HE.out⟩)
        clear HLOW HCB HE HK1 HK2 hfe
        go_wp2
        go_ret
        exact HFIN.out
end Go.Proofs.YtaijepjhmjjecaaDoor

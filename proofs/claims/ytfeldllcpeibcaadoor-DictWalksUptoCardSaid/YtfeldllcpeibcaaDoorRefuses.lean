/- DictRefuses: the walk. -/
import Derived.Test.YtfeldllcpeibcaaDoorRefusesP
import Derived.Test.YtfeldllcpeibcaaDoorFixed6
import Derived.Test.YtfeldllcpeibcaaDoorRowSet
import Derived.Test.YtfeldllcpeibcaaDoorRef6F
namespace Go.Proofs.YtfeldllcpeibcaaDoor
set_option linter.unusedVariables false
open Go.ChangeShapes Go.WideShapes Go.ChangeAt Go.RowKit

theorem image_most2 {l : List EntV} (h : l.length ≤ 2000000) (ok : ∀ e ∈ l, entOk e = true) : (imageB l).length ≤ 1000000000 := by
  obtain ⟨h1, h2⟩ := chk_most _ l (Nat.le_refl _) (by omega) ok
  have := (uvar_le l.length (by omega)).2
  unfold imageB
  rw [List.length_append, List.length_append]; omega
set_option maxRecDepth 100000 in
set_option maxHeartbeats 4000000 in
theorem dictRefuses_walk (W : World) (a : Option Addr) (n c : Nat) (ls : List ByteArray) (hr : Rd W (.slice a n c) (ls.map Value.string)) (hll : ls.length ≤ 1048576) (at_ : Int) (what : Int) (ha : -9223372036854775808 ≤ at_ ∧ at_ ≤ 9223372036854775807) (hw : -9223372036854775808 ≤ what ∧ what ≤ 9223372036854775807) (EA : Nat → Addr) (hS : Sent W EA) :
    Calls Tryd.prog 9 #[.slice a n c, .int .i64 at_, .int .i64 what] W fun e W' => e = .returned (.bool true) ∧ Below W.heap.size W W' := by
  have C1 := fixed_any W EA hS
  have HS := Lib.hid hS
  have HR := Lib.hid hr
  clear hS hr
  go_enter Tryd.func9, Tryd.ntmps9
  go_wp2_with fail
  refine C1.mono ?_
  rintro e w1 ⟨rfl, hb1⟩
  clear C1
  have C2 := sorted_any w1 a n c ls (HR.out.below hb1 (Nat.le_refl _)) (by omega)
  have HB1 := Lib.hid hb1
  clear hb1
  go_wp2_with fail
  refine C2.mono ?_
  rintro e w2 ⟨v, ks, rfl, ho, hok, hpw, hkl, hb2⟩
  clear C2
  have hb02 := HB1.out.trans (hb2.mono HB1.out.size)
  have hz12 : W.heap.size ≤ w1.heap.size := HB1.out.size
  have ho' : Own w2 W.heap.size 9 v (keysV ks) := by
    rcases ho with h | ⟨g, cap, cur, h1, h2, h3⟩
    · exact .inl h
    · exact .inr ⟨g, cap, cur, h1, by omega, h3⟩
  obtain ⟨A2, N2, C2, rfl⟩ := own_sl ho'
  have hn2 := ho'.len
  rw [keysV_length] at hn2
  subst hn2
  have HB2 := Lib.hid hb02
  have HO2 := Lib.hid ho'
  have HOK := Lib.hid hok
  have HPW := Lib.hid hpw
  clear hb2 hb02 ho ho' hok hpw hz12
  go_upto_if 21 with fail
  go_cut [7] (fun s7 wx => ∃ (ks' : List (List UInt8)) (A : Option Addr) (N C : Nat), s7 = .slice A N C ∧ N = ks'.length ∧ 0 < ks'.length ∧ ks'.length ≤ ls.length + 1 ∧ Own wx W.heap.size 9 (.slice A N C) (keysV ks') ∧ (∀ k ∈ ks', okKey k) ∧ ks'.Pairwise (fun x y => Go.Op.bytesLess x y = true) ∧ Below W.heap.size W wx)
  case first =>
    by_cases h0 : ks.length = 0
    · have hk0 : ks = [] := List.eq_nil_of_length_eq_zero h0
      subst hk0
      have hz := HB2.out.size
      have hb3 := HB2.out.alloc hz (.cells #[.string ⟨#[97]⟩] 9)
      have ho3 := own_lit w2 W.heap.size 9 (keysV [[97]]) hz (by simp [keysV, maxLen])
      have HB3 := Lib.hid hb3
      have HO3 := Lib.hid ho3
      clear h0 hb3 ho3 hz
      go_wp2
      all_goals go_meet
      all_goals exact ⟨[[97]], _, _, _, rfl, rfl, by decide, by simp, HO3.out, by simp [okKey], List.pairwise_singleton _ _, HB3.out⟩
    · have t0 : decide (ks.length = 0) = false := decide_eq_false h0
      go_wp2
      all_goals go_meet
      all_goals exact ⟨ks, A2, ks.length, C2, rfl, rfl, by omega, by omega, HO2.out, HOK.out, HPW.out, HB2.out⟩
  case rest =>
    obtain ⟨ks', A, N, C, rfl, rfl, hk0, hkl2, ho, hok, hpw, hb⟩ := hcut
    have HO := Lib.hid ho
    have HOK3 := Lib.hid hok
    have HPW3 := Lib.hid hpw
    have HB := Lib.hid hb
    clear ho hok hpw hb HO2 HOK HPW HB2 HB1
    go_wp2
    go_loopw [8, 25] (fun s8 s25 wr => ∃ (i : Nat) (A8 : Option Addr) (N8 C8 : Nat), s8 = .slice A8 N8 C8 ∧ s25 = .int .i64 i ∧ i ≤ ks'.length ∧ N8 = i ∧ RowE wr W.heap.size (.slice A8 N8 C8) (entsK (ks'.take i)) ∧ Own wr W.heap.size 9 (.slice A ks'.length C) (keysV ks') ∧ Below W.heap.size W wr) (fun _ s25 _ => ks'.length - (intOf s25).toNat)
    case atStart => exact ⟨0, none, 0, 0, rfl, rfl, Nat.zero_le _, rfl, rowE_nil _ _, HO.out, HB.out⟩
    case round =>
      clear HO HB
      obtain ⟨i, A8, N8, C8, rfl, rfl, hi, rfl, hrow, ho, hb⟩ := hrel
      by_cases hlt : N8 < ks'.length
      · obtain ⟨g, rfl⟩ := ho.someAt (by omega)
        have hx := ho.get (keysV_get (l := ks') (j := N8) hlt)
        have htk : entsK (ks'.take (N8 + 1)) = entsK (ks'.take N8) ++ [⟨strOf ks'[N8], 0, 0, 0, 0⟩] := by
          rw [List.take_succ_eq_append_getElem hlt]; unfold entsK; rw [List.map_append]; rfl
        obtain ⟨kx, hkx⟩ : ∃ kx, strOf ks'[N8] = kx := ⟨_, rfl⟩
        rw [hkx] at hx htk
        have hl8 : (entsK (ks'.take N8)).length ≤ 1000000000 := by rw [entsK_length, List.length_take]; omega
        have hz := hb.size
        have j1 : (N8 : Int) < (ks'.length : Int) := by omega
        have HTK := Lib.hid htk
        have HROW := Lib.hid hrow
        have HO := Lib.hid ho
        have HB := Lib.hid hb
        have HL8 := Lib.hid hl8
        clear htk hkx hrow ho hb hl8
        go_wp2_with (at_builtin; with_reducible refine apE HROW.out HL8.out hz rfl _ _ rfl rfl rfl ?_)
        intro v9 w9 hrow9 hg9
        have hb9 := HROW.out.grown hg9 HB.out (Nat.le_refl _)
        have he9 : Eff (fun k => (Value.slice A8 N8 C8).ownBlock = some k) wr w9 := (Eff.refl _ _).grown hg9 (fun i hi _ => hi)
        have ho9 : Own w9 W.heap.size 9 (.slice (some ⟨g, 0, none⟩) ks'.length C) (keysV ks') := HO.out.eff he9 (fun k hk hF => by
          rcases HROW.out.2 with ⟨hv, _⟩ | ⟨g', cap, cur, hv, _, hgg, _⟩
          · rw [hv] at hF; simp [Value.ownBlock] at hF
          · have : g' = k := by rw [hv] at hF; simpa [Value.ownBlock] using hF
            subst this
            exact HO.out.ne_type hgg (by decide) hk)
        rw [← HTK.out] at hrow9
        obtain ⟨A9, C9, rfl⟩ := hrow9.sl
        have hl9 : (entsK (ks'.take (N8 + 1))).length = N8 + 1 := by rw [entsK_length, List.length_take]; omega
        rw [hl9] at hrow9
        rw [hl9]
        have HROW9 := Lib.hid hrow9
        have HO9 := Lib.hid ho9
        have HB9 := Lib.hid hb9
        clear hrow9 hg9 hb9 he9 ho9 hl9
        go_wp2
        go_roundw
        case rel => exact ⟨N8 + 1, A9, N8 + 1, C9, rfl, by go_num, by omega, rfl, HROW9.out, HO9.out, HB9.out⟩
        case measure => simp [intOf]; omega
      · obtain rfl : N8 = ks'.length := by omega
        have j1 : ¬ ((ks'.length : Int) < (ks'.length : Int)) := by omega
        rw [List.take_length] at hrow
        obtain ⟨I, hI, hI2⟩ : ∃ I : Nat, (IntKind.u64.wrap at_).tmod (ks'.length : Int) = (I : Int) ∧ I < ks'.length := by
          have h0 : 0 ≤ IntKind.u64.wrap at_ := by rw [IntKind.wrap_u64]; omega
          have h1 := Int.emod_nonneg (IntKind.u64.wrap at_) (b := (ks'.length : Int)) (by omega)
          have h2 := Int.emod_lt_of_pos (IntKind.u64.wrap at_) (b := (ks'.length : Int)) (by omega)
          exact ⟨((IntKind.u64.wrap at_) % (ks'.length : Int)).toNat, by rw [Int.tmod_eq_emod_of_nonneg h0]; omega, by omega⟩
        obtain ⟨R, hR, hR2⟩ : ∃ R : Nat, (IntKind.u64.wrap what).tmod 8 = (R : Int) ∧ R < 8 := by
          have h0 : 0 ≤ IntKind.u64.wrap what := by rw [IntKind.wrap_u64]; omega
          exact ⟨((IntKind.u64.wrap what) % 8).toNat, by rw [Int.tmod_eq_emod_of_nonneg h0]; omega, by omega⟩
        have hel : (entsK ks').length = ks'.length := entsK_length ks'
        obtain ⟨g, rfl, hbg, hgl, hnc, hat⟩ := hrow.head (by omega)
        have hatI := hat I (by omega)
        have hgI := entsK_get ks' I (by omega)
        rw [hgI] at hatI
        have hgb : ∃ cur, wr.heap[g]? = some (.cells cur 32 (0, 0)) := by
          rcases hrow.2 with ⟨hv, _⟩ | ⟨g', cap, cur, hv, _, hgg, _⟩
          · cases hv
          · injection hv with h1; injection h1 with h1; injection h1 with h1; subst h1; exact ⟨cur, hgg⟩
        obtain ⟨cur, hgg⟩ := hgb
        have d0 := hatI.k
        have d1 := hatI.d
        have d2 := hatI.t
        have d3 := hatI.a
        have d4 := hatI.s
        have f0 := blk_frozen hgg (I * 5)
        have f1 := blk_frozen hgg (I * 5 + 1)
        have f2 := blk_frozen hgg (I * 5 + 2)
        have f3 := blk_frozen hgg (I * 5 + 3)
        have f4 := blk_frozen hgg (I * 5 + 4)
        have hI3 : I < (entsK ks').length := by omega
        have hset := fun (j : Nat) (hj : j < 5) (e : EntV) (u : Value) he => hrow.setF I j hI3 hj e u he
        rw [hgI] at hset
        obtain ⟨kI, hkI⟩ : ∃ kI, strOf ks'[I] = kI := ⟨_, rfl⟩
        rw [hkI] at d0 hset
        simp only at d0 d1 d2 d3 d4
        have hbset := fun j (u : Value) => hb.setCell (p := ⟨g, j, none⟩) hbg u
        have HSET := Lib.hid hset
        have HBSET := Lib.hid hbset
        have HGG := Lib.hid hgg
        have HKI := Lib.hid hkI
        have HROW := Lib.hid hrow
        have HB := Lib.hid hb
        have HOKE := Lib.hid (entsK_ok HOK3.out)
        have HRISE := Lib.hid (entsK_rising HPW3.out)
        have HEL := Lib.hid hel
        have i3 : (I : Int) < (ks'.length : Int) := by omega
        clear hrow hb ho hset hbset hat hatI hgI hgg hkI hel
        go_upto_region 13 with fail
        go_cut [12] (fun s12 wx => wr = wx ∧ s12 = .int .i64 3)
        case first =>
          go_wp2
          all_goals go_meet
          all_goals exact ⟨rfl, rfl⟩
        case rest =>
        obtain ⟨rfl, rfl⟩ := hcut
        apply_assumption
        refine wp_seq_k ?_
        intro K3 hK3
        go_cut [8, 12] (fun s8 s12 wx => ∃ (es : List EntV) (A9 : Option Addr) (N9 C9 : Nat) (want : Nat), s8 = .slice A9 N9 C9 ∧ s12 = .int .i64 want ∧ N9 ≤ C9 ∧ RowE wx W.heap.size (.slice A9 N9 C9) es ∧ es.length ≤ ls.length + 3 ∧ ((want = 3 ∧ ¬ ∀ x ∈ es, entOk x = true) ∨ (want = 4 ∧ (∀ x ∈ es, entOk x = true) ∧ ¬ rising none es)) ∧ Below W.heap.size W wx)
        case first =>
          have hRR : R = 0 ∨ R = 1 ∨ R = 2 ∨ R = 3 ∨ R = 4 ∨ R = 5 ∨ R = 6 ∨ R = 7 := by omega
          rcases hRR with rfl | rfl | rfl | rfl | rfl | rfl | rfl | rfl
          · go_wp2
            all_goals go_meet
            all_goals exact ⟨(entsK ks').set I ⟨strOf [], 0, 0, 0, 0⟩, _, _, C8, 3, rfl, rfl, hnc, HSET.out 0 (by decide) ⟨strOf [], 0, 0, 0, 0⟩ (.string ⟨#[]⟩) rfl, by rw [List.length_set, HEL.out]; omega, .inl ⟨rfl, bad_set hI3 (bad_key0 0 0 0 0)⟩, HBSET.out _ _⟩
          · have CR := Tryd.strings_Repeat_main ⟨#[107]⟩ 66 wr (by omega) (by omega) (by decide) (by decide)
            obtain ⟨K6, hK6⟩ : ∃ K, Lib.repeatL (⟨#[107]⟩ : ByteArray).data.toList 66 = K := ⟨_, rfl⟩
            have hK6l : K6.length = 66 := by rw [← hK6]; decide
            rw [hK6] at CR
            clear hK6
            go_wp2_with fail
            refine CR.mono ?_
            rintro e w5 ⟨rfl, hb5⟩
            clear CR
            have hrow5 := HROW.out.below hb5 (Nat.le_refl _)
            have hset5 := hrow5.setF I 0 hI3 (by decide) ⟨strOf K6, 0, 0, 0, 0⟩ (.string ⟨K6.toArray⟩) (by rw [entsK_get]; rfl)
            have x0 : w5.cell? ⟨g, I * 5, none⟩ = some (.string kI) := by rw [hb5.cell (p := ⟨g, I * 5, none⟩) hgl]; exact d0
            have y0 := blk_frozen ((hb5.block g hgl).trans HGG.out) (I * 5)
            have hb6 := (HB.out.trans (hb5.mono HB.out.size)).setCell (p := ⟨g, I * 5, none⟩) hbg (.string ⟨K6.toArray⟩)
            have HS5 := Lib.hid hset5
            have HB6 := Lib.hid hb6
            clear hrow5 hset5 hb5 hb6 d0 d1 d2 d3 d4 f0 f1 f2 f3 f4
            go_wp2
            all_goals go_meet
            all_goals exact ⟨(entsK ks').set I ⟨strOf K6, 0, 0, 0, 0⟩, _, _, C8, 3, rfl, rfl, hnc, HS5.out, by rw [List.length_set, HEL.out]; omega, .inl ⟨rfl, bad_set hI3 (bad_key66 K6 hK6l 0 0 0 0)⟩, HB6.out⟩
          · go_wp2
            all_goals go_meet
            all_goals exact ⟨(entsK ks').set I ⟨kI, -1, 0, 0, 0⟩, _, _, C8, 3, rfl, rfl, hnc, HSET.out 1 (by decide) ⟨kI, -1, 0, 0, 0⟩ (.int .i64 (-1)) rfl, by rw [List.length_set, HEL.out]; omega, .inl ⟨rfl, bad_set hI3 (bad_num _ _ _ _ _ (by decide))⟩, HBSET.out _ _⟩
          · go_wp2
            all_goals go_meet
            all_goals exact ⟨(entsK ks').set I ⟨kI, 0, 2147483648, 0, 0⟩, _, _, C8, 3, rfl, rfl, hnc, HSET.out 2 (by decide) ⟨kI, 0, 2147483648, 0, 0⟩ (.int .i64 2147483648) rfl, by rw [List.length_set, HEL.out]; omega, .inl ⟨rfl, bad_set hI3 (bad_num _ _ _ _ _ (by decide))⟩, HBSET.out _ _⟩
          · go_wp2
            all_goals go_meet
            all_goals exact ⟨(entsK ks').set I ⟨kI, 0, 0, -9223372036854775808, 0⟩, _, _, C8, 3, rfl, rfl, hnc, HSET.out 3 (by decide) ⟨kI, 0, 0, -9223372036854775808, 0⟩ (.int .i64 (-9223372036854775808)) rfl, by rw [List.length_set, HEL.out]; omega, .inl ⟨rfl, bad_set hI3 (bad_num _ _ _ _ _ (by decide))⟩, HBSET.out _ _⟩
          · go_wp2
            all_goals go_meet
            all_goals exact ⟨(entsK ks').set I ⟨kI, 0, 0, 0, 9223372036854775807⟩, _, _, C8, 3, rfl, rfl, hnc, HSET.out 4 (by decide) ⟨kI, 0, 0, 0, 9223372036854775807⟩ (.int .i64 9223372036854775807) rfl, by rw [List.length_set, HEL.out]; omega, .inl ⟨rfl, bad_set hI3 (bad_num _ _ _ _ _ (by decide))⟩, HBSET.out _ _⟩
          · have hl8 : (entsK ks').length ≤ 1000000000 := by rw [HEL.out]; omega
            have hz := HB.out.size
            have HL8 := Lib.hid hl8
            clear hl8
            go_wp2_with (at_builtin; with_reducible refine apE HROW.out HL8.out hz rfl _ _ rfl rfl rfl ?_)
            intro v9 w9 hrow9 hg9
            have hb9 := HROW.out.grown hg9 HB.out (Nat.le_refl _)
            have hdup : entsK ks' ++ [⟨kI, 0, 0, 0, 0⟩] = entsK ks' ++ [(entsK ks')[I]] := by rw [entsK_get, HKI.out]
            have hnr := dup_falls HRISE.out hI3
            have hok9 := dup_ok HOKE.out hI3
            rw [← hdup] at hnr hok9
            obtain ⟨A9, C9, rfl⟩ := hrow9.sl
            have hcap9 : (entsK ks' ++ [(⟨kI, 0, 0, 0, 0⟩ : EntV)]).length ≤ C9 := by
              obtain ⟨_, _, _, _, h, _⟩ := hrow9.head (by simp)
              exact h
            have hlen9 : (entsK ks' ++ [(⟨kI, 0, 0, 0, 0⟩ : EntV)]).length ≤ ls.length + 3 := by rw [List.length_append, List.length_singleton, HEL.out]; omega
            obtain ⟨es9, he9⟩ : ∃ es9, entsK ks' ++ [(⟨kI, 0, 0, 0, 0⟩ : EntV)] = es9 := ⟨_, rfl⟩
            rw [he9] at hrow9 hnr hok9 hcap9 hlen9
            rw [he9]
            have HR9 := Lib.hid hrow9
            have HNR := Lib.hid hnr
            have HOK9 := Lib.hid hok9
            have HB9 := Lib.hid hb9
            clear hrow9 hg9 hb9 hdup hnr hok9 he9 d0 d1 d2 d3 d4 f0 f1 f2 f3 f4
            go_wp2
            all_goals go_meet
            all_goals exact ⟨es9, _, _, C9, 4, rfl, rfl, hcap9, HR9.out, hlen9, .inr ⟨rfl, HOK9.out, HNR.out⟩, HB9.out⟩
          · have hl8 : (entsK ks').length ≤ 1000000000 := by rw [HEL.out]; omega
            have hz := HB.out.size
            obtain ⟨g', hg', _, _, _, hat0⟩ := HROW.out.head (by omega)
            injection hg' with hg'
            injection hg' with hg' _ _
            subst hg'
            have x0 := (hat0 0 (by omega)).k
            obtain ⟨k0, hk0'⟩ : ∃ k0, (entsK ks')[0].k = k0 := ⟨_, rfl⟩
            rw [hk0', Nat.zero_mul] at x0
            have HL8 := Lib.hid hl8
            have j0 : (0 : Int) < (ks'.length : Int) := by omega
            clear hl8 hat0 hk0' d0 d1 d2 d3 d4 f0 f1 f2 f3 f4
            go_wp2_with (at_builtin; with_reducible refine apE2 HROW.out HL8.out hz rfl _ _ rfl rfl rfl ?_)
            intro v9 w9 hrow9 hg9
            have hb9 := HROW.out.grown hg9 HB.out (Nat.le_refl _)
            obtain ⟨es9, he9⟩ : ∃ es9, entsK ks' ++ [(⟨k0, 0, 0, 0, 0⟩ : EntV), ⟨⟨#[120]⟩, -5, 0, 0, 0⟩] = es9 := ⟨_, rfl⟩
            have hbad9 : ¬ ∀ x ∈ es9, entOk x = true := by
              rw [← he9]; exact bad_in (e := ⟨⟨#[120]⟩, -5, 0, 0, 0⟩) (by simp) (bad_num _ _ _ _ _ (by decide))
            have hlen9 : es9.length ≤ ls.length + 3 := by rw [← he9, List.length_append, HEL.out]; simp; omega
            have hpos9 : 0 < es9.length := by rw [← he9]; simp
            rw [he9] at hrow9
            obtain ⟨A9, C9, rfl⟩ := hrow9.sl
            have hcap9 : es9.length ≤ C9 := by
              obtain ⟨_, _, _, _, h, _⟩ := hrow9.head hpos9
              exact h
            have HR9 := Lib.hid hrow9
            have HB9 := Lib.hid hb9
            have HBAD := Lib.hid hbad9
            clear hrow9 hg9 hb9 he9 hbad9
            go_wp2
            all_goals go_meet
            all_goals exact ⟨es9, _, _, C9, 3, rfl, rfl, hcap9, HR9.out, hlen9, .inl ⟨rfl, HBAD.out⟩, HB9.out⟩
        case rest =>
        obtain ⟨es, A9, N9, C9, want, rfl, rfl, hnc9, hrow9, hes9, hwant, hb9⟩ := hcut
        refine hK3 _ _ ?_
        have C1 := build_any wc A9 N9 C9 es hrow9.rd hnc9 (by omega) (fun ok => image_most2 (by omega) ok) EA (HS.out.below hb9).derr.r
        have HB9 := Lib.hid hb9
        clear hrow9 hb9 d0 d1 d2 d3 d4 f0 f1 f2 f3 f4
        rcases hwant with ⟨rfl, hbad⟩ | ⟨rfl, hok, hnr⟩
        · go_wp2_with fail
          refine C1.mono ?_
          rintro e w3 ⟨_, _, c3⟩
          clear C1
          obtain ⟨rfl, hb3⟩ := c3 hbad
          have hb03 := HB9.out.trans (hb3.mono HB9.out.size)
          have C4 := num_Limit w3 EA (HS.out.below hb03)
          have HB3 := Lib.hid hb03
          clear c3 hb3 hb03 hbad
          go_wp2_with fail
          refine C4.mono ?_
          rintro e w4 ⟨rfl, rfl⟩
          clear C4
          go_wp2
          go_ret
          exact ⟨rfl, HB3.out⟩
        · go_wp2_with fail
          refine C1.mono ?_
          rintro e w3 ⟨_, c4, _⟩
          clear C1
          obtain ⟨rfl, hb3⟩ := c4 hok hnr
          have hb03 := HB9.out.trans (hb3.mono HB9.out.size)
          have C4 := num_Order w3 EA (HS.out.below hb03)
          have HB3 := Lib.hid hb03
          clear c4 hb3 hb03 hok hnr
          go_wp2_with fail
          refine C4.mono ?_
          rintro e w4 ⟨rfl, rfl⟩
          clear C4
          go_wp2
          go_ret
          exact ⟨rfl, HB3.out⟩
end Go.Proofs.YtfeldllcpeibcaaDoor

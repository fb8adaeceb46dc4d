/- posts: the walk of the law PostsBlocks. -/
import Derived.Test.YthnpbfadblcicaaDoorZPLives
import Derived.Test.YthnpbfadblcicaaDoorZBlock
import Derived.Test.YthnpbfadblcicaaDoorZG10
import Derived.Test.YthnpbfadblcicaaDoorZBlkP
namespace Go.Proofs.YthnpbfadblcicaaDoor
set_option linter.unusedVariables false
open Go.ChangeShapes Go.WideShapes Go.ChangeAt Go.RowKit

theorem RowP.drewN {w : World} {base : Nat} {v : Value} {ps : List PostV} {vs : Nat → Value} (h : RowP w base v ps vs) (d : Nat) : RowP (w.drewN d) base v ps vs :=
  h.eff (F := fun _ => False) ((Eff.refl _ w).drewN d) (fun _ _ f => f)
set_option maxRecDepth 100000 in
set_option maxHeartbeats 16000000 in
theorem postsBlocks_walk (w : World) (a : Option Addr) (n c : Nat) (ps : List PostV) (hr : RdPost w a n ps) (hnc : n ≤ c) (hf : FitP ps) (hl : ps.length ≤ 1048576) (hT : totalV ps ≤ 1048576) (EA : Nat → Addr) (hS : Sent7 w EA) :
    Calls Tryd.prog 5 #[.slice a n c] w fun e w' => e = .returned (.bool true) ∧ Below w.heap.size w w' := by
  obtain rfl := hr.1
  have C1 := lives_any w EA hS
  have HS := Lib.hid hS
  have HR := Lib.hid hr
  have HF := Lib.hid hf
  clear hS hr hf
  go_enter Tryd.func5, Tryd.ntmps5
  go_wp2_with fail
  with_reducible refine C1.mono ?_
  rintro e w1 ⟨rfl, hb1⟩
  clear C1
  have C2 := encode_any w1 a ps.length c ps (HR.out.below hb1 (Nat.le_refl _)) hnc HF.out hl (by omega) EA (HS.out.below hb1)
  have HB1 := Lib.hid hb1
  clear hb1
  go_wp2_with fail
  with_reducible refine C2.mono ?_
  rintro e w2 ⟨h2, h2n⟩
  clear C2
  by_cases ok : okV (-1) ps
  · obtain ⟨A, N, C, rfl, ho2, hb2⟩ := h2 ok
    have hb12 := HB1.out.trans (hb2.mono HB1.out.size)
    have himl := image_le4 HF.out ok (by omega) (by omega)
    have hop := openV_of ok HF.out (by omega) (by omega)
    have hblk := blkOk hop (by omega)
    obtain ⟨q1, q2, q3, q4⟩ := chp_flat _ ps (Nat.le_refl _)
    have hbf := blk_fact2 ps
    have hae := atV_end ps
    have hale := atV_le ps
    have ha0 := atV_zero ps
    have hts := tot_step ps
    have hcg := chp_get
    have C3 := open_any w2 A N C _ ho2.rd (by omega) EA (HS.out.below hb12)
    have hsl : (skV (-1) (headL ps) (chp ps)).length = (chp ps).length := skV_len _ _ _
    obtain ⟨IM, hIM⟩ : ∃ IM, imageV ps = IM := ⟨_, rfl⟩
    rw [hIM] at ho2 himl hop hblk C3 hae hale
    have HSV : ∃ S, S = skV (-1) (headL ps) (chp ps) := ⟨_, rfl⟩
    obtain ⟨S, hSe⟩ := HSV
    rw [← hSe] at hop hblk hbf hsl
    have hNl := ho2.len
    rw [bytesV_length] at hNl
    subst hNl
    obtain ⟨m, hm⟩ : ∃ m, m = S.length := ⟨_, rfl⟩
    have hml : m ≤ 1048576 := by omega
    have hSl : S.length ≤ 1048576 := by omega
    have HM := Lib.hid hm
    have HMC := Lib.hid (hm.trans hsl)
    have HMQ := Lib.hid ((hm.trans hsl).trans q4)
    have HBF := Lib.hid hbf
    have HALE := Lib.hid hale
    have HA0 := Lib.hid ha0
    have HTS := Lib.hid hts
    have HOP := Lib.hid hop
    have HBLK := Lib.hid hblk
    have HAE := Lib.hid hae
    have HB2 := Lib.hid hb12
    have HO2 := Lib.hid ho2
    have HSE := Lib.hid hSe
    clear h2 h2n hb2 hb12 hop hblk hbf hale ha0 hts HB1 hIM q1 q2 q3 q4 hsl hm hae ho2 hSe
    go_wp2_with fail
    with_reducible refine C3.mono ?_
    rintro e w3 ⟨h3, -, hb3⟩
    clear C3
    obtain ⟨p, im, sv, rfl, hl3⟩ := h3 _ HOP.out
    obtain ⟨sa, sc, rfl⟩ := hl3.sk.sl
    have hb13 := HB2.out.trans (hb3.mono HB2.out.size)
    have hop3 : OpS w w3 p im (.slice sa S.length sc) IM ps.length (totalV ps) S := ⟨hl3.mono HB2.out.size, hb13⟩
    have HL3 := Lib.hid hop3
    have D1 := blocks_any w3 _ p im _ _ _ _ _ hop3.l
    have D2 := docs_any w3 _ p im _ _ _ _ _ hop3.l
    clear h3 hl3 hb3 hb13 hop3
    rw [← HM.out] at D1
    have s1 : IntKind.i64.wrap ((ps.length : Int) + 15) = ((ps.length + 15 : Nat) : Int) := by rw [IntKind.wrap_i64]; omega
    have s2 : (ps.length + 15) / 16 = m := by have := HMQ.out; omega
    have s4 : ((m : Int) != ((ps.length : Int) + 15) / 16) = false := by have := HMQ.out; simp; omega
    have s3 : IntKind.i64.wrap (m : Int) = (m : Int) := by rw [IntKind.wrap_i64]; omega
    go_wp2_with fail
    with_reducible refine D1.mono ?_
    rintro e w4 ⟨rfl, rfl⟩
    go_wp2_with fail
    with_reducible refine D2.mono ?_
    rintro e w4 ⟨rfl, rfl⟩
    clear D2 s1 s2 s3 s4
    obtain ⟨z0, hz0⟩ : ∃ z, IntKind.i64.wrap ((m : Int) - 1) = z := ⟨_, rfl⟩
    have hz1 : z0 = (m : Int) - 1 := by rw [← hz0, IntKind.wrap_i64]; omega
    have HZ := Lib.hid hz1
    clear hz1
    go_wp2_with fail
    with_reducible refine D1.mono ?_
    rintro e w4 ⟨rfl, rfl⟩
    clear D1
    have hl0 : ∃ (j T AT NN : Nat), z0 = (j : Int) - 1 ∧ j ≤ m ∧ IM.length = AT ∧ AT = atV ps j ∧ ps.length = NN ∧ NN = min (16 * j) ps.length ∧ 0 = T ∧ T + totalV (ps.take NN) = totalV ps := by
      refine ⟨m, 0, IM.length, ps.length, HZ.out, Nat.le_refl _, rfl, ?_, rfl, ?_, rfl, ?_⟩
      · rw [← HAE.out, ← HMC.out]
      · have := HMQ.out; omega
      · rw [List.take_length]; omega
    have HL0 := Lib.hid hl0
    clear hl0
    go_wp2
    clear hz0
    go_loopw [6, 7, 8, 9] (fun s6 s7 s8 s9 wr => ∃ (j T AT NN : Nat) (z : Int), s6 = .int .i64 (AT : Nat) ∧ s7 = .int .i64 (NN : Nat) ∧ s8 = .int .i64 (T : Nat) ∧ s9 = .int .i64 z ∧ z = (j : Int) - 1 ∧ j ≤ m ∧ AT = atV ps j ∧ NN = min (16 * j) ps.length ∧ T + totalV (ps.take NN) = totalV ps ∧ OpS w wr p im (.slice sa S.length sc) IM ps.length (totalV ps) S) (fun _ _ _ s9 _ => (intOf s9 + 1).toNat)
    case atStart =>
      obtain ⟨j, T, AT, NN, h1, h2, rfl, h4, rfl, h6, rfl, h8⟩ := HL0.out
      exact ⟨j, 0, _, _, z0, rfl, rfl, rfl, rfl, h1, h2, h4, h6, h8, HL3.out⟩
    case round =>
      clear HL3 HL0
      obtain ⟨j, T, AT, NN, z, rfl, rfl, rfl, rfl, hz, hj, hAT, hNN, hTT, hop⟩ := hrel
      by_cases h0 : j = 0
      · subst h0
        obtain rfl : z = -1 := by omega
        obtain rfl : NN = 0 := by omega
        have hT0 : T = totalV ps := by simpa [totalV] using hTT
        have hA2 : 2 ≤ AT := by rw [hAT]; exact HA0.out
        have D1 := blocks_any wr _ p im _ _ _ _ _ hop.l
        have D2 := skip_out wr p _ _ _ _ _ _ S hop.l (by omega) (S.length : Int) (.inr (Int.le_refl _))
        have hml2 := HM.out
        rw [hml2] at *
        subst hT0
        have HOP := Lib.hid hop
        clear hop hTT hNN hAT hz hcg hml2
        go_wp2_with fail
        with_reducible refine D1.mono ?_
        rintro e w5 ⟨rfl, rfl⟩
        clear D1
        go_wp2_with fail
        with_reducible refine D2.mono ?_
        rintro e w6 ⟨rfl, hb6⟩
        clear D2
        have hop6 := HOP.out.step (hb6.trans (((Below.refl w6.heap.size w6).alloc (Nat.le_refl _) (.cells #[.int .i64 0, .int .i64 0, .int .i64 0, .int .i64 0] 45)).mono hb6.size))
        have HOP6 := Lib.hid hop6
        clear hop6 hb6 HOP
        go_upto_region 29 with fail
        generalize w6.alloc (.cells #[.int .i64 0, .int .i64 0, .int .i64 0, .int .i64 0] 45) = w7 at HOP6 ⊢
        have D3 := total_any w7 _ p im _ _ _ _ _ HOP6.out.l
        have D4 := block_out w7 p _ _ _ _ _ _ S _ HOP6.out.l (-1) (.inl (by omega))
        have t1 : decide (2 ≤ AT) = true := decide_eq_true hA2
        go_wp2_with fail
        with_reducible refine D3.mono ?_
        rintro e w8 ⟨rfl, rfl⟩
        clear D3
        go_wp2_with fail
        with_reducible refine D4.mono ?_
        rintro e w8 ⟨rfl, rfl⟩
        clear D4
        go_wp2
        go_ret
        exact ⟨rfl, HOP6.out.b⟩
      · obtain ⟨k, rfl⟩ : ∃ k, j = k + 1 := ⟨j - 1, by omega⟩
        obtain rfl : z = (k : Int) := by omega
        have hkS : k < S.length := by have := HM.out; omega
        have hkc : k < (chp ps).length := by have := HMC.out; omega
        obtain ⟨CH, hCH⟩ : ∃ CH, (ps.drop (16 * k)).take 16 = CH := ⟨_, rfl⟩
        obtain ⟨la, sz, b1, b2, b3, b4, b5, b6, b7, b8⟩ := HBF.out k hkc hkS CH hCH
        have htt := HTS.out k hkc
        have hck := hcg k ps hkc
        have D1 := skip_in wr p _ _ _ _ _ _ S hop.l (by omega) k hkS
        rw [b1] at D1
        simp only at D1
        rw [hCH] at htt hck
        obtain ⟨l1, hl1⟩ : ∃ l1, l1 + 1 = CH.length := ⟨CH.length - 1, by omega⟩
        have hl1' : l1 < CH.length := by omega
        have hla := b8 l1 hl1' hl1
        obtain ⟨q, hq⟩ : ∃ q, 16 * k = q := ⟨_, rfl⟩
        rw [hq] at htt b7 hCH
        rw [← hAT] at b3
        obtain ⟨AK, hAK⟩ : ∃ AK, atV ps k = AK := ⟨_, rfl⟩
        rw [hAK] at D1 b3
        have hqlt : q < ps.length := by omega
        have hNNq : NN = q + CH.length := by omega
        have hATl : AT ≤ 400000000 := by rw [hAT]; have := HALE.out (k + 1); omega
        have hAKl : AK ≤ 400000000 := by have := HALE.out k; omega
        have hTk : T + totalV CH + totalV (ps.take q) = totalV ps := by rw [← hNN] at htt; omega
        have hlastk : CH.length = 16 ∨ ¬ k + 1 < m := by
          have := HMC.out
          by_cases h9 : k + 1 < m
          · exact .inl (b6 (by omega))
          · exact .inr h9
        have HNQ := Lib.hid hNNq
        have HKS := Lib.hid hkS
        have HKC := Lib.hid hkc
        have HHQ := Lib.hid hq
        have HAK := Lib.hid hAK
        have HNN := Lib.hid hNN
        have HTK := Lib.hid hTk
        have HCK := Lib.hid hck
        have HOP3 := Lib.hid hop
        have HLA := Lib.hid hla
        have HL1 := Lib.hid hl1
        have HCHE := Lib.hid hCH
        clear hNNq htt b8 b6 b7 hCH hq hAK hNN hAT hTk hTT hop hcg b1 hz hla hl1
        go_wp2_with fail
        with_reducible refine D1.mono ?_
        rintro e w5 ⟨rfl, hb5⟩
        clear D1
        have hop5 := HOP3.out.step (hb5.trans (((Below.refl w5.heap.size w5).alloc (Nat.le_refl _) (.cells #[.int .i64 la, .int .i64 (CH.length : Nat), .int .i64 (AK : Nat), .int .i64 (sz : Nat)] 45)).mono hb5.size))
        have e5 := heap_alloc_new w5 (.cells #[.int .i64 la, .int .i64 (CH.length : Nat), .int .i64 (AK : Nat), .int .i64 (sz : Nat)] 45)
        have HOP5 := Lib.hid hop5
        have HE5 := Lib.hid e5
        clear hop5 e5 hb5 HOP3
        go_upto_region 16 with fail
        generalize w5.alloc (.cells #[.int .i64 la, .int .i64 (CH.length : Nat), .int .i64 (AK : Nat), .int .i64 (sz : Nat)] 45) = w6 at HOP5 HE5 ⊢
        generalize w5.heap.size = G6 at HE5 ⊢
        have D2 := block_any w6 p _ _ _ _ _ _ S (chp ps) _ HOP5.out.l HBLK.out (by omega) k hkS hkc EA (HS.out.below HOP5.out.b)
        rw [HCK.out] at D2
        clear HCK
        go_wp2_with fail
        with_reducible refine D2.mono ?_
        rintro e w7 ⟨A7, N7, C7, vs7, rfl, hrow7, hb7⟩
        clear D2
        obtain rfl : N7 = CH.length := by obtain ⟨_, _, e, _⟩ := hrow7.sl; injection e
        have hop7 := HOP5.out.step hb7
        have e7 := (hb7.block _ (lt_of_heap HE5.out)).trans HE5.out
        obtain ⟨g7, rfl, -, -, hc7, -, -⟩ := hrow7.at_ l1 hl1'
        rw [← HLA.out] at hc7
        clear HLA
        have x0 := blk_cell e7 0
        have x1 := blk_cell e7 1
        have x2 := blk_cell e7 2
        have x3 := blk_cell e7 3
        have D3 : ∀ d : Nat, Calls Tryd.prog 18 #[.pointer (some ⟨p, 0, none⟩)] (w7.drewN d) fun e w' => e = .returned (.int .i64 (m : Nat)) ∧ w7.drewN d = w' := fun d => by
          have h9 := blocks_any (w7.drewN d) _ p im _ _ _ _ _ (hop7.drewN d).l
          rw [← HM.out] at h9
          exact h9
        have s1 : IntKind.i64.wrap ((CH.length : Int) - 1) = (l1 : Int) := by have := HL1.out; rw [IntKind.wrap_i64]; omega
        have s2 : IntKind.i64.wrap ((AK : Int) + (sz : Int)) = (AT : Int) := by rw [IntKind.wrap_i64]; omega
        obtain ⟨m1, hm1⟩ : ∃ m1 : Nat, m1 + 1 = m := ⟨m - 1, by omega⟩
        have s3 : IntKind.i64.wrap ((m : Int) - 1) = (m1 : Int) := by rw [IntKind.wrap_i64]; omega
        have i1 : (l1 : Int) < (CH.length : Int) := by omega
        have t1 : ((CH.length : Int) == 0) = false := beq_false_of_ne (by omega)
        have t2 : decide (sz < 1) = false := decide_eq_false (by omega)
        have t2a : decide (sz = 0) = false := decide_eq_false (by omega)
        have t2b : decide ((sz : Int) < 1) = false := decide_eq_false (by omega)
        have hk1 : (decide (k < m1) = true ∧ ((CH.length : Int) != 16) = false) ∨ decide (k < m1) = false := by
          by_cases h9 : k < m1
          · refine .inl ⟨decide_eq_true h9, ?_⟩
            rcases hlastk with h8 | h8
            · rw [h8]; rfl
            · omega
          · exact .inr (decide_eq_false h9)
        have HROW7 := Lib.hid hrow7
        have HOP7 := Lib.hid hop7
        have HE7 := Lib.hid e7
        clear hrow7 hop7 e7 HE5 HOP5 hb7 hlastk b3 hm1 hl1'
        go_upto_region 17 with fail
        go_cut [127] (fun s127 wx => s127 = .bool false ∧ ∃ d, wx = w7.drewN d)
        case first =>
          rcases hk1 with ⟨t5, t6⟩ | t5
          · go_quiet ((go_at_call 18; exact quiet_leftN (D3 _)))
            go_wp2
            go_meet
            exact ⟨rfl, _, rfl⟩
          · go_quiet ((go_at_call 18; exact quiet_leftN (D3 _)))
            go_wp2
            go_meet
            exact ⟨rfl, _, rfl⟩
        case rest =>
          obtain ⟨rfl, d7, rfl⟩ := hcut
          clear x0 x1 x2 x3 hc7 D3 s1 s2 s3 i1 t1 t2 t2a t2b hk1
          have hrow8 := HROW7.out.drewN d7
          have hop8 := HOP7.out.drewN d7
          have e8 : (w7.drewN d7).heap[G6]? = some (.cells #[.int .i64 la, .int .i64 (CH.length : Nat), .int .i64 (AK : Nat), .int .i64 (sz : Nat)] 45 (0, 0)) := HE7.out
          generalize w7.drewN d7 = w8 at hrow8 hop8 e8 ⊢
          have x2 := blk_cell e8 2
          have hrd := HR.out.below hop8.b (Nat.le_refl _)
          obtain ⟨ba, oa, rfl, -⟩ := hrd.2 (by omega)
          obtain ⟨hi, hhi⟩ : ∃ hi, q + CH.length = hi := ⟨_, rfl⟩
          have hbnd := HNQ.out
          have hNN9 := HNN.out
          have hpart := rdPost_part hrd q hi (by omega) (by omega)
          have hcq := HCHE.out
          have hpeq : (ps.take hi).drop q = CH := by
            rw [chunk_eq ps q hi (by have := congrArg List.length hcq; rw [List.length_take, List.length_drop] at this; omega)]; exact hcq
          rw [hpeq] at hpart
          have s1 : IntKind.i64.wrap ((NN : Int) - (CH.length : Int)) = (q : Int) := by rw [IntKind.wrap_i64]; omega
          have s2 : IntKind.i64.wrap ((q : Int) + (CH.length : Int)) = (hi : Int) := by rw [IntKind.wrap_i64]; omega
          have t1 : decide ((q : Int) < 0) = false := decide_eq_false (by omega)
          have a1 : (q : Int) ≤ (hi : Int) := by omega
          have a2 : (hi : Int) ≤ (c : Int) := by omega
          have a3 : q < c := by omega
          have D4 := same8_any w8 (some ⟨g7, 0, none⟩) (some ⟨ba, oa + q * 2, none⟩) CH.length (hi - q) C7 (c - q) CH hrow8.rd hpart (by omega) (fun p hp => by have := (HF.out p (by rw [← hcq] at hp; exact List.mem_of_mem_drop (List.mem_of_mem_take hp))).2.2; omega)
          have HROW8 := Lib.hid hrow8
          have HOP8 := Lib.hid hop8
          have HHI := Lib.hid hhi
          clear hrow8 hop8 e8 hrd hpart hpeq hcq hhi hbnd hNN9 HROW7 HOP7 HE7
          go_wp2_with fail
          with_reducible refine D4.mono ?_
          rintro e w9 ⟨rfl, d9, rfl⟩
          clear D4 x2 s1 s2 t1 a1 a2 a3
          have hrow9 := HROW8.out.drewN d9
          have hop9 := HOP8.out.drewN d9
          generalize w8.drewN d9 = w9 at hrow9 hop9 ⊢
          have HROW9 := Lib.hid hrow9
          have HOP9 := Lib.hid hop9
          clear hrow9 hop9 HROW8 HOP8
          go_wp2
          obtain ⟨wo, rfl⟩ : ∃ wo : World, wo = wr := ⟨_, rfl⟩
          go_loopw [8, 150] (fun s8 s150 wr => ∃ (i T2 : Nat), s8 = .int .i64 (T2 : Nat) ∧ s150 = .int .i64 (i : Nat) ∧ i ≤ CH.length ∧ T2 = T + totalV (CH.take i) ∧ RowP wr w6.heap.size (.slice (some ⟨g7, 0, none⟩) CH.length C7) CH vs7 ∧ OpS w wr p im (.slice sa S.length sc) IM ps.length (totalV ps) S) (fun _ s150 _ => CH.length - (intOf s150).toNat)
          case atStart => exact ⟨0, T, rfl, rfl, Nat.zero_le _, by simp [totalV], HROW9.out, HOP9.out⟩
          case round =>
            clear HROW9 HOP9
            obtain ⟨i, T2, rfl, rfl, hi9, hT2, hrow, hop⟩ := hrel
            by_cases hlt : i < CH.length
            · obtain ⟨g7', e7, -, -, c0, c1, -⟩ := hrow.at_ i hlt
              injection e7 with e7
              injection e7 with e7
              subst e7
              have ho := hrow.own i hlt
              obtain ⟨A8, K8, hv8⟩ := own_slice ho
              rw [hv8, intL_length] at c1
              have hst := totalV_take CH i hlt
              obtain ⟨x, hx⟩ : ∃ x, CH[i] = x := ⟨_, rfl⟩
              rw [hx] at c0 c1 hst
              obtain ⟨doc, pos⟩ := x
              simp only at c0 c1 hst
              obtain ⟨T3, hT3⟩ : ∃ T3, T2 + pos.length = T3 := ⟨_, rfl⟩
              have hbd : T3 ≤ 1048576 := by
                have h1 := totalV_split CH (i + 1)
                have h2 := HTK.out
                omega
              have s1 : IntKind.i64.wrap ((T2 : Int) + (pos.length : Int)) = (T3 : Int) := by rw [IntKind.wrap_i64]; omega
              have i1 : (i : Int) < (CH.length : Int) := by omega
              have hrow2 := hrow.below ((Below.refl _ wr).alloc (Nat.le_refl _) (.cells #[.int .i64 doc, .slice A8 pos.length K8] 53)) (Nat.le_refl _)
              have hop2 := hop.step ((Below.refl _ wr).alloc (Nat.le_refl _) (.cells #[.int .i64 doc, .slice A8 pos.length K8] 53))
              have HROW := Lib.hid hrow2
              have HOP := Lib.hid hop2
              have HT3 := Lib.hid (show T3 = T + totalV (CH.take (i + 1)) by omega)
              clear hrow hop hrow2 hop2 ho hv8 hx hst hT2 hT3
              go_wp2
              go_roundw
              case rel => exact ⟨i + 1, T3, rfl, by go_num, by omega, HT3.out, HROW.out, HOP.out⟩
              case measure => simp [intOf]; omega
            · obtain rfl : i = CH.length := by omega
              have i1 : ¬ ((CH.length : Int) < (CH.length : Int)) := by omega
              rw [List.take_length] at hT2
              obtain ⟨z2, hz2⟩ : ∃ z2, IntKind.i64.wrap ((k : Int) - 1) = z2 := ⟨_, rfl⟩
              have hz3 : z2 = (k : Int) - 1 := by rw [← hz2, IntKind.wrap_i64]; omega
              have HZ3 := Lib.hid hz3
              have HOP := Lib.hid hop
              have HT2 := Lib.hid (show T2 + totalV (ps.take q) = totalV ps by have := HTK.out; omega)
              clear hrow hop hz3 hT2
              go_wp2
              clear hz2
              go_roundw
              case rel => exact ⟨k, T2, AK, q, z2, rfl, rfl, rfl, rfl, HZ3.out, by omega, HAK.out.symm, by have := HHQ.out; omega, HT2.out, HOP.out⟩
              case measure => have := HZ3.out; simp [intOf]; omega
  · obtain ⟨rfl, hb2⟩ := h2n ok
    obtain ⟨G, hG⟩ : ∃ G, checkV (-1) ps = G := ⟨_, rfl⟩
    rw [hG]
    unfold errV
    have HB2 := Lib.hid (HB1.out.trans (hb2.mono HB1.out.size))
    clear h2 h2n hb2 hG
    go_wp2
    go_ret
    exact ⟨rfl, HB2.out⟩
end Go.Proofs.YthnpbfadblcicaaDoor

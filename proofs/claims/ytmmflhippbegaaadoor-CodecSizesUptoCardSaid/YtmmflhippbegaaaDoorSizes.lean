/- The law CodecSizes: its walk. -/
import Derived.Test.YtmmflhippbegaaaDoorLives
import Derived.Test.YtmmflhippbegaaaDoorPacked
namespace Go.Proofs.YtmmflhippbegaaaDoor
set_option linter.unusedVariables false
open Go.ChangeShapes Go.WideShapes Go.ChangeAt Go.RowKit

theorem elInts : Elem Tryd.prog 23 3 (.int .i64 0) 8 := ⟨Tryd.underlying23, by kernel_rfl, rfl, by decide⟩
theorem intL_append (a b : List Int) : intL (a ++ b) = intL a ++ intL b := by simp [intL]

def nb (f n : Nat) : List Int := (List.range n).map fun (k : Nat) => ((f + k : Nat) : Int)
theorem nb_length (f n : Nat) : (nb f n).length = n := by simp [nb]
theorem nb_succ (f n : Nat) : nb f (n + 1) = nb f n ++ [((f + n : Nat) : Int)] := by simp [nb, List.range_succ]
theorem nb_get (f n i : Nat) (h : i < (nb f n).length) : (nb f n)[i] = ((f + i : Nat) : Int) := by simp [nb]
theorem nb_neg (f n : Nat) : anyNeg (nb f n) = false := by
  rw [anyNeg, List.any_eq_false]
  intro x hx
  obtain ⟨k, _, rfl⟩ := List.mem_map.1 hx
  simp; omega
theorem nb_rises (f n : Nat) : rises (nb f n) := fun i h => by rw [nb_get, nb_get]; omega
theorem nb_fit (f n : Nat) (h : f + n ≤ 9223372036854775807) : FitL (nb f n) := fun z hz => by
  obtain ⟨k, hk, rfl⟩ := List.mem_map.1 hz
  have := List.mem_range.1 hk
  omega
theorem nb_last (f n : Nat) (d : Int) : (nb f (n + 1)).getLastD d = ((f + n : Nat) : Int) := by rw [nb_succ]; exact List.getLastD_concat ..
theorem nb_gaps (f : Nat) : ∀ n : Nat, (gapsB (-1) (nb f (n + 1))).length = (uvar f).length + n
  | 0 => by
    rw [nb_succ, gapsB_snoc]
    simp [nb, gapsB]
  | n + 1 => by
    rw [nb_succ, gapsB_snoc, List.length_append, nb_gaps f n, nb_last, show (((f + (n + 1) : Nat) : Int) - ((f + n : Nat) : Int) - 1).toNat = 0 by omega, show (uvar 0).length = 1 by rw [uvar_small (by decide)]; rfl]
    omega

set_option maxRecDepth 100000 in
set_option maxHeartbeats 1000000 in
theorem neig_ok (w : World) (base p : Nat) (v : Value) (bs : List UInt8) (h : Wr w base p v bs) (hb : base ≤ w.heap.size) (hbl : bs.length ≤ 10000000000) (f n : Nat) (hn : 1 ≤ n) (hn2 : n ≤ 5000) (hfn : (f : Int) + n ≤ 9223372036854775807)
    (eR eO : Value) (hR : w.cell? ⟨0, 0, none⟩ = some eR) (hO : w.cell? ⟨5, 0, none⟩ = some eO) (hg1 : 0 < base) (hg2 : 5 < base) :
    Calls Tryd.prog 17 #[.pointer (some ⟨p, 0, none⟩), .int .i64 f, .int .i64 n] w fun e w' => e = .returned (.bool true) ∧ Below base w w' := by
  have t1 : decide ((f : Int) < 0) = false := by simp
  have t2 : decide ((n : Int) < 1) = false := by simp; omega
  have t3 : decide ((5000 : Int) < n) = false := by simp; omega
  have t4 : decide ((9223372036854775807 : Int) - n < f) = false := by simp; omega
  go_enter Tryd.func17, Tryd.ntmps17
  go_wp2
  clear t1 t2 t3 t4
  go_loopw [7, 8] (fun s7 s8 wr => ∃ i : Nat, s8 = .int .i64 i ∧ i ≤ n ∧ Own wr w.heap.size 3 s7 (intL (nb f i)) ∧ Below w.heap.size w wr) (fun _ s _ => n - (intOf s).toNat)
  case atStart => exact ⟨0, rfl, Nat.zero_le _, own_empty _ _ _ (Nat.le_refl _), (Below.refl _ _).alloc (Nat.le_refl _) _⟩
  case round =>
    obtain ⟨i, rfl, hi, ho, hbw⟩ := hrel
    by_cases hlt : i < n
    · have hl : (intL (nb f i)).length < 1000000000000 := by rw [intL_length, nb_length]; omega
      have hb0 := hbw.size
      obtain ⟨av, nv, cv, rfl⟩ := own_sl ho
      go_wp2_with (at_builtin; with_reducible refine ap1' elInts rfl ho hl hb0 rfl _ _ rfl rfl rfl ?_)
      intro v1 w1 g1 g2 g3 g4
      have hb1 := hbw.grown g4 hb0 (fun k hk => (ho.lt k hk).1)
      have g1' : Own w1 w.heap.size 3 v1 (intL (nb f (i + 1))) := own_to g1 (by rw [nb_succ, intL_append]; simp [intL])
      clear g1 g2 g3 g4 ho
      go_wp2
      go_roundw
      case rel => exact ⟨i + 1, by go_num, by omega, g1', hb1⟩
      case measure => simp [intOf]; omega
    · obtain rfl : i = n := by omega
      obtain ⟨a, m, c, rfl⟩ := own_sl ho
      have he : Eff (fun _ => False) w wr := Eff.of_below hbw _
      have hw1 := h.eff he (fun _ _ h => h)
      have hRr : wr.cell? ⟨0, 0, none⟩ = some eR := by rw [hbw.cell (by exact Nat.lt_of_lt_of_le hg1 hb)]; exact hR
      have hOr : wr.cell? ⟨5, 0, none⟩ = some eO := by rw [hbw.cell (by exact Nat.lt_of_lt_of_le hg2 hb)]; exact hO
      have C1 := wreset_any wr base p v bs hw1
      have hbb : base ≤ wr.heap.size := Nat.le_trans hb hbw.size
      have hmeq : m = (intL (nb f i)).length := ho.len
      clear hi hlt h he
      go_wp2_with fail
      refine C1.mono ?_
      rintro e w2 ⟨rfl, hw2, hwr2⟩
      have hne : ∀ k, (Value.slice a m c).ownBlock = some k → ¬ WrB p v k := by
        rintro k hk (rfl | hv)
        · exact ho.ne_type hw1.blk (by decide) hk
        · exact own_types ho hw1.own (by decide) hk hv
      have ho2 := ho.eff hwr2.eff hne
      have hb2 := hwr2.below hw1 hbb
      have hR2 : w2.cell? ⟨0, 0, none⟩ = some eR := by rw [hb2.cell hg1]; exact hRr
      have hO2 : w2.cell? ⟨5, 0, none⟩ = some eO := by rw [hb2.cell hg2]; exact hOr
      have hoff : ∀ b o, a = some ⟨b, o, none⟩ → ¬ WrB p (.slice none 0 0) b := by
        rintro b o rfl (rfl | hv)
        · obtain ⟨g, hg⟩ := ho2.someAt (by rw [hmeq, intL_length, nb_length]; omega)
          injection hg with hg; injection hg with hg1 hg2
          subst hg1 hg2
          exact ho2.ne_type hw2.blk (by decide) rfl
        · simp [Value.ownBlock] at hv
      have hbb2 : base ≤ w2.heap.size := Nat.le_trans hbb hwr2.eff.size
      have C2 := wris_any w2 base p _ _ hw2 hbb2 (by simp) a m c (nb f i) ho2.rd (by rw [nb_length]; omega) (nb_fit f i (by omega)) eR eO hR2 hO2 (fun _ => hoff)
      have hbB := hbw.mono hb
      have HB := Lib.hid (hbB.trans hb2)
      clear C1 hwr2 hw1 ho hne ho2 hb2 hR2 hO2 hoff hbB hRr hOr hbw hmeq
      go_wp2_with fail
      refine C2.mono ?_
      rintro e w3 ⟨_, _, h3⟩
      obtain ⟨rfl, v3, hw3, hwr3⟩ := h3 (nb_neg f i) (nb_rises f i)
      have HB3 := Lib.hid (HB.out.trans (hwr3.below hw2 hbb2))
      have C3 := wlen_any w3 _ _ _ _ hw3
      rw [List.nil_append, risB, List.length_append, nb_length] at C3
      obtain ⟨q, rfl⟩ : ∃ q, i = q + 1 := ⟨i - 1, by omega⟩
      rw [nb_gaps] at C3
      have u1 := (uvar_le (q + 1) (by omega)).2
      have u2 := (uvar_le f (by omega)).2
      have C4 := ulen_any (q + 1) w3 (by omega)
      have C5 := ulen_any f w3 (by omega)
      obtain ⟨x, hx⟩ : ∃ x, (uvar (q + 1)).length = x := ⟨_, rfl⟩
      obtain ⟨y, hy⟩ : ∃ y, (uvar f).length = y := ⟨_, rfl⟩
      rw [hx, hy] at C3
      rw [hx] at C4 u1
      rw [hy] at C5 u2
      clear C2 h3 hw2 hwr3 hw3 hx hy
      go_wp2_with fail
      refine C3.mono ?_
      rintro e w' ⟨rfl, rfl⟩
      go_wp2_with fail
      refine C4.mono ?_
      rintro e w' ⟨rfl, rfl⟩
      go_wp2_with fail
      refine C5.mono ?_
      rintro e w' ⟨rfl, rfl⟩
      go_wp2
      go_ret
      refine ⟨ret_bool ?_, HB3.out⟩
      simp; omega
theorem neig_no (w : World) (v : Value) (f n : Int) (h : f < 0 ∨ (0 ≤ f ∧ n < 1) ∨ (0 ≤ f ∧ 1 ≤ n ∧ 5000 < n) ∨ (0 ≤ f ∧ 1 ≤ n ∧ n ≤ 5000 ∧ 9223372036854775807 - n < f)) :
    Calls Tryd.prog 17 #[v, .int .i64 f, .int .i64 n] w fun e w' => e = .returned (.bool true) ∧ w = w' := by
  rcases h with h | ⟨h, h2⟩ | ⟨h, h2, h3⟩ | ⟨h, h2, h3, h4⟩
  · have t1 : decide ((f : Int) < 0) = true := by simp; omega
    go_enter Tryd.func17, Tryd.ntmps17
    go_wp2
    go_ret
    exact ⟨rfl, rfl⟩
  · have t1 : decide ((f : Int) < 0) = false := by simp; omega
    have t2 : decide ((n : Int) < 1) = true := by simp; omega
    go_enter Tryd.func17, Tryd.ntmps17
    go_wp2
    go_ret
    exact ⟨rfl, rfl⟩
  · have t1 : decide ((f : Int) < 0) = false := by simp; omega
    have t2 : decide ((n : Int) < 1) = false := by simp; omega
    have t3 : decide ((5000 : Int) < n) = true := by simp; omega
    go_enter Tryd.func17, Tryd.ntmps17
    go_wp2
    go_ret
    exact ⟨rfl, rfl⟩
  · have t1 : decide ((f : Int) < 0) = false := by simp; omega
    have t2 : decide ((n : Int) < 1) = false := by simp; omega
    have t3 : decide ((5000 : Int) < n) = false := by simp; omega
    have t4 : decide ((9223372036854775807 : Int) - n < f) = true := by simp; omega
    go_enter Tryd.func17, Tryd.ntmps17
    go_wp2
    go_ret
    exact ⟨rfl, rfl⟩

/-- The numbers of a list of ints. -/
def natsOf (l : List Int) : List Nat := l.map Int.toNat
theorem natsOf_length (l : List Int) : (natsOf l).length = l.length := by simp [natsOf]
theorem natI_natsOf {l : List Int} (h : anyNeg l = false) : natI (natsOf l) = l := by
  unfold natI natsOf
  rw [List.map_map]
  conv => rhs; rw [← List.map_id l]
  refine List.map_congr_left fun x hx => ?_
  have := List.any_eq_false.1 h x hx
  simp at this ⊢; omega
theorem natsOf_fit {l : List Int} (h : FitL l) : ∀ x ∈ natsOf l, x < 2 ^ 63 := fun x hx => by
  obtain ⟨z, hz, rfl⟩ := List.mem_map.1 hx
  have := h z hz
  omega
theorem bitLen_shr (x b : Nat) (h : x < 2 ^ 64) : 0 < x / 2 ^ b ↔ b < Lib.bitLen x := by
  constructor
  · intro h0
    have hb : 2 ^ b ≤ x := by
      rcases Nat.lt_or_ge x (2 ^ b) with h1 | h1
      · rw [Nat.div_eq_of_lt h1] at h0; omega
      · exact h1
    have h1 := lt_bitLen x h
    rcases Nat.lt_or_ge b (Lib.bitLen x) with h2 | h2
    · exact h2
    · have := Nat.pow_le_pow_right (show 0 < 2 by decide) h2; omega
  · intro h0
    rcases Nat.lt_or_ge x (2 ^ b) with h1 | h1
    · exfalso
      rcases Nat.lt_or_ge b 64 with h2 | h2
      · have := Lib.bitLen_le x b (by omega) h1; omega
      · have := Lib.bitLen_le x 64 (by omega) h; omega
    · exact Nat.div_pos h1 (Nat.two_pow_pos b)
def zerosB (l : List Int) : Bool := l.all (· == 0)
theorem zerosB_wid {l : List Int} (hf : FitL l) (hn : anyNeg l = false) : zerosB l = true ↔ widL (natsOf l) = 0 := by
  have h := widL_zero (l := natsOf l) (fun x hx => Nat.lt_trans (natsOf_fit hf x hx) (by decide))
  rw [h]
  unfold zerosB natsOf
  rw [List.all_eq_true]
  constructor
  · intro h2 x hx
    obtain ⟨z, hz, rfl⟩ := List.mem_map.1 hx
    have := h2 z hz
    simp at this; omega
  · intro h2 z hz
    have := h2 z.toNat (List.mem_map_of_mem hz)
    have h3 := List.any_eq_false.1 hn z hz
    simp at h3 ⊢; omega
theorem anyNeg_snoc (l : List Int) (x : Int) : anyNeg (l ++ [x]) = (anyNeg l || decide (x < 0)) := by simp [anyNeg]
theorem zerosB_snoc (l : List Int) (x : Int) : zerosB (l ++ [x]) = (zerosB l && (x == 0)) := by simp [zerosB]
theorem natsOf_snoc (l : List Int) (x : Int) : natsOf (l ++ [x]) = natsOf l ++ [x.toNat] := by simp [natsOf]
theorem pckB_length (l : List Nat) : (pckB l).length = (uvar l.length).length + if l = [] then 0 else 1 + (widL l * l.length + 7) / 8 := by
  unfold pckB
  split
  · simp
  · rw [List.length_append, packB, List.length_cons, leB_length, Nat.mul_comm]; omega

set_option maxRecDepth 100000 in
set_option maxHeartbeats 2000000 in
theorem sizes_walk (w : World) (u : Nat) (hu : (u : Int) ≤ 18446744073709551615) (a : Option Addr) (n c : Nat) (l : List Int) (hr : Rd w (.slice a n c) (intL l)) (hl : l.length ≤ 1048576) (hf : FitL l) (f m : Int)
    (EV : Nat → Value) (hS : w.cell? ⟨2, 0, none⟩ = some (EV 1)) (hV : w.cell? ⟨4, 0, none⟩ = some (EV 2)) (hR : w.cell? ⟨0, 0, none⟩ = some (EV 8)) (hO : w.cell? ⟨5, 0, none⟩ = some (EV 4)) :
    Calls Tryd.prog 3 #[.int .u64 u, .slice a n c, .int .i64 f, .int .i64 m] w fun e w' => e = .returned (.bool true) ∧ Below w.heap.size w w' := by
  have C0 := lives_any w EV hS hV
  have HF := Lib.hid hf
  have HN := Lib.hid (rd_get hr).1
  clear hf
  go_enter Tryd.func3, Tryd.ntmps3
  go_wp2_with fail
  refine C0.mono ?_
  rintro e w1 ⟨rfl, hb1⟩
  clear C0
  go_wp2
  go_loopw [10, 11] (fun s10 s11 wr => ∃ b x : Nat, s10 = .int .i64 b ∧ s11 = .int .u64 x ∧ b ≤ 10 ∧ x ≤ u ∧ b + (if x = 0 then 0 else (uvar x).length) = (uvar u).length ∧ w1 = wr) (fun _ s _ => (intOf s).toNat)
  case atStart =>
    refine ⟨1, u / 128, rfl, rfl, by omega, by omega, ?_, rfl⟩
    by_cases h : u < 128
    · rw [if_pos (by omega), uvar_small h]; rfl
    · rw [if_neg (by omega), uvar_big h, List.length_cons]; omega
  case round =>
    obtain ⟨b, x, rfl, rfl, hb, hx, hlen, rfl⟩ := hrel
    have hul := (uvar_le u (by omega)).2
    by_cases hx0 : 0 < x
    · have hxl := (uvar_le x (by omega)).1
      have hn0 : ¬ x = 0 := by omega
      rw [if_neg hn0] at hlen
      have HL := Lib.hid hlen
      have hb9 : b ≤ 9 := by omega
      clear hlen hn0
      go_wp2
      go_roundw
      case rel =>
        refine ⟨b + 1, x / 128, by go_num, by go_num, by omega, by omega, ?_, by first | rfl | trivial⟩
        have hlen := HL.out
        by_cases h : x < 128
        · rw [if_pos (by omega)]; rw [uvar_small h] at hlen; simpa using hlen
        · rw [if_neg (by omega)]; rw [uvar_big h, List.length_cons] at hlen; omega
      case measure => simp [intOf]; omega
    · obtain rfl : x = 0 := by omega
      rw [if_pos rfl, Nat.add_zero] at hlen
      subst hlen
      go_wp2_with fail
      refine (nw_any w1).mono ?_
      rintro e w' ⟨rfl, rfl⟩
      have hw0 := wr_new w1
      have hb2 : Below w.heap.size w (w1.alloc (.cells #[.slice none 0 0] 87)) := hb1.alloc hb1.size _
      have hsz2 : w1.heap.size ≤ (w1.alloc (.cells #[.slice none 0 0] 87)).heap.size := by simp
      generalize w1.alloc (.cells #[.slice none 0 0] 87) = w2 at hw0 hb2 hsz2 ⊢
      have hsz1 := hb1.size
      obtain ⟨B, hB⟩ : ∃ B, w1.heap.size = B := ⟨_, rfl⟩
      rw [hB] at hw0 hsz1 hsz2 ⊢
      clear hB hb1
      have C1 := ulen_any u w2 hu
      have C2 := wuv_any w2 B B _ _ hw0 hsz2 (by simp) u hu
      rw [List.nil_append] at C2
      obtain ⟨U, hU⟩ : ∃ U, (uvar u).length = U := ⟨_, rfl⟩
      rw [hU] at hul C1 ⊢
      have HU := Lib.hid hU
      clear hU hx0 hb
      go_wp2_with fail
      refine C1.mono ?_
      rintro e w' ⟨rfl, rfl⟩
      go_wp2_with fail
      refine C2.mono ?_
      rintro e w3 ⟨rfl, v3, hw3, hwr3⟩
      have hb3 := hb2.trans ((hwr3.below hw0 hsz2).mono hsz1)
      have C3 := wlen_any w3 B B _ _ hw3
      have C4 := wreset_any w3 B B _ _ hw3
      rw [HU.out] at C3
      have hsz3 := Nat.le_trans hsz2 hwr3.eff.size
      clear C1 C2 hw0 hwr3 hb2 HU
      go_wp2_with fail
      refine C3.mono ?_
      rintro e w' ⟨rfl, rfl⟩
      go_wp2_with fail
      refine C4.mono ?_
      rintro e w5 ⟨rfl, hw5, hwr5⟩
      have hb5 := hb3.trans ((hwr5.below hw3 hsz3).mono hsz1)
      have hsz5 := Nat.le_trans hsz3 hwr5.eff.size
      have hr5 := hr.below hb5 (Nat.le_refl _)
      have HR5 := Lib.hid hr5
      have HB5 := Lib.hid hb5
      have HW5 := Lib.hid hw5
      clear C3 C4 hw3 hwr5 hb3 hr5 hb5 hw5 hsz3
      obtain rfl := HN.out
      go_wp2
      go_loopw [13, 14, 50] (fun s13 s14 s50 wr => ∃ i b : Nat, s50 = .int .i64 i ∧ i ≤ l.length ∧ s13 = .int .i64 b ∧ s14 = .bool (zerosB (l.take i)) ∧ b ≤ 63 ∧ anyNeg (l.take i) = false ∧ widL (natsOf (l.take i)) = b ∧ w5 = wr) (fun _ _ s _ => l.length - (intOf s).toNat)
      case atStart => exact ⟨0, 0, rfl, Nat.zero_le _, rfl, rfl, by omega, rfl, rfl, rfl⟩
      case round =>
        obtain ⟨i, b, rfl, hi, rfl, rfl, hb, hno, hwid, rfl⟩ := hrel
        have HNO := Lib.hid hno
        have HWI := Lib.hid hwid
        clear hno hwid
        by_cases hlt : i < l.length
        · have hfz := HF.out l[i] (List.getElem_mem hlt)
          obtain ⟨_, hgg⟩ := rd_get HR5.out
          obtain ⟨q, o, rfl, hg⟩ := hgg (by omega)
          have hc := hg i hlt
          obtain ⟨x, hx⟩ : ∃ x, l[i] = x := ⟨_, rfl⟩
          rw [hx] at hc hfz
          have HT := Lib.hid (show l.take (i + 1) = l.take i ++ [x] by rw [List.take_add_one, List.getElem?_eq_getElem hlt, hx]; rfl)
          obtain ⟨z, hz⟩ : ∃ z, zerosB (l.take i) = z := ⟨_, rfl⟩
          rw [hz]
          have HZ := Lib.hid hz
          clear hg hgg hx hz
          by_cases hneg : x < 0
          · go_wp2
            go_ret
            exact ⟨rfl, HB5.out⟩
          · obtain ⟨X, rfl⟩ : ∃ X : Nat, x = X := ⟨x.toNat, by omega⟩
            have hX : Lib.bitLen X ≤ 63 := Lib.bitLen_le X 63 (by decide) (by omega)
            have HSH := Lib.hid (fun b => bitLen_shr X b (by omega))
            go_wp2
            go_loop [13] (fun s => ∃ b' : Nat, s = .int .i64 b' ∧ b ≤ b' ∧ b' ≤ max b (Lib.bitLen X)) (fun s => 63 - (intOf s).toNat)
            case atStart => exact ⟨b, rfl, Nat.le_refl _, by omega⟩
            case round =>
              obtain ⟨b', rfl, hb1, hb2⟩ := hrel
              by_cases hlt2 : b' < Lib.bitLen X
              · have t1 : decide ((b' : Int) < 63) = true := by simp; omega
                have t2 : decide ((0 : Int) < (X : Int) / 2 ^ b') = true := by
                  have := (HSH.out b').2 hlt2
                  rw [show (X : Int) / 2 ^ b' = ((X / 2 ^ b' : Nat) : Int) by simp]
                  exact decide_eq_true (by omega)
                go_wp2
                go_round
                case rel => exact ⟨b' + 1, by go_num, by omega, by omega⟩
                case measure => simp [intOf]; omega
              · have t3 : b' = 63 ∨ b' < 63 := by omega
                have hmax : widL (natsOf (l.take (i + 1))) = b' := by
                  rw [HT.out, natsOf_snoc, widL_append, HWI.out, Int.toNat_natCast]
                  simp [widL]; omega
                have hneg2 : anyNeg (l.take (i + 1)) = false := by rw [HT.out, anyNeg_snoc, HNO.out]; simp
                have HMX := Lib.hid hmax
                have HNG := Lib.hid hneg2
                clear hmax hneg2
                rcases t3 with t3 | t3
                · have t1 : decide ((b' : Int) < 63) = false := by simp; omega
                  have H3 := Lib.hid t3
                  clear t3
                  cases z
                  · go_wp2
                    go_roundw
                    case rel => exact ⟨i + 1, b', by go_num, by omega, rfl, by rw [HT.out, zerosB_snoc, HZ.out]; rfl, by omega, HNG.out, HMX.out, by first | rfl | trivial⟩
                    case measure => simp [intOf]; omega
                  · go_wp2
                    go_roundw
                    case rel => exact ⟨i + 1, b', by go_num, by omega, rfl, by rw [HT.out, zerosB_snoc, HZ.out]; rfl, by omega, HNG.out, HMX.out, by first | rfl | trivial⟩
                    case measure => simp [intOf]; omega
                · have t1 : decide ((b' : Int) < 63) = true := by simp; omega
                  have t2 : decide ((0 : Int) < (X : Int) / 2 ^ b') = false := by
                    have := fun h => hlt2 ((HSH.out b').1 h)
                    rw [show (X : Int) / 2 ^ b' = ((X / 2 ^ b' : Nat) : Int) by simp, show X / 2 ^ b' = 0 from Nat.eq_zero_of_not_pos this]
                    rfl
                  cases z
                  · go_wp2
                    go_roundw
                    case rel => exact ⟨i + 1, b', by go_num, by omega, rfl, by rw [HT.out, zerosB_snoc, HZ.out]; rfl, by omega, HNG.out, HMX.out, by first | rfl | trivial⟩
                    case measure => simp [intOf]; omega
                  · go_wp2
                    go_roundw
                    case rel => exact ⟨i + 1, b', by go_num, by omega, rfl, by rw [HT.out, zerosB_snoc, HZ.out]; rfl, by omega, HNG.out, HMX.out, by first | rfl | trivial⟩
                    case measure => simp [intOf]; omega
        · obtain rfl : i = l.length := by omega
          have hno := HNO.out
          have hwid := HWI.out
          rw [List.take_length] at hno hwid ⊢
          have hfit := HF.out
          have hzw := zerosB_wid hfit hno
          rw [hwid] at hzw
          have hFN := natsOf_fit hfit
          have hnl := natI_natsOf hno
          have hpl := pckB_length (natsOf l)
          have hrN : Rd w5 (.slice a l.length c) (intL (natI (natsOf l))) := by rw [hnl]; exact HR5.out
          rw [natsOf_length, hwid] at hpl
          have hoff : 0 < (natsOf l).length → ∀ b o, a = some ⟨b, o, none⟩ → ¬ WrB B (.slice none 0 0) b := by
            intro h0 q o ha hw
            rw [natsOf_length] at h0
            obtain ⟨_, hgg⟩ := rd_get hr
            obtain ⟨q', o', ha', hg⟩ := hgg h0
            rw [ha'] at ha
            injection ha with ha
            injection ha with ha1 ha2
            have := World.block_lt_of_cell? w _ (hg 0 h0)
            subst ha1
            rcases hw with hw | hw
            · subst hw; simp at this; omega
            · simp [Value.ownBlock] at hw
          by_cases hbig : zerosB l = true ∧ 65536 < l.length
          · obtain ⟨hz, hl2⟩ := hbig
            rw [hz]
            have t1 : decide ((65536 : Int) < l.length) = true := by simp; omega
            clear hno hwid hzw hFN hnl hpl hrN hoff hfit hz
            go_wp2
            go_ret
            exact ⟨rfl, HB5.out⟩
          · have hcase : natsOf l = [] ∨ (0 < (natsOf l).length ∧ widL (natsOf l) = 0 ∧ (natsOf l).length ≤ 65536) ∨ (0 < (natsOf l).length ∧ 0 < widL (natsOf l)) := by
              rw [natsOf_length, hwid]
              rcases Nat.eq_zero_or_pos l.length with h0 | h0
              · left; exact List.eq_nil_of_length_eq_zero (by rw [natsOf_length]; exact h0)
              · rcases Nat.eq_zero_or_pos b with hb0 | hb0
                · right; left
                  refine ⟨h0, hb0, ?_⟩
                  have hz := hzw.2 hb0
                  rcases Nat.lt_or_ge 65536 l.length with h2 | h2
                  · exact absurd ⟨hz, h2⟩ hbig
                  · exact h2
                · right; right; exact ⟨h0, hb0⟩
            have C1 := wpck_ok w5 B B _ _ HW5.out hsz5 (by simp) a _ c (natsOf l) hrN (by rw [natsOf_length]; omega) hFN hcase hoff
            rw [List.nil_append] at C1
            obtain ⟨UL, hUL⟩ : ∃ UL, (uvar l.length).length = UL := ⟨_, rfl⟩
            have hule := (uvar_le l.length (by omega)).2
            have C2 := fun w => ulen_any l.length w (by omega)
            rw [hUL] at hpl hule C2
            have HPL := Lib.hid hpl
            have HZ := Lib.hid hbig
            have hRB : w5.cell? ⟨0, 0, none⟩ = some (EV 8) := by rw [HB5.out.cell (World.block_lt_of_cell? w _ hR)]; exact hR
            have hOB : w5.cell? ⟨5, 0, none⟩ = some (EV 4) := by rw [HB5.out.cell (World.block_lt_of_cell? w _ hO)]; exact hO
            have hg1 : 0 < B := Nat.lt_of_lt_of_le (World.block_lt_of_cell? w _ hR) hsz1
            have hg2 : 5 < B := Nat.lt_of_lt_of_le (World.block_lt_of_cell? w _ hO) hsz1
            have hzz : zerosB l = false ∨ (zerosB l = true ∧ decide ((65536 : Int) < l.length) = false) := by
              cases hz : zerosB l with
              | false => exact .inl rfl
              | true => exact .inr ⟨rfl, by simp; rcases Nat.lt_or_ge 65536 l.length with h2 | h2; exact absurd ⟨hz, h2⟩ hbig; omega⟩
            have hbl : b * l.length ≤ 63 * 1048576 := Nat.mul_le_mul hb hl
            have hbli : (b : Int) * (l.length : Int) ≤ 66060288 := by rw [← Int.natCast_mul]; omega
            have hbl0 : 0 ≤ (b : Int) * (l.length : Int) := by rw [← Int.natCast_mul]; omega
            clear hno hwid hzw hFN hnl hpl hrN hoff hfit hbig hcase hUL
            rcases hzz with hz | ⟨hz, t1⟩
            all_goals
              rw [hz]
              clear hz
              go_wp2_with fail
              refine C1.mono ?_
              rintro e w6 ⟨rfl, v6, hw6, hwr6⟩
              have HB6 := Lib.hid (HB5.out.trans ((hwr6.below HW5.out hsz5).mono hsz1))
              have hsz6 := Nat.le_trans hsz5 hwr6.eff.size
              have C3 := wlen_any w6 B B _ _ hw6
              have hb6 := hwr6.below HW5.out hsz5
              have hR6 : w6.cell? ⟨0, 0, none⟩ = some (EV 8) := by rw [hb6.cell hg1]; exact hRB
              have hO6 : w6.cell? ⟨5, 0, none⟩ = some (EV 4) := by rw [hb6.cell hg2]; exact hOB
              obtain ⟨P, hP⟩ : ∃ P, (pckB (natsOf l)).length = P := ⟨_, rfl⟩
              have HP := Lib.hid hP
              rw [hP] at C3
              clear C1 hwr6 hb6 hP hRB hOB
              go_wp2_with fail
              refine (C2 w6).mono ?_
              rintro e w' ⟨rfl, rfl⟩
              have hlen0 : l.length = 0 ∨ 0 < l.length := Nat.eq_zero_or_pos _
              rcases hlen0 with hl0 | hl0
              · have t5 : decide ((0 : Int) < l.length) = false := decide_eq_false (by omega)
                have hPe : P = UL := by
                  rw [← HP.out, HPL.out, if_pos (List.eq_nil_of_length_eq_zero (by rw [natsOf_length]; exact hl0)), Nat.add_zero]
                have HPI := Lib.hid hPe
                obtain rfl : l = [] := List.eq_nil_of_length_eq_zero hl0
                clear hPe hl0 t5
                go_wp2_with fail
                refine C3.mono ?_
                rintro e w' ⟨rfl, rfl⟩
                have hPi := HPI.out
                subst hPi
                have hPb : (pckB (natsOf [])).length ≤ 10000000000 := by rw [HP.out]; omega
                have hq : (f < 0 ∨ (0 ≤ f ∧ m < 1) ∨ (0 ≤ f ∧ 1 ≤ m ∧ 5000 < m) ∨ (0 ≤ f ∧ 1 ≤ m ∧ m ≤ 5000 ∧ 9223372036854775807 - m < f)) ∨ (0 ≤ f ∧ 1 ≤ m ∧ m ≤ 5000 ∧ f + m ≤ 9223372036854775807) := by omega
                rcases hq with hq | ⟨q1, q2, q3, q4⟩
                · have C8 := neig_no w6 (.pointer (some ⟨B, 0, none⟩)) f m hq
                  clear hq hPb
                  go_wp2_with fail
                  refine C8.mono ?_
                  rintro e w' ⟨rfl, rfl⟩
                  go_wp2
                  go_ret
                  exact ⟨rfl, HB6.out⟩
                · obtain ⟨F, rfl⟩ : ∃ F : Nat, f = F := ⟨f.toNat, by omega⟩
                  obtain ⟨M, rfl⟩ : ∃ M : Nat, m = M := ⟨m.toNat, by omega⟩
                  have C8 := neig_ok w6 B B _ _ hw6 hsz6 hPb F M (by omega) (by omega) q4 _ _ hR6 hO6 hg1 hg2
                  clear hPb
                  go_wp2_with fail
                  refine C8.mono ?_
                  rintro e w7 ⟨rfl, hb7⟩
                  go_wp2
                  go_ret
                  exact ⟨rfl, HB6.out.trans (hb7.mono hsz1)⟩
              · have t5 : decide ((0 : Int) < l.length) = true := decide_eq_true (by omega)
                have hPe : P = UL + (1 + (b * l.length + 7) / 8) := by
                  rw [← HP.out, HPL.out, if_neg (fun e => by rw [← natsOf_length, e] at hl0; simp at hl0)]
                have hPi : (P : Int) = (UL : Int) + (1 + ((b : Int) * (l.length : Int) + 7) / 8) := by rw [hPe]; simp
                have HPI := Lib.hid hPi
                clear hPe hPi
                go_wp2_with fail
                refine C3.mono ?_
                rintro e w' ⟨rfl, rfl⟩
                have hPi := HPI.out
                have t6 : ((P : Int) != ((UL : Int) + (1 + ((b : Int) * (l.length : Int) + 7) / 8))) = false := by simp; omega
                clear hPi
                have hPb : (pckB (natsOf l)).length ≤ 10000000000 := by rw [HP.out]; have := HPI.out; omega
                have hq : (f < 0 ∨ (0 ≤ f ∧ m < 1) ∨ (0 ≤ f ∧ 1 ≤ m ∧ 5000 < m) ∨ (0 ≤ f ∧ 1 ≤ m ∧ m ≤ 5000 ∧ 9223372036854775807 - m < f)) ∨ (0 ≤ f ∧ 1 ≤ m ∧ m ≤ 5000 ∧ f + m ≤ 9223372036854775807) := by omega
                rcases hq with hq | ⟨q1, q2, q3, q4⟩
                · have C8 := neig_no w6 (.pointer (some ⟨B, 0, none⟩)) f m hq
                  clear hq hPb
                  go_wp2_with fail
                  refine C8.mono ?_
                  rintro e w' ⟨rfl, rfl⟩
                  go_wp2
                  go_ret
                  exact ⟨rfl, HB6.out⟩
                · obtain ⟨F, rfl⟩ : ∃ F : Nat, f = F := ⟨f.toNat, by omega⟩
                  obtain ⟨M, rfl⟩ : ∃ M : Nat, m = M := ⟨m.toNat, by omega⟩
                  have C8 := neig_ok w6 B B _ _ hw6 hsz6 hPb F M (by omega) (by omega) q4 _ _ hR6 hO6 hg1 hg2
                  clear hPb
                  go_wp2_with fail
                  refine C8.mono ?_
                  rintro e w7 ⟨rfl, hb7⟩
                  go_wp2
                  go_ret
                  exact ⟨rfl, HB6.out.trans (hb7.mono hsz1)⟩
end Go.Proofs.YtmmflhippbegaaaDoor

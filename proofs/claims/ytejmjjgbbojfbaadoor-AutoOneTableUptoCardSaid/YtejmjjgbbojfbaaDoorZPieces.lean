/- The walk of the law AutoPieces. -/
import Derived.Test.YtejmjjgbbojfbaaDoorZLit
namespace Go.Proofs.YtejmjjgbbojfbaaDoor
set_option linter.unusedVariables false
open Go.ChangeShapes Go.WideShapes Go.ChangeAt Go.RowKit

/-- A list of texts as cells. -/
def strsV (l : List ByteArray) : List Value := l.map Value.string
theorem strsV_length (l : List ByteArray) : (strsV l).length = l.length := by simp [strsV]
theorem strsV_get {l : List ByteArray} {i : Nat} (h : i < l.length) : (strsV l)[i]? = some (.string l[i]) := by simp [strsV, h]
theorem rd_strs {w : World} {a : Option Addr} {n c : Nat} {l : List ByteArray} (h : Rd w (.slice a n c) (strsV l)) : n = l.length ∧ ∀ i, (hi : i < l.length) → ∃ b o, a = some ⟨b, o, none⟩ ∧ w.cell? ⟨b, o + i, none⟩ = some (.string l[i]) := by
  obtain ⟨A, c', hv, _, hg⟩ := h
  injection hv with h1 h2 h3
  subst h1 h2 h3
  rw [strsV_length] at hg ⊢
  refine ⟨rfl, fun i hi => ?_⟩
  obtain ⟨b, o, e, hg⟩ := hg (by omega)
  exact ⟨b, o, e, hg i _ (strsV_get hi)⟩
def tl (b : ByteArray) : List UInt8 := b.data.toList
theorem tl_app (a b : ByteArray) : tl (a ++ b) = tl a ++ tl b := by unfold tl; rw [ByteArray.data_append, Array.toList_append]
theorem tl_len (b : ByteArray) : (tl b).length = b.size := Array.length_toList (xs := b.data)
theorem tl_str (l : List UInt8) : tl (strOf l) = l := by unfold tl strOf; rw [List.toList_toArray]
/-- P reads as the elements es, whatever stands behind. -/
def Pat (P : List UInt8) (es : List PEl) : Prop := ∀ r, elems (P ++ r) = (elems r).map (es ++ ·)
theorem pat_nil : Pat [] [] := fun r => by simp
theorem Pat.app {P : List UInt8} {es es' : List PEl} {Q : List UInt8} (h : Pat P es) (h' : Pat Q es') : Pat (P ++ Q) (es ++ es') := fun r => by
  rw [List.append_assoc, h, h' r]; cases elems r <;> simp
theorem pat_lit (l : List UInt8) : Pat (litB l) (l.map fun c => ((0 : Nat), c)) := fun r => elems_lit l r
theorem pat_star : Pat [42] [(2, 0)] := fun r => by rw [List.cons_append, List.nil_append, elems_star]; rfl
theorem pat_gap : Pat [63] [(1, 0)] := fun r => by rw [List.cons_append, List.nil_append, elems_gap]; rfl
theorem Pat.el {P : List UInt8} {es : List PEl} (h : Pat P es) : elems P = some es := by
  have := h []; rw [List.append_nil] at this; rw [this]; simp [elems]
theorem one_of {b : ByteArray} (h : b.size = 1) : ∃ c, tl b = [c] := List.length_eq_one_iff.1 (by rw [tl_len]; exact h)

set_option maxRecDepth 100000 in
set_option maxHeartbeats 2000000 in
theorem pieces_walk (w : World) (a : Option Addr) (n c : Nat) (ls : List ByteArray) (hr : Rd w (.slice a n c) (strsV ls)) (a2 : Option Addr) (n2 c2 : Nat) (fs : List ByteArray) (hr2 : Rd w (.slice a2 n2 c2) (strsV fs))
    (hn : ls.length ≤ 1000000000) (hn2 : fs.length ≤ 1000000000) (hz : ∀ b ∈ ls, b.size ≤ 1000000000) (hz2 : ∀ b ∈ fs, b.size ≤ 1000000000) (eP : Value) (hP : w.cell? ⟨2, 0, none⟩ = some eP) :
    Calls Tryd.prog 6 #[.slice a n c, .slice a2 n2 c2] w fun e w' => e = .returned (.bool true) ∧ Below w.heap.size w w' := by
  have C0 := lives_any w eP hP
  obtain rfl := (rd_strs hr).1
  obtain rfl := (rd_strs hr2).1
  have hPl := World.block_lt_of_cell? w _ hP
  have HR := Lib.hid hr
  have HR2 := Lib.hid hr2
  have HP := Lib.hid hP
  have HZ := Lib.hid hz
  have HZ2 := Lib.hid hz2
  clear hr hr2 hP hz hz2
  go_enter Tryd.func6, Tryd.ntmps6
  go_wp2_with fail
  refine C0.mono ?_
  rintro e w1 ⟨rfl, hb1⟩
  have HB1 := Lib.hid hb1
  clear C0 hb1
  by_cases h40 : 40 < ls.length
  · go_wp2
    go_ret
    exact ⟨rfl, HB1.out⟩
  by_cases h40b : 40 < fs.length
  · go_wp2
    go_ret
    exact ⟨rfl, HB1.out⟩
  go_wp2
  go_loopw [6, 7, 33] (fun s6 s7 s33 wr => ∃ (i : Nat) (P S : ByteArray) (es : List PEl), s33 = .int .i64 i ∧ i ≤ ls.length ∧ s6 = .string P ∧ s7 = .string S ∧ P.size ≤ 121 * i ∧ S.size ≤ 120 * i ∧ Pat (tl P) es ∧ MtA es (tl S) ∧ Below w.heap.size w wr) (fun _ _ s33 _ => ls.length - (intOf s33).toNat)
  case atStart => exact ⟨0, ⟨#[]⟩, ⟨#[]⟩, [], rfl, Nat.zero_le _, rfl, rfl, Nat.le_refl _, Nat.le_refl _, pat_nil, rfl, HB1.out⟩
  case round =>
    clear HB1
    obtain ⟨i, P, S, es, rfl, hi, rfl, rfl, hps, hss, hpat, hmt, hb⟩ := hrel
    have HPAT := Lib.hid hpat
    have HMT := Lib.hid hmt
    clear hpat hmt
    by_cases hlt : i < ls.length
    · obtain ⟨b, o, rfl, hc⟩ := (rd_strs (HR.out.below hb (Nat.le_refl _))).2 i hlt
      have hlz := HZ.out ls[i] (List.getElem_mem hlt)
      obtain ⟨l, hl⟩ : ∃ l, ls[i] = l := ⟨_, rfl⟩
      rw [hl] at hc hlz
      clear hl
      by_cases h60 : 60 < l.size
      · have HB := Lib.hid hb
        clear hb
        go_wp2
        go_ret
        exact ⟨rfl, HB.out⟩
      · have C1 := literal_any wr l hlz
        obtain ⟨L, hL⟩ : ∃ L, strOf (litB l.data.toList) = L := ⟨_, rfl⟩
        have hLl : L.size ≤ 120 := by
          rw [← hL, strOf_size]
          have h1 := litB_len l.data.toList
          have h2 := tl_len l
          unfold tl at h2; omega
        have hLt : tl L = litB (tl l) := by rw [← hL, tl_str]; rfl
        rw [hL] at C1
        have HL := Lib.hid hLt
        have hsum1 : P.size + L.size ≤ 9223372036854775807 := by omega
        have hsum2 : S.size + l.size ≤ 9223372036854775807 := by omega
        have HB := Lib.hid hb
        clear hL hLt hb
        go_wp2_with fail
        refine C1.mono ?_
        rintro e w2 ⟨rfl, hb2⟩
        have hb2' := HB.out.trans (hb2.mono HB.out.size)
        clear C1 hb2
        have hps1 : (P ++ L).size = P.size + L.size := ByteArray.size_append
        have hss1 : (S ++ l).size = S.size + l.size := ByteArray.size_append
        have hpat1 : Pat (tl (P ++ L)) (es ++ (tl l).map fun c => ((0 : Nat), c)) := by rw [tl_app, HL.out]; exact HPAT.out.app (pat_lit _)
        have hmt1 : MtA (es ++ (tl l).map fun c => ((0 : Nat), c)) (tl (S ++ l)) := by rw [tl_app]; exact HMT.out.letters _
        have HPS1 := Lib.hid hps1
        have HSS1 := Lib.hid hss1
        have HPAT1 := Lib.hid hpat1
        have HMT1 := Lib.hid hmt1
        clear hps1 hss1 hpat1 hmt1
        by_cases hf : i < fs.length
        · obtain ⟨b2, o2, rfl, hc2⟩ := (rd_strs (HR2.out.below hb2' (Nat.le_refl _))).2 i hf
          have hfz := HZ2.out fs[i] (List.getElem_mem hf)
          obtain ⟨f, hff⟩ : ∃ f, fs[i] = f := ⟨_, rfl⟩
          rw [hff] at hc2 hfz
          clear hff
          have HB2 := Lib.hid hb2'
          clear hb2'
          by_cases h60b : 60 < f.size
          · go_wp2
            go_ret
            exact ⟨rfl, HB2.out⟩
          · have hsum3 : (S ++ l).size + f.size ≤ 9223372036854775807 := by rw [HSS1.out]; omega
            have hsum4 : (P ++ L).size + 1 ≤ 9223372036854775807 := by rw [HPS1.out]; omega
            have hsum5 : (P ++ L).size + (⟨#[63]⟩ : ByteArray).size ≤ 9223372036854775807 := hsum4
            have hsum6 : (P ++ L).size + (⟨#[42]⟩ : ByteArray).size ≤ 9223372036854775807 := hsum4
            have hfin : ∀ q : UInt8, (P ++ L ++ ⟨#[q]⟩).size ≤ 121 * (i + 1) ∧ (S ++ l ++ f).size ≤ 120 * (i + 1) := fun q => by
              simp only [ByteArray.size_append, show (⟨#[q]⟩ : ByteArray).size = 1 from rfl]; omega
            have hstar : Pat (tl (P ++ L ++ ⟨#[42]⟩)) (es ++ (tl l).map (fun c => ((0 : Nat), c)) ++ [(2, 0)]) ∧ MtA (es ++ (tl l).map (fun c => ((0 : Nat), c)) ++ [(2, 0)]) (tl (S ++ l ++ f)) :=
              ⟨by rw [tl_app]; exact HPAT1.out.app pat_star, by rw [tl_app]; exact HMT1.out.star 0 _⟩
            have hgap : f.size = 1 → Pat (tl (P ++ L ++ ⟨#[63]⟩)) (es ++ (tl l).map (fun c => ((0 : Nat), c)) ++ [(1, 0)]) ∧ MtA (es ++ (tl l).map (fun c => ((0 : Nat), c)) ++ [(1, 0)]) (tl (S ++ l ++ f)) := fun h1 => by
              obtain ⟨c, hc⟩ := one_of h1
              exact ⟨by rw [tl_app]; exact HPAT1.out.app pat_gap, by rw [tl_app (S ++ l) f, hc]; exact HMT1.out.gap 0 c⟩
            have HFIN := Lib.hid hfin
            have HSTAR := Lib.hid hstar
            have HGAP := Lib.hid hgap
            clear hfin hstar hgap
            by_cases h1 : f.size = 1
            · by_cases h2 : i % 2 = 0
              · have t1 : ((f.size : Int) == 1) = true := by simp; omega
                have t2 : (Int.tmod (i : Int) 2 == 0) = true := by rw [Int.tmod_eq_emod_of_nonneg (by omega)]; simp; omega
                have H1 := Lib.hid h1
                clear h1
                go_wp2
                go_roundw
                case rel => exact ⟨i + 1, _, _, _, by go_num, by omega, rfl, rfl, (HFIN.out 63).1, (HFIN.out 63).2, (HGAP.out H1.out).1, (HGAP.out H1.out).2, HB2.out⟩
                case measure => simp [intOf]; omega
              · have t1 : ((f.size : Int) == 1) = true := by simp; omega
                have t2 : (Int.tmod (i : Int) 2 == 0) = false := by rw [Int.tmod_eq_emod_of_nonneg (by omega)]; simp; omega
                clear h1
                go_wp2
                go_roundw
                case rel => exact ⟨i + 1, _, _, _, by go_num, by omega, rfl, rfl, (HFIN.out 42).1, (HFIN.out 42).2, HSTAR.out.1, HSTAR.out.2, HB2.out⟩
                case measure => simp [intOf]; omega
            · have t1 : ((f.size : Int) == 1) = false := by simp; omega
              go_wp2
              go_roundw
              case rel => exact ⟨i + 1, _, _, _, by go_num, by omega, rfl, rfl, (HFIN.out 42).1, (HFIN.out 42).2, HSTAR.out.1, HSTAR.out.2, HB2.out⟩
              case measure => simp [intOf]; omega
        · have HB2 := Lib.hid hb2'
          clear hb2'
          go_wp2
          go_roundw
          case rel => exact ⟨i + 1, P ++ L, S ++ l, _, by go_num, by omega, rfl, rfl, by rw [HPS1.out]; omega, by rw [HSS1.out]; omega, HPAT1.out, HMT1.out, HB2.out⟩
          case measure => simp [intOf]; omega
    · obtain rfl : i = ls.length := by omega
      have hstar := Pat.el (HPAT.out.app pat_star)
      have hgap := Pat.el (HPAT.out.app pat_gap)
      have C1 := wild_any wr P (by omega) eP (by rw [hb.cell hPl]; exact HP.out)
      have s1 : P.size + (⟨#[42]⟩ : ByteArray).size ≤ 9223372036854775807 := by show P.size + 1 ≤ _; omega
      have s2 : P.size + (⟨#[63]⟩ : ByteArray).size ≤ 9223372036854775807 := by show P.size + 1 ≤ _; omega
      have s3 : S.size + (⟨#[120, 121, 122]⟩ : ByteArray).size ≤ 9223372036854775807 := by show S.size + 3 ≤ _; omega
      have s4 : S.size + (⟨#[120]⟩ : ByteArray).size ≤ 9223372036854775807 := by show S.size + 1 ≤ _; omega
      have z1 : (P ++ ⟨#[42]⟩).size ≤ 1000000000 := by rw [ByteArray.size_append]; show P.size + 1 ≤ _; omega
      have z2 : (P ++ ⟨#[63]⟩).size ≤ 1000000000 := by rw [ByteArray.size_append]; show P.size + 1 ≤ _; omega
      have z3 : (S ++ ⟨#[120, 121, 122]⟩).size ≤ 1000000000 := by rw [ByteArray.size_append]; show S.size + 3 ≤ _; omega
      have z4 : (S ++ ⟨#[120]⟩).size ≤ 1000000000 := by rw [ByteArray.size_append]; show S.size + 1 ≤ _; omega
      have z5 : S.size ≤ 1000000000 := by omega
      have HST := Lib.hid hstar
      have HGP := Lib.hid hgap
      have HB := Lib.hid hb
      clear hstar hgap hb
      go_wp2_with fail
      refine C1.mono ?_
      rintro e w2 ⟨h1, _⟩
      obtain ⟨p1, rfl, _, ha1, hb1⟩ := h1 es HPAT.out.el
      have hb1' := HB.out.trans (hb1.mono HB.out.size)
      have C2 := wild_any w2 (P ++ ⟨#[42]⟩) z1 eP (by rw [hb1'.cell hPl]; exact HP.out)
      have HA1 := Lib.hid ha1
      have HB1 := Lib.hid hb1'
      clear C1 h1 ha1 hb1 hb1'
      go_wp2_with fail
      refine C2.mono ?_
      rintro e w3 ⟨h1, _⟩
      obtain ⟨p2, rfl, _, ha2, hb2⟩ := h1 _ (by have := HST.out; rw [show (P ++ ⟨#[42]⟩ : ByteArray).data.toList = tl P ++ [42] from tl_app P _]; exact this)
      have hb2' := HB1.out.trans (hb2.mono HB1.out.size)
      have C3 := wild_any w3 (P ++ ⟨#[63]⟩) z2 eP (by rw [hb2'.cell hPl]; exact HP.out)
      have HA1b := Lib.hid (HA1.out.below hb2)
      have HA2 := Lib.hid ha2
      have HB2 := Lib.hid hb2'
      clear C2 h1 ha2 hb2 hb2'
      go_wp2_with fail
      refine C3.mono ?_
      rintro e w4 ⟨h1, _⟩
      obtain ⟨p3, rfl, _, ha3, hb3⟩ := h1 _ (by have := HGP.out; rw [show (P ++ ⟨#[63]⟩ : ByteArray).data.toList = tl P ++ [63] from tl_app P _]; exact this)
      have hb3' := HB2.out.trans (hb3.mono HB2.out.size)
      have hA1 := HA1b.out.below hb3
      have HA2b := Lib.hid (HA2.out.below hb3)
      have HA3 := Lib.hid ha3
      have C4 := accepts_any w4 p1 _ hA1 S (by omega)
      rw [show accM (wildM es) S.data.toList = true from (acc_mt es _).2 HMT.out] at C4
      have HB3 := Lib.hid hb3'
      clear C3 h1 ha3 hb3 hb3' hA1
      go_wp2_with fail
      refine C4.mono ?_
      rintro e w5 ⟨rfl, hb4⟩
      have hA2 := HA2b.out.below hb4
      have HA3b := Lib.hid (HA3.out.below hb4)
      have C5 := accepts_any w5 p2 _ hA2 S (by omega)
      rw [show accM (wildM (es ++ [(2, 0)])) S.data.toList = true from (acc_mt _ _).2 (by have := HMT.out.star 0 []; rw [List.append_nil] at this; exact this)] at C5
      have HA2c := Lib.hid hA2
      have HB4 := Lib.hid (HB3.out.trans (hb4.mono HB3.out.size))
      clear C4 hb4 hA2
      go_wp2_with fail
      refine C5.mono ?_
      rintro e w6 ⟨rfl, hb5⟩
      have hA2 := HA2c.out.below hb5
      have HA3c := Lib.hid (HA3b.out.below hb5)
      have C6 := accepts_any w6 p2 _ hA2 (S ++ ⟨#[120, 121, 122]⟩) (by omega)
      rw [show accM (wildM (es ++ [(2, 0)])) (S ++ ⟨#[120, 121, 122]⟩ : ByteArray).data.toList = true from (acc_mt _ _).2 (by rw [show (S ++ ⟨#[120, 121, 122]⟩ : ByteArray).data.toList = tl S ++ [120, 121, 122] from tl_app S _]; exact HMT.out.star 0 _)] at C6
      have HB5 := Lib.hid (HB4.out.trans (hb5.mono HB4.out.size))
      clear C5 hb5 hA2
      go_wp2_with fail
      refine C6.mono ?_
      rintro e w7 ⟨rfl, hb6⟩
      have hA3 := HA3c.out.below hb6
      have C7 := accepts_any w7 p3 _ hA3 (S ++ ⟨#[120]⟩) (by omega)
      rw [show accM (wildM (es ++ [(1, 0)])) (S ++ ⟨#[120]⟩ : ByteArray).data.toList = true from (acc_mt _ _).2 (by rw [show (S ++ ⟨#[120]⟩ : ByteArray).data.toList = tl S ++ [120] from tl_app S _]; exact HMT.out.gap 0 120)] at C7
      have HA3d := Lib.hid hA3
      have HB6 := Lib.hid (HB5.out.trans (hb6.mono HB5.out.size))
      clear C6 hb6 hA3
      go_wp2_with fail
      refine C7.mono ?_
      rintro e w8 ⟨rfl, hb7⟩
      have hA3 := HA3d.out.below hb7
      have C8 := accepts_any w8 p3 _ hA3 ⟨#[]⟩ (by decide)
      rw [show accM (wildM (es ++ [(1, 0)])) (⟨#[]⟩ : ByteArray).data.toList = false from by
        cases hq : accM (wildM (es ++ [(1, 0)])) (⟨#[]⟩ : ByteArray).data.toList
        · rfl
        · exact absurd ((acc_mt _ _).1 hq) (MtA.gap_nil es 0)] at C8
      have HB7 := Lib.hid (HB6.out.trans (hb7.mono HB6.out.size))
      clear C7 hb7 hA3
      go_wp2_with fail
      refine C8.mono ?_
      rintro e w9 ⟨rfl, hb8⟩
      have HB8 := Lib.hid (HB7.out.trans (hb8.mono HB7.out.size))
      clear C8 hb8
      go_wp2
      go_ret
      exact ⟨rfl, HB8.out⟩
end Go.Proofs.YtejmjjgbbojfbaaDoor

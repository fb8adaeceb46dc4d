/- Merged: Lit, Pieces. -/
import Derived.Test.YtejmjjgbbojfbaaDoorZMatch
/- auto.Literal (printed by wip/gen_lit.py). -/
namespace Go.Proofs.YtejmjjgbbojfbaaDoor
set_option linter.unusedVariables false
open Go.ChangeShapes Go.WideShapes Go.ChangeAt Go.RowKit

theorem litB_snoc (l : List UInt8) (c : UInt8) : litB (l ++ [c]) = litB l ++ escB c := by simp [litB]
theorem litB_len (l : List UInt8) : (litB l).length ≤ 2 * l.length := by
  induction l with
  | nil => simp [litB]
  | cons c l ih =>
    have e : litB (c :: l) = escB c ++ litB l := by simp [litB]
    have h : (escB c).length ≤ 2 := by unfold escB; split <;> simp
    rw [e, List.length_append, List.length_cons]; omega
theorem byV1 (c : UInt8) {n : Int} (h : (c.toNat : Int) = n) (l : List UInt8) : bytesV l ++ [.int .u8 n] = bytesV (l ++ [c]) := by rw [bytesV_snoc, h]
theorem byV2 (c : UInt8) {n : Int} (h : (c.toNat : Int) = n) (l : List UInt8) : bytesV l ++ [.int .u8 92, .int .u8 n] = bytesV (l ++ [92, c]) := by rw [bytesV_append, ← h]; rfl
theorem own_grow {w w' : World} {base B : Nat} {e : TypeId} {v : Value} {xs : List Value} (h : Own w base e v xs) (hg : w.grownBy w' v.ownBlock) {w0 : World} (hb : Below base w0 w) (hB : w0.heap.size = base) : Below base w0 w' :=
  ⟨hg.os.trans hb.os, hg.tape.trans hb.tape, hg.output.trans hb.output, Nat.le_trans hb.size hg.size, fun k hk => (hg.block k (Nat.lt_of_lt_of_le (by omega) hb.size) (fun e => by have := (h.lt k e.symm).1; omega)).trans (hb.block k hk)⟩
theorem ap1b {w0 : World} {c : UInt8} {base : Nat} {v : Value} {xs : List Value} (hown : Own w0 base 5 v xs) (hlen : xs.length < 1000000000000) (hbase : base ≤ w0.heap.size)
    {ops : Array Oper} {rest : List Oper} {o : Oper} {a : Act} {Q : Exit → Act → World → Prop} (hgd : o.guard = none) (s y : Operand)
    (ho : o.op = .call { callee := .builtin .append, args := #[s, y], argTypes := #[26, 26] }) (hs : a.eval s = v) (hy : a.eval y = .slice (some ⟨w0.heap.size, 0, none⟩) 1 1)
    (h : ∀ v' w', Own w' base 5 v' (xs ++ [.int .u8 (c.toNat : Nat)]) → w0.grownBy w' v.ownBlock → wpList Tryd.prog ops Q rest (a.put o.dst v') w') : wpList Tryd.prog ops Q (o :: rest) a (w0.alloc (.cells #[.int .u8 (c.toNat : Nat)] 5)) :=
  ap1 elBytes rfl hown hlen hbase hgd s y ho hs hy h
set_option maxRecDepth 100000 in
set_option maxHeartbeats 1000000 in
theorem literal_any (w : World) (s : ByteArray) (hs : s.size ≤ 1000000000) :
    Calls Tryd.prog 22 #[.string s] w fun e w' => e = .returned (.string (strOf (litB s.data.toList))) ∧ Below w.heap.size w w' := by
  have hsl : s.size = s.data.toList.length := (Array.length_toList (xs := s.data)).symm
  have HSL := Lib.hid hsl
  clear hsl
  go_enter Tryd.func22, Tryd.ntmps22
  go_wp2
  go_loopw [3, 7] (fun s3 s7 wr => ∃ (i : Nat) (A : Option Addr) (n C : Nat), s7 = .int .i64 i ∧ i ≤ s.size ∧ s3 = .slice A n C ∧ Own wr w.heap.size 5 (.slice A n C) (bytesV (litB (s.data.toList.take i))) ∧ Below w.heap.size w wr) (fun _ s7 _ => s.size - (intOf s7).toNat)
  case atStart => exact ⟨0, none, 0, 0, rfl, Nat.zero_le _, rfl, own_nil _ _ _, Below.refl _ _⟩
  case round =>
    obtain ⟨i, A, n, C, rfl, hi, rfl, hown, hb⟩ := hrel
    have hsz := hb.size
    by_cases hlt : i < s.size
    · have hil : i < s.data.toList.length := by rw [← HSL.out]; exact hlt
      have htk : s.data.toList.take (i + 1) = s.data.toList.take i ++ [s[i]'hlt] := by rw [List.take_add_one, List.getElem?_eq_getElem hil]; rfl
      have hll := litB_len (s.data.toList.take i)
      rw [List.length_take] at hll
      obtain ⟨L, hL⟩ : ∃ L, litB (s.data.toList.take i) = L := ⟨_, rfl⟩
      have hlit : litB (s.data.toList.take (i + 1)) = L ++ escB (s[i]'hlt) := by rw [htk, litB_snoc, hL]
      rw [hL] at hown hll
      have hLb : L.length ≤ 2000000000 := by have := Nat.min_le_left i s.data.toList.length; omega
      have hlen : (bytesV L).length < 1000000000000 := by rw [bytesV_length]; omega
      have hx92 : (Value.int .u8 92).oneCell' = true := rfl
      have HLIT := Lib.hid hlit
      have HB := Lib.hid hb
      clear htk hL hlit hb
      by_cases h1 : ((s[i]'hlt).toNat : Int) = 42
      · have h := h1
        have hesc : escB (s[i]'hlt) = [92, s[i]'hlt] := by unfold escB; rw [if_pos (by rw [u8_of (n := 42) (by decide) h]; decide)]
        have HESC := Lib.hid hesc
        have hx := (show (Value.int .u8 42).oneCell' = true from rfl)
        have HXI := Lib.hid h
        clear hesc
        go_upto_region 6 with fail
        go_wp2_with (at_builtin; with_reducible refine ap1 elBytes hx92 hown hlen hsz rfl _ _ rfl rfl rfl ?_)
        intro v1 w1 ho1 hg1
        have hb1 := own_grow (B := 0) hown hg1 HB.out rfl
        have hsz1 := hb1.size
        have hlen1 : (bytesV L ++ [Value.int .u8 92]).length < 1000000000000 := by rw [List.length_append, bytesV_length]; simp; omega
        obtain ⟨A1, n1, C1, rfl⟩ := own_sl ho1
        have HB1 := Lib.hid hb1
        clear hown hg1 hb1
        go_wp2_with (at_builtin; with_reducible refine ap1 elBytes hx ho1 hlen1 hsz1 rfl _ _ rfl rfl rfl ?_)
        intro v2 w2 ho2 hg2
        have hb2 := own_grow (B := 0) ho1 hg2 HB1.out rfl
        obtain ⟨A2, n2, C2, rfl⟩ := own_sl ho2
        have HB2 := Lib.hid hb2
        have HO2 := Lib.hid ho2
        clear ho1 hg2 hb2 ho2
        go_wp2
        go_roundw
        case rel => exact ⟨i + 1, A2, n2, C2, by go_num, by omega, rfl, own_to HO2.out (by rw [HLIT.out, HESC.out, ← byV2 (s[i]'hlt) HXI.out L]), HB2.out⟩
        case measure => simp [intOf]; omega
      · by_cases h2 : ((s[i]'hlt).toNat : Int) = 63
        · have h := h2
          have hesc : escB (s[i]'hlt) = [92, s[i]'hlt] := by unfold escB; rw [if_pos (by rw [u8_of (n := 63) (by decide) h]; decide)]
          have HESC := Lib.hid hesc
          have hx := (show (Value.int .u8 63).oneCell' = true from rfl)
          have HXI := Lib.hid h
          clear hesc
          go_upto_region 6 with fail
          go_wp2_with (at_builtin; with_reducible refine ap1 elBytes hx92 hown hlen hsz rfl _ _ rfl rfl rfl ?_)
          intro v1 w1 ho1 hg1
          have hb1 := own_grow (B := 0) hown hg1 HB.out rfl
          have hsz1 := hb1.size
          have hlen1 : (bytesV L ++ [Value.int .u8 92]).length < 1000000000000 := by rw [List.length_append, bytesV_length]; simp; omega
          obtain ⟨A1, n1, C1, rfl⟩ := own_sl ho1
          have HB1 := Lib.hid hb1
          clear hown hg1 hb1
          go_wp2_with (at_builtin; with_reducible refine ap1 elBytes hx ho1 hlen1 hsz1 rfl _ _ rfl rfl rfl ?_)
          intro v2 w2 ho2 hg2
          have hb2 := own_grow (B := 0) ho1 hg2 HB1.out rfl
          obtain ⟨A2, n2, C2, rfl⟩ := own_sl ho2
          have HB2 := Lib.hid hb2
          have HO2 := Lib.hid ho2
          clear ho1 hg2 hb2 ho2
          go_wp2
          go_roundw
          case rel => exact ⟨i + 1, A2, n2, C2, by go_num, by omega, rfl, own_to HO2.out (by rw [HLIT.out, HESC.out, ← byV2 (s[i]'hlt) HXI.out L]), HB2.out⟩
          case measure => simp [intOf]; omega
        · by_cases h3 : ((s[i]'hlt).toNat : Int) = 92
          · have h := h3
            have hesc : escB (s[i]'hlt) = [92, s[i]'hlt] := by unfold escB; rw [if_pos (by rw [u8_of (n := 92) (by decide) h]; decide)]
            have HESC := Lib.hid hesc
            have hx := (show (Value.int .u8 92).oneCell' = true from rfl)
            have HXI := Lib.hid h
            clear hesc
            go_upto_region 6 with fail
            go_wp2_with (at_builtin; with_reducible refine ap1 elBytes hx92 hown hlen hsz rfl _ _ rfl rfl rfl ?_)
            intro v1 w1 ho1 hg1
            have hb1 := own_grow (B := 0) hown hg1 HB.out rfl
            have hsz1 := hb1.size
            have hlen1 : (bytesV L ++ [Value.int .u8 92]).length < 1000000000000 := by rw [List.length_append, bytesV_length]; simp; omega
            obtain ⟨A1, n1, C1, rfl⟩ := own_sl ho1
            have HB1 := Lib.hid hb1
            clear hown hg1 hb1
            go_wp2_with (at_builtin; with_reducible refine ap1 elBytes hx ho1 hlen1 hsz1 rfl _ _ rfl rfl rfl ?_)
            intro v2 w2 ho2 hg2
            have hb2 := own_grow (B := 0) ho1 hg2 HB1.out rfl
            obtain ⟨A2, n2, C2, rfl⟩ := own_sl ho2
            have HB2 := Lib.hid hb2
            have HO2 := Lib.hid ho2
            clear ho1 hg2 hb2 ho2
            go_wp2
            go_roundw
            case rel => exact ⟨i + 1, A2, n2, C2, by go_num, by omega, rfl, own_to HO2.out (by rw [HLIT.out, HESC.out, ← byV2 (s[i]'hlt) HXI.out L]), HB2.out⟩
            case measure => simp [intOf]; omega
          · have hesc : escB (s[i]'hlt) = [s[i]'hlt] := by unfold escB; rw [if_neg (by rintro (e | e | e); exact u8_ne (n := 42) (by decide) h1 e; exact u8_ne (n := 63) (by decide) h2 e; exact u8_ne (n := 92) (by decide) h3 e)]
            have HESC := Lib.hid hesc
            have g1 : (((s[i]'hlt).toNat : Int) == 42) = false := beq_eq_false_iff_ne.2 h1
            have g2 : (((s[i]'hlt).toNat : Int) == 63) = false := beq_eq_false_iff_ne.2 h2
            have g3 : (((s[i]'hlt).toNat : Int) == 92) = false := beq_eq_false_iff_ne.2 h3
            clear hesc
            go_upto_region 7 with fail
            go_wp2_with (at_builtin; with_reducible refine ap1b hown hlen hsz rfl _ _ rfl rfl rfl ?_)
            intro v2 w2 ho2 hg2
            have hb2 := own_grow (B := 0) hown hg2 HB.out rfl
            obtain ⟨A2, n2, C2, rfl⟩ := own_sl ho2
            have HB2 := Lib.hid hb2
            have HO2 := Lib.hid ho2
            clear hown hg2 hb2 ho2
            go_wp2
            go_roundw
            case rel => exact ⟨i + 1, A2, n2, C2, by go_num, by omega, rfl, own_to HO2.out (by rw [HLIT.out, HESC.out, byV1 (s[i]'hlt) rfl L]), HB2.out⟩
            case measure => simp [intOf]; omega
    · obtain rfl : i = s.size := by omega
      have hall : s.data.toList.take s.size = s.data.toList := by rw [HSL.out, List.take_length]
      rw [hall] at hown
      have r4 := run_str (P := Tryd.prog) Tryd.underlying26 Tryd.underlying5 Tryd.underlying9 hown.rd
      have HB := Lib.hid hb
      clear hb hown hall
      go_wp2
      go_ret
      exact ⟨rfl, HB.out⟩
end Go.Proofs.YtejmjjgbbojfbaaDoor

/- The walk of the law AutoPieces. -/
namespace Go.Proofs.YtejmjjgbbojfbaaDoor
set_option linter.unusedVariables false
open Go.ChangeShapes Go.WideShapes Go.ChangeAt Go.RowKit

/-- A list of texts as cells. -/
def strsV (l : List ByteArray) : List Value := l.map Value.string
theorem strsV_length (l : List ByteArray) : (strsV l).length = l.length := by simp [strsV]
theorem strsV_get {l : List ByteArray} {i : Nat} (h : i < l.length) : (strsV l)[i]? = some (.string l[i]) := by simp [strsV, h]
theorem rd_strs {w : World} {a : Option Addr} {n c : Nat} {l : List ByteArray} (h : Rd w (.slice a n c) (strsV l)) : n = l.length ∧ ∀ i, (hi : i < l.length) → ∃ b o, a = some ⟨b, o, none⟩ ∧ w.cell? ⟨b, o + i, none⟩ = some (.string l[i]) := by
  obtain ⟨A, c', hv, _, hg⟩ := h
  injection hv with h1 h2 h3
  subst h1 h2 h3
  rw [strsV_length] at hg ⊢
  refine ⟨rfl, fun i hi => ?_⟩
  obtain ⟨b, o, e, hg⟩ := hg (by omega)
  exact ⟨b, o, e, hg i _ (strsV_get hi)⟩
def tl (b : ByteArray) : List UInt8 := b.data.toList
theorem tl_app (a b : ByteArray) : tl (a ++ b) = tl a ++ tl b := by unfold tl; rw [ByteArray.data_append, Array.toList_append]
theorem tl_len (b : ByteArray) : (tl b).length = b.size := Array.length_toList (xs := b.data)
theorem tl_str (l : List UInt8) : tl (strOf l) = l := by unfold tl strOf; rw [List.toList_toArray]
/-- P reads as the elements es, whatever stands behind. -/
def Pat (P : List UInt8) (es : List PEl) : Prop := ∀ r, elems (P ++ r) = (elems r).map (es ++ ·)
theorem pat_nil : Pat [] [] := fun r => by simp
theorem Pat.app {P : List UInt8} {es es' : List PEl} {Q : List UInt8} (h : Pat P es) (h' : Pat Q es') : Pat (P ++ Q) (es ++ es') := fun r => by
  rw [List.append_assoc, h, h' r]; cases elems r <;> simp
theorem pat_lit (l : List UInt8) : Pat (litB l) (l.map fun c => ((0 : Nat), c)) := fun r => elems_lit l r
theorem pat_star : Pat [42] [(2, 0)] := fun r => by rw [List.cons_append, List.nil_append, elems_star]; rfl
theorem pat_gap : Pat [63] [(1, 0)] := fun r => by rw [List.cons_append, List.nil_append, elems_gap]; rfl
theorem Pat.el {P : List UInt8} {es : List PEl} (h : Pat P es) : elems P = some es := by
  have := h []; rw [List.append_nil] at this; rw [this]; simp [elems]
theorem one_of {b : ByteArray} (h : b.size = 1) : ∃ c, tl b = [c] := List.length_eq_one_iff.1 (by rw [tl_len]; exact h)

set_option maxRecDepth 100000 in
set_option maxHeartbeats 2000000 in
theorem pieces_walk (w : World) (a : Option Addr) (n c : Nat) (ls : List ByteArray) (hr : Rd w (.slice a n c) (strsV ls)) (a2 : Option Addr) (n2 c2 : Nat) (fs : List ByteArray) (hr2 : Rd w (.slice a2 n2 c2) (strsV fs))
    (hn : ls.length ≤ 1000000000) (hn2 : fs.length ≤ 1000000000) (hz : ∀ b ∈ ls, b.size ≤ 1000000000) (hz2 : ∀ b ∈ fs, b.size ≤ 1000000000) (eP : Value) (hP : w.cell? ⟨2, 0, none⟩ = some eP) :
    Calls Tryd.prog 6 #[.slice a n c, .slice a2 n2 c2] w fun e w' => e = .returned (.bool true) ∧ Below w.heap.size w w' := by
  have C0 := lives_any w eP hP
  obtain rfl := (rd_strs hr).1
  obtain rfl := (rd_strs hr2).1
  have hPl := World.block_lt_of_cell? w _ hP
  have HR := Lib.hid hr
  have HR2 := Lib.hid hr2
  have HP := Lib.hid hP
  have HZ := Lib.hid hz
  have HZ2 := Lib.hid hz2
  clear hr hr2 hP hz hz2
  go_enter Tryd.func6, Tryd.ntmps6
  go_wp2_with fail
  refine C0.mono ?_
  rintro e w1 ⟨rfl, hb1⟩
  have HB1 := Lib.hid hb1
  clear C0 hb1
  by_cases h40 : 40 < ls.length
  · go_wp2
    go_ret
    exact ⟨rfl, HB1.out⟩
  by_cases h40b : 40 < fs.length
  · go_wp2
    go_ret
    exact ⟨rfl, HB1.out⟩
  go_wp2
  go_loopw [6, 7, 33] (fun s6 s7 s33 wr => ∃ (i : Nat) (P S : ByteArray) (es : List PEl), s33 = .int .i64 i ∧ i ≤ ls.length ∧ s6 = .string P ∧ s7 = .string S ∧ P.size ≤ 121 * i ∧ S.size ≤ 120 * i ∧ Pat (tl P) es ∧ MtA es (tl S) ∧ Below w.heap.size w wr) (fun _ _ s33 _ => ls.length - (intOf s33).toNat)
  case atStart => exact ⟨0, ⟨#[]⟩, ⟨#[]⟩, [], rfl, Nat.zero_le _, rfl, rfl, Nat.le_refl _, Nat.le_refl _, pat_nil, rfl, HB1.out⟩
  case round =>
    clear HB1
    obtain ⟨i, P, S, es, rfl, hi, rfl, rfl, hps, hss, hpat, hmt, hb⟩ := hrel
    have HPAT := Lib.hid hpat
    have HMT := Lib.hid hmt
    clear hpat hmt
    by_cases hlt : i < ls.length
    · obtain ⟨b, o, rfl, hc⟩ := (rd_strs (HR.out.below hb (Nat.le_refl _))).2 i hlt
      have hlz := HZ.out ls[i] (List.getElem_mem hlt)
      obtain ⟨l, hl⟩ : ∃ l, ls[i] = l := ⟨_, rfl⟩
      rw [hl] at hc hlz
      clear hl
      by_cases h60 : 60 < l.size
      · have HB := Lib.hid hb
        clear hb
        go_wp2
        go_ret
        exact ⟨rfl, HB.out⟩
      · have C1 := literal_any wr l hlz
        obtain ⟨L, hL⟩ : ∃ L, strOf (litB l.data.toList) = L := ⟨_, rfl⟩
        have hLl : L.size ≤ 120 := by
          rw [← hL, strOf_size]
          have h1 := litB_len l.data.toList
          have h2 := tl_len l
          unfold tl at h2; omega
        have hLt : tl L = litB (tl l) := by rw [← hL, tl_str]; rfl
        rw [hL] at C1
        have HL := Lib.hid hLt
        have hsum1 : P.size + L.size ≤ 9223372036854775807 := by omega
        have hsum2 : S.size + l.size ≤ 9223372036854775807 := by omega
        have HB := Lib.hid hb
        clear hL hLt hb
        go_wp2_with fail
        refine C1.mono ?_
        rintro e w2 ⟨rfl, hb2⟩
        have hb2' := HB.out.trans (hb2.mono HB.out.size)
        clear C1 hb2
        have hps1 : (P ++ L).size = P.size + L.size := ByteArray.size_append
        have hss1 : (S ++ l).size = S.size + l.size := ByteArray.size_append
        have hpat1 : Pat (tl (P ++ L)) (es ++ (tl l).map fun c => ((0 : Nat), c)) := by rw [tl_app, HL.out]; exact HPAT.out.app (pat_lit _)
        have hmt1 : MtA (es ++ (tl l).map fun c => ((0 : Nat), c)) (tl (S ++ l)) := by rw [tl_app]; exact HMT.out.letters _
        have HPS1 := Lib.hid hps1
        have HSS1 := Lib.hid hss1
        have HPAT1 := Lib.hid hpat1
        have HMT1 := Lib.hid hmt1
        clear hps1 hss1 hpat1 hmt1
        by_cases hf : i < fs.length
        · obtain ⟨b2, o2, rfl, hc2⟩ := (rd_strs (HR2.out.below hb2' (Nat.le_refl _))).2 i hf
          have hfz := HZ2.out fs[i] (List.getElem_mem hf)
          obtain ⟨f, hff⟩ : ∃ f, fs[i] = f := ⟨_, rfl⟩
          rw [hff] at hc2 hfz
          clear hff
          have HB2 := Lib.hid hb2'
          clear hb2'
          by_cases h60b : 60 < f.size
          · go_wp2
            go_ret
            exact ⟨rfl, HB2.out⟩
          · have hsum3 : (S ++ l).size + f.size ≤ 9223372036854775807 := by rw [HSS1.out]; omega
            have hsum4 : (P ++ L).size + 1 ≤ 9223372036854775807 := by rw [HPS1.out]; omega
            have hsum5 : (P ++ L).size + (⟨#[63]⟩ : ByteArray).size ≤ 9223372036854775807 := hsum4
            have hsum6 : (P ++ L).size + (⟨#[42]⟩ : ByteArray).size ≤ 9223372036854775807 := hsum4
            have hfin : ∀ q : UInt8, (P ++ L ++ ⟨#[q]⟩).size ≤ 121 * (i + 1) ∧ (S ++ l ++ f).size ≤ 120 * (i + 1) := fun q => by
              simp only [ByteArray.size_append, show (⟨#[q]⟩ : ByteArray).size = 1 from rfl]; omega
            have hstar : Pat (tl (P ++ L ++ ⟨#[42]⟩)) (es ++ (tl l).map (fun c => ((0 : Nat), c)) ++ [(2, 0)]) ∧ MtA (es ++ (tl l).map (fun c => ((0 : Nat), c)) ++ [(2, 0)]) (tl (S ++ l ++ f)) :=
              ⟨by rw [tl_app]; exact HPAT1.out.app pat_star, by rw [tl_app]; exact HMT1.out.star 0 _⟩
            have hgap : f.size = 1 → Pat (tl (P ++ L ++ ⟨#[63]⟩)) (es ++ (tl l).map (fun c => ((0 : Nat), c)) ++ [(1, 0)]) ∧ MtA (es ++ (tl l).map (fun c => ((0 : Nat), c)) ++ [(1, 0)]) (tl (S ++ l ++ f)) := fun h1 => by
              obtain ⟨c, hc⟩ := one_of h1
              exact ⟨by rw [tl_app]; exact HPAT1.out.app pat_gap, by rw [tl_app (S ++ l) f, hc]; exact HMT1.out.gap 0 c⟩
            have HFIN := Lib.hid hfin
            have HSTAR := Lib.hid hstar
            have HGAP := Lib.hid hgap
            clear hfin hstar hgap
            by_cases h1 : f.size = 1
            · by_cases h2 : i % 2 = 0
              · have t1 : ((f.size : Int) == 1) = true := by simp; omega
                have t2 : (Int.tmod (i : Int) 2 == 0) = true := by rw [Int.tmod_eq_emod_of_nonneg (by omega)]; simp; omega
                have H1 := Lib.hid h1
                clear h1
                go_wp2
                go_roundw
                case rel => exact ⟨i + 1, _, _, _, by go_num, by omega, rfl, rfl, (HFIN.out 63).1, (HFIN.out 63).2, (HGAP.out H1.out).1, (HGAP.out H1.out).2, HB2.out⟩
                case measure => simp [intOf]; omega
              · have t1 : ((f.size : Int) == 1) = true := by simp; omega
                have t2 : (Int.tmod (i : Int) 2 == 0) = false := by rw [Int.tmod_eq_emod_of_nonneg (by omega)]; simp; omega
                clear h1
                go_wp2
                go_roundw
                case rel => exact ⟨i + 1, _, _, _, by go_num, by omega, rfl, rfl, (HFIN.out 42).1, (HFIN.out 42).2, HSTAR.out.1, HSTAR.out.2, HB2.out⟩
                case measure => simp [intOf]; omega
            · have t1 : ((f.size : Int) == 1) = false := by simp; omega
              go_wp2
              go_roundw
              case rel => exact ⟨i + 1, _, _, _, by go_num, by omega, rfl, rfl, (HFIN.out 42).1, (HFIN.out 42).2, HSTAR.out.1, HSTAR.out.2, HB2.out⟩
              case measure => simp [intOf]; omega
        · have HB2 := Lib.hid hb2'
          clear hb2'
          go_wp2
          go_roundw
          case rel => exact ⟨i + 1, P ++ L, S ++ l, _, by go_num, by omega, rfl, rfl, by rw [HPS1.out]; omega, by rw [HSS1.out]; omega, HPAT1.out, HMT1.out, HB2.out⟩
          case measure => simp [intOf]; omega
    · obtain rfl : i = ls.length := by omega
      have hstar := Pat.el (HPAT.out.app pat_star)
      have hgap := Pat.el (HPAT.out.app pat_gap)
      have C1 := wild_any wr P (by omega) eP (by rw [hb.cell hPl]; exact HP.out)
      have s1 : P.size + (⟨#[42]⟩ : ByteArray).size ≤ 9223372036854775807 := by show P.size + 1 ≤ _; omega
      have s2 : P.size + (⟨#[63]⟩ : ByteArray).size ≤ 9223372036854775807 := by show P.size + 1 ≤ _; omega
      have s3 : S.size + (⟨#[120, 121, 122]⟩ : ByteArray).size ≤ 9223372036854775807 := by show S.size + 3 ≤ _; omega
      have s4 : S.size + (⟨#[120]⟩ : ByteArray).size ≤ 9223372036854775807 := by show S.size + 1 ≤ _; omega
      have z1 : (P ++ ⟨#[42]⟩).size ≤ 1000000000 := by rw [ByteArray.size_append]; show P.size + 1 ≤ _; omega
      have z2 : (P ++ ⟨#[63]⟩).size ≤ 1000000000 := by rw [ByteArray.size_append]; show P.size + 1 ≤ _; omega
      have z3 : (S ++ ⟨#[120, 121, 122]⟩).size ≤ 1000000000 := by rw [ByteArray.size_append]; show S.size + 3 ≤ _; omega
      have z4 : (S ++ ⟨#[120]⟩).size ≤ 1000000000 := by rw [ByteArray.size_append]; show S.size + 1 ≤ _; omega
      have z5 : S.size ≤ 1000000000 := by omega
      have HST := Lib.hid hstar
      have HGP := Lib.hid hgap
      have HB := Lib.hid hb
      clear hstar hgap hb
      go_wp2_with fail
      refine C1.mono ?_
      rintro e w2 ⟨h1, _⟩
      obtain ⟨p1, rfl, _, ha1, hb1⟩ := h1 es HPAT.out.el
      have hb1' := HB.out.trans (hb1.mono HB.out.size)
      have C2 := wild_any w2 (P ++ ⟨#[42]⟩) z1 eP (by rw [hb1'.cell hPl]; exact HP.out)
      have HA1 := Lib.hid ha1
      have HB1 := Lib.hid hb1'
      clear C1 h1 ha1 hb1 hb1'
      go_wp2_with fail
      refine C2.mono ?_
      rintro e w3 ⟨h1, _⟩
      obtain ⟨p2, rfl, _, ha2, hb2⟩ := h1 _ (by have := HST.out; rw [show (P ++ ⟨#[42]⟩ : ByteArray).data.toList = tl P ++ [42] from tl_app P _]; exact this)
      have hb2' := HB1.out.trans (hb2.mono HB1.out.size)
      have C3 := wild_any w3 (P ++ ⟨#[63]⟩) z2 eP (by rw [hb2'.cell hPl]; exact HP.out)
      have HA1b := Lib.hid (HA1.out.below hb2)
      have HA2 := Lib.hid ha2
      have HB2 := Lib.hid hb2'
      clear C2 h1 ha2 hb2 hb2'
      go_wp2_with fail
      refine C3.mono ?_
      rintro e w4 ⟨h1, _⟩
      obtain ⟨p3, rfl, _, ha3, hb3⟩ := h1 _ (by have := HGP.out; rw [show (P ++ ⟨#[63]⟩ : ByteArray).data.toList = tl P ++ [63] from tl_app P _]; exact this)
      have hb3' := HB2.out.trans (hb3.mono HB2.out.size)
      have hA1 := HA1b.out.below hb3
      have HA2b := Lib.hid (HA2.out.below hb3)
      have HA3 := Lib.hid ha3
      have C4 := accepts_any w4 p1 _ hA1 S (by omega)
      rw [show accM (wildM es) S.data.toList = true from (acc_mt es _).2 HMT.out] at C4
      have HB3 := Lib.hid hb3'
      clear C3 h1 ha3 hb3 hb3' hA1
      go_wp2_with fail
      refine C4.mono ?_
      rintro e w5 ⟨rfl, hb4⟩
      have hA2 := HA2b.out.below hb4
      have HA3b := Lib.hid (HA3.out.below hb4)
      have C5 := accepts_any w5 p2 _ hA2 S (by omega)
      rw [show accM (wildM (es ++ [(2, 0)])) S.data.toList = true from (acc_mt _ _).2 (by have := HMT.out.star 0 []; rw [List.append_nil] at this; exact this)] at C5
      have HA2c := Lib.hid hA2
      have HB4 := Lib.hid (HB3.out.trans (hb4.mono HB3.out.size))
      clear C4 hb4 hA2
      go_wp2_with fail
      refine C5.mono ?_
      rintro e w6 ⟨rfl, hb5⟩
      have hA2 := HA2c.out.below hb5
      have HA3c := Lib.hid (HA3b.out.below hb5)
      have C6 := accepts_any w6 p2 _ hA2 (S ++ ⟨#[120, 121, 122]⟩) (by omega)
      rw [show accM (wildM (es ++ [(2, 0)])) (S ++ ⟨#[120, 121, 122]⟩ : ByteArray).data.toList = true from (acc_mt _ _).2 (by rw [show (S ++ ⟨#[120, 121, 122]⟩ : ByteArray).data.toList = tl S ++ [120, 121, 122] from tl_app S _]; exact HMT.out.star 0 _)] at C6
      have HB5 := Lib.hid (HB4.out.trans (hb5.mono HB4.out.size))
      clear C5 hb5 hA2
      go_wp2_with fail
      refine C6.mono ?_
      rintro e w7 ⟨rfl, hb6⟩
      have hA3 := HA3c.out.below hb6
      have C7 := accepts_any w7 p3 _ hA3 (S ++ ⟨#[120]⟩) (by omega)
      rw [show accM (wildM (es ++ [(1, 0)])) (S ++ ⟨#[120]⟩ : ByteArray).data.toList = true from (acc_mt _ _).2 (by rw [show (S ++ ⟨#[120]⟩ : ByteArray).data.toList = tl S ++ [120] from tl_app S _]; exact HMT.out.gap 0 120)] at C7
      have HA3d := Lib.hid hA3
      have HB6 := Lib.hid (HB5.out.trans (hb6.mono HB5.out.size))
      clear C6 hb6 hA3
      go_wp2_with fail
      refine C7.mono ?_
      rintro e w8 ⟨rfl, hb7⟩
      have hA3 := HA3d.out.below hb7
      have C8 := accepts_any w8 p3 _ hA3 ⟨#[]⟩ (by decide)
      rw [show accM (wildM (es ++ [(1, 0)])) (⟨#[]⟩ : ByteArray).data.toList = false from by
        cases hq : accM (wildM (es ++ [(1, 0)])) (⟨#[]⟩ : ByteArray).data.toList
        · rfl
        · exact absurd ((acc_mt _ _).1 hq) (MtA.gap_nil es 0)] at C8
      have HB7 := Lib.hid (HB6.out.trans (hb7.mono HB6.out.size))
      clear C7 hb7 hA3
      go_wp2_with fail
      refine C8.mono ?_
      rintro e w9 ⟨rfl, hb8⟩
      have HB8 := Lib.hid (HB7.out.trans (hb8.mono HB7.out.size))
      clear C8 hb8
      go_wp2
      go_ret
      exact ⟨rfl, HB8.out⟩
end Go.Proofs.YtejmjjgbbojfbaaDoor

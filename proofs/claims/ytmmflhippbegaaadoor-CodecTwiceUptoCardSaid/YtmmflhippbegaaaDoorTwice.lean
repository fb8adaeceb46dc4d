/- The walk of the law CodecTwice. -/
import Derived.Test.YtmmflhippbegaaaDoorPlaceW
import Derived.Test.YtmmflhippbegaaaDoorTw
import Derived.Test.YtmmflhippbegaaaDoorSame
import Derived.Deep.RegionHeld3
import Derived.Deep.RegionHeld
namespace Go.Proofs.YtmmflhippbegaaaDoor
set_option linter.unusedVariables false
open Go.ChangeShapes Go.WideShapes Go.ChangeAt Go.RowKit

theorem elStr : Elem Tryd.prog 44 9 (.string ⟨#[]⟩) 16 := ⟨Tryd.underlying44, by kernel_rfl, rfl, by decide⟩
theorem elRp : (Tryd.prog.info? 54).map (·.size) = some 1 := by kernel_rfl

/-- Behind an append to a list of texts. -/
theorem TW.str {w w' : World} {base H0 pb pw b : Nat} {vS vw vb vi v : Value} {S : List Int} {out : List UInt8} {lb li xs : List Value} (h : TW w base H0 pb pw vS vw vb vi S out lb li) (e : Eff (fun k => v.ownBlock = some k) w w') (ho : Own w b 9 v xs) : TW w' base H0 pb pw vS vw vb vi S out lb li :=
  h.eff e (fun k hk hv => h.bk.offOwn ho (by decide) (by decide) (by decide) k hv hk) (fun k hk hv => by obtain ⟨cs, hg⟩ := h.rb.blk hk; exact ho.ne_type hg (by decide) hv) (fun k hk hv => by obtain ⟨cs, hg⟩ := h.ri.blk hk; exact ho.ne_type hg (by decide) hv)
    (fun k hk hv => h.wr.offOwn ho (by decide) (by decide) k hv hk) (fun k hk hv => own_types h.so ho (by decide) hk hv)
theorem Rdr.str {w w' : World} {base p k b : Nat} {v x : Value} {bs : List UInt8} {xs : List Value} (h : Rdr w base p v bs k) (e : Eff (fun k => x.ownBlock = some k) w w') (ho : Own w b 9 x xs) : Rdr w' base p v bs k :=
  h.eff e (fun k hk hv => by
    rcases hk with hk | hk
    · subst hk; exact ho.ne_type h.blk (by decide) hv
    · exact own_types h.own ho (by decide) hk hv)
/-- The state in the inner loop: the book and the rest, the texts, the two Readers' row, the Reader that is still to come. -/
structure IW (w : World) (base H0 pb pw bq ps j : Nat) (vS vw vb vi vW vs r1 r2 : Value) (S : List Int) (out : List UInt8) (T : List Value) (lb li : List Value) (w0 : World) : Prop where
  tw : TW w base H0 pb pw vS vw vb vi S out lb li
  st : Own w base 9 vW T
  row : w.heap[bq]? = some (.cells #[r1, r2] 54 (0, 0))
  nx : j = 0 → Rdr w base ps vs out 0
  h0 : H0 ≤ w.heap.size
  bl : Below base w0 w
section
variable {w w' w0 : World} {base H0 pb pw bq ps j : Nat} {vS vw vb vi vW vs r1 r2 : Value} {S : List Int} {out : List UInt8} {T lb li : List Value}
theorem IW.z (h : IW w base H0 pb pw bq ps j vS vw vb vi vW vs r1 r2 S out T lb li w0) (hb : base ≤ w0.heap.size) : base ≤ w.heap.size := Nat.le_trans hb h.bl.size
theorem IW.under (h : IW w base H0 pb pw bq ps j vS vw vb vi vW vs r1 r2 S out T lb li w0) (e : Below w.heap.size w w') (hb : base ≤ w0.heap.size) : IW w' base H0 pb pw bq ps j vS vw vb vi vW vs r1 r2 S out T lb li w0 :=
  ⟨h.tw.under e, h.st.below e (Nat.le_refl _), (e.block _ (lt_of_heap h.row)).trans h.row, fun hj => (h.nx hj).under e, Nat.le_trans h.h0 e.size, h.bl.trans (e.mono (h.z hb))⟩
theorem IW.drewN (h : IW w base H0 pb pw bq ps j vS vw vb vi vW vs r1 r2 S out T lb li w0) (d : Nat) : IW (w.drewN d) base H0 pb pw bq ps j vS vw vb vi vW vs r1 r2 S out T lb li w0 :=
  ⟨h.tw.drewN d, h.st.drewN d, h.row, fun hj => (h.nx hj).drewN d, h.h0, below_drewN h.bl d⟩
theorem IW.rdr (h : IW w base H0 pb pw bq ps j vS vw vb vi vW vs r1 r2 S out T lb li w0) {px k : Nat} {vx : Value} {bs : List UInt8} (hr : Rdr w base px vx bs k) (e : Eff (· = px) w w') (hne : j = 0 → ps ≠ px) (hb : base ≤ w0.heap.size) : IW w' base H0 pb pw bq ps j vS vw vb vi vW vs r1 r2 S out T lb li w0 :=
  ⟨h.tw.rdr hr e, hr.keep e h.st (by decide), (e.block _ (lt_of_heap h.row) (fun hq => by have hg := hr.blk; rw [← hq, h.row] at hg; injection hg with hg; injection hg with _ hg; exact absurd hg (by decide))).trans h.row, fun hj => (h.nx hj).other hr e (hne hj), Nat.le_trans h.h0 e.size, h.bl.trans (e.below (fun k hk => by rw [hk]; exact hr.hp) (h.z hb))⟩
theorem IW.addB (h : IW w base H0 pb pw bq ps j vS vw vb vi vW vs r1 r2 S out T lb li w0) (hb : base ≤ w0.heap.size) {H : Nat} {v vb' : Value} {xs : List Value} (hk : BookX w' base pb vb' vi (lb ++ [v]) li) (e : Eff (BkB pb vb vi) w w') (ho : Own w H 5 v xs) (hlt : ∀ k, BlocksOf lb k → k < H) (hx : xs.length ≤ 1000000000) (hH : H0 ≤ H) :
    IW w' base H0 pb pw bq ps j vS vw vb' vi vW vs r1 r2 S out T (lb ++ [v]) li w0 :=
  ⟨h.tw.addB hk e ho hlt hx hH, h.tw.bk.keep e h.st (by decide) (by decide) (by decide), (e.block _ (lt_of_heap h.row) (h.tw.bk.off h.row (by decide) (by decide) (by decide))).trans h.row, fun hj => h.tw.bk.rdr e (h.nx hj), Nat.le_trans h.h0 e.size, h.bl.trans (h.tw.book_below e (h.z hb))⟩
theorem IW.addI (h : IW w base H0 pb pw bq ps j vS vw vb vi vW vs r1 r2 S out T lb li w0) (hb : base ≤ w0.heap.size) {H : Nat} {v vi' : Value} {xs : List Value} (hk : BookX w' base pb vb vi' lb (li ++ [v])) (e : Eff (BkB pb vb vi) w w') (ho : Own w H 3 v xs) (hlt : ∀ k, BlocksOf li k → k < H) (hx : xs.length ≤ 1000000000) (hH : H0 ≤ H) :
    IW w' base H0 pb pw bq ps j vS vw vb vi' vW vs r1 r2 S out T lb (li ++ [v]) w0 :=
  ⟨h.tw.addI hk e ho hlt hx hH, h.tw.bk.keep e h.st (by decide) (by decide) (by decide), (e.block _ (lt_of_heap h.row) (h.tw.bk.off h.row (by decide) (by decide) (by decide))).trans h.row, fun hj => h.tw.bk.rdr e (h.nx hj), Nat.le_trans h.h0 e.size, h.bl.trans (h.tw.book_below e (h.z hb))⟩
end

set_option maxRecDepth 100000 in
set_option maxHeartbeats 8000000 in
theorem twice_walk (w : World) (a : Option Addr) (n c : Nat) (l : List Int) (hr : Rd w (.slice a n c) (intL l)) (a2 : Option Addr) (m c2 : Nat) (bs : List UInt8) (hr2 : Rd w (.slice a2 m c2) (bytesV bs))
    (hf : FitL l) (hl : l.length ≤ 1048576) (hbs : bs.length ≤ 1048576) (EA : Nat → Addr) (hE : RErr w EA) :
    Calls Tryd.prog 6 #[.slice a n c, .slice a2 m c2] w fun e w' => e = .returned (.bool true) ∧ Below w.heap.size w w' := by
  have hG : GLow w.heap.size := hE.lt
  have C0 := lives_any w (errV EA) hE.s hE.v
  obtain ⟨rfl, hg⟩ := rd_get hr
  obtain rfl : m = bs.length := by obtain ⟨A, c', h, _⟩ := hr2; injection h with _ h _; rw [h, bytesV_length]
  have HGT := Lib.hid hg
  have HE := Lib.hid hE
  have HG := Lib.hid hG
  have HF := Lib.hid hf
  have HR2 := Lib.hid hr2
  have HR := Lib.hid hr
  clear hE hG hf hr2 hr hg
  go_enter Tryd.func6, Tryd.ntmps6
  go_wp2_with fail
  refine C0.mono ?_
  rintro e w1 ⟨rfl, hb1⟩
  clear C0
  have hb2 : Below w.heap.size w (w1.alloc (.cells #[] 3)) := hb1.alloc hb1.size _
  have ho2 := own_empty w1 w.heap.size 3 hb1.size
  have HB2 := Lib.hid hb2
  have HO2 := Lib.hid ho2
  clear hb1 hb2 ho2
  go_wp2
  go_loopw [6, 7, 31] (fun s6 s7 s31 wr => ∃ (i : Nat) (S : List Int) (last : Int) (v : Value), s31 = .int .i64 i ∧ i ≤ l.length ∧ s7 = .int .i64 last ∧ s6 = v ∧ Own wr w.heap.size 3 v (intL S) ∧ S.length ≤ i ∧ Asc S last ∧ last ≤ 9223372036854775807 ∧ Below w.heap.size w wr) (fun _ _ s _ => l.length - (intOf s).toNat)
  case atStart => exact ⟨0, [], -1, _, rfl, Nat.zero_le _, rfl, rfl, HO2.out, Nat.le_refl _, asc_nil, by omega, HB2.out⟩
  case round =>
    clear HO2 HB2
    obtain ⟨i, S, last, v, rfl, hi, rfl, rfl, ho, hS, has, hlast, hb⟩ := hrel
    have HA := Lib.hid has
    have hlo := has.lo
    have hsz := hb.size
    clear has
    by_cases hlt : i < l.length
    · obtain ⟨b, o, rfl, hc⟩ := HGT.out (by omega)
      have hci : wr.cell? ⟨b, o + i, none⟩ = some (.int .i64 l[i]) := by
        rw [hb.cell (World.block_lt_of_cell? w _ (hc i hlt))]; exact hc i hlt
      have hfi := HF.out l[i] (List.getElem_mem hlt)
      obtain ⟨x, hx⟩ : ∃ x, l[i] = x := ⟨_, rfl⟩
      rw [hx] at hci hfi
      have hlen : (intL S).length < 1000000000000 := by rw [intL_length]; omega
      obtain ⟨av, nv, cv, rfl⟩ := own_sl ho
      clear hx hc
      by_cases hgt : last < x
      · go_wp2_with (at_builtin; with_reducible refine ap1' elInts rfl ho hlen hsz rfl _ _ rfl rfl rfl ?_)
        intro v' w1 g1 g2 g3 g4
        have hb1 := Lib.hid (hb.grown g4 hsz (fun k hk => (ho.lt k hk).1))
        have hA1 := Lib.hid (HA.out.snoc hgt hfi.2)
        have g1' := Lib.hid (own_to g1 (show _ = intL (S ++ [x]) by rw [intL_append]; rfl))
        clear g1 g2 g3 g4 hb ho
        go_wp2
        go_roundw
        case rel => exact ⟨i + 1, S ++ [x], x, _, by go_num, by omega, rfl, rfl, g1'.out, by simp; omega, hA1.out, hfi.2, hb1.out⟩
        case measure => simp [intOf]; omega
      · go_wp2
        go_roundw
        case rel => exact ⟨i + 1, S, last, _, by go_num, by omega, rfl, rfl, ho, by omega, HA.out, hlast, hb⟩
        case measure => simp [intOf]; omega
    · have hSl : S.length ≤ 1048576 := by omega
      obtain ⟨aS, nS, cS, rfl⟩ := own_sl ho
      obtain rfl : nS = S.length := by have := ho.len; rwa [intL_length] at this
      have HO := Lib.hid ho
      have HB := Lib.hid hb
      clear hlo hlast hS ho hb
      -- w := codec.NewWriter()
      go_wp2_with fail
      refine (nw_any wr).mono ?_
      rintro e w3 ⟨rfl, hw3⟩
      have e3 : Below wr.heap.size wr w3 := by rw [hw3]; exact (Below.refl _ _).alloc (Nat.le_refl _) _
      have hwr3 : Wr w3 w.heap.size wr.heap.size (.slice none 0 0) [] := by
        rw [hw3]; exact ⟨heap_alloc_new wr _, hsz, own_nil _ _ _⟩
      have hb3 := HB.out.trans (e3.mono hsz)
      have ho3 := HO.out.below e3 (Nat.le_refl _)
      have hz3 := hb3.size
      obtain ⟨pw, hpw⟩ : ∃ pw, wr.heap.size = pw := ⟨_, rfl⟩
      rw [hpw] at hwr3 ⊢
      have hE3 := HE.out.eff (Eff.of_below hb3 (fun _ => False)) HG.out (fun _ f => f.elim)
      have C1 := wris_any w3 w.heap.size pw _ [] hwr3 hz3 (by simp) aS S.length cS S ho3.rd (by omega) HA.out.fit _ _ hE3.r hE3.o (hwr3.hoff ho3 (by decide) (by decide))
      have HW3 := Lib.hid hwr3
      have HB3 := Lib.hid hb3
      have HO3 := Lib.hid ho3
      clear hw3 e3 hwr3 hb3 ho3 hE3 HO HB hpw hsz
      go_wp2_with fail
      refine C1.mono ?_
      rintro e w4 ⟨_, _, h3⟩
      obtain ⟨rfl, v4, hw4, hwr4⟩ := h3 HA.out.neg HA.out.ri
      have hb4 := HB3.out.trans (hwr4.below HW3.out hz3)
      have ho4 := HO3.out.eff hwr4.eff (HW3.out.offOwn HO3.out (by decide) (by decide))
      have hlen : (intL S).length < 1000000000000 := by rw [intL_length]; omega
      have hz4 := hb4.size
      have HW4 := Lib.hid hw4
      have HB4 := Lib.hid hb4
      clear h3 C1 hw4 hwr4 hb4 HW3 HB3 HO3 hz3
      go_wp2_with (at_builtin; with_reducible refine ap1g elInts rfl ho4 hlen hz4 (by kernel_rfl) _ _ rfl rfl rfl ?_)
      intro v5 w5 g1 g2 g3 g4
      have e5 : Eff (fun k => (Value.slice aS S.length cS).ownBlock = some k) w4 w5 := (Eff.refl _ _).grown g4 (fun i hi _ => hi)
      have hb5 := HB4.out.grown g4 hz4 (fun k hk => (ho4.lt k hk).1)
      have hz5 := hb5.size
      have hw5 := HW4.out.eff e5 (fun k hk hl => HW4.out.offOwn ho4 (by decide) (by decide) k hl hk)
      have ho5 := g2 _ _ _ _ ho4 (fun _ _ _ => Nat.le_refl _)
      have hE5 := HE.out.eff (Eff.of_below hb5 (fun _ => False)) HG.out (fun _ f => f.elim)
      obtain ⟨a5, n5, c5, rfl⟩ := own_sl g1
      have g1' : Own w5 w.heap.size 3 (.slice a5 n5 c5) (intL (S ++ [5])) := own_to g1 (by rw [intL_append]; rfl)
      have hol := out_len (z := 5) (B := bs) (n := 1048576) HA.out.fit HA.out.neg (by omega) (by omega) hSl hbs (by omega)
      have hO5 : ([] ++ risB S).length ≤ 200000000 := by simp only [List.length_append] at *; simp; omega
      have C2 := wpck_any w5 w.heap.size pw v4 _ hw5 hz5 (by omega) a5 n5 c5 (S ++ [5]) g1'.rd (by simp; omega) (fit_snoc HA.out.fit (by omega) (by omega)) _ _ hE5.r hE5.l (hw5.hoff g1' (by decide) (by decide))
      have HW5 := Lib.hid hw5
      have HB5 := Lib.hid hb5
      have HO5 := Lib.hid ho5
      have HOL := Lib.hid hol
      clear g1 g1' g2 g3 g4 e5 hw5 hb5 hE5 hlen hz4 hO5 ho4 ho5 HW4 HB4 hol
      go_wp2_with fail
      refine C2.mono ?_
      rintro e w6 ⟨_, _, h3⟩
      obtain ⟨rfl, v6, hw6, hwr6⟩ := h3 (ok_snoc HA.out.neg (by omega))
      have hb6 := HB5.out.trans (hwr6.below HW5.out hz5)
      have ho6 := HO5.out.eff hwr6.eff (HW5.out.offOwn HO5.out (by decide) (by decide))
      have hz6 := hb6.size
      have hO6 : ([] ++ risB S ++ pckB (natOf (S ++ [5]))).length ≤ 200000000 := by have := HOL.out; simp only [List.length_append, List.length_nil] at *; omega
      have C3 := wraw_any w6 w.heap.size pw v6 _ hw6 hz6 (by omega) _ bs (HR2.out.below hb6 (Nat.le_refl _)) (by omega)
      have HW6 := Lib.hid hw6
      have HB6 := Lib.hid hb6
      have HO6 := Lib.hid ho6
      clear h3 C2 hw6 hwr6 hb6 ho6 HW5 HB5 HO5 hO6 hz5
      go_wp2_with fail
      refine C3.mono ?_
      rintro e w7 ⟨rfl, v7, hw7, hwr7⟩
      have hb7 := HB6.out.trans (hwr7.below HW6.out hz6)
      have ho7 := HO6.out.eff hwr7.eff (HW6.out.offOwn HO6.out (by decide) (by decide))
      have hz7 := hb7.size
      obtain ⟨out, hout⟩ : ∃ out, [] ++ risB S ++ pckB (natOf (S ++ [5])) ++ bs = out := ⟨_, rfl⟩
      have hol : out.length ≤ 50000000 := by rw [← hout]; have := HOL.out; simp only [List.length_append, List.length_nil] at *; omega
      rw [hout] at hw7
      rw [List.nil_append] at hout
      -- the book, and the texts
      obtain ⟨w8, hw8⟩ : ∃ w8, w8 = w7.alloc (.cells #[.slice none 0 0, .slice none 0 0, .slice none 0 0] 43) := ⟨_, rfl⟩
      have e8 : Below w7.heap.size w7 w8 := by rw [hw8]; exact (Below.refl _ _).alloc (Nat.le_refl _) _
      have hk8 : BookX w8 w.heap.size w7.heap.size (.slice none 0 0) (.slice none 0 0) [] [] := by
        rw [hw8]; exact ⟨heap_alloc_new w7 _, hz7, own_nil _ _ _, own_nil _ _ _, fun _ => rfl, fun _ => rfl⟩
      have hT8 : TW w8 w.heap.size w7.heap.size w7.heap.size pw (.slice aS S.length cS) v7 (.slice none 0 0) (.slice none 0 0) S out [] [] :=
        ⟨hk8, recx_nil _ _, recx_nil _ _, fun k ⟨j, x, hx, _⟩ => by simp at hx, fun k ⟨j, x, hx, _⟩ => by simp at hx, hw7.of_below e8, ho7.below e8 (Nat.le_refl _), fun k hk => (hw7.ge k hk).2, fun k hk => (ho7.lt k hk).2⟩
      have hb8 := hb7.trans (e8.mono hz7)
      have hz8 := hb8.size
      have e9 : Below w8.heap.size w8 (w8.alloc (.cells #[] 9)) := (Below.refl _ _).alloc (Nat.le_refl _) _
      have hT9 := hT8.under e9
      have hb9 := hb8.alloc hz8 (.cells #[] 9)
      have ho9 := own_empty w8 w.heap.size 9 hz8
      have hz8e : w8.heap.size = w7.heap.size + 1 := by rw [hw8]; simp
      rw [hz8e] at ho9
      have hH0 : w7.heap.size ≤ (w8.alloc (.cells #[] 9)).heap.size := by have := e8.size; simp; omega
      have HT9 := Lib.hid hT9
      have HB9 := Lib.hid hb9
      have HO9 := Lib.hid ho9
      have HH0 := Lib.hid hH0
      have HOUT := Lib.hid hout
      obtain ⟨H0, hH0e⟩ : ∃ H0, w7.heap.size = H0 := ⟨_, rfl⟩
      rw [hH0e] at HT9 HH0 HO9
      clear hz8e C3 hw7 hwr7 hb7 ho7 HW6 HB6 HO6 hz6 e8 hk8 hT8 hb8 e9 hT9 hb9 ho9 hH0 hout HOL
      go_wp2
      rw [← hw8]
      clear hw8 hH0e hz7 hz8
      go_loopw [12, 13] (fun s12 s13 wr => ∃ (i : Nat) (vW vb vi : Value) (lb li : List Value), s13 = .int .i64 i ∧ i ≤ 3 ∧ s12 = vW ∧ Own wr w.heap.size 9 vW (List.replicate i (.string (strOf out))) ∧ TW wr w.heap.size H0 H0 pw (.slice aS S.length cS) v7 vb vi S out lb li ∧ H0 ≤ wr.heap.size ∧ lb.length ≤ 3 * i ∧ li.length ≤ 4 * i ∧ Below w.heap.size w wr) (fun _ s _ => 3 - (intOf s).toNat)
      case atStart => exact ⟨0, _, _, _, [], [], rfl, by omega, rfl, HO9.out, HT9.out, HH0.out, by simp, by simp, HB9.out⟩
      case round =>
        clear HO9 HT9 HH0 HB9
        obtain ⟨i, vW, vb, vi, lb, li, rfl, hi, rfl, hoW, hT, hH, hlb, hli, hb⟩ := hrel
        have hsz := hb.size
        by_cases hlt3 : i < 3
        · have C1 := wbytes_any wr _ _ _ _ hT.wr (by omega)
          have HT := Lib.hid hT
          have HW := Lib.hid hoW
          have HB := Lib.hid hb
          clear hT hoW hb
          go_wp2_with fail
          refine C1.mono ?_
          rintro e w10 ⟨v10, rfl, ho10, hb10⟩
          obtain ⟨a10, n10, c10, rfl⟩ := own_sl ho10
          obtain rfl : n10 = out.length := by have := ho10.len; rwa [bytesV_length] at this
          have C2 := nr_any w10 a10 out.length c10 out ho10.rd (by omega)
          have hz10 := hb10.size
          have HT10 := Lib.hid (HT.out.under hb10)
          have HW10 := Lib.hid (HW.out.below hb10 (Nat.le_refl _))
          have HB10 := Lib.hid (HB.out.trans (hb10.mono hsz))
          have HL10 := Lib.hid HT.out.rb.lt
          have HO10 := Lib.hid ho10
          clear C1 ho10 hb10 HT HW HB
          go_wp2_with fail
          refine C2.mono ?_
          rintro e w11 ⟨pr, vr, rfl, hr11, hb11⟩
          have hz11 := hb11.size
          have ho11 := HO10.out.below hb11 (Nat.le_refl _)
          have C3 := nr_any w11 a10 out.length c10 out ho11.rd (by omega)
          have HT11 := Lib.hid (HT10.out.under hb11)
          have HW11 := Lib.hid (HW10.out.below hb11 (Nat.le_refl _))
          have HB11 := Lib.hid (HB10.out.trans (hb11.mono (by omega)))
          have HR11 := Lib.hid (hr11.lowr (B0 := w.heap.size) (by omega))
          have HO11 := Lib.hid ho11
          clear C2 ho11 hb11 hr11 HT10 HW10 HB10 HO10
          go_wp2_with fail
          refine C3.mono ?_
          rintro e w12 ⟨ps, vs, rfl, hr12, hb12⟩
          have hz12 := hb12.size
          have ho12 := HO11.out.below hb12 (Nat.le_refl _)
          have r1 := run_str (P := Tryd.prog) Tryd.underlying37 Tryd.underlying5 Tryd.underlying9 ho12.rd
          have hne : pr ≠ ps := by have := (HR11.out.ge pr (.inl rfl)).2; have := hr12.hp; omega
          have HT12 := Lib.hid (HT11.out.under hb12)
          have hW12 := HW11.out.below hb12 (Nat.le_refl _)
          have HB12 := Lib.hid (HB11.out.trans (hb12.mono (by omega)))
          have HR12 := Lib.hid (HR11.out.under hb12)
          have HS12 := Lib.hid (hr12.lowr (B0 := w.heap.size) (by omega))
          have HO12 := Lib.hid ho12
          obtain ⟨aW, nW, cW, rfl⟩ := own_sl hW12
          have hlW : (List.replicate i (Value.string (strOf out))).length < 1000000000000 := by simp; omega
          have hzz : w.heap.size ≤ w12.heap.size := by omega
          clear C3 ho12 hb12 hr12 HT11 HW11 HB11 HR11 HO11
          go_wp2_with (at_builtin; with_reducible refine ap1' elStr rfl hW12 hlW hzz rfl _ _ rfl rfl rfl ?_)
          intro v13 w13 g1 g2 g3 g4
          have hblS : ∀ k, (Value.slice aW nW cW).ownBlock = some k → w.heap.size ≤ k := fun k hk => (hW12.lt k hk).1
          have e13 : Eff (fun k => (Value.slice aW nW cW).ownBlock = some k) w12 w13 := (Eff.refl _ _).grown g4 (fun i hi _ => hi)
          have hT13 := HT12.out.str e13 hW12
          have hr13 := HR12.out.str e13 hW12
          have hs13 := HS12.out.str e13 hW12
          have ho13 := HO12.out.eff e13 (fun k hk hv => own_types HO12.out hW12 (by decide) hk hv)
          have hb13 := HB12.out.trans (e13.below hblS hzz)
          have hz13 := e13.size
          have g1' := own_to g1 (show _ = List.replicate (i + 1) (Value.string (strOf out)) by rw [List.replicate_succ'])
          obtain ⟨a13, n13, c13, rfl⟩ := own_sl g1
          have C4 := bkB_x w13 _ _ _ _ _ _ hT13.bk (by omega) (by omega) a10 out.length c10
          have HT13 := Lib.hid hT13
          have HR13 := Lib.hid hr13
          have HS13 := Lib.hid hs13
          have HB13 := Lib.hid hb13
          have HW13 := Lib.hid g1'
          have HO13 := Lib.hid ho13
          clear g1 g1' g2 g3 g4 e13 hT13 hr13 hs13 ho13 hb13 r1 hblS hW12 hlW HT12 HB12 HR12 HS12 HO12
          go_wp2_with fail
          refine C4.mono ?_
          rintro e w14 ⟨rfl, vb', hk14, e14⟩
          have hT14 := HT13.out.addB (H := wr.heap.size) hk14 e14 HO13.out HL10.out (by rw [bytesV_length]; omega) hH
          have hr14 := HT13.out.bk.rdr e14 HR13.out
          have hs14 := HT13.out.bk.rdr e14 HS13.out
          have hW14 := HT13.out.bk.keep e14 HW13.out (by decide) (by decide) (by decide)
          have hb14 := HB13.out.trans (HT13.out.book_below e14 (by omega))
          have hz14 := e14.size
          have e15 : Below w14.heap.size w14 (w14.alloc (.cells #[.pointer (some ⟨pr, 0, none⟩), .pointer (some ⟨ps, 0, none⟩)] 54)) := (Below.refl _ _).alloc (Nat.le_refl _) _
          have hI : IW (w14.alloc (.cells #[.pointer (some ⟨pr, 0, none⟩), .pointer (some ⟨ps, 0, none⟩)] 54)) w.heap.size H0 H0 pw w14.heap.size ps 0 (.slice aS S.length cS) v7 vb' vi (.slice a13 n13 c13) vs (.pointer (some ⟨pr, 0, none⟩)) (.pointer (some ⟨ps, 0, none⟩)) S out (List.replicate (i + 1) (.string (strOf out))) (lb ++ [.slice a10 out.length c10]) li w :=
            ⟨hT14.under e15, hW14.below e15 (Nat.le_refl _), heap_alloc_new w14 _, fun _ => hs14.under e15, by simp; omega, hb14.alloc hb14.size _⟩
          have hr15 := hr14.under e15
          have HI := Lib.hid hI
          have HR15 := Lib.hid hr15
          have HNE := Lib.hid hne
          obtain ⟨bq, hbq⟩ : ∃ bq, w14.heap.size = bq := ⟨_, rfl⟩
          rw [hbq] at HI
          clear C4 hk14 e14 hT14 hr14 hs14 hW14 hb14 e15 hI hr15 hne HT13 HR13 HS13 HB13 HW13 HO13 HL10 hz10 hz11 hz12 hz13 hz14 hzz
          go_wp2
          clear hbq
          go_loopw [95] (fun s95 wr => ∃ (j : Nat) (vb vi : Value) (lb' li' : List Value), s95 = .int .i64 j ∧ j ≤ 2 ∧ IW wr w.heap.size H0 H0 pw bq ps j (.slice aS S.length cS) v7 vb vi (.slice a13 n13 c13) vs (.pointer (some ⟨pr, 0, none⟩)) (.pointer (some ⟨ps, 0, none⟩)) S out (List.replicate (i + 1) (.string (strOf out))) lb' li' w ∧ lb'.length ≤ 3 * i + 1 + j ∧ li'.length ≤ 4 * i + 2 * j ∧ (j = 0 → Rdr wr w.heap.size pr vr out 0) ∧ (j = 1 → Rdr wr w.heap.size ps vs out 0)) (fun s _ => 2 - (intOf s).toNat)
          case atStart => exact ⟨0, _, _, _, _, rfl, by omega, HI.out, by simp; omega, by omega, fun _ => HR15.out, fun h => by omega⟩
          case round =>
            clear HI HR15
            obtain ⟨j, vb, vi, lb', li', rfl, hj, hI, hlb', hli', hr0, hr1⟩ := hrel
            by_cases hlt4 : j < 2
            · obtain ⟨px, vx, hcx, hrx, hpx⟩ : ∃ px vx, wr.cell? ⟨bq, j, none⟩ = some (.pointer (some ⟨px, 0, none⟩)) ∧ Rdr wr w.heap.size px vx out 0 ∧ (j = 0 → ps ≠ px) := by
                by_cases h0 : j = 0
                · subst h0; exact ⟨pr, vr, blk_cell hI.row 0, hr0 rfl, fun _ => HNE.out.symm⟩
                · obtain rfl : j = 1 := by omega
                  exact ⟨ps, vs, blk_cell hI.row 1, hr1 rfl, fun h => absurd h h0⟩
              have hz0 := hI.z (Nat.le_refl _)
              have hE := HE.out.eff (Eff.of_below hI.bl (fun _ => False)) HG.out (fun _ f => f.elim)
              have C1 := rris_out wr w.heap.size px vx out 0 hrx hz0 EA hE HG.out S.length (by omega) (by omega)
              have HI := Lib.hid hI
              have HRX := Lib.hid hrx
              have HPX := Lib.hid hpx
              have HLI := Lib.hid hI.tw.ri.lt
              have HJ1 := Lib.hid hr1
              have hH1 := hI.h0
              clear hI hrx hpx hr0 hr1 hE
              go_wp2_with fail
              refine C1.mono ?_
              rintro e w1 ⟨_, h2⟩
              have hg1 : getRis S.length (out.drop 0) = .ok (S, (risB S).length) := by rw [List.drop_zero, ← HOUT.out, List.append_assoc]; exact gp_ris HA.out.neg HA.out.ri HA.out.fit (by omega) _
              obtain ⟨v1, rfl, ho1, hr1, e1⟩ := h2 S _ hg1
              rw [Nat.zero_add] at hr1
              have hI1 := HI.out.rdr HRX.out e1 HPX.out (Nat.le_refl _)
              have hz1 := hI1.z (Nat.le_refl _)
              have hz01 := e1.size
              obtain ⟨b1, n1, d1, rfl⟩ := own_sl ho1
              obtain rfl : n1 = S.length := by have := ho1.len; rwa [intL_length] at this
              have hE1 := HE.out.eff (Eff.of_below hI1.bl (fun _ => False)) HG.out (fun _ f => f.elim)
              have C2 := rpck_out w1 w.heap.size px vx out _ hr1 hz1 EA hE1 HG.out ((S.length : Int) + 1) (by omega) (by omega)
              have hg2 : toI (getPk ((S.length : Int) + 1) (out.drop (risB S).length)) = .ok (S ++ [5], (pckB (natOf (S ++ [5]))).length) := by
                rw [← HOUT.out, List.append_assoc, List.drop_left]
                have hok := ok_snoc (z := 5) HA.out.neg (by omega)
                have hfit := fit_snoc (z := 5) HA.out.fit (by omega) (by omega)
                have := gp_pk (natOf_fit hfit) (fun h0 hw => by rw [natOf_length]; exact hok.2 ((zerosB_iff hok.1 hfit).1 hw)) (by rw [natOf_length]; simp; omega) bs
                have e5 : (((S ++ [(5 : Int)]).length : Nat) : Int) = (S.length : Int) + 1 := by simp
                rw [natOf_length, e5] at this
                rw [this]; unfold toI; simp only [natI_natOf hok.1]
              have HI1 := Lib.hid hI1
              have HR1 := Lib.hid hr1
              have HO1 := Lib.hid ho1
              have HG2 := Lib.hid hg2
              have HV1 := Lib.hid (show ∀ k, (Value.slice b1 S.length d1).ownBlock = some k → k < w1.heap.size from fun k hk => (ho1.lt k hk).2)
              clear h2 hg1 C1 hI1 hr1 ho1 e1 hE1 hg2 HI HRX hz0
              go_wp2_with fail
              refine C2.mono ?_
              rintro e w2 ⟨_, h2⟩
              obtain ⟨v2, rfl, ho2, hr2, e2⟩ := h2 _ _ HG2.out
              have hI2 := HI1.out.rdr HR1.out e2 HPX.out (Nat.le_refl _)
              have ho12 := HR1.out.keep e2 HO1.out (by decide)
              have hL2 := HI1.out.tw.ri.lt
              have hz2 := hI2.z (Nat.le_refl _)
              have hz12 := e2.size
              obtain ⟨b2, n2, d2, rfl⟩ := own_sl ho2
              obtain rfl : n2 = S.length + 1 := by have := ho2.len; rw [intL_length] at this; simpa using this
              have hE2 := HE.out.eff (Eff.of_below hI2.bl (fun _ => False)) HG.out (fun _ f => f.elim)
              have C3 := rraw_any w2 w.heap.size px vx out _ hr2 EA hE2 bs.length (by omega) (by omega)
              have hg3 : getRaw bs.length (out.drop ((risB S).length + (pckB (natOf (S ++ [5]))).length)) = .ok (bs, bs.length) := by
                rw [← HOUT.out, ← List.length_append, List.drop_left]
                have := gp_raw bs []
                rwa [List.append_nil] at this
              have HI2 := Lib.hid hI2
              have HR2' := Lib.hid hr2
              have HO1 := Lib.hid ho12
              have HO2 := Lib.hid ho2
              have HG3 := Lib.hid hg3
              have HL2 := Lib.hid hL2
              clear h2 C2 hI2 hr2 ho2 e2 hE2 hg3 HI1 HR1 ho12 hL2 HG2 hz1
              go_wp2_with fail
              refine C3.mono ?_
              rintro e w3 ⟨_, h2⟩
              obtain ⟨v3, rfl, ho3, hr3, e3⟩ := h2 _ _ HG3.out
              have hI3 := HI2.out.rdr HR2'.out e3 HPX.out (Nat.le_refl _)
              have ho13 := HR2'.out.keep e3 HO1.out (by decide)
              have ho23 := HR2'.out.keep e3 HO2.out (by decide)
              have hL3 := HI2.out.tw.rb.lt
              have hz3 := hI3.z (Nat.le_refl _)
              have hz23 := e3.size
              obtain ⟨b3, n3, d3, rfl⟩ := own_sl ho3
              obtain rfl : n3 = bs.length := by have := ho3.len; rwa [bytesV_length] at this
              have C4 := same_any w3 b1 aS S.length S.length d1 cS S S ho13.rd hI3.tw.so.rd (by omega) (by omega)
              rw [decide_eq_true (rfl : S = S)] at C4
              have HI3 := Lib.hid hI3
              have HO1 := Lib.hid ho13
              have HO2 := Lib.hid ho23
              have HO3 := Lib.hid ho3
              have HL3 := Lib.hid hL3
              clear h2 C3 hI3 hr3 ho3 e3 HI2 HR2' ho13 ho23 hL3 HG3 hz2
              go_wp2_with fail
              refine C4.mono ?_
              rintro e w4 ⟨rfl, k4, hw4⟩
              have hI4 := HI3.out.drewN k4
              have ho14 := HO1.out.drewN k4
              have ho24 := HO2.out.drewN k4
              have ho34 := HO3.out.drewN k4
              have hz34 : w4.heap.size = w3.heap.size := by rw [hw4]; rfl
              rw [← hw4] at hI4 ho14 ho24 ho34
              clear C4 hw4 HI3
              obtain ⟨g2, rfl⟩ := ho24.someAt (by omega)
              have ht2 := own_to (own_take ho24 (n := S.length) (by rw [intL_length]; simp)) (show _ = intL S by rw [intL_append, List.take_left' (intL_length S)])
              have hc5 : w4.cell? ⟨g2, S.length, none⟩ = some (.int .i64 5) := ho24.get (by rw [intL_append, List.getElem?_append_right (by rw [intL_length]; exact Nat.le_refl _), intL_length, Nat.sub_self]; rfl)
              have hcap := own_cap ho24
              have q1 : (S.length : Int) ≤ d2 := by omega
              have q2 : S.length ≤ d2 := by omega
              have q3 : (d2 : Int) ≤ 9223372036854775807 := by have := hcap.2; unfold maxLen at this; omega
              have C5 := same_any w4 (some ⟨g2, 0, none⟩) aS S.length S.length d2 cS S S ht2.rd hI4.tw.so.rd (by omega) (by omega)
              rw [decide_eq_true (rfl : S = S)] at C5
              have r3 := fun d : Nat => run_str (P := Tryd.prog) Tryd.underlying37 Tryd.underlying5 Tryd.underlying9 (ho34.drewN d).rd
              have r4 := fun d : Nat => run_str (P := Tryd.prog) Tryd.underlying37 Tryd.underlying5 Tryd.underlying9 (HR2.out.below (below_drewN hI4.bl d) (Nat.le_refl _))
              have HI4 := Lib.hid hI4
              have HO1 := Lib.hid ho14
              have HO2 := Lib.hid ho24
              have HO3 := Lib.hid ho34
              have R3 := Lib.hid r3
              have R4 := Lib.hid r4
              clear hI4 ho14 ho24 ho34 ht2 hcap r3 r4
              go_wp2_with fail
              refine C5.mono ?_
              rintro e w5 ⟨rfl, k5, hw5⟩
              have hc5' : w5.cell? ⟨g2, S.length, none⟩ = some (.int .i64 5) := by rw [hw5]; exact hc5
              have r3 := R3.out k5
              have r4 := R4.out k5
              rw [← hw5] at r3 r4
              have hI5 := HI4.out.drewN k5
              have ho15 := HO1.out.drewN k5
              have ho25 := HO2.out.drewN k5
              have ho35 := HO3.out.drewN k5
              have hz45 : w5.heap.size = w4.heap.size := by rw [hw5]; rfl
              rw [← hw5] at hI5 ho15 ho25 ho35
              have q4 : (S.length : Int) < (S.length : Int) + 1 := by omega
              have C6 := bkI_x w5 _ _ _ _ _ _ hI5.tw.bk (hI5.z (Nat.le_refl _)) (by omega) b1 S.length d1
              have HI5 := Lib.hid hI5
              have HO1 := Lib.hid ho15
              have HO2 := Lib.hid ho25
              have HO3 := Lib.hid ho35
              clear C5 hw5 hc5 hI5 ho15 ho25 ho35 HI4 R3 R4
              go_wp2_with fail
              refine C6.mono ?_
              rintro e w6 ⟨rfl, vi6, hk6, e6⟩
              have hI6 := HI5.out.addI (Nat.le_refl _) (H := wr.heap.size) hk6 e6 HO1.out HLI.out (by rw [intL_length]; omega) hH1
              have ho26 := HI5.out.tw.bk.keep e6 HO2.out (by decide) (by decide) (by decide)
              have ho36 := HI5.out.tw.bk.keep e6 HO3.out (by decide) (by decide) (by decide)
              have C7 := bkI_x w6 _ _ _ _ _ _ hI6.tw.bk (hI6.z (Nat.le_refl _)) (by simp; omega) (some ⟨g2, 0, none⟩) (S.length + 1) d2
              have HI6 := Lib.hid hI6
              have HO2 := Lib.hid ho26
              have HO3 := Lib.hid ho36
              clear C6 hk6 e6 hI6 ho26 ho36 HI5 r3 r4 hc5' q1 q2 q3 q4
              go_wp2_with fail
              refine C7.mono ?_
              rintro e w7 ⟨rfl, vi7, hk7, e7⟩
              have hI7 := HI6.out.addI (Nat.le_refl _) (H := w1.heap.size) hk7 e7 HO2.out (fun k hk => (blocks_snoc hk).elim (HL2.out k) (HV1.out k)) (by rw [intL_length]; simp; omega) (by omega)
              have ho37 := HI6.out.tw.bk.keep e7 HO3.out (by decide) (by decide) (by decide)
              have C8 := bkB_x w7 _ _ _ _ _ _ hI7.tw.bk (hI7.z (Nat.le_refl _)) (by omega) b3 bs.length d3
              have HI7 := Lib.hid hI7
              have HO3 := Lib.hid ho37
              clear C7 hk7 e7 hI7 ho37 HI6 HO2
              go_wp2_with fail
              refine C8.mono ?_
              rintro e w8 ⟨rfl, vb8, hk8, e8⟩
              have hI8 := HI7.out.addB (Nat.le_refl _) (H := w2.heap.size) hk8 e8 HO3.out HL3.out (by rw [bytesV_length]; omega) (by omega)
              have HI8 := Lib.hid hI8
              clear C8 hk8 e8 hI8 HI7 HO3
              go_wp2
              go_roundw
              case rel => exact ⟨j + 1, _, _, _, _, by go_num, by omega, ⟨HI8.out.tw, HI8.out.st, HI8.out.row, fun h => by omega, HI8.out.h0, HI8.out.bl⟩, by simp; omega, by simp; omega, fun h => by omega, fun h => HI8.out.nx (by omega)⟩
              case measure => simp [intOf]; omega
            · go_wp2
              go_roundw
              case rel => exact ⟨i + 1, _, _, _, _, _, by go_num, by omega, rfl, hI.st, hI.tw, hI.h0, by omega, by omega, hI.bl⟩
              case measure => simp [intOf]; omega
        · obtain rfl : i = 3 := by omega
          obtain ⟨CB, hB1, hB2⟩ := hT.rb
          obtain ⟨CI, hI1, hI2⟩ := hT.ri
          have C1 := un_any wr _ _ _ _ _ _ CB CI hT.bk hB1 hI1 (by omega) (by omega) hB2 hI2
          have HT := Lib.hid hT
          have HW := Lib.hid hoW
          have HB := Lib.hid hb
          clear hT hoW hb hB1 hB2 hI1 hI2
          go_wp2_with fail
          refine C1.mono ?_
          rintro e w1' ⟨rfl, e1⟩
          have hT1 : Wr w1' w.heap.size pw v7 out ∧ Own w1' w.heap.size 3 (.slice aS S.length cS) (intL S) := by
            refine ⟨HT.out.wr.eff e1 (fun k hk hf => ?_), HT.out.so.eff e1 (fun k hk hf => ?_)⟩
            · have := HT.out.hw k hk
              rcases hf with hf | hf
              · have := HT.out.hb k hf; omega
              · have := HT.out.hi k hf; omega
            · have := HT.out.hs k hk
              rcases hf with hf | hf
              · have := HT.out.hb k hf; omega
              · have := HT.out.hi k hf; omega
          have hW1 := HW.out.eff e1 (fun k hk hf => by
            rcases hf with hf | hf
            · obtain ⟨cs, hg⟩ := HT.out.rb.blk hf; exact HW.out.ne_type hg (by decide) hk
            · obtain ⟨cs, hg⟩ := HT.out.ri.blk hf; exact HW.out.ne_type hg (by decide) hk)
          have hH0 : w.heap.size ≤ H0 := HT.out.bk.hp
          have hb1' := HB.out.trans (e1.below (B := w.heap.size) (fun k hk => hk.elim (fun h => Nat.le_trans hH0 (HT.out.hb k h)) (fun h => Nat.le_trans hH0 (HT.out.hi k h))) hsz)
          obtain ⟨gW, cW, rfl, _, _, hcW, hmW, hcells⟩ := hW1.pos (by simp)
          simp only [List.length_replicate] at hcW ⊢
          have c0 := hcells 0 (.string (strOf out)) rfl
          have c1 := hcells 1 (.string (strOf out)) rfl
          have c2' := hcells 2 (.string (strOf out)) rfl
          have hcw : ∀ W, Below w1'.heap.size w1' W → W.cell? ⟨gW, 0, none⟩ = some (.string (strOf out)) ∧ W.cell? ⟨gW, 1, none⟩ = some (.string (strOf out)) ∧ W.cell? ⟨gW, 2, none⟩ = some (.string (strOf out)) := fun W hB =>
            ⟨(hB.cell (World.block_lt_of_cell? w1' _ c0)).trans c0, (hB.cell (World.block_lt_of_cell? w1' _ c1)).trans c1, (hB.cell (World.block_lt_of_cell? w1' _ c2')).trans c2'⟩
          have K1 : ∀ W, (W.cell? ⟨gW, 0, none⟩ = some (.string (strOf out)) ∧ W.cell? ⟨gW, 1, none⟩ = some (.string (strOf out)) ∧ W.cell? ⟨gW, 2, none⟩ = some (.string (strOf out)) ∧ Below w1'.heap.size w1' W) →
              Calls Tryd.prog 18 #[.pointer (some ⟨pw, 0, none⟩)] W fun e W' => ∃ a n c, e = .returned (.slice a n c) ∧ (W'.cell? ⟨gW, 0, none⟩ = some (.string (strOf out)) ∧ W'.cell? ⟨gW, 1, none⟩ = some (.string (strOf out)) ∧ W'.cell? ⟨gW, 2, none⟩ = some (.string (strOf out)) ∧ Below w1'.heap.size w1' W') ∧ Below W'.heap.size W' W' ∧ (∀ W2, Below W'.heap.size W' W2 → (convert 37 9 (.slice a n c)).run Tryd.prog W2 = .ok (.string (strOf out)) W2) := by
            rintro W ⟨_, _, _, hB⟩
            refine (wbytes_any W _ _ _ _ (hT1.1.of_below hB) (by omega)).mono ?_
            rintro e W' ⟨v', rfl, ho, hb⟩
            obtain ⟨a, n, c, rfl⟩ := own_sl ho
            have hB' := hB.trans (hb.mono hB.size)
            exact ⟨a, n, c, rfl, ⟨(hcw W' hB').1, (hcw W' hB').2.1, (hcw W' hB').2.2, hB'⟩, Below.refl _ _, fun W2 hb2 => run_str Tryd.underlying37 Tryd.underlying5 Tryd.underlying9 (ho.below hb2 (Nat.le_refl _)).rd⟩
          have K2 : ∀ W, (W.cell? ⟨gW, 0, none⟩ = some (.string (strOf out)) ∧ W.cell? ⟨gW, 1, none⟩ = some (.string (strOf out)) ∧ W.cell? ⟨gW, 2, none⟩ = some (.string (strOf out)) ∧ Below w1'.heap.size w1' W) →
              Calls Tryd.prog 42 #[.slice aS S.length cS, .slice a2 bs.length c2] W fun e W' => e = .returned (.bool true) ∧ (W'.cell? ⟨gW, 0, none⟩ = some (.string (strOf out)) ∧ W'.cell? ⟨gW, 1, none⟩ = some (.string (strOf out)) ∧ W'.cell? ⟨gW, 2, none⟩ = some (.string (strOf out)) ∧ Below w1'.heap.size w1' W') ∧ Below W.heap.size W W' := by
            rintro W ⟨_, _, _, hB⟩
            have hBw := hb1'.trans (hB.mono hb1'.size)
            refine (place_any W aS _ cS S (hT1.2.below hB (Nat.le_refl _)).rd a2 _ c2 bs (HR2.out.below hBw (Nat.le_refl _)) HA.out.neg HA.out.ri HA.out.fit (by omega) hbs EA (HE.out.eff (Eff.of_below hBw (fun _ => False)) HG.out (fun _ f => f.elim))).mono ?_
            rintro e W' ⟨rfl, hb⟩
            have hB' := hB.trans (hb.mono hB.size)
            exact ⟨rfl, ⟨(hcw W' hB').1, (hcw W' hB').2.1, (hcw W' hB').2.2, hB'⟩, hb⟩
          have HK1 := Lib.hid K1
          have HK2 := Lib.hid K2
          have hS : w1'.drew.cell? ⟨gW, 0, none⟩ = some (.string (strOf out)) ∧ w1'.drew.cell? ⟨gW, 1, none⟩ = some (.string (strOf out)) ∧ w1'.drew.cell? ⟨gW, 2, none⟩ = some (.string (strOf out)) ∧ Below w1'.heap.size w1' w1'.drew := ⟨c0, c1, c2', below_drewN (Below.refl _ _) 1⟩
          have HB1 := Lib.hid hb1'
          clear C1 e1 HT HW HB hcells hW1 K1 K2 hcw hT1 hb1' c0 c1 c2'
          go_wp2
          go_region_held (fun w' => w'.cell? ⟨gW, 0, none⟩ = some (.string (strOf out)) ∧ w'.cell? ⟨gW, 1, none⟩ = some (.string (strOf out)) ∧ w'.cell? ⟨gW, 2, none⟩ = some (.string (strOf out)) ∧ Below w1'.heap.size w1' w') (assumption)
            (first | (go_at_call 18; refine (HK1.out _ (by assumption)).mono ?_; rintro e w' ⟨a', n', c', rfl, hS', hb', hk'⟩) | (go_at_call 42; refine (HK2.out _ (by assumption)).mono ?_; rintro e w' ⟨rfl, hS', hb'⟩))
          all_goals
            go_wp2
            go_ret
            exact ⟨rfl, HB1.out.trans ((by first | exact hS'.2.2.2 | (rename_i h; exact h.2.2.2) : Below w1'.heap.size w1' _).mono HB1.out.size)⟩
end Go.Proofs.YtmmflhippbegaaaDoor

/- asked: the arms of lists; the whole (printed by wip/gen_ask.py). -/
import Derived.Test.YtmmflhippbegaaaDoorZAskA
namespace Go.Proofs.YtmmflhippbegaaaDoor
set_option linter.unusedVariables false
open Go.ChangeShapes Go.WideShapes Go.ChangeAt Go.RowKit

theorem raw_lk {w w' : World} {base p k : Nat} {v : Value} {bs : List UInt8} {EA : Nat → Addr} {n : Int} {e : Ending} (h : RawPost w base p v bs k EA n e w') :
    ∃ vv, e = .returned (.tuple #[vv, evE EA (lkS k (getRaw n (bs.drop k))).e]) ∧ Own w' w.heap.size 5 vv (bytesV (lkS k (getRaw n (bs.drop k))).s) ∧ Rdr w' base p v bs (lkS k (getRaw n (bs.drop k))).next ∧ Eff (· = p) w w' := by
  cases hr : getRaw n (bs.drop k) with
  | error m =>
    obtain ⟨he, h1, h2⟩ := h.1 m hr
    refine ⟨.slice none 0 0, ?_, own_nil _ _ _, h1, h2⟩
    show e = .returned (.tuple #[.slice none 0 0, evE EA m])
    rw [evE_err (getRaw_err hr), he]
  | ok y =>
    obtain ⟨vv, he, ho, h1, h2⟩ := h.2 y.1 y.2 hr
    exact ⟨vv, he, ho, h1, h2⟩
theorem list_lk {w w' : World} {base p k : Nat} {v : Value} {bs : List UInt8} {EA : Nat → Addr} {res : Except Nat (List Int × Nat)} {e : Ending} (hE : ∀ n, res = .error n → ErrN n) (h : LOut true w base p v bs k EA res e w') :
    ∃ vv, e = .returned (.tuple #[vv, evE EA (lkL k res).e]) ∧ Own w' w.heap.size 3 vv (intL (lkL k res).l) ∧ Rdr w' base p v bs (lkL k res).next ∧ Eff (· = p) w w' := by
  cases hr : res with
  | error m =>
    obtain ⟨he, ⟨k', hk, h1⟩, h2⟩ := h.1 m hr
    have := hk rfl
    subst this
    refine ⟨.slice none 0 0, ?_, own_nil _ _ _, h1, h2⟩
    show e = .returned (.tuple #[.slice none 0 0, evE EA m])
    rw [evE_err (hE m hr), he]
  | ok y =>
    obtain ⟨vv, he, ho, h1, h2⟩ := h.2 y.1 y.2 hr
    exact ⟨vv, he, ho, h1, h2⟩

set_option maxRecDepth 100000 in
set_option maxHeartbeats 2000000 in
theorem ask_6 (w0 w : World) (base p pk : Nat) (v : Value) (bs : List UInt8) (vb vi : Value) (lb li : List Value) (k : Nat) (EA : Nat → Addr) (hS : Sent w0 EA) (h0 : w0.heap.size ≤ base) (hz : base ≤ w.heap.size) (hbel : Below w0.heap.size w0 w) (hr : Rdr w base p v bs k) (hb : BookX w base pk vb vi lb li) (hll : lb.length ≤ 1000000000) (hli : li.length ≤ 1000000000) (hlen : bs.length ≤ 100000000) (hG : GLow base) (sec b s l : Value) (n u i : Int) (hn0 : -9223372036854775808 ≤ n) (hn1 : n ≤ 9223372036854775807) :
    Calls Tryd.prog 32 #[.pointer (some ⟨p, 0, none⟩), .agg #[.int .i64 6, sec, .int .i64 n, .int .u64 u, .int .i64 i, b, s, l], .pointer (some ⟨pk, 0, none⟩)] w (AskP w base p pk v bs vb vi lb li (lkS k (getRaw n (bs.drop k)))) := by
  have A0 := AskC.init hr hb (.cells #[.int .i64 6, sec, .int .i64 n, .int .u64 u, .int .i64 i, b, s, l] 46)
  have hz3 : base ≤ (((w.alloc (.cells #[.int .i64 6, sec, .int .i64 n, .int .u64 u, .int .i64 i, b, s, l] 46)).alloc (.cells #[.int .u64 0, .string ⟨#[]⟩, .slice none 0 0, .int .i64 0, .int .i64 0] 66)).alloc (.cells #[.int .u64 0, .string ⟨#[]⟩, .slice none 0 0, .int .i64 0, .int .i64 0] 66)).heap.size := by have := A0.sz; omega
  have hS3 := hS.below (hbel.trans ((A0.bel hb hz).mono h0))
  have hE3 : RErr _ EA := ⟨hS3.c1, hS3.c2, hS3.c3, hS3.c4, hS3.c8⟩
  have C1 := rraw_any _ base p v bs k A0.rd EA hE3 n hn0 hn1
  have hko := hr.le
  have HS := Lib.hid hS
  have HBEL := Lib.hid hbel
  have HBK := Lib.hid hb
  have HA0 := Lib.hid A0
  clear hS hbel hb A0 hG hr hS3 hE3 hz3
  have hE : (lkS k (getRaw n (bs.drop k))).e = 0 ∨ ErrN (lkS k (getRaw n (bs.drop k))).e := by
    cases hres : getRaw n (bs.drop k) with
    | error q => exact .inr (getRaw_err hres)
    | ok y => exact .inl rfl
  have hLn : (lkS k (getRaw n (bs.drop k))).s.length ≤ bs.length := by
    cases hres : getRaw n (bs.drop k) with
    | error q => simp [lkS]
    | ok y => have h1 := (getRaw_len hres).1; rw [List.length_drop] at h1; simp only [lkS]; omega
  have HE := Lib.hid hE
  clear hE
  rw [lkS_eta]
  obtain ⟨X, hV⟩ : ∃ X, (lkS k (getRaw n (bs.drop k))).s = X := ⟨_, rfl⟩
  obtain ⟨nx, hnx⟩ : ∃ nx, (lkS k (getRaw n (bs.drop k))).next = nx := ⟨_, rfl⟩
  obtain ⟨E, hEE⟩ : ∃ E, (lkS k (getRaw n (bs.drop k))).e = E := ⟨_, rfl⟩
  rw [hEE] at HE
  rw [hV] at hLn
  rw [hV, hnx, hEE]
  have HV := Lib.hid hV
  have HNX := Lib.hid hnx
  have HEE := Lib.hid hEE
  clear hV hnx hEE
  go_enter Tryd.func32, Tryd.ntmps32
  go_wp2_with fail
  refine C1.mono ?_
  rintro e w1 hout
  obtain ⟨vv, rfl, hov1, hr1, he1⟩ := raw_lk hout
  clear hout C1
  have hA1 := HA0.out.call he1 hr1
  rw [HV.out] at hov1
  rw [HEE.out]
  rw [HNX.out] at hA1
  clear he1 hr1 HA0 HV HEE HNX
  have ho1 := own_base hov1 (show w.heap.size ≤ _ by simp; omega)
  obtain ⟨av, cv, rfl⟩ := own_slice ho1
  have hzw : w.heap.size ≤ w1.heap.size := by have := hA1.sz; omega
  have hrun := run_str (P := Tryd.prog) Tryd.underlying37 Tryd.underlying5 Tryd.underlying9 ho1.rd
  have hA2 := hA1.set1 (.string (strOf X))
  have ho2 := ho1.setOther (p := ⟨w.heap.size + 1 + 1, 1, none⟩) (ho1.ne_type hA1.lk (by decide)) (.string (strOf X))
  have C2 := bkB_g _ base pk vb vi lb li hA2.bk (by have := hA2.sz; omega) hll av (bytesV X).length cv
  have f0 := blk_frozen hA1.lk 1
  have m0 : w1.cell? ⟨w.heap.size + 1 + 1, 1, none⟩ = some (.string ⟨#[]⟩) := blk_cell hA1.lk 1
  have HA2 := Lib.hid hA2
  have HO2 := Lib.hid ho2
  clear hA1 hA2 ho1 ho2 hov1
  go_wp2_with fail
  refine C2.mono ?_
  rintro e wx ⟨rfl, vb3, hk3, e3, ff3⟩
  have hA := HA2.out.book e3 hk3 ff3 (Fresh.refl _ _)
  have ho3 := HA2.out.bk.keep e3 HO2.out (by decide) (by decide) (by decide)
  have hov : Own wx w.heap.size 3 (.slice none 0 0) (intL []) := own_nil _ _ _
  have hab : AddB w wx 5 bs.length lb (lb ++ [.slice av (bytesV X).length cv]) := .inr ⟨_, _, rfl, ho3, by rw [bytesV_length]; exact hLn⟩
  have hai : AddB w wx 3 (8 * bs.length + 65536) li li := .inl rfl
  clear hk3 e3 ff3 ho3 C2 HA2 HO2 hrun f0 m0
  have C2 := rat_any wx _ _ _ _ _ hA.rd
  have f3 := blk_frozen hA.lk 3
  have m3 : wx.cell? ⟨w.heap.size + 1 + 1, 3, none⟩ = some (.int .i64 0) := blk_cell hA.lk 3
  have m4 : wx.cell? ⟨w.heap.size + 1 + 1, 4, none⟩ = some (.int .i64 0) := blk_cell hA.lk 4
  have hS3 : Sent (wx.setCell ⟨w.heap.size + 1 + 1, 3, none⟩ (.int .i64 nx)) EA := HS.out.below ((HBEL.out.trans ((hA.bel HBK.out hz).mono h0)).setCell (p := ⟨w.heap.size + 1 + 1, 3, none⟩) (by show w0.heap.size ≤ w.heap.size + 1 + 1; omega) _)
  have C3 := num_any _ EA hS3 E HE.out
  have q3 := blk_set hA.lk 3 (.int .i64 nx)
  have f4 := blk_frozen q3 4
  have HA := Lib.hid hA
  have HOV := Lib.hid hov
  have HAB := Lib.hid hab
  have HAI := Lib.hid hai
  have Q3 := Lib.hid q3
  clear hA hov hab hai hS3 q3
  go_wp2_with fail
  refine C2.mono ?_
  rintro e w' ⟨rfl, rfl⟩
  clear C2
  go_wp2_with fail
  refine C3.mono ?_
  rintro e w' ⟨rfl, rfl⟩
  clear C3
  go_upto_region 36 with fail
  have q4 := blk_set Q3.out 4 (.int .i64 E)
  have e4 := (HA.out.setE 3 (.int .i64 nx)).setCell (p := ⟨w.heap.size + 1 + 1, 4, none⟩) (fun _ => rfl) (.int .i64 E)
  clear f3 f4 Q3 m3 m4
  generalize (wx.setCell ⟨w.heap.size + 1 + 1, 3, none⟩ (.int .i64 nx)).setCell ⟨w.heap.size + 1 + 1, 4, none⟩ (.int .i64 E) = wz at q4 e4 ⊢
  have r4 := (e4.block _ (lt_of_heap HA.out.rs) (by omega)).trans HA.out.rs
  have a0 := blk_cell q4 0
  have a1 := blk_cell q4 1
  have a2 := blk_cell q4 2
  have a3 := blk_cell q4 3
  have a4 := blk_cell q4 4
  have b0 := blk_cell r4 0
  have b1 := blk_cell r4 1
  have b2 := blk_cell r4 2
  have b3 := blk_cell r4 3
  have b4 := blk_cell r4 4
  have g0 := blk_frozen r4 0
  have g1 := blk_frozen r4 1
  have g2 := blk_frozen r4 2
  have g3 := blk_frozen r4 3
  have g4 := blk_frozen r4 4
  simp at a0 a1 a2 a3 a4 b0 b1 b2 b3 b4
  have E4 := Lib.hid e4
  have R4 := Lib.hid r4
  clear q4 e4 r4
  go_wp2
  refine bodyPost_ret (by simp [results, Tryd.results32, go_sem, tower0 R4.out, tower1 R4.out, tower2 R4.out, tower3 R4.out, tower4 R4.out]; try rfl) rfl ?_
  have e5 : Eff (fun k => k = w.heap.size + 1 + 1 ∨ k = w.heap.size + 1) wx (((((wz.setCell ⟨w.heap.size + 1, 0, none⟩ (.int .u64 0)).setCell ⟨w.heap.size + 1, 1, none⟩ (.string (strOf X))).setCell ⟨w.heap.size + 1, 2, none⟩ (.slice none 0 0)).setCell ⟨w.heap.size + 1, 3, none⟩ (.int .i64 nx)).setCell ⟨w.heap.size + 1, 4, none⟩ (.int .i64 E)) :=
    (((((E4.out.mono (fun i hi _ => Or.inl hi)).setCell (F := fun k => k = w.heap.size + 1 + 1 ∨ k = w.heap.size + 1) (p := ⟨w.heap.size + 1, 0, none⟩) (fun _ => .inr rfl) (.int .u64 0)).setCell (p := ⟨w.heap.size + 1, 1, none⟩) (fun _ => .inr rfl) (.string (strOf X))).setCell (p := ⟨w.heap.size + 1, 2, none⟩) (fun _ => .inr rfl) (.slice none 0 0)).setCell (p := ⟨w.heap.size + 1, 3, none⟩) (fun _ => .inr rfl) _).setCell (p := ⟨w.heap.size + 1, 4, none⟩) (fun _ => .inr rfl) _
  exact AskC.fin (U := 0) (S := X) (L := []) HA.out e5 HOV.out HAB.out HAI.out

set_option maxRecDepth 100000 in
set_option maxHeartbeats 2000000 in
theorem ask_8 (w0 w : World) (base p pk : Nat) (v : Value) (bs : List UInt8) (vb vi : Value) (lb li : List Value) (k : Nat) (EA : Nat → Addr) (hS : Sent w0 EA) (h0 : w0.heap.size ≤ base) (hz : base ≤ w.heap.size) (hbel : Below w0.heap.size w0 w) (hr : Rdr w base p v bs k) (hb : BookX w base pk vb vi lb li) (hll : lb.length ≤ 1000000000) (hli : li.length ≤ 1000000000) (hlen : bs.length ≤ 100000000) (hG : GLow base) (sec b s l : Value) (n u i : Int) (hn0 : -9223372036854775808 ≤ n) (hn1 : n ≤ 9223372036854775807) :
    Calls Tryd.prog 32 #[.pointer (some ⟨p, 0, none⟩), .agg #[.int .i64 8, sec, .int .i64 n, .int .u64 u, .int .i64 i, b, s, l], .pointer (some ⟨pk, 0, none⟩)] w (AskP w base p pk v bs vb vi lb li (lkL k (getRis n (bs.drop k)))) := by
  have A0 := AskC.init hr hb (.cells #[.int .i64 8, sec, .int .i64 n, .int .u64 u, .int .i64 i, b, s, l] 46)
  have hz3 : base ≤ (((w.alloc (.cells #[.int .i64 8, sec, .int .i64 n, .int .u64 u, .int .i64 i, b, s, l] 46)).alloc (.cells #[.int .u64 0, .string ⟨#[]⟩, .slice none 0 0, .int .i64 0, .int .i64 0] 66)).alloc (.cells #[.int .u64 0, .string ⟨#[]⟩, .slice none 0 0, .int .i64 0, .int .i64 0] 66)).heap.size := by have := A0.sz; omega
  have hS3 := hS.below (hbel.trans ((A0.bel hb hz).mono h0))
  have hE3 : RErr _ EA := ⟨hS3.c1, hS3.c2, hS3.c3, hS3.c4, hS3.c8⟩
  have C1 := rris_out _ base p v bs k A0.rd hz3 EA hE3 hG n hn0 hn1
  have hko := hr.le
  have HS := Lib.hid hS
  have HBEL := Lib.hid hbel
  have HBK := Lib.hid hb
  have HA0 := Lib.hid A0
  clear hS hbel hb A0 hG hr hS3 hE3 hz3
  have hE : (lkL k (getRis n (bs.drop k))).e = 0 ∨ ErrN (lkL k (getRis n (bs.drop k))).e := by
    cases hres : getRis n (bs.drop k) with
    | error q => exact .inr (getRis_err hres)
    | ok y => exact .inl rfl
  have hLn : (lkL k (getRis n (bs.drop k))).l.length ≤ 8 * bs.length + 65536 := by
    cases hres : getRis n (bs.drop k) with
    | error q => simp [lkL]
    | ok y => have h1 := (getRis_len hres).1; rw [List.length_drop] at h1; simp only [lkL]; omega
  have HE := Lib.hid hE
  clear hE
  rw [lkL_eta]
  obtain ⟨X, hV⟩ : ∃ X, (lkL k (getRis n (bs.drop k))).l = X := ⟨_, rfl⟩
  obtain ⟨nx, hnx⟩ : ∃ nx, (lkL k (getRis n (bs.drop k))).next = nx := ⟨_, rfl⟩
  obtain ⟨E, hEE⟩ : ∃ E, (lkL k (getRis n (bs.drop k))).e = E := ⟨_, rfl⟩
  rw [hEE] at HE
  rw [hV] at hLn
  rw [hV, hnx, hEE]
  have HV := Lib.hid hV
  have HNX := Lib.hid hnx
  have HEE := Lib.hid hEE
  clear hV hnx hEE
  go_enter Tryd.func32, Tryd.ntmps32
  go_wp2_with fail
  refine C1.mono ?_
  rintro e w1 hout
  obtain ⟨vv, rfl, hov1, hr1, he1⟩ := list_lk (fun q hq => getRis_err hq) hout
  clear hout C1
  have hA1 := HA0.out.call he1 hr1
  rw [HV.out] at hov1
  rw [HEE.out]
  rw [HNX.out] at hA1
  clear he1 hr1 HA0 HV HEE HNX
  have ho1 := own_base hov1 (show w.heap.size ≤ _ by simp; omega)
  obtain ⟨av, cv, rfl⟩ := own_slice ho1
  have hzw : w.heap.size ≤ w1.heap.size := by have := hA1.sz; omega
  have hB1 : Below w1.heap.size w1 (w1.alloc (.cells #[] 3)) := (Below.refl _ w1).alloc (Nat.le_refl _) _
  have ho2 := ho1.below hB1 (Nat.le_refl _)
  have hnil := own_empty w1 w.heap.size 3 hzw
  have hL : ([] : List Value).length + (intL X).length < 1000000000001 := by rw [intL_length]; simp; omega
  have hz2 : w.heap.size ≤ (w1.alloc (.cells #[] 3)).heap.size := by simp; omega
  have HA1 := Lib.hid hA1
  have HO2 := Lib.hid ho2
  have hrd := ho2.rd
  have hone : ∀ x ∈ intL X, x.oneCell' = true := fun x hx => by obtain ⟨z, _, rfl⟩ := List.mem_map.1 hx; rfl
  have HO1 := Lib.hid ho1
  clear hA1 ho1 ho2 hov1
  go_wp2_with (at_builtin; with_reducible refine apN elInts hnil hrd hone hL hz2 rfl _ _ rfl rfl rfl ?_)
  intro v2 w2 g1 g2 g3 g4
  have hb2 := hB1.trans (((Eff.refl (fun k => (Value.slice (some ⟨w1.heap.size, 0, none⟩) 0 0).ownBlock = some k) (w1.alloc (.cells #[] 3))).grown g4 (fun i hi _ => hi)).below (B := w1.heap.size) (fun i hi => by simp [Value.ownBlock] at hi; omega) (by simp))
  have hA2 := HA1.out.under hb2
  have ho3 := HO1.out.below hb2 (Nat.le_refl _)
  have hg1 : Own w2 w.heap.size 3 v2 (intL X) := g1
  obtain ⟨aV, c2, rfl⟩ := own_slice hg1
  have hA3 := hA2.set2 (.slice aV (intL X).length c2)
  have ho4 := ho3.setOther (p := ⟨w.heap.size + 1 + 1, 2, none⟩) (ho3.ne_type hA2.lk (by decide)) (.slice aV (intL X).length c2)
  have hg2 := hg1.setOther (p := ⟨w.heap.size + 1 + 1, 2, none⟩) (hg1.ne_type hA2.lk (by decide)) (.slice aV (intL X).length c2)
  have C2 := bkI_g _ base pk vb vi lb li hA3.bk (by have := hA3.sz; omega) hli av (intL X).length cv
  have f0 := blk_frozen hA2.lk 2
  have m0 : w2.cell? ⟨w.heap.size + 1 + 1, 2, none⟩ = some (.slice none 0 0) := blk_cell hA2.lk 2
  have HA3 := Lib.hid hA3
  have HO4 := Lib.hid ho4
  have HG2 := Lib.hid hg2
  clear g1 g2 g3 g4 hb2 hA2 hA3 ho3 ho4 hg1 hg2 hrd hnil hL hz2 hone HA1 HO1 HO2 hB1
  go_wp2_with fail
  refine C2.mono ?_
  rintro e wx ⟨rfl, vi3, hk3, e3, ff3⟩
  have hA := HA3.out.book e3 hk3 (Fresh.refl _ _) ff3
  have ho5 := HA3.out.bk.keep e3 HO4.out (by decide) (by decide) (by decide)
  have hov := HA3.out.bk.keep e3 HG2.out (by decide) (by decide) (by decide)
  have hab : AddB w wx 5 bs.length lb lb := .inl rfl
  have hai : AddB w wx 3 (8 * bs.length + 65536) li (li ++ [.slice av (intL X).length cv]) := .inr ⟨_, _, rfl, ho5, by rw [intL_length]; exact hLn⟩
  clear hk3 e3 ff3 ho5 C2 HA3 HO4 HG2 f0 m0
  have C2 := rat_any wx _ _ _ _ _ hA.rd
  have f3 := blk_frozen hA.lk 3
  have m3 : wx.cell? ⟨w.heap.size + 1 + 1, 3, none⟩ = some (.int .i64 0) := blk_cell hA.lk 3
  have m4 : wx.cell? ⟨w.heap.size + 1 + 1, 4, none⟩ = some (.int .i64 0) := blk_cell hA.lk 4
  have hS3 : Sent (wx.setCell ⟨w.heap.size + 1 + 1, 3, none⟩ (.int .i64 nx)) EA := HS.out.below ((HBEL.out.trans ((hA.bel HBK.out hz).mono h0)).setCell (p := ⟨w.heap.size + 1 + 1, 3, none⟩) (by show w0.heap.size ≤ w.heap.size + 1 + 1; omega) _)
  have C3 := num_any _ EA hS3 E HE.out
  have q3 := blk_set hA.lk 3 (.int .i64 nx)
  have f4 := blk_frozen q3 4
  have HA := Lib.hid hA
  have HOV := Lib.hid hov
  have HAB := Lib.hid hab
  have HAI := Lib.hid hai
  have Q3 := Lib.hid q3
  clear hA hov hab hai hS3 q3
  go_wp2_with fail
  refine C2.mono ?_
  rintro e w' ⟨rfl, rfl⟩
  clear C2
  go_wp2_with fail
  refine C3.mono ?_
  rintro e w' ⟨rfl, rfl⟩
  clear C3
  go_upto_region 36 with fail
  have q4 := blk_set Q3.out 4 (.int .i64 E)
  have e4 := (HA.out.setE 3 (.int .i64 nx)).setCell (p := ⟨w.heap.size + 1 + 1, 4, none⟩) (fun _ => rfl) (.int .i64 E)
  clear f3 f4 Q3 m3 m4
  generalize (wx.setCell ⟨w.heap.size + 1 + 1, 3, none⟩ (.int .i64 nx)).setCell ⟨w.heap.size + 1 + 1, 4, none⟩ (.int .i64 E) = wz at q4 e4 ⊢
  have r4 := (e4.block _ (lt_of_heap HA.out.rs) (by omega)).trans HA.out.rs
  have a0 := blk_cell q4 0
  have a1 := blk_cell q4 1
  have a2 := blk_cell q4 2
  have a3 := blk_cell q4 3
  have a4 := blk_cell q4 4
  have b0 := blk_cell r4 0
  have b1 := blk_cell r4 1
  have b2 := blk_cell r4 2
  have b3 := blk_cell r4 3
  have b4 := blk_cell r4 4
  have g0 := blk_frozen r4 0
  have g1 := blk_frozen r4 1
  have g2 := blk_frozen r4 2
  have g3 := blk_frozen r4 3
  have g4 := blk_frozen r4 4
  simp at a0 a1 a2 a3 a4 b0 b1 b2 b3 b4
  have E4 := Lib.hid e4
  have R4 := Lib.hid r4
  clear q4 e4 r4
  go_wp2
  refine bodyPost_ret (by simp [results, Tryd.results32, go_sem, tower0 R4.out, tower1 R4.out, tower2 R4.out, tower3 R4.out, tower4 R4.out]; try rfl) rfl ?_
  have e5 : Eff (fun k => k = w.heap.size + 1 + 1 ∨ k = w.heap.size + 1) wx (((((wz.setCell ⟨w.heap.size + 1, 0, none⟩ (.int .u64 0)).setCell ⟨w.heap.size + 1, 1, none⟩ (.string ⟨#[]⟩)).setCell ⟨w.heap.size + 1, 2, none⟩ (.slice aV (intL X).length c2)).setCell ⟨w.heap.size + 1, 3, none⟩ (.int .i64 nx)).setCell ⟨w.heap.size + 1, 4, none⟩ (.int .i64 E)) :=
    (((((E4.out.mono (fun i hi _ => Or.inl hi)).setCell (F := fun k => k = w.heap.size + 1 + 1 ∨ k = w.heap.size + 1) (p := ⟨w.heap.size + 1, 0, none⟩) (fun _ => .inr rfl) (.int .u64 0)).setCell (p := ⟨w.heap.size + 1, 1, none⟩) (fun _ => .inr rfl) (.string ⟨#[]⟩)).setCell (p := ⟨w.heap.size + 1, 2, none⟩) (fun _ => .inr rfl) (.slice aV (intL X).length c2)).setCell (p := ⟨w.heap.size + 1, 3, none⟩) (fun _ => .inr rfl) _).setCell (p := ⟨w.heap.size + 1, 4, none⟩) (fun _ => .inr rfl) _
  exact AskC.fin (U := 0) (S := []) (L := X) HA.out e5 HOV.out HAB.out HAI.out

set_option maxRecDepth 100000 in
set_option maxHeartbeats 2000000 in
theorem ask_9 (w0 w : World) (base p pk : Nat) (v : Value) (bs : List UInt8) (vb vi : Value) (lb li : List Value) (k : Nat) (EA : Nat → Addr) (hS : Sent w0 EA) (h0 : w0.heap.size ≤ base) (hz : base ≤ w.heap.size) (hbel : Below w0.heap.size w0 w) (hr : Rdr w base p v bs k) (hb : BookX w base pk vb vi lb li) (hll : lb.length ≤ 1000000000) (hli : li.length ≤ 1000000000) (hlen : bs.length ≤ 100000000) (hG : GLow base) (sec b s l : Value) (n u i : Int) (hn0 : -9223372036854775808 ≤ n) (hn1 : n ≤ 9223372036854775807) :
    Calls Tryd.prog 32 #[.pointer (some ⟨p, 0, none⟩), .agg #[.int .i64 9, sec, .int .i64 n, .int .u64 u, .int .i64 i, b, s, l], .pointer (some ⟨pk, 0, none⟩)] w (AskP w base p pk v bs vb vi lb li (lkL k (toI (getPk n (bs.drop k))))) := by
  have A0 := AskC.init hr hb (.cells #[.int .i64 9, sec, .int .i64 n, .int .u64 u, .int .i64 i, b, s, l] 46)
  have hz3 : base ≤ (((w.alloc (.cells #[.int .i64 9, sec, .int .i64 n, .int .u64 u, .int .i64 i, b, s, l] 46)).alloc (.cells #[.int .u64 0, .string ⟨#[]⟩, .slice none 0 0, .int .i64 0, .int .i64 0] 66)).alloc (.cells #[.int .u64 0, .string ⟨#[]⟩, .slice none 0 0, .int .i64 0, .int .i64 0] 66)).heap.size := by have := A0.sz; omega
  have hS3 := hS.below (hbel.trans ((A0.bel hb hz).mono h0))
  have hE3 : RErr _ EA := ⟨hS3.c1, hS3.c2, hS3.c3, hS3.c4, hS3.c8⟩
  have C1 := rpck_out _ base p v bs k A0.rd hz3 EA hE3 hG n hn0 hn1
  have hko := hr.le
  have HS := Lib.hid hS
  have HBEL := Lib.hid hbel
  have HBK := Lib.hid hb
  have HA0 := Lib.hid A0
  clear hS hbel hb A0 hG hr hS3 hE3 hz3
  have hE : (lkL k (toI (getPk n (bs.drop k)))).e = 0 ∨ ErrN (lkL k (toI (getPk n (bs.drop k)))).e := by
    cases hres : toI (getPk n (bs.drop k)) with
    | error q => exact .inr (getPk_err hres)
    | ok y => exact .inl rfl
  have hLn : (lkL k (toI (getPk n (bs.drop k)))).l.length ≤ 8 * bs.length + 65536 := by
    cases hres : toI (getPk n (bs.drop k)) with
    | error q => simp [lkL]
    | ok y => have h1 := (getPk_len hres).1; rw [List.length_drop] at h1; simp only [lkL]; omega
  have HE := Lib.hid hE
  clear hE
  rw [lkL_eta]
  obtain ⟨X, hV⟩ : ∃ X, (lkL k (toI (getPk n (bs.drop k)))).l = X := ⟨_, rfl⟩
  obtain ⟨nx, hnx⟩ : ∃ nx, (lkL k (toI (getPk n (bs.drop k)))).next = nx := ⟨_, rfl⟩
  obtain ⟨E, hEE⟩ : ∃ E, (lkL k (toI (getPk n (bs.drop k)))).e = E := ⟨_, rfl⟩
  rw [hEE] at HE
  rw [hV] at hLn
  rw [hV, hnx, hEE]
  have HV := Lib.hid hV
  have HNX := Lib.hid hnx
  have HEE := Lib.hid hEE
  clear hV hnx hEE
  go_enter Tryd.func32, Tryd.ntmps32
  go_wp2_with fail
  refine C1.mono ?_
  rintro e w1 hout
  obtain ⟨vv, rfl, hov1, hr1, he1⟩ := list_lk (fun q hq => getPk_err hq) hout
  clear hout C1
  have hA1 := HA0.out.call he1 hr1
  rw [HV.out] at hov1
  rw [HEE.out]
  rw [HNX.out] at hA1
  clear he1 hr1 HA0 HV HEE HNX
  have ho1 := own_base hov1 (show w.heap.size ≤ _ by simp; omega)
  obtain ⟨av, cv, rfl⟩ := own_slice ho1
  have hzw : w.heap.size ≤ w1.heap.size := by have := hA1.sz; omega
  have hB1 : Below w1.heap.size w1 (w1.alloc (.cells #[] 3)) := (Below.refl _ w1).alloc (Nat.le_refl _) _
  have ho2 := ho1.below hB1 (Nat.le_refl _)
  have hnil := own_empty w1 w.heap.size 3 hzw
  have hL : ([] : List Value).length + (intL X).length < 1000000000001 := by rw [intL_length]; simp; omega
  have hz2 : w.heap.size ≤ (w1.alloc (.cells #[] 3)).heap.size := by simp; omega
  have HA1 := Lib.hid hA1
  have HO2 := Lib.hid ho2
  have hrd := ho2.rd
  have hone : ∀ x ∈ intL X, x.oneCell' = true := fun x hx => by obtain ⟨z, _, rfl⟩ := List.mem_map.1 hx; rfl
  have HO1 := Lib.hid ho1
  clear hA1 ho1 ho2 hov1
  go_wp2_with (at_builtin; with_reducible refine apN elInts hnil hrd hone hL hz2 rfl _ _ rfl rfl rfl ?_)
  intro v2 w2 g1 g2 g3 g4
  have hb2 := hB1.trans (((Eff.refl (fun k => (Value.slice (some ⟨w1.heap.size, 0, none⟩) 0 0).ownBlock = some k) (w1.alloc (.cells #[] 3))).grown g4 (fun i hi _ => hi)).below (B := w1.heap.size) (fun i hi => by simp [Value.ownBlock] at hi; omega) (by simp))
  have hA2 := HA1.out.under hb2
  have ho3 := HO1.out.below hb2 (Nat.le_refl _)
  have hg1 : Own w2 w.heap.size 3 v2 (intL X) := g1
  obtain ⟨aV, c2, rfl⟩ := own_slice hg1
  have hA3 := hA2.set2 (.slice aV (intL X).length c2)
  have ho4 := ho3.setOther (p := ⟨w.heap.size + 1 + 1, 2, none⟩) (ho3.ne_type hA2.lk (by decide)) (.slice aV (intL X).length c2)
  have hg2 := hg1.setOther (p := ⟨w.heap.size + 1 + 1, 2, none⟩) (hg1.ne_type hA2.lk (by decide)) (.slice aV (intL X).length c2)
  have C2 := bkI_g _ base pk vb vi lb li hA3.bk (by have := hA3.sz; omega) hli av (intL X).length cv
  have f0 := blk_frozen hA2.lk 2
  have m0 : w2.cell? ⟨w.heap.size + 1 + 1, 2, none⟩ = some (.slice none 0 0) := blk_cell hA2.lk 2
  have HA3 := Lib.hid hA3
  have HO4 := Lib.hid ho4
  have HG2 := Lib.hid hg2
  clear g1 g2 g3 g4 hb2 hA2 hA3 ho3 ho4 hg1 hg2 hrd hnil hL hz2 hone HA1 HO1 HO2 hB1
  go_wp2_with fail
  refine C2.mono ?_
  rintro e wx ⟨rfl, vi3, hk3, e3, ff3⟩
  have hA := HA3.out.book e3 hk3 (Fresh.refl _ _) ff3
  have ho5 := HA3.out.bk.keep e3 HO4.out (by decide) (by decide) (by decide)
  have hov := HA3.out.bk.keep e3 HG2.out (by decide) (by decide) (by decide)
  have hab : AddB w wx 5 bs.length lb lb := .inl rfl
  have hai : AddB w wx 3 (8 * bs.length + 65536) li (li ++ [.slice av (intL X).length cv]) := .inr ⟨_, _, rfl, ho5, by rw [intL_length]; exact hLn⟩
  clear hk3 e3 ff3 ho5 C2 HA3 HO4 HG2 f0 m0
  have C2 := rat_any wx _ _ _ _ _ hA.rd
  have f3 := blk_frozen hA.lk 3
  have m3 : wx.cell? ⟨w.heap.size + 1 + 1, 3, none⟩ = some (.int .i64 0) := blk_cell hA.lk 3
  have m4 : wx.cell? ⟨w.heap.size + 1 + 1, 4, none⟩ = some (.int .i64 0) := blk_cell hA.lk 4
  have hS3 : Sent (wx.setCell ⟨w.heap.size + 1 + 1, 3, none⟩ (.int .i64 nx)) EA := HS.out.below ((HBEL.out.trans ((hA.bel HBK.out hz).mono h0)).setCell (p := ⟨w.heap.size + 1 + 1, 3, none⟩) (by show w0.heap.size ≤ w.heap.size + 1 + 1; omega) _)
  have C3 := num_any _ EA hS3 E HE.out
  have q3 := blk_set hA.lk 3 (.int .i64 nx)
  have f4 := blk_frozen q3 4
  have HA := Lib.hid hA
  have HOV := Lib.hid hov
  have HAB := Lib.hid hab
  have HAI := Lib.hid hai
  have Q3 := Lib.hid q3
  clear hA hov hab hai hS3 q3
  go_wp2_with fail
  refine C2.mono ?_
  rintro e w' ⟨rfl, rfl⟩
  clear C2
  go_wp2_with fail
  refine C3.mono ?_
  rintro e w' ⟨rfl, rfl⟩
  clear C3
  go_upto_region 36 with fail
  have q4 := blk_set Q3.out 4 (.int .i64 E)
  have e4 := (HA.out.setE 3 (.int .i64 nx)).setCell (p := ⟨w.heap.size + 1 + 1, 4, none⟩) (fun _ => rfl) (.int .i64 E)
  clear f3 f4 Q3 m3 m4
  generalize (wx.setCell ⟨w.heap.size + 1 + 1, 3, none⟩ (.int .i64 nx)).setCell ⟨w.heap.size + 1 + 1, 4, none⟩ (.int .i64 E) = wz at q4 e4 ⊢
  have r4 := (e4.block _ (lt_of_heap HA.out.rs) (by omega)).trans HA.out.rs
  have a0 := blk_cell q4 0
  have a1 := blk_cell q4 1
  have a2 := blk_cell q4 2
  have a3 := blk_cell q4 3
  have a4 := blk_cell q4 4
  have b0 := blk_cell r4 0
  have b1 := blk_cell r4 1
  have b2 := blk_cell r4 2
  have b3 := blk_cell r4 3
  have b4 := blk_cell r4 4
  have g0 := blk_frozen r4 0
  have g1 := blk_frozen r4 1
  have g2 := blk_frozen r4 2
  have g3 := blk_frozen r4 3
  have g4 := blk_frozen r4 4
  simp at a0 a1 a2 a3 a4 b0 b1 b2 b3 b4
  have E4 := Lib.hid e4
  have R4 := Lib.hid r4
  clear q4 e4 r4
  go_wp2
  refine bodyPost_ret (by simp [results, Tryd.results32, go_sem, tower0 R4.out, tower1 R4.out, tower2 R4.out, tower3 R4.out, tower4 R4.out]; try rfl) rfl ?_
  have e5 : Eff (fun k => k = w.heap.size + 1 + 1 ∨ k = w.heap.size + 1) wx (((((wz.setCell ⟨w.heap.size + 1, 0, none⟩ (.int .u64 0)).setCell ⟨w.heap.size + 1, 1, none⟩ (.string ⟨#[]⟩)).setCell ⟨w.heap.size + 1, 2, none⟩ (.slice aV (intL X).length c2)).setCell ⟨w.heap.size + 1, 3, none⟩ (.int .i64 nx)).setCell ⟨w.heap.size + 1, 4, none⟩ (.int .i64 E)) :=
    (((((E4.out.mono (fun i hi _ => Or.inl hi)).setCell (F := fun k => k = w.heap.size + 1 + 1 ∨ k = w.heap.size + 1) (p := ⟨w.heap.size + 1, 0, none⟩) (fun _ => .inr rfl) (.int .u64 0)).setCell (p := ⟨w.heap.size + 1, 1, none⟩) (fun _ => .inr rfl) (.string ⟨#[]⟩)).setCell (p := ⟨w.heap.size + 1, 2, none⟩) (fun _ => .inr rfl) (.slice aV (intL X).length c2)).setCell (p := ⟨w.heap.size + 1, 3, none⟩) (fun _ => .inr rfl) _).setCell (p := ⟨w.heap.size + 1, 4, none⟩) (fun _ => .inr rfl) _
  exact AskC.fin (U := 0) (S := []) (L := X) HA.out e5 HOV.out HAB.out HAI.out

set_option maxRecDepth 100000 in
set_option maxHeartbeats 2000000 in
theorem asked_any (w0 w : World) (base p pk : Nat) (v : Value) (bs : List UInt8) (vb vi : Value) (lb li : List Value) (k : Nat) (EA : Nat → Addr) (hS : Sent w0 EA) (h0 : w0.heap.size ≤ base) (hz : base ≤ w.heap.size) (hbel : Below w0.heap.size w0 w) (hr : Rdr w base p v bs k) (hb : BookX w base pk vb vi lb li) (hll : lb.length ≤ 1000000000) (hli : li.length ≤ 1000000000) (hlen : bs.length ≤ 100000000) (hG : GLow base) (sec b s l : Value) (kd n u i : Int) (hn0 : -9223372036854775808 ≤ n) (hn1 : n ≤ 9223372036854775807) :
    Calls Tryd.prog 32 #[.pointer (some ⟨p, 0, none⟩), .agg #[.int .i64 kd, sec, .int .i64 n, .int .u64 u, .int .i64 i, b, s, l], .pointer (some ⟨pk, 0, none⟩)] w (AskP w base p pk v bs vb vi lb li (looks kd n (bs.drop k) k)) := by
  unfold looks
  by_cases h1 : kd = 1
  · subst h1; rw [if_pos rfl]; exact ask_1 w0 w base p pk v bs vb vi lb li k EA hS h0 hz hbel hr hb hll hli hlen hG sec b s l n u i hn0 hn1
  rw [if_neg h1]
  by_cases h2 : kd = 2
  · subst h2; rw [if_pos rfl]; exact ask_2 w0 w base p pk v bs vb vi lb li k EA hS h0 hz hbel hr hb hll hli hlen hG sec b s l n u i hn0 hn1
  rw [if_neg h2]
  by_cases h3 : kd = 3
  · subst h3; rw [if_pos rfl]; exact ask_3 w0 w base p pk v bs vb vi lb li k EA hS h0 hz hbel hr hb hll hli hlen hG sec b s l n u i hn0 hn1
  rw [if_neg h3]
  by_cases h10 : kd = 10
  · subst h10; rw [if_pos rfl]; exact ask_10 w0 w base p pk v bs vb vi lb li k EA hS h0 hz hbel hr hb hll hli hlen hG sec b s l n u i hn0 hn1
  rw [if_neg h10]
  by_cases h4 : kd = 4
  · subst h4; rw [if_pos rfl]; exact ask_4 w0 w base p pk v bs vb vi lb li k EA hS h0 hz hbel hr hb hll hli hlen hG sec b s l n u i hn0 hn1
  rw [if_neg h4]
  by_cases h5 : kd = 5
  · subst h5; rw [if_pos rfl]; exact ask_5 w0 w base p pk v bs vb vi lb li k EA hS h0 hz hbel hr hb hll hli hlen hG sec b s l n u i hn0 hn1
  rw [if_neg h5]
  by_cases h6 : kd = 6
  · subst h6; rw [if_pos rfl]; exact ask_6 w0 w base p pk v bs vb vi lb li k EA hS h0 hz hbel hr hb hll hli hlen hG sec b s l n u i hn0 hn1
  rw [if_neg h6]
  by_cases h7 : kd = 7
  · subst h7; rw [if_pos rfl]; exact ask_7 w0 w base p pk v bs vb vi lb li k EA hS h0 hz hbel hr hb hll hli hlen hG sec b s l n u i hn0 hn1
  rw [if_neg h7]
  by_cases h8 : kd = 8
  · subst h8; rw [if_pos rfl]; exact ask_8 w0 w base p pk v bs vb vi lb li k EA hS h0 hz hbel hr hb hll hli hlen hG sec b s l n u i hn0 hn1
  rw [if_neg h8]
  by_cases h9 : kd = 9
  · subst h9; rw [if_pos rfl]; exact ask_9 w0 w base p pk v bs vb vi lb li k EA hS h0 hz hbel hr hb hll hli hlen hG sec b s l n u i hn0 hn1
  rw [if_neg h9]
  have t1 : (kd == 1) = false := by simpa using h1
  have t2 : (kd == 2) = false := by simpa using h2
  have t3 : (kd == 3) = false := by simpa using h3
  have t10 : (kd == 10) = false := by simpa using h10
  have t4 : (kd == 4) = false := by simpa using h4
  have t5 : (kd == 5) = false := by simpa using h5
  have t6 : (kd == 6) = false := by simpa using h6
  have t7 : (kd == 7) = false := by simpa using h7
  have t8 : (kd == 8) = false := by simpa using h8
  have t9 : (kd == 9) = false := by simpa using h9
  clear h1 h2 h3 h10 h4 h5 h6 h7 h8 h9
  have A0 := AskC.init hr hb (.cells #[.int .i64 kd, sec, .int .i64 n, .int .u64 u, .int .i64 i, b, s, l] 46)
  have hz3 : base ≤ (((w.alloc (.cells #[.int .i64 kd, sec, .int .i64 n, .int .u64 u, .int .i64 i, b, s, l] 46)).alloc (.cells #[.int .u64 0, .string ⟨#[]⟩, .slice none 0 0, .int .i64 0, .int .i64 0] 66)).alloc (.cells #[.int .u64 0, .string ⟨#[]⟩, .slice none 0 0, .int .i64 0, .int .i64 0] 66)).heap.size := by have := A0.sz; omega
  have hS3 := hS.below (hbel.trans ((A0.bel hb hz).mono h0))
  have hE3 : RErr _ EA := ⟨hS3.c1, hS3.c2, hS3.c3, hS3.c4, hS3.c8⟩
  have hko := hr.le
  have HS := Lib.hid hS
  have HBEL := Lib.hid hbel
  have HBK := Lib.hid hb
  have HA0 := Lib.hid A0
  clear hS hbel hb A0 hG hr hS3 hE3 hz3
  go_enter Tryd.func32, Tryd.ntmps32
  go_upto_region 34 with fail
  have hA := HA0.out
  clear HA0 t1 t2 t3 t10 t4 t5 t6 t7 t8 t9
  generalize (((w.alloc (.cells #[.int .i64 kd, sec, .int .i64 n, .int .u64 u, .int .i64 i, b, s, l] 46)).alloc (.cells #[.int .u64 0, .string ⟨#[]⟩, .slice none 0 0, .int .i64 0, .int .i64 0] 66)).alloc (.cells #[.int .u64 0, .string ⟨#[]⟩, .slice none 0 0, .int .i64 0, .int .i64 0] 66)) = wx at hA ⊢
  have hov : Own wx w.heap.size 3 (.slice none 0 0) (intL []) := own_nil _ _ _
  have hab : AddB w wx 5 bs.length lb lb := .inl rfl
  have hai : AddB w wx 3 (8 * bs.length + 65536) li li := .inl rfl
  have C2 := rat_any wx _ _ _ _ _ hA.rd
  have f3 := blk_frozen hA.lk 3
  have m3 : wx.cell? ⟨w.heap.size + 1 + 1, 3, none⟩ = some (.int .i64 0) := blk_cell hA.lk 3
  have m4 : wx.cell? ⟨w.heap.size + 1 + 1, 4, none⟩ = some (.int .i64 0) := blk_cell hA.lk 4
  have hS3 : Sent (wx.setCell ⟨w.heap.size + 1 + 1, 3, none⟩ (.int .i64 k)) EA := HS.out.below ((HBEL.out.trans ((hA.bel HBK.out hz).mono h0)).setCell (p := ⟨w.heap.size + 1 + 1, 3, none⟩) (by show w0.heap.size ≤ w.heap.size + 1 + 1; omega) _)
  have C3 := num_nil (wx.setCell ⟨w.heap.size + 1 + 1, 3, none⟩ (.int .i64 k))
  have q3 := blk_set hA.lk 3 (.int .i64 k)
  have f4 := blk_frozen q3 4
  have HA := Lib.hid hA
  have HOV := Lib.hid hov
  have HAB := Lib.hid hab
  have HAI := Lib.hid hai
  have Q3 := Lib.hid q3
  clear hA hov hab hai hS3 q3
  go_wp2_with fail
  refine C2.mono ?_
  rintro e w' ⟨rfl, rfl⟩
  clear C2
  go_wp2_with fail
  refine C3.mono ?_
  rintro e w' ⟨rfl, rfl⟩
  clear C3
  go_upto_region 36 with fail
  have q4 := blk_set Q3.out 4 (.int .i64 0)
  have e4 := (HA.out.setE 3 (.int .i64 k)).setCell (p := ⟨w.heap.size + 1 + 1, 4, none⟩) (fun _ => rfl) (.int .i64 0)
  clear f3 f4 Q3 m3 m4
  generalize (wx.setCell ⟨w.heap.size + 1 + 1, 3, none⟩ (.int .i64 k)).setCell ⟨w.heap.size + 1 + 1, 4, none⟩ (.int .i64 0) = wz at q4 e4 ⊢
  have r4 := (e4.block _ (lt_of_heap HA.out.rs) (by omega)).trans HA.out.rs
  have a0 := blk_cell q4 0
  have a1 := blk_cell q4 1
  have a2 := blk_cell q4 2
  have a3 := blk_cell q4 3
  have a4 := blk_cell q4 4
  have b0 := blk_cell r4 0
  have b1 := blk_cell r4 1
  have b2 := blk_cell r4 2
  have b3 := blk_cell r4 3
  have b4 := blk_cell r4 4
  have g0 := blk_frozen r4 0
  have g1 := blk_frozen r4 1
  have g2 := blk_frozen r4 2
  have g3 := blk_frozen r4 3
  have g4 := blk_frozen r4 4
  simp at a0 a1 a2 a3 a4 b0 b1 b2 b3 b4
  have E4 := Lib.hid e4
  have R4 := Lib.hid r4
  clear q4 e4 r4
  go_wp2
  refine bodyPost_ret (by simp [results, Tryd.results32, go_sem, tower0 R4.out, tower1 R4.out, tower2 R4.out, tower3 R4.out, tower4 R4.out]; try rfl) rfl ?_
  have e5 : Eff (fun k => k = w.heap.size + 1 + 1 ∨ k = w.heap.size + 1) wx (((((wz.setCell ⟨w.heap.size + 1, 0, none⟩ (.int .u64 0)).setCell ⟨w.heap.size + 1, 1, none⟩ (.string ⟨#[]⟩)).setCell ⟨w.heap.size + 1, 2, none⟩ (.slice none 0 0)).setCell ⟨w.heap.size + 1, 3, none⟩ (.int .i64 k)).setCell ⟨w.heap.size + 1, 4, none⟩ (.int .i64 0)) :=
    (((((E4.out.mono (fun i hi _ => Or.inl hi)).setCell (F := fun k => k = w.heap.size + 1 + 1 ∨ k = w.heap.size + 1) (p := ⟨w.heap.size + 1, 0, none⟩) (fun _ => .inr rfl) (.int .u64 0)).setCell (p := ⟨w.heap.size + 1, 1, none⟩) (fun _ => .inr rfl) (.string ⟨#[]⟩)).setCell (p := ⟨w.heap.size + 1, 2, none⟩) (fun _ => .inr rfl) (.slice none 0 0)).setCell (p := ⟨w.heap.size + 1, 3, none⟩) (fun _ => .inr rfl) _).setCell (p := ⟨w.heap.size + 1, 4, none⟩) (fun _ => .inr rfl) _
  exact AskC.fin (U := 0) (S := []) (L := []) (E := 0) HA.out e5 HOV.out HAB.out HAI.out

end Go.Proofs.YtmmflhippbegaaaDoor

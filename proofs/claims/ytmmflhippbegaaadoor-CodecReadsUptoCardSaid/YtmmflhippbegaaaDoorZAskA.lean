/- asked: the call over a Reader: the arms of numbers and of a text (printed by wip/gen_ask.py). -/
import Derived.Test.YtmmflhippbegaaaDoorZAsk
import Derived.Test.YtmmflhippbegaaaDoorZTwrL
namespace Go.Proofs.YtmmflhippbegaaaDoor
set_option linter.unusedVariables false
open Go.ChangeShapes Go.WideShapes Go.ChangeAt Go.RowKit

/-- What asked answers and leaves. -/
def AskP (w : World) (base p pk : Nat) (v : Value) (bs : List UInt8) (vb vi : Value) (lb li : List Value) (r : Lk) (e : Ending) (w' : World) : Prop :=
  ∃ vl vb' vi' lb' li', e = .returned (.agg #[.int .u64 r.u, .string (strOf r.s), vl, .int .i64 r.next, .int .i64 r.e]) ∧ Own w' w.heap.size 3 vl (intL r.l) ∧ Rdr w' base p v bs r.next ∧ BookX w' base pk vb' vi' lb' li' ∧
    Eff (fun i => i = p ∨ BkB pk vb vi i) w w' ∧ Fresh w.heap.size vb vb' ∧ Fresh w.heap.size vi vi' ∧ AddB w w' 5 bs.length lb lb' ∧ AddB w w' 3 (8 * bs.length + 65536) li li'
theorem AskC.fin {w : World} {base p pk : Nat} {v : Value} {bs : List UInt8} {vb vi : Value} {wx w' : World} {next : Nat} {vl vb1 vi1 : Value} {lb1 li1 lb li : List Value} {U : Int} {S : List UInt8} {L : List Int} {E : Nat} (h : AskC w base p pk v bs vb vi wx next (.int .u64 U) (.string (strOf S)) vl vb1 vi1 lb1 li1)
    (e : Eff (fun k => k = w.heap.size + 1 + 1 ∨ k = w.heap.size + 1) wx w') (hv : Own wx w.heap.size 3 vl (intL L)) (hb : AddB w wx 5 bs.length lb lb1) (hi : AddB w wx 3 (8 * bs.length + 65536) li li1) :
    AskP w base p pk v bs vb vi lb li ⟨U, S, L, next, E⟩ (.returned (.agg #[.int .u64 U, .string (strOf S), vl, .int .i64 next, .int .i64 E])) w' := by
  have hF : ∀ k, (k = w.heap.size + 1 + 1 ∨ k = w.heap.size + 1) → w.heap.size ≤ k := fun k hk => by omega
  have ho : ∀ {t : TypeId} {x : Value} {xs : List Value}, 66 ≠ t → Own wx w.heap.size t x xs → Own w' w.heap.size t x xs := fun ht hx => hx.eff e (fun k hk hf => by
    rcases hf with rfl | rfl
    · exact hx.ne_type h.lk (Ne.symm ht) hk
    · exact hx.ne_type h.rs (Ne.symm ht) hk)
  refine ⟨vl, vb1, vi1, lb1, li1, rfl, ho (by decide) hv, h.rd.eff e (fun k hk hf => ?_), h.bk.eff e (fun k hk hf => ?_), h.ef.trans e (fun i hi hlt => by have := hF i hi; omega), h.fb, h.fi, ?_, ?_⟩
  · rcases hk with rfl | hk
    · have := hF _ hf; have := h.hp; omega
    · rcases hf with rfl | rfl
      · exact h.rd.own.ne_type h.lk (by decide) hk
      · exact h.rd.own.ne_type h.rs (by decide) hk
  · rcases hf with rfl | rfl
    · exact h.off.1 hk
    · exact h.off.2.1 hk
  · rcases hb with hb | ⟨x, xs, h1, h2, h3⟩
    · exact .inl hb
    · exact .inr ⟨x, xs, h1, ho (by decide) h2, h3⟩
  · rcases hi with hi | ⟨x, xs, h1, h2, h3⟩
    · exact .inl hi
    · exact .inr ⟨x, xs, h1, ho (by decide) h2, h3⟩
theorem ErrN.ne {n : Nat} (h : ErrN n) : n ≠ 0 := by unfold ErrN at h; omega
theorem evE_err {EA : Nat → Addr} {n : Nat} (h : ErrN n) : evE EA n = errV EA n := if_neg h.ne
theorem rout_lk {w w' : World} {base p k : Nat} {v : Value} {bs : List UInt8} {EA : Nat → Addr} {K : IntKind} {g : Nat → Int} {res : Except Nat (Nat × Nat)} {e : Ending} (hE : ∀ n, res = .error n → ErrN n) (h : ROut w base p v bs k EA (.int K 0) (fun u => .int K (g u)) res e w') :
    e = .returned (.tuple #[.int K (lkN g k res).u, evE EA (lkN g k res).e]) ∧ Rdr w' base p v bs (lkN g k res).next ∧ Eff (· = p) w w' := by
  cases hr : res with
  | error n =>
    obtain ⟨he, h1, h2⟩ := h.1 n hr
    refine ⟨?_, h1, h2⟩
    show e = .returned (.tuple #[.int K 0, evE EA n])
    rw [evE_err (hE n hr), he]
  | ok y =>
    obtain ⟨he, h1, h2⟩ := h.2 y.1 y.2 hr
    exact ⟨he, h1, h2⟩
theorem rout_str {w w' : World} {base p k : Nat} {v : Value} {bs : List UInt8} {EA : Nat → Addr} {res : Except Nat (List UInt8 × Nat)} {e : Ending} (hE : ∀ n, res = .error n → ErrN n) (h : ROut w base p v bs k EA (.string ⟨#[]⟩) (fun s : List UInt8 => .string (strOf s)) res e w') :
    e = .returned (.tuple #[.string (strOf (lkS k res).s), evE EA (lkS k res).e]) ∧ Rdr w' base p v bs (lkS k res).next ∧ Eff (· = p) w w' := by
  cases hr : res with
  | error n =>
    obtain ⟨he, h1, h2⟩ := h.1 n hr
    refine ⟨?_, h1, h2⟩
    show e = .returned (.tuple #[.string ⟨#[]⟩, evE EA n])
    rw [evE_err (hE n hr), he]
  | ok y =>
    obtain ⟨he, h1, h2⟩ := h.2 y.1 y.2 hr
    exact ⟨he, h1, h2⟩
theorem lkN_wrap (k : Nat) (g : Nat → Int) (r : Except Nat (Nat × Nat)) : lkN (fun x => IntKind.u64.wrap (g x)) k r = ⟨IntKind.u64.wrap (lkN g k r).u, [], [], (lkN g k r).next, (lkN g k r).e⟩ := by
  cases r with
  | error n => rfl
  | ok y => rfl
theorem lkN_eta (k : Nat) (g : Nat → Int) (r : Except Nat (Nat × Nat)) : lkN g k r = ⟨(lkN g k r).u, [], [], (lkN g k r).next, (lkN g k r).e⟩ := by
  cases r with
  | error n => rfl
  | ok y => rfl
theorem lkS_eta (k : Nat) (r : Except Nat (List UInt8 × Nat)) : lkS k r = ⟨0, (lkS k r).s, [], (lkS k r).next, (lkS k r).e⟩ := by
  cases r with
  | error n => rfl
  | ok y => rfl
theorem lkL_eta (k : Nat) (r : Except Nat (List Int × Nat)) : lkL k r = ⟨0, [], (lkL k r).l, (lkL k r).next, (lkL k r).e⟩ := by
  cases r with
  | error n => rfl
  | ok y => rfl
theorem lkN_bd {k : Nat} {r : Except Nat (Nat × Nat)} (h : ∀ x j, r = .ok (x, j) → x < 2 ^ 64) : 0 ≤ (lkN (fun x => x) k r).u ∧ (lkN (fun x => x) k r).u ≤ 18446744073709551615 := by
  cases hr : r with
  | error n => exact ⟨by simp [lkN], by simp [lkN]⟩
  | ok y => have := h y.1 y.2 hr; simp only [lkN]; omega

set_option maxRecDepth 100000 in
set_option maxHeartbeats 1000000 in
theorem ask_1 (w0 w : World) (base p pk : Nat) (v : Value) (bs : List UInt8) (vb vi : Value) (lb li : List Value) (k : Nat) (EA : Nat → Addr) (hS : Sent w0 EA) (h0 : w0.heap.size ≤ base) (hz : base ≤ w.heap.size) (hbel : Below w0.heap.size w0 w) (hr : Rdr w base p v bs k) (hb : BookX w base pk vb vi lb li) (hll : lb.length ≤ 1000000000) (hli : li.length ≤ 1000000000) (hlen : bs.length ≤ 100000000) (hG : GLow base) (sec b s l : Value) (n u i : Int) (hn0 : -9223372036854775808 ≤ n) (hn1 : n ≤ 9223372036854775807) :
    Calls Tryd.prog 32 #[.pointer (some ⟨p, 0, none⟩), .agg #[.int .i64 1, sec, .int .i64 n, .int .u64 u, .int .i64 i, b, s, l], .pointer (some ⟨pk, 0, none⟩)] w (AskP w base p pk v bs vb vi lb li (lkN (fun x => x) k (getB (bs.drop k)))) := by
  have A0 := AskC.init hr hb (.cells #[.int .i64 1, sec, .int .i64 n, .int .u64 u, .int .i64 i, b, s, l] 46)
  have hz3 : base ≤ (((w.alloc (.cells #[.int .i64 1, sec, .int .i64 n, .int .u64 u, .int .i64 i, b, s, l] 46)).alloc (.cells #[.int .u64 0, .string ⟨#[]⟩, .slice none 0 0, .int .i64 0, .int .i64 0] 66)).alloc (.cells #[.int .u64 0, .string ⟨#[]⟩, .slice none 0 0, .int .i64 0, .int .i64 0] 66)).heap.size := by have := A0.sz; omega
  have hS3 := hS.below (hbel.trans ((A0.bel hb hz).mono h0))
  have hE3 : RErr _ EA := ⟨hS3.c1, hS3.c2, hS3.c3, hS3.c4, hS3.c8⟩
  have C1 := rbyte_out _ base p v bs k A0.rd EA hE3
  have hko := hr.le
  have HS := Lib.hid hS
  have HBEL := Lib.hid hbel
  have HBK := Lib.hid hb
  have HA0 := Lib.hid A0
  clear hS hbel hb A0 hG hr hS3 hE3 hz3
  have hbd := lkN_bd (k := k) (r := getB (bs.drop k)) (fun x j h => by have := (getB_len h).2; omega)
  have hE : (lkN (fun x => x) k (getB (bs.drop k))).e = 0 ∨ ErrN (lkN (fun x => x) k (getB (bs.drop k))).e := by
    cases hres : getB (bs.drop k) with
    | error q => exact .inr (getB_err hres)
    | ok y => exact .inl rfl
  have HE := Lib.hid hE
  clear hE
  rw [lkN_eta]
  obtain ⟨V, hV⟩ : ∃ V, (lkN (fun x => x) k (getB (bs.drop k))).u = V := ⟨_, rfl⟩
  obtain ⟨nx, hnx⟩ : ∃ nx, (lkN (fun x => x) k (getB (bs.drop k))).next = nx := ⟨_, rfl⟩
  obtain ⟨E, hEE⟩ : ∃ E, (lkN (fun x => x) k (getB (bs.drop k))).e = E := ⟨_, rfl⟩
  rw [hEE] at HE
  rw [hV, hnx, hEE]
  rw [hV] at hbd
  have HV := Lib.hid hV
  have HNX := Lib.hid hnx
  have HEE := Lib.hid hEE
  clear hV hnx hEE
  go_enter Tryd.func32, Tryd.ntmps32
  go_wp2_with fail
  refine C1.mono ?_
  rintro e w1 hout
  obtain ⟨rfl, hr1, he1⟩ := rout_lk (fun q hq => getB_err hq) hout
  clear hout C1
  have hA1 := HA0.out.call he1 hr1
  rw [HV.out, HEE.out]
  rw [HNX.out] at hA1
  clear he1 hr1 HA0 HV HEE HNX
  have f0 := blk_frozen hA1.lk 0
  have m0 : w1.cell? ⟨w.heap.size + 1 + 1, 0, none⟩ = some (.int .u64 0) := blk_cell hA1.lk 0
  have HA1 := Lib.hid hA1
  clear hA1
  go_upto_region 34 with fail
  have hA := HA1.out.set0 (.int .u64 V)
  clear HA1 f0 m0
  generalize w1.setCell ⟨w.heap.size + 1 + 1, 0, none⟩ (.int .u64 V) = wx at hA ⊢
  have hov : Own wx w.heap.size 3 (.slice none 0 0) (intL []) := own_nil _ _ _
  have hab : AddB w wx 5 bs.length lb lb := .inl rfl
  have hai : AddB w wx 3 (8 * bs.length + 65536) li li := .inl rfl
  have C2 := rat_any wx _ _ _ _ _ hA.rd
  have f3 := blk_frozen hA.lk 3
  have m3 : wx.cell? ⟨w.heap.size + 1 + 1, 3, none⟩ = some (.int .i64 0) := blk_cell hA.lk 3
  have m4 : wx.cell? ⟨w.heap.size + 1 + 1, 4, none⟩ = some (.int .i64 0) := blk_cell hA.lk 4
  have hS3 : Sent (wx.setCell ⟨w.heap.size + 1 + 1, 3, none⟩ (.int .i64 nx)) EA := HS.out.below ((HBEL.out.trans ((hA.bel HBK.out hz).mono h0)).setCell (p := ⟨w.heap.size + 1 + 1, 3, none⟩) (by show w0.heap.size ≤ w.heap.size + 1 + 1; omega) _)
  have C3 := num_any _ EA hS3 E HE.out
  have q3 := blk_set hA.lk 3 (.int .i64 nx)
  have f4 := blk_frozen q3 4
  have HA := Lib.hid hA
  have HOV := Lib.hid hov
  have HAB := Lib.hid hab
  have HAI := Lib.hid hai
  have Q3 := Lib.hid q3
  clear hA hov hab hai hS3 q3
  go_wp2_with fail
  refine C2.mono ?_
  rintro e w' ⟨rfl, rfl⟩
  clear C2
  go_wp2_with fail
  refine C3.mono ?_
  rintro e w' ⟨rfl, rfl⟩
  clear C3
  go_upto_region 36 with fail
  have q4 := blk_set Q3.out 4 (.int .i64 E)
  have e4 := (HA.out.setE 3 (.int .i64 nx)).setCell (p := ⟨w.heap.size + 1 + 1, 4, none⟩) (fun _ => rfl) (.int .i64 E)
  clear f3 f4 Q3 m3 m4
  generalize (wx.setCell ⟨w.heap.size + 1 + 1, 3, none⟩ (.int .i64 nx)).setCell ⟨w.heap.size + 1 + 1, 4, none⟩ (.int .i64 E) = wz at q4 e4 ⊢
  have r4 := (e4.block _ (lt_of_heap HA.out.rs) (by omega)).trans HA.out.rs
  have a0 := blk_cell q4 0
  have a1 := blk_cell q4 1
  have a2 := blk_cell q4 2
  have a3 := blk_cell q4 3
  have a4 := blk_cell q4 4
  have b0 := blk_cell r4 0
  have b1 := blk_cell r4 1
  have b2 := blk_cell r4 2
  have b3 := blk_cell r4 3
  have b4 := blk_cell r4 4
  have g0 := blk_frozen r4 0
  have g1 := blk_frozen r4 1
  have g2 := blk_frozen r4 2
  have g3 := blk_frozen r4 3
  have g4 := blk_frozen r4 4
  simp at a0 a1 a2 a3 a4 b0 b1 b2 b3 b4
  have E4 := Lib.hid e4
  have R4 := Lib.hid r4
  clear q4 e4 r4
  go_wp2
  refine bodyPost_ret (by simp [results, Tryd.results32, go_sem, tower0 R4.out, tower1 R4.out, tower2 R4.out, tower3 R4.out, tower4 R4.out]; try rfl) rfl ?_
  have e5 : Eff (fun k => k = w.heap.size + 1 + 1 ∨ k = w.heap.size + 1) wx (((((wz.setCell ⟨w.heap.size + 1, 0, none⟩ (.int .u64 V)).setCell ⟨w.heap.size + 1, 1, none⟩ (.string ⟨#[]⟩)).setCell ⟨w.heap.size + 1, 2, none⟩ (.slice none 0 0)).setCell ⟨w.heap.size + 1, 3, none⟩ (.int .i64 nx)).setCell ⟨w.heap.size + 1, 4, none⟩ (.int .i64 E)) :=
    (((((E4.out.mono (fun i hi _ => Or.inl hi)).setCell (F := fun k => k = w.heap.size + 1 + 1 ∨ k = w.heap.size + 1) (p := ⟨w.heap.size + 1, 0, none⟩) (fun _ => .inr rfl) (.int .u64 V)).setCell (p := ⟨w.heap.size + 1, 1, none⟩) (fun _ => .inr rfl) (.string ⟨#[]⟩)).setCell (p := ⟨w.heap.size + 1, 2, none⟩) (fun _ => .inr rfl) (.slice none 0 0)).setCell (p := ⟨w.heap.size + 1, 3, none⟩) (fun _ => .inr rfl) _).setCell (p := ⟨w.heap.size + 1, 4, none⟩) (fun _ => .inr rfl) _
  exact AskC.fin (S := []) (L := []) HA.out e5 HOV.out HAB.out HAI.out

set_option maxRecDepth 100000 in
set_option maxHeartbeats 1000000 in
theorem ask_2 (w0 w : World) (base p pk : Nat) (v : Value) (bs : List UInt8) (vb vi : Value) (lb li : List Value) (k : Nat) (EA : Nat → Addr) (hS : Sent w0 EA) (h0 : w0.heap.size ≤ base) (hz : base ≤ w.heap.size) (hbel : Below w0.heap.size w0 w) (hr : Rdr w base p v bs k) (hb : BookX w base pk vb vi lb li) (hll : lb.length ≤ 1000000000) (hli : li.length ≤ 1000000000) (hlen : bs.length ≤ 100000000) (hG : GLow base) (sec b s l : Value) (n u i : Int) (hn0 : -9223372036854775808 ≤ n) (hn1 : n ≤ 9223372036854775807) :
    Calls Tryd.prog 32 #[.pointer (some ⟨p, 0, none⟩), .agg #[.int .i64 2, sec, .int .i64 n, .int .u64 u, .int .i64 i, b, s, l], .pointer (some ⟨pk, 0, none⟩)] w (AskP w base p pk v bs vb vi lb li (lkN (fun x => x) k (getU (bs.drop k)))) := by
  have A0 := AskC.init hr hb (.cells #[.int .i64 2, sec, .int .i64 n, .int .u64 u, .int .i64 i, b, s, l] 46)
  have hz3 : base ≤ (((w.alloc (.cells #[.int .i64 2, sec, .int .i64 n, .int .u64 u, .int .i64 i, b, s, l] 46)).alloc (.cells #[.int .u64 0, .string ⟨#[]⟩, .slice none 0 0, .int .i64 0, .int .i64 0] 66)).alloc (.cells #[.int .u64 0, .string ⟨#[]⟩, .slice none 0 0, .int .i64 0, .int .i64 0] 66)).heap.size := by have := A0.sz; omega
  have hS3 := hS.below (hbel.trans ((A0.bel hb hz).mono h0))
  have hE3 : RErr _ EA := ⟨hS3.c1, hS3.c2, hS3.c3, hS3.c4, hS3.c8⟩
  have C1 := ruv_out _ base p v bs k A0.rd EA hE3
  have hko := hr.le
  have HS := Lib.hid hS
  have HBEL := Lib.hid hbel
  have HBK := Lib.hid hb
  have HA0 := Lib.hid A0
  clear hS hbel hb A0 hG hr hS3 hE3 hz3
  have hE : (lkN (fun x => x) k (getU (bs.drop k))).e = 0 ∨ ErrN (lkN (fun x => x) k (getU (bs.drop k))).e := by
    cases hres : getU (bs.drop k) with
    | error q => exact .inr (getU_errN hres)
    | ok y => exact .inl rfl
  have HE := Lib.hid hE
  clear hE
  rw [lkN_eta]
  obtain ⟨V, hV⟩ : ∃ V, (lkN (fun x => x) k (getU (bs.drop k))).u = V := ⟨_, rfl⟩
  obtain ⟨nx, hnx⟩ : ∃ nx, (lkN (fun x => x) k (getU (bs.drop k))).next = nx := ⟨_, rfl⟩
  obtain ⟨E, hEE⟩ : ∃ E, (lkN (fun x => x) k (getU (bs.drop k))).e = E := ⟨_, rfl⟩
  rw [hEE] at HE
  rw [hV, hnx, hEE]
  have HV := Lib.hid hV
  have HNX := Lib.hid hnx
  have HEE := Lib.hid hEE
  clear hV hnx hEE
  go_enter Tryd.func32, Tryd.ntmps32
  go_wp2_with fail
  refine C1.mono ?_
  rintro e w1 hout
  obtain ⟨rfl, hr1, he1⟩ := rout_lk (fun q hq => getU_errN hq) hout
  clear hout C1
  have hA1 := HA0.out.call he1 hr1
  rw [HV.out, HEE.out]
  rw [HNX.out] at hA1
  clear he1 hr1 HA0 HV HEE HNX
  have f0 := blk_frozen hA1.lk 0
  have m0 : w1.cell? ⟨w.heap.size + 1 + 1, 0, none⟩ = some (.int .u64 0) := blk_cell hA1.lk 0
  have HA1 := Lib.hid hA1
  clear hA1
  go_upto_region 34 with fail
  have hA := HA1.out.set0 (.int .u64 V)
  clear HA1 f0 m0
  generalize w1.setCell ⟨w.heap.size + 1 + 1, 0, none⟩ (.int .u64 V) = wx at hA ⊢
  have hov : Own wx w.heap.size 3 (.slice none 0 0) (intL []) := own_nil _ _ _
  have hab : AddB w wx 5 bs.length lb lb := .inl rfl
  have hai : AddB w wx 3 (8 * bs.length + 65536) li li := .inl rfl
  have C2 := rat_any wx _ _ _ _ _ hA.rd
  have f3 := blk_frozen hA.lk 3
  have m3 : wx.cell? ⟨w.heap.size + 1 + 1, 3, none⟩ = some (.int .i64 0) := blk_cell hA.lk 3
  have m4 : wx.cell? ⟨w.heap.size + 1 + 1, 4, none⟩ = some (.int .i64 0) := blk_cell hA.lk 4
  have hS3 : Sent (wx.setCell ⟨w.heap.size + 1 + 1, 3, none⟩ (.int .i64 nx)) EA := HS.out.below ((HBEL.out.trans ((hA.bel HBK.out hz).mono h0)).setCell (p := ⟨w.heap.size + 1 + 1, 3, none⟩) (by show w0.heap.size ≤ w.heap.size + 1 + 1; omega) _)
  have C3 := num_any _ EA hS3 E HE.out
  have q3 := blk_set hA.lk 3 (.int .i64 nx)
  have f4 := blk_frozen q3 4
  have HA := Lib.hid hA
  have HOV := Lib.hid hov
  have HAB := Lib.hid hab
  have HAI := Lib.hid hai
  have Q3 := Lib.hid q3
  clear hA hov hab hai hS3 q3
  go_wp2_with fail
  refine C2.mono ?_
  rintro e w' ⟨rfl, rfl⟩
  clear C2
  go_wp2_with fail
  refine C3.mono ?_
  rintro e w' ⟨rfl, rfl⟩
  clear C3
  go_upto_region 36 with fail
  have q4 := blk_set Q3.out 4 (.int .i64 E)
  have e4 := (HA.out.setE 3 (.int .i64 nx)).setCell (p := ⟨w.heap.size + 1 + 1, 4, none⟩) (fun _ => rfl) (.int .i64 E)
  clear f3 f4 Q3 m3 m4
  generalize (wx.setCell ⟨w.heap.size + 1 + 1, 3, none⟩ (.int .i64 nx)).setCell ⟨w.heap.size + 1 + 1, 4, none⟩ (.int .i64 E) = wz at q4 e4 ⊢
  have r4 := (e4.block _ (lt_of_heap HA.out.rs) (by omega)).trans HA.out.rs
  have a0 := blk_cell q4 0
  have a1 := blk_cell q4 1
  have a2 := blk_cell q4 2
  have a3 := blk_cell q4 3
  have a4 := blk_cell q4 4
  have b0 := blk_cell r4 0
  have b1 := blk_cell r4 1
  have b2 := blk_cell r4 2
  have b3 := blk_cell r4 3
  have b4 := blk_cell r4 4
  have g0 := blk_frozen r4 0
  have g1 := blk_frozen r4 1
  have g2 := blk_frozen r4 2
  have g3 := blk_frozen r4 3
  have g4 := blk_frozen r4 4
  simp at a0 a1 a2 a3 a4 b0 b1 b2 b3 b4
  have E4 := Lib.hid e4
  have R4 := Lib.hid r4
  clear q4 e4 r4
  go_wp2
  refine bodyPost_ret (by simp [results, Tryd.results32, go_sem, tower0 R4.out, tower1 R4.out, tower2 R4.out, tower3 R4.out, tower4 R4.out]; try rfl) rfl ?_
  have e5 : Eff (fun k => k = w.heap.size + 1 + 1 ∨ k = w.heap.size + 1) wx (((((wz.setCell ⟨w.heap.size + 1, 0, none⟩ (.int .u64 V)).setCell ⟨w.heap.size + 1, 1, none⟩ (.string ⟨#[]⟩)).setCell ⟨w.heap.size + 1, 2, none⟩ (.slice none 0 0)).setCell ⟨w.heap.size + 1, 3, none⟩ (.int .i64 nx)).setCell ⟨w.heap.size + 1, 4, none⟩ (.int .i64 E)) :=
    (((((E4.out.mono (fun i hi _ => Or.inl hi)).setCell (F := fun k => k = w.heap.size + 1 + 1 ∨ k = w.heap.size + 1) (p := ⟨w.heap.size + 1, 0, none⟩) (fun _ => .inr rfl) (.int .u64 V)).setCell (p := ⟨w.heap.size + 1, 1, none⟩) (fun _ => .inr rfl) (.string ⟨#[]⟩)).setCell (p := ⟨w.heap.size + 1, 2, none⟩) (fun _ => .inr rfl) (.slice none 0 0)).setCell (p := ⟨w.heap.size + 1, 3, none⟩) (fun _ => .inr rfl) _).setCell (p := ⟨w.heap.size + 1, 4, none⟩) (fun _ => .inr rfl) _
  exact AskC.fin (S := []) (L := []) HA.out e5 HOV.out HAB.out HAI.out

set_option maxRecDepth 100000 in
set_option maxHeartbeats 1000000 in
theorem ask_3 (w0 w : World) (base p pk : Nat) (v : Value) (bs : List UInt8) (vb vi : Value) (lb li : List Value) (k : Nat) (EA : Nat → Addr) (hS : Sent w0 EA) (h0 : w0.heap.size ≤ base) (hz : base ≤ w.heap.size) (hbel : Below w0.heap.size w0 w) (hr : Rdr w base p v bs k) (hb : BookX w base pk vb vi lb li) (hll : lb.length ≤ 1000000000) (hli : li.length ≤ 1000000000) (hlen : bs.length ≤ 100000000) (hG : GLow base) (sec b s l : Value) (n u i : Int) (hn0 : -9223372036854775808 ≤ n) (hn1 : n ≤ 9223372036854775807) :
    Calls Tryd.prog 32 #[.pointer (some ⟨p, 0, none⟩), .agg #[.int .i64 3, sec, .int .i64 n, .int .u64 u, .int .i64 i, b, s, l], .pointer (some ⟨pk, 0, none⟩)] w (AskP w base p pk v bs vb vi lb li (lkN (fun x => IntKind.u64.wrap (zagI x)) k (getU (bs.drop k)))) := by
  have A0 := AskC.init hr hb (.cells #[.int .i64 3, sec, .int .i64 n, .int .u64 u, .int .i64 i, b, s, l] 46)
  have hz3 : base ≤ (((w.alloc (.cells #[.int .i64 3, sec, .int .i64 n, .int .u64 u, .int .i64 i, b, s, l] 46)).alloc (.cells #[.int .u64 0, .string ⟨#[]⟩, .slice none 0 0, .int .i64 0, .int .i64 0] 66)).alloc (.cells #[.int .u64 0, .string ⟨#[]⟩, .slice none 0 0, .int .i64 0, .int .i64 0] 66)).heap.size := by have := A0.sz; omega
  have hS3 := hS.below (hbel.trans ((A0.bel hb hz).mono h0))
  have hE3 : RErr _ EA := ⟨hS3.c1, hS3.c2, hS3.c3, hS3.c4, hS3.c8⟩
  have C1 := rvar_out _ base p v bs k A0.rd EA hE3
  have hko := hr.le
  have HS := Lib.hid hS
  have HBEL := Lib.hid hbel
  have HBK := Lib.hid hb
  have HA0 := Lib.hid A0
  clear hS hbel hb A0 hG hr hS3 hE3 hz3
  have hE : (lkN (fun x => zagI x) k (getU (bs.drop k))).e = 0 ∨ ErrN (lkN (fun x => zagI x) k (getU (bs.drop k))).e := by
    cases hres : getU (bs.drop k) with
    | error q => exact .inr (getU_errN hres)
    | ok y => exact .inl rfl
  have HE := Lib.hid hE
  clear hE
  rw [lkN_wrap]
  obtain ⟨V, hV⟩ : ∃ V, (lkN (fun x => zagI x) k (getU (bs.drop k))).u = V := ⟨_, rfl⟩
  obtain ⟨nx, hnx⟩ : ∃ nx, (lkN (fun x => zagI x) k (getU (bs.drop k))).next = nx := ⟨_, rfl⟩
  obtain ⟨E, hEE⟩ : ∃ E, (lkN (fun x => zagI x) k (getU (bs.drop k))).e = E := ⟨_, rfl⟩
  rw [hEE] at HE
  rw [hV, hnx, hEE]
  have HV := Lib.hid hV
  have HNX := Lib.hid hnx
  have HEE := Lib.hid hEE
  clear hV hnx hEE
  go_enter Tryd.func32, Tryd.ntmps32
  go_wp2_with fail
  refine C1.mono ?_
  rintro e w1 hout
  obtain ⟨rfl, hr1, he1⟩ := rout_lk (fun q hq => getU_errN hq) hout
  clear hout C1
  have hA1 := HA0.out.call he1 hr1
  rw [HV.out, HEE.out]
  rw [HNX.out] at hA1
  clear he1 hr1 HA0 HV HEE HNX
  have f0 := blk_frozen hA1.lk 0
  have m0 : w1.cell? ⟨w.heap.size + 1 + 1, 0, none⟩ = some (.int .u64 0) := blk_cell hA1.lk 0
  have HA1 := Lib.hid hA1
  clear hA1
  go_upto_region 34 with fail
  have hA := HA1.out.set0 (.int .u64 (IntKind.u64.wrap V))
  clear HA1 f0 m0
  generalize w1.setCell ⟨w.heap.size + 1 + 1, 0, none⟩ (.int .u64 (IntKind.u64.wrap V)) = wx at hA ⊢
  have hov : Own wx w.heap.size 3 (.slice none 0 0) (intL []) := own_nil _ _ _
  have hab : AddB w wx 5 bs.length lb lb := .inl rfl
  have hai : AddB w wx 3 (8 * bs.length + 65536) li li := .inl rfl
  have C2 := rat_any wx _ _ _ _ _ hA.rd
  have f3 := blk_frozen hA.lk 3
  have m3 : wx.cell? ⟨w.heap.size + 1 + 1, 3, none⟩ = some (.int .i64 0) := blk_cell hA.lk 3
  have m4 : wx.cell? ⟨w.heap.size + 1 + 1, 4, none⟩ = some (.int .i64 0) := blk_cell hA.lk 4
  have hS3 : Sent (wx.setCell ⟨w.heap.size + 1 + 1, 3, none⟩ (.int .i64 nx)) EA := HS.out.below ((HBEL.out.trans ((hA.bel HBK.out hz).mono h0)).setCell (p := ⟨w.heap.size + 1 + 1, 3, none⟩) (by show w0.heap.size ≤ w.heap.size + 1 + 1; omega) _)
  have C3 := num_any _ EA hS3 E HE.out
  have q3 := blk_set hA.lk 3 (.int .i64 nx)
  have f4 := blk_frozen q3 4
  have HA := Lib.hid hA
  have HOV := Lib.hid hov
  have HAB := Lib.hid hab
  have HAI := Lib.hid hai
  have Q3 := Lib.hid q3
  clear hA hov hab hai hS3 q3
  go_wp2_with fail
  refine C2.mono ?_
  rintro e w' ⟨rfl, rfl⟩
  clear C2
  go_wp2_with fail
  refine C3.mono ?_
  rintro e w' ⟨rfl, rfl⟩
  clear C3
  go_upto_region 36 with fail
  have q4 := blk_set Q3.out 4 (.int .i64 E)
  have e4 := (HA.out.setE 3 (.int .i64 nx)).setCell (p := ⟨w.heap.size + 1 + 1, 4, none⟩) (fun _ => rfl) (.int .i64 E)
  clear f3 f4 Q3 m3 m4
  generalize (wx.setCell ⟨w.heap.size + 1 + 1, 3, none⟩ (.int .i64 nx)).setCell ⟨w.heap.size + 1 + 1, 4, none⟩ (.int .i64 E) = wz at q4 e4 ⊢
  have r4 := (e4.block _ (lt_of_heap HA.out.rs) (by omega)).trans HA.out.rs
  have a0 := blk_cell q4 0
  have a1 := blk_cell q4 1
  have a2 := blk_cell q4 2
  have a3 := blk_cell q4 3
  have a4 := blk_cell q4 4
  have b0 := blk_cell r4 0
  have b1 := blk_cell r4 1
  have b2 := blk_cell r4 2
  have b3 := blk_cell r4 3
  have b4 := blk_cell r4 4
  have g0 := blk_frozen r4 0
  have g1 := blk_frozen r4 1
  have g2 := blk_frozen r4 2
  have g3 := blk_frozen r4 3
  have g4 := blk_frozen r4 4
  simp at a0 a1 a2 a3 a4 b0 b1 b2 b3 b4
  have E4 := Lib.hid e4
  have R4 := Lib.hid r4
  clear q4 e4 r4
  go_wp2
  refine bodyPost_ret (by simp [results, Tryd.results32, go_sem, tower0 R4.out, tower1 R4.out, tower2 R4.out, tower3 R4.out, tower4 R4.out]; try rfl) rfl ?_
  have e5 : Eff (fun k => k = w.heap.size + 1 + 1 ∨ k = w.heap.size + 1) wx (((((wz.setCell ⟨w.heap.size + 1, 0, none⟩ (.int .u64 (IntKind.u64.wrap V))).setCell ⟨w.heap.size + 1, 1, none⟩ (.string ⟨#[]⟩)).setCell ⟨w.heap.size + 1, 2, none⟩ (.slice none 0 0)).setCell ⟨w.heap.size + 1, 3, none⟩ (.int .i64 nx)).setCell ⟨w.heap.size + 1, 4, none⟩ (.int .i64 E)) :=
    (((((E4.out.mono (fun i hi _ => Or.inl hi)).setCell (F := fun k => k = w.heap.size + 1 + 1 ∨ k = w.heap.size + 1) (p := ⟨w.heap.size + 1, 0, none⟩) (fun _ => .inr rfl) (.int .u64 (IntKind.u64.wrap V))).setCell (p := ⟨w.heap.size + 1, 1, none⟩) (fun _ => .inr rfl) (.string ⟨#[]⟩)).setCell (p := ⟨w.heap.size + 1, 2, none⟩) (fun _ => .inr rfl) (.slice none 0 0)).setCell (p := ⟨w.heap.size + 1, 3, none⟩) (fun _ => .inr rfl) _).setCell (p := ⟨w.heap.size + 1, 4, none⟩) (fun _ => .inr rfl) _
  exact AskC.fin (S := []) (L := []) HA.out e5 HOV.out HAB.out HAI.out

set_option maxRecDepth 100000 in
set_option maxHeartbeats 1000000 in
theorem ask_10 (w0 w : World) (base p pk : Nat) (v : Value) (bs : List UInt8) (vb vi : Value) (lb li : List Value) (k : Nat) (EA : Nat → Addr) (hS : Sent w0 EA) (h0 : w0.heap.size ≤ base) (hz : base ≤ w.heap.size) (hbel : Below w0.heap.size w0 w) (hr : Rdr w base p v bs k) (hb : BookX w base pk vb vi lb li) (hll : lb.length ≤ 1000000000) (hli : li.length ≤ 1000000000) (hlen : bs.length ≤ 100000000) (hG : GLow base) (sec b s l : Value) (n u i : Int) (hn0 : -9223372036854775808 ≤ n) (hn1 : n ≤ 9223372036854775807) :
    Calls Tryd.prog 32 #[.pointer (some ⟨p, 0, none⟩), .agg #[.int .i64 10, sec, .int .i64 n, .int .u64 u, .int .i64 i, b, s, l], .pointer (some ⟨pk, 0, none⟩)] w (AskP w base p pk v bs vb vi lb li (lkN (fun x => x) k (getUpto n (bs.drop k)))) := by
  have A0 := AskC.init hr hb (.cells #[.int .i64 10, sec, .int .i64 n, .int .u64 u, .int .i64 i, b, s, l] 46)
  have hz3 : base ≤ (((w.alloc (.cells #[.int .i64 10, sec, .int .i64 n, .int .u64 u, .int .i64 i, b, s, l] 46)).alloc (.cells #[.int .u64 0, .string ⟨#[]⟩, .slice none 0 0, .int .i64 0, .int .i64 0] 66)).alloc (.cells #[.int .u64 0, .string ⟨#[]⟩, .slice none 0 0, .int .i64 0, .int .i64 0] 66)).heap.size := by have := A0.sz; omega
  have hS3 := hS.below (hbel.trans ((A0.bel hb hz).mono h0))
  have hE3 : RErr _ EA := ⟨hS3.c1, hS3.c2, hS3.c3, hS3.c4, hS3.c8⟩
  have C1 := rupto_out _ base p v bs k A0.rd EA hE3 hG n hn0 hn1
  have hko := hr.le
  have HS := Lib.hid hS
  have HBEL := Lib.hid hbel
  have HBK := Lib.hid hb
  have HA0 := Lib.hid A0
  clear hS hbel hb A0 hG hr hS3 hE3 hz3
  have hbd := lkN_bd (k := k) (r := getUpto n (bs.drop k)) (fun x j h => (getU_ok (getUpto_len h).1).1)
  have hE : (lkN (fun x => x) k (getUpto n (bs.drop k))).e = 0 ∨ ErrN (lkN (fun x => x) k (getUpto n (bs.drop k))).e := by
    cases hres : getUpto n (bs.drop k) with
    | error q => exact .inr (getUpto_err hres)
    | ok y => exact .inl rfl
  have HE := Lib.hid hE
  clear hE
  rw [lkN_eta]
  obtain ⟨V, hV⟩ : ∃ V, (lkN (fun x => x) k (getUpto n (bs.drop k))).u = V := ⟨_, rfl⟩
  obtain ⟨nx, hnx⟩ : ∃ nx, (lkN (fun x => x) k (getUpto n (bs.drop k))).next = nx := ⟨_, rfl⟩
  obtain ⟨E, hEE⟩ : ∃ E, (lkN (fun x => x) k (getUpto n (bs.drop k))).e = E := ⟨_, rfl⟩
  rw [hEE] at HE
  rw [hV, hnx, hEE]
  rw [hV] at hbd
  have HV := Lib.hid hV
  have HNX := Lib.hid hnx
  have HEE := Lib.hid hEE
  clear hV hnx hEE
  go_enter Tryd.func32, Tryd.ntmps32
  go_wp2_with fail
  refine C1.mono ?_
  rintro e w1 hout
  obtain ⟨rfl, hr1, he1⟩ := rout_lk (fun q hq => getUpto_err hq) hout
  clear hout C1
  have hA1 := HA0.out.call he1 hr1
  rw [HV.out, HEE.out]
  rw [HNX.out] at hA1
  clear he1 hr1 HA0 HV HEE HNX
  have f0 := blk_frozen hA1.lk 0
  have m0 : w1.cell? ⟨w.heap.size + 1 + 1, 0, none⟩ = some (.int .u64 0) := blk_cell hA1.lk 0
  have HA1 := Lib.hid hA1
  clear hA1
  go_upto_region 34 with fail
  have hA := HA1.out.set0 (.int .u64 V)
  clear HA1 f0 m0
  generalize w1.setCell ⟨w.heap.size + 1 + 1, 0, none⟩ (.int .u64 V) = wx at hA ⊢
  have hov : Own wx w.heap.size 3 (.slice none 0 0) (intL []) := own_nil _ _ _
  have hab : AddB w wx 5 bs.length lb lb := .inl rfl
  have hai : AddB w wx 3 (8 * bs.length + 65536) li li := .inl rfl
  have C2 := rat_any wx _ _ _ _ _ hA.rd
  have f3 := blk_frozen hA.lk 3
  have m3 : wx.cell? ⟨w.heap.size + 1 + 1, 3, none⟩ = some (.int .i64 0) := blk_cell hA.lk 3
  have m4 : wx.cell? ⟨w.heap.size + 1 + 1, 4, none⟩ = some (.int .i64 0) := blk_cell hA.lk 4
  have hS3 : Sent (wx.setCell ⟨w.heap.size + 1 + 1, 3, none⟩ (.int .i64 nx)) EA := HS.out.below ((HBEL.out.trans ((hA.bel HBK.out hz).mono h0)).setCell (p := ⟨w.heap.size + 1 + 1, 3, none⟩) (by show w0.heap.size ≤ w.heap.size + 1 + 1; omega) _)
  have C3 := num_any _ EA hS3 E HE.out
  have q3 := blk_set hA.lk 3 (.int .i64 nx)
  have f4 := blk_frozen q3 4
  have HA := Lib.hid hA
  have HOV := Lib.hid hov
  have HAB := Lib.hid hab
  have HAI := Lib.hid hai
  have Q3 := Lib.hid q3
  clear hA hov hab hai hS3 q3
  go_wp2_with fail
  refine C2.mono ?_
  rintro e w' ⟨rfl, rfl⟩
  clear C2
  go_wp2_with fail
  refine C3.mono ?_
  rintro e w' ⟨rfl, rfl⟩
  clear C3
  go_upto_region 36 with fail
  have q4 := blk_set Q3.out 4 (.int .i64 E)
  have e4 := (HA.out.setE 3 (.int .i64 nx)).setCell (p := ⟨w.heap.size + 1 + 1, 4, none⟩) (fun _ => rfl) (.int .i64 E)
  clear f3 f4 Q3 m3 m4
  generalize (wx.setCell ⟨w.heap.size + 1 + 1, 3, none⟩ (.int .i64 nx)).setCell ⟨w.heap.size + 1 + 1, 4, none⟩ (.int .i64 E) = wz at q4 e4 ⊢
  have r4 := (e4.block _ (lt_of_heap HA.out.rs) (by omega)).trans HA.out.rs
  have a0 := blk_cell q4 0
  have a1 := blk_cell q4 1
  have a2 := blk_cell q4 2
  have a3 := blk_cell q4 3
  have a4 := blk_cell q4 4
  have b0 := blk_cell r4 0
  have b1 := blk_cell r4 1
  have b2 := blk_cell r4 2
  have b3 := blk_cell r4 3
  have b4 := blk_cell r4 4
  have g0 := blk_frozen r4 0
  have g1 := blk_frozen r4 1
  have g2 := blk_frozen r4 2
  have g3 := blk_frozen r4 3
  have g4 := blk_frozen r4 4
  simp at a0 a1 a2 a3 a4 b0 b1 b2 b3 b4
  have E4 := Lib.hid e4
  have R4 := Lib.hid r4
  clear q4 e4 r4
  go_wp2
  refine bodyPost_ret (by simp [results, Tryd.results32, go_sem, tower0 R4.out, tower1 R4.out, tower2 R4.out, tower3 R4.out, tower4 R4.out]; try rfl) rfl ?_
  have e5 : Eff (fun k => k = w.heap.size + 1 + 1 ∨ k = w.heap.size + 1) wx (((((wz.setCell ⟨w.heap.size + 1, 0, none⟩ (.int .u64 V)).setCell ⟨w.heap.size + 1, 1, none⟩ (.string ⟨#[]⟩)).setCell ⟨w.heap.size + 1, 2, none⟩ (.slice none 0 0)).setCell ⟨w.heap.size + 1, 3, none⟩ (.int .i64 nx)).setCell ⟨w.heap.size + 1, 4, none⟩ (.int .i64 E)) :=
    (((((E4.out.mono (fun i hi _ => Or.inl hi)).setCell (F := fun k => k = w.heap.size + 1 + 1 ∨ k = w.heap.size + 1) (p := ⟨w.heap.size + 1, 0, none⟩) (fun _ => .inr rfl) (.int .u64 V)).setCell (p := ⟨w.heap.size + 1, 1, none⟩) (fun _ => .inr rfl) (.string ⟨#[]⟩)).setCell (p := ⟨w.heap.size + 1, 2, none⟩) (fun _ => .inr rfl) (.slice none 0 0)).setCell (p := ⟨w.heap.size + 1, 3, none⟩) (fun _ => .inr rfl) _).setCell (p := ⟨w.heap.size + 1, 4, none⟩) (fun _ => .inr rfl) _
  exact AskC.fin (S := []) (L := []) HA.out e5 HOV.out HAB.out HAI.out

set_option maxRecDepth 100000 in
set_option maxHeartbeats 1000000 in
theorem ask_4 (w0 w : World) (base p pk : Nat) (v : Value) (bs : List UInt8) (vb vi : Value) (lb li : List Value) (k : Nat) (EA : Nat → Addr) (hS : Sent w0 EA) (h0 : w0.heap.size ≤ base) (hz : base ≤ w.heap.size) (hbel : Below w0.heap.size w0 w) (hr : Rdr w base p v bs k) (hb : BookX w base pk vb vi lb li) (hll : lb.length ≤ 1000000000) (hli : li.length ≤ 1000000000) (hlen : bs.length ≤ 100000000) (hG : GLow base) (sec b s l : Value) (n u i : Int) (hn0 : -9223372036854775808 ≤ n) (hn1 : n ≤ 9223372036854775807) :
    Calls Tryd.prog 32 #[.pointer (some ⟨p, 0, none⟩), .agg #[.int .i64 4, sec, .int .i64 n, .int .u64 u, .int .i64 i, b, s, l], .pointer (some ⟨pk, 0, none⟩)] w (AskP w base p pk v bs vb vi lb li (lkN (fun x => x) k (getW 4 (bs.drop k)))) := by
  have A0 := AskC.init hr hb (.cells #[.int .i64 4, sec, .int .i64 n, .int .u64 u, .int .i64 i, b, s, l] 46)
  have hz3 : base ≤ (((w.alloc (.cells #[.int .i64 4, sec, .int .i64 n, .int .u64 u, .int .i64 i, b, s, l] 46)).alloc (.cells #[.int .u64 0, .string ⟨#[]⟩, .slice none 0 0, .int .i64 0, .int .i64 0] 66)).alloc (.cells #[.int .u64 0, .string ⟨#[]⟩, .slice none 0 0, .int .i64 0, .int .i64 0] 66)).heap.size := by have := A0.sz; omega
  have hS3 := hS.below (hbel.trans ((A0.bel hb hz).mono h0))
  have hE3 : RErr _ EA := ⟨hS3.c1, hS3.c2, hS3.c3, hS3.c4, hS3.c8⟩
  have C1 := r32_out _ base p v bs k A0.rd EA hE3
  have hko := hr.le
  have HS := Lib.hid hS
  have HBEL := Lib.hid hbel
  have HBK := Lib.hid hb
  have HA0 := Lib.hid A0
  clear hS hbel hb A0 hG hr hS3 hE3 hz3
  have hbd := lkN_bd (k := k) (r := getW 4 (bs.drop k)) (fun x j h => by have := (getW_len h).2; omega)
  have hE : (lkN (fun x => x) k (getW 4 (bs.drop k))).e = 0 ∨ ErrN (lkN (fun x => x) k (getW 4 (bs.drop k))).e := by
    cases hres : getW 4 (bs.drop k) with
    | error q => exact .inr (getW_err hres)
    | ok y => exact .inl rfl
  have HE := Lib.hid hE
  clear hE
  rw [lkN_eta]
  obtain ⟨V, hV⟩ : ∃ V, (lkN (fun x => x) k (getW 4 (bs.drop k))).u = V := ⟨_, rfl⟩
  obtain ⟨nx, hnx⟩ : ∃ nx, (lkN (fun x => x) k (getW 4 (bs.drop k))).next = nx := ⟨_, rfl⟩
  obtain ⟨E, hEE⟩ : ∃ E, (lkN (fun x => x) k (getW 4 (bs.drop k))).e = E := ⟨_, rfl⟩
  rw [hEE] at HE
  rw [hV, hnx, hEE]
  rw [hV] at hbd
  have HV := Lib.hid hV
  have HNX := Lib.hid hnx
  have HEE := Lib.hid hEE
  clear hV hnx hEE
  go_enter Tryd.func32, Tryd.ntmps32
  go_wp2_with fail
  refine C1.mono ?_
  rintro e w1 hout
  obtain ⟨rfl, hr1, he1⟩ := rout_lk (fun q hq => getW_err hq) hout
  clear hout C1
  have hA1 := HA0.out.call he1 hr1
  rw [HV.out, HEE.out]
  rw [HNX.out] at hA1
  clear he1 hr1 HA0 HV HEE HNX
  have f0 := blk_frozen hA1.lk 0
  have m0 : w1.cell? ⟨w.heap.size + 1 + 1, 0, none⟩ = some (.int .u64 0) := blk_cell hA1.lk 0
  have HA1 := Lib.hid hA1
  clear hA1
  go_upto_region 34 with fail
  have hA := HA1.out.set0 (.int .u64 V)
  clear HA1 f0 m0
  generalize w1.setCell ⟨w.heap.size + 1 + 1, 0, none⟩ (.int .u64 V) = wx at hA ⊢
  have hov : Own wx w.heap.size 3 (.slice none 0 0) (intL []) := own_nil _ _ _
  have hab : AddB w wx 5 bs.length lb lb := .inl rfl
  have hai : AddB w wx 3 (8 * bs.length + 65536) li li := .inl rfl
  have C2 := rat_any wx _ _ _ _ _ hA.rd
  have f3 := blk_frozen hA.lk 3
  have m3 : wx.cell? ⟨w.heap.size + 1 + 1, 3, none⟩ = some (.int .i64 0) := blk_cell hA.lk 3
  have m4 : wx.cell? ⟨w.heap.size + 1 + 1, 4, none⟩ = some (.int .i64 0) := blk_cell hA.lk 4
  have hS3 : Sent (wx.setCell ⟨w.heap.size + 1 + 1, 3, none⟩ (.int .i64 nx)) EA := HS.out.below ((HBEL.out.trans ((hA.bel HBK.out hz).mono h0)).setCell (p := ⟨w.heap.size + 1 + 1, 3, none⟩) (by show w0.heap.size ≤ w.heap.size + 1 + 1; omega) _)
  have C3 := num_any _ EA hS3 E HE.out
  have q3 := blk_set hA.lk 3 (.int .i64 nx)
  have f4 := blk_frozen q3 4
  have HA := Lib.hid hA
  have HOV := Lib.hid hov
  have HAB := Lib.hid hab
  have HAI := Lib.hid hai
  have Q3 := Lib.hid q3
  clear hA hov hab hai hS3 q3
  go_wp2_with fail
  refine C2.mono ?_
  rintro e w' ⟨rfl, rfl⟩
  clear C2
  go_wp2_with fail
  refine C3.mono ?_
  rintro e w' ⟨rfl, rfl⟩
  clear C3
  go_upto_region 36 with fail
  have q4 := blk_set Q3.out 4 (.int .i64 E)
  have e4 := (HA.out.setE 3 (.int .i64 nx)).setCell (p := ⟨w.heap.size + 1 + 1, 4, none⟩) (fun _ => rfl) (.int .i64 E)
  clear f3 f4 Q3 m3 m4
  generalize (wx.setCell ⟨w.heap.size + 1 + 1, 3, none⟩ (.int .i64 nx)).setCell ⟨w.heap.size + 1 + 1, 4, none⟩ (.int .i64 E) = wz at q4 e4 ⊢
  have r4 := (e4.block _ (lt_of_heap HA.out.rs) (by omega)).trans HA.out.rs
  have a0 := blk_cell q4 0
  have a1 := blk_cell q4 1
  have a2 := blk_cell q4 2
  have a3 := blk_cell q4 3
  have a4 := blk_cell q4 4
  have b0 := blk_cell r4 0
  have b1 := blk_cell r4 1
  have b2 := blk_cell r4 2
  have b3 := blk_cell r4 3
  have b4 := blk_cell r4 4
  have g0 := blk_frozen r4 0
  have g1 := blk_frozen r4 1
  have g2 := blk_frozen r4 2
  have g3 := blk_frozen r4 3
  have g4 := blk_frozen r4 4
  simp at a0 a1 a2 a3 a4 b0 b1 b2 b3 b4
  have E4 := Lib.hid e4
  have R4 := Lib.hid r4
  clear q4 e4 r4
  go_wp2
  refine bodyPost_ret (by simp [results, Tryd.results32, go_sem, tower0 R4.out, tower1 R4.out, tower2 R4.out, tower3 R4.out, tower4 R4.out]; try rfl) rfl ?_
  have e5 : Eff (fun k => k = w.heap.size + 1 + 1 ∨ k = w.heap.size + 1) wx (((((wz.setCell ⟨w.heap.size + 1, 0, none⟩ (.int .u64 V)).setCell ⟨w.heap.size + 1, 1, none⟩ (.string ⟨#[]⟩)).setCell ⟨w.heap.size + 1, 2, none⟩ (.slice none 0 0)).setCell ⟨w.heap.size + 1, 3, none⟩ (.int .i64 nx)).setCell ⟨w.heap.size + 1, 4, none⟩ (.int .i64 E)) :=
    (((((E4.out.mono (fun i hi _ => Or.inl hi)).setCell (F := fun k => k = w.heap.size + 1 + 1 ∨ k = w.heap.size + 1) (p := ⟨w.heap.size + 1, 0, none⟩) (fun _ => .inr rfl) (.int .u64 V)).setCell (p := ⟨w.heap.size + 1, 1, none⟩) (fun _ => .inr rfl) (.string ⟨#[]⟩)).setCell (p := ⟨w.heap.size + 1, 2, none⟩) (fun _ => .inr rfl) (.slice none 0 0)).setCell (p := ⟨w.heap.size + 1, 3, none⟩) (fun _ => .inr rfl) _).setCell (p := ⟨w.heap.size + 1, 4, none⟩) (fun _ => .inr rfl) _
  exact AskC.fin (S := []) (L := []) HA.out e5 HOV.out HAB.out HAI.out

set_option maxRecDepth 100000 in
set_option maxHeartbeats 1000000 in
theorem ask_5 (w0 w : World) (base p pk : Nat) (v : Value) (bs : List UInt8) (vb vi : Value) (lb li : List Value) (k : Nat) (EA : Nat → Addr) (hS : Sent w0 EA) (h0 : w0.heap.size ≤ base) (hz : base ≤ w.heap.size) (hbel : Below w0.heap.size w0 w) (hr : Rdr w base p v bs k) (hb : BookX w base pk vb vi lb li) (hll : lb.length ≤ 1000000000) (hli : li.length ≤ 1000000000) (hlen : bs.length ≤ 100000000) (hG : GLow base) (sec b s l : Value) (n u i : Int) (hn0 : -9223372036854775808 ≤ n) (hn1 : n ≤ 9223372036854775807) :
    Calls Tryd.prog 32 #[.pointer (some ⟨p, 0, none⟩), .agg #[.int .i64 5, sec, .int .i64 n, .int .u64 u, .int .i64 i, b, s, l], .pointer (some ⟨pk, 0, none⟩)] w (AskP w base p pk v bs vb vi lb li (lkN (fun x => x) k (getW 8 (bs.drop k)))) := by
  have A0 := AskC.init hr hb (.cells #[.int .i64 5, sec, .int .i64 n, .int .u64 u, .int .i64 i, b, s, l] 46)
  have hz3 : base ≤ (((w.alloc (.cells #[.int .i64 5, sec, .int .i64 n, .int .u64 u, .int .i64 i, b, s, l] 46)).alloc (.cells #[.int .u64 0, .string ⟨#[]⟩, .slice none 0 0, .int .i64 0, .int .i64 0] 66)).alloc (.cells #[.int .u64 0, .string ⟨#[]⟩, .slice none 0 0, .int .i64 0, .int .i64 0] 66)).heap.size := by have := A0.sz; omega
  have hS3 := hS.below (hbel.trans ((A0.bel hb hz).mono h0))
  have hE3 : RErr _ EA := ⟨hS3.c1, hS3.c2, hS3.c3, hS3.c4, hS3.c8⟩
  have C1 := r64_out _ base p v bs k A0.rd EA hE3
  have hko := hr.le
  have HS := Lib.hid hS
  have HBEL := Lib.hid hbel
  have HBK := Lib.hid hb
  have HA0 := Lib.hid A0
  clear hS hbel hb A0 hG hr hS3 hE3 hz3
  have hE : (lkN (fun x => x) k (getW 8 (bs.drop k))).e = 0 ∨ ErrN (lkN (fun x => x) k (getW 8 (bs.drop k))).e := by
    cases hres : getW 8 (bs.drop k) with
    | error q => exact .inr (getW_err hres)
    | ok y => exact .inl rfl
  have HE := Lib.hid hE
  clear hE
  rw [lkN_eta]
  obtain ⟨V, hV⟩ : ∃ V, (lkN (fun x => x) k (getW 8 (bs.drop k))).u = V := ⟨_, rfl⟩
  obtain ⟨nx, hnx⟩ : ∃ nx, (lkN (fun x => x) k (getW 8 (bs.drop k))).next = nx := ⟨_, rfl⟩
  obtain ⟨E, hEE⟩ : ∃ E, (lkN (fun x => x) k (getW 8 (bs.drop k))).e = E := ⟨_, rfl⟩
  rw [hEE] at HE
  rw [hV, hnx, hEE]
  have HV := Lib.hid hV
  have HNX := Lib.hid hnx
  have HEE := Lib.hid hEE
  clear hV hnx hEE
  go_enter Tryd.func32, Tryd.ntmps32
  go_wp2_with fail
  refine C1.mono ?_
  rintro e w1 hout
  obtain ⟨rfl, hr1, he1⟩ := rout_lk (fun q hq => getW_err hq) hout
  clear hout C1
  have hA1 := HA0.out.call he1 hr1
  rw [HV.out, HEE.out]
  rw [HNX.out] at hA1
  clear he1 hr1 HA0 HV HEE HNX
  have f0 := blk_frozen hA1.lk 0
  have m0 : w1.cell? ⟨w.heap.size + 1 + 1, 0, none⟩ = some (.int .u64 0) := blk_cell hA1.lk 0
  have HA1 := Lib.hid hA1
  clear hA1
  go_upto_region 34 with fail
  have hA := HA1.out.set0 (.int .u64 V)
  clear HA1 f0 m0
  generalize w1.setCell ⟨w.heap.size + 1 + 1, 0, none⟩ (.int .u64 V) = wx at hA ⊢
  have hov : Own wx w.heap.size 3 (.slice none 0 0) (intL []) := own_nil _ _ _
  have hab : AddB w wx 5 bs.length lb lb := .inl rfl
  have hai : AddB w wx 3 (8 * bs.length + 65536) li li := .inl rfl
  have C2 := rat_any wx _ _ _ _ _ hA.rd
  have f3 := blk_frozen hA.lk 3
  have m3 : wx.cell? ⟨w.heap.size + 1 + 1, 3, none⟩ = some (.int .i64 0) := blk_cell hA.lk 3
  have m4 : wx.cell? ⟨w.heap.size + 1 + 1, 4, none⟩ = some (.int .i64 0) := blk_cell hA.lk 4
  have hS3 : Sent (wx.setCell ⟨w.heap.size + 1 + 1, 3, none⟩ (.int .i64 nx)) EA := HS.out.below ((HBEL.out.trans ((hA.bel HBK.out hz).mono h0)).setCell (p := ⟨w.heap.size + 1 + 1, 3, none⟩) (by show w0.heap.size ≤ w.heap.size + 1 + 1; omega) _)
  have C3 := num_any _ EA hS3 E HE.out
  have q3 := blk_set hA.lk 3 (.int .i64 nx)
  have f4 := blk_frozen q3 4
  have HA := Lib.hid hA
  have HOV := Lib.hid hov
  have HAB := Lib.hid hab
  have HAI := Lib.hid hai
  have Q3 := Lib.hid q3
  clear hA hov hab hai hS3 q3
  go_wp2_with fail
  refine C2.mono ?_
  rintro e w' ⟨rfl, rfl⟩
  clear C2
  go_wp2_with fail
  refine C3.mono ?_
  rintro e w' ⟨rfl, rfl⟩
  clear C3
  go_upto_region 36 with fail
  have q4 := blk_set Q3.out 4 (.int .i64 E)
  have e4 := (HA.out.setE 3 (.int .i64 nx)).setCell (p := ⟨w.heap.size + 1 + 1, 4, none⟩) (fun _ => rfl) (.int .i64 E)
  clear f3 f4 Q3 m3 m4
  generalize (wx.setCell ⟨w.heap.size + 1 + 1, 3, none⟩ (.int .i64 nx)).setCell ⟨w.heap.size + 1 + 1, 4, none⟩ (.int .i64 E) = wz at q4 e4 ⊢
  have r4 := (e4.block _ (lt_of_heap HA.out.rs) (by omega)).trans HA.out.rs
  have a0 := blk_cell q4 0
  have a1 := blk_cell q4 1
  have a2 := blk_cell q4 2
  have a3 := blk_cell q4 3
  have a4 := blk_cell q4 4
  have b0 := blk_cell r4 0
  have b1 := blk_cell r4 1
  have b2 := blk_cell r4 2
  have b3 := blk_cell r4 3
  have b4 := blk_cell r4 4
  have g0 := blk_frozen r4 0
  have g1 := blk_frozen r4 1
  have g2 := blk_frozen r4 2
  have g3 := blk_frozen r4 3
  have g4 := blk_frozen r4 4
  simp at a0 a1 a2 a3 a4 b0 b1 b2 b3 b4
  have E4 := Lib.hid e4
  have R4 := Lib.hid r4
  clear q4 e4 r4
  go_wp2
  refine bodyPost_ret (by simp [results, Tryd.results32, go_sem, tower0 R4.out, tower1 R4.out, tower2 R4.out, tower3 R4.out, tower4 R4.out]; try rfl) rfl ?_
  have e5 : Eff (fun k => k = w.heap.size + 1 + 1 ∨ k = w.heap.size + 1) wx (((((wz.setCell ⟨w.heap.size + 1, 0, none⟩ (.int .u64 V)).setCell ⟨w.heap.size + 1, 1, none⟩ (.string ⟨#[]⟩)).setCell ⟨w.heap.size + 1, 2, none⟩ (.slice none 0 0)).setCell ⟨w.heap.size + 1, 3, none⟩ (.int .i64 nx)).setCell ⟨w.heap.size + 1, 4, none⟩ (.int .i64 E)) :=
    (((((E4.out.mono (fun i hi _ => Or.inl hi)).setCell (F := fun k => k = w.heap.size + 1 + 1 ∨ k = w.heap.size + 1) (p := ⟨w.heap.size + 1, 0, none⟩) (fun _ => .inr rfl) (.int .u64 V)).setCell (p := ⟨w.heap.size + 1, 1, none⟩) (fun _ => .inr rfl) (.string ⟨#[]⟩)).setCell (p := ⟨w.heap.size + 1, 2, none⟩) (fun _ => .inr rfl) (.slice none 0 0)).setCell (p := ⟨w.heap.size + 1, 3, none⟩) (fun _ => .inr rfl) _).setCell (p := ⟨w.heap.size + 1, 4, none⟩) (fun _ => .inr rfl) _
  exact AskC.fin (S := []) (L := []) HA.out e5 HOV.out HAB.out HAI.out

set_option maxRecDepth 100000 in
set_option maxHeartbeats 1000000 in
theorem ask_7 (w0 w : World) (base p pk : Nat) (v : Value) (bs : List UInt8) (vb vi : Value) (lb li : List Value) (k : Nat) (EA : Nat → Addr) (hS : Sent w0 EA) (h0 : w0.heap.size ≤ base) (hz : base ≤ w.heap.size) (hbel : Below w0.heap.size w0 w) (hr : Rdr w base p v bs k) (hb : BookX w base pk vb vi lb li) (hll : lb.length ≤ 1000000000) (hli : li.length ≤ 1000000000) (hlen : bs.length ≤ 100000000) (hG : GLow base) (sec b s l : Value) (n u i : Int) (hn0 : -9223372036854775808 ≤ n) (hn1 : n ≤ 9223372036854775807) :
    Calls Tryd.prog 32 #[.pointer (some ⟨p, 0, none⟩), .agg #[.int .i64 7, sec, .int .i64 n, .int .u64 u, .int .i64 i, b, s, l], .pointer (some ⟨pk, 0, none⟩)] w (AskP w base p pk v bs vb vi lb li (lkS k (getText n (bs.drop k)))) := by
  have A0 := AskC.init hr hb (.cells #[.int .i64 7, sec, .int .i64 n, .int .u64 u, .int .i64 i, b, s, l] 46)
  have hz3 : base ≤ (((w.alloc (.cells #[.int .i64 7, sec, .int .i64 n, .int .u64 u, .int .i64 i, b, s, l] 46)).alloc (.cells #[.int .u64 0, .string ⟨#[]⟩, .slice none 0 0, .int .i64 0, .int .i64 0] 66)).alloc (.cells #[.int .u64 0, .string ⟨#[]⟩, .slice none 0 0, .int .i64 0, .int .i64 0] 66)).heap.size := by have := A0.sz; omega
  have hS3 := hS.below (hbel.trans ((A0.bel hb hz).mono h0))
  have hE3 : RErr _ EA := ⟨hS3.c1, hS3.c2, hS3.c3, hS3.c4, hS3.c8⟩
  have C1 := rtext_any _ base p v bs k A0.rd EA hE3 hG n hn0 hn1
  have hko := hr.le
  have HS := Lib.hid hS
  have HBEL := Lib.hid hbel
  have HBK := Lib.hid hb
  have HA0 := Lib.hid A0
  clear hS hbel hb A0 hG hr hS3 hE3 hz3
  have hE : (lkS k (getText n (bs.drop k))).e = 0 ∨ ErrN (lkS k (getText n (bs.drop k))).e := by
    cases hres : getText n (bs.drop k) with
    | error q => exact .inr (getText_err hres)
    | ok y => exact .inl rfl
  have HE := Lib.hid hE
  clear hE
  rw [lkS_eta]
  obtain ⟨S, hV⟩ : ∃ S, (lkS k (getText n (bs.drop k))).s = S := ⟨_, rfl⟩
  obtain ⟨nx, hnx⟩ : ∃ nx, (lkS k (getText n (bs.drop k))).next = nx := ⟨_, rfl⟩
  obtain ⟨E, hEE⟩ : ∃ E, (lkS k (getText n (bs.drop k))).e = E := ⟨_, rfl⟩
  rw [hEE] at HE
  rw [hV, hnx, hEE]
  have HV := Lib.hid hV
  have HNX := Lib.hid hnx
  have HEE := Lib.hid hEE
  clear hV hnx hEE
  go_enter Tryd.func32, Tryd.ntmps32
  go_wp2_with fail
  refine C1.mono ?_
  rintro e w1 hout
  obtain ⟨rfl, hr1, he1⟩ := rout_str (fun q hq => getText_err hq) hout
  clear hout C1
  have hA1 := HA0.out.call he1 hr1
  rw [HV.out, HEE.out]
  rw [HNX.out] at hA1
  clear he1 hr1 HA0 HV HEE HNX
  have f0 := blk_frozen hA1.lk 1
  have m0 : w1.cell? ⟨w.heap.size + 1 + 1, 1, none⟩ = some (.string ⟨#[]⟩) := blk_cell hA1.lk 1
  have HA1 := Lib.hid hA1
  clear hA1
  go_upto_region 34 with fail
  have hA := HA1.out.set1 (.string (strOf S))
  clear HA1 f0 m0
  generalize w1.setCell ⟨w.heap.size + 1 + 1, 1, none⟩ (.string (strOf S)) = wx at hA ⊢
  have hov : Own wx w.heap.size 3 (.slice none 0 0) (intL []) := own_nil _ _ _
  have hab : AddB w wx 5 bs.length lb lb := .inl rfl
  have hai : AddB w wx 3 (8 * bs.length + 65536) li li := .inl rfl
  have C2 := rat_any wx _ _ _ _ _ hA.rd
  have f3 := blk_frozen hA.lk 3
  have m3 : wx.cell? ⟨w.heap.size + 1 + 1, 3, none⟩ = some (.int .i64 0) := blk_cell hA.lk 3
  have m4 : wx.cell? ⟨w.heap.size + 1 + 1, 4, none⟩ = some (.int .i64 0) := blk_cell hA.lk 4
  have hS3 : Sent (wx.setCell ⟨w.heap.size + 1 + 1, 3, none⟩ (.int .i64 nx)) EA := HS.out.below ((HBEL.out.trans ((hA.bel HBK.out hz).mono h0)).setCell (p := ⟨w.heap.size + 1 + 1, 3, none⟩) (by show w0.heap.size ≤ w.heap.size + 1 + 1; omega) _)
  have C3 := num_any _ EA hS3 E HE.out
  have q3 := blk_set hA.lk 3 (.int .i64 nx)
  have f4 := blk_frozen q3 4
  have HA := Lib.hid hA
  have HOV := Lib.hid hov
  have HAB := Lib.hid hab
  have HAI := Lib.hid hai
  have Q3 := Lib.hid q3
  clear hA hov hab hai hS3 q3
  go_wp2_with fail
  refine C2.mono ?_
  rintro e w' ⟨rfl, rfl⟩
  clear C2
  go_wp2_with fail
  refine C3.mono ?_
  rintro e w' ⟨rfl, rfl⟩
  clear C3
  go_upto_region 36 with fail
  have q4 := blk_set Q3.out 4 (.int .i64 E)
  have e4 := (HA.out.setE 3 (.int .i64 nx)).setCell (p := ⟨w.heap.size + 1 + 1, 4, none⟩) (fun _ => rfl) (.int .i64 E)
  clear f3 f4 Q3 m3 m4
  generalize (wx.setCell ⟨w.heap.size + 1 + 1, 3, none⟩ (.int .i64 nx)).setCell ⟨w.heap.size + 1 + 1, 4, none⟩ (.int .i64 E) = wz at q4 e4 ⊢
  have r4 := (e4.block _ (lt_of_heap HA.out.rs) (by omega)).trans HA.out.rs
  have a0 := blk_cell q4 0
  have a1 := blk_cell q4 1
  have a2 := blk_cell q4 2
  have a3 := blk_cell q4 3
  have a4 := blk_cell q4 4
  have b0 := blk_cell r4 0
  have b1 := blk_cell r4 1
  have b2 := blk_cell r4 2
  have b3 := blk_cell r4 3
  have b4 := blk_cell r4 4
  have g0 := blk_frozen r4 0
  have g1 := blk_frozen r4 1
  have g2 := blk_frozen r4 2
  have g3 := blk_frozen r4 3
  have g4 := blk_frozen r4 4
  simp at a0 a1 a2 a3 a4 b0 b1 b2 b3 b4
  have E4 := Lib.hid e4
  have R4 := Lib.hid r4
  clear q4 e4 r4
  go_wp2
  refine bodyPost_ret (by simp [results, Tryd.results32, go_sem, tower0 R4.out, tower1 R4.out, tower2 R4.out, tower3 R4.out, tower4 R4.out]; try rfl) rfl ?_
  have e5 : Eff (fun k => k = w.heap.size + 1 + 1 ∨ k = w.heap.size + 1) wx (((((wz.setCell ⟨w.heap.size + 1, 0, none⟩ (.int .u64 0)).setCell ⟨w.heap.size + 1, 1, none⟩ (.string (strOf S))).setCell ⟨w.heap.size + 1, 2, none⟩ (.slice none 0 0)).setCell ⟨w.heap.size + 1, 3, none⟩ (.int .i64 nx)).setCell ⟨w.heap.size + 1, 4, none⟩ (.int .i64 E)) :=
    (((((E4.out.mono (fun i hi _ => Or.inl hi)).setCell (F := fun k => k = w.heap.size + 1 + 1 ∨ k = w.heap.size + 1) (p := ⟨w.heap.size + 1, 0, none⟩) (fun _ => .inr rfl) (.int .u64 0)).setCell (p := ⟨w.heap.size + 1, 1, none⟩) (fun _ => .inr rfl) (.string (strOf S))).setCell (p := ⟨w.heap.size + 1, 2, none⟩) (fun _ => .inr rfl) (.slice none 0 0)).setCell (p := ⟨w.heap.size + 1, 3, none⟩) (fun _ => .inr rfl) _).setCell (p := ⟨w.heap.size + 1, 4, none⟩) (fun _ => .inr rfl) _
  exact AskC.fin (U := 0) (S := S) (L := []) HA.out e5 HOV.out HAB.out HAI.out

end Go.Proofs.YtmmflhippbegaaaDoor

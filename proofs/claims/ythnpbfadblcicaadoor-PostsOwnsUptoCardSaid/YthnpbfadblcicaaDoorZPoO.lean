/- PostsOwns: the law's opened. -/
import Derived.Test.YthnpbfadblcicaaDoorZPoD
import Derived.Test.YthnpbfadblcicaaDoorZOwn
import Derived.Test.YthnpbfadblcicaaDoorZG18
import Derived.Test.YthnpbfadblcicaaDoorZPDocs
namespace Go.Proofs.YthnpbfadblcicaaDoor
set_option linter.unusedVariables false
open Go.ChangeShapes Go.WideShapes Go.ChangeAt Go.RowKit

theorem elBk9 : Elem Tryd.prog 98 22 (.slice none 0 0) 24 := ⟨Tryd.underlying98, by kernel_rfl, rfl, by decide⟩
/-- How long the chunk of block q is, gone over again and again. -/
def nnC (ps : List PostV) (q : Nat) : Nat := ((chp ps).getD (q % (chp ps).length) []).length
theorem nnC_at (ps : List PostV) (T k : Nat) (hk : k < (chp ps).length) : nnC ps (T * (chp ps).length + k) = ((chp ps)[k]).length := by
  unfold nnC
  rw [Nat.mul_comm, Nat.mul_add_mod, Nat.mod_eq_of_lt hk]
  simp [List.getD, hk]
theorem nnC_pos (ps : List PostV) (q : Nat) (h0 : 0 < (chp ps).length) : 1 ≤ nnC ps q ∧ nnC ps q ≤ 16 := by
  have hk : q % (chp ps).length < (chp ps).length := Nat.mod_lt _ h0
  unfold nnC
  rw [show (chp ps).getD (q % (chp ps).length) [] = (chp ps)[q % (chp ps).length] by simp [List.getD, hk]]
  have h1 := chp_ne _ ps (Nat.le_refl _) _ (List.getElem_mem hk)
  have h2 := (chp_flat _ ps (Nat.le_refl _)).2.2.1 _ (List.getElem_mem hk)
  exact ⟨List.length_pos_iff.2 h1, h2⟩
/-- Lists of positions and rows of blocks, as the first loop gathers them. -/
def LbS (w wr : World) (B m N : Nat) (lv bv : Value) (nn : Nat → Nat) : Prop :=
  ∃ LV LY V, KpP wr B N lv LV LY ∧ (∀ k, k < N → (LY k).length ≤ 31000000) ∧ BkS wr B m bv V nn (fun _ => 0) ∧ Below B w wr
theorem ListAt.apart {F : Nat → Prop} {w w' : World} {B p : Nat} {im sv : Value} {b : List UInt8} {n t : Nat} {S : List SkV} (h : ListAt w B p im sv b n t S) (e : Eff F w w') (hF : ∀ k, F k → k < B) : ListAt w' B p im sv b n t S :=
  ⟨(e.block p (lt_of_heap h.blk) (fun f => by have := hF p f; have := h.hp; omega)).trans h.blk, h.hp, h.img.eff e (fun k hk f => by have := hF k f; have := (h.img.lt k hk).1; omega), h.sk.eff e (fun k hk f => by have := hF k f; have := (h.sk.lt k hk).1; omega)⟩
theorem KpP.eff {F : Nat → Prop} {wr w' : World} {B N : Nat} {v : Value} {vs : Nat → Value} {ys : Nat → List Int} (h : KpP wr B N v vs ys) (e : Eff F wr w') (hF : ∀ k, F k → ∃ cs t fr, wr.heap[k]? = some (.cells cs t fr) ∧ 3 ≠ t ∧ 51 ≠ t) : KpP w' B N v vs ys :=
  ⟨h.top.eff e (fun k hk f => by
    obtain ⟨cs, t, fr, h1, _, h2⟩ := hF k f
    exact h.top.ne_type h1 h2 hk), h.ow.eff9 e (fun k f => by
    obtain ⟨cs, t, fr, h1, h2, _⟩ := hF k f
    exact ⟨cs, t, fr, h1, h2⟩)⟩
theorem LbS.start (w : World) (nn : Nat → Nat) : LbS w ((w.alloc (.cells #[] 51)).alloc (.cells #[] 22)) w.heap.size 0 0 (.slice (some ⟨w.heap.size, 0, none⟩) 0 0) (.slice (some ⟨w.heap.size + 1, 0, none⟩) 0 0) nn := by
  have h1 := (KpP.empty w w.heap.size (Nat.le_refl _) (fun _ => .slice none 0 0) (fun _ => [])).below ((Below.refl (w.alloc (.cells #[] 51)).heap.size (w.alloc (.cells #[] 51))).alloc (Nat.le_refl _) (.cells #[] 22)) (Nat.le_refl _)
  have h2 := BkS.empty (w.alloc (.cells #[] 51)) w.heap.size (by simp) (fun _ => .slice none 0 0) nn (fun _ => 0)
  rw [World.size_alloc] at h2
  exact ⟨_, _, _, h1, fun k hk => absurd hk (Nat.not_lt_zero _), h2, ((Below.refl _ w).alloc (Nat.le_refl _) _).alloc (by simp) _⟩
/-- One block gathered: its lists, its row. -/
theorem LbS.step {w wr w7 w8 w9 : World} {B m N : Nat} {lv bv lv' bv' : Value} {nn : Nat → Nat} (h : LbS w wr B m N lv bv nn) (hz : B ≤ wr.heap.size) (hb : Below wr.heap.size wr w7) {c : List PostV} {A : Option Addr} {n2 C : Nat} {vs : Nat → Value} (hrow : RowP w7 wr.heap.size (.slice A n2 C) c vs) (hn : nn m = c.length) (hc : ∀ p ∈ c, p.pos.length ≤ 31000000)
    {LV : Nat → Value} {LY : Nat → List Int} {V : Nat → Value} (hk : KpP w7 B N lv LV LY) (hLY : ∀ k, k < N → (LY k).length ≤ 31000000) (hlt : ∀ k b, k < N → (LV k).ownBlock = some b → b < wr.heap.size) (hbk : BkS w7 B m bv V nn (fun _ => 0)) (hlt2 : ∀ q b, q < m → (V q).ownBlock = some b → b < wr.heap.size) (hbel : Below B w w7)
    (h1 : Own w8 B 51 lv' ((List.range N).map LV ++ (List.range c.length).map vs)) (hg : w7.grownBy w8 lv.ownBlock)
    (h2 : Own w9 B 22 bv' ((List.range m).map V ++ [.slice A n2 C])) (hg2 : w8.grownBy w9 bv.ownBlock) : LbS w w9 B (m + 1) (N + c.length) lv' bv' nn := by
  have hb7 := hb.size
  have e78 : Eff (fun q => lv.ownBlock = some q) w7 w8 := (Eff.refl _ w7).grown hg (fun q hq _ => hq)
  have e89 : Eff (fun q => bv.ownBlock = some q) w8 w9 := (Eff.refl _ w8).grown hg2 (fun q hq _ => hq)
  have hkp := hk.pushN (hrow.mono hz).lists (fun k l b hk' hl' hb1 hb2 => by
    have g1 := hlt k b hk' hb1
    have g2 := ((hrow.own l hl').lt b hb2).1
    omega) h1 hg
  have hbk8 := hbk.eff e78 (fun k hk' => by
    obtain ⟨cs, fr, h9⟩ := own_typed9 hk.top hk'
    exact ⟨cs, _, fr, h9, by decide, by decide⟩)
  have hrow8 := row_eff (hrow.mono hz).row e78 (fun q hq f => row_ne_own (hrow.mono hz).row hk.top (by decide) hq f)
  have hkp9 := hkp.eff e89 (fun k hk' => by
    obtain ⟨cs, fr, h9⟩ := own_typed9 hbk8.top hk'
    exact ⟨cs, _, fr, h9, by decide, by decide⟩)
  have hbk9 := hbk8.push hrow8 hn (fun q b hq hb1 hb2 => by
    have g1 := hlt2 q b hq hb1
    have g2 := (World.ownsRow.lt hrow.row b hb2).1
    omega) h2 hg2
  refine ⟨_, _, _, hkp9, fun k hk' => ?_, hbk9, (hbel.grown hg (by omega) (fun q hq => (hk.top.lt q hq).1)).grown hg2 (by have := e78.size; omega) (fun q hq => (hbk8.top.lt q hq).1)⟩
  by_cases e : k < N
  · simp only [if_pos e]; exact hLY k e
  · simp only [if_neg e]
    have hkc : k - N < c.length := by omega
    rw [getD_at c pz hkc]
    exact hc _ (List.getElem_mem hkc)
def limA (n : Nat → Nat) (i q : Nat) : Nat := if q < i then n q else 0
def limB (n : Nat → Nat) (i j q : Nat) : Nat := if q < i then n q else if q = i then j else 0
def nA9 (n : Nat → Nat) (i q : Nat) : Nat := if q < i then n q + 1 else n q
theorem BkS.enter {wr : World} {B m i : Nat} {bv : Value} {V : Nat → Value} {n : Nat → Nat} (h : BkS wr B m bv V n (limA n i)) : BkS wr B m bv V n (limB n i 0) :=
  h.lims (fun q hq => by unfold limA limB; split; exact Nat.le_refl _; split <;> exact Nat.le_refl _)
theorem BkS.leave {wr : World} {B m i : Nat} {bv : Value} {V : Nat → Value} {n : Nat → Nat} (h : BkS wr B m bv V n (limB n i (n i))) : BkS wr B m bv V n (limA n (i + 1)) :=
  h.lims (fun q hq => by
    unfold limA limB
    by_cases e : q < i
    · rw [if_pos e, if_pos (by omega)]; exact Nat.le_refl _
    · by_cases e2 : q = i
      · subst e2; rw [if_pos (by omega), if_neg e, if_pos rfl]; exact Nat.le_refl _
      · rw [if_neg (by omega)]; exact Nat.zero_le _)
theorem BkS.doc {wr : World} {B m i j g k c : Nat} {bv : Value} {V : Nat → Value} {n : Nat → Nat} (h : BkS wr B m bv V n (limB n i j)) (hi : i < m) (hv : V i = .slice (some ⟨g, 0, none⟩) k c) (hj : j < n i) : BkS (wr.setCell ⟨g, j * 2, none⟩ (.int .i64 (-(i : Int) - 1))) B m bv V n (limB n i (j + 1)) := by
  have hli : limB n i j i = j := by unfold limB; rw [if_neg (by omega), if_pos rfl]
  have h9 := h.set hi hv (by rw [hli]; exact hj)
  rw [hli, show 2 * j = j * 2 by omega] at h9
  refine h9.lims (fun q hq => ?_)
  show limB n i (j + 1) q ≤ (if q = i then j + 1 else limB n i j q)
  unfold limB
  by_cases e : q = i
  · subst e; rw [if_pos rfl, if_neg (by omega), if_pos rfl]; exact Nat.le_refl _
  · rw [if_neg e, if_neg e, if_neg e]; exact Nat.le_refl _
theorem nA_step (n : Nat → Nat) (i : Nat) : (fun q => if q = i then nA9 n i i + 1 else nA9 n i q) = nA9 n (i + 1) := by
  funext q
  unfold nA9
  by_cases e : q = i
  · subst e; rw [if_pos rfl, if_neg (by omega), if_pos (by omega)]
  · rw [if_neg e]
    by_cases e2 : q < i
    · rw [if_pos e2, if_pos (by omega)]
    · rw [if_neg e2, if_neg (by omega)]
set_option maxRecDepth 100000 in
set_option maxHeartbeats 16000000 in
theorem opened_any (w : World) (a : Option Addr) (nb cb : Nat) (al : Option Addr) (cl : Nat) (ps : List PostV) (hr : Rd w (.slice a nb cb) (bytesV (imageV ps))) (hL : RdPost w al ps.length ps) (ok : okV (-1) ps) (hf : FitP ps) (hl : ps.length ≤ 1048576) (hT : totalV ps ≤ 1048576) (EA : Nat → Addr) (hS : Sent6 w EA) :
    Calls Tryd.prog 29 #[.slice a nb cb, .slice al ps.length cl] w fun e w' => e = .returned (.bool true) ∧ Below w.heap.size w w' := by
  have him := image_le31 hf ok hl hT
  have hop := openV_of ok hf (by omega) (by omega)
  have hblk := blkOk hop (by omega)
  obtain ⟨q1, q2, q3, q4⟩ := chp_flat _ ps (Nat.le_refl _)
  have hpos := nnC_pos ps
  have hat := nnC_at ps
  have C1 := spare_any w a nb cb (imageV ps) hr (by omega)
  have hnb : nb = (imageV ps).length := (rd_bytes hr).1
  subst hnb
  obtain ⟨S, hSe⟩ : ∃ S, skV (-1) (headL ps) (chp ps) = S := ⟨_, rfl⟩
  have hSl : S.length = (chp ps).length := by rw [← hSe]; exact skV_len _ _ _
  rw [hSe] at hop hblk
  have hcl : ∀ (k : Nat) (h : k < (chp ps).length), ∀ p ∈ (chp ps)[k], p.pos.length ≤ 31000000 := fun k h p hp => by
    have hm : p ∈ ps := by rw [← q1]; exact List.mem_flatten.2 ⟨_, List.getElem_mem h, hp⟩
    exact (hf p hm).2.2
  obtain ⟨IM, hIM⟩ : ∃ IM, imageV ps = IM := ⟨_, rfl⟩
  have CS := fun (X : World) (A : Option Addr) (C : Nat) (h : RdPost X A ps.length ps) (hL : RdPost X al ps.length ps) => same8_any X A al ps.length ps.length C cl ps h hL (by omega) (fun p hp => by have := (hf p hp).2.2; omega)
  have HC1 := Lib.hid C1
  have HCS := Lib.hid CS
  have HOP := Lib.hid hop
  have HBK := Lib.hid hblk
  have HPOS := Lib.hid hpos
  have HAT := Lib.hid hat
  have HCL := Lib.hid hcl
  have HFL := Lib.hid q1
  have HQ3 := Lib.hid q3
  have hnl : (chp ps).length ≤ 70000 := by omega
  have HLW := Lib.hid (show ∀ X, Below w.heap.size w X → RdPost X al ps.length ps from fun X h => hL.below h (Nat.le_refl _))
  have HRW := Lib.hid (show ∀ X, Below w.heap.size w X → Rd X (.slice a (imageV ps).length cb) (bytesV (imageV ps)) from fun X h => hr.below h (Nat.le_refl _))
  have HSW := Lib.hid (show ∀ X, Below w.heap.size w X → Sent6 X EA from fun X h => hS.below h)
  rw [hIM] at him HC1 HRW HOP HBK
  rw [hIM]
  obtain ⟨T0, hT0⟩ : ∃ T0, totalV ps = T0 := ⟨_, rfl⟩
  rw [hT0] at HOP
  obtain ⟨NB, hNB⟩ : ∃ NB, (chp ps).length = NB := ⟨_, rfl⟩
  rw [hNB] at hSl hnl
  have HNB := Lib.hid hNB
  clear hr hL ok hf C1 CS hS hIM hop hblk hpos hat hcl q1 q2 q3 q4 hSe hT0 hNB
  go_enter Tryd.func29, Tryd.ntmps29
  go_wp2_with fail
  with_reducible refine HC1.out.mono ?_
  rintro e w1 ⟨A1, C1, rfl, ho1, hb1⟩
  have hoA := rd_takeB ho1 IM.length (by rw [List.length_append]; omega)
  rw [List.take_left] at hoA
  have HOF := Lib.hid ho1
  have HOA := Lib.hid hoA
  have HB1 := Lib.hid hb1
  clear ho1 hoA hb1 HC1
  have Q2 := open_any w1 A1 IM.length C1 IM HOA.out.rd (by omega) EA (HSW.out _ HB1.out)
  go_wp2_with fail
  with_reducible refine Q2.mono ?_
  rintro e w2 ⟨h1, -, hb2⟩
  obtain ⟨p, im, sv, rfl, hls⟩ := h1 _ HOP.out
  obtain ⟨sa, sc, rfl⟩ := hls.sk.sl
  have HB2 := Lib.hid (HB1.out.trans (hb2.mono HB1.out.size))
  have HOA2 := Lib.hid (HOA.out.below hb2 (Nat.le_refl _))
  have HOF2 := Lib.hid (HOF.out.below hb2 (Nat.le_refl _))
  have HLS := Lib.hid (show ListAt w2 w1.heap.size p im (.slice sa S.length sc) IM ps.length T0 S from hls)
  have HLO := Lib.hid (show ∀ k, (Value.slice A1 IM.length C1).ownBlock = some k → w.heap.size ≤ k ∧ k < w1.heap.size from HOA.out.lt)
  clear Q2 h1 hls hb2 HOA HOF HOP
  have S3 := kept_any w2 A1 (IM.length + 80) C1 a IM.length cb IM HOF2.out.rd (HRW.out _ HB2.out) (by omega)
  have HS3 := Lib.hid S3
  clear S3
  go_wp2_with fail
  with_reducible refine HS3.out.mono ?_
  rintro e w3 ⟨rfl, d3, rfl⟩
  have hbd := below_drewN (Below.refl w2.heap.size w2) d3
  have HB3 := Lib.hid (HB2.out.trans (hbd.mono HB2.out.size))
  have hoa3 := HOA2.out.below hbd (Nat.le_refl _)
  have hls3 := HLS.out.below hbd (Nat.le_refl _)
  clear hbd HS3 HOF2 HOA2 HLS HB2
  generalize w2.drewN d3 = w3 at HB3 hoa3 hls3 ⊢
  have hbA := (Below.refl w3.heap.size w3).alloc (Nat.le_refl _) (.cells #[.slice A1 IM.length C1] 24)
  have hone := own_one w3 w3.heap.size 24 (.slice A1 IM.length C1) (Nat.le_refl _)
  have how : OwnL (w3.alloc (.cells #[.slice A1 IM.length C1] 24)) w.heap.size 1 (fun _ => .slice A1 IM.length C1) (fun _ => IM) := ⟨fun k hk => hoa3.below hbA (Nat.le_refl _), fun k l b hk hl hkl => by omega⟩
  have Q4 := own_any (w3.alloc (.cells #[.slice A1 IM.length C1] 24)) w.heap.size _ 1 1 1 (fun _ => .slice A1 IM.length C1) (fun _ => IM) (by exact hone.rd) how (Nat.le_trans HB3.out.size hbA.size) (by omega) (fun k => by omega) (fun b o e ⟨k, hk, hb⟩ => by
    have e8 : (Value.slice (some ⟨w3.heap.size, 0, none⟩) 1 1).ownBlock = some b := by
      injection e with e
      injection e with e1 _ _
      rw [← e1]; rfl
    have h1 : w3.heap.size = b := by simpa [Value.ownBlock] using e8
    have h2 := (HLO.out b hb).2
    have h3 := hls3.hp
    have h4 := lt_of_heap hls3.blk
    omega)
  have HQ4 := Lib.hid Q4
  have HLS3 := Lib.hid (hls3.below hbA (Nat.le_refl _))
  have HBA := Lib.hid (HB3.out.trans (hbA.mono HB3.out.size))
  clear hbA hone how Q4 hoa3 hls3 HB3
  go_wp2_with fail
  with_reducible refine HQ4.out.mono ?_
  rintro e w4 ⟨rfl, e4⟩
  have hls4 := HLS3.out.apart e4 (fun k ⟨_, _, hb⟩ => (HLO.out k hb).2)
  have hb4 := HBA.out.trans (e4.below (fun q ⟨_, _, hb⟩ => (HLO.out q hb).1) HBA.out.size)
  have HLS4 := Lib.hid (show ∀ X, Below w4.heap.size w4 X → ListAt X w1.heap.size p im (.slice sa S.length sc) IM ps.length T0 S from fun X h => hls4.below h (Nat.le_refl _))
  have HB4 := Lib.hid hb4
  have hz4 : w.heap.size ≤ w4.heap.size := hb4.size
  clear e4 hls4 hb4 HQ4 HLS3 HBA HLO
  have HLB0 := Lib.hid (LbS.start w4 (nnC ps))
  obtain ⟨B, hBe⟩ : ∃ B, w4.heap.size = B := ⟨_, rfl⟩
  rw [hBe] at HLB0
  have HBE := Lib.hid hBe
  go_wp2
  clear hBe
  go_loopw [9, 10, 11, 12, 13] (fun s9 s10 s11 s12 s13 wr => ∃ (T N : Nat) (A9 A10 : Option Addr) (C9 C10 : Nat) (t12 t13 : Value), s9 = .slice A9 N C9 ∧ s10 = .slice A10 (T * NB) C10 ∧ s11 = .int .i64 T ∧ s12 = t12 ∧ s13 = t13 ∧ T ≤ 2 ∧ N ≤ 16 * (T * NB) ∧ RowKit.Hid (LbS w4 wr B (T * NB) N (.slice A9 N C9) (.slice A10 (T * NB) C10) (nnC ps))) (fun _ _ s11 _ _ _ => 2 - (intOf s11).toNat)
  case atStart =>
    refine ⟨0, 0, some ⟨B, 0, none⟩, some ⟨B + 1, 0, none⟩, 0, 0, _, _, rfl, ?_, rfl, rfl, rfl, by omega, Nat.zero_le _, ?_⟩
    · rw [Nat.zero_mul]
    · rw [Nat.zero_mul]
      exact HLB0
  case round =>
    clear HLB0
    obtain ⟨T, N, A9, A10, C9, C10, t12, t13, rfl, rfl, rfl, rfl, rfl, hT, hN, HLB⟩ := hrel
    by_cases hlt : T < 2
    · as_aux_lemma =>
      have i1 : (T : Int) < 2 := by omega
      have hTN : T * NB ≤ 70000 := by
        have := Nat.mul_le_mul (show T ≤ 1 by omega) hnl
        omega
      obtain ⟨M0, hM0⟩ : ∃ M0, T * NB = M0 := ⟨_, rfl⟩
      have HM0 := Lib.hid hM0
      rw [hM0] at hTN hN HLB ⊢
      clear hM0
      obtain ⟨wo, rfl⟩ : ∃ wo : World, wo = wr := ⟨_, rfl⟩
      go_wp2
      go_loopw [9, 10, 12, 13] (fun s9 s10 s12 s13 wr => ∃ (k N : Nat) (A9 A10 : Option Addr) (C9 C10 : Nat) (t13 : Value), s9 = .slice A9 N C9 ∧ s10 = .slice A10 (M0 + k) C10 ∧ s12 = .int .i64 k ∧ s13 = t13 ∧ k ≤ NB ∧ N ≤ 16 * (M0 + k) ∧ RowKit.Hid (LbS w4 wr B (M0 + k) N (.slice A9 N C9) (.slice A10 (M0 + k) C10) (nnC ps))) (fun _ _ s12 _ _ => NB - (intOf s12).toNat)
      case atStart => exact ⟨0, N, A9, A10, C9, C10, _, rfl, rfl, rfl, rfl, Nat.zero_le _, hN, HLB⟩
      case round =>
        clear HLB hN
        obtain ⟨k, N, A9, A10, C9, C10, t13, rfl, rfl, rfl, rfl, hk, hN, HLB⟩ := hrel
        obtain ⟨M, hM⟩ : ∃ M, M0 + k = M := ⟨_, rfl⟩
        have hMb : M ≤ 140000 := by omega
        have HM := Lib.hid hM
        rw [hM] at hN HLB ⊢
        clear hM
        obtain ⟨LV, LY, V, hkp, hly, hbk, hbel⟩ := HLB.out
        have hwB : B ≤ wr.heap.size := by rw [← HBE.out]; exact hbel.size
        have hbel4 : Below w4.heap.size w4 wr := by rw [HBE.out]; exact hbel
        have hls := HLS4.out wr hbel4
        have Q5 := blocks_any wr w1.heap.size p im (.slice sa S.length sc) IM ps.length T0 S hls
        rw [hSl] at Q5
        have HQ5 := Lib.hid Q5
        by_cases hlt2 : k < NB
        · have i2 : (k : Int) < (NB : Int) := by omega
          have hkc : k < (chp ps).length := by rw [HNB.out]; exact hlt2
          have Q6 := block_any wr p im sa sc IM ps.length T0 S (chp ps) w1.heap.size hls HBK.out (by omega) k (by omega) hkc EA (HSW.out _ (HB4.out.trans (hbel4.mono HB4.out.size)))
          obtain ⟨c, hc⟩ : ∃ c, (chp ps)[k] = c := ⟨_, rfl⟩
          have hcp := HCL.out k hkc
          have hcn := HAT.out T k hkc
          have hc16 := HQ3.out _ (List.getElem_mem hkc)
          rw [hc] at Q6 hcp hcn hc16
          rw [HNB.out, HM0.out, HM.out] at hcn
          have HQ6 := Lib.hid Q6
          have HCP := Lib.hid hcp
          have HKP := Lib.hid hkp
          have HLY := Lib.hid hly
          have HBKS := Lib.hid hbk
          have HBEL := Lib.hid hbel
          have HCN := Lib.hid hcn
          clear hls Q5 Q6 hc hcp hkp hly hbk hbel hbel4 HLB hcn hkc
          go_wp2_with fail
          with_reducible refine HQ5.out.mono ?_
          rintro e w6 ⟨rfl, rfl⟩
          go_wp2_with fail
          with_reducible refine HQ6.out.mono ?_
          rintro e w6 ⟨Ap, Np, Cp, vs, rfl, hrow, hb6⟩
          have hnp : Np = c.length := by
            obtain ⟨_, _, e9, _⟩ := hrow.sl
            injection e9
          subst hnp
          have Q7 := positions_any w6 _ Ap c.length Cp c vs hrow (by omega)
          have HROW := Lib.hid hrow
          have HB6 := Lib.hid hb6
          clear hrow hb6 HQ5 HQ6
          go_wp2_with fail
          with_reducible refine Q7.mono ?_
          rintro e w7 ⟨P1, K1, rfl, hp1, hb7⟩
          have hb67 := HB6.out.trans (hb7.mono HB6.out.size)
          have hkp7 := HKP.out.below hb67 (Nat.le_refl _)
          have HROW7 := Lib.hid (HROW.out.below hb7 (Nat.le_refl _))
          have HKP7 := Lib.hid hkp7
          have HTOP7 := Lib.hid hkp7.top
          have HP1 := Lib.hid hp1.rd
          have HB67 := Lib.hid hb67
          have HON := Lib.hid (show ∀ u ∈ (List.range c.length).map vs, u.oneCell' = true from fun u hu => by
            obtain ⟨j, hj, rfl⟩ := List.mem_map.1 hu
            exact own_oneCell (HROW.out.own j (List.mem_range.1 hj)))
          have hl7 : ((List.range N).map LV).length + ((List.range c.length).map vs).length < 1000000000001 := by simp; omega
          have HL7 := Lib.hid hl7
          have hwB7 : B ≤ w7.heap.size := Nat.le_trans hwB hb67.size
          clear Q7 hp1 hb7 hb67 hkp7 HROW HB6 hl7
          go_wp2_with (at_builtin; with_reducible refine apN elLL9 HTOP7.out HP1.out HON.out HL7.out hwB7 rfl _ _ rfl rfl rfl ?_)
          intro v8 w8 g1 g2 g3 g4
          obtain ⟨A8, C8, hv8⟩ := own_slice g1
          rw [List.length_append, List.length_map, List.length_range, List.length_map, List.length_range] at hv8
          subst hv8
          have e78 : Eff (fun q => (Value.slice A9 N C9).ownBlock = some q) w7 w8 := (Eff.refl _ w7).grown g4 (fun q hq _ => hq)
          have hbk7 := HBKS.out.below HB67.out (Nat.le_refl _)
          have hbk8 := hbk7.eff e78 (fun k hk' => by
            obtain ⟨cs, fr, h9⟩ := own_typed9 HTOP7.out hk'
            exact ⟨cs, _, fr, h9, by decide, by decide⟩)
          have hwB8 : B ≤ w8.heap.size := Nat.le_trans hwB7 e78.size
          have HG1 := Lib.hid g1
          have HG4 := Lib.hid g4
          have HBK7 := Lib.hid hbk7
          have HTOP8 := Lib.hid hbk8.top
          have hl8 : ((List.range M).map V).length < 1000000000000 := by simp; omega
          have HL8 := Lib.hid hl8
          clear g1 g2 g3 g4 e78 hbk7 hbk8 hl8 HTOP7 HP1 HON HL7 hwB7
          go_wp2_with (at_builtin; with_reducible refine ap1' elBk9 rfl HTOP8.out HL8.out hwB8 rfl _ _ rfl rfl rfl ?_)
          intro v9 w9 g1 g2 g3 g4
          obtain ⟨A9', C9', hv9⟩ := own_slice g1
          rw [List.length_append, List.length_map, List.length_range, List.length_singleton] at hv9
          subst hv9
          have hlb : LbS w4 w9 B (M + 1) (N + c.length) (.slice A8 (N + c.length) C8) (.slice A9' (M + 1) C9') (nnC ps) :=
            LbS.step ⟨LV, LY, V, HKP.out, HLY.out, HBKS.out, HBEL.out⟩ hwB HB67.out HROW7.out HCN.out HCP.out HKP7.out HLY.out (fun k b hk hb => ((HKP.out.ow.own k hk).lt b hb).2) HBK7.out (fun q b hq hb => by
              obtain ⟨xs, h1, _⟩ := HBKS.out.row q hq
              exact (World.ownsRow.lt h1 b hb).2) (HBEL.out.trans (HB67.out.mono hwB)) HG1.out HG4.out g1 g4
          obtain ⟨NN, hNN⟩ : ∃ NN, N + c.length = NN := ⟨_, rfl⟩
          have hNNb : NN ≤ 16 * (M + 1) := by omega
          have hM1 : M0 + (k + 1) = M + 1 := by have := HM.out; omega
          rw [hNN] at hlb ⊢
          have HFIN := Lib.hid hlb
          have HM1 := Lib.hid hM1
          clear g1 g2 g3 g4 hlb hNN HKP HLY HBKS HBEL HCN HCP HROW7 HKP7 HB67 HG1 HG4 HBK7 HTOP8 HL8 hwB8 hc16 hM1
          go_wp2
          go_roundw
          case rel => exact ⟨k + 1, NN, A8, A9', C8, C9', _, rfl, by rw [HM1.out], by go_num, rfl, by omega, by rw [HM1.out]; exact hNNb, by rw [HM1.out]; exact HFIN⟩
          case measure => simp [intOf]; omega
        · obtain rfl : k = NB := by omega
          have i2 : ¬ ((k : Int) < (k : Int)) := by omega
          have hTM : (T + 1) * k = M := by have h1 := HM.out; have h2 := HM0.out; rw [Nat.add_mul, Nat.one_mul]; omega
          have HTM := Lib.hid hTM
          clear hls Q5 hkp hly hbk hbel hbel4 hTM
          go_wp2_with fail
          with_reducible refine HQ5.out.mono ?_
          rintro e w6 ⟨rfl, rfl⟩
          clear HQ5
          go_wp2
          go_roundw
          case rel => exact ⟨T + 1, N, A9, A10, C9, C10, _, _, rfl, by rw [HTM.out], by go_num, rfl, rfl, by omega, by rw [HTM.out]; exact hN, by rw [HTM.out]; exact HLB⟩
          case measure => simp [intOf]; omega
    · obtain rfl : T = 2 := by omega
      have i1 : ¬ (((2 : Nat) : Int) < 2) := by omega
      obtain ⟨M, hM⟩ : ∃ M, 2 * NB = M := ⟨_, rfl⟩
      have hMb : M ≤ 140000 := by omega
      have HM := Lib.hid hM
      rw [hM] at hN HLB ⊢
      clear hM
      obtain ⟨LV, LY, V, hkp, hly, hbk, hbel⟩ := HLB.out
      have hwB : B ≤ wr.heap.size := by rw [← HBE.out]; exact hbel.size
      have hap : ∀ b o, A9 = some ⟨b, o, none⟩ → ¬ FvI N LV b := fun b o e9 ⟨k, hk, hb⟩ => by
        have e8 : (Value.slice A9 N C9).ownBlock = some b := by rw [e9]; rfl
        exact own_types (hkp.ow.own k hk) hkp.top (by decide) hb e8
      have Q5 := owni_any wr B A9 N C9 N LV _ hkp.top.rd hkp.ow.cut9 hwB (by omega) (fun k => by
        by_cases e : k < N
        · simp only [if_pos e]; exact Nat.le_trans (hly k e) (by decide)
        · simp only [if_neg e]; exact Nat.zero_le _) hap
      have HQ5 := Lib.hid Q5
      have HKP := Lib.hid hkp
      have HBKS := Lib.hid hbk
      have HBEL := Lib.hid hbel
      clear Q5 hkp hly hbk hbel hap HLB
      go_wp2_with fail
      with_reducible refine HQ5.out.mono ?_
      rintro e w5 ⟨rfl, e5⟩
      have hbk5 := (HBKS.out.eff e5 (fun k ⟨q, hq, hb⟩ => by
        obtain ⟨cs, fr, h9⟩ := own_typed9 (HKP.out.ow.own q hq) hb
        exact ⟨cs, _, fr, h9, by decide, by decide⟩)).lims (lim' := limA (nnC ps) 0) (fun q hq => by unfold limA; rw [if_neg (by omega)]; exact Nat.zero_le _)
      have hbel5 := HBEL.out.trans (e5.below (fun q ⟨k, hk, hb⟩ => ((HKP.out.ow.own k hk).lt q hb).1) hwB)
      have HBK5 := Lib.hid hbk5
      have HBEL5 := Lib.hid hbel5
      have HNN := Lib.hid (show ∀ q, q < M → 1 ≤ nnC ps q ∧ nnC ps q ≤ 16 from fun q hq => HPOS.out q (by have := HNB.out; have := HM.out; omega))
      clear e5 hbk5 hbel5 HQ5 HKP HBKS HBEL hwB
      go_wp2
      go_loopw [14, 15, 16, 79] (fun s14 s15 s16 s79 wr => ∃ (i : Nat) (t14 t15 t16 : Value), s14 = t14 ∧ s15 = t15 ∧ s16 = t16 ∧ s79 = .int .i64 i ∧ i ≤ M ∧ RowKit.Hid (BkS wr B M (.slice A10 M C10) V (nnC ps) (limA (nnC ps) i)) ∧ RowKit.Hid (Below B w4 wr)) (fun _ _ _ s79 _ => M - (intOf s79).toNat)
      case atStart => exact ⟨0, _, _, _, rfl, rfl, rfl, rfl, Nat.zero_le _, HBK5, HBEL5⟩
      case round =>
        clear HBK5 HBEL5
        obtain ⟨i, t14, t15, t16, rfl, rfl, rfl, rfl, hi, HBKi, HBL⟩ := hrel
        by_cases hlt : i < M
        · have hnn := HNN.out i hlt
          obtain ⟨Ai, Ci, hVi, _⟩ := HBKi.out.at_ hlt
          have htop := HBKi.out.top
          obtain ⟨gt, hgt⟩ := htop.someAt (by omega)
          subst hgt
          have c0 := htop.get (show ((List.range M).map V)[i]? = some (V i) by simp [hlt])
          rw [hVi] at c0
          obtain ⟨nn, hnne⟩ : ∃ nn, nnC ps i = nn := ⟨_, rfl⟩
          rw [hnne] at hVi c0 hnn
          have HVI := Lib.hid hVi
          have HNI := Lib.hid hnne
          have i2 : (i : Int) < (M : Int) := by omega
          have HBK0 := Lib.hid HBKi.out.enter
          clear htop hVi hnne HBKi
          obtain ⟨wo, rfl⟩ : ∃ wo : World, wo = wr := ⟨_, rfl⟩
          go_wp2
          clear c0
          go_loopw [16, 86] (fun s16 s86 wr => ∃ (j : Nat) (t16 : Value), s16 = t16 ∧ s86 = .int .i64 j ∧ j ≤ nn ∧ RowKit.Hid (BkS wr B M (.slice (some ⟨gt, 0, none⟩) M C10) V (nnC ps) (limB (nnC ps) i j)) ∧ RowKit.Hid (Below B w4 wr)) (fun _ s86 _ => nn - (intOf s86).toNat)
          case atStart => exact ⟨0, _, rfl, rfl, Nat.zero_le _, HBK0, HBL⟩
          case round =>
            clear HBK0 HBL
            obtain ⟨j, t16, rfl, rfl, hj, HBKj, HBL⟩ := hrel
            by_cases hlt2 : j < nn
            · have hA : ∃ g, Ai = some ⟨g, 0, none⟩ ∧ B ≤ g ∧ wr.frozen? ⟨g, j * 2, none⟩ = false ∧ ∃ u, wr.cell? ⟨g, j * 2, none⟩ = some u := by
                obtain ⟨a, c, e, hg⟩ := HBKj.out.at_ hlt
                rw [HVI.out] at e
                injection e with e1 _ _
                obtain ⟨g, h1, h2, h3, _⟩ := hg (by rw [HNI.out]; omega)
                obtain ⟨xs, h4, _⟩ := HBKj.out.row i hlt
                have h5 := h3 j (by rw [HNI.out]; exact hlt2)
                rw [show 2 * j = j * 2 by omega] at h5
                exact ⟨g, e1.trans h1, (World.ownsRow.lt h4 g (by rw [HVI.out, e1, h1]; rfl)).1, h2 _, h5⟩
              obtain ⟨g, rfl, hgB, f0, u, c0⟩ := hA
              have j1 : (j : Int) < (nn : Int) := by omega
              have s1 : IntKind.i64.wrap (-(i : Int)) = -(i : Int) := by rw [IntKind.wrap_i64]; omega
              have s2 : IntKind.i64.wrap (-(i : Int) - 1) = -(i : Int) - 1 := by rw [IntKind.wrap_i64]; omega
              have hst := HBKj.out.doc hlt HVI.out (by rw [HNI.out]; exact hlt2)
              have hbl := HBL.out.trans ((Eff.setCell (F := fun k => k = g) (Eff.refl _ wr) (p := ⟨g, j * 2, none⟩) (fun _ => rfl) (.int .i64 (-(i : Int) - 1))).below (fun q hq => by have hq : q = g := hq; omega) (by rw [← HBE.out]; exact HBL.out.size))
              have HST := Lib.hid hst
              have HB2 := Lib.hid hbl
              clear hst hbl HBKj HBL hgB
              go_wp2
              go_roundw
              case rel => exact ⟨j + 1, _, rfl, by go_num, by omega, HST, HB2⟩
              case measure => simp [intOf]; omega
            · obtain rfl : j = nn := by omega
              have j1 : ¬ ((j : Int) < (j : Int)) := by omega
              have hlv := HBKj.out
              rw [← HNI.out] at hlv
              have HLV := Lib.hid hlv.leave
              clear hlv HBKj
              go_wp2
              go_roundw
              case rel => exact ⟨i + 1, _, _, _, rfl, rfl, rfl, by go_num, by omega, HLV, HBL⟩
              case measure => simp [intOf]; omega
        · obtain rfl : M = i := by omega
          have i2 : ¬ ((M : Int) < (M : Int)) := by omega
          have e0 : nA9 (nnC ps) 0 = nnC ps := by funext q; unfold nA9; rw [if_neg (by omega)]
          have hb0 : BkS wr B M (.slice A10 M C10) V (nA9 (nnC ps) 0) (nA9 (nnC ps) 0) := by
            rw [e0]
            exact HBKi.out.lims (fun q hq => by unfold limA; rw [if_pos hq]; exact Nat.le_refl _)
          have HB0 := Lib.hid (show ∃ V, BkS wr B M (.slice A10 M C10) V (nA9 (nnC ps) 0) (nA9 (nnC ps) 0) from ⟨V, hb0⟩)
          clear e0 hb0 HBKi
          go_wp2
          go_loopw [17, 100] (fun s17 s100 wr => ∃ (i : Nat) (t17 : Value), s17 = t17 ∧ s100 = .int .i64 i ∧ i ≤ M ∧ RowKit.Hid (∃ V, BkS wr B M (.slice A10 M C10) V (nA9 (nnC ps) i) (nA9 (nnC ps) i)) ∧ RowKit.Hid (Below B w4 wr)) (fun _ s100 _ => M - (intOf s100).toNat)
          case atStart => exact ⟨0, _, rfl, rfl, Nat.zero_le _, HB0, HBL⟩
          case round =>
            clear HB0 HBL
            obtain ⟨i, t17, rfl, rfl, hi, HBKi, HBL⟩ := hrel
            obtain ⟨V, hbk⟩ := HBKi.out
            by_cases hlt : i < M
            · as_aux_lemma =>
              have hnn := HNN.out i hlt
              have hni : nA9 (nnC ps) i i = nnC ps i := by unfold nA9; rw [if_neg (by omega)]
              obtain ⟨Ai, Ci, hVi, hg⟩ := hbk.at_ hlt
              obtain ⟨g, hAg, hfz, _, _⟩ := hg (by omega)
              subst hAg
              have hwB : B ≤ wr.heap.size := by rw [← HBE.out]; exact HBL.out.size
              have hgB : B ≤ g := by
                obtain ⟨xs, h4, _⟩ := hbk.row i hlt
                exact (World.ownsRow.lt h4 g (by rw [hVi]; rfl)).1
              have htop := hbk.top
              obtain ⟨gt, hgt⟩ := htop.someAt (by omega)
              subst hgt
              have hgtB : B ≤ gt := (htop.lt gt rfl).1
              have c0 := htop.get (show ((List.range M).map V)[i]? = some (V i) by simp [hlt])
              rw [hVi] at c0
              have i3 : (i : Int) < (M : Int) := by omega
              have s1 : IntKind.i64.wrap (-(i : Int)) = -(i : Int) := by rw [IntKind.wrap_i64]; omega
              have s2 : IntKind.i64.wrap (-(i : Int) - 1) = -(i : Int) - 1 := by rw [IntKind.wrap_i64]; omega
              obtain ⟨nn, hnne⟩ : ∃ nn, nA9 (nnC ps) i i = nn := ⟨_, rfl⟩
              have hVi2 := hVi
              rw [hnne] at c0 hVi2 hni
              have HBKK := Lib.hid hbk
              have HVI := Lib.hid hVi2
              have HNE := Lib.hid hnne
              have hnl9 : nA9 (nnC ps) i i ≤ 1000000000 := by rw [hnne]; omega
              have HNL := Lib.hid hnl9
              have HGG := Lib.hid (And.intro hgB hgtB)
              clear hfz htop hVi hVi2 hg hbk HBKi hnne hnl9 hgB hgtB hnn hni
              go_wp2_with (at_builtin; with_reducible refine apBk HBKK.out hlt HVI.out rfl HNL.out hwB rfl _ _ rfl rfl rfl ?_)
              intro v2 w' hv2 h1 h2 h3 h4
              obtain ⟨A2, hv2⟩ := hv2
              obtain ⟨C2, hv2⟩ := hv2
              subst hv2
              rw [nA_step, HNE.out] at h1
              rw [HVI.out] at h2
              have hbl := (HBL.out.grown h4 hwB (fun k hk => by injection hk with hk; have := HGG.out.1; omega)).trans ((Eff.setCell (F := fun k => k = gt) (Eff.refl _ w') (p := ⟨gt, i, none⟩) (fun _ => rfl) (.slice A2 (nn + 1) C2)).below (fun q hq => by have hq : q = gt := hq; have := HGG.out.2; omega) (by have := h4.size; omega))
              rw [HNE.out] at *
              have HBK2 := Lib.hid (show ∃ V, BkS (w'.setCell ⟨gt, i, none⟩ (.slice A2 (nn + 1) C2)) B M (.slice (some ⟨gt, 0, none⟩) M C10) V (nA9 (nnC ps) (i + 1)) (nA9 (nnC ps) (i + 1)) from ⟨_, h1⟩)
              have HBL2 := Lib.hid hbl
              clear h1 h4 hbl c0 HBKK HVI HNE HNL HGG HBL s1 s2
              go_wp2
              go_roundw
              case rel => exact ⟨i + 1, _, rfl, by go_num, by omega, HBK2, HBL2⟩
              case measure => simp [intOf]; omega
            · obtain rfl : M = i := by omega
              have i3 : ¬ ((M : Int) < (M : Int)) := by omega
              have HBKM := Lib.hid hbk
              clear hbk HBKi
              obtain ⟨w8, rfl⟩ : ∃ w8 : World, w8 = wr := ⟨_, rfl⟩
              go_wp2
              go_loopw [18, 19, 20, 119] (fun s18 s19 s20 s119 wr => ∃ (i : Nat) (t18 t19 t20 : Value), s18 = t18 ∧ s19 = t19 ∧ s20 = t20 ∧ s119 = .int .i64 i ∧ i ≤ M ∧ wr = w8) (fun _ _ _ s119 _ => M - (intOf s119).toNat)
              case atStart => exact ⟨0, _, _, _, rfl, rfl, rfl, rfl, Nat.zero_le _, rfl⟩
              case round =>
                obtain ⟨i, t18, t19, t20, rfl, rfl, rfl, rfl, hi, rfl⟩ := hrel
                by_cases hlt : i < M
                · obtain ⟨Ai, Ci, hVi, hg⟩ := HBKM.out.at_ hlt
                  have htop := HBKM.out.top
                  obtain ⟨gt, hgt⟩ := htop.someAt (by omega)
                  subst hgt
                  have c0 := htop.get (show ((List.range M).map V)[i]? = some (V i) by simp [hlt])
                  rw [hVi] at c0
                  obtain ⟨nn, hnne⟩ : ∃ nn, nA9 (nnC ps) M i = nn := ⟨_, rfl⟩
                  rw [hnne] at c0 hg
                  have hnb : nn ≤ 17 := by
                    have h1 := HNN.out i hlt
                    rw [← hnne]
                    unfold nA9
                    split <;> omega
                  have HG := Lib.hid hg
                  have i4 : (i : Int) < (M : Int) := by omega
                  clear htop hVi hnne hg
                  obtain ⟨w9, rfl⟩ : ∃ w9 : World, w9 = wr := ⟨_, rfl⟩
                  go_wp2
                  clear c0
                  go_loopw [20, 126] (fun s20 s126 wr => ∃ (j : Nat) (t20 : Value), s20 = t20 ∧ s126 = .int .i64 j ∧ j ≤ nn ∧ wr = w9) (fun _ s126 _ => nn - (intOf s126).toNat)
                  case atStart => exact ⟨0, _, rfl, rfl, Nat.zero_le _, rfl⟩
                  case round =>
                    obtain ⟨j, t20, rfl, rfl, hj, rfl⟩ := hrel
                    by_cases hlt2 : j < nn
                    · obtain ⟨g, hAg, _, _, hcl⟩ := HG.out (by omega)
                      subst hAg
                      have c0 := hcl j hlt2
                      rw [show 2 * j = j * 2 by omega] at c0
                      have j1 : (j : Int) < (nn : Int) := by omega
                      have s1 : IntKind.i64.wrap (-(i : Int)) = -(i : Int) := by rw [IntKind.wrap_i64]; omega
                      have s2 : IntKind.i64.wrap (-(i : Int) - 1) = -(i : Int) - 1 := by rw [IntKind.wrap_i64]; omega
                      have t1 : ((-(i : Int) - 1) != (-(i : Int) - 1)) = false := by simp
                      clear hcl
                      go_wp2
                      go_roundw
                      case rel => exact ⟨j + 1, _, rfl, by go_num, by omega, by first | rfl | trivial⟩
                      case measure => simp [intOf]; omega
                    · obtain rfl : nn = j := by omega
                      have j1 : ¬ ((nn : Int) < (nn : Int)) := by omega
                      go_wp2
                      go_roundw
                      case rel => exact ⟨i + 1, _, _, _, rfl, rfl, rfl, by go_num, by omega, by first | rfl | trivial⟩
                      case measure => simp [intOf]; omega
                · obtain rfl : M = i := by omega
                  have i4 : ¬ ((M : Int) < (M : Int)) := by omega
                  clear HBKM
                  have hwB : B ≤ wr.heap.size := by rw [← HBE.out]; exact HBL.out.size
                  have HR0 := Lib.hid (show ∃ vs, RowP (wr.alloc (.cells #[] 53)) B (.slice (some ⟨wr.heap.size, 0, none⟩) ([] : List PostV).length 0) [] vs from ⟨_, rowP_empty wr B hwB⟩)
                  have HBL0 := Lib.hid (HBL.out.alloc hwB (.cells #[] 53))
                  clear HBL
                  go_wp2
                  go_loopw [21, 22] (fun s21 s22 wr => ∃ (k : Nat) (A : Option Addr) (C : Nat) (X : List PostV), s21 = .slice A X.length C ∧ s22 = .int .i64 k ∧ k ≤ NB ∧ RowKit.Hid (X = ((chp ps).take k).flatten) ∧ RowKit.Hid (∃ vs, RowP wr B (.slice A X.length C) X vs) ∧ RowKit.Hid (Below B w4 wr)) (fun _ s22 _ => NB - (intOf s22).toNat)
                  case atStart => exact ⟨0, _, _, [], rfl, rfl, Nat.zero_le _, Lib.hid (by rw [List.take_zero]; rfl), HR0, HBL0⟩
                  case round =>
                    clear HR0 HBL0 hwB
                    obtain ⟨k, A, C, X, rfl, rfl, hk, HX, HRX, HBL⟩ := hrel
                    have hwB : B ≤ wr.heap.size := by rw [← HBE.out]; exact HBL.out.size
                    have hbel4 : Below w4.heap.size w4 wr := by rw [HBE.out]; exact HBL.out
                    have hls := HLS4.out wr hbel4
                    have Q5 := blocks_any wr w1.heap.size p im (.slice sa S.length sc) IM ps.length T0 S hls
                    rw [hSl] at Q5
                    have HQ5 := Lib.hid Q5
                    by_cases hlt2 : k < NB
                    · have i5 : (k : Int) < (NB : Int) := by omega
                      have hkc : k < (chp ps).length := by rw [HNB.out]; exact hlt2
                      have Q6 := block_any wr p im sa sc IM ps.length T0 S (chp ps) w1.heap.size hls HBK.out (by omega) k (by omega) hkc EA (HSW.out _ (HB4.out.trans (hbel4.mono HB4.out.size)))
                      have hXl : X.length + ((chp ps)[k]).length ≤ 1000000000 := by
                        have h1 : X.length ≤ ps.length := by
                          rw [HX.out]
                          have h2 := congrArg List.length HFL.out
                          rw [← List.take_append_drop k (chp ps), List.flatten_append, List.length_append] at h2
                          omega
                        have h3 := HQ3.out _ (List.getElem_mem hkc)
                        omega
                      have hXn : X ++ (chp ps)[k] = ((chp ps).take (k + 1)).flatten := by
                        rw [List.take_succ_eq_append_getElem hkc, List.flatten_append, HX.out]
                        simp
                      obtain ⟨c, hc⟩ : ∃ c, (chp ps)[k] = c := ⟨_, rfl⟩
                      rw [hc] at Q6 hXl hXn
                      have HQ6 := Lib.hid Q6
                      have HXL := Lib.hid hXl
                      have HXN := Lib.hid hXn
                      clear hls Q5 Q6 hc hXl hXn hbel4 hkc HX
                      go_wp2_with fail
                      with_reducible refine HQ5.out.mono ?_
                      rintro e w6 ⟨rfl, rfl⟩
                      go_wp2_with fail
                      with_reducible refine HQ6.out.mono ?_
                      rintro e w6 ⟨Ap, Np, Cp, vs, rfl, hrow, hb6⟩
                      obtain ⟨vx, hrx⟩ := HRX.out
                      have hrx6 := hrx.below hb6 (Nat.le_refl _)
                      have hsep : ∀ i j b, i < X.length → j < c.length → (vx i).ownBlock = some b → (vs j).ownBlock ≠ some b := fun i j b hi hj h1 h2 => by
                        have g1 := ((hrx.own i hi).lt b h1).2
                        have g2 := ((hrow.own j hj).lt b h2).1
                        omega
                      have hwB6 : B ≤ w6.heap.size := Nat.le_trans hwB hb6.size
                      have HROW := Lib.hid hrow
                      have HRX6 := Lib.hid hrx6
                      have HSEP := Lib.hid hsep
                      have HB6 := Lib.hid (HBL.out.trans (hb6.mono hwB))
                      clear hrow hrx hrx6 hsep hb6 HQ5 HQ6 HRX HBL
                      go_wp2_with (at_builtin; with_reducible refine apPs HRX6.out HROW.out HSEP.out hwB HXL.out hwB6 rfl _ _ rfl rfl rfl ?_)
                      intro v7 w7 k1 k2
                      have hb7 := HB6.out.grown k2 hwB6 (fun q hq => (HRX6.out.lt q hq).1)
                      obtain ⟨Y, hY⟩ : ∃ Y, X ++ c = Y := ⟨_, rfl⟩
                      rw [hY] at k1
                      obtain ⟨A7, C7, hv7, _⟩ := k1.sl
                      subst hv7
                      have HY := Lib.hid (show Y = ((chp ps).take (k + 1)).flatten by rw [← hY]; exact HXN.out)
                      have HR7 := Lib.hid (show ∃ vs, RowP w7 B (.slice A7 Y.length C7) Y vs from ⟨_, k1⟩)
                      have HB7 := Lib.hid hb7
                      clear k1 k2 hb7 hY HROW HRX6 HSEP HB6 HXL HXN hwB6
                      go_wp2
                      go_roundw
                      case rel => exact ⟨k + 1, A7, C7, Y, rfl, by go_num, by omega, HY, HR7, HB7⟩
                      case measure => simp [intOf]; omega
                    · obtain rfl : NB = k := by omega
                      have i5 : ¬ ((NB : Int) < (NB : Int)) := by omega
                      have hX : X = ps := by rw [HX.out, ← HNB.out, List.take_length]; exact HFL.out
                      subst hX
                      obtain ⟨vx, hrx⟩ := HRX.out
                      have hbw := HB4.out.trans (hbel4.mono HB4.out.size)
                      have S9 := HCS.out wr A C hrx.rd (HLW.out _ hbw)
                      have HS9 := Lib.hid S9
                      have HBW := Lib.hid hbw
                      clear hls Q5 hrx S9 hbw hbel4 HRX HX
                      go_wp2_with fail
                      with_reducible refine HQ5.out.mono ?_
                      rintro e w6 ⟨rfl, rfl⟩
                      go_wp2_with fail
                      with_reducible refine HS9.out.mono ?_
                      rintro e w7 ⟨rfl, d7, rfl⟩
                      have HB9 := Lib.hid (below_drewN HBW.out d7)
                      go_wp2
                      go_ret
                      exact ⟨rfl, HB9.out⟩
end Go.Proofs.YthnpbfadblcicaaDoor

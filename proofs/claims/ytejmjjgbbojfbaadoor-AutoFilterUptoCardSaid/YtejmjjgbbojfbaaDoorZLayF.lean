/- auto: lay. -/
import Derived.Test.YtejmjjgbbojfbaaDoorZG30
import Derived.Deep.RegionHeld3
namespace Go.Proofs.YtejmjjgbbojfbaaDoor
set_option linter.unusedVariables false
open Go.ChangeShapes Go.WideShapes Go.ChangeAt Go.RowKit

/-- What lay answers. -/
def LayPost (w : World) (M : Mach) (most : Int) (e : Ending) (w' : World) : Prop :=
  (∃ g nv av N, e = .returned (.tuple #[.pointer (some ⟨g, 0, none⟩), .bool true]) ∧ GraphAt w' w.heap.size g nv av (layT M N) ∧ LyW M N ∧ (N : Int) ≤ most ∧ Below w.heap.size w w') ∨
  (e = .returned (.tuple #[.pointer none, .bool false]) ∧ (most < 1 ∨ ∃ m p : Nat, (m : Int) = most ∧ LyNo M m p) ∧ Below w.heap.size w w')
theorem LayPost.low {w w' : World} {M : Mach} {most : Int} (h : most < 1) (hb : Below w.heap.size w w') : LayPost w M most (.returned (.tuple #[.pointer none, .bool false])) w' := .inr ⟨rfl, .inl h, hb⟩
theorem LayPost.no {w w' : World} {M : Mach} {m p : Nat} (h : LyNo M m p) (hb : Below w.heap.size w w') : LayPost w M (m : Nat) (.returned (.tuple #[.pointer none, .bool false])) w' := .inr ⟨rfl, .inr ⟨m, p, rfl, h⟩, hb⟩
theorem LayPost.yes {w w' : World} {M : Mach} {m N g : Nat} {nv av : Value} (h : LyW M N) (hN : N ≤ m) (hg : GraphAt w' w.heap.size g nv av (layT M N)) (hb : Below w.heap.size w w') : LayPost w M (m : Nat) (.returned (.tuple #[.pointer (some ⟨g, 0, none⟩), .bool true])) w' := .inl ⟨g, nv, av, N, rfl, hg, h, by omega, hb⟩
theorem int_zero (w : World) : (zeroValue 3).run Tryd.prog w = .ok (.int .i64 0) w := by kernel_rfl
theorem mp_upd {w : World} {b n m : Nat} {f : ByteArray → Option Nat} (h : StrMap w b n m f) (hn : n < 1000000000) (s : ByteArray) (hs : s.size ≤ maxLen) (hno : f s = none) (v : Nat) (hv : v < m) (hvb : v ≤ 1000000000) (t : TypeId) (ht : Tryd.prog.underlying t = some (.map 9 3)) :
    ∃ w', (Instr.mapUpdate t (.map (some b)) (.string s) (.int .i64 (v : Nat))).run Tryd.prog w = .ok () w' ∧ StrMap w' b (n + 1) m (fun u => if u = s then some v else f u) ∧ w.grownBy w' (some b) := by
  obtain ⟨D, k, h1, h2, h3, h4, h5⟩ := h
  obtain ⟨w', hrun, g1, g2⟩ := h1.update (d := .lit (.int .i64 (v : Nat))) (ps := []) (val := .int .i64 (v : Nat)) strK ht (by unfold maxLen; omega) (strKey hs) (plainElem_int Tryd.underlying3 (WalkArith.wf_i64 (by omega)))
  refine ⟨w', hrun, ⟨_, k + 1, g1, by omega, ?_, fun u => ?_, fun u y hu => ?_⟩, g2⟩
  · rw [Maps.size_put (h1.tidy strK), h4 s, hno, h3]; rfl
  · show Maps.has _ _ = (if u = s then some v else f u).isSome
    by_cases e : u = s
    · subst e
      rw [if_pos rfl, Maps.has_put_same h1.isMap (by trivial)]; rfl
    · rw [if_neg e, Maps.has_put_other (fun e9 => e (str_inj e9))]
      exact h4 u
  · have hu : (if u = s then some v else f u) = some y := hu
    by_cases e : u = s
    · subst e
      rw [if_pos rfl] at hu
      injection hu with hu
      subst hu
      exact ⟨hv, fun z => Maps.atKey_put_same h1.isMap (by trivial) _ _⟩
    · rw [if_neg e] at hu
      exact ⟨(h5 u y hu).1, fun z => by rw [Maps.atKey_put_other (fun e9 => e (str_inj e9))]; exact (h5 u y hu).2 z⟩
theorem mp_ins {w : World} {b n m : Nat} {f : ByteArray → Option Nat} (h : StrMap w b n m f) (hn : n < 1000000000) (s : ByteArray) (hs : s.size ≤ maxLen) (hno : f s = none) (v : Nat) (hv : v < m) (hvb : v ≤ 1000000000)
    {ops : Array Oper} {rest : List Oper} {o : Oper} {a : Act} {Q : Exit → Act → World → Prop} (hgd : o.guard = none) (x y z : Operand) (t : TypeId) (hop : o.op = Op.insert t x y z) (ht : Tryd.prog.underlying t = some (.map 9 3))
    (hx : a.eval x = .map (some b)) (hy : a.eval y = .string s) (hz : a.eval z = .int .i64 (v : Nat))
    (hK : ∀ w', StrMap w' b (n + 1) m (fun u => if u = s then some v else f u) → w.grownBy w' (some b) → wpList Tryd.prog ops Q rest (a.put o.dst undef) w') : wpList Tryd.prog ops Q (o :: rest) a w := by
  refine wpList_plain hgd fun K' hK' => ?_
  obtain ⟨w', hrun, r1, r2⟩ := mp_upd h hn s hs hno v hv hvb t ht
  unfold Oper.wp
  simp [execOp, hop, hx, hy, hz, hrun, Result.andThen]
  exact hK' _ _ (hK w' r1 r2)
/-- A map literal of one text with number 0. -/
theorem mp_ins0 {w : World} (s : ByteArray) (hs : s.size ≤ maxLen)
    {ops : Array Oper} {rest : List Oper} {o : Oper} {a : Act} {Q : Exit → Act → World → Prop} (hgd : o.guard = none) (x y z : Operand) (t : TypeId) (hop : o.op = Op.insert t x y z) (ht : Tryd.prog.underlying t = some (.map 9 3))
    (hx : a.eval x = .map (some w.heap.size)) (hy : a.eval y = .string s) (hz : a.eval z = .int .i64 0)
    (hK : ∀ w', StrMap w' w.heap.size 1 65536 (idxF [s]) → Below w.heap.size w w' → wpList Tryd.prog ops Q rest (a.put o.dst undef) w') : wpList Tryd.prog ops Q (o :: rest) a (w.alloc (.map #[] 0)) := by
  refine mp_ins (StrMap.made w 65536) (by decide) s hs rfl 0 (by decide) (by decide) hgd x y z t hop ht hx hy hz (fun w' g1 g2 => hK w' ?_ ?_)
  · have e := idxF_snoc (l := ([] : List ByteArray)) (x := s) (by simp)
    rw [← idxF_nil] at e
    rw [← show [] ++ [s] = [s] from rfl, ← e]
    exact g1
  · exact ((Below.refl w.heap.size w).alloc (Nat.le_refl _) (.map #[] 0)).grown g2 (by simp) (fun k hk => by rw [← Option.some.inj hk]; exact Nat.le_refl _)
set_option maxRecDepth 100000 in
set_option maxHeartbeats 4000000 in
theorem lay_any (w : World) (p : Nat) (M : Mach) (h : IsAuto w p M) (most : Nat) (hm : 1 ≤ most) (hm2 : most ≤ 1024) :
    Calls Tryd.prog 52 #[.pointer (some ⟨p, 0, none⟩), .int .i64 (most : Nat)] w (LayPost w M (most : Nat)) := by
  obtain ⟨hp, T, x, fs, ft, fa, I, ⟨hc, hsz⟩, h1, h2, h3, h4, h5, h6⟩ := h
  have hb1 : Below w.heap.size w (w.alloc (.cells #[.slice none 0 0, .slice none 0 0] 134)) := (Below.refl _ _).alloc (Nat.le_refl _) _
  have hbk := heap_alloc_new w (.cells #[.slice none 0 0, .slice none 0 0] 134)
  have hz1 : (w.alloc (.cells #[.slice none 0 0, .slice none 0 0] 134)).heap.size = w.heap.size + 1 := by simp
  have C0 := (h6 _ hb1).1
  have m1 := h1.1 (w.alloc (.cells #[.slice none 0 0, .slice none 0 0] 134))
  have e1 := h1.2 #[x] (w.alloc (.cells #[.slice none 0 0, .slice none 0 0] 134))
  have hc1 : (w.alloc (.cells #[.slice none 0 0, .slice none 0 0] 134)).cell? ⟨p, 0, none⟩ = some (.iface T x) := by rw [hb1.cell hp]; exact hc
  have HB1 := Lib.hid hb1
  have HBK := Lib.hid hbk
  have HZ1 := Lib.hid hz1
  have H6 := Lib.hid h6
  have H5 := Lib.hid h5
  have H4 := Lib.hid h4
  have HM2 := Lib.hid h2
  have HM3 := Lib.hid h3
  have HSZ := Lib.hid hsz
  have hmm := @run_makeMap Tryd.prog
  have t0 : ¬ ((most : Int) < 1) := by omega
  clear h6 h5 h4 h2 h3 h1 hb1 hbk hz1 hsz
  go_enter Tryd.func52, Tryd.ntmps52
  go_upto_region 4 with fail
  generalize w.alloc (.cells #[.slice none 0 0, .slice none 0 0] 134) = W at C0 m1 e1 hc1 HB1 HBK HZ1 ⊢
  go_wp2_with fail
  refine C0.mono ?_
  rintro e w1 ⟨rfl, hb2⟩
  clear C0 m1 e1 hc1
  obtain ⟨st, hst⟩ : ∃ st, M.start = st := ⟨_, rfl⟩
  have hI : st ≠ ⟨#[]⟩ → I st := by rw [← hst]; exact H4.out
  have hszs : st.size ≤ maxLen := by
    by_cases h0 : st = ⟨#[]⟩
    · rw [h0]; decide
    · have := HSZ.out st (hI h0); unfold maxLen; omega
  rw [hst]
  have HST := Lib.hid hst
  have HI := Lib.hid hI
  have HSS := Lib.hid hszs
  have hB2 := HB1.out.trans (hb2.mono (by rw [HZ1.out]; omega))
  have hk2 := (hb2.block w.heap.size (by rw [HZ1.out]; omega)).trans HBK.out
  have HB2 := Lib.hid hB2
  have HK2 := Lib.hid hk2
  clear hb2 hst hI hszs hB2 hk2
  go_wp2_with (with_reducible refine mp_ins0 st HSS.out rfl _ _ _ 135 rfl Tryd.underlying135 rfl rfl rfl ?_)
  intro w2 g1 g2
  have hbk2 := (g2.block w.heap.size (lt_of_heap HK2.out)).trans HK2.out
  have hB3 := HB2.out.trans (g2.mono HB2.out.size)
  have hb4 : Below w2.heap.size w2 (w2.alloc (.cells #[.string st] 9)) := (Below.refl _ _).alloc (Nat.le_refl _) _
  have hS : LyS w (w2.alloc (.cells #[.string st] 9)) M I w.heap.size w1.heap.size (.slice none 0 0) (.slice none 0 0) (.slice (some ⟨w2.heap.size, 0, none⟩) 1 1) 0 [st] := by
    refine ⟨⟨(hb4.block _ (lt_of_heap hbk2)).trans hbk2, Nat.le_refl _, World.ownsRow_nil _ _ _ _, own_nil _ _ _⟩, g1.below hb4 (Nat.le_refl _), HB2.out.size, own_one w2 _ _ _ hB3.size, fun y hy => by rw [List.mem_singleton.1 hy]; exact HI.out, hB3.trans (hb4.mono hB3.size)⟩
  have HS := Lib.hid hS
  clear g1 g2 hbk2 hB3 hb4 hS
  go_upto_region 7 with fail
  generalize w2.alloc (.cells #[.string st] 9) = w3 at HS ⊢
  generalize w2.heap.size = z2 at HS ⊢
  generalize w1.heap.size = mb at HS ⊢
  clear HB1 HBK HZ1 HB2 HK2 hmm
  have hls : lys M (256 * 0) = [st] := by rw [← HST.out]; rfl
  go_loopw [9] (fun s9 wr => ∃ (n : Nat) (la : Option Addr) (lc : Nat) (nv av : Value), s9 = .slice la (lys M (256 * n)).length lc ∧ n ≤ most ∧ RowKit.Hid (LyS w wr M I w.heap.size mb nv av (.slice la (lys M (256 * n)).length lc) n (lys M (256 * n))) ∧ RowKit.Hid ((∀ s, s < n → s < (lys M (256 * s)).length) ∧ (lys M (256 * n)).length ≤ most)) (fun _ wr => 2000 - gLen wr w.heap.size)
  case atStart => exact ⟨0, some ⟨z2, 0, none⟩, 1, .slice none 0 0, .slice none 0 0, by rw [hls]; rfl, Nat.zero_le _, Lib.hid (by rw [hls]; exact HS.out), Lib.hid ⟨fun s hs => absurd hs (Nat.not_lt_zero _), by rw [hls]; exact hm⟩⟩
  case round =>
    clear HS hls
    obtain ⟨n, la, lc, nv, av, rfl, hn, HS, HW⟩ := hrel
    obtain ⟨L, hL⟩ : ∃ L, lys M (256 * n) = L := ⟨_, rfl⟩
    rw [hL] at HS HW ⊢
    have hgr := HS.out.gr
    obtain ⟨na, nc, hnv, hnc, -⟩ := hgr.at_
    subst hnv
    have c0 : wr.cell? ⟨w.heap.size, 0, none⟩ = some (.slice na n nc) := blk_cell hgr.blk 0
    have hpc : wr.cell? ⟨p, 0, none⟩ = some (.iface T x) := by rw [HS.out.bl.cell hp]; exact hc
    have hgl := HS.out.gl
    have HL := Lib.hid hL
    clear hL hgr
    by_cases hlt : n < L.length
    · obtain ⟨lb, rfl⟩ := HS.out.all.someAt (by omega)
      obtain ⟨d, hd⟩ : ∃ d, dsAt L n = d := ⟨_, rfl⟩
      have l0 : wr.cell? ⟨lb, n, none⟩ = some (.string d) := HS.out.all.get (by rw [List.getElem?_map, List.getElem?_eq_getElem hlt, ← hd, dsAt_get hlt]; rfl)
      obtain ⟨f, hf⟩ : ∃ f : Nat → Nat, f = fun c => lyN M (256 * n + c) := ⟨_, rfl⟩
      have hz := arr_zeroK f
      have hS1 := HS.out.alloc (.cells (rowV (rowK f 0)).toArray 136)
      have hr1 := heap_alloc_new wr (.cells (rowV (rowK f 0)).toArray 136)
      have hn1 : (Value.slice na (layT M n).n nc).ownBlock ≠ some wr.heap.size := fun e => by have := (World.ownsRow.lt HS.out.gr.next _ e).2; omega
      have hrb := HS.out.bl.size
      have HD := Lib.hid hd
      have HS1 := Lib.hid hS1
      have HR1 := Lib.hid hr1
      have HN1 := Lib.hid hn1
      have HF := Lib.hid hf
      clear hd hS1 hr1 hn1 hf
      go_upto_region 11 with fail
      generalize wr.alloc (.cells (rowV (rowK f 0)).toArray 136) = wS at HS1 HR1 ⊢
      generalize wr.heap.size = rb at HR1 HN1 hrb ⊢
      clear hz c0 l0 hpc HS
      have hL0 : lys M (256 * n + 0) = L := HL.out
      have HGL := Lib.hid hgl
      clear hgl
      obtain ⟨wo, rfl⟩ : ∃ wo : World, wo = wr := ⟨_, rfl⟩
      go_loopw [9, 46] (fun s9 s46 wr => ∃ (c : Nat) (la : Option Addr) (lc : Nat), s9 = .slice la (lys M (256 * n + c)).length lc ∧ s46 = .int .i64 (c : Nat) ∧ c ≤ 256 ∧ RowKit.Hid (LyS w wr M I w.heap.size mb (.slice na (layT M n).n nc) av (.slice la (lys M (256 * n + c)).length lc) n (lys M (256 * n + c))) ∧ RowKit.Hid (wr.heap[rb]? = some (.cells (rowV (rowK f c)).toArray 136 (0, 0)) ∧ (lys M (256 * n + c)).length ≤ most)) (fun _ s46 _ => 256 - (intOf s46).toNat)
      case atStart => exact ⟨0, some ⟨lb, 0, none⟩, lc, by rw [hL0], rfl, Nat.zero_le _, Lib.hid (by rw [hL0]; exact HS1.out), Lib.hid ⟨HR1.out, by rw [hL0]; exact HW.out.2⟩⟩
      case round =>
        clear HS1 HR1 hL0
        obtain ⟨c, la2, lc2, rfl, rfl, hcl, HS, HR⟩ := hrel
        have hpre := lys_mono M (show 256 * n ≤ 256 * n + c by omega)
        rw [HL.out] at hpre
        obtain ⟨Lc, hLc⟩ : ∃ Lc, lys M (256 * n + c) = Lc := ⟨_, rfl⟩
        rw [hLc] at HS HR hpre ⊢
        by_cases hc256 : c < 256
        · have hdc : dsAt Lc n = d := by rw [dsAt_prefix hpre hlt]; exact HD.out
          obtain ⟨b8, hb8⟩ : ∃ b8 : UInt8, UInt8.ofNat c = b8 := ⟨_, rfl⟩
          have hb8n : (b8.toNat : Int) = (c : Int) := by rw [← hb8]; simp; omega
          obtain ⟨X, hX⟩ : ∃ X, stepM M d b8 = X := ⟨_, rfl⟩
          have hlx : lyX M Lc (256 * n + c) = X := by
            unfold lyX
            rw [show (256 * n + c) / 256 = n by omega, show (256 * n + c) % 256 = c by omega, hdc, hb8, hX]
          have hdm : d ∈ Lc := by rw [← hdc, dsAt_get (Nat.lt_of_lt_of_le hlt hpre.length_le)]; exact List.getElem_mem _
          have hId : d ≠ ⟨#[]⟩ → I d := HS.out.inv d hdm
          have hIX : X ≠ ⟨#[]⟩ → I X := fun hx => by
            rw [← hX] at hx ⊢
            unfold stepM at hx ⊢
            by_cases h0 : d = ⟨#[]⟩
            · rw [if_pos h0] at hx; exact absurd rfl hx
            · rw [if_neg h0] at hx ⊢; exact H5.out d b8 (hId h0) h0 hx
          have hXs : X.size ≤ maxLen := by
            by_cases h0 : X = ⟨#[]⟩
            · rw [h0]; decide
            · have := HSZ.out X (hIX h0); unfold maxLen; omega
          have hpc : wr.cell? ⟨p, 0, none⟩ = some (.iface T x) := by rw [HS.out.bl.cell hp]; exact hc
          have HX := Lib.hid hX
          have HLX := Lib.hid hlx
          have HID := Lib.hid hId
          have HIX := Lib.hid hIX
          have HXS := Lib.hid hXs
          have HB8 := Lib.hid hb8n
          have HLC := Lib.hid hLc
          clear hX hlx hId hIX hXs hb8 hb8n hLc hdc hdm hpre
          obtain ⟨tb, htb⟩ : ∃ t : Bool, (!d.toList.isEmpty) = t := ⟨_, rfl⟩
          have HTB : RowKit.Hid (tb = true ↔ d ≠ ⟨#[]⟩) := Lib.hid (by
            rw [← htb]
            constructor
            · intro h9 e
              rw [e, ByteArray.toList_eq] at h9
              simp at h9
            · intro h9
              cases hq : d.toList.isEmpty
              · rfl
              · exact absurd (toList_nil hq) h9)
          go_upto_if 50 with fail
          clear htb
          go_cut [13] (fun s13 wx => s13 = .string X ∧ Below wr.heap.size wr wx)
          case first =>
            cases tb with
            | false =>
              have h0 : d = ⟨#[]⟩ := Classical.byContradiction fun h9 => by have := HTB.out.2 h9; cases this
              have hX0 : X = ⟨#[]⟩ := by rw [← HX.out]; unfold stepM; rw [if_pos h0]
              have HX0 := Lib.hid hX0
              clear h0 hX0
              go_wp2
              go_meet
              exact ⟨by rw [HX0.out], Below.refl _ _⟩
            | true =>
              have h0 : d ≠ ⟨#[]⟩ := HTB.out.1 rfl
              have C2 := (H6.out wr HS.out.bl).2.1 d b8 (HID.out h0) h0
              have m2 := HM2.out.1 wr
              have e2 := HM2.out.2 #[x, .string d, .int .u8 (c : Nat)] wr
              have hnext : M.step d b8 = X := by rw [← HX.out]; unfold stepM; rw [if_neg h0]
              rw [hnext, HB8.out] at C2
              clear h0 hnext
              go_wp2_with fail
              refine C2.mono ?_
              rintro e wq ⟨rfl, hb2⟩
              clear C2 m2 e2
              go_wp2
              go_meet
              exact ⟨rfl, hb2⟩
          case rest =>
            obtain ⟨rfl, hbc⟩ := hcut
            have hSc := HS.out.below hbc
            have hRc := (hbc.block rb (lt_of_heap HR.out.1)).trans HR.out.1
            have HSC := Lib.hid hSc
            have HRC := Lib.hid (And.intro hRc HR.out.2)
            clear hSc hRc HS HR hbc hpc
            have hmp := HSC.out.mp
            have HMP := Lib.hid hmp
            have q1 : wc.cell? ⟨rb, c, none⟩ = some (.int .i64 ((rowK f c c : Nat) : Int)) := by rw [blk_cell HRC.out.1, List.getElem?_toArray]; exact rowV_get _ hc256
            have qf := blk_frozen HRC.out.1 c
            have iz := int_zero
            have HIZ := Lib.hid iz
            have HHM := Lib.hid HSC.out.hm
            clear hmp iz
            by_cases hmem : X ∈ Lc
            · have hnx : lys M (256 * n + (c + 1)) = Lc := by
                show lyStep M (lys M (256 * n + c)) (256 * n + c) = Lc
                rw [HLC.out]; unfold lyStep; rw [HLX.out, if_pos hmem]
              obtain ⟨k, hk⟩ : ∃ k, Lc.idxOf X = k := ⟨_, rfl⟩
              have hfk : f c = k := by
                rw [HF.out]
                show lyN M (256 * n + c) = k
                unfold lyN
                rw [show 256 * n + c + 1 = 256 * n + (c + 1) by omega, hnx, HLC.out, HLX.out, hk]
              have hid : idxF Lc X = some k := by unfold idxF; rw [if_pos hmem, hk]
              have HID2 := Lib.hid hid
              have HNX := Lib.hid hnx
              have HFK := Lib.hid hfk
              clear hnx hk hfk hid hmem
              go_wp2_with (at_lookup; with_reducible refine mp_look HMP.out X HXS.out rfl _ _ _ rfl Tryd.underlying135 (HIZ.out _) rfl rfl ?_; rw [HID2.out]; simp only [Option.getD_some, Option.isSome_some])
              go_roundw
              case rel => exact ⟨c + 1, la2, lc2, by rw [HNX.out], by go_num, by omega, Lib.hid (by rw [HNX.out]; exact HSC.out.row HRC.out.1 hrb HN1.out c _), Lib.hid ⟨by rw [← rowK_set, HFK.out, ← List.setIfInBounds_toArray]; exact blk_set HRC.out.1 c _, by rw [HNX.out]; exact HRC.out.2⟩⟩
              case measure => simp [intOf]; omega
            · have hid : idxF Lc X = none := by unfold idxF; rw [if_neg hmem]
              have HID2 := Lib.hid hid
              have HNM := Lib.hid hmem
              clear hid hmem
              by_cases hfull : Lc.length = most
              · have hno : LyNo M most (256 * n + c) := ⟨fun s hs => by
                  by_cases e : s = n
                  · rw [e, HL.out]; exact hlt
                  · exact HW.out.1 s (by omega), by rw [HLC.out]; exact hfull, by rw [HLC.out, HLX.out]; exact HNM.out⟩
                have tf : ((Lc.length : Int) == (most : Int)) = true := by rw [beq_iff_eq]; omega
                have HNO := Lib.hid hno
                have HBL := Lib.hid HSC.out.bl
                clear hno hfull
                go_wp2_with (at_lookup; with_reducible refine mp_look HMP.out X HXS.out rfl _ _ _ rfl Tryd.underlying135 (HIZ.out _) rfl rfl ?_; rw [HID2.out]; simp only [Option.getD_none, Option.isSome_none])
                go_ret2
                exact LayPost.no HNO.out HBL.out
              · have tf : ((Lc.length : Int) == (most : Int)) = false := by rw [beq_eq_false_iff_ne]; omega
                have hlm : Lc.length < most := by have := HRC.out.2; omega
                have hl1 : Lc.length < 1000000000 := by omega
                have hl2 : Lc.length < 65536 := by omega
                have hl3 : Lc.length ≤ 1000000000 := by omega
                have hnx : lys M (256 * n + (c + 1)) = Lc ++ [X] := by
                  show lyStep M (lys M (256 * n + c)) (256 * n + c) = _
                  rw [HLC.out]; unfold lyStep; rw [HLX.out, if_neg HNM.out]
                have hfk : f c = Lc.length := by
                  rw [HF.out]
                  show lyN M (256 * n + c) = _
                  unfold lyN
                  rw [show 256 * n + c + 1 = 256 * n + (c + 1) by omega, hnx, HLC.out, HLX.out, List.idxOf_append, if_neg HNM.out]
                  simp
                have HNX := Lib.hid hnx
                have HFK := Lib.hid hfk
                have HL1 := Lib.hid hl1
                have HL2 := Lib.hid hl2
                have HL3 := Lib.hid hl3
                have HLM := Lib.hid hlm
                have hne : mb ≠ rb := HMP.out.ne HRC.out.1
                have HNE := Lib.hid hne
                clear hnx hfk hl1 hl2 hl3 hlm hne hfull
                go_wp2_with (first | (at_lookup; with_reducible refine mp_look HMP.out X HXS.out rfl _ _ _ rfl Tryd.underlying135 (HIZ.out _) rfl rfl ?_; rw [HID2.out]; simp only [Option.getD_none, Option.isSome_none]) | (at_mapUpdate; with_reducible refine mp_put HMP.out HL1.out X HXS.out HID2.out Lc.length HL2.out HL3.out rfl _ _ _ _ rfl Tryd.underlying135 rfl rfl rfl ?_))
                intro w5 g1 g2
                obtain ⟨p1, p2, p3, p4⟩ := HSC.out.put X HNM.out HIX.out g2 g1
                have hr5 := (g2.block rb (lt_of_heap HRC.out.1) (fun e => HNE.out (Option.some.inj e).symm)).trans HRC.out.1
                have hz5 := p4.size
                have hl4 : (Lc.map Value.string).length < 1000000000000 := by rw [List.length_map]; have := HL3.out; omega
                have P1 := Lib.hid p1
                have P2 := Lib.hid p2
                have P3 := Lib.hid p3
                have P4 := Lib.hid p4
                have HR5 := Lib.hid hr5
                have HL4 := Lib.hid hl4
                clear g1 g2 p1 p2 p3 p4 hr5 hl4 q1 qf tf
                go_wp2_with (at_builtin; with_reducible refine ap1' elStrG rfl P3.out HL4.out hz5 rfl _ _ rfl rfl rfl ?_)
                intro v6 w6 g1 g2 g3 g4
                have hr6 := (g4.block rb (lt_of_heap HR5.out) (fun e => P3.out.ne_type HR5.out (by decide) e.symm)).trans HR5.out
                obtain ⟨A6, C6, hv6⟩ := own_slice g1
                rw [List.length_append, List.length_map, List.length_singleton] at hv6
                subst hv6
                have hS6 := LyS.app P1.out P2.out P3.out P4.out HHM.out HSC.out.inv HIX.out g4 g1
                have q1 : w6.cell? ⟨rb, c, none⟩ = some (.int .i64 ((rowK f c c : Nat) : Int)) := by rw [blk_cell hr6, List.getElem?_toArray]; exact rowV_get _ hc256
                have qf := blk_frozen hr6 c
                have HR6 := Lib.hid hr6
                have HS6 := Lib.hid hS6
                clear g1 g2 g3 g4 hr6 hS6 hz5
                go_wp2
                go_roundw
                case rel => exact ⟨c + 1, A6, C6, by rw [HNX.out, List.length_append, List.length_singleton], by go_num, by omega, Lib.hid (by rw [HNX.out, List.length_append, List.length_singleton]; exact HS6.out.row HR6.out hrb HN1.out c _), Lib.hid ⟨by rw [← rowK_set, HFK.out, ← List.setIfInBounds_toArray]; exact blk_set HR6.out c _, by rw [HNX.out, List.length_append, List.length_singleton]; have := HLM.out; omega⟩⟩
                case measure => simp [intOf]; omega
        · obtain rfl : c = 256 := by omega
          have hL1 : lys M (256 * (n + 1)) = Lc := by rw [← hLc]; rfl
          have hrange : wr.rangeAt rb 0 (rowV f) := fun j v hj => by rw [Nat.zero_add, blk_cell HR.out.1, List.getElem?_toArray, rowK_full]; exact hj
          have c0 : wr.cell? ⟨w.heap.size, 0, none⟩ = some (.slice na n nc) := blk_cell HS.out.gr.blk 0
          have hSB := HS.out
          have HRG := Lib.hid (show ∀ X, Below wr.heap.size wr X → X.cell? ⟨w.heap.size, 0, none⟩ = some (.slice na n nc) ∧ X.rangeAt rb 0 (rowV f) from fun X e =>
            ⟨(e.cell (p := ⟨w.heap.size, 0, none⟩) (lt_of_heap hSB.gr.blk)).trans c0, fun j v hj => (e.cell (p := ⟨rb, 0 + j, none⟩) (lt_of_heap HR.out.1)).trans (hrange j v hj)⟩)
          have HSB := Lib.hid (show ∀ X, Below wr.heap.size wr X → LyS w X M I w.heap.size mb (.slice na (layT M n).n nc) av (.slice la2 Lc.length lc2) n Lc from fun X e => hSB.below e)
          have HL1 := Lib.hid hL1
          have HML := Lib.hid HR.out.2
          have hwz := HS.out.bl.size
          have hr0 : rb < wr.heap.size := lt_of_heap HR.out.1
          clear hL1 hrange c0 hSB HS hr0
          have hnm : n + 1 ≤ most := by have := HW.out.2; omega
          have hw2 : ∀ s, s < n + 1 → s < (lys M (256 * s)).length := fun s hs => by
            by_cases e : s = n
            · rw [e, HL.out]; exact hlt
            · exact HW.out.1 s (by omega)
          have hid3 : d ≠ ⟨#[]⟩ → I d := HSB.out wr (Below.refl _ _) |>.inv d (by
            have hpre := lys_mono M (show 256 * n ≤ 256 * n + 256 by omega)
            rw [HL.out, hLc] at hpre
            have hdc : dsAt Lc n = d := by rw [dsAt_prefix hpre hlt]; exact HD.out
            rw [← hdc, dsAt_get (Nat.lt_of_lt_of_le hlt hpre.length_le)]; exact List.getElem_mem _)
          have HID3 := Lib.hid hid3
          have HW2 := Lib.hid hw2
          clear hw2 hid3 hlt
          --REGION25
          go_upto_region 25 with fail
          go_cut [] (fun wx => ∃ nv2, RowKit.Hid (LyH w wx M I w.heap.size mb nv2 av (.slice la2 Lc.length lc2) n Lc))
          case first =>
            refine wp_region_noPanic ?_
            refine wp_region_held_drew (S := fun X => X.rangeAt rb 0 (rowV f)) (by kernel_rfl) (HRG.out _ (Below.refl wr.heap.size wr).drew).2 (fun hHeld => ?_)
            refine wpAnyH_take (i := 0) (v := ?_) rfl (by kernel_rfl) (by kernel_rfl) (by kernel_rfl) (fun _ _ _ h => h) (Or.inl ⟨by kernel_rfl, ?_⟩) hHeld ?_
            rotate_left
            · intro w hSw
              go_simp
              try with_reducible rfl
            refine wpAnyH_take (i := 1) (v := ?_) rfl (by kernel_rfl) (by kernel_rfl) (by kernel_rfl) (fun _ _ _ h => h) (Or.inl ⟨by kernel_rfl, ?_⟩) hHeld ?_
            rotate_left
            · intro w hSw
              go_simp
              try with_reducible rfl
            refine wpAnyH_take (i := 2) (v := ?_) rfl (by kernel_rfl) (by kernel_rfl) (by kernel_rfl) (fun _ _ _ h => h) (Or.inl ⟨by kernel_rfl, ?_⟩) hHeld ?_
            rotate_left
            · intro w hSw
              go_simp
              try with_reducible rfl
            refine wpAnyH_take (i := 3) (v := ?_) rfl (by kernel_rfl) (by kernel_rfl) (by kernel_rfl) (fun _ _ _ h => h) (Or.inl ⟨by kernel_rfl, ?_⟩) hHeld ?_
            rotate_left
            · intro w hSw
              go_simp
              try with_reducible rfl
            refine wpAnyH_take (i := 5) rfl (by kernel_rfl) (by kernel_rfl) (by kernel_rfl) (fun _ _ _ h => h) (yieldsIf_load_mid (by kernel_rfl) 136 (.tmp 11) rfl rb 0 rfl (rowV f) _ (fun w hw => hw) Tryd.underlying136 rfl (by rw [rowV_length]; exact arr_size)) hHeld ?_
            have hb0 := (Below.refl wr.heap.size wr).drew
            generalize World.drew wr = X0 at hb0 hHeld ⊢
            have c1 := (HRG.out _ hb0).1
            have hx1 := HRG.out _ (hb0.alloc hb0.size (.cells (rowV f).toArray 136))
            have hS0 := HSB.out X0 hb0
            have hne : w.heap.size ≠ rb := fun e => by
              have h1 := hS0.gr.blk
              have h2 := (HRG.out _ hb0).2 0 _ (rowV_get f (show 0 < 256 by omega))
              rw [← e, Nat.zero_add, blk_cell h1] at h2
              cases h2
            have HNE := Lib.hid hne
            have HX1 := Lib.hid hx1
            have hn0 : n ≤ 1000000 := by omega
            have hz0 : w.heap.size ≤ X0.heap.size := hS0.bl.size
            have HS0 := Lib.hid hS0
            clear hx1 hS0 hne
            refine wpAnyH_ready (rs := [4, 6]) (by kernel_rfl) (by simp) ?_
            refine AllReadyH.cons rfl (fun KK hKK => ?_) ?_
            ·
              rw [if_pos (by kernel_rfl)]
              go_simp
              refine hKK.out _ _ hHeld (fun hHeld => ?_)
              clear hKK KK
              refine wpAnyH_ready (rs := [6]) (by kernel_rfl) (by simp) ?_
              refine AllReadyH.cons rfl (fun KK hKK => ?_) ?_
              rotate_left
              · exact AllReadyH.nil
              refine step_build_arr f rfl (.tmp 89) rfl (by kernel_rfl) ?_
              refine hKK.out _ _ HX1.out.2 (fun hHeld => ?_)
              clear hKK KK
              refine wpAnyH_ready (rs := [7]) (by kernel_rfl) (by simp) ?_
              refine AllReadyH.cons rfl (fun KK hKK => ?_) ?_
              rotate_left
              · exact AllReadyH.nil
              refine step_ap_arr f HS0.out.gr.next hn0 hz0 rfl (.tmp 88) (.tmp 90) rfl (by kernel_rfl) (by kernel_rfl) ?_
              intro v2 X2 g1 g2
              obtain ⟨hH, q1, q2⟩ := HS0.out.next f HF.out g1 g2
              obtain ⟨na2, nc2, rfl⟩ := ownsRow_sl g1
              have hrg2 : X2.rangeAt rb 0 (rowV f) := by
                have he := Eff.ofGrown g2
                obtain ⟨-, hx⟩ := HRG.out _ hb0
                exact fun j v hj => he.cell (p := ⟨rb, 0 + j, none⟩) HN1.out (hx j v hj)
              have q1 : X2.cell? ⟨w.heap.size, 0, none⟩ = some (.slice na n nc) := q1
              have hrg3 : (X2.setCell ⟨w.heap.size, 0, none⟩ (.slice na2 ((layT M n).n + 1) nc2)).rangeAt rb 0 (rowV f) := fun j v hj => by
                rw [World.cell?_setCell_far _ _ _ _ (by exact HNE.out)]; exact hrg2 j v hj
              have HH := Lib.hid hH
              have HR3 := Lib.hid hrg3
              refine hKK.out _ _ hrg2 (fun hHeld => ?_)
              clear hKK KK hH g1 g2 hrg2 hrg3
              refine wpAnyH_take (i := 8) (v := ?_) rfl (by kernel_rfl) (by kernel_rfl) (by kernel_rfl) (fun _ _ _ h => h) (Or.inl ⟨by kernel_rfl, ?_⟩) hHeld ?_
              rotate_left
              · intro w hSw
                go_simp
                try with_reducible rfl
              refine wpAnyH_take (i := 9) (v := ?_) rfl (by kernel_rfl) (by kernel_rfl) (by kernel_rfl) (fun _ _ _ h => h) (Or.inl ⟨by kernel_rfl, ?_⟩) hHeld ?_
              rotate_left
              · intro w hSw
                go_simp
                try with_reducible rfl
              refine wpAnyH_ready (rs := [10]) (by kernel_rfl) (by simp) ?_
              refine AllReadyH.cons rfl (fun KK hKK => ?_) ?_
              rotate_left
              · exact AllReadyH.nil
              rw [if_pos (by kernel_rfl)]
              go_simp
              refine hKK.out _ _ HR3.out (fun hHeld => ?_)
              clear hKK KK hHeld q1 q2 HR3
              refine wpAnyH_done (by kernel_rfl) ?_ _
              refine NoPanic.normal ?_
              go_wp2_with fail
              go_meet
              exact ⟨_, HH⟩
            refine AllReadyH.cons rfl (fun KK hKK => ?_) ?_
            ·
              refine step_build_arr f rfl (.tmp 89) rfl (by kernel_rfl) ?_
              refine hKK.out _ _ HX1.out.2 (fun hHeld => ?_)
              clear hKK KK
              have c2 := HX1.out.1
              refine wpAnyH_ready (rs := [4]) (by kernel_rfl) (by simp) ?_
              refine AllReadyH.cons rfl (fun KK hKK => ?_) ?_
              rotate_left
              · exact AllReadyH.nil
              rw [if_pos (by kernel_rfl)]
              go_simp
              refine hKK.out _ _ hHeld (fun hHeld => ?_)
              clear hKK KK
              refine wpAnyH_ready (rs := [7]) (by kernel_rfl) (by simp) ?_
              refine AllReadyH.cons rfl (fun KK hKK => ?_) ?_
              rotate_left
              · exact AllReadyH.nil
              refine step_ap_arr f HS0.out.gr.next hn0 hz0 rfl (.tmp 88) (.tmp 90) rfl (by kernel_rfl) (by kernel_rfl) ?_
              intro v2 X2 g1 g2
              obtain ⟨hH, q1, q2⟩ := HS0.out.next f HF.out g1 g2
              obtain ⟨na2, nc2, rfl⟩ := ownsRow_sl g1
              have hrg2 : X2.rangeAt rb 0 (rowV f) := by
                have he := Eff.ofGrown g2
                obtain ⟨-, hx⟩ := HRG.out _ hb0
                exact fun j v hj => he.cell (p := ⟨rb, 0 + j, none⟩) HN1.out (hx j v hj)
              have q1 : X2.cell? ⟨w.heap.size, 0, none⟩ = some (.slice na n nc) := q1
              have hrg3 : (X2.setCell ⟨w.heap.size, 0, none⟩ (.slice na2 ((layT M n).n + 1) nc2)).rangeAt rb 0 (rowV f) := fun j v hj => by
                rw [World.cell?_setCell_far _ _ _ _ (by exact HNE.out)]; exact hrg2 j v hj
              have HH := Lib.hid hH
              have HR3 := Lib.hid hrg3
              refine hKK.out _ _ hrg2 (fun hHeld => ?_)
              clear hKK KK hH g1 g2 hrg2 hrg3
              refine wpAnyH_take (i := 8) (v := ?_) rfl (by kernel_rfl) (by kernel_rfl) (by kernel_rfl) (fun _ _ _ h => h) (Or.inl ⟨by kernel_rfl, ?_⟩) hHeld ?_
              rotate_left
              · intro w hSw
                go_simp
                try with_reducible rfl
              refine wpAnyH_take (i := 9) (v := ?_) rfl (by kernel_rfl) (by kernel_rfl) (by kernel_rfl) (fun _ _ _ h => h) (Or.inl ⟨by kernel_rfl, ?_⟩) hHeld ?_
              rotate_left
              · intro w hSw
                go_simp
                try with_reducible rfl
              refine wpAnyH_ready (rs := [10]) (by kernel_rfl) (by simp) ?_
              refine AllReadyH.cons rfl (fun KK hKK => ?_) ?_
              rotate_left
              · exact AllReadyH.nil
              rw [if_pos (by kernel_rfl)]
              go_simp
              refine hKK.out _ _ HR3.out (fun hHeld => ?_)
              clear hKK KK hHeld q1 q2 HR3
              refine wpAnyH_done (by kernel_rfl) ?_ _
              refine NoPanic.normal ?_
              go_wp2_with fail
              go_meet
              exact ⟨_, HH⟩
            exact AllReadyH.nil
          case rest =>
            obtain ⟨nv2, HH⟩ := hcut
            clear HRG HSB hrb hwz
            obtain ⟨tb, htb⟩ : ∃ t : Bool, (!d.toList.isEmpty) = t := ⟨_, rfl⟩
            have hTB : tb = true ↔ d ≠ ⟨#[]⟩ := by
              rw [← htb]
              constructor
              · intro h9 e
                rw [e, ByteArray.toList_eq] at h9
                simp at h9
              · intro h9
                cases hq : d.toList.isEmpty
                · rfl
                · exact absurd (toList_nil hq) h9
            have hacc : (layT M n).acc n = (decide (d ≠ ⟨#[]⟩) && M.acc d) := by
              show (decide (dsAt (lys M (256 * n)) n ≠ ⟨#[]⟩) && M.acc (dsAt (lys M (256 * n)) n)) = _
              rw [HL.out, HD.out]
            have HACC := Lib.hid hacc
            have HTB := Lib.hid hTB
            clear hacc hTB
            cases tb with
            | false =>
              have hacc2 : false = (layT M n).acc n := by
                rw [HACC.out]
                have h0 : d = ⟨#[]⟩ := Classical.byContradiction fun h9 => by have := HTB.out.2 h9; cases this
                rw [h0]; simp
              have HACC2 := Lib.hid hacc2
              clear hacc2
              obtain ⟨aa, an, ac, rfl⟩ := own_sl HH.out.acc
              have p0 : wc.cell? ⟨p, 0, none⟩ = some (.iface T x) := by rw [HH.out.bl.cell hp]; exact hc
              have hla : ((List.range n).map fun s => Value.bool ((layT M n).acc s)).length < 1000000000000 := by rw [List.length_map, List.length_range]; omega
              have HLA := Lib.hid hla
              have HWC := Lib.hid (show ∀ X, Below wc.heap.size wc X → X.cell? ⟨p, 0, none⟩ = some (.iface T x) ∧ X.cell? ⟨w.heap.size, 1, none⟩ = some (.slice aa an ac) from fun X e =>
                ⟨(e.cell (p := ⟨p, 0, none⟩) (by have := HH.out.bl.size; show p < wc.heap.size; omega)).trans p0, (e.cell (p := ⟨w.heap.size, 1, none⟩) (lt_of_heap HH.out.blk)).trans (blk_cell HH.out.blk 1)⟩)
              have HHB := Lib.hid (show ∀ X, Below wc.heap.size wc X → LyH w X M I w.heap.size mb nv2 (.slice aa an ac) (.slice la2 Lc.length lc2) n Lc from fun X e => HH.out.below e)
              clear hla
              go_upto_region 26 with fail
              refine wp_region_noPanic ?_
              refine wp_region_held_drew (S := fun X => X.cell? ⟨p, 0, none⟩ = some (.iface T x)) (by kernel_rfl) p0 (fun hHeld => ?_)
              refine wpAnyH_take (i := 0) (v := ?_) rfl (by kernel_rfl) (by kernel_rfl) (by kernel_rfl) (fun _ _ _ h => h) (Or.inl ⟨by kernel_rfl, ?_⟩) hHeld ?_
              rotate_left
              · intro w hSw
                go_simp
                try with_reducible rfl
              refine wpAnyH_take (i := 1) (v := ?_) rfl (by kernel_rfl) (by kernel_rfl) (by kernel_rfl) (fun _ _ _ h => h) (Or.inl ⟨by kernel_rfl, ?_⟩) hHeld ?_
              rotate_left
              · intro w hSw
                go_simp
                try with_reducible rfl
              refine wpAnyH_take (i := 2) (v := ?_) rfl (by kernel_rfl) (by kernel_rfl) (by kernel_rfl) (fun _ _ _ h => h) (Or.inl ⟨by kernel_rfl, ?_⟩) hHeld ?_
              rotate_left
              · intro w hSw
                go_simp
                try with_reducible rfl
              refine wpAnyH_take (i := 3) (v := ?_) rfl (by kernel_rfl) (by kernel_rfl) (by kernel_rfl) (fun _ _ _ h => h) (Or.inl ⟨by kernel_rfl, ?_⟩) hHeld ?_
              rotate_left
              · intro w hSw
                go_simp
                try with_reducible rfl
              refine wpAnyH_take (i := 5) (v := ?_) rfl (by kernel_rfl) (by kernel_rfl) (by kernel_rfl) (fun _ _ _ h => h) (Or.inl ⟨by kernel_rfl, ?_⟩) hHeld ?_
              rotate_left
              · intro w hSw
                go_simp
                try with_reducible rfl
              refine wpAnyH_take (i := 6) (v := ?_) rfl (by kernel_rfl) (by kernel_rfl) (by kernel_rfl) (fun _ _ _ h => h) (Or.inl ⟨by kernel_rfl, ?_⟩) hHeld ?_
              rotate_left
              · intro w hSw
                go_simp
                try with_reducible rfl
              refine wpAnyH_take (i := 7) (v := ?_) rfl (by kernel_rfl) (by kernel_rfl) (by kernel_rfl) (fun _ _ _ h => h) (Or.inl ⟨by kernel_rfl, ?_⟩) hHeld ?_
              rotate_left
              · intro w hSw
                go_simp
                try with_reducible rfl
              refine wpAnyH_take (i := 8) (v := undef) rfl (by kernel_rfl) (by kernel_rfl) (by kernel_rfl) (fun _ _ _ h => h) (Or.inr ⟨by kernel_rfl, rfl⟩) hHeld ?_
              refine wpAnyH_take (i := 9) (v := undef) rfl (by kernel_rfl) (by kernel_rfl) (by kernel_rfl) (fun _ _ _ h => h) (Or.inr ⟨by kernel_rfl, rfl⟩) hHeld ?_
              refine wpAnyH_take (i := 10) (v := undef) rfl (by kernel_rfl) (by kernel_rfl) (by kernel_rfl) (fun _ _ _ h => h) (Or.inr ⟨by kernel_rfl, rfl⟩) hHeld ?_
              refine wpAnyH_take (i := 11) (v := undef) rfl (by kernel_rfl) (by kernel_rfl) (by kernel_rfl) (fun _ _ _ h => h) (Or.inr ⟨by kernel_rfl, rfl⟩) hHeld ?_
              refine wpAnyH_take (i := 12) (v := undef) rfl (by kernel_rfl) (by kernel_rfl) (by kernel_rfl) (fun _ _ _ h => h) (Or.inr ⟨by kernel_rfl, rfl⟩) hHeld ?_
              refine wpAnyH_take (i := 13) (v := undef) rfl (by kernel_rfl) (by kernel_rfl) (by kernel_rfl) (fun _ _ _ h => h) (Or.inr ⟨by kernel_rfl, rfl⟩) hHeld ?_
              refine wpAnyH_take (i := 14) (v := ?_) rfl (by kernel_rfl) (by kernel_rfl) (by kernel_rfl) (fun _ _ _ h => h) (Or.inl ⟨by kernel_rfl, ?_⟩) hHeld ?_
              rotate_left
              · intro w hSw
                go_simp
                try with_reducible rfl
              have hb0 := (Below.refl wc.heap.size wc).drew
              generalize World.drew wc = X0 at hb0 hHeld ⊢
              clear p0 htb
              have p1 := (HWC.out _ hb0).1
              have c1 := (HWC.out _ hb0).2
              have p2 := (HWC.out _ (hb0.alloc hb0.size (.cells #[.bool false] 4))).1
              have c2 := (HWC.out _ (hb0.alloc hb0.size (.cells #[.bool false] 4))).2
              have HX := Lib.hid (HHB.out _ hb0)
              refine wpAnyH_ready (rs := [4, 15]) (by kernel_rfl) (by simp) ?_
              refine AllReadyH.cons rfl (fun KK hKK => ?_) ?_
              ·
                rw [if_pos (by kernel_rfl)]
                go_simp
                refine hKK.out _ _ hHeld (fun hHeld => ?_)
                clear hKK KK
                refine wpAnyH_ready (rs := [15]) (by kernel_rfl) (by simp) ?_
                refine AllReadyH.cons rfl (fun KK hKK => ?_) ?_
                rotate_left
                · exact AllReadyH.nil
                rw [if_pos (by kernel_rfl)]
                go_simp
                refine hKK.out _ _ p2 (fun hHeld => ?_)
                clear hKK KK
                refine wpAnyH_ready (rs := [16]) (by kernel_rfl) (by simp) ?_
                refine AllReadyH.cons rfl (fun KK hKK => ?_) ?_
                rotate_left
                · exact AllReadyH.nil
                refine step_ap1' elBoolG rfl HX.out.acc HLA.out HX.out.bl.size rfl (.tmp 98) (.tmp 109) rfl (by kernel_rfl) (by kernel_rfl) ?_
                intro v3 X3 g1 g2 g3 g4
                obtain ⟨hF, q1, q2⟩ := HX.out.accN HACC2.out g1 g4
                have p3 : X3.cell? ⟨p, 0, none⟩ = some (.iface T x) := by
                  have e3 := Eff.ofGrown g4
                  exact e3.cell (p := ⟨p, 0, none⟩) (fun e => by have := (HX.out.acc.lt p e).1; omega) p1
                have p4 : (X3.setCell ⟨w.heap.size, 1, none⟩ v3).cell? ⟨p, 0, none⟩ = some (.iface T x) := by rw [hF.bl.cell hp]; exact hc
                obtain ⟨a3, n3, c3, rfl⟩ := own_sl g1
                have HF2 := Lib.hid hF
                have P4 := Lib.hid p4
                refine hKK.out _ _ p3 (fun hHeld => ?_)
                clear hKK KK hF g1 g2 g3 g4 p3 p4
                refine wpAnyH_take (i := 17) (v := ?_) rfl (by kernel_rfl) (by kernel_rfl) (by kernel_rfl) (fun _ _ _ h => h) (Or.inl ⟨by kernel_rfl, ?_⟩) hHeld ?_
                rotate_left
                · intro w hSw
                  go_simp
                  try with_reducible rfl
                refine wpAnyH_take (i := 18) (v := ?_) rfl (by kernel_rfl) (by kernel_rfl) (by kernel_rfl) (fun _ _ _ h => h) (Or.inl ⟨by kernel_rfl, ?_⟩) hHeld ?_
                rotate_left
                · intro w hSw
                  go_simp
                  try with_reducible rfl
                refine wpAnyH_ready (rs := [19]) (by kernel_rfl) (by simp) ?_
                refine AllReadyH.cons rfl (fun KK hKK => ?_) ?_
                rotate_left
                · exact AllReadyH.nil
                rw [if_pos (by kernel_rfl)]
                go_simp
                refine hKK.out _ _ P4.out (fun hHeld => ?_)
                clear hKK KK hHeld q1 q2 P4
                refine wpAnyH_done (by kernel_rfl) ?_ _
                refine NoPanic.normal ?_
                generalize X3.setCell ⟨w.heap.size, 1, none⟩ (.slice a3 n3 c3) = X4 at HF2 ⊢
                go_wp2_with fail
                go_roundw
                case rel => exact ⟨n + 1, la2, lc2, nv2, .slice a3 n3 c3, by rw [HL1.out], hnm, Lib.hid (by rw [HL1.out]; exact HF2.out), Lib.hid ⟨HW2.out, by rw [HL1.out]; exact HML.out⟩⟩
                case measure => rw [HF2.out.gl, HGL.out]; omega
              refine AllReadyH.cons rfl (fun KK hKK => ?_) ?_
              ·
                rw [if_pos (by kernel_rfl)]
                go_simp
                refine hKK.out _ _ p2 (fun hHeld => ?_)
                clear hKK KK
                refine wpAnyH_ready (rs := [4]) (by kernel_rfl) (by simp) ?_
                refine AllReadyH.cons rfl (fun KK hKK => ?_) ?_
                rotate_left
                · exact AllReadyH.nil
                rw [if_pos (by kernel_rfl)]
                go_simp
                refine hKK.out _ _ hHeld (fun hHeld => ?_)
                clear hKK KK
                refine wpAnyH_ready (rs := [16]) (by kernel_rfl) (by simp) ?_
                refine AllReadyH.cons rfl (fun KK hKK => ?_) ?_
                rotate_left
                · exact AllReadyH.nil
                refine step_ap1' elBoolG rfl HX.out.acc HLA.out HX.out.bl.size rfl (.tmp 98) (.tmp 109) rfl (by kernel_rfl) (by kernel_rfl) ?_
                intro v3 X3 g1 g2 g3 g4
                obtain ⟨hF, q1, q2⟩ := HX.out.accN HACC2.out g1 g4
                have p3 : X3.cell? ⟨p, 0, none⟩ = some (.iface T x) := by
                  have e3 := Eff.ofGrown g4
                  exact e3.cell (p := ⟨p, 0, none⟩) (fun e => by have := (HX.out.acc.lt p e).1; omega) p1
                have p4 : (X3.setCell ⟨w.heap.size, 1, none⟩ v3).cell? ⟨p, 0, none⟩ = some (.iface T x) := by rw [hF.bl.cell hp]; exact hc
                obtain ⟨a3, n3, c3, rfl⟩ := own_sl g1
                have HF2 := Lib.hid hF
                have P4 := Lib.hid p4
                refine hKK.out _ _ p3 (fun hHeld => ?_)
                clear hKK KK hF g1 g2 g3 g4 p3 p4
                refine wpAnyH_take (i := 17) (v := ?_) rfl (by kernel_rfl) (by kernel_rfl) (by kernel_rfl) (fun _ _ _ h => h) (Or.inl ⟨by kernel_rfl, ?_⟩) hHeld ?_
                rotate_left
                · intro w hSw
                  go_simp
                  try with_reducible rfl
                refine wpAnyH_take (i := 18) (v := ?_) rfl (by kernel_rfl) (by kernel_rfl) (by kernel_rfl) (fun _ _ _ h => h) (Or.inl ⟨by kernel_rfl, ?_⟩) hHeld ?_
                rotate_left
                · intro w hSw
                  go_simp
                  try with_reducible rfl
                refine wpAnyH_ready (rs := [19]) (by kernel_rfl) (by simp) ?_
                refine AllReadyH.cons rfl (fun KK hKK => ?_) ?_
                rotate_left
                · exact AllReadyH.nil
                rw [if_pos (by kernel_rfl)]
                go_simp
                refine hKK.out _ _ P4.out (fun hHeld => ?_)
                clear hKK KK hHeld q1 q2 P4
                refine wpAnyH_done (by kernel_rfl) ?_ _
                refine NoPanic.normal ?_
                generalize X3.setCell ⟨w.heap.size, 1, none⟩ (.slice a3 n3 c3) = X4 at HF2 ⊢
                go_wp2_with fail
                go_roundw
                case rel => exact ⟨n + 1, la2, lc2, nv2, .slice a3 n3 c3, by rw [HL1.out], hnm, Lib.hid (by rw [HL1.out]; exact HF2.out), Lib.hid ⟨HW2.out, by rw [HL1.out]; exact HML.out⟩⟩
                case measure => rw [HF2.out.gl, HGL.out]; omega
              exact AllReadyH.nil
            | true =>
              have h0 : d ≠ ⟨#[]⟩ := HTB.out.1 rfl
              obtain ⟨bv, hbv⟩ : ∃ b, M.acc d = b := ⟨_, rfl⟩
              have hacc2 : bv = (layT M n).acc n := by rw [HACC.out, decide_eq_true h0, Bool.true_and, hbv]
              have HACC2 := Lib.hid hacc2
              have HBV := Lib.hid hbv
              have HD0 := Lib.hid h0
              clear hacc2 hbv h0
              obtain ⟨aa, an, ac, rfl⟩ := own_sl HH.out.acc
              have p0 : wc.cell? ⟨p, 0, none⟩ = some (.iface T x) := by rw [HH.out.bl.cell hp]; exact hc
              have hla : ((List.range n).map fun s => Value.bool ((layT M n).acc s)).length < 1000000000000 := by rw [List.length_map, List.length_range]; omega
              have HLA := Lib.hid hla
              have HWC := Lib.hid (show ∀ X, Below wc.heap.size wc X → X.cell? ⟨p, 0, none⟩ = some (.iface T x) ∧ X.cell? ⟨w.heap.size, 1, none⟩ = some (.slice aa an ac) from fun X e =>
                ⟨(e.cell (p := ⟨p, 0, none⟩) (by have := HH.out.bl.size; show p < wc.heap.size; omega)).trans p0, (e.cell (p := ⟨w.heap.size, 1, none⟩) (lt_of_heap HH.out.blk)).trans (blk_cell HH.out.blk 1)⟩)
              have HHB := Lib.hid (show ∀ X, Below wc.heap.size wc X → LyH w X M I w.heap.size mb nv2 (.slice aa an ac) (.slice la2 Lc.length lc2) n Lc from fun X e => HH.out.below e)
              clear hla
              go_upto_region 26 with fail
              refine wp_region_noPanic ?_
              refine wp_region_held_drew (S := fun X => X.cell? ⟨p, 0, none⟩ = some (.iface T x)) (by kernel_rfl) p0 (fun hHeld => ?_)
              refine wpAnyH_take (i := 0) (v := ?_) rfl (by kernel_rfl) (by kernel_rfl) (by kernel_rfl) (fun _ _ _ h => h) (Or.inl ⟨by kernel_rfl, ?_⟩) hHeld ?_
              rotate_left
              · intro w hSw
                go_simp
                try with_reducible rfl
              refine wpAnyH_take (i := 1) (v := ?_) rfl (by kernel_rfl) (by kernel_rfl) (by kernel_rfl) (fun _ _ _ h => h) (Or.inl ⟨by kernel_rfl, ?_⟩) hHeld ?_
              rotate_left
              · intro w hSw
                go_simp
                try with_reducible rfl
              refine wpAnyH_take (i := 2) (v := ?_) rfl (by kernel_rfl) (by kernel_rfl) (by kernel_rfl) (fun _ _ _ h => h) (Or.inl ⟨by kernel_rfl, ?_⟩) hHeld ?_
              rotate_left
              · intro w hSw
                go_simp
                try with_reducible rfl
              refine wpAnyH_take (i := 3) (v := ?_) rfl (by kernel_rfl) (by kernel_rfl) (by kernel_rfl) (fun _ _ _ h => h) (Or.inl ⟨by kernel_rfl, ?_⟩) hHeld ?_
              rotate_left
              · intro w hSw
                go_simp
                try with_reducible rfl
              refine wpAnyH_take (i := 5) (v := ?_) rfl (by kernel_rfl) (by kernel_rfl) (by kernel_rfl) (fun _ _ _ h => h) (Or.inl ⟨by kernel_rfl, ?_⟩) hHeld ?_
              rotate_left
              · intro w hSw
                go_simp
                try with_reducible rfl
              refine wpAnyH_take (i := 6) (v := ?_) rfl (by kernel_rfl) (by kernel_rfl) (by kernel_rfl) (fun _ _ _ h => h) (Or.inl ⟨by kernel_rfl, ?_⟩) hHeld ?_
              rotate_left
              · intro w hSw
                go_simp
                try with_reducible rfl
              refine wpAnyH_take (i := 7) (v := ?_) rfl (by kernel_rfl) (by kernel_rfl) (by kernel_rfl) (fun _ _ _ h => h) (Or.inl ⟨by kernel_rfl, ?_⟩) hHeld ?_
              rotate_left
              · intro w hSw
                go_simp
                try with_reducible rfl
              refine wpAnyH_take (i := 8) (v := ?_) rfl (by kernel_rfl) (by kernel_rfl) (by kernel_rfl) (fun _ _ _ h => h) (Or.inl ⟨by kernel_rfl, ?_⟩) hHeld ?_
              rotate_left
              · intro w hSw
                go_simp
                try with_reducible rfl
              refine wpAnyH_take (i := 9) (v := ?_) rfl (by kernel_rfl) (by kernel_rfl) (by kernel_rfl) (fun _ _ _ h => h) (Or.inl ⟨by kernel_rfl, ?_⟩) hHeld ?_
              rotate_left
              · intro w hSw
                go_simp
                try with_reducible rfl
              refine wpAnyH_take (i := 10) (v := ?_) rfl (by kernel_rfl) (by kernel_rfl) (by kernel_rfl) (fun _ _ _ h => h) (Or.inl ⟨by kernel_rfl, ?_⟩) hHeld ?_
              rotate_left
              · intro w hSw
                go_simp
                try with_reducible rfl
              refine wpAnyH_take (i := 11) (v := ?_) rfl (by kernel_rfl) (by kernel_rfl) (by kernel_rfl) (fun _ _ _ h => h) (Or.inl ⟨by kernel_rfl, ?_⟩) hHeld ?_
              rotate_left
              · intro w hSw
                go_simp
                try with_reducible rfl
              refine wpAnyH_take (i := 12) (v := ?_) rfl (by kernel_rfl) (by kernel_rfl) (by kernel_rfl) (fun _ _ _ h => h) (Or.inl ⟨by kernel_rfl, ?_⟩) hHeld ?_
              rotate_left
              · intro w hSw
                go_simp
                try with_reducible rfl
              have hb0 := (Below.refl wc.heap.size wc).drew
              generalize World.drew wc = X0 at hb0 hHeld ⊢
              have m2 := HM3.out.1 X0
              have e2 := HM3.out.2 #[x, .string d] X0
              have C13 := (H6.out X0 (HHB.out _ hb0).bl).2.2 d (HID3.out HD0.out) HD0.out
              rw [HBV.out] at C13
              have c1 := (HWC.out _ hb0).2
              have HC13 := Lib.hid C13
              clear p0 htb C13
              refine wpAnyH_ready (rs := [4, 13]) (by kernel_rfl) (by simp) ?_
              refine AllReadyH.cons rfl (fun KK hKK => ?_) ?_
              ·
                rw [if_pos (by kernel_rfl)]
                go_simp
                refine hKK.out _ _ hHeld (fun hHeld => ?_)
                clear hKK KK
                refine wpAnyH_ready (rs := [13]) (by kernel_rfl) (by simp) ?_
                refine AllReadyH.cons rfl (fun KK hKK => ?_) ?_
                rotate_left
                · exact AllReadyH.nil
                rw [if_pos (by kernel_rfl)]
                go_simp
                refine HC13.out.mono ?_
                rintro e X1 ⟨rfl, hbq⟩
                have hb1 := hb0.trans (hbq.mono hb0.size)
                refine hKK.out _ _ (HWC.out _ hb1).1 (fun hHeld => ?_)
                clear hKK KK hbq m2 e2 c1
                refine wpAnyH_take (i := 14) (v := ?_) rfl (by kernel_rfl) (by kernel_rfl) (by kernel_rfl) (fun _ _ _ h => h) (Or.inl ⟨by kernel_rfl, ?_⟩) hHeld ?_
                rotate_left
                · intro w hSw
                  go_simp
                  try with_reducible rfl
                have p1 := (HWC.out _ hb1).1
                have c1 := (HWC.out _ hb1).2
                have p2 := (HWC.out _ (hb1.alloc hb1.size (.cells #[.bool bv] 4))).1
                have c2 := (HWC.out _ (hb1.alloc hb1.size (.cells #[.bool bv] 4))).2
                have HX := Lib.hid (HHB.out _ hb1)
                refine wpAnyH_ready (rs := [15]) (by kernel_rfl) (by simp) ?_
                refine AllReadyH.cons rfl (fun KK hKK => ?_) ?_
                rotate_left
                · exact AllReadyH.nil
                rw [if_pos (by kernel_rfl)]
                go_simp
                refine hKK.out _ _ p2 (fun hHeld => ?_)
                clear hKK KK
                refine wpAnyH_ready (rs := [16]) (by kernel_rfl) (by simp) ?_
                refine AllReadyH.cons rfl (fun KK hKK => ?_) ?_
                rotate_left
                · exact AllReadyH.nil
                refine step_ap1' elBoolG rfl HX.out.acc HLA.out HX.out.bl.size rfl (.tmp 98) (.tmp 109) rfl (by kernel_rfl) (by kernel_rfl) ?_
                intro v3 X3 g1 g2 g3 g4
                obtain ⟨hF, q1, q2⟩ := HX.out.accN HACC2.out g1 g4
                have p3 : X3.cell? ⟨p, 0, none⟩ = some (.iface T x) := by
                  have e3 := Eff.ofGrown g4
                  exact e3.cell (p := ⟨p, 0, none⟩) (fun e => by have := (HX.out.acc.lt p e).1; omega) p1
                have p4 : (X3.setCell ⟨w.heap.size, 1, none⟩ v3).cell? ⟨p, 0, none⟩ = some (.iface T x) := by rw [hF.bl.cell hp]; exact hc
                obtain ⟨a3, n3, c3, rfl⟩ := own_sl g1
                have HF2 := Lib.hid hF
                have P4 := Lib.hid p4
                refine hKK.out _ _ p3 (fun hHeld => ?_)
                clear hKK KK hF g1 g2 g3 g4 p3 p4
                refine wpAnyH_take (i := 17) (v := ?_) rfl (by kernel_rfl) (by kernel_rfl) (by kernel_rfl) (fun _ _ _ h => h) (Or.inl ⟨by kernel_rfl, ?_⟩) hHeld ?_
                rotate_left
                · intro w hSw
                  go_simp
                  try with_reducible rfl
                refine wpAnyH_take (i := 18) (v := ?_) rfl (by kernel_rfl) (by kernel_rfl) (by kernel_rfl) (fun _ _ _ h => h) (Or.inl ⟨by kernel_rfl, ?_⟩) hHeld ?_
                rotate_left
                · intro w hSw
                  go_simp
                  try with_reducible rfl
                refine wpAnyH_ready (rs := [19]) (by kernel_rfl) (by simp) ?_
                refine AllReadyH.cons rfl (fun KK hKK => ?_) ?_
                rotate_left
                · exact AllReadyH.nil
                rw [if_pos (by kernel_rfl)]
                go_simp
                refine hKK.out _ _ P4.out (fun hHeld => ?_)
                clear hKK KK hHeld q1 q2 P4
                refine wpAnyH_done (by kernel_rfl) ?_ _
                refine NoPanic.normal ?_
                generalize X3.setCell ⟨w.heap.size, 1, none⟩ (.slice a3 n3 c3) = X4 at HF2 ⊢
                go_wp2_with fail
                go_roundw
                case rel => exact ⟨n + 1, la2, lc2, nv2, .slice a3 n3 c3, by rw [HL1.out], hnm, Lib.hid (by rw [HL1.out]; exact HF2.out), Lib.hid ⟨HW2.out, by rw [HL1.out]; exact HML.out⟩⟩
                case measure => rw [HF2.out.gl, HGL.out]; omega
              refine AllReadyH.cons rfl (fun KK hKK => ?_) ?_
              ·
                rw [if_pos (by kernel_rfl)]
                go_simp
                refine HC13.out.mono ?_
                rintro e X1 ⟨rfl, hbq⟩
                have hb1 := hb0.trans (hbq.mono hb0.size)
                refine hKK.out _ _ (HWC.out _ hb1).1 (fun hHeld => ?_)
                clear hKK KK hbq m2 e2 c1
                refine wpAnyH_take (i := 14) (v := ?_) rfl (by kernel_rfl) (by kernel_rfl) (by kernel_rfl) (fun _ _ _ h => h) (Or.inl ⟨by kernel_rfl, ?_⟩) hHeld ?_
                rotate_left
                · intro w hSw
                  go_simp
                  try with_reducible rfl
                have p1 := (HWC.out _ hb1).1
                have c1 := (HWC.out _ hb1).2
                have p2 := (HWC.out _ (hb1.alloc hb1.size (.cells #[.bool bv] 4))).1
                have c2 := (HWC.out _ (hb1.alloc hb1.size (.cells #[.bool bv] 4))).2
                have HX := Lib.hid (HHB.out _ hb1)
                refine wpAnyH_ready (rs := [4, 15]) (by kernel_rfl) (by simp) ?_
                refine AllReadyH.cons rfl (fun KK hKK => ?_) ?_
                ·
                  rw [if_pos (by kernel_rfl)]
                  go_simp
                  refine hKK.out _ _ hHeld (fun hHeld => ?_)
                  clear hKK KK
                  refine wpAnyH_ready (rs := [15]) (by kernel_rfl) (by simp) ?_
                  refine AllReadyH.cons rfl (fun KK hKK => ?_) ?_
                  rotate_left
                  · exact AllReadyH.nil
                  rw [if_pos (by kernel_rfl)]
                  go_simp
                  refine hKK.out _ _ p2 (fun hHeld => ?_)
                  clear hKK KK
                  refine wpAnyH_ready (rs := [16]) (by kernel_rfl) (by simp) ?_
                  refine AllReadyH.cons rfl (fun KK hKK => ?_) ?_
                  rotate_left
                  · exact AllReadyH.nil
                  refine step_ap1' elBoolG rfl HX.out.acc HLA.out HX.out.bl.size rfl (.tmp 98) (.tmp 109) rfl (by kernel_rfl) (by kernel_rfl) ?_
                  intro v3 X3 g1 g2 g3 g4
                  obtain ⟨hF, q1, q2⟩ := HX.out.accN HACC2.out g1 g4
                  have p3 : X3.cell? ⟨p, 0, none⟩ = some (.iface T x) := by
                    have e3 := Eff.ofGrown g4
                    exact e3.cell (p := ⟨p, 0, none⟩) (fun e => by have := (HX.out.acc.lt p e).1; omega) p1
                  have p4 : (X3.setCell ⟨w.heap.size, 1, none⟩ v3).cell? ⟨p, 0, none⟩ = some (.iface T x) := by rw [hF.bl.cell hp]; exact hc
                  obtain ⟨a3, n3, c3, rfl⟩ := own_sl g1
                  have HF2 := Lib.hid hF
                  have P4 := Lib.hid p4
                  refine hKK.out _ _ p3 (fun hHeld => ?_)
                  clear hKK KK hF g1 g2 g3 g4 p3 p4
                  refine wpAnyH_take (i := 17) (v := ?_) rfl (by kernel_rfl) (by kernel_rfl) (by kernel_rfl) (fun _ _ _ h => h) (Or.inl ⟨by kernel_rfl, ?_⟩) hHeld ?_
                  rotate_left
                  · intro w hSw
                    go_simp
                    try with_reducible rfl
                  refine wpAnyH_take (i := 18) (v := ?_) rfl (by kernel_rfl) (by kernel_rfl) (by kernel_rfl) (fun _ _ _ h => h) (Or.inl ⟨by kernel_rfl, ?_⟩) hHeld ?_
                  rotate_left
                  · intro w hSw
                    go_simp
                    try with_reducible rfl
                  refine wpAnyH_ready (rs := [19]) (by kernel_rfl) (by simp) ?_
                  refine AllReadyH.cons rfl (fun KK hKK => ?_) ?_
                  rotate_left
                  · exact AllReadyH.nil
                  rw [if_pos (by kernel_rfl)]
                  go_simp
                  refine hKK.out _ _ P4.out (fun hHeld => ?_)
                  clear hKK KK hHeld q1 q2 P4
                  refine wpAnyH_done (by kernel_rfl) ?_ _
                  refine NoPanic.normal ?_
                  generalize X3.setCell ⟨w.heap.size, 1, none⟩ (.slice a3 n3 c3) = X4 at HF2 ⊢
                  go_wp2_with fail
                  go_roundw
                  case rel => exact ⟨n + 1, la2, lc2, nv2, .slice a3 n3 c3, by rw [HL1.out], hnm, Lib.hid (by rw [HL1.out]; exact HF2.out), Lib.hid ⟨HW2.out, by rw [HL1.out]; exact HML.out⟩⟩
                  case measure => rw [HF2.out.gl, HGL.out]; omega
                refine AllReadyH.cons rfl (fun KK hKK => ?_) ?_
                ·
                  rw [if_pos (by kernel_rfl)]
                  go_simp
                  refine hKK.out _ _ p2 (fun hHeld => ?_)
                  clear hKK KK
                  refine wpAnyH_ready (rs := [4]) (by kernel_rfl) (by simp) ?_
                  refine AllReadyH.cons rfl (fun KK hKK => ?_) ?_
                  rotate_left
                  · exact AllReadyH.nil
                  rw [if_pos (by kernel_rfl)]
                  go_simp
                  refine hKK.out _ _ hHeld (fun hHeld => ?_)
                  clear hKK KK
                  refine wpAnyH_ready (rs := [16]) (by kernel_rfl) (by simp) ?_
                  refine AllReadyH.cons rfl (fun KK hKK => ?_) ?_
                  rotate_left
                  · exact AllReadyH.nil
                  refine step_ap1' elBoolG rfl HX.out.acc HLA.out HX.out.bl.size rfl (.tmp 98) (.tmp 109) rfl (by kernel_rfl) (by kernel_rfl) ?_
                  intro v3 X3 g1 g2 g3 g4
                  obtain ⟨hF, q1, q2⟩ := HX.out.accN HACC2.out g1 g4
                  have p3 : X3.cell? ⟨p, 0, none⟩ = some (.iface T x) := by
                    have e3 := Eff.ofGrown g4
                    exact e3.cell (p := ⟨p, 0, none⟩) (fun e => by have := (HX.out.acc.lt p e).1; omega) p1
                  have p4 : (X3.setCell ⟨w.heap.size, 1, none⟩ v3).cell? ⟨p, 0, none⟩ = some (.iface T x) := by rw [hF.bl.cell hp]; exact hc
                  obtain ⟨a3, n3, c3, rfl⟩ := own_sl g1
                  have HF2 := Lib.hid hF
                  have P4 := Lib.hid p4
                  refine hKK.out _ _ p3 (fun hHeld => ?_)
                  clear hKK KK hF g1 g2 g3 g4 p3 p4
                  refine wpAnyH_take (i := 17) (v := ?_) rfl (by kernel_rfl) (by kernel_rfl) (by kernel_rfl) (fun _ _ _ h => h) (Or.inl ⟨by kernel_rfl, ?_⟩) hHeld ?_
                  rotate_left
                  · intro w hSw
                    go_simp
                    try with_reducible rfl
                  refine wpAnyH_take (i := 18) (v := ?_) rfl (by kernel_rfl) (by kernel_rfl) (by kernel_rfl) (fun _ _ _ h => h) (Or.inl ⟨by kernel_rfl, ?_⟩) hHeld ?_
                  rotate_left
                  · intro w hSw
                    go_simp
                    try with_reducible rfl
                  refine wpAnyH_ready (rs := [19]) (by kernel_rfl) (by simp) ?_
                  refine AllReadyH.cons rfl (fun KK hKK => ?_) ?_
                  rotate_left
                  · exact AllReadyH.nil
                  rw [if_pos (by kernel_rfl)]
                  go_simp
                  refine hKK.out _ _ P4.out (fun hHeld => ?_)
                  clear hKK KK hHeld q1 q2 P4
                  refine wpAnyH_done (by kernel_rfl) ?_ _
                  refine NoPanic.normal ?_
                  generalize X3.setCell ⟨w.heap.size, 1, none⟩ (.slice a3 n3 c3) = X4 at HF2 ⊢
                  go_wp2_with fail
                  go_roundw
                  case rel => exact ⟨n + 1, la2, lc2, nv2, .slice a3 n3 c3, by rw [HL1.out], hnm, Lib.hid (by rw [HL1.out]; exact HF2.out), Lib.hid ⟨HW2.out, by rw [HL1.out]; exact HML.out⟩⟩
                  case measure => rw [HF2.out.gl, HGL.out]; omega
                exact AllReadyH.nil
              exact AllReadyH.nil
    · have hlen : L.length = n := by
        have h1 := lys_pos M (256 * n)
        rw [HL.out] at h1
        have h2 := HW.out.1 (n - 1) (by omega)
        have h3 := (lys_mono M (show 256 * (n - 1) ≤ 256 * n by omega)).length_le
        rw [HL.out] at h3
        omega
      have hyw : LyW M n := ⟨HW.out.1, by rw [HL.out]; exact hlen⟩
      have hf := HS.out.gr
      have hb := HS.out.bl
      have HF := Lib.hid hf
      have HB := Lib.hid hb
      have HY := Lib.hid hyw
      clear hlen hyw hf hb HS hgl
      go_wp2
      go_ret2
      exact LayPost.yes HY.out hn HF.out HB.out
end Go.Proofs.YtejmjjgbbojfbaaDoor

/- codec.Reader: Raw, Text, Word32, Word64. -/
import Derived.Test.YtmmflhippbegaaaDoorRAll
namespace Go.Proofs.YtmmflhippbegaaaDoor
set_option linter.unusedVariables false
open Go.ChangeShapes Go.WideShapes Go.ChangeAt Go.RowKit

theorem Eff.setP {w w' : World} {p : Nat} (h : Eff (· = p) w w') (i : Nat) (u : Value) : Eff (· = p) w (w'.setCell ⟨p, i, none⟩ u) := h.setCell (p := ⟨p, i, none⟩) (fun _ => rfl) u

theorem splice_zer (n : Nat) (cs : List Value) (h : cs.length = n) : splice (zer n) 0 cs = cs := by
  unfold splice
  have e : (zer n).drop (0 + n) = [] := List.drop_eq_nil_of_le (by simp [zer])
  rw [List.take_zero, List.nil_append, h, e, List.append_nil]
theorem rraw_end {w w4 : World} {base p : Nat} {v : Value} {bs : List UInt8} {k n : Nat} (h : Rdr w base p v bs k) (hcl : ((bs.drop k).take n).length = n) (hn : k + n ≤ bs.length) (hb : Below w.heap.size w w4)
    (hg : w4.heap[w.heap.size]? = some (.cells (bytesV ((bs.drop k).take n)).toArray 5 (0, 0))) :
    Own (w4.setCell ⟨p, 0, none⟩ (.int .i64 ((k + n : Nat) : Int))) w.heap.size 5 (.slice (some ⟨w.heap.size, 0, none⟩) n n) (bytesV ((bs.drop k).take n)) ∧
    Rdr (w4.setCell ⟨p, 0, none⟩ (.int .i64 ((k + n : Nat) : Int))) base p v bs (k + n) ∧ Eff (· = p) w (w4.setCell ⟨p, 0, none⟩ (.int .i64 ((k + n : Nat) : Int))) := by
  have hsm := h.sm
  have hr4 := h.eff (Eff.of_below hb (fun _ => False)) (fun _ _ f => f)
  have hplt := lt_of_heap h.blk
  refine ⟨.inr ⟨w.heap.size, n, (bytesV ((bs.drop k).take n)).toArray, ?_, Nat.le_refl _, ?_, ?_, ?_, ?_, ?_⟩, hr4.move (k + n) hn, (Eff.of_below hb (· = p)).setP 0 _⟩
  · rw [bytesV_length, hcl]
  · rw [Below.heap_setCell w4 _ _ _ (by simp only; omega)]; exact hg
  · rw [bytesV_length, hcl]; exact Nat.le_refl _
  · simp [bytesV_length, hcl]
  · unfold maxLen; omega
  · simp

set_option maxRecDepth 100000 in
set_option maxHeartbeats 1000000 in
theorem rraw_ok (w : World) (base p : Nat) (v : Value) (bs : List UInt8) (k : Nat) (h : Rdr w base p v bs k) (n : Nat) (hn : k + n ≤ bs.length) :
    Calls Tryd.prog 27 #[.pointer (some ⟨p, 0, none⟩), .int .i64 n] w fun e w' => ∃ v', e = .returned (.tuple #[v', .nilIface]) ∧ Own w' w.heap.size 5 v' (bytesV ((bs.drop k).take n)) ∧ Rdr w' base p v bs (k + n) ∧ Eff (· = p) w w' := by
  have C1 := rleft_any w base p v bs k h
  have hsm := h.sm
  have hle := h.le
  have he : (Tryd.prog.info? 5).map (·.size) = some 1 := by kernel_rfl
  have t1 : decide ((n : Int) < 0) = false := decide_eq_false (by omega)
  have t2 : decide ((bs.length : Int) - (k : Int) < n) = false := decide_eq_false (by omega)
  have hmk := fun (w : World) => make_row elBytes rfl n (by omega) (n : Int) rfl w
  have hcl : ((bs.drop k).take n).length = n := by rw [List.length_take, List.length_drop]; omega
  have hcl2 : (bytesV ((bs.drop k).take n)).length = n := by rw [bytesV_length, hcl]
  go_enter Tryd.func27, Tryd.ntmps27
  go_wp2_with fail
  refine C1.mono ?_
  rintro e w' ⟨rfl, d, rfl⟩
  have hd := h.drewN d
  obtain ⟨av, nv, cv, rfl⟩ := own_sl h.own
  have hnv := h.own.len
  rw [bytesV_length] at hnv
  subst hnv
  have hcap := own_cap h.own
  have hz0 : ((w.drewN d).alloc (.cells (madeCells #[.int .u8 0] n) 5)).heap[w.heap.size]? = some (.cells (zer n).toArray 5 (0, 0)) := by rw [show w.heap.size = (w.drewN d).heap.size from rfl, heap_alloc_new, madeZer]
  have hb1 : Below w.heap.size w ((w.drewN d).alloc (.cells (madeCells #[.int .u8 0] n) 5)) := (below_drewN (Below.refl _ _) d).alloc (Nat.le_refl _) _
  have hr1 := h.eff (Eff.of_below hb1 (fun _ => False)) (fun _ _ f => f)
  have hc0 := hr1.c0
  have hc2 := hr1.c2
  obtain ⟨W1, hW1⟩ : ∃ W1, W1 = (w.drewN d).alloc (.cells (madeCells #[.int .u8 0] n) 5) := ⟨_, rfl⟩
  go_wp2
  rw [← hW1] at hz0 hb1 hr1 hc0 hc2 ⊢
  have hcells : ∀ g, av = some ⟨g, 0, none⟩ → ∀ j v, (bytesV ((bs.drop k).take n))[j]? = some v → W1.drew.cell? ((⟨g, k, none⟩ : Addr).add j) = some v := by
    rintro g rfl j v hj
    have hjn : j < n := by have := (List.getElem?_eq_some_iff.1 hj).1; omega
    rw [addr_add]
    have e : (bytesV bs)[k + j]? = some v := by
      rw [← hj]; unfold bytesV
      rw [List.getElem?_map, List.getElem?_map, List.getElem?_take, if_pos hjn, List.getElem?_drop]
    exact hr1.own.get e
  have HCE := Lib.hid hcells
  have HZ := Lib.hid hz0
  have HB := Lib.hid hb1
  have HO := Lib.hid (bytesV_one ((bs.drop k).take n))
  have hfit : 0 + (bytesV ((bs.drop k).take n)).length ≤ (zer n).length := by rw [hcl2]; simp [zer]
  have hmin : (bytesV ((bs.drop k).take n)).length = Nat.min (bs.length - k) n := by rw [hcl2]; exact (Nat.min_eq_right (by omega)).symm
  have q1 : (k : Int) ≤ (bs.length : Nat) := by omega
  have q2 : (bs.length : Int) ≤ (cv : Nat) := by omega
  have q3 : (cv : Int) ≤ 9223372036854775807 := by have := hcap.2; unfold maxLen at this; omega
  have hsp : splice (zer n) 0 (bytesV ((bs.drop k).take n)) = bytesV ((bs.drop k).take n) := splice_zer n _ hcl2
  have HSP := Lib.hid hsp
  clear hcells hz0 hb1 hsp C1 hmk hd hcap hW1
  have hkc : k < cv ∨ k = cv := by omega
  rcases hkc with hkc | hkc
  · obtain ⟨g, rfl⟩ : ∃ g, av = some ⟨g, 0, none⟩ := by
      rcases hr1.own.shape with ⟨e, _⟩ | ⟨g, c, e, _⟩
      · injection e with _ _ e; omega
      · injection e with e _ _; exact ⟨g, e⟩
    have hne : ¬ cv = k := by omega
    go_region_law (refine step_copy_splice rfl (.tmp 19) (.tmp 29) 37 37 rfl 5 Tryd.underlying37 he _ _ _ _ _ _ rfl rfl w.heap.size 0 (zer n) 5 HZ.out (bytesV ((bs.drop k).take n)) hmin (fun _ => ⟨rfl, _, rfl, HCE.out g rfl⟩) hfit HO.out w.heap.size w (HB.out.drew) (Nat.le_refl _) ?_; intro w4 hg4 hb4)
    all_goals
      rw [HSP.out] at hg4
      have H4 := Lib.hid (rraw_end h hcl hn hb4 hg4.out)
      have hr4 := h.eff (Eff.of_below hb4 (fun _ => False)) (fun _ _ f => f)
      have hc4 := hr4.c0
      have hf4 := hr4.fz 0
      clear hg4 hb4 hr4
      go_wp2
      go_ret2
      exact ⟨_, rfl, H4.out.1, H4.out.2.1, H4.out.2.2⟩
  · have hn0 : n ≤ 0 := by omega
    have hpos : 0 < (bytesV ((bs.drop k).take n)).length → False := by rw [hcl2]; omega
    have HPOS := Lib.hid hpos
    subst hkc
    clear hpos hn0
    go_region_law (refine step_copy_splice rfl (.tmp 19) (.tmp 29) 37 37 rfl 5 Tryd.underlying37 he _ _ _ _ _ _ rfl rfl w.heap.size 0 (zer n) 5 HZ.out (bytesV ((bs.drop k).take n)) hmin (fun h => (HPOS.out h).elim) hfit HO.out w.heap.size w (HB.out.drew) (Nat.le_refl _) ?_; intro w4 hg4 hb4)
    all_goals
      rw [HSP.out] at hg4
      have H4 := Lib.hid (rraw_end h hcl hn hb4 hg4.out)
      have hr4 := h.eff (Eff.of_below hb4 (fun _ => False)) (fun _ _ f => f)
      have hc4 := hr4.c0
      have hf4 := hr4.fz 0
      clear hg4 hb4 hr4
      go_wp2
      go_ret2
      exact ⟨_, rfl, H4.out.1, H4.out.2.1, H4.out.2.2⟩
/-- What Raw answers. -/
def RawPost (w : World) (base p : Nat) (v : Value) (bs : List UInt8) (k : Nat) (EA : Nat → Addr) (n : Int) (e : Ending) (w' : World) : Prop :=
  (∀ m, getRaw n (bs.drop k) = .error m → e = .returned (.tuple #[.slice none 0 0, errV EA m]) ∧ Rdr w' base p v bs k ∧ Eff (· = p) w w') ∧
  (∀ x m, getRaw n (bs.drop k) = .ok (x, m) → ∃ v', e = .returned (.tuple #[v', .nilIface]) ∧ Own w' w.heap.size 5 v' (bytesV x) ∧ Rdr w' base p v bs (k + m) ∧ Eff (· = p) w w')
set_option maxRecDepth 100000 in
theorem rraw_any (w : World) (base p : Nat) (v : Value) (bs : List UInt8) (k : Nat) (h : Rdr w base p v bs k) (EA : Nat → Addr) (hE : RErr w EA) (n : Int) (hn0 : -9223372036854775808 ≤ n) (hn1 : n ≤ 9223372036854775807) :
    Calls Tryd.prog 27 #[.pointer (some ⟨p, 0, none⟩), .int .i64 n] w (RawPost w base p v bs k EA n) := by
  have hle := h.le
  have hsm := h.sm
  by_cases hneg : n < 0
  · have hres : getRaw n (bs.drop k) = .error 8 := by unfold getRaw; rw [if_pos hneg]
    have t1 : decide (n < 0) = true := decide_eq_true hneg
    have hr := hE.r
    have HR := Lib.hid hres
    clear hres
    go_enter Tryd.func27, Tryd.ntmps27
    go_wp2
    go_quiet (fail)
    go_wp2
    go_ret2
    exact ⟨fun m hm => (by rw [HR.out] at hm; injection hm with hm; subst hm; exact ⟨rfl, h.drewN _, (Eff.refl _ _).drewN _⟩), fun x m hm => (by rw [HR.out] at hm; cases hm)⟩
  · by_cases hsh : ((bs.drop k).length : Int) < n
    · have hres : getRaw n (bs.drop k) = .error 1 := by unfold getRaw; rw [if_neg hneg, if_pos hsh]
      rw [List.length_drop] at hsh
      have t1 : decide (n < 0) = false := decide_eq_false hneg
      have t2 : decide ((bs.length : Int) - (k : Int) < n) = true := decide_eq_true (by omega)
      have hs := hE.s
      have C1 := rleft_any w base p v bs k h
      have HR := Lib.hid hres
      clear hres
      go_enter Tryd.func27, Tryd.ntmps27
      go_wp2_with fail
      refine C1.mono ?_
      rintro e w' ⟨rfl, d, rfl⟩
      go_wp2
      go_quiet (fail)
      go_wp2
      go_ret2
      exact ⟨fun m hm => (by rw [HR.out] at hm; injection hm with hm; subst hm; exact ⟨rfl, (h.drewN d).drewN _, ((Eff.refl _ _).drewN d).drewN _⟩), fun x m hm => (by rw [HR.out] at hm; cases hm)⟩
    · obtain ⟨N, rfl⟩ : ∃ N : Nat, n = N := ⟨n.toNat, by omega⟩
      have hres : getRaw N (bs.drop k) = .ok ((bs.drop k).take N, N) := by unfold getRaw; rw [if_neg hneg, if_neg hsh, Int.toNat_natCast]
      rw [List.length_drop] at hsh
      refine (rraw_ok w base p v bs k h N (by omega)).mono ?_
      rintro e w' ⟨v', he, h1, h2, h3⟩
      exact ⟨fun m hm => (by rw [hres] at hm; cases hm), fun x m hm => (by rw [hres] at hm; injection hm with hm; injection hm with e1 e2; subst e1 e2; exact ⟨v', he, h1, h2, h3⟩)⟩

theorem rdone_any (w : World) (base p : Nat) (v : Value) (bs : List UInt8) (k : Nat) (h : Rdr w base p v bs k) (hk : k = bs.length) :
    Calls Tryd.prog 30 #[.pointer (some ⟨p, 0, none⟩)] w fun e w' => e = .returned .nilIface ∧ ∃ d, w' = w.drewN d := by
  have hc := h.c0
  have hd := h.c1
  have hs := h.sm
  have t1 : decide (k < bs.length) = false := decide_eq_false (by omega)
  clear hk
  go_enter Tryd.func30, Tryd.ntmps30
  go_wp2
  go_quiet (fail)
  go_wp2
  go_ret
  exact ⟨rfl, _, rfl⟩
set_option maxRecDepth 100000 in
theorem rtext_any (w : World) (base p : Nat) (v : Value) (bs : List UInt8) (k : Nat) (h : Rdr w base p v bs k) (EA : Nat → Addr) (hE : RErr w EA) (hG : GLow base) (most : Int) (hm0 : -9223372036854775808 ≤ most) (hm1 : most ≤ 9223372036854775807) :
    Calls Tryd.prog 72 #[.pointer (some ⟨p, 0, none⟩), .int .i64 most] w (ROut w base p v bs k EA (.string ⟨#[]⟩) (fun s : List UInt8 => .string (strOf s)) (getText most (bs.drop k))) := by
  have C1 := rupto_out w base p v bs k h EA hE hG most hm0 hm1
  have hc0 := h.c0
  have hle := h.le
  have hsm := h.sm
  have hp := h.hp
  cases hres : getUpto most (bs.drop k) with
  | error n =>
    have hup : getText most (bs.drop k) = .error n := by unfold getText; rw [hres]
    have HR := Lib.hid hres
    have HU := Lib.hid hup
    clear hres hup
    go_enter Tryd.func72, Tryd.ntmps72
    go_wp2_with fail
    refine C1.mono ?_
    rintro e w' ⟨h1, _⟩
    obtain ⟨rfl, hr, he⟩ := h1 n HR.out
    unfold errV
    go_wp2
    go_ret2
    exact ROut.err HU.out rfl hr he
  | ok x =>
    obtain ⟨u, n⟩ := x
    obtain ⟨hgu, hum⟩ := getUpto_len hres
    have hlen := (getU_len hgu).1
    rw [List.length_drop] at hlen
    have hu := (getU_ok hgu).1
    have hkn : k + n ≤ bs.length := by omega
    have HR := Lib.hid hres
    have HC := Lib.hid C1
    clear C1
    by_cases hsh : bs.length < k + n + u
    · have hup : getText most (bs.drop k) = .error 1 := by unfold getText; rw [hres]; exact if_pos (by rw [List.drop_drop, List.length_drop]; omega)
      have HU := Lib.hid hup
      have HE0 := Lib.hid hE
      have HG := Lib.hid hG
      clear hres hup hgu hE hG
      go_enter Tryd.func72, Tryd.ntmps72
      go_wp2_with fail
      refine HC.out.mono ?_
      rintro e w' ⟨_, h1⟩
      obtain ⟨rfl, hr, he⟩ := h1 u n HR.out
      obtain ⟨K, hK⟩ : ∃ K, K = k + n := ⟨_, rfl⟩
      rw [← hK] at hr
      have C2 := rleft_any w' base p v bs _ hr
      have t2 : decide ((bs.length : Int) - (K : Int) < (u : Int)) = true := decide_eq_true (by omega)
      have hKb := hr.le
      clear h1 hK
      go_wp2_with fail
      refine C2.mono ?_
      rintro e w'' ⟨rfl, d, rfl⟩
      have hrd := hr.drewN d
      have hed := he.drewN d
      have hl := (HE0.out.eff hed HG.out (fun k hk => by subst hk; exact hp)).s
      have hf := hrd.fz 0
      have hcc := hrd.c0
      have hl2 : ((w'.drewN d).setCell ⟨p, 0, none⟩ (.int .i64 k)).cell? ⟨2, 0, none⟩ = some (errV EA 1) := by
        rw [World.cell?_of_block (Below.heap_setCell _ _ _ 2 (by have := HG.out.1; simp only; omega))]; exact hl
      have HM := Lib.hid (hrd.move k hle)
      have HF := Lib.hid (hed.setP 0 (.int .i64 (k : Nat)))
      clear hrd hed hl hr he C2
      unfold errV at hl2
      go_wp2
      go_quiet (fail)
      go_wp2
      go_ret2
      exact ROut.err HU.out rfl (HM.out.drewN _) (HF.out.drewN _)
    · have hup : getText most (bs.drop k) = .ok (((bs.drop k).drop n).take u, n + u) := by unfold getText; rw [hres]; exact if_neg (by rw [List.drop_drop, List.length_drop]; omega)
      have HU := Lib.hid hup
      clear hres hup hgu
      obtain ⟨av, nv, cv, rfl⟩ := own_sl h.own
      have hnv := h.own.len
      rw [bytesV_length] at hnv
      subst hnv
      have hcap := own_cap h.own
      go_enter Tryd.func72, Tryd.ntmps72
      go_wp2_with fail
      refine HC.out.mono ?_
      rintro e w' ⟨_, h1⟩
      obtain ⟨rfl, hr, he⟩ := h1 u n HR.out
      obtain ⟨K, hK⟩ : ∃ K, K = k + n := ⟨_, rfl⟩
      rw [← hK] at hr
      have C2 := rleft_any w' base p _ bs _ hr
      have t2 : decide ((bs.length : Int) - (K : Int) < (u : Int)) = false := decide_eq_false (by omega)
      have hKu : K + u ≤ bs.length := by omega
      have HK := Lib.hid hK
      have HDD := Lib.hid (show (bs.drop k).drop n = bs.drop K by rw [List.drop_drop, hK])
      clear h1 hK
      go_wp2_with fail
      refine C2.mono ?_
      rintro e w'' ⟨rfl, d, rfl⟩
      have hrd := hr.drewN d
      have hf := hrd.fz 0
      have hcc := hrd.c0
      have hmv := hrd.move (K + u) hKu
      have HF := Lib.hid ((he.drewN d).setP 0 (.int .i64 ((K + u : Nat) : Int)))
      have HM := Lib.hid hmv
      rw [Int.natCast_add K u] at HM HF hmv
      obtain ⟨W1, hW1⟩ : ∃ W1, W1 = (w'.drewN d).setCell ⟨p, 0, none⟩ (.int .i64 ((K : Int) + (u : Int))) := ⟨_, rfl⟩
      have hw1r : Rdr W1 base p (.slice av bs.length cv) bs (K + u) := by rw [hW1]; exact hmv
      have hcs : ((bs.drop K).take u).length = u := by rw [List.length_take, List.length_drop]; omega
      have c1 := hw1r.c0
      have c2 := hw1r.c2
      rw [Int.natCast_add K u] at c1
      have q1 : IntKind.i64.wrap ((K : Int) + (u : Int) - (u : Int)) = (K : Int) := by rw [show (K : Int) + (u : Int) - (u : Int) = (K : Int) by omega]; exact IntWalk.i64_in _ (by omega)
      have q2 : (K : Int) + (u : Int) ≤ (bs.length : Nat) := by omega
      have q3 : (bs.length : Int) ≤ (cv : Nat) := by omega
      have q4 : (cv : Int) ≤ 9223372036854775807 := by have := hcap.2; unfold maxLen at this; omega
      have q5 : (K : Int) + (u : Int) - (K : Int) = u := by omega
      rw [← hW1] at HF HM
      have hkc : K < cv ∨ K = cv := by omega
      rcases hkc with hkc | hkc
      · obtain ⟨g, rfl⟩ : ∃ g, av = some ⟨g, 0, none⟩ := by
          rcases hw1r.own.shape with ⟨e, _⟩ | ⟨g, c, e, _⟩
          · injection e with _ _ e; omega
          · injection e with e _ _; exact ⟨g, e⟩
        have hrd : ∀ d, Rd (W1.drewN d) (.slice (some ⟨g, K, none⟩) u (cv - K)) (bytesV ((bs.drop K).take u)) := fun d => by
          refine ⟨_, cv - K, by rw [bytesV_length, hcs], by rw [bytesV_length, hcs]; omega, fun _ => ⟨g, K, rfl, fun j x hx => ?_⟩⟩
          have hjn : j < u := by have := (List.getElem?_eq_some_iff.1 hx).1; rw [bytesV_length, hcs] at this; exact this
          have e : (bytesV bs)[K + j]? = some x := by
            rw [← hx]; unfold bytesV
            rw [List.getElem?_map, List.getElem?_map, List.getElem?_take, if_pos hjn, List.getElem?_drop]
          exact hw1r.own.get e
        have hrun := fun d => run_str (P := Tryd.prog) Tryd.underlying37 Tryd.underlying5 Tryd.underlying9 (hrd d)
        have hne : ¬ cv = K := by omega
        go_upto_region 9 with fail
        rw [← hW1]
        clear hrd hW1 hmv
        go_quiet (fail)
        go_wp2
        go_ret2
        exact ROut.ok HU.out (by rw [HDD.out]; rfl) (by rw [show k + (n + u) = K + u by have := HK.out; omega]; exact HM.out.drewN _) (HF.out.drewN _)
      · subst hkc
        have hu0 : u ≤ 0 := by omega
        have hrd : ∀ d, Rd (W1.drewN d) (.slice av u 0) (bytesV ((bs.drop K).take u)) := fun d =>
          ⟨_, 0, by rw [bytesV_length, hcs], by rw [bytesV_length, hcs]; omega, fun h0 => by rw [bytesV_length, hcs] at h0; omega⟩
        have hrun := fun d => run_str (P := Tryd.prog) Tryd.underlying37 Tryd.underlying5 Tryd.underlying9 (hrd d)
        clear hu0
        go_upto_region 9 with fail
        rw [← hW1]
        clear hrd hW1 hmv
        go_quiet (fail)
        go_wp2
        go_ret2
        exact ROut.ok HU.out (by rw [HDD.out]; rfl) (by rw [show k + (n + u) = K + u by have := HK.out; omega]; exact HM.out.drewN _) (HF.out.drewN _)
end Go.Proofs.YtmmflhippbegaaaDoor

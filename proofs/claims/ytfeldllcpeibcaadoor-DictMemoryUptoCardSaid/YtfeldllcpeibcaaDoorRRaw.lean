/- codec.Reader: Raw, Text, Word32, Word64. -/
import Derived.Test.YtfeldllcpeibcaaDoorRAll
namespace Go.Proofs.YtfeldllcpeibcaaDoor
set_option linter.unusedVariables false
open Go.ChangeShapes Go.WideShapes Go.ChangeAt Go.RowKit

theorem Eff.setP {w w' : World} {p : Nat} (h : Eff (· = p) w w') (i : Nat) (u : Value) : Eff (· = p) w (w'.setCell ⟨p, i, none⟩ u) := h.setCell (p := ⟨p, i, none⟩) (fun _ => rfl) u

theorem splice_zer (n : Nat) (cs : List Value) (h : cs.length = n) : splice (zer n) 0 cs = cs := by
  unfold splice
  have e : (zer n).drop (0 + n) = [] := List.drop_eq_nil_of_le (by simp [zer])
  rw [List.take_zero, List.nil_append, h, e, List.append_nil]
theorem rraw_end {w w4 : World} {base p : Nat} {v : Value} {bs : List UInt8} {k n : Nat} (h : Rdr w base p v bs k) (hcl : ((bs.drop k).take n).length = n) (hn : k + n ≤ bs.length) (hb : Below w.heap.size w w4)
    (hg : w4.heap[w.heap.size]? = some (.cells (bytesV ((bs.drop k).take n)).toArray 5 (0, 0))) :
    Own (w4.setCell ⟨p, 0, none⟩ (.int .i64 ((k + n : Nat) : Int))) w.heap.size 5 (.slice (some ⟨w.heap.size, 0, none⟩) n n) (bytesV ((bs.drop k).take n)) ∧
    Rdr (w4.setCell ⟨p, 0, none⟩ (.int .i64 ((k + n : Nat) : Int))) base p v bs (k + n) ∧ Eff (· = p) w (w4.setCell ⟨p, 0, none⟩ (.int .i64 ((k + n : Nat) : Int))) := by
  have hsm := h.sm
  have hr4 := h.eff (Eff.of_below hb (fun _ => False)) (fun _ _ f => f)
  have hplt := lt_of_heap h.blk
  refine ⟨.inr ⟨w.heap.size, n, (bytesV ((bs.drop k).take n)).toArray, ?_, Nat.le_refl _, ?_, ?_, ?_, ?_, ?_⟩, hr4.move (k + n) hn, (Eff.of_below hb (· = p)).setP 0 _⟩
  · rw [bytesV_length, hcl]
  · rw [Below.heap_setCell w4 _ _ _ (by simp only; omega)]; exact hg
  · rw [bytesV_length, hcl]; exact Nat.le_refl _
  · simp [bytesV_length, hcl]
  · unfold maxLen; omega
  · simp

/-- What Raw answers. -/
def RawPost (w : World) (base p : Nat) (v : Value) (bs : List UInt8) (k : Nat) (EA : Nat → Addr) (n : Int) (e : Ending) (w' : World) : Prop :=
  (∀ m, getRaw n (bs.drop k) = .error m → e = .returned (.tuple #[.slice none 0 0, errV EA m]) ∧ Rdr w' base p v bs k ∧ Eff (· = p) w w') ∧
  (∀ x m, getRaw n (bs.drop k) = .ok (x, m) → ∃ v', e = .returned (.tuple #[v', .nilIface]) ∧ Own w' w.heap.size 5 v' (bytesV x) ∧ Rdr w' base p v bs (k + m) ∧ Eff (· = p) w w')
theorem rdone_any (w : World) (base p : Nat) (v : Value) (bs : List UInt8) (k : Nat) (h : Rdr w base p v bs k) (hk : k = bs.length) :
    Calls Tryd.prog 68 #[.pointer (some ⟨p, 0, none⟩)] w fun e w' => e = .returned .nilIface ∧ ∃ d, w' = w.drewN d := by
  have hc := h.c0
  have hd := h.c1
  have hs := h.sm
  have t1 : decide (k < bs.length) = false := decide_eq_false (by omega)
  clear hk
  go_enter Tryd.func68, Tryd.ntmps68
  go_wp2
  go_quiet (fail)
  go_wp2
  go_ret
  exact ⟨rfl, _, rfl⟩
set_option maxRecDepth 100000 in
theorem rtext_any (w : World) (base p : Nat) (v : Value) (bs : List UInt8) (k : Nat) (h : Rdr w base p v bs k) (EA : Nat → Addr) (hE : RErr w EA) (hG : GLow base) (most : Int) (hm0 : -9223372036854775808 ≤ most) (hm1 : most ≤ 9223372036854775807) :
    Calls Tryd.prog 80 #[.pointer (some ⟨p, 0, none⟩), .int .i64 most] w (ROut w base p v bs k EA (.string ⟨#[]⟩) (fun s : List UInt8 => .string (strOf s)) (getText most (bs.drop k))) := by
  have C1 := rupto_out w base p v bs k h EA hE hG most hm0 hm1
  have hc0 := h.c0
  have hle := h.le
  have hsm := h.sm
  have hp := h.hp
  cases hres : getUpto most (bs.drop k) with
  | error n =>
    have hup : getText most (bs.drop k) = .error n := by unfold getText; rw [hres]
    have HR := Lib.hid hres
    have HU := Lib.hid hup
    clear hres hup
    go_enter Tryd.func80, Tryd.ntmps80
    go_wp2_with fail
    refine C1.mono ?_
    rintro e w' ⟨h1, _⟩
    obtain ⟨rfl, hr, he⟩ := h1 n HR.out
    unfold errV
    go_wp2
    go_ret2
    exact ROut.err HU.out rfl hr he
  | ok x =>
    obtain ⟨u, n⟩ := x
    obtain ⟨hgu, hum⟩ := getUpto_len hres
    have hlen := (getU_len hgu).1
    rw [List.length_drop] at hlen
    have hu := (getU_ok hgu).1
    have hkn : k + n ≤ bs.length := by omega
    have HR := Lib.hid hres
    have HC := Lib.hid C1
    clear C1
    by_cases hsh : bs.length < k + n + u
    · have hup : getText most (bs.drop k) = .error 1 := by unfold getText; rw [hres]; exact if_pos (by rw [List.drop_drop, List.length_drop]; omega)
      have HU := Lib.hid hup
      have HE0 := Lib.hid hE
      have HG := Lib.hid hG
      clear hres hup hgu hE hG
      go_enter Tryd.func80, Tryd.ntmps80
      go_wp2_with fail
      refine HC.out.mono ?_
      rintro e w' ⟨_, h1⟩
      obtain ⟨rfl, hr, he⟩ := h1 u n HR.out
      obtain ⟨K, hK⟩ : ∃ K, K = k + n := ⟨_, rfl⟩
      rw [← hK] at hr
      have C2 := rleft_any w' base p v bs _ hr
      have t2 : decide ((bs.length : Int) - (K : Int) < (u : Int)) = true := decide_eq_true (by omega)
      have hKb := hr.le
      clear h1 hK
      go_wp2_with fail
      refine C2.mono ?_
      rintro e w'' ⟨rfl, d, rfl⟩
      have hrd := hr.drewN d
      have hed := he.drewN d
      have hl := (HE0.out.eff hed HG.out (fun k hk => by subst hk; exact hp)).s
      have hf := hrd.fz 0
      have hcc := hrd.c0
      have hl2 : ((w'.drewN d).setCell ⟨p, 0, none⟩ (.int .i64 k)).cell? ⟨3, 0, none⟩ = some (errV EA 1) := by
        rw [World.cell?_of_block (Below.heap_setCell _ _ _ 3 (by have := HG.out.1; simp only; omega))]; exact hl
      have HM := Lib.hid (hrd.move k hle)
      have HF := Lib.hid (hed.setP 0 (.int .i64 (k : Nat)))
      clear hrd hed hl hr he C2
      unfold errV at hl2
      go_wp2
      go_quiet (fail)
      go_wp2
      go_ret2
      exact ROut.err HU.out rfl (HM.out.drewN _) (HF.out.drewN _)
    · have hup : getText most (bs.drop k) = .ok (((bs.drop k).drop n).take u, n + u) := by unfold getText; rw [hres]; exact if_neg (by rw [List.drop_drop, List.length_drop]; omega)
      have HU := Lib.hid hup
      clear hres hup hgu
      obtain ⟨av, nv, cv, rfl⟩ := own_sl h.own
      have hnv := h.own.len
      rw [bytesV_length] at hnv
      subst hnv
      have hcap := own_cap h.own
      go_enter Tryd.func80, Tryd.ntmps80
      go_wp2_with fail
      refine HC.out.mono ?_
      rintro e w' ⟨_, h1⟩
      obtain ⟨rfl, hr, he⟩ := h1 u n HR.out
      obtain ⟨K, hK⟩ : ∃ K, K = k + n := ⟨_, rfl⟩
      rw [← hK] at hr
      have C2 := rleft_any w' base p _ bs _ hr
      have t2 : decide ((bs.length : Int) - (K : Int) < (u : Int)) = false := decide_eq_false (by omega)
      have hKu : K + u ≤ bs.length := by omega
      have HK := Lib.hid hK
      have HDD := Lib.hid (show (bs.drop k).drop n = bs.drop K by rw [List.drop_drop, hK])
      clear h1 hK
      go_wp2_with fail
      refine C2.mono ?_
      rintro e w'' ⟨rfl, d, rfl⟩
      have hrd := hr.drewN d
      have hf := hrd.fz 0
      have hcc := hrd.c0
      have hmv := hrd.move (K + u) hKu
      have HF := Lib.hid ((he.drewN d).setP 0 (.int .i64 ((K + u : Nat) : Int)))
      have HM := Lib.hid hmv
      rw [Int.natCast_add K u] at HM HF hmv
      obtain ⟨W1, hW1⟩ : ∃ W1, W1 = (w'.drewN d).setCell ⟨p, 0, none⟩ (.int .i64 ((K : Int) + (u : Int))) := ⟨_, rfl⟩
      have hw1r : Rdr W1 base p (.slice av bs.length cv) bs (K + u) := by rw [hW1]; exact hmv
      have hcs : ((bs.drop K).take u).length = u := by rw [List.length_take, List.length_drop]; omega
      have c1 := hw1r.c0
      have c2 := hw1r.c2
      rw [Int.natCast_add K u] at c1
      have q1 : IntKind.i64.wrap ((K : Int) + (u : Int) - (u : Int)) = (K : Int) := by rw [show (K : Int) + (u : Int) - (u : Int) = (K : Int) by omega]; exact IntWalk.i64_in _ (by omega)
      have q2 : (K : Int) + (u : Int) ≤ (bs.length : Nat) := by omega
      have q3 : (bs.length : Int) ≤ (cv : Nat) := by omega
      have q4 : (cv : Int) ≤ 9223372036854775807 := by have := hcap.2; unfold maxLen at this; omega
      have q5 : (K : Int) + (u : Int) - (K : Int) = u := by omega
      rw [← hW1] at HF HM
      have hkc : K < cv ∨ K = cv := by omega
      rcases hkc with hkc | hkc
      · obtain ⟨g, rfl⟩ : ∃ g, av = some ⟨g, 0, none⟩ := by
          rcases hw1r.own.shape with ⟨e, _⟩ | ⟨g, c, e, _⟩
          · injection e with _ _ e; omega
          · injection e with e _ _; exact ⟨g, e⟩
        have hrd : ∀ d, Rd (W1.drewN d) (.slice (some ⟨g, K, none⟩) u (cv - K)) (bytesV ((bs.drop K).take u)) := fun d => by
          refine ⟨_, cv - K, by rw [bytesV_length, hcs], by rw [bytesV_length, hcs]; omega, fun _ => ⟨g, K, rfl, fun j x hx => ?_⟩⟩
          have hjn : j < u := by have := (List.getElem?_eq_some_iff.1 hx).1; rw [bytesV_length, hcs] at this; exact this
          have e : (bytesV bs)[K + j]? = some x := by
            rw [← hx]; unfold bytesV
            rw [List.getElem?_map, List.getElem?_map, List.getElem?_take, if_pos hjn, List.getElem?_drop]
          exact hw1r.own.get e
        have hrun := fun d => run_str (P := Tryd.prog) Tryd.underlying22 Tryd.underlying5 Tryd.underlying9 (hrd d)
        have hne : ¬ cv = K := by omega
        go_upto_region 9 with fail
        rw [← hW1]
        clear hrd hW1 hmv
        go_quiet (fail)
        go_wp2
        go_ret2
        exact ROut.ok HU.out (by rw [HDD.out]; rfl) (by rw [show k + (n + u) = K + u by have := HK.out; omega]; exact HM.out.drewN _) (HF.out.drewN _)
      · subst hkc
        have hu0 : u ≤ 0 := by omega
        have hrd : ∀ d, Rd (W1.drewN d) (.slice av u 0) (bytesV ((bs.drop K).take u)) := fun d =>
          ⟨_, 0, by rw [bytesV_length, hcs], by rw [bytesV_length, hcs]; omega, fun h0 => by rw [bytesV_length, hcs] at h0; omega⟩
        have hrun := fun d => run_str (P := Tryd.prog) Tryd.underlying22 Tryd.underlying5 Tryd.underlying9 (hrd d)
        clear hu0
        go_upto_region 9 with fail
        rw [← hW1]
        clear hrd hW1 hmv
        go_quiet (fail)
        go_wp2
        go_ret2
        exact ROut.ok HU.out (by rw [HDD.out]; rfl) (by rw [show k + (n + u) = K + u by have := HK.out; omega]; exact HM.out.drewN _) (HF.out.drewN _)
end Go.Proofs.YtfeldllcpeibcaaDoor

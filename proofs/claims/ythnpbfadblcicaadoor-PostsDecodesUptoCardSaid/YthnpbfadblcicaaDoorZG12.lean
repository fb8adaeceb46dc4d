/- Merged: DRd, DBlk, DBlkW. -/
import Derived.Test.YthnpbfadblcicaaDoorZDocD
import Derived.Test.YthnpbfadblcicaaDoorZG11
import Derived.Test.YthnpbfadblcicaaDoorZApP1
/- posts: the document's reader: number, packed. -/
namespace Go.Proofs.YthnpbfadblcicaaDoor
set_option linter.unusedVariables false
open Go.ChangeShapes Go.WideShapes Go.ChangeAt Go.RowKit

/-- The document's reader at block rp. -/
structure Dr (w : World) (rp : Nat) (sl : Value) (k : Nat) (bad : Bool) : Prop where
  blk : w.heap[rp]? = some (.cells #[sl, .int .i64 (k : Nat), .bool bad] 90 (0, 0))
theorem Dr.drewN {w : World} {rp : Nat} {sl : Value} {k : Nat} {bad : Bool} (h : Dr w rp sl k bad) (d : Nat) : Dr (w.drewN d) rp sl k bad := ⟨h.blk⟩
theorem Dr.eff {F : Nat → Prop} {w w' : World} {rp : Nat} {sl : Value} {k : Nat} {bad : Bool} (h : Dr w rp sl k bad) (e : Eff F w w') (hF : ¬ F rp) : Dr w' rp sl k bad := ⟨(e.block rp (lt_of_heap h.blk) hF).trans h.blk⟩
theorem Dr.bad {w : World} {rp : Nat} {sl : Value} {k : Nat} {bad : Bool} (h : Dr w rp sl k bad) : Dr (w.setCell ⟨rp, 2, none⟩ (.bool true)) rp sl k true := ⟨blk_set h.blk 2 _⟩
theorem Dr.move {w : World} {rp : Nat} {sl : Value} {k : Nat} {bad : Bool} (h : Dr w rp sl k bad) (j : Nat) : Dr (w.setCell ⟨rp, 1, none⟩ (.int .i64 (j : Nat))) rp sl j bad := ⟨blk_set h.blk 1 _⟩
theorem pk_err {l : List UInt8} {q : Nat} (h : getPk 16 l = .error q) : q ≠ 0 := by
  unfold getPk at h
  cases hg : getUpto 16 l with
  | error e => rw [hg] at h; injection h with h; subst h; exact upto_err hg
  | ok y =>
    obtain ⟨n, k⟩ := y
    rw [hg] at h
    simp only at h
    split at h
    · cases h
    · cases hr : getPB n (l.drop k) with
      | error e =>
        rw [hr] at h; injection h with h; subst h
        unfold getPB at hr
        split at hr
        · injection hr with hr; omega
        · split at hr
          · injection hr with hr; omega
          · split at hr
            · injection hr with hr; omega
            · split at hr
              · cases hr
              · injection hr with hr; omega
      | ok y => rw [hr] at h; cases h
def numQ (b : List UInt8) (k : Nat) (bad : Bool) : Nat × Nat × Bool := if bad then (0, k, true) else match getUpto 9223372036854775807 (b.drop k) with
  | .error _ => (0, k, true)
  | .ok (u, c) => (u, k + c, false)
def pkQ (b : List UInt8) (k : Nat) (bad : Bool) (n : Nat) : Option (List Nat) × Nat × Bool := if bad then (none, k, true) else match getPk 16 (b.drop k) with
  | .error _ => (none, k, true)
  | .ok (ds, c) => if ds.length = n then (some ds, k + c, false) else (none, k, true)
set_option maxRecDepth 100000 in
set_option maxHeartbeats 2000000 in
theorem num8_any (w : World) (rp : Nat) (a : Option Addr) (nn cc : Nat) (b : List UInt8) (k : Nat) (bad : Bool) (h : Dr w rp (.slice a nn cc) k bad) (hr : Rd w (.slice a nn cc) (bytesV b)) (hb : b.length ≤ 100000000) (hk : k ≤ b.length) :
    Calls Tryd.prog 46 #[.pointer (some ⟨rp, 0, none⟩), .int .i64 9223372036854775807] w fun e w' => e = .returned (.int .i64 ((numQ b k bad).1 : Nat)) ∧ Dr w' rp (.slice a nn cc) (numQ b k bad).2.1 (numQ b k bad).2.2 ∧ Eff (· = rp) w w' := by
  have p0 : w.cell? ⟨rp, 0, none⟩ = some (.slice a nn cc) := blk_cell h.blk 0
  have p1 : w.cell? ⟨rp, 1, none⟩ = some (.int .i64 (k : Nat)) := blk_cell h.blk 1
  have hD := Lib.hid h
  cases hg : getUpto 9223372036854775807 (b.drop k) with
  | error n =>
    have hn0 := upto_err hg
    have hq : numQ b k bad = (0, k, true) := by unfold numQ; rw [hg]; split <;> rfl
    rw [hq]
    have Q : ∀ q, Calls Tryd.prog 64 #[.slice a nn cc, .int .i64 (k : Nat), .int .i64 9223372036854775807] (w.drewN q) fun e w' => e = .returned (.tuple #[.int .i64 0, .int .i64 (k : Nat), .int .i64 (n : Nat)]) ∧ ∃ m, w' = w.drewN m := fun q =>
      (rgt_any (w.drewN q) a nn cc b hr (by omega) k hk 9223372036854775807 (by omega) (by omega)).mono fun e w' hh => ⟨hh.1 n hg, q, hh.2.2.symm⟩
    have t0 : ((n : Int) != 0) = true := by simp; omega
    clear hg hq hr
    go_enter Tryd.func46, Tryd.ntmps46
    go_wp2
    go_quiet ((go_at_call 64; with_reducible exact Q _))
    have hd2 := hD.out.drewN nq
    have he2 := (Eff.refl (· = rp) w).drewN nq
    generalize w.drewN nq = w2 at hd2 he2 ⊢
    clear Q p0 p1
    have p2 : w2.cell? ⟨rp, 2, none⟩ = some (.bool bad) := blk_cell hd2.blk 2
    have f2 := blk_frozen hd2.blk 2
    have HD2 := Lib.hid hd2.bad
    have HE2 := Lib.hid (he2.setP 2 (.bool true))
    clear hd2 he2 h
    go_wp2
    go_ret
    exact ⟨rfl, HD2.out, HE2.out⟩
  | ok y =>
    obtain ⟨u, c⟩ := y
    have Q : ∀ q, Calls Tryd.prog 64 #[.slice a nn cc, .int .i64 (k : Nat), .int .i64 9223372036854775807] (w.drewN q) fun e w' => e = .returned (.tuple #[.int .i64 (u : Nat), .int .i64 (k + c : Nat), .int .i64 0]) ∧ ∃ m, w' = w.drewN m := fun q =>
      (rgt_any (w.drewN q) a nn cc b hr (by omega) k hk 9223372036854775807 (by omega) (by omega)).mono fun e w' hh => ⟨hh.2.1 u c hg, q, hh.2.2.symm⟩
    obtain ⟨kc, hkc⟩ : ∃ kc, k + c = kc := ⟨_, rfl⟩
    rw [hkc] at Q
    have p2 : w.cell? ⟨rp, 2, none⟩ = some (.bool bad) := blk_cell h.blk 2
    cases bad with
    | true =>
      rw [show numQ b k true = (0, k, true) from rfl]
      clear hg hr hkc
      go_enter Tryd.func46, Tryd.ntmps46
      go_wp2
      go_quiet ((go_at_call 64; with_reducible exact Q _))
      have hd2 := hD.out.drewN nq
      have he2 := (Eff.refl (· = rp) w).drewN nq
      generalize w.drewN nq = w2 at hd2 he2 ⊢
      clear Q p0 p1 p2
      have p2 : w2.cell? ⟨rp, 2, none⟩ = some (.bool true) := blk_cell hd2.blk 2
      have f2 := blk_frozen hd2.blk 2
      have HD2 := Lib.hid hd2.bad
      have HE2 := Lib.hid (he2.setP 2 (.bool true))
      clear hd2 he2 h
      go_wp2
      go_ret
      exact ⟨rfl, HD2.out, HE2.out⟩
    | false =>
      have hq : numQ b k false = (u, kc, false) := by unfold numQ; rw [hg]; simp only; rw [← hkc]; rfl
      rw [hq]
      clear hg hq hr hkc
      go_enter Tryd.func46, Tryd.ntmps46
      go_wp2
      go_quiet ((go_at_call 64; with_reducible exact Q _))
      have hd2 := hD.out.drewN nq
      have he2 := (Eff.refl (· = rp) w).drewN nq
      generalize w.drewN nq = w2 at hd2 he2 ⊢
      clear Q p0 p1 p2
      have p2 : w2.cell? ⟨rp, 2, none⟩ = some (.bool false) := blk_cell hd2.blk 2
      have p1 : w2.cell? ⟨rp, 1, none⟩ = some (.int .i64 (k : Nat)) := blk_cell hd2.blk 1
      have f1 := blk_frozen hd2.blk 1
      have HD2 := Lib.hid (hd2.move kc)
      have HE2 := Lib.hid (he2.setP 1 (.int .i64 (kc : Nat)))
      clear hd2 he2 h
      go_wp2
      go_ret
      exact ⟨rfl, HD2.out, HE2.out⟩
/-- What packed answers and leaves. -/
def PkPost (w : World) (rp : Nat) (sl : Value) (res : Option (List Nat) × Nat × Bool) (e : Ending) (w' : World) : Prop :=
  ∃ A N C, e = .returned (.slice A N C) ∧ Own w' w.heap.size 3 (.slice A N C) (intL (natI (res.1.getD []))) ∧ Dr w' rp sl res.2.1 res.2.2 ∧ Eff (· = rp) w w'
set_option maxRecDepth 100000 in
set_option maxHeartbeats 2000000 in
theorem pck8_any (w : World) (rp : Nat) (a : Option Addr) (nn cc : Nat) (b : List UInt8) (k : Nat) (bad : Bool) (n : Nat) (hn : n ≤ 16) (h : Dr w rp (.slice a nn cc) k bad) (hr : Rd w (.slice a nn cc) (bytesV b)) (hb : b.length ≤ 100000000) (hk : k ≤ b.length) :
    Calls Tryd.prog 65 #[.pointer (some ⟨rp, 0, none⟩), .int .i64 (n : Nat)] w (PkPost w rp (.slice a nn cc) (pkQ b k bad n)) := by
  have p0 : w.cell? ⟨rp, 0, none⟩ = some (.slice a nn cc) := blk_cell h.blk 0
  have p1 : w.cell? ⟨rp, 1, none⟩ = some (.int .i64 (k : Nat)) := blk_cell h.blk 1
  have hD := Lib.hid h
  have C1 := rgp_any w.drew a nn cc b hr hb k hk 16 (by omega) (by omega)
  cases hg : getPk 16 (b.drop k) with
  | error q =>
    have hq0 : q ≠ 0 := pk_err hg
    have hq : pkQ b k bad n = (none, k, true) := by unfold pkQ; rw [hg]; split <;> rfl
    rw [hq]
    rw [hg] at C1
    have t0 : ((q : Int) != 0) = true := by simp; omega
    have HC1 := Lib.hid C1
    clear hg hq hr C1
    go_enter Tryd.func65, Tryd.ntmps65
    go_upto_region 1 with fail
    go_cut [5, 6, 7] (fun s5 s6 s7 wx => ∃ A N C, s5 = .slice A N C ∧ s6 = .int .i64 (k : Nat) ∧ s7 = .int .i64 (q : Nat) ∧ Below w.heap.size w wx)
    case first =>
      have q0 : w.drew.cell? ⟨rp, 0, none⟩ = some (.slice a nn cc) := p0
      have q1 : w.drew.cell? ⟨rp, 1, none⟩ = some (.int .i64 (k : Nat)) := p1
      go_region_with (go_at_call 74; (with_reducible refine HC1.out.mono ?_); rintro e w5 ⟨v5, hb5, h5, -⟩; obtain ⟨rfl, ho5⟩ := h5 q rfl; obtain ⟨A5, N5, C5, rfl⟩ := own_sl ho5)
      all_goals
        go_wp2
        go_meet
        exact ⟨_, _, _, rfl, rfl, rfl, (Below.refl _ w).drew.trans hb5⟩
    case rest =>
      clear p0 p1
      obtain ⟨A5, N5, C5, rfl, rfl, rfl, hb5⟩ := hcut
      have hd2 := hD.out.eff (Eff.of_below hb5 (fun _ => False)) (fun f => f)
      have he2 : Eff (· = rp) w wc := Eff.of_below hb5 _
      have p2 : wc.cell? ⟨rp, 2, none⟩ = some (.bool bad) := blk_cell hd2.blk 2
      have f2 := blk_frozen hd2.blk 2
      have HD2 := Lib.hid hd2.bad
      have HE2 := Lib.hid (he2.setP 2 (.bool true))
      clear hd2 he2 h hb5
      go_wp2
      go_ret
      exact ⟨_, _, _, rfl, own_nil _ _ _, HD2.out, HE2.out⟩
  | ok y =>
    obtain ⟨ds, c⟩ := y
    rw [hg] at C1
    have HC1 := Lib.hid C1
    obtain ⟨kc, hkc⟩ : ∃ kc, k + c = kc := ⟨_, rfl⟩
    have HKC := Lib.hid hkc
    have hdl := pk_len hg
    have hbadq : bad = true ∨ ds.length ≠ n → pkQ b k bad n = (none, k, true) := fun hh => by
      unfold pkQ
      by_cases hb1 : bad = true
      · rw [if_pos hb1]
      · rw [if_neg hb1, hg]
        simp only
        rw [if_neg (by rcases hh with hh | hh; exact absurd hh hb1; exact hh)]
    have hokq : bad = false → ds.length = n → pkQ b k bad n = (some ds, kc, false) := fun h1 h2 => by
      unfold pkQ
      rw [if_neg (by rw [h1]; decide), hg]
      simp only
      rw [if_pos h2, hkc]
    have HBQ := Lib.hid hbadq
    have HOQ := Lib.hid hokq
    clear hg hr C1 hkc hbadq hokq
    go_enter Tryd.func65, Tryd.ntmps65
    go_upto_region 1 with fail
    go_cut [5, 6, 7] (fun s5 s6 s7 wx => ∃ A C, s5 = .slice A ds.length C ∧ s6 = .int .i64 (kc : Nat) ∧ s7 = .int .i64 0 ∧ Own wx w.heap.size 3 (.slice A ds.length C) (intL (natI ds)) ∧ Below w.heap.size w wx)
    case first =>
      have q0 : w.drew.cell? ⟨rp, 0, none⟩ = some (.slice a nn cc) := p0
      have q1 : w.drew.cell? ⟨rp, 1, none⟩ = some (.int .i64 (k : Nat)) := p1
      go_region_with (go_at_call 74; (with_reducible refine HC1.out.mono ?_); rintro e w5 ⟨v5, hb5, -, h5⟩; obtain ⟨rfl, ho5⟩ := h5 (natI ds) c rfl; obtain ⟨A5, N5, C5, rfl⟩ := own_sl ho5)
      all_goals
        have hN5 := ho5.len
        rw [intL_length, natI_length] at hN5
        subst hN5
        go_wp2
        go_meet
        exact ⟨_, _, rfl, by rw [← HKC.out, Int.natCast_add], rfl, ho5, (Below.refl _ w).drew.trans hb5⟩
    case rest =>
      clear p0 p1
      obtain ⟨A5, C5, rfl, rfl, rfl, ho5, hb5⟩ := hcut
      have hd2 := hD.out.eff (Eff.of_below hb5 (fun _ => False)) (fun f => f)
      have he2 : Eff (· = rp) w wc := Eff.of_below hb5 _
      have p2 : wc.cell? ⟨rp, 2, none⟩ = some (.bool bad) := blk_cell hd2.blk 2
      have f2 := blk_frozen hd2.blk 2
      by_cases hbd : bad = true
      · subst hbd
        have HQQ := Lib.hid (HBQ.out (.inl rfl))
        have HD2 := Lib.hid hd2.bad
        have HE2 := Lib.hid (he2.setP 2 (.bool true))
        clear hd2 he2 h hb5 ho5
        go_wp2
        go_ret
        rw [HQQ.out]
        exact ⟨_, _, _, rfl, own_nil _ _ _, HD2.out, HE2.out⟩
      · have hbf : bad = false := by simpa using hbd
        subst hbf
        by_cases hds : ds.length = n
        · have HQQ := Lib.hid (HOQ.out rfl hds)
          have t1 : ((ds.length : Int) != (n : Int)) = false := by simp; omega
          have c1 : wc.cell? ⟨rp, 1, none⟩ = some (.int .i64 (k : Nat)) := blk_cell hd2.blk 1
          have f1 := blk_frozen hd2.blk 1
          have HD2 := Lib.hid (hd2.move kc)
          have HE2 := Lib.hid (he2.setP 1 (.int .i64 (kc : Nat)))
          have HO5 := Lib.hid (ho5.setOther (p := ⟨rp, 1, none⟩) (ho5.ne_type hd2.blk (by decide)) (.int .i64 (kc : Nat)))
          clear hd2 he2 h hb5 ho5 hds hbd
          go_wp2
          go_ret
          rw [HQQ.out]
          exact ⟨_, _, _, rfl, HO5.out, HD2.out, HE2.out⟩
        · have HQQ := Lib.hid (HBQ.out (.inr hds))
          have t1 : ((ds.length : Int) != (n : Int)) = true := by simp; omega
          have HD2 := Lib.hid hd2.bad
          have HE2 := Lib.hid (he2.setP 2 (.bool true))
          clear hd2 he2 h hb5 ho5 hds hbd
          go_wp2
          go_ret
          rw [HQQ.out]
          exact ⟨_, _, _, rfl, own_nil _ _ _, HD2.out, HE2.out⟩
end Go.Proofs.YthnpbfadblcicaaDoor

/- posts: the document's reader: block. -/
namespace Go.Proofs.YthnpbfadblcicaaDoor
set_option linter.unusedVariables false
open Go.ChangeShapes Go.WideShapes Go.ChangeAt Go.RowKit

theorem pk_cons {l : List UInt8} {r : List Nat} {j : Nat} (h : getPk 16 l = .ok (r, j)) : j ≤ l.length := by
  unfold getPk at h
  cases hg : getUpto 16 l with
  | error e => rw [hg] at h; cases h
  | ok y =>
    obtain ⟨n, k⟩ := y
    rw [hg] at h
    simp only at h
    have hk := (getU_len (getUpto_len hg).1).1
    split at h
    · injection h with h; injection h with e1 e2; omega
    · cases hr : getPB n (l.drop k) with
      | error e => rw [hr] at h; cases h
      | ok y =>
        obtain ⟨r', j'⟩ := y
        rw [hr] at h
        injection h with h; injection h with e1 e2
        have hj : j' ≤ (l.drop k).length := by
          cases hl : l.drop k with
          | nil => rw [hl] at hr; cases hr
          | cons x rr =>
            rw [hl, getPB] at hr
            split at hr
            · cases hr
            · split at hr
              · cases hr
              · next h1 h2 =>
                split at hr
                · injection hr with hr; injection hr with e3 e4
                  rw [List.length_cons, ← e4]
                  rcases Nat.eq_zero_or_pos x.toNat with hz | hz
                  · rw [hz]; simp
                  · have := packed_size hz (fun h3 => h2 ⟨hz, h3⟩)
                    omega
                · cases hr
        rw [List.length_drop] at hj
        omega
theorem pkQ_le {b : List UInt8} {k : Nat} (hk : k ≤ b.length) (bad : Bool) (n : Nat) : (pkQ b k bad n).2.1 ≤ b.length := by
  unfold pkQ
  split
  · exact hk
  · cases hg : getPk 16 (b.drop k) with
    | error e => exact hk
    | ok y =>
      obtain ⟨ds, c⟩ := y
      have := pk_cons hg
      rw [List.length_drop] at this
      simp only
      split
      · show k + c ≤ _; omega
      · exact hk
theorem pk_two (b : List UInt8) (k n : Nat) (base : Int) :
    ((pkQ b (pkQ b k false n).2.1 (pkQ b k false n).2.2 n).2.2 = true → blkQ base n (b.drop k) = none) ∧
    ((pkQ b (pkQ b k false n).2.1 (pkQ b k false n).2.2 n).2.2 = false → ∃ ds fs, (pkQ b k false n).1 = some ds ∧ (pkQ b (pkQ b k false n).2.1 (pkQ b k false n).2.2 n).1 = some fs ∧ ds.length = n ∧ fs.length = n ∧
      blkQ base n (b.drop k) = unpQ base ds fs (b.drop (pkQ b (pkQ b k false n).2.1 (pkQ b k false n).2.2 n).2.1)) := by
  unfold blkQ
  cases hg : getPk 16 (b.drop k) with
  | error e =>
    have h1 : pkQ b k false n = (none, k, true) := by unfold pkQ; rw [hg]; rfl
    rw [h1]
    exact ⟨fun _ => rfl, (fun h => by simp [pkQ] at h)⟩
  | ok y =>
    obtain ⟨ds, c⟩ := y
    simp only
    by_cases hd : ds.length = n
    · have h1 : pkQ b k false n = (some ds, k + c, false) := by unfold pkQ; rw [hg]; simp only; rw [if_pos hd]; rfl
      rw [h1, if_neg (by simpa using hd)]
      simp only [List.drop_drop]
      cases hg2 : getPk 16 (b.drop (k + c)) with
      | error e =>
        have h2 : pkQ b (k + c) false n = (none, k + c, true) := by unfold pkQ; rw [hg2]; rfl
        rw [h2]
        exact ⟨fun _ => rfl, (fun h => by cases h)⟩
      | ok y =>
        obtain ⟨fs, c2⟩ := y
        simp only
        by_cases hf : fs.length = n
        · have h2 : pkQ b (k + c) false n = (some fs, k + c + c2, false) := by unfold pkQ; rw [hg2]; simp only; rw [if_pos hf]; rfl
          rw [h2, if_neg (by simpa using hf)]
          exact ⟨(fun h => by cases h), fun _ => ⟨ds, fs, rfl, rfl, hd, hf, rfl⟩⟩
        · have h2 : pkQ b (k + c) false n = (none, k + c, true) := by unfold pkQ; rw [hg2]; simp only; rw [if_neg hf]; rfl
          rw [h2, if_pos (by simpa using hf)]
          exact ⟨fun _ => rfl, (fun h => by cases h)⟩
    · have h1 : pkQ b k false n = (none, k, true) := by unfold pkQ; rw [hg]; simp only; rw [if_neg hd]; rfl
      rw [h1, if_pos (by simpa using hd)]
      exact ⟨fun _ => rfl, (fun h => by simp [pkQ] at h)⟩
/-- What the document's block answers and leaves. -/
def BlkQPost (w : World) (rp : Nat) (sl : Value) (b : List UInt8) (base : Int) (n k : Nat) (e : Ending) (w' : World) : Prop :=
  ∃ A N C ps vs k2 bad2, e = .returned (.slice A N C) ∧ RowP w' w.heap.size (.slice A N C) ps vs ∧ ps.length ≤ n ∧ Dr w' rp sl k2 bad2 ∧ k2 ≤ b.length ∧ Eff (· = rp) w w' ∧
    (blkQ base n (b.drop k) = none → bad2 = true) ∧ (∀ ps0 l0, blkQ base n (b.drop k) = some (ps0, l0) → bad2 = false ∧ ps = ps0 ∧ l0 = b.drop k2)
/-- The state of the document's block: the reader, the postings so far. -/
structure DbS (w wr : World) (rp : Nat) (sl v : Value) (b : List UInt8) (k : Nat) (bad : Bool) (ps : List PostV) (vs : Nat → Value) : Prop where
  dr : Dr wr rp sl k bad
  le : k ≤ b.length
  row : RowP wr w.heap.size v ps vs
  eff : Eff (· = rp) w wr
  hp : rp < w.heap.size
theorem DbS.drewN {w wr : World} {rp : Nat} {sl v : Value} {b : List UInt8} {k : Nat} {bad : Bool} {ps : List PostV} {vs : Nat → Value} (h : DbS w wr rp sl v b k bad ps vs) (d : Nat) : DbS w (wr.drewN d) rp sl v b k bad ps vs := ⟨h.dr.drewN d, h.le, ⟨h.row.row, h.row.own, h.row.sep⟩, h.eff.drewN d, h.hp⟩
/-- The reader moved. -/
theorem DbS.read {w wr w2 : World} {rp : Nat} {sl v : Value} {b : List UInt8} {k k2 : Nat} {bad bad2 : Bool} {ps : List PostV} {vs : Nat → Value} (h : DbS w wr rp sl v b k bad ps vs) (hd : Dr w2 rp sl k2 bad2) (hk : k2 ≤ b.length) (he : Eff (· = rp) wr w2) : DbS w w2 rp sl v b k2 bad2 ps vs :=
  ⟨hd, hk, h.row.eff he (fun q hq e => by have := (h.row.ge q hq).1; have := h.hp; omega), h.eff.trans he (fun i hi _ => hi), h.hp⟩
/-- New memory alone. -/
theorem DbS.step {w wr w2 : World} {rp : Nat} {sl v : Value} {b : List UInt8} {k : Nat} {bad : Bool} {ps : List PostV} {vs : Nat → Value} (h : DbS w wr rp sl v b k bad ps vs) (hb : Below wr.heap.size wr w2) : DbS w w2 rp sl v b k bad ps vs :=
  ⟨h.dr.eff (Eff.of_below hb (fun _ => False)) (fun f => f), h.le, h.row.below hb (Nat.le_refl _), h.eff.trans (Eff.of_below hb (fun _ => False)) (fun _ f => f.elim), h.hp⟩
/-- Blocks of the call's own changed, but not the postings'. -/
theorem DbS.other {w wr w2 : World} {rp : Nat} {sl v : Value} {b : List UInt8} {k : Nat} {bad : Bool} {ps : List PostV} {vs : Nat → Value} {F : Nat → Prop} (h : DbS w wr rp sl v b k bad ps vs) (he : Eff F wr w2) (hF : ∀ q, F q → w.heap.size ≤ q) (hR : ∀ q, RowB v ps.length vs q → ¬ F q) : DbS w w2 rp sl v b k bad ps vs :=
  ⟨h.dr.eff he (fun f => by have := hF rp f; have := h.hp; omega), h.le, h.row.eff he hR, h.eff.trans he (fun i hi hlt => by have := hF i hi; omega), h.hp⟩
/-- The reader met something bad. -/
theorem BlkQPost.bad {w wr : World} {rp : Nat} {sl : Value} {A : Option Addr} {N C : Nat} {b : List UInt8} {base : Int} {n k k2 : Nat} {bad : Bool} {ps : List PostV} {vs : Nat → Value} (h : DbS w wr rp sl (.slice A N C) b k2 bad ps vs) (hl : ps.length ≤ n) (hn : blkQ base n (b.drop k) = none) :
    BlkQPost w rp sl b base n k (.returned (.slice A N C)) (wr.setCell ⟨rp, 2, none⟩ (.bool true)) := by
  have h2 := h.read h.dr.bad h.le ((Eff.refl (· = rp) wr).setP 2 _)
  exact ⟨A, N, C, ps, vs, k2, true, rfl, h2.row, hl, h2.dr, h2.le, h2.eff, fun _ => rfl, fun ps0 l0 h9 => (by rw [hn] at h9; cases h9)⟩
theorem getR_upto {l : List UInt8} {e n : Nat} {bf : Int} (h0 : -1 ≤ bf) (h : getUpto 9223372036854775807 l = .error e) : ∃ q, getR (n + 1) bf l = .error q := by
  rw [getR]
  unfold getUpto at h
  cases hg : getU l with
  | error e => exact ⟨e, rfl⟩
  | ok y =>
    obtain ⟨u, c⟩ := y
    rw [hg] at h
    simp only at h ⊢
    split at h
    · rw [if_pos (by omega)]; exact ⟨3, rfl⟩
    · cases h
/-- Within one posting: its block, its positions so far, the two lists of numbers. -/
structure DbI (w wi : World) (rp : Nat) (sl v : Value) (b : List UInt8) (k : Nat) (bad : Bool) (ps : List PostV) (vs : Nat → Value) (GP : Nat) (b3 : Int) (sv : Value) (acc : List Int) (D F : Value) (xd xf : List Value) : Prop where
  st : DbS w wi rp sl v b k bad ps vs
  blk : wi.heap[GP]? = some (.cells #[.int .i64 b3, sv] 53 (0, 0))
  own : Own wi GP 3 sv (intL acc)
  vlt : ∀ q, RowB v ps.length vs q → q < GP
  hp : w.heap.size ≤ GP
  oD : Own wi w.heap.size 3 D xd
  oF : Own wi w.heap.size 3 F xf
  dlt : ∀ q, D.ownBlock = some q → q < GP
  flt : ∀ q, F.ownBlock = some q → q < GP
theorem DbI.read {w wi w2 : World} {rp : Nat} {sl v : Value} {b : List UInt8} {k k2 : Nat} {bad bad2 : Bool} {ps : List PostV} {vs : Nat → Value} {GP : Nat} {b3 : Int} {sv : Value} {acc : List Int} {D F : Value} {xd xf : List Value} (h : DbI w wi rp sl v b k bad ps vs GP b3 sv acc D F xd xf) (hd : Dr w2 rp sl k2 bad2) (hk : k2 ≤ b.length) (he : Eff (· = rp) wi w2) :
    DbI w w2 rp sl v b k2 bad2 ps vs GP b3 sv acc D F xd xf := by
  have hlt := h.st.hp
  have hp := h.hp
  exact ⟨h.st.read hd hk he, (he.block GP (lt_of_heap h.blk) (by omega)).trans h.blk, h.own.eff he (fun q hq e => by have := (h.own.lt q hq).1; omega), h.vlt, h.hp,
    h.oD.eff he (fun q hq e => by have := (h.oD.lt q hq).1; omega), h.oF.eff he (fun q hq e => by have := (h.oF.lt q hq).1; omega), h.dlt, h.flt⟩
theorem DbI.app {w wi w2 : World} {rp : Nat} {sl v : Value} {b : List UInt8} {k : Nat} {bad : Bool} {ps : List PostV} {vs : Nat → Value} {GP : Nat} {b3 : Int} {sv sv2 : Value} {acc acc2 : List Int} {D F : Value} {xd xf : List Value} (h : DbI w wi rp sl v b k bad ps vs GP b3 sv acc D F xd xf) (ho : Own w2 GP 3 sv2 (intL acc2)) (hg : wi.grownBy w2 sv.ownBlock) :
    DbI w (w2.setCell ⟨GP, 1, none⟩ sv2) rp sl v b k bad ps vs GP b3 sv2 acc2 D F xd xf ∧ w2.cell? ⟨GP, 1, none⟩ = some sv ∧ w2.frozen? ⟨GP, 1, none⟩ = false := by
  have hp := h.hp
  have he1 : Eff (fun q => sv.ownBlock = some q) wi w2 := (Eff.refl _ wi).grown hg (fun q hq _ => hq)
  have hb2 := (he1.block GP (lt_of_heap h.blk) (h.own.ne_type h.blk (by decide))).trans h.blk
  have he : Eff (fun q => GP ≤ q) wi (w2.setCell ⟨GP, 1, none⟩ sv2) := (he1.mono (G := fun q => sv.ownBlock = some q) (fun q hq _ => (h.own.lt q hq).1)).setCell (p := ⟨GP, 1, none⟩) (fun _ => Nat.le_refl _) _
  refine ⟨⟨h.st.other he (fun q hq => by omega) (fun q hq => by have := h.vlt q hq; omega), blk_set hb2 1 _, ho.setOther (p := ⟨GP, 1, none⟩) (ho.ne_type hb2 (by decide)) _, h.vlt, h.hp,
    h.oD.eff he (fun q hq => by have := h.dlt q hq; omega), h.oF.eff he (fun q hq => by have := h.flt q hq; omega), h.dlt, h.flt⟩, blk_cell hb2 1, blk_frozen hb2 1⟩
theorem sum_i64 (bf : Int) (X : Nat) (h0 : -1 ≤ bf) (h : (X : Int) ≤ 9223372036854775806 - bf) : IntKind.i64.wrap (bf + IntKind.i64.wrap ((X : Int) + 1)) = bf + X + 1 := by
  rw [IntKind.wrap_i64, IntKind.wrap_i64]; omega
/-- One position more, or nothing more. -/
theorem num_step {b : List UInt8} {k3 q f used : Nat} {bf : Int} {acc : List Int} {R0 : Except Nat (List Int × Nat)} (hqf : q ≤ f) (hk3 : k3 ≤ b.length) (h0 : -1 ≤ bf) (hc : contR acc used (getR (f + 1 - q) bf (b.drop k3)) = R0) :
    ∃ X k4 bd2, numQ b k3 false = (X, k4, bd2) ∧ k4 ≤ b.length ∧ (9223372036854775806 - bf < (X : Int) → ∃ e, R0 = .error e) ∧ (bd2 = true → ∃ e, R0 = .error e) ∧
      (bd2 = false → 9223372036854775806 - bf < (X : Int) ∨ ∃ c, 1 ≤ c ∧ k4 = k3 + c ∧ contR (acc ++ [bf + X + 1]) (used + c) (getR (f + 1 - (q + 1)) (bf + X + 1) (b.drop k4)) = R0) := by
  rw [show f + 1 - q = (f - q) + 1 by omega] at hc
  cases hg : getUpto 9223372036854775807 (b.drop k3) with
  | error e0 =>
    obtain ⟨e1, he1⟩ := getR_upto (n := f - q) h0 hg
    rw [he1] at hc
    refine ⟨0, k3, true, by unfold numQ; rw [hg]; rfl, hk3, fun _ => ⟨e1, hc.symm⟩, fun _ => ⟨e1, hc.symm⟩, fun h => by cases h⟩
  | ok y =>
    obtain ⟨u, c⟩ := y
    obtain ⟨hu, hum⟩ := getUpto_len hg
    obtain ⟨l1, l2, _⟩ := getU_len hu
    rw [List.length_drop] at l1
    rw [getR, hu] at hc
    simp only at hc
    refine ⟨u, k3 + c, false, by unfold numQ; rw [hg]; rfl, by omega, fun h => ?_, (fun h => by cases h), fun _ => ?_⟩
    · rw [if_pos h] at hc; exact ⟨3, hc.symm⟩
    · by_cases h : 9223372036854775806 - bf < (u : Int)
      · exact .inl h
      · rw [if_neg h, List.drop_drop] at hc
        refine .inr ⟨c, l2, rfl, ?_⟩
        rw [show f + 1 - (q + 1) = f - q by omega, ← hc]
        cases getR (f - q) (bf + u + 1) (b.drop (k3 + c)) with
        | error e => rfl
        | ok y => simp [contR, Nat.add_assoc]
end Go.Proofs.YthnpbfadblcicaaDoor

/- posts: the document's reader: block, walked. -/
namespace Go.Proofs.YthnpbfadblcicaaDoor
set_option linter.unusedVariables false
open Go.ChangeShapes Go.WideShapes Go.ChangeAt Go.RowKit

set_option maxRecDepth 100000 in
set_option maxHeartbeats 8000000 in
theorem blk8_any (w : World) (rp : Nat) (a : Option Addr) (nn cc : Nat) (b : List UInt8) (k : Nat) (h : Dr w rp (.slice a nn cc) k false) (hrd : ∀ W, Eff (· = rp) w W → Rd W (.slice a nn cc) (bytesV b)) (hb : b.length ≤ 1048576) (hk : k ≤ b.length) (base : Int) (hb0 : -1 ≤ base) (hb1 : base < 2147483647) (n : Nat) (hn : n ≤ 16) :
    Calls Tryd.prog 47 #[.pointer (some ⟨rp, 0, none⟩), .int .i64 (n : Nat), .int .i64 base] w (BlkQPost w rp (.slice a nn cc) b base n k) := by
  have hp := lt_of_heap h.blk
  have hrow := rowP_empty w w.heap.size (Nat.le_refl _)
  have hbA : Below w.heap.size w (w.alloc (.cells #[] 53)) := (Below.refl _ w).alloc (Nat.le_refl _) _
  have hst1 : DbS w (w.alloc (.cells #[] 53)) rp (.slice a nn cc) (.slice (some ⟨w.heap.size, 0, none⟩) 0 0) b k false [] (fun _ => .slice none 0 0) :=
    ⟨h.eff (Eff.of_below hbA (fun _ => False)) (fun f => f), hk, hrow, Eff.of_below hbA _, hp⟩
  obtain ⟨p1, p2⟩ := pk_two b k n base
  obtain ⟨RES, hRES⟩ : ∃ RES, blkQ base n (b.drop k) = RES := ⟨_, rfl⟩
  rw [hRES] at p1 p2
  have hk1 := pkQ_le hk false n
  have hk2 := pkQ_le hk1 (pkQ b k false n).2.2 n
  obtain ⟨Q1, hQ1⟩ : ∃ Q1, pkQ b k false n = Q1 := ⟨_, rfl⟩
  rw [hQ1] at p1 p2 hk1 hk2
  obtain ⟨Q2, hQ2⟩ : ∃ Q2, pkQ b Q1.2.1 Q1.2.2 n = Q2 := ⟨_, rfl⟩
  rw [hQ2] at p1 p2 hk2
  have HRES := Lib.hid hRES
  have HP1 := Lib.hid p1
  have HP2 := Lib.hid p2
  have HST1 := Lib.hid hst1
  have HQ2 := Lib.hid hQ2
  have HRD := Lib.hid hrd
  clear hRES p1 p2 hst1 hQ2 hrow hrd h
  go_enter Tryd.func47, Tryd.ntmps47
  go_upto_region 2 with fail
  generalize w.alloc (.cells #[] 53) = w1 at HST1 hbA ⊢
  have C2 := pck8_any w1 rp a nn cc b k false n hn HST1.out.dr (HRD.out _ HST1.out.eff) (by omega) hk
  rw [hQ1] at C2
  have hz1 := hbA.size
  clear hbA hQ1
  go_wp2_with fail
  with_reducible refine C2.mono ?_
  rintro e w2 ⟨AD, ND, CD, rfl, hoD, hd2, he2⟩
  clear C2
  have hst2 := HST1.out.read hd2 hk1 he2
  have C3 := pck8_any w2 rp a nn cc b Q1.2.1 Q1.2.2 n hn hd2 (HRD.out _ hst2.eff) (by omega) hk1
  rw [HQ2.out] at C3
  have HOD := Lib.hid (own_base hoD hz1)
  have HST2 := Lib.hid hst2
  clear hoD hd2 he2 hst2 HST1
  go_wp2_with fail
  with_reducible refine C3.mono ?_
  rintro e w3 ⟨AF, NF, CF, rfl, hoF, hd3, he3⟩
  clear C3
  have hst3 := HST2.out.read hd3 hk2 he3
  have hoD3 := HOD.out.eff he3 (fun q hq e => by have := (HOD.out.lt q hq).1; have := HST2.out.hp; omega)
  have hoF3 := own_base hoF (base' := w.heap.size) (Nat.le_trans HST2.out.eff.size (Nat.le_refl _))
  obtain ⟨DS, hDS⟩ : ∃ DS, Q1.1.getD [] = DS := ⟨_, rfl⟩
  obtain ⟨FS, hFS⟩ : ∃ FS, Q2.1.getD [] = FS := ⟨_, rfl⟩
  rw [hDS] at hoD3
  rw [hFS] at hoF3
  have hND := hoD3.len
  have hNF := hoF3.len
  rw [intL_length, natI_length] at hND hNF
  subst hND hNF
  have HBAD := Lib.hid (show (Q2.2.2 = true → RES = none) ∧ (Q2.2.2 = false → DS.length = n ∧ FS.length = n ∧ contU [] (unpQ base (DS.drop 0) (FS.drop 0) (b.drop Q2.2.1)) = RES) by
    refine ⟨HP1.out, fun hh => ?_⟩
    obtain ⟨ds, fs, e1, e2, e3, e4, e5⟩ := HP2.out hh
    rw [e1] at hDS
    rw [e2] at hFS
    simp only [Option.getD_some] at hDS hFS
    subst hDS hFS
    refine ⟨e3, e4, ?_⟩
    rw [List.drop_zero, List.drop_zero, e5]
    unfold contU
    cases unpQ base ds fs (b.drop Q2.2.1) <;> simp)
  have HST3 := Lib.hid hst3
  have HOD3 := Lib.hid hoD3
  have HOF3 := Lib.hid hoF3
  clear hoF hd3 he3 hst3 hoD3 hoF3 hDS hFS HP1 HP2 HST2 HOD HQ2
  go_wp2
  go_loopw [2, 7, 10] (fun s2 s7 s10 wr => ∃ (i k2 : Nat) (bad : Bool) (b2 : Int) (done : List PostV) (vs : Nat → Value) (A : Option Addr) (N C : Nat), s2 = .int .i64 b2 ∧ s7 = .slice A N C ∧ s10 = .int .i64 (i : Nat) ∧ i ≤ n ∧ done.length = i ∧ -1 ≤ b2 ∧ b2 < 2147483647 ∧
      DbS w wr rp (.slice a nn cc) (.slice A N C) b k2 bad done vs ∧ Own wr w.heap.size 3 (.slice AD DS.length CD) (intL (natI DS)) ∧ Own wr w.heap.size 3 (.slice AF FS.length CF) (intL (natI FS)) ∧ (bad = true → RES = none) ∧
      (bad = false → DS.length = n ∧ FS.length = n ∧ contU done (unpQ b2 (DS.drop i) (FS.drop i) (b.drop k2)) = RES)) (fun _ _ s10 _ => n - (intOf s10).toNat)
  case atStart => exact ⟨0, Q2.2.1, Q2.2.2, base, [], _, _, _, _, rfl, rfl, rfl, Nat.zero_le _, rfl, hb0, hb1, HST3.out, HOD3.out, HOF3.out, HBAD.out.1, HBAD.out.2⟩
  case round =>
    clear HST3 HOD3 HOF3 HBAD
    obtain ⟨i, k2, bad, b2, done, vs, A, N, C, rfl, rfl, rfl, hi, hdl, hb20, hb21, hst, hoD, hoF, hbd, hgd⟩ := hrel
    have q2 : wr.cell? ⟨rp, 2, none⟩ = some (.bool bad) := blk_cell hst.dr.blk 2
    by_cases hgo : i < n ∧ bad = false
    · obtain ⟨hlt, rfl⟩ := hgo
      obtain ⟨g1, g2, g3⟩ := hgd rfl
      have hlD : i < DS.length := by omega
      have hlF : i < FS.length := by omega
      obtain ⟨gd, rfl⟩ := hoD.someAt (show 0 < DS.length by omega)
      obtain ⟨gf, rfl⟩ := hoF.someAt (show 0 < FS.length by omega)
      have cd := hoD.get (intL_get (natI DS) i (by rw [natI_length]; exact hlD))
      have cf := hoF.get (intL_get (natI FS) i (by rw [natI_length]; exact hlF))
      rw [natI_get DS i hlD] at cd
      rw [natI_get FS i hlF] at cf
      rw [List.drop_eq_getElem_cons hlD, List.drop_eq_getElem_cons hlF, unpQ] at g3
      obtain ⟨d, hd⟩ : ∃ d, DS[i] = d := ⟨_, rfl⟩
      obtain ⟨f, hf⟩ : ∃ f, FS[i] = f := ⟨_, rfl⟩
      rw [hd] at cd g3
      rw [hf] at cf g3
      have i1 : (i : Int) < (n : Int) := by omega
      have i2 : (i : Int) < (DS.length : Int) := by omega
      have i3 : (i : Int) < (FS.length : Int) := by omega
      have f2 := blk_frozen hst.dr.blk 2
      by_cases hX : 2147483647 ≤ b2 + (d : Int) + 1
      · rw [if_pos hX] at g3
        have hno : blkQ base n (b.drop k) = none := by rw [HRES.out, ← g3]; rfl
        have HFIN := Lib.hid (BlkQPost.bad hst (show done.length ≤ n by omega) hno)
        clear hst hoD hoF hbd hgd g3 hno hd hf g1 g2 hlD hlF hdl hi hlt cf
        by_cases hX1 : 2147483647 ≤ (d : Int)
        · have t1 : decide ((2147483647 : Int) ≤ (d : Int)) = true := decide_eq_true hX1
          clear hX hX1 hb20 hb21
          go_wp2
          go_ret
          exact HFIN.out
        · have t1 : decide ((2147483647 : Int) ≤ (d : Int)) = false := decide_eq_false hX1
          have s1 : IntKind.i64.wrap (b2 + (d : Int)) = b2 + (d : Int) := by rw [IntKind.wrap_i64]; omega
          have s2 : IntKind.i64.wrap (b2 + (d : Int) + 1) = b2 + (d : Int) + 1 := by rw [IntKind.wrap_i64]; omega
          have t2 : decide ((2147483647 : Int) ≤ b2 + (d : Int) + 1) = true := decide_eq_true hX
          clear hX hX1 hb20 hb21
          go_wp2
          go_ret
          exact HFIN.out
      · rw [if_neg hX] at g3
        have t1 : decide ((2147483647 : Int) ≤ (d : Int)) = false := decide_eq_false (by omega)
        have s1 : IntKind.i64.wrap (b2 + (d : Int)) = b2 + (d : Int) := by rw [IntKind.wrap_i64]; omega
        have s2 : IntKind.i64.wrap (b2 + (d : Int) + 1) = b2 + (d : Int) + 1 := by rw [IntKind.wrap_i64]; omega
        have t2 : decide ((2147483647 : Int) ≤ b2 + (d : Int) + 1) = false := decide_eq_false hX
        obtain ⟨b3, hb3⟩ : ∃ b3, b2 + (d : Int) + 1 = b3 := ⟨_, rfl⟩
        have s3 : IntKind.i64.wrap ((d : Int) + 1) = (d : Int) + 1 := by rw [IntKind.wrap_i64]; omega
        have s4 : IntKind.i64.wrap (b2 + ((d : Int) + 1)) = b3 := by rw [IntKind.wrap_i64]; omega
        have hb3r : -1 ≤ b3 ∧ b3 < 2147483647 := by omega
        rw [hb3] at g3
        obtain ⟨R0, hR0⟩ : ∃ R0, getR (f + 1) (-1) (b.drop k2) = R0 := ⟨_, rfl⟩
        rw [hR0] at g3
        have HG3 := Lib.hid g3
        have HR0 := Lib.hid hR0
        have HST := Lib.hid hst
        have HOD := Lib.hid hoD
        have HOF := Lib.hid hoF
        have HB3 := Lib.hid (And.intro hb3 hb3r)
        have HIX := Lib.hid (And.intro hlD (And.intro hlF (And.intro hd hf)))
        have HGG := Lib.hid (And.intro hdl (And.intro g1 g2))
        clear g3 hR0 hst hoD hoF hbd hgd hb3r hd hf g1 g2 hdl
        have hbAl := (Below.refl wr.heap.size wr).alloc (Nat.le_refl _) (.cells #[.int .i64 b3, .slice none 0 0] 53)
        have hI : DbI w (wr.alloc (.cells #[.int .i64 b3, .slice none 0 0] 53)) rp (.slice a nn cc) (.slice A N C) b k2 false done vs wr.heap.size b3 (.slice none 0 0) [] (.slice (some ⟨gd, 0, none⟩) DS.length CD) (.slice (some ⟨gf, 0, none⟩) FS.length CF) (intL (natI DS)) (intL (natI FS)) :=
          ⟨HST.out.step hbAl, heap_alloc_new wr _, own_nil _ _ _, fun q hq => (HST.out.row.ge q hq).2, HST.out.eff.size, HOD.out.alloc _, HOF.out.alloc _, fun q hq => (HOD.out.lt q hq).2, fun q hq => (HOF.out.lt q hq).2⟩
        have HI := Lib.hid hI
        clear hI hbAl HST HOD HOF
        go_upto_region 12 with fail
        generalize wr.alloc (.cells #[.int .i64 b3, .slice none 0 0] 53) = W1 at HI ⊢
        generalize wr.heap.size = GP at HI ⊢
        clear cd cf q2 f2 t1 s1 s2 t2 s3 s4 i2
        have HHX := Lib.hid hX
        have HB2 := Lib.hid (And.intro hb20 hb21)
        clear hX hb20 hb21
        go_wp2
        obtain ⟨wo, rfl⟩ : ∃ wo : World, wo = wr := ⟨_, rfl⟩
        go_loopw [12, 13] (fun s12 s13 wi => ∃ (q k3 used : Nat) (bd : Bool) (bf : Int) (acc : List Int) (A5 : Option Addr) (N5 C5 : Nat), s12 = .int .i64 bf ∧ s13 = .int .i64 (q : Nat) ∧ acc.length = q ∧ q ≤ b.length + 1 ∧ -1 ≤ bf ∧ bf ≤ 9223372036854775807 ∧
            DbI w wi rp (.slice a nn cc) (.slice A N C) b k3 bd done vs GP b3 (.slice A5 N5 C5) acc (.slice (some ⟨gd, 0, none⟩) DS.length CD) (.slice (some ⟨gf, 0, none⟩) FS.length CF) (intL (natI DS)) (intL (natI FS)) ∧
            (bd = true → ∃ e, R0 = .error e) ∧ (bd = false → q ≤ f + 1 ∧ contR acc used (getR (f + 1 - q) bf (b.drop k3)) = R0 ∧ k2 + used = k3 ∧ k2 + q ≤ k3)) (fun _ s13 _ => f + 1 - (intOf s13).toNat)
        case atStart => exact ⟨0, k2, 0, false, -1, [], _, _, _, rfl, rfl, rfl, by omega, by omega, by omega, HI.out, (fun h => by cases h), fun _ => ⟨by omega, by rw [Nat.sub_zero, HR0.out]; cases R0 <;> simp [contR], by omega, by omega⟩⟩
        case round =>
          clear HI
          obtain ⟨q, k3, used, bd, bf, acc, A5, N5, C5, rfl, rfl, hql, hqb, hbf0, hbf1, hI, hbt, hbg⟩ := hrel
          have q2 : wr.cell? ⟨rp, 2, none⟩ = some (.bool bd) := blk_cell hI.st.dr.blk 2
          have cf : wr.cell? ⟨gf, i, none⟩ = some (.int .i64 (f : Nat)) := by
            obtain ⟨_, hlF, _, hf⟩ := HIX.out
            have h9 := hI.oF.get (intL_get (natI FS) i (by rw [natI_length]; exact hlF))
            rw [natI_get FS i hlF, hf] at h9
            exact h9
          by_cases hgo2 : q ≤ f ∧ bd = false
          · obtain ⟨hqf, rfl⟩ := hgo2
            obtain ⟨v1, v2, v3, v4⟩ := hbg rfl
            have tq : decide (q ≤ f) = true := decide_eq_true hqf
            have hk3 := hI.st.le
            have C5 := num8_any wr rp a nn cc b k3 false hI.st.dr (HRD.out _ hI.st.eff) (by omega) hI.st.le
            obtain ⟨X, k4, bd2, hnum, hk4, hTe, hbt2, hbg2⟩ := num_step hqf hI.st.le hbf0 v2
            rw [hnum] at C5
            have HI := Lib.hid hI
            have HBT2 := Lib.hid hbt2
            have HBG2 := Lib.hid hbg2
            have HTE := Lib.hid hTe
            have HQQ := Lib.hid (And.intro v1 (And.intro v3 (And.intro v4 (And.intro hql hqf))))
            clear hI hbt hbg v1 v2 v3 v4 hnum hbt2 hbg2 hTe hql hqf
            by_cases hT : 9223372036854775806 - bf < (X : Int)
            · obtain ⟨e1, he1⟩ := HTE.out hT
              have hno : blkQ base n (b.drop k) = none := by
                rw [HRES.out, ← HG3.out, he1]; rfl
              have HNO := Lib.hid hno
              clear hno he1
              by_cases hM : bf = 9223372036854775807
              · subst hM
                clear hT
                go_wp2_with fail
                with_reducible refine C5.mono ?_
                rintro e w6 ⟨rfl, hd6, he6⟩
                clear C5
                have hI6 := HI.out.read hd6 hk4 he6
                have q6 : w6.cell? ⟨rp, 2, none⟩ = some (.bool bd2) := blk_cell hd6.blk 2
                have f6 := blk_frozen hd6.blk 2
                have HFIN := Lib.hid (BlkQPost.bad hI6.st (show done.length ≤ n by have := HGG.out.1; omega) HNO.out)
                clear hI6 hd6 he6 HI q2 cf
                go_wp2
                go_ret
                exact HFIN.out
              · have t1 : ((bf : Int) == 9223372036854775807) = false := by apply beq_false_of_ne; exact hM
                obtain ⟨Y, hY⟩ : ∃ Y, 9223372036854775806 - bf = Y := ⟨_, rfl⟩
                have s1 : IntKind.i64.wrap (9223372036854775806 - bf) = Y := by rw [IntKind.wrap_i64]; omega
                have t2 : decide (Y < (X : Int)) = true := decide_eq_true (by omega)
                clear hT hM hY
                go_wp2_with fail
                with_reducible refine C5.mono ?_
                rintro e w6 ⟨rfl, hd6, he6⟩
                clear C5
                have hI6 := HI.out.read hd6 hk4 he6
                have q6 : w6.cell? ⟨rp, 2, none⟩ = some (.bool bd2) := blk_cell hd6.blk 2
                have f6 := blk_frozen hd6.blk 2
                have HFIN := Lib.hid (BlkQPost.bad hI6.st (show done.length ≤ n by have := HGG.out.1; omega) HNO.out)
                clear hI6 hd6 he6 HI q2 cf
                go_wp2
                go_ret
                exact HFIN.out
            · have hXle : (X : Int) ≤ 9223372036854775806 - bf := Int.not_lt.1 hT
              have hM : ¬ bf = 9223372036854775807 := by omega
              have t1 : ((bf : Int) == 9223372036854775807) = false := by apply beq_false_of_ne; exact hM
              obtain ⟨Y, hY⟩ : ∃ Y, 9223372036854775806 - bf = Y := ⟨_, rfl⟩
              have s1 : IntKind.i64.wrap (9223372036854775806 - bf) = Y := by rw [IntKind.wrap_i64]; omega
              have t2 : decide (Y < (X : Int)) = false := decide_eq_false (by omega)
              have hb4r : -1 ≤ bf + (X : Int) + 1 ∧ bf + (X : Int) + 1 ≤ 9223372036854775807 := ⟨by omega, by omega⟩
              have hs5 := sum_i64 bf X hbf0 hXle
              obtain ⟨Z1, hZ1⟩ : ∃ Z1, IntKind.i64.wrap ((X : Int) + 1) = Z1 := ⟨_, rfl⟩
              rw [hZ1] at hs5
              have hbg3 : bd2 = false → ∃ c, 1 ≤ c ∧ k4 = k3 + c ∧ contR (acc ++ [bf + X + 1]) (used + c) (getR (f + 1 - (q + 1)) (bf + X + 1) (b.drop k4)) = R0 := fun h => by
                rcases HBG2.out h with h9 | h9
                · exact absurd h9 hT
                · exact h9
              obtain ⟨b4, hb4⟩ : ∃ b4, bf + (X : Int) + 1 = b4 := ⟨_, rfl⟩
              rw [hb4] at hs5 hb4r hbg3
              have HB4 := Lib.hid hb4r
              have HBG3 := Lib.hid hbg3
              clear hT hM hY hXle hb4r hbg3 hb4 HBG2
              go_wp2_with fail
              with_reducible refine C5.mono ?_
              rintro e w6 ⟨rfl, hd6, he6⟩
              clear C5
              have hI6 := HI.out.read hd6 hk4 he6
              have c61 := blk_cell hI6.blk 1
              have hlen6 : (intL acc).length < 1000000000000 := by rw [intL_length]; have := HQQ.out.2.2.2.1; omega
              have hz6 : GP ≤ w6.heap.size := Nat.le_of_lt (lt_of_heap hI6.blk)
              have HI6 := Lib.hid hI6
              have HL6 := Lib.hid hlen6
              clear hI6 hd6 he6 HI q2 cf hlen6
              go_wp2_with (at_builtin; with_reducible refine ap1' elInts rfl HI6.out.own HL6.out hz6 rfl _ _ rfl rfl rfl ?_)
              intro v7 w7 m1 m2 m3 m4
              obtain ⟨h7, c71, f71⟩ := HI6.out.app (acc2 := acc ++ [b4]) (own_to m1 (by rw [intL_append]; rfl)) m4
              obtain ⟨A7, N7, C7, rfl⟩ := own_sl m1
              have HI7 := Lib.hid h7
              clear h7 m1 m2 m3 m4 HI6 c61
              go_wp2
              go_roundw
              case rel =>
                obtain ⟨x1, x2, x3, x4, x5⟩ := HQQ.out
                refine ⟨q + 1, k4, used + (k4 - k3), bd2, b4, acc ++ [b4], A7, N7, C7, by first | rfl | rw [hs5], by go_num, by rw [List.length_append, x4]; rfl, by omega, HB4.out.1, HB4.out.2, HI7.out, HBT2.out, fun h => ?_⟩
                obtain ⟨c, y1, y2, y3⟩ := HBG3.out h
                rw [show used + (k4 - k3) = used + c by omega]
                exact ⟨by omega, y3, by omega, by omega⟩
              case measure => simp [intOf]; have := HQQ.out.2.2.2.2; omega
          · by_cases hqf : q ≤ f
            · have tq : decide (q ≤ f) = true := decide_eq_true hqf
              have hbdt : bd = true := by
                cases bd with
                | true => rfl
                | false => exact absurd ⟨hqf, rfl⟩ hgo2
              subst hbdt
              have hRn : true = true → RES = none := fun h => by
                obtain ⟨e1, he1⟩ := hbt h
                rw [← HG3.out, he1]; rfl
              have hRg : true = false → DS.length = n ∧ FS.length = n ∧ contU (done ++ [⟨b3, acc⟩]) (unpQ b3 (DS.drop (i + 1)) (FS.drop (i + 1)) (b.drop k3)) = RES := fun h => by
                obtain ⟨x1, x2, x3, x4⟩ := hbg h
                have hqe : f + 1 - q = 0 := by
                  rcases Nat.lt_or_ge f q with h9 | h9
                  · omega
                  · exact absurd ⟨h9, h⟩ hgo2
                rw [hqe, getR] at x2
                refine ⟨HGG.out.2.1, HGG.out.2.2, ?_⟩
                rw [← HG3.out, ← x2]
                simp only [contR, List.append_nil, Nat.add_zero, List.drop_drop, x3]
                cases unpQ b3 (DS.drop (i + 1)) (FS.drop (i + 1)) (b.drop k3) with
                | none => rfl
                | some y => simp [contU]
              have c0 := blk_cell hI.blk 0
              have c1 := blk_cell hI.blk 1
              have hos := own_base hI.own hI.hp
              have hsp : ∀ kk q', kk < done.length → (vs kk).ownBlock = some q' → (Value.slice A5 N5 C5).ownBlock ≠ some q' := fun kk q' hk' h1 h2 => by
                have z1 := hI.vlt q' (.inr ⟨kk, hk', h1⟩)
                have z2 := (hI.own.lt q' h2).1
                omega
              have hdl9 : done.length ≤ 1000000000 := by have := HGG.out.1; omega
              have hz9 := hI.st.eff.size
              have HI := Lib.hid hI
              have HOS := Lib.hid hos
              have HSP := Lib.hid hsp
              have HDL9 := Lib.hid hdl9
              have HRN := Lib.hid hRn
              have HRG := Lib.hid hRg
              clear hI hos hsp hdl9 hbt hbg hRn hRg hgo2 hqb hbf0 hbf1 hql
              go_wp2_with (at_builtin; with_reducible refine apP1 HI.out.st.row b3 acc _ HOS.out HSP.out HDL9.out hz9 rfl _ _ rfl rfl rfl ?_)
              intro v8 w8 hrow8 hg8
              have he8 : Eff (fun q' => (Value.slice A N C).ownBlock = some q') wr w8 := (Eff.refl _ wr).grown hg8 (fun q' hq _ => hq)
              have hst8 : DbS w w8 rp (.slice a nn cc) v8 b k3 true (done ++ [⟨b3, acc⟩]) (fun kk => if kk < done.length then vs kk else .slice A5 N5 C5) :=
                ⟨HI.out.st.dr.eff he8 (fun e => by have := (HI.out.st.row.lt rp e).1; have := HI.out.st.hp; omega), HI.out.st.le, hrow8, HI.out.st.eff.trans he8 (fun q' hq hlt => by have := (HI.out.st.row.lt q' hq).1; omega), HI.out.st.hp⟩
              have hoD8 := HI.out.oD.eff he8 (fun q' hq e => row_ne_own HI.out.st.row.row HI.out.oD (by decide) e hq)
              have hoF8 := HI.out.oF.eff he8 (fun q' hq e => row_ne_own HI.out.st.row.row HI.out.oF (by decide) e hq)
              obtain ⟨A8, C8, rfl, _⟩ := hrow8.sl
              have HST8 := Lib.hid hst8
              have HOD8 := Lib.hid hoD8
              have HOF8 := Lib.hid hoF8
              clear hrow8 hg8 he8 hst8 hoD8 hoF8 c0 c1 HI HOS HSP cf q2
              go_wp2
              go_roundw
              case rel => exact ⟨i + 1, k3, true, b3, done ++ [⟨b3, acc⟩], _, A8, _, C8, rfl, rfl, by go_num, by omega, by rw [List.length_append, HGG.out.1]; rfl, HB3.out.2.1, HB3.out.2.2, HST8.out, HOD8.out, HOF8.out, fun _ => HRN.out (by trivial), (fun h => by cases h)⟩
              case measure => simp [intOf]; omega
            · have tq : decide (q ≤ f) = false := decide_eq_false hqf
              have hRn : bd = true → RES = none := fun h => by
                obtain ⟨e1, he1⟩ := hbt h
                rw [← HG3.out, he1]; rfl
              have hRg : bd = false → DS.length = n ∧ FS.length = n ∧ contU (done ++ [⟨b3, acc⟩]) (unpQ b3 (DS.drop (i + 1)) (FS.drop (i + 1)) (b.drop k3)) = RES := fun h => by
                obtain ⟨x1, x2, x3, x4⟩ := hbg h
                have hqe : f + 1 - q = 0 := by
                  rcases Nat.lt_or_ge f q with h9 | h9
                  · omega
                  · exact absurd ⟨h9, h⟩ hgo2
                rw [hqe, getR] at x2
                refine ⟨HGG.out.2.1, HGG.out.2.2, ?_⟩
                rw [← HG3.out, ← x2]
                simp only [contR, List.append_nil, Nat.add_zero, List.drop_drop, x3]
                cases unpQ b3 (DS.drop (i + 1)) (FS.drop (i + 1)) (b.drop k3) with
                | none => rfl
                | some y => simp [contU]
              have c0 := blk_cell hI.blk 0
              have c1 := blk_cell hI.blk 1
              have hos := own_base hI.own hI.hp
              have hsp : ∀ kk q', kk < done.length → (vs kk).ownBlock = some q' → (Value.slice A5 N5 C5).ownBlock ≠ some q' := fun kk q' hk' h1 h2 => by
                have z1 := hI.vlt q' (.inr ⟨kk, hk', h1⟩)
                have z2 := (hI.own.lt q' h2).1
                omega
              have hdl9 : done.length ≤ 1000000000 := by have := HGG.out.1; omega
              have hz9 := hI.st.eff.size
              have HI := Lib.hid hI
              have HOS := Lib.hid hos
              have HSP := Lib.hid hsp
              have HDL9 := Lib.hid hdl9
              have HRN := Lib.hid hRn
              have HRG := Lib.hid hRg
              clear hI hos hsp hdl9 hbt hbg hRn hRg hgo2 hqb hbf0 hbf1 hql
              go_wp2_with (at_builtin; with_reducible refine apP1 HI.out.st.row b3 acc _ HOS.out HSP.out HDL9.out hz9 rfl _ _ rfl rfl rfl ?_)
              intro v8 w8 hrow8 hg8
              have he8 : Eff (fun q' => (Value.slice A N C).ownBlock = some q') wr w8 := (Eff.refl _ wr).grown hg8 (fun q' hq _ => hq)
              have hst8 : DbS w w8 rp (.slice a nn cc) v8 b k3 bd (done ++ [⟨b3, acc⟩]) (fun kk => if kk < done.length then vs kk else .slice A5 N5 C5) :=
                ⟨HI.out.st.dr.eff he8 (fun e => by have := (HI.out.st.row.lt rp e).1; have := HI.out.st.hp; omega), HI.out.st.le, hrow8, HI.out.st.eff.trans he8 (fun q' hq hlt => by have := (HI.out.st.row.lt q' hq).1; omega), HI.out.st.hp⟩
              have hoD8 := HI.out.oD.eff he8 (fun q' hq e => row_ne_own HI.out.st.row.row HI.out.oD (by decide) e hq)
              have hoF8 := HI.out.oF.eff he8 (fun q' hq e => row_ne_own HI.out.st.row.row HI.out.oF (by decide) e hq)
              obtain ⟨A8, C8, rfl, _⟩ := hrow8.sl
              have HST8 := Lib.hid hst8
              have HOD8 := Lib.hid hoD8
              have HOF8 := Lib.hid hoF8
              clear hrow8 hg8 he8 hst8 hoD8 hoF8 c0 c1 HI HOS HSP cf q2
              go_wp2
              go_roundw
              case rel => exact ⟨i + 1, k3, bd, b3, done ++ [⟨b3, acc⟩], _, A8, _, C8, rfl, rfl, by go_num, by omega, by rw [List.length_append, HGG.out.1]; rfl, HB3.out.2.1, HB3.out.2.2, HST8.out, HOD8.out, HOF8.out, HRN.out, HRG.out⟩
              case measure => simp [intOf]; omega
    · have hfin : BlkQPost w rp (.slice a nn cc) b base n k (.returned (.slice A N C)) wr := by
        refine ⟨A, N, C, done, vs, k2, bad, rfl, hst.row, by omega, hst.dr, hst.le, hst.eff, fun h => ?_, fun ps0 l0 h => ?_⟩
        · rw [HRES.out] at h
          cases bad with
          | true => rfl
          | false =>
            obtain ⟨g1, g2, g3⟩ := hgd rfl
            have hin : i = n := by
              rcases Nat.lt_or_ge i n with h9 | h9
              · exact absurd ⟨h9, rfl⟩ hgo
              · omega
            rw [List.drop_of_length_le (show DS.length ≤ i by omega), unpQ, h] at g3
            cases g3
        · rw [HRES.out] at h
          cases bad with
          | true => rw [hbd rfl] at h; cases h
          | false =>
            obtain ⟨g1, g2, g3⟩ := hgd rfl
            have hin : i = n := by
              rcases Nat.lt_or_ge i n with h9 | h9
              · exact absurd ⟨h9, rfl⟩ hgo
              · omega
            rw [List.drop_of_length_le (show DS.length ≤ i by omega), unpQ, h] at g3
            have g3 : some (done ++ [], b.drop k2) = some (ps0, l0) := g3
            injection g3 with g3
            injection g3 with g4 g5
            exact ⟨rfl, by rw [← g4, List.append_nil], g5.symm⟩
      have HFIN := Lib.hid hfin
      clear hst hoD hoF hbd hgd hfin hdl hb20 hb21
      cases bad with
      | true =>
        by_cases hlt : i < n
        · have i1 : (i : Int) < (n : Int) := by omega
          clear hgo hlt
          go_wp2
          go_ret
          exact HFIN.out
        · have i1 : ¬ ((i : Int) < (n : Int)) := by omega
          clear hgo hlt
          go_wp2
          go_ret
          exact HFIN.out
      | false =>
        have i1 : ¬ ((i : Int) < (n : Int)) := fun h9 => hgo ⟨by omega, rfl⟩
        clear hgo
        go_wp2
        go_ret
        exact HFIN.out
end Go.Proofs.YthnpbfadblcicaaDoor

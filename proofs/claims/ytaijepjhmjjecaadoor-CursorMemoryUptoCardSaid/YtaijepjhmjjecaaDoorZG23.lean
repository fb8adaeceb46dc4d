/- Merged: DRd, DBlk. -/
import Derived.Test.YtaijepjhmjjecaaDoorZG15
import Derived.Test.YtaijepjhmjjecaaDoorZGetL
import Derived.Test.YtaijepjhmjjecaaDoorZG14
/- posts: the document's reader: number, packed. -/
namespace Go.Proofs.YtaijepjhmjjecaaDoor
set_option linter.unusedVariables false
open Go.ChangeShapes Go.WideShapes Go.ChangeAt Go.RowKit

/-- The document's reader at block rp. -/
structure Dr (w : World) (rp : Nat) (sl : Value) (k : Nat) (bad : Bool) : Prop where
  blk : w.heap[rp]? = some (.cells #[sl, .int .i64 (k : Nat), .bool bad] 82 (0, 0))
theorem Dr.drewN {w : World} {rp : Nat} {sl : Value} {k : Nat} {bad : Bool} (h : Dr w rp sl k bad) (d : Nat) : Dr (w.drewN d) rp sl k bad := ⟨h.blk⟩
theorem Dr.eff {F : Nat → Prop} {w w' : World} {rp : Nat} {sl : Value} {k : Nat} {bad : Bool} (h : Dr w rp sl k bad) (e : Eff F w w') (hF : ¬ F rp) : Dr w' rp sl k bad := ⟨(e.block rp (lt_of_heap h.blk) hF).trans h.blk⟩
theorem Dr.bad {w : World} {rp : Nat} {sl : Value} {k : Nat} {bad : Bool} (h : Dr w rp sl k bad) : Dr (w.setCell ⟨rp, 2, none⟩ (.bool true)) rp sl k true := ⟨blk_set h.blk 2 _⟩
theorem Dr.move {w : World} {rp : Nat} {sl : Value} {k : Nat} {bad : Bool} (h : Dr w rp sl k bad) (j : Nat) : Dr (w.setCell ⟨rp, 1, none⟩ (.int .i64 (j : Nat))) rp sl j bad := ⟨blk_set h.blk 1 _⟩
theorem pk_err {l : List UInt8} {q : Nat} (h : getPk 16 l = .error q) : q ≠ 0 := by
  unfold getPk at h
  cases hg : getUpto 16 l with
  | error e => rw [hg] at h; injection h with h; subst h; exact upto_err hg
  | ok y =>
    obtain ⟨n, k⟩ := y
    rw [hg] at h
    simp only at h
    split at h
    · cases h
    · cases hr : getPB n (l.drop k) with
      | error e =>
        rw [hr] at h; injection h with h; subst h
        unfold getPB at hr
        split at hr
        · injection hr with hr; omega
        · split at hr
          · injection hr with hr; omega
          · split at hr
            · injection hr with hr; omega
            · split at hr
              · cases hr
              · injection hr with hr; omega
      | ok y => rw [hr] at h; cases h
def numQ (b : List UInt8) (k : Nat) (bad : Bool) : Nat × Nat × Bool := if bad then (0, k, true) else match getUpto 9223372036854775807 (b.drop k) with
  | .error _ => (0, k, true)
  | .ok (u, c) => (u, k + c, false)
def pkQ (b : List UInt8) (k : Nat) (bad : Bool) (n : Nat) : Option (List Nat) × Nat × Bool := if bad then (none, k, true) else match getPk 16 (b.drop k) with
  | .error _ => (none, k, true)
  | .ok (ds, c) => if ds.length = n then (some ds, k + c, false) else (none, k, true)
set_option maxRecDepth 100000 in
set_option maxHeartbeats 2000000 in
theorem num8_any (w : World) (rp : Nat) (a : Option Addr) (nn cc : Nat) (b : List UInt8) (k : Nat) (bad : Bool) (h : Dr w rp (.slice a nn cc) k bad) (hr : Rd w (.slice a nn cc) (bytesV b)) (hb : b.length ≤ 100000000) (hk : k ≤ b.length) :
    Calls Tryd.prog 42 #[.pointer (some ⟨rp, 0, none⟩), .int .i64 9223372036854775807] w fun e w' => e = .returned (.int .i64 ((numQ b k bad).1 : Nat)) ∧ Dr w' rp (.slice a nn cc) (numQ b k bad).2.1 (numQ b k bad).2.2 ∧ Eff (· = rp) w w' := by
  have p0 : w.cell? ⟨rp, 0, none⟩ = some (.slice a nn cc) := blk_cell h.blk 0
  have p1 : w.cell? ⟨rp, 1, none⟩ = some (.int .i64 (k : Nat)) := blk_cell h.blk 1
  have hD := Lib.hid h
  cases hg : getUpto 9223372036854775807 (b.drop k) with
  | error n =>
    have hn0 := upto_err hg
    have hq : numQ b k bad = (0, k, true) := by unfold numQ; rw [hg]; split <;> rfl
    rw [hq]
    have Q : ∀ q, Calls Tryd.prog 73 #[.slice a nn cc, .int .i64 (k : Nat), .int .i64 9223372036854775807] (w.drewN q) fun e w' => e = .returned (.tuple #[.int .i64 0, .int .i64 (k : Nat), .int .i64 (n : Nat)]) ∧ ∃ m, w' = w.drewN m := fun q =>
      (rgt_any (w.drewN q) a nn cc b hr (by omega) k hk 9223372036854775807 (by omega) (by omega)).mono fun e w' hh => ⟨hh.1 n hg, q, hh.2.2.symm⟩
    have t0 : ((n : Int) != 0) = true := by simp; omega
    clear hg hq hr
    go_enter Tryd.func42, Tryd.ntmps42
    go_wp2
    go_quiet ((go_at_call 73; with_reducible exact Q _))
    have hd2 := hD.out.drewN nq
    have he2 := (Eff.refl (· = rp) w).drewN nq
    generalize w.drewN nq = w2 at hd2 he2 ⊢
    clear Q p0 p1
    have p2 : w2.cell? ⟨rp, 2, none⟩ = some (.bool bad) := blk_cell hd2.blk 2
    have f2 := blk_frozen hd2.blk 2
    have HD2 := Lib.hid hd2.bad
    have HE2 := Lib.hid (he2.setP 2 (.bool true))
    clear hd2 he2 h
    go_wp2
    go_ret
    exact ⟨rfl, HD2.out, HE2.out⟩
  | ok y =>
    obtain ⟨u, c⟩ := y
    have Q : ∀ q, Calls Tryd.prog 73 #[.slice a nn cc, .int .i64 (k : Nat), .int .i64 9223372036854775807] (w.drewN q) fun e w' => e = .returned (.tuple #[.int .i64 (u : Nat), .int .i64 (k + c : Nat), .int .i64 0]) ∧ ∃ m, w' = w.drewN m := fun q =>
      (rgt_any (w.drewN q) a nn cc b hr (by omega) k hk 9223372036854775807 (by omega) (by omega)).mono fun e w' hh => ⟨hh.2.1 u c hg, q, hh.2.2.symm⟩
    obtain ⟨kc, hkc⟩ : ∃ kc, k + c = kc := ⟨_, rfl⟩
    rw [hkc] at Q
    have p2 : w.cell? ⟨rp, 2, none⟩ = some (.bool bad) := blk_cell h.blk 2
    cases bad with
    | true =>
      rw [show numQ b k true = (0, k, true) from rfl]
      clear hg hr hkc
      go_enter Tryd.func42, Tryd.ntmps42
      go_wp2
      go_quiet ((go_at_call 73; with_reducible exact Q _))
      have hd2 := hD.out.drewN nq
      have he2 := (Eff.refl (· = rp) w).drewN nq
      generalize w.drewN nq = w2 at hd2 he2 ⊢
      clear Q p0 p1 p2
      have p2 : w2.cell? ⟨rp, 2, none⟩ = some (.bool true) := blk_cell hd2.blk 2
      have f2 := blk_frozen hd2.blk 2
      have HD2 := Lib.hid hd2.bad
      have HE2 := Lib.hid (he2.setP 2 (.bool true))
      clear hd2 he2 h
      go_wp2
      go_ret
      exact ⟨rfl, HD2.out, HE2.out⟩
    | false =>
      have hq : numQ b k false = (u, kc, false) := by unfold numQ; rw [hg]; simp only; rw [← hkc]; rfl
      rw [hq]
      clear hg hq hr hkc
      go_enter Tryd.func42, Tryd.ntmps42
      go_wp2
      go_quiet ((go_at_call 73; with_reducible exact Q _))
      have hd2 := hD.out.drewN nq
      have he2 := (Eff.refl (· = rp) w).drewN nq
      generalize w.drewN nq = w2 at hd2 he2 ⊢
      clear Q p0 p1 p2
      have p2 : w2.cell? ⟨rp, 2, none⟩ = some (.bool false) := blk_cell hd2.blk 2
      have p1 : w2.cell? ⟨rp, 1, none⟩ = some (.int .i64 (k : Nat)) := blk_cell hd2.blk 1
      have f1 := blk_frozen hd2.blk 1
      have HD2 := Lib.hid (hd2.move kc)
      have HE2 := Lib.hid (he2.setP 1 (.int .i64 (kc : Nat)))
      clear hd2 he2 h
      go_wp2
      go_ret
      exact ⟨rfl, HD2.out, HE2.out⟩
/-- What packed answers and leaves. -/
def PkPost (w : World) (rp : Nat) (sl : Value) (res : Option (List Nat) × Nat × Bool) (e : Ending) (w' : World) : Prop :=
  ∃ A N C, e = .returned (.slice A N C) ∧ Own w' w.heap.size 3 (.slice A N C) (intL (natI (res.1.getD []))) ∧ Dr w' rp sl res.2.1 res.2.2 ∧ Eff (· = rp) w w'
set_option maxRecDepth 100000 in
set_option maxHeartbeats 2000000 in
theorem pck8_any (w : World) (rp : Nat) (a : Option Addr) (nn cc : Nat) (b : List UInt8) (k : Nat) (bad : Bool) (n : Nat) (hn : n ≤ 16) (h : Dr w rp (.slice a nn cc) k bad) (hr : Rd w (.slice a nn cc) (bytesV b)) (hb : b.length ≤ 100000000) (hk : k ≤ b.length) :
    Calls Tryd.prog 74 #[.pointer (some ⟨rp, 0, none⟩), .int .i64 (n : Nat)] w (PkPost w rp (.slice a nn cc) (pkQ b k bad n)) := by
  have p0 : w.cell? ⟨rp, 0, none⟩ = some (.slice a nn cc) := blk_cell h.blk 0
  have p1 : w.cell? ⟨rp, 1, none⟩ = some (.int .i64 (k : Nat)) := blk_cell h.blk 1
  have hD := Lib.hid h
  have C1 := rgp_any w.drew a nn cc b hr hb k hk 16 (by omega) (by omega)
  cases hg : getPk 16 (b.drop k) with
  | error q =>
    have hq0 : q ≠ 0 := pk_err hg
    have hq : pkQ b k bad n = (none, k, true) := by unfold pkQ; rw [hg]; split <;> rfl
    rw [hq]
    rw [hg] at C1
    have t0 : ((q : Int) != 0) = true := by simp; omega
    have HC1 := Lib.hid C1
    clear hg hq hr C1
    go_enter Tryd.func74, Tryd.ntmps74
    go_upto_region 1 with fail
    go_cut [5, 6, 7] (fun s5 s6 s7 wx => ∃ A N C, s5 = .slice A N C ∧ s6 = .int .i64 (k : Nat) ∧ s7 = .int .i64 (q : Nat) ∧ Below w.heap.size w wx)
    case first =>
      have q0 : w.drew.cell? ⟨rp, 0, none⟩ = some (.slice a nn cc) := p0
      have q1 : w.drew.cell? ⟨rp, 1, none⟩ = some (.int .i64 (k : Nat)) := p1
      go_region_with (go_at_call 101; (with_reducible refine HC1.out.mono ?_); rintro e w5 ⟨v5, hb5, h5, -⟩; obtain ⟨rfl, ho5⟩ := h5 q rfl; obtain ⟨A5, N5, C5, rfl⟩ := own_sl ho5)
      all_goals
        go_wp2
        go_meet
        exact ⟨_, _, _, rfl, rfl, rfl, (Below.refl _ w).drew.trans hb5⟩
    case rest =>
      clear p0 p1
      obtain ⟨A5, N5, C5, rfl, rfl, rfl, hb5⟩ := hcut
      have hd2 := hD.out.eff (Eff.of_below hb5 (fun _ => False)) (fun f => f)
      have he2 : Eff (· = rp) w wc := Eff.of_below hb5 _
      have p2 : wc.cell? ⟨rp, 2, none⟩ = some (.bool bad) := blk_cell hd2.blk 2
      have f2 := blk_frozen hd2.blk 2
      have HD2 := Lib.hid hd2.bad
      have HE2 := Lib.hid (he2.setP 2 (.bool true))
      clear hd2 he2 h hb5
      go_wp2
      go_ret
      exact ⟨_, _, _, rfl, own_nil _ _ _, HD2.out, HE2.out⟩
  | ok y =>
    obtain ⟨ds, c⟩ := y
    rw [hg] at C1
    have HC1 := Lib.hid C1
    obtain ⟨kc, hkc⟩ : ∃ kc, k + c = kc := ⟨_, rfl⟩
    have HKC := Lib.hid hkc
    have hdl := pk_len hg
    have hbadq : bad = true ∨ ds.length ≠ n → pkQ b k bad n = (none, k, true) := fun hh => by
      unfold pkQ
      by_cases hb1 : bad = true
      · rw [if_pos hb1]
      · rw [if_neg hb1, hg]
        simp only
        rw [if_neg (by rcases hh with hh | hh; exact absurd hh hb1; exact hh)]
    have hokq : bad = false → ds.length = n → pkQ b k bad n = (some ds, kc, false) := fun h1 h2 => by
      unfold pkQ
      rw [if_neg (by rw [h1]; decide), hg]
      simp only
      rw [if_pos h2, hkc]
    have HBQ := Lib.hid hbadq
    have HOQ := Lib.hid hokq
    clear hg hr C1 hkc hbadq hokq
    go_enter Tryd.func74, Tryd.ntmps74
    go_upto_region 1 with fail
    go_cut [5, 6, 7] (fun s5 s6 s7 wx => ∃ A C, s5 = .slice A ds.length C ∧ s6 = .int .i64 (kc : Nat) ∧ s7 = .int .i64 0 ∧ Own wx w.heap.size 3 (.slice A ds.length C) (intL (natI ds)) ∧ Below w.heap.size w wx)
    case first =>
      have q0 : w.drew.cell? ⟨rp, 0, none⟩ = some (.slice a nn cc) := p0
      have q1 : w.drew.cell? ⟨rp, 1, none⟩ = some (.int .i64 (k : Nat)) := p1
      go_region_with (go_at_call 101; (with_reducible refine HC1.out.mono ?_); rintro e w5 ⟨v5, hb5, -, h5⟩; obtain ⟨rfl, ho5⟩ := h5 (natI ds) c rfl; obtain ⟨A5, N5, C5, rfl⟩ := own_sl ho5)
      all_goals
        have hN5 := ho5.len
        rw [intL_length, natI_length] at hN5
        subst hN5
        go_wp2
        go_meet
        exact ⟨_, _, rfl, by rw [← HKC.out, Int.natCast_add], rfl, ho5, (Below.refl _ w).drew.trans hb5⟩
    case rest =>
      clear p0 p1
      obtain ⟨A5, C5, rfl, rfl, rfl, ho5, hb5⟩ := hcut
      have hd2 := hD.out.eff (Eff.of_below hb5 (fun _ => False)) (fun f => f)
      have he2 : Eff (· = rp) w wc := Eff.of_below hb5 _
      have p2 : wc.cell? ⟨rp, 2, none⟩ = some (.bool bad) := blk_cell hd2.blk 2
      have f2 := blk_frozen hd2.blk 2
      by_cases hbd : bad = true
      · subst hbd
        have HQQ := Lib.hid (HBQ.out (.inl rfl))
        have HD2 := Lib.hid hd2.bad
        have HE2 := Lib.hid (he2.setP 2 (.bool true))
        clear hd2 he2 h hb5 ho5
        go_wp2
        go_ret
        rw [HQQ.out]
        exact ⟨_, _, _, rfl, own_nil _ _ _, HD2.out, HE2.out⟩
      · have hbf : bad = false := by simpa using hbd
        subst hbf
        by_cases hds : ds.length = n
        · have HQQ := Lib.hid (HOQ.out rfl hds)
          have t1 : ((ds.length : Int) != (n : Int)) = false := by simp; omega
          have c1 : wc.cell? ⟨rp, 1, none⟩ = some (.int .i64 (k : Nat)) := blk_cell hd2.blk 1
          have f1 := blk_frozen hd2.blk 1
          have HD2 := Lib.hid (hd2.move kc)
          have HE2 := Lib.hid (he2.setP 1 (.int .i64 (kc : Nat)))
          have HO5 := Lib.hid (ho5.setOther (p := ⟨rp, 1, none⟩) (ho5.ne_type hd2.blk (by decide)) (.int .i64 (kc : Nat)))
          clear hd2 he2 h hb5 ho5 hds hbd
          go_wp2
          go_ret
          rw [HQQ.out]
          exact ⟨_, _, _, rfl, HO5.out, HD2.out, HE2.out⟩
        · have HQQ := Lib.hid (HBQ.out (.inr hds))
          have t1 : ((ds.length : Int) != (n : Int)) = true := by simp; omega
          have HD2 := Lib.hid hd2.bad
          have HE2 := Lib.hid (he2.setP 2 (.bool true))
          clear hd2 he2 h hb5 ho5 hds hbd
          go_wp2
          go_ret
          rw [HQQ.out]
          exact ⟨_, _, _, rfl, own_nil _ _ _, HD2.out, HE2.out⟩
end Go.Proofs.YtaijepjhmjjecaaDoor

/- posts: the document's reader: block. -/
namespace Go.Proofs.YtaijepjhmjjecaaDoor
set_option linter.unusedVariables false
open Go.ChangeShapes Go.WideShapes Go.ChangeAt Go.RowKit

theorem pk_cons {l : List UInt8} {r : List Nat} {j : Nat} (h : getPk 16 l = .ok (r, j)) : j ≤ l.length := by
  unfold getPk at h
  cases hg : getUpto 16 l with
  | error e => rw [hg] at h; cases h
  | ok y =>
    obtain ⟨n, k⟩ := y
    rw [hg] at h
    simp only at h
    have hk := (getU_len (getUpto_len hg).1).1
    split at h
    · injection h with h; injection h with e1 e2; omega
    · cases hr : getPB n (l.drop k) with
      | error e => rw [hr] at h; cases h
      | ok y =>
        obtain ⟨r', j'⟩ := y
        rw [hr] at h
        injection h with h; injection h with e1 e2
        have hj : j' ≤ (l.drop k).length := by
          cases hl : l.drop k with
          | nil => rw [hl] at hr; cases hr
          | cons x rr =>
            rw [hl, getPB] at hr
            split at hr
            · cases hr
            · split at hr
              · cases hr
              · next h1 h2 =>
                split at hr
                · injection hr with hr; injection hr with e3 e4
                  rw [List.length_cons, ← e4]
                  rcases Nat.eq_zero_or_pos x.toNat with hz | hz
                  · rw [hz]; simp
                  · have := packed_size hz (fun h3 => h2 ⟨hz, h3⟩)
                    omega
                · cases hr
        rw [List.length_drop] at hj
        omega
theorem pkQ_le {b : List UInt8} {k : Nat} (hk : k ≤ b.length) (bad : Bool) (n : Nat) : (pkQ b k bad n).2.1 ≤ b.length := by
  unfold pkQ
  split
  · exact hk
  · cases hg : getPk 16 (b.drop k) with
    | error e => exact hk
    | ok y =>
      obtain ⟨ds, c⟩ := y
      have := pk_cons hg
      rw [List.length_drop] at this
      simp only
      split
      · show k + c ≤ _; omega
      · exact hk
theorem pk_two (b : List UInt8) (k n : Nat) (base : Int) :
    ((pkQ b (pkQ b k false n).2.1 (pkQ b k false n).2.2 n).2.2 = true → blkQ base n (b.drop k) = none) ∧
    ((pkQ b (pkQ b k false n).2.1 (pkQ b k false n).2.2 n).2.2 = false → ∃ ds fs, (pkQ b k false n).1 = some ds ∧ (pkQ b (pkQ b k false n).2.1 (pkQ b k false n).2.2 n).1 = some fs ∧ ds.length = n ∧ fs.length = n ∧
      blkQ base n (b.drop k) = unpQ base ds fs (b.drop (pkQ b (pkQ b k false n).2.1 (pkQ b k false n).2.2 n).2.1)) := by
  unfold blkQ
  cases hg : getPk 16 (b.drop k) with
  | error e =>
    have h1 : pkQ b k false n = (none, k, true) := by unfold pkQ; rw [hg]; rfl
    rw [h1]
    exact ⟨fun _ => rfl, (fun h => by simp [pkQ] at h)⟩
  | ok y =>
    obtain ⟨ds, c⟩ := y
    simp only
    by_cases hd : ds.length = n
    · have h1 : pkQ b k false n = (some ds, k + c, false) := by unfold pkQ; rw [hg]; simp only; rw [if_pos hd]; rfl
      rw [h1, if_neg (by simpa using hd)]
      simp only [List.drop_drop]
      cases hg2 : getPk 16 (b.drop (k + c)) with
      | error e =>
        have h2 : pkQ b (k + c) false n = (none, k + c, true) := by unfold pkQ; rw [hg2]; rfl
        rw [h2]
        exact ⟨fun _ => rfl, (fun h => by cases h)⟩
      | ok y =>
        obtain ⟨fs, c2⟩ := y
        simp only
        by_cases hf : fs.length = n
        · have h2 : pkQ b (k + c) false n = (some fs, k + c + c2, false) := by unfold pkQ; rw [hg2]; simp only; rw [if_pos hf]; rfl
          rw [h2, if_neg (by simpa using hf)]
          exact ⟨(fun h => by cases h), fun _ => ⟨ds, fs, rfl, rfl, hd, hf, rfl⟩⟩
        · have h2 : pkQ b (k + c) false n = (none, k + c, true) := by unfold pkQ; rw [hg2]; simp only; rw [if_neg hf]; rfl
          rw [h2, if_pos (by simpa using hf)]
          exact ⟨fun _ => rfl, (fun h => by cases h)⟩
    · have h1 : pkQ b k false n = (none, k, true) := by unfold pkQ; rw [hg]; simp only; rw [if_neg hd]; rfl
      rw [h1, if_pos (by simpa using hd)]
      exact ⟨fun _ => rfl, (fun h => by simp [pkQ] at h)⟩
/-- What the document's block answers and leaves. -/
def BlkQPost (w : World) (rp : Nat) (sl : Value) (b : List UInt8) (base : Int) (n k : Nat) (e : Ending) (w' : World) : Prop :=
  ∃ A N C ps vs k2 bad2, e = .returned (.slice A N C) ∧ RowP w' w.heap.size (.slice A N C) ps vs ∧ ps.length ≤ n ∧ Dr w' rp sl k2 bad2 ∧ k2 ≤ b.length ∧ Eff (· = rp) w w' ∧
    (blkQ base n (b.drop k) = none → bad2 = true) ∧ (∀ ps0 l0, blkQ base n (b.drop k) = some (ps0, l0) → bad2 = false ∧ ps = ps0 ∧ l0 = b.drop k2)
/-- The state of the document's block: the reader, the postings so far. -/
structure DbS (w wr : World) (rp : Nat) (sl v : Value) (b : List UInt8) (k : Nat) (bad : Bool) (ps : List PostV) (vs : Nat → Value) : Prop where
  dr : Dr wr rp sl k bad
  le : k ≤ b.length
  row : RowP wr w.heap.size v ps vs
  eff : Eff (· = rp) w wr
  hp : rp < w.heap.size
theorem DbS.drewN {w wr : World} {rp : Nat} {sl v : Value} {b : List UInt8} {k : Nat} {bad : Bool} {ps : List PostV} {vs : Nat → Value} (h : DbS w wr rp sl v b k bad ps vs) (d : Nat) : DbS w (wr.drewN d) rp sl v b k bad ps vs := ⟨h.dr.drewN d, h.le, ⟨h.row.row, h.row.own, h.row.sep⟩, h.eff.drewN d, h.hp⟩
/-- The reader moved. -/
theorem DbS.read {w wr w2 : World} {rp : Nat} {sl v : Value} {b : List UInt8} {k k2 : Nat} {bad bad2 : Bool} {ps : List PostV} {vs : Nat → Value} (h : DbS w wr rp sl v b k bad ps vs) (hd : Dr w2 rp sl k2 bad2) (hk : k2 ≤ b.length) (he : Eff (· = rp) wr w2) : DbS w w2 rp sl v b k2 bad2 ps vs :=
  ⟨hd, hk, h.row.eff he (fun q hq e => by have := (h.row.ge q hq).1; have := h.hp; omega), h.eff.trans he (fun i hi _ => hi), h.hp⟩
/-- New memory alone. -/
theorem DbS.step {w wr w2 : World} {rp : Nat} {sl v : Value} {b : List UInt8} {k : Nat} {bad : Bool} {ps : List PostV} {vs : Nat → Value} (h : DbS w wr rp sl v b k bad ps vs) (hb : Below wr.heap.size wr w2) : DbS w w2 rp sl v b k bad ps vs :=
  ⟨h.dr.eff (Eff.of_below hb (fun _ => False)) (fun f => f), h.le, h.row.below hb (Nat.le_refl _), h.eff.trans (Eff.of_below hb (fun _ => False)) (fun _ f => f.elim), h.hp⟩
/-- Blocks of the call's own changed, but not the postings'. -/
theorem DbS.other {w wr w2 : World} {rp : Nat} {sl v : Value} {b : List UInt8} {k : Nat} {bad : Bool} {ps : List PostV} {vs : Nat → Value} {F : Nat → Prop} (h : DbS w wr rp sl v b k bad ps vs) (he : Eff F wr w2) (hF : ∀ q, F q → w.heap.size ≤ q) (hR : ∀ q, RowB v ps.length vs q → ¬ F q) : DbS w w2 rp sl v b k bad ps vs :=
  ⟨h.dr.eff he (fun f => by have := hF rp f; have := h.hp; omega), h.le, h.row.eff he hR, h.eff.trans he (fun i hi hlt => by have := hF i hi; omega), h.hp⟩
/-- The reader met something bad. -/
theorem BlkQPost.bad {w wr : World} {rp : Nat} {sl : Value} {A : Option Addr} {N C : Nat} {b : List UInt8} {base : Int} {n k k2 : Nat} {bad : Bool} {ps : List PostV} {vs : Nat → Value} (h : DbS w wr rp sl (.slice A N C) b k2 bad ps vs) (hl : ps.length ≤ n) (hn : blkQ base n (b.drop k) = none) :
    BlkQPost w rp sl b base n k (.returned (.slice A N C)) (wr.setCell ⟨rp, 2, none⟩ (.bool true)) := by
  have h2 := h.read h.dr.bad h.le ((Eff.refl (· = rp) wr).setP 2 _)
  exact ⟨A, N, C, ps, vs, k2, true, rfl, h2.row, hl, h2.dr, h2.le, h2.eff, fun _ => rfl, fun ps0 l0 h9 => (by rw [hn] at h9; cases h9)⟩
theorem getR_upto {l : List UInt8} {e n : Nat} {bf : Int} (h0 : -1 ≤ bf) (h : getUpto 9223372036854775807 l = .error e) : ∃ q, getR (n + 1) bf l = .error q := by
  rw [getR]
  unfold getUpto at h
  cases hg : getU l with
  | error e => exact ⟨e, rfl⟩
  | ok y =>
    obtain ⟨u, c⟩ := y
    rw [hg] at h
    simp only at h ⊢
    split at h
    · rw [if_pos (by omega)]; exact ⟨3, rfl⟩
    · cases h
/-- Within one posting: its block, its positions so far, the two lists of numbers. -/
structure DbI (w wi : World) (rp : Nat) (sl v : Value) (b : List UInt8) (k : Nat) (bad : Bool) (ps : List PostV) (vs : Nat → Value) (GP : Nat) (b3 : Int) (sv : Value) (acc : List Int) (D F : Value) (xd xf : List Value) : Prop where
  st : DbS w wi rp sl v b k bad ps vs
  blk : wi.heap[GP]? = some (.cells #[.int .i64 b3, sv] 41 (0, 0))
  own : Own wi GP 3 sv (intL acc)
  vlt : ∀ q, RowB v ps.length vs q → q < GP
  hp : w.heap.size ≤ GP
  oD : Own wi w.heap.size 3 D xd
  oF : Own wi w.heap.size 3 F xf
  dlt : ∀ q, D.ownBlock = some q → q < GP
  flt : ∀ q, F.ownBlock = some q → q < GP
theorem DbI.read {w wi w2 : World} {rp : Nat} {sl v : Value} {b : List UInt8} {k k2 : Nat} {bad bad2 : Bool} {ps : List PostV} {vs : Nat → Value} {GP : Nat} {b3 : Int} {sv : Value} {acc : List Int} {D F : Value} {xd xf : List Value} (h : DbI w wi rp sl v b k bad ps vs GP b3 sv acc D F xd xf) (hd : Dr w2 rp sl k2 bad2) (hk : k2 ≤ b.length) (he : Eff (· = rp) wi w2) :
    DbI w w2 rp sl v b k2 bad2 ps vs GP b3 sv acc D F xd xf := by
  have hlt := h.st.hp
  have hp := h.hp
  exact ⟨h.st.read hd hk he, (he.block GP (lt_of_heap h.blk) (by omega)).trans h.blk, h.own.eff he (fun q hq e => by have := (h.own.lt q hq).1; omega), h.vlt, h.hp,
    h.oD.eff he (fun q hq e => by have := (h.oD.lt q hq).1; omega), h.oF.eff he (fun q hq e => by have := (h.oF.lt q hq).1; omega), h.dlt, h.flt⟩
theorem DbI.app {w wi w2 : World} {rp : Nat} {sl v : Value} {b : List UInt8} {k : Nat} {bad : Bool} {ps : List PostV} {vs : Nat → Value} {GP : Nat} {b3 : Int} {sv sv2 : Value} {acc acc2 : List Int} {D F : Value} {xd xf : List Value} (h : DbI w wi rp sl v b k bad ps vs GP b3 sv acc D F xd xf) (ho : Own w2 GP 3 sv2 (intL acc2)) (hg : wi.grownBy w2 sv.ownBlock) :
    DbI w (w2.setCell ⟨GP, 1, none⟩ sv2) rp sl v b k bad ps vs GP b3 sv2 acc2 D F xd xf ∧ w2.cell? ⟨GP, 1, none⟩ = some sv ∧ w2.frozen? ⟨GP, 1, none⟩ = false := by
  have hp := h.hp
  have he1 : Eff (fun q => sv.ownBlock = some q) wi w2 := (Eff.refl _ wi).grown hg (fun q hq _ => hq)
  have hb2 := (he1.block GP (lt_of_heap h.blk) (h.own.ne_type h.blk (by decide))).trans h.blk
  have he : Eff (fun q => GP ≤ q) wi (w2.setCell ⟨GP, 1, none⟩ sv2) := (he1.mono (G := fun q => sv.ownBlock = some q) (fun q hq _ => (h.own.lt q hq).1)).setCell (p := ⟨GP, 1, none⟩) (fun _ => Nat.le_refl _) _
  refine ⟨⟨h.st.other he (fun q hq => by omega) (fun q hq => by have := h.vlt q hq; omega), blk_set hb2 1 _, ho.setOther (p := ⟨GP, 1, none⟩) (ho.ne_type hb2 (by decide)) _, h.vlt, h.hp,
    h.oD.eff he (fun q hq => by have := h.dlt q hq; omega), h.oF.eff he (fun q hq => by have := h.flt q hq; omega), h.dlt, h.flt⟩, blk_cell hb2 1, blk_frozen hb2 1⟩
theorem sum_i64 (bf : Int) (X : Nat) (h0 : -1 ≤ bf) (h : (X : Int) ≤ 9223372036854775806 - bf) : IntKind.i64.wrap (bf + IntKind.i64.wrap ((X : Int) + 1)) = bf + X + 1 := by
  rw [IntKind.wrap_i64, IntKind.wrap_i64]; omega
/-- One position more, or nothing more. -/
theorem num_step {b : List UInt8} {k3 q f used : Nat} {bf : Int} {acc : List Int} {R0 : Except Nat (List Int × Nat)} (hqf : q ≤ f) (hk3 : k3 ≤ b.length) (h0 : -1 ≤ bf) (hc : contR acc used (getR (f + 1 - q) bf (b.drop k3)) = R0) :
    ∃ X k4 bd2, numQ b k3 false = (X, k4, bd2) ∧ k4 ≤ b.length ∧ (9223372036854775806 - bf < (X : Int) → ∃ e, R0 = .error e) ∧ (bd2 = true → ∃ e, R0 = .error e) ∧
      (bd2 = false → 9223372036854775806 - bf < (X : Int) ∨ ∃ c, 1 ≤ c ∧ k4 = k3 + c ∧ contR (acc ++ [bf + X + 1]) (used + c) (getR (f + 1 - (q + 1)) (bf + X + 1) (b.drop k4)) = R0) := by
  rw [show f + 1 - q = (f - q) + 1 by omega] at hc
  cases hg : getUpto 9223372036854775807 (b.drop k3) with
  | error e0 =>
    obtain ⟨e1, he1⟩ := getR_upto (n := f - q) h0 hg
    rw [he1] at hc
    refine ⟨0, k3, true, by unfold numQ; rw [hg]; rfl, hk3, fun _ => ⟨e1, hc.symm⟩, fun _ => ⟨e1, hc.symm⟩, fun h => by cases h⟩
  | ok y =>
    obtain ⟨u, c⟩ := y
    obtain ⟨hu, hum⟩ := getUpto_len hg
    obtain ⟨l1, l2, _⟩ := getU_len hu
    rw [List.length_drop] at l1
    rw [getR, hu] at hc
    simp only at hc
    refine ⟨u, k3 + c, false, by unfold numQ; rw [hg]; rfl, by omega, fun h => ?_, (fun h => by cases h), fun _ => ?_⟩
    · rw [if_pos h] at hc; exact ⟨3, hc.symm⟩
    · by_cases h : 9223372036854775806 - bf < (u : Int)
      · exact .inl h
      · rw [if_neg h, List.drop_drop] at hc
        refine .inr ⟨c, l2, rfl, ?_⟩
        rw [show f + 1 - (q + 1) = f - q by omega, ← hc]
        cases getR (f - q) (bf + u + 1) (b.drop (k3 + c)) with
        | error e => rfl
        | ok y => simp [contR, Nat.add_assoc]
end Go.Proofs.YtaijepjhmjjecaaDoor

/- Merged: ThereP, Kept. -/
import Derived.Test.YthnpbfadblcicaaDoorZDocD
import Derived.Test.YthnpbfadblcicaaDoorZG1
import Derived.BigQuiet
import Derived.OwnWalk
/- posts, plain: neither a shorter beginning of an image nor anything longer is an image. No program occurs here. -/
namespace Go.Proofs.YthnpbfadblcicaaDoor
set_option linter.unusedVariables false

def Asc (ps : List PostV) : Prop := ∀ p ∈ ps, asc (-1) p.pos ∧ p.pos.length < 2 ^ 63
theorem Asc.left {a b : List PostV} (h : Asc (a ++ b)) : Asc a := fun p hp => h p (List.mem_append_left _ hp)
theorem Asc.right {a b : List PostV} (h : Asc (a ++ b)) : Asc b := fun p hp => h p (List.mem_append_right _ hp)
theorem unpQ_ofA : ∀ (ps : List PostV) (base : Int) (t : List UInt8), -1 ≤ base → okV base ps → Asc ps → unpQ base (gapsD base ps) (freqV ps) (tailV ps ++ t) = some (ps, t)
  | [], base, t, _, _, _ => rfl
  | p :: r, base, t, hb, ok, hf => by
    obtain ⟨h1, h2⟩ := okV_cons ok
    obtain ⟨g1, g2, g3, g4, g5, g6⟩ := goodV_ok h1
    have ha := (hf p (List.mem_cons_self ..)).1
    have ih := unpQ_ofA r p.doc t (by omega) h2 (fun q hq => hf q (List.mem_cons_of_mem _ hq))
    have hpl : 0 < p.pos.length := List.length_pos_iff.2 g4
    have hr := gp_r p.pos (-1) (tailV r ++ t) (by omega) ha
    rw [gapsD, show freqV (p :: r) = (p.pos.length - 1) :: freqV r from rfl, show tailV (p :: r) = gapsB (-1) p.pos ++ tailV r from rfl, unpQ, List.append_assoc, if_neg (by omega), show p.pos.length - 1 + 1 = p.pos.length by omega, hr]
    simp only
    rw [List.drop_left, show base + ((p.doc - base - 1).toNat : Nat) + 1 = p.doc by omega, ih]
theorem freqV_fitA {l : List PostV} (hf : Asc l) : ∀ x ∈ freqV l, x < 2 ^ 63 := fun x hx => by
  obtain ⟨p, hp, rfl⟩ := List.mem_map.1 hx
  have := (hf p hp).2
  omega
theorem blkQ_ofA {base : Int} {ps : List PostV} (hb : -1 ≤ base) (ok : okV base ps) (hf : Asc ps) (hl : ps.length ≤ 16) (t : List UInt8) : blkQ base ps.length (blockB base ps ++ t) = some (ps, t) := by
  unfold blkQ blockB
  rw [List.append_assoc, gp_pk16 (gapsD_fits ok hb) (by rw [gapsD_length]; exact hl)]
  simp only
  rw [gapsD_length, if_neg (by simp), List.drop_left, List.append_assoc, gp_pk16 (freqV_fitA hf) (by rw [freqV_length]; exact hl)]
  simp only
  rw [freqV_length, if_neg (by simp), List.drop_left]
  exact unpQ_ofA ps base t hb ok hf
theorem lsQ_ofA : ∀ (m : Nat) (cs : List (List PostV)) (base : Int) (n : Nat) (t : List UInt8), cs.map List.length = dcs m n → -1 ≤ base → okV base cs.flatten → Asc cs.flatten → lsQ m base n (bodyV (blksV base cs) ++ t) = some cs.flatten
  | 0, cs, base, n, t, hd, _, _, _ => by
    have : cs = [] := by cases cs with
      | nil => rfl
      | cons c r => simp [dcs] at hd
    subst this; rfl
  | m + 1, cs, base, n, t, hd, hb, ok, hf => by
    cases cs with
    | nil => simp [dcs] at hd
    | cons c r =>
      rw [List.map_cons, dcs] at hd
      injection hd with h1 h2
      rw [List.flatten_cons] at ok hf ⊢
      obtain ⟨o1, o2⟩ := okV_append ok
      have hq := blkQ_ofA hb o1 hf.left (by omega) (bodyV (blksV (lastV base c) r) ++ t)
      have ih := lsQ_ofA m r (lastV base c) (n - 16) t h2 (okV_ge o1 hb) o2 hf.right
      rw [lsQ, show bodyV (blksV base (c :: r)) = blockB base c ++ bodyV (blksV (lastV base c) r) from rfl, List.append_assoc, ← h1, hq]
      simp only
      rw [ih]
theorem blks_fitA : ∀ (cs : List (List PostV)) (base : Int), -1 ≤ base → okV base cs.flatten → (∀ c ∈ cs, c ≠ []) → (bodyV (blksV base cs)).length < 2 ^ 63 → ∀ x ∈ blksV base cs, x.1 < 2 ^ 63 ∧ x.2.length < 2 ^ 63
  | [], base, _, _, _, _, x, hx => by cases hx
  | c :: r, base, hb, ok, hne, hT, x, hx => by
    rw [List.flatten_cons] at ok
    obtain ⟨o1, o2⟩ := okV_append ok
    have hla := (okV_last o1).2 (hne c (List.mem_cons_self ..))
    have hd : (bodyV (blksV base (c :: r))).length = (blockB base c).length + (bodyV (blksV (lastV base c) r)).length := by
      rw [← List.length_append]; rfl
    rcases List.mem_cons.1 hx with rfl | hx
    · exact ⟨by show (lastV base c - base - 1).toNat < _; omega, by show (blockB base c).length < _; omega⟩
    · exact blks_fitA r (lastV base c) (okV_ge o1 hb) o2 (fun y hy => hne y (List.mem_cons_of_mem _ hy)) (by omega) x hx
theorem docV_ofA {ps : List PostV} (ok : okV (-1) ps) (ha : ∀ p ∈ ps, asc (-1) p.pos) (hl : (imageV ps).length < 2 ^ 62) (t : List UInt8) : docV (imageV ps ++ t) = some ps := by
  obtain ⟨q1, q2, q3, q4⟩ := chp_flat _ ps (Nat.le_refl _)
  obtain ⟨g1, g2⟩ := image_ge ok
  have hA : Asc ps := fun p hp => ⟨ha p hp, by
    have : p.pos.length ≤ totalV ps := by
      clear ok ha hl q1 q2 q3 q4 g1 g2
      induction ps with
      | nil => cases hp
      | cons q r ih =>
        unfold totalV at ih ⊢
        rw [List.map_cons, List.sum_cons]
        rcases List.mem_cons.1 hp with rfl | hp
        · omega
        · have := ih hp; omega
    omega⟩
  have e0 : imageV ps ++ t = uvar ps.length ++ (uvar (totalV ps) ++ (headV (blksV (-1) (chp ps)) ++ (bodyV (blksV (-1) (chp ps)) ++ t))) := by
    unfold imageV; simp only [List.append_assoc]
  have hbl : (bodyV (blksV (-1) (chp ps))).length ≤ (imageV ps).length := by
    unfold imageV; simp only [List.length_append]; omega
  have e1 := gp_upto 9223372036854775807 ps.length (by omega) (by omega) (uvar (totalV ps) ++ (headV (blksV (-1) (chp ps)) ++ (bodyV (blksV (-1) (chp ps)) ++ t)))
  have e2 := gp_upto 9223372036854775807 (totalV ps) (by omega) (by omega) (headV (blksV (-1) (chp ps)) ++ (bodyV (blksV (-1) (chp ps)) ++ t))
  have e3 := skQ_of (blksV (-1) (chp ps)) (bodyV (blksV (-1) (chp ps)) ++ t) (blks_fitA (chp ps) (-1) (by omega) (by rw [q1]; exact ok) (chp_ne _ ps (Nat.le_refl _)) (by omega))
  have e4 := lsQ_ofA ((ps.length + 15) / 16) (chp ps) (-1) ps.length t q2 (by omega) (by rw [q1]; exact ok) (by rw [q1]; exact hA)
  rw [blksV_len, q4] at e3
  unfold docV
  rw [e0, e1]
  simp only
  rw [List.drop_left, e2]
  simp only
  rw [List.drop_left, e3]
  simp only
  rw [e4, q1]
theorem image_prefix {ps qs : List PostV} {t : List UInt8} (ok : okV (-1) ps) (ha : ∀ p ∈ ps, asc (-1) p.pos) (ok2 : okV (-1) qs) (ha2 : ∀ p ∈ qs, asc (-1) p.pos) (hl : (imageV ps).length < 2 ^ 62) (h : imageV ps = imageV qs ++ t) : t = [] := by
  have hl2 : (imageV qs).length < 2 ^ 62 := by
    have := congrArg List.length h
    rw [List.length_append] at this; omega
  have h1 := docV_ofA ok ha hl []
  rw [List.append_nil, h, docV_ofA ok2 ha2 hl2 t] at h1
  injection h1 with h1
  subst h1
  have := congrArg List.length h
  rw [List.length_append] at this
  exact List.eq_nil_of_length_eq_zero (by omega)
theorem fit_asc {ps : List PostV} : ∀ {base : Int}, okV base ps → FitP ps → ∀ p ∈ ps, asc (-1) p.pos := by
  induction ps with
  | nil => intro _ _ _ p hp; cases hp
  | cons q r ih =>
    intro base ok hf p hp
    obtain ⟨h1, h2⟩ := okV_cons ok
    rcases List.mem_cons.1 hp with rfl | hp
    · exact okP_asc h1 (hf p (List.mem_cons_self ..)).2.1
    · exact ih h2 (fun x hx => hf x (List.mem_cons_of_mem _ hx)) p hp
/-- A beginning that is shorter is no image. -/
theorem open_cut {ps : List PostV} (ok : okV (-1) ps) (hf : FitP ps) (hl : (imageV ps).length < 2 ^ 62) (k : Nat) (hk : k < (imageV ps).length) : openV ((imageV ps).take k) = none := by
  cases h : openV ((imageV ps).take k) with
  | none => rfl
  | some r =>
    obtain ⟨qs, ok2, ha2, he, -⟩ := openV_form h
    have h1 : imageV ps = imageV qs ++ (imageV ps).drop k := by rw [← he, List.take_append_drop]
    have h2 := image_prefix ok (fit_asc ok hf) ok2 ha2 hl h1
    have := congrArg List.length h2
    rw [List.length_drop] at this
    simp only [List.length_nil] at this
    omega
/-- Nothing longer is an image. -/
theorem open_more {ps : List PostV} (ok : okV (-1) ps) (hf : FitP ps) (mo : List UInt8) (hl : (imageV ps).length + mo.length < 2 ^ 62) (hm : mo ≠ []) : openV (imageV ps ++ mo) = none := by
  cases h : openV (imageV ps ++ mo) with
  | none => rfl
  | some r =>
    obtain ⟨qs, ok2, ha2, he, -⟩ := openV_form h
    have h2 := image_prefix ok2 ha2 ok (fit_asc ok hf) (by rw [← he, List.length_append]; exact hl) he.symm
    exact absurd h2 hm
theorem image_le4 {l : List PostV} (hf : FitP l) (ok : okV (-1) l) (hl : l.length ≤ 1048576) (hT : totalV l ≤ 1048576) : (imageV l).length ≤ 400000000 := by
  obtain ⟨h1, h2⟩ := blks_le _ (-1) l (Nat.le_refl _) hf ok (by omega) (by omega) (by omega)
  have u1 := (uvar_le l.length (by omega)).2
  have u2 := (uvar_le (totalV l) (by omega)).2
  unfold imageV
  rw [List.length_append, List.length_append, List.length_append]
  omega
theorem image_le31 {l : List PostV} (hf : FitP l) (ok : okV (-1) l) (hl : l.length ≤ 1048576) (hT : totalV l ≤ 1048576) : (imageV l).length ≤ 31000000 := by
  obtain ⟨h1, h2⟩ := blks_le2 _ (-1) l (Nat.le_refl _) hf ok (by omega) (by omega) (by omega)
  have u1 := (uvar_le l.length (by omega)).2
  have u2 := (uvar_le (totalV l) (by omega)).2
  unfold imageV
  rw [List.length_append, List.length_append, List.length_append]
  omega
theorem image_pos (ps : List PostV) : 0 < (imageV ps).length := by
  unfold imageV
  have : 0 < (uvar ps.length).length := List.length_pos_iff.2 (uvar_ne _)
  rw [List.length_append, List.length_append]; omega
end Go.Proofs.YthnpbfadblcicaaDoor

/- concordmem: Mark, Spare, Kept. -/
namespace Go.Proofs.YthnpbfadblcicaaDoor
set_option linter.unusedVariables false
open Go.ChangeShapes Go.WideShapes Go.ChangeAt Go.RowKit

/-- The mark of place j of list i. -/
def markV (i j : Nat) : Int :=
  wrap64 (wrap64 (IntKind.u64.wrap (bits BinOp.xor IntKind.u64 (IntKind.u64.wrap (IntKind.u64.wrap (((i : Int) + 1) * 11400714819323198485) + IntKind.u64.wrap (((j : Int) + 1) * 13787848793156543929)))
    (IntKind.u64.wrap (IntKind.u64.wrap (((i : Int) + 1) * 11400714819323198485) + IntKind.u64.wrap (((j : Int) + 1) * 13787848793156543929)) / 536870912) * 10723151780598845931) / 8589934592) + 1)
/-- The mark as a byte. -/
def markB (i j : Nat) : UInt8 := UInt8.ofNat (markV i j % 256).toNat
theorem markB_wrap (i j : Nat) : IntKind.u8.wrap (markV i j) = ((markB i j).toNat : Nat) := by
  unfold markB
  generalize markV i j = x
  rw [IntKind.wrap_u8]
  have : (x % 256).toNat < 256 := by omega
  simp [UInt8.toNat_ofNat']
  omega
set_option maxRecDepth 100000 in
theorem mark_any (w : World) (i j : Nat) (hi : i ≤ 1000000000) (hj : j ≤ 1000000000000) :
    Calls Tryd.prog 48 #[.int .i64 i, .int .i64 j] w fun e w' => e = .returned (.int .i64 (markV i j)) ∧ w = w' := by
  go_enter Tryd.func48, Tryd.ntmps48
  go_wp2
  go_ret
  exact ⟨rfl, rfl⟩
/-- The marks of the first k places of list i from place j on. -/
def marks (i j k : Nat) : List UInt8 := (List.range k).map fun t => markB i (j + t)
theorem marks_succ (i j k : Nat) : marks i j (k + 1) = marks i j k ++ [markB i (j + k)] := by simp [marks, List.range_succ]
theorem marks_length (i j k : Nat) : (marks i j k).length = k := by simp [marks]
theorem marks_get (i j k t : Nat) (h : t < (marks i j k).length) : (marks i j k)[t] = markB i (j + t) := by simp [marks]

theorem make_cap {P : Program} {t e : TypeId} {z : Value} {bytes : Nat} (E : Elem P t e z bytes) (hz1 : z.cells = #[z]) (c : Nat) (hc : c ≤ 1000000000000) (k : Int) (hk : k = c) (w : World) :
    (Instr.makeSlice t (.int .i64 0) (.int .i64 k)).run P w = .ok (.slice (some ⟨w.heap.size, 0, none⟩) 0 c) (w.alloc (.cells (madeCells #[z] c) e)) := by
  subst hk
  obtain ⟨i, hi, hzz⟩ := Option.map_eq_some_iff.1 E.info
  simp only [Prod.mk.injEq] at hzz
  obtain ⟨hz, hs, hb⟩ := hzz
  have hbb : (i.bytes : Int) * (c : Int) ≤ 281474976710656 := by
    have h1 : i.bytes * c ≤ 100 * 1000000000000 := Nat.mul_le_mul (by rw [hb]; exact E.sm) hc
    have h : ((i.bytes * c : Nat) : Int) ≤ 281474976710656 := by omega
    rwa [Int.natCast_mul] at h
  have hr := run_make (P := P) w t e i z E.und hi hz .i64 .i64 0 c (Int.le_refl _) (by omega) hbb (by omega)
  simp only [Int.toNat_zero, Int.toNat_natCast, hs, Nat.mul_one, hz1] at hr
  exact hr
theorem own_cap0 (w : World) (t : TypeId) (z : Value) (c : Nat) (hc : c ≤ 1000000000000) : Own (w.alloc (.cells (madeCells #[z] c) t)) w.heap.size t (.slice (some ⟨w.heap.size, 0, none⟩) 0 c) [] :=
  .inr ⟨w.heap.size, c, _, rfl, Nat.le_refl _, heap_alloc_new w _, Nat.zero_le _, by simp [size_madeCells], by unfold maxLen; omega, rfl⟩
/-- What Spare gives: the list and the whole of it, of the call's own. -/
def SparePost (w : World) (bs : List UInt8) (e : Ending) (w' : World) : Prop :=
  ∃ (A : Option Addr) (C : Nat), e = .returned (.tuple #[.slice A bs.length C, .slice A (bs.length + 80) C]) ∧ Own w' w.heap.size 5 (.slice A (bs.length + 80) C) (bytesV (bs ++ marks 7 0 80)) ∧ Below w.heap.size w w'
set_option maxRecDepth 100000 in
set_option maxHeartbeats 2000000 in
theorem spare_any (w : World) (a : Option Addr) (n c : Nat) (bs : List UInt8) (hr : Rd w (.slice a n c) (bytesV bs)) (hn : bs.length ≤ 1000000000) :
    Calls Tryd.prog 49 #[.slice a n c] w (SparePost w bs) := by
  have hnl : n = bs.length := by obtain ⟨A, c', h, _⟩ := hr; injection h with _ h _; rw [h, bytesV_length]
  subst hnl
  have hmk := make_cap (P := Tryd.prog) elBytes rfl (bs.length + 80) (by omega) ((bs.length : Int) + 80) (by omega)
  obtain ⟨W, hW⟩ : ∃ W, W = w.alloc (.cells (madeCells #[.int .u8 0] (bs.length + 80)) 5) := ⟨_, rfl⟩
  have hbW : Below w.heap.size w W := by rw [hW]; exact (Below.refl _ _).alloc (Nat.le_refl _) _
  have hoW : Own W w.heap.size 5 (.slice (some ⟨w.heap.size, 0, none⟩) 0 (bs.length + 80)) [] := by rw [hW]; exact own_cap0 w _ _ _ (by omega)
  have hrW := hr.below hbW (Nat.le_refl _)
  have hl0 : ([] : List Value).length + (bytesV bs).length < 1000000000001 := by rw [bytesV_length]; simp; omega
  have hz := hbW.size
  have HR := Lib.hid hrW
  have HO := Lib.hid hoW
  have HB := Lib.hid hbW
  have H1 := Lib.hid (bytesV_one bs)
  have HW := Lib.hid hW
  clear hr hrW hoW hbW hW
  go_enter Tryd.func49, Tryd.ntmps49
  go_upto_region 2 with fail
  rw [← HW.out]
  go_wp2_with (at_builtin; with_reducible refine apN elBytes HO.out HR.out H1.out hl0 hz rfl _ _ rfl rfl rfl ?_)
  intro v' w1 g1 g2 g3 g4
  have g1 : Own w1 w.heap.size 5 v' (bytesV bs) := g1
  have hb1 : Below w.heap.size w w1 := HB.out.grown g4 hz (fun k hk => (HO.out.lt k hk).1)
  obtain ⟨a1, n1, c1, rfl⟩ := own_sl g1
  have hn1 := g1.len
  rw [bytesV_length] at hn1
  subst hn1
  have HG1 := Lib.hid g1
  have HB1 := Lib.hid hb1
  clear g1 g2 g3 g4 hb1 hmk
  go_wp2
  go_loopw [4, 5] (fun s4 s5 wr => ∃ (j : Nat) (A : Option Addr) (N C : Nat), s4 = .slice A N C ∧ s5 = .int .i64 j ∧ j ≤ 80 ∧ N = bs.length + j ∧ Own wr w.heap.size 5 (.slice A N C) (bytesV (bs ++ marks 7 0 j)) ∧ Below w.heap.size w wr) (fun _ s5 _ => 80 - (intOf s5).toNat)
  case atStart => exact ⟨0, a1, bs.length, c1, rfl, rfl, by omega, rfl, by simpa [marks] using HG1.out, HB1.out⟩
  case round =>
    clear HG1 HB1
    obtain ⟨j, A, N, C, rfl, rfl, hj, hN, ho, hb⟩ := hrel
    by_cases hlt : j < 80
    · have C1 := mark_any wr 7 j (by omega) (by omega)
      have hl : (bytesV (bs ++ marks 7 0 j)).length < 1000000000000 := by rw [bytesV_length, List.length_append, marks_length]; omega
      have hsz := hb.size
      have hmw := markB_wrap 7 j
      rw [show (((7 : Nat)) : Int) = 7 from rfl] at C1
      obtain ⟨M, hM⟩ : ∃ M, markV 7 j = M := ⟨_, rfl⟩
      rw [hM] at C1 hmw
      rw [IntKind.wrap_u8] at hmw
      have i1 : (j : Int) < 80 := by omega
      have HO := Lib.hid ho
      have HL := Lib.hid hl
      have HB := Lib.hid hb
      have HN := Lib.hid hN
      clear ho hl hb hN hM
      go_wp2_with fail
      refine C1.mono ?_
      rintro e w2 ⟨rfl, rfl⟩
      clear C1
      go_wp2_with (at_builtin; with_reducible refine ap1' elBytes rfl HO.out HL.out hsz rfl _ _ rfl rfl rfl ?_)
      intro v' w3 g1 g2 g3 g4
      have hb3 := HB.out.grown g4 hsz (fun k hk => (HO.out.lt k hk).1)
      obtain ⟨a3, n3, c3, rfl⟩ := own_sl g1
      have hn3 := g1.len
      rw [List.length_append, bytesV_length, List.length_append, marks_length, List.length_singleton] at hn3
      have g5 := own_to g1 (ys := bytesV (bs ++ marks 7 0 (j + 1))) (by rw [marks_succ, ← List.append_assoc, bytesV_snoc, Nat.zero_add])
      have HG5 := Lib.hid g5
      have HB3 := Lib.hid hb3
      clear g1 g2 g3 g4 g5 hb3
      go_wp2
      go_roundw
      case rel => exact ⟨j + 1, a3, n3, c3, rfl, by go_num, by omega, by omega, HG5.out, HB3.out⟩
      case measure => simp [intOf]; omega
    · obtain rfl : j = 80 := by omega
      subst hN
      have HO := Lib.hid ho
      have HB := Lib.hid hb
      have hcap := own_cap ho
      have hll := ho.len
      rw [bytesV_length, List.length_append, marks_length] at hll
      have i2 : bs.length ≤ C := by omega
      clear ho hb hll
      go_wp2
      go_ret2
      exact ⟨A, C, rfl, HO.out, HB.out⟩

theorem rd_bytes {w : World} {a : Option Addr} {n c : Nat} {l : List UInt8} (h : Rd w (.slice a n c) (bytesV l)) : n = l.length ∧ (0 < l.length → ∃ b o, a = some ⟨b, o, none⟩ ∧ ∀ (j : Nat) (hj : j < l.length), w.cell? ⟨b, o + j, none⟩ = some (.int .u8 (l[j].toNat : Nat))) := by
  obtain ⟨A, c', h, _, hg⟩ := h
  injection h with h1 h2 h3
  subst h1 h2 h3
  rw [bytesV_length] at hg ⊢
  refine ⟨rfl, fun h0 => ?_⟩
  obtain ⟨b, o, e, hg⟩ := hg h0
  exact ⟨b, o, e, fun j hj => hg j _ (bytesV_get l j hj)⟩
set_option maxRecDepth 100000 in
set_option maxHeartbeats 2000000 in
theorem kept_any (w : World) (a : Option Addr) (n c : Nat) (a2 : Option Addr) (n2 c2 : Nat) (bs : List UInt8) (hf : Rd w (.slice a n c) (bytesV (bs ++ marks 7 0 80))) (hb : Rd w (.slice a2 n2 c2) (bytesV bs)) (hn : bs.length ≤ 1000000000) :
    Calls Tryd.prog 50 #[.slice a n c, .slice a2 n2 c2] w fun e w' => e = .returned (.bool true) ∧ ∃ d, w' = w.drewN d := by
  obtain ⟨hl1, hg1⟩ := rd_bytes hf
  obtain ⟨hl2, hg2⟩ := rd_bytes hb
  have hll : (bs ++ marks 7 0 80).length = bs.length + 80 := by rw [List.length_append, marks_length]
  obtain ⟨b1, o1, rfl, hc1⟩ := hg1 (by omega)
  rw [hll] at hl1
  subst hl1 hl2
  have k1 : ∀ j (h : j < bs.length), w.cell? ⟨b1, o1 + j, none⟩ = some (.int .u8 (bs[j].toNat : Nat)) := fun j h => by
    have := hc1 j (by omega)
    rwa [List.getElem_append_left h] at this
  have k2 : ∀ j, j < 80 → w.cell? ⟨b1, o1 + (bs.length + j), none⟩ = some (.int .u8 ((markB 7 j).toNat : Nat)) := fun j h => by
    have := hc1 (bs.length + j) (by omega)
    rw [List.getElem_append_right (by omega)] at this
    simpa [marks_get] using this
  have K1 := Lib.hid k1
  have K2 := Lib.hid k2
  have HG2 := Lib.hid hg2
  have t0 : ((((bs.length + 80 : Nat)) : Int) != (bs.length : Int) + 80) = false := by simp
  clear hf hb hg1 hc1 k1 k2 hg2 hll
  go_enter Tryd.func50, Tryd.ntmps50
  go_wp2
  go_loopw [15] (fun s15 wr => ∃ (i d : Nat), s15 = .int .i64 i ∧ i ≤ bs.length ∧ wr = w.drewN d) (fun s15 _ => bs.length - (intOf s15).toNat)
  case atStart => exact ⟨0, 0, rfl, Nat.zero_le _, rfl⟩
  case round =>
    obtain ⟨i, d, rfl, hi, rfl⟩ := hrel
    by_cases hlt : i < bs.length
    · have x1 := K1.out i hlt
      obtain ⟨b2, o2, rfl, hc2⟩ := HG2.out (by omega)
      have x2 := hc2 i hlt
      have i1 : (i : Int) < (bs.length : Int) := by omega
      have i2 : (i : Int) < ((bs.length + 80 : Nat) : Int) := by omega
      obtain ⟨x, hx⟩ : ∃ x, bs[i].toNat = x := ⟨_, rfl⟩
      rw [hx] at x1 x2
      clear hc2 hx
      go_upto_region 6 with fail
      go_quiet (fail)
      go_wp2
      go_roundw
      case rel => exact ⟨i + 1, _, by go_num, by omega, by first | rfl | exact World.drewN_drewN ..⟩
      case measure => simp [intOf]; omega
    · have i1 : ¬ ((i : Int) < (bs.length : Int)) := by omega
      clear hlt
      go_wp2
      go_loopw [6] (fun s6 wr => ∃ (j d : Nat), s6 = .int .i64 j ∧ j ≤ 80 ∧ wr = w.drewN d) (fun s6 _ => 80 - (intOf s6).toNat)
      case atStart => exact ⟨0, d, rfl, Nat.zero_le _, rfl⟩
      case round =>
        obtain ⟨j, d, rfl, hj, rfl⟩ := hrel
        by_cases hlt : j < 80
        · have x1 := K2.out j hlt
          have C1 := fun m => mark_any (w.drewN m) 7 j (by omega) (by omega)
          rw [show (((7 : Nat)) : Int) = 7 from rfl] at C1
          have hmw := markB_wrap 7 j
          obtain ⟨M, hM⟩ : ∃ M, markV 7 j = M := ⟨_, rfl⟩
          rw [hM] at C1 hmw
          have hmw2 := hmw
          rw [IntKind.wrap_u8] at hmw2
          obtain ⟨x, hx⟩ : ∃ x, (markB 7 j).toNat = x := ⟨_, rfl⟩
          rw [hx] at x1 hmw hmw2
          obtain ⟨z, hz⟩ : ∃ z, bs.length + j = z := ⟨_, rfl⟩
          rw [hz] at x1
          have w1 : IntKind.i64.wrap ((bs.length : Int) + (j : Int)) = (z : Int) := by rw [IntKind.wrap_i64]; omega
          have i1 : (j : Int) < 80 := by omega
          have i2 : (z : Int) < ((bs.length + 80 : Nat) : Int) := by omega
          clear hx hM hz
          go_upto_region 12 with fail
          go_quiet ((go_at_call 48; first | with_reducible exact quiet_left (C1 _) | with_reducible exact quiet_leftN (C1 _) | with_reducible exact quiet_leftNN (C1 _)))
          clear C1 hmw hmw2 w1
          go_wp2
          go_roundw
          case rel => exact ⟨j + 1, _, by go_num, by omega, by first | rfl | exact World.drewN_drewN ..⟩
          case measure => simp [intOf]; omega
        · have i1 : ¬ ((j : Int) < 80) := by omega
          go_wp2
          go_ret
          exact ⟨rfl, _, rfl⟩
end Go.Proofs.YthnpbfadblcicaaDoor

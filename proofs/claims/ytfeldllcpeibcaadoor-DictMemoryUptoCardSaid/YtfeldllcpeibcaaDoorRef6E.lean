/- The document's dictionary: entry. -/
import Derived.Test.YtfeldllcpeibcaaDoorRef6D
import Derived.Test.YtfeldllcpeibcaaDoorDictC
import Derived.BigQuiet
namespace Go.Proofs.YtfeldllcpeibcaaDoor
set_option linter.unusedVariables false
open Go.ChangeShapes Go.WideShapes Go.ChangeAt Go.RowKit

/-- An entry at a place behind the key K, and the place behind it. -/
def rentP (bs : List UInt8) (po : Option Nat) (K : List UInt8) : Option (EntV × Nat) :=
  (tkO bs po).bind fun y0 => (tk bs y0.2).bind fun y1 =>
    if y0.1 ≤ K.length ∧ y1.1 ≤ bs.length - y1.2 then
      (tk bs (y1.2 + y1.1)).bind fun y2 => (tk bs y2.2).bind fun y3 => (tk bs y3.2).bind fun y4 => (tk bs y4.2).bind fun y5 =>
        some (⟨strOf (K.take y0.1 ++ (bs.drop y1.2).take y1.1), y2.1, y3.1, y4.1, y5.1⟩, y5.2)
    else none
theorem rd_sub {w : World} {b o n c : Nat} {bs : List UInt8} (h : Rd w (.slice (some ⟨b, o, none⟩) n c) (bytesV bs)) (K S : Nat) (hK : K + S ≤ bs.length) :
    (K < c → Rd w (.slice (some ⟨b, o + K, none⟩) S (c - K)) (bytesV ((bs.drop K).take S))) ∧ (K = c → Rd w (.slice (some ⟨b, o, none⟩) S (c - K)) (bytesV ((bs.drop K).take S))) ∧ bs.length ≤ c := by
  have hcs : ((bs.drop K).take S).length = S := by rw [List.length_take, List.length_drop]; omega
  obtain ⟨A, c', e, hc, hr⟩ := h
  injection e with e1 e2 e3
  subst e1 e3
  rw [bytesV_length] at hc hr
  refine ⟨fun hk => ⟨_, _, by rw [bytesV_length, hcs], by rw [bytesV_length, hcs]; omega, fun h0 => ⟨b, o + K, rfl, fun j x hx => ?_⟩⟩, fun hk => ?_, hc⟩
  · rw [bytesV_length, hcs] at h0
    obtain ⟨b', o', e, hg⟩ := hr (by omega)
    injection e with e
    injection e with e4 e5 _
    subst e4 e5
    rw [Nat.add_assoc]
    refine hg (K + j) x ?_
    rw [← hx]
    have hj : j < S := by have := (List.getElem?_eq_some_iff.1 hx).1; rwa [bytesV_length, hcs] at this
    unfold bytesV
    rw [List.getElem?_map, List.getElem?_map, List.getElem?_take, if_pos hj, List.getElem?_drop]
  · have hS : S = 0 := by omega
    subst hS
    rw [List.take_zero]
    exact ⟨_, _, rfl, Nat.zero_le _, fun h0 => absurd h0 (by decide)⟩
theorem tk_lt {bs : List UInt8} {p : Nat} {y : Nat × Nat} (h : tk bs p = some y) : 0 < bs.length := by
  rcases Nat.eq_zero_or_pos bs.length with h0 | h0
  · obtain ⟨z, hz, _⟩ := Option.map_eq_some_iff.1 h
    rw [List.eq_nil_of_length_eq_zero h0] at hz
    simp [tkR] at hz
  · exact h0
theorem tkR_val : ∀ (m n f : Nat) (l : List UInt8) (u k : Nat) (P : Nat), tkR m n f l = some (u, k) → n < f → P = f * 128 ^ m → u < P
  | 0, _, _, _, _, _, _, h, _, _ => by simp [tkR] at h
  | _ + 1, _, _, [], _, _, _, h, _, _ => by simp [tkR] at h
  | m + 1, n, f, x :: r, u, k, P, h, hn, hP => by
    have hm : x.toNat % 128 * f ≤ 127 * f := Nat.mul_le_mul_right _ (by omega)
    have hp : f * 128 ≤ P := by
      rw [hP, Nat.pow_succ, Nat.mul_comm (128 ^ m) 128, ← Nat.mul_assoc]
      exact Nat.le_mul_of_pos_right _ (Nat.pow_pos (by omega))
    unfold tkR at h
    split at h
    · injection h with h; injection h with h _; omega
    · obtain ⟨y, hy, he⟩ := Option.map_eq_some_iff.1 h
      injection he with he1 _
      have := tkR_val m _ _ r y.1 y.2 P hy (by omega) (by rw [hP, Nat.pow_succ, Nat.mul_comm (128 ^ m) 128, Nat.mul_assoc])
      omega
theorem tk_val {bs : List UInt8} {p : Nat} {y : Nat × Nat} (h : tk bs p = some y) : y.1 < 34359738368 := by
  obtain ⟨z, hz, rfl⟩ := Option.map_eq_some_iff.1 h
  exact tkR_val 5 0 1 _ z.1 z.2 _ hz (by omega) (by decide)
theorem rent_fin (bs : List UInt8) (q : Nat) (k : ByteArray) : ∃ r2 r3 r4 r5, r2 = tkO bs (some q) ∧ r3 = tkO bs (posO r2) ∧ r4 = tkO bs (posO r3) ∧ r5 = tkO bs (posO r4) ∧
    ∀ R, R = ((tk bs q).bind fun y2 => (tk bs y2.2).bind fun y3 => (tk bs y3.2).bind fun y4 => (tk bs y4.2).bind fun y5 => some ((⟨k, y2.1, y3.1, y4.1, y5.1⟩ : EntV), y5.2)) →
      posO r5 = R.map (·.2) ∧ ∀ y, R = some y → y.1 = ⟨k, (valO r2 : Nat), (valO r3 : Nat), (valO r4 : Nat), (valO r5 : Nat)⟩ := by
  refine ⟨_, _, _, _, rfl, rfl, rfl, rfl, ?_⟩
  rintro R rfl
  simp only [tkO, posO, Option.bind_some]
  cases h2 : tk bs q with
  | none => simp
  | some y2 =>
    simp only [Option.bind_some, Option.map_some]
    cases h3 : tk bs y2.2 with
    | none => simp
    | some y3 =>
      simp only [Option.bind_some, Option.map_some]
      cases h4 : tk bs y3.2 with
      | none => simp
      | some y4 =>
        simp only [Option.bind_some, Option.map_some]
        cases h5 : tk bs y4.2 with
        | none => simp
        | some y5 =>
          simp only [Option.bind_some, Option.map_some, valO]
          exact ⟨trivial, fun y hy => by injection hy with hy; subst hy; rfl⟩
def noEnt : EntV := ⟨⟨#[]⟩, 0, 0, 0, 0⟩
/-- What entry answers. -/
def REnt (w : World) (R : Option (EntV × Nat)) (e : Ending) (w' : World) : Prop :=
  ∃ ev : EntV, e = .returned (.tuple #[.agg ev.cells.toArray, .int .i64 (encP (R.map (·.2)))]) ∧ (∀ y, R = some y → y.1 = ev) ∧ Below w.heap.size w w'
set_option maxRecDepth 100000 in
set_option maxHeartbeats 3000000 in
theorem rentry_any (w : World) (a : Option Addr) (n c : Nat) (bs : List UInt8) (hr : Rd w (.slice a n c) (bytesV bs)) (hbs : bs.length ≤ 1000000000) (po : Option Nat) (hp : ∀ p, po = some p → p ≤ bs.length) (s : ByteArray) (hs : s.size ≤ 65) :
    Calls Tryd.prog 50 #[.slice a n c, .int .i64 (encP po), .string s] w (REnt w (rentP bs po s.data.toList)) := by
  have hsl : s.data.toList.length = s.size := Array.length_toList (xs := s.data)
  have hnl : n = bs.length := by obtain ⟨A, c', h, _⟩ := hr; injection h with _ h _; rw [h, bytesV_length]
  subst hnl
  obtain ⟨W, hW⟩ : ∃ W, W = w.alloc (.cells #[.string ⟨#[]⟩, .int .i64 0, .int .i64 0, .int .i64 0, .int .i64 0] 32) := ⟨_, rfl⟩
  have hbW : Below w.heap.size w W := by rw [hW]; exact (Below.refl _ _).alloc (Nat.le_refl _) _
  have hrW := hr.below hbW (Nat.le_refl _)
  have hxW : W.heap[w.heap.size]? = some (.cells #[.string ⟨#[]⟩, .int .i64 0, .int .i64 0, .int .i64 0, .int .i64 0] 32 (0, 0)) := by rw [hW]; exact heap_alloc_new w _
  have f0 : W.cell? ⟨w.heap.size, 0, none⟩ = some (.string ⟨#[]⟩) := blk_cell hxW 0
  have f1 : W.cell? ⟨w.heap.size, 1, none⟩ = some (.int .i64 0) := blk_cell hxW 1
  have f2 : W.cell? ⟨w.heap.size, 2, none⟩ = some (.int .i64 0) := blk_cell hxW 2
  have f3 : W.cell? ⟨w.heap.size, 3, none⟩ = some (.int .i64 0) := blk_cell hxW 3
  have f4 : W.cell? ⟨w.heap.size, 4, none⟩ = some (.int .i64 0) := blk_cell hxW 4
  have g00 : W.frozen? ⟨w.heap.size, 0, none⟩ = false := blk_frozen hxW 0
  have g01 : W.frozen? ⟨w.heap.size, 1, none⟩ = false := blk_frozen hxW 1
  have g02 : W.frozen? ⟨w.heap.size, 2, none⟩ = false := blk_frozen hxW 2
  have g03 : W.frozen? ⟨w.heap.size, 3, none⟩ = false := blk_frozen hxW 3
  have g04 : W.frozen? ⟨w.heap.size, 4, none⟩ = false := blk_frozen hxW 4
  have hfin : ∀ (k : Nat) (v0 v1 v2 v3 v4 : Value), Below w.heap.size w ((((((W.drewN k).setCell ⟨w.heap.size, 0, none⟩ v0).setCell ⟨w.heap.size, 1, none⟩ v1).setCell ⟨w.heap.size, 2, none⟩ v2).setCell ⟨w.heap.size, 3, none⟩ v3).setCell ⟨w.heap.size, 4, none⟩ v4) := fun k v0 v1 v2 v3 v4 =>
    (((((below_drewN hbW k).setCell (p := ⟨w.heap.size, 0, none⟩) (Nat.le_refl _) v0).setCell (p := ⟨w.heap.size, 1, none⟩) (Nat.le_refl _) v1).setCell (p := ⟨w.heap.size, 2, none⟩) (Nat.le_refl _) v2).setCell (p := ⟨w.heap.size, 3, none⟩) (Nat.le_refl _) v3).setCell (p := ⟨w.heap.size, 4, none⟩) (Nat.le_refl _) v4
  obtain ⟨r0, hr0⟩ : ∃ r, tkO bs po = r := ⟨_, rfl⟩
  obtain ⟨r1, hr1⟩ : ∃ r, tkO bs (posO r0) = r := ⟨_, rfl⟩
  have hp1 : ∀ p, posO r0 = some p → p ≤ bs.length := by rw [← hr0]; exact tkO_le hp
  have hp2 : ∀ p, posO r1 = some p → p ≤ bs.length := by rw [← hr1]; exact tkO_le hp1
  have C0 := take_any W a bs.length c bs hrW hbs po hp
  have C1 := take_any W a bs.length c bs hrW hbs (posO r0) hp1
  rw [hr0] at C0
  rw [hr1] at C1
  obtain ⟨RES, hRES⟩ : ∃ RES, rentP bs po s.data.toList = RES := ⟨_, rfl⟩
  have hres := hRES
  unfold rentP at hres
  rw [hr0] at hres
  rw [hRES]
  have HF := Lib.hid hfin
  have HW := Lib.hid hW
  have HBW := Lib.hid hbW
  have HR := Lib.hid hrW
  have HX := Lib.hid hxW
  rw [hW] at C0 C1 f0 f1 f2 f3 f4 g00 g01 g02 g03 g04
  clear hfin hRES hW hrW hr hbW hxW
  cases h1 : r1 with
  | none =>
    have hn : RES = none := by
      rw [← hres]
      cases r0 with
      | none => rfl
      | some y0 => have : tk bs y0.2 = none := by rw [← h1, ← hr1]; rfl
                   rw [Option.bind_some, this]; rfl
    subst hn
    subst h1
    clear hres hr0 hr1 hp1 hp2 hp
    go_enter Tryd.func50, Tryd.ntmps50
    go_wp2_with fail
    refine C0.mono ?_
    rintro e w1 ⟨rfl, rfl⟩
    go_wp2_with fail
    refine C1.mono ?_
    rintro e w1 ⟨rfl, rfl⟩
    simp only [show valO none = 0 from rfl, show encP (posO none) = -1 from rfl]
    go_wp2
    refine bodyPost_ret (v := .tuple #[.agg noEnt.cells.toArray, .int .i64 (-1)]) (by simp [results, Tryd.results50, go_sem, f0, f1, f2, f3, f4, noEnt, EntV.cells]) rfl ?_
    rw [← HW.out]
    exact ⟨noEnt, rfl, fun y h => (by cases h), HBW.out⟩
  | some y1 =>
    obtain ⟨n1, p2⟩ := y1
    cases h0 : r0 with
    | none => rw [h0] at hr1; rw [← hr1] at h1; cases h1
    | some y0 =>
      obtain ⟨m0, p1⟩ := y0
      subst h0
      subst h1
      have hp2' : p2 ≤ bs.length := hp2 p2 rfl
      have hm0 : m0 < 34359738368 := by
        cases po with
        | none => cases hr0
        | some q => exact tk_val (y := (m0, p1)) hr0
      have hn1 : n1 < 34359738368 := tk_val (y := (n1, p2)) hr1
      have hpos := tk_lt (y := (n1, p2)) hr1
      rw [Option.bind_some, show tk bs p1 = some (n1, p2) from hr1, Option.bind_some, hsl] at hres
      by_cases hm : m0 ≤ s.size
      · by_cases hnn : n1 ≤ bs.length - p2
        · rw [if_pos ⟨hm, hnn⟩] at hres
          obtain ⟨b, o, rfl, _⟩ : ∃ b o, a = some ⟨b, o, none⟩ ∧ True := by
            obtain ⟨A, c', e, _, hg⟩ := HR.out
            obtain ⟨b, o, e2, _⟩ := hg (by rw [bytesV_length]; exact hpos)
            injection e with e _ _
            exact ⟨b, o, e.trans e2, trivial⟩
          obtain ⟨hA, hB, hC⟩ := rd_sub HR.out p2 n1 (by omega)
          obtain ⟨r2, r3, r4, r5, hr2, hr3, hr4, hr5, hfn⟩ := rent_fin bs (p2 + n1) (strOf (s.data.toList.take m0 ++ (bs.drop p2).take n1))
          obtain ⟨hf1, hf2⟩ := hfn RES hres.symm
          have q2 : ∀ p, some (p2 + n1) = some p → p ≤ bs.length := fun p h => by injection h; omega
          have q3 : ∀ p, posO r2 = some p → p ≤ bs.length := by rw [hr2]; exact tkO_le q2
          have q4 : ∀ p, posO r3 = some p → p ≤ bs.length := by rw [hr3]; exact tkO_le q3
          have q5 : ∀ p, posO r4 = some p → p ≤ bs.length := by rw [hr4]; exact tkO_le q4
          have C2 := fun k => take_any (W.drewN k) _ bs.length c bs (show Rd (W.drewN k) _ _ from HR.out) hbs _ q2
          have C3 := fun k => take_any (W.drewN k) _ bs.length c bs (show Rd (W.drewN k) _ _ from HR.out) hbs _ q3
          have C4 := fun k => take_any (W.drewN k) _ bs.length c bs (show Rd (W.drewN k) _ _ from HR.out) hbs _ q4
          have C5 := fun k => take_any (W.drewN k) _ bs.length c bs (show Rd (W.drewN k) _ _ from HR.out) hbs _ q5
          rw [← hr2] at C2
          rw [← hr3] at C3
          rw [← hr4] at C4
          rw [← hr5] at C5
          rw [HW.out] at C2 C3 C4 C5
          have hk2 := key_eq s m0 ((bs.drop p2).take n1) hm
          have HK := Lib.hid hk2
          have HF1 := Lib.hid hf1
          have HF2 := Lib.hid hf2
          have hlx : ((bs.drop p2).take n1).length = n1 := by rw [List.length_take, List.length_drop]; omega
          have hsz2 : (strOf ((bs.drop p2).take n1)).size = n1 := by rw [strOf_size, hlx]
          have i1 : ¬ ((s.size : Int) < (m0 : Int)) := by omega
          have i2 : ¬ ((bs.length : Int) - (p2 : Int) < (n1 : Int)) := by omega
          have i3 : p2 + n1 ≤ c := by omega
          clear hres hfn hf1 hf2 hr0 hr1 hr2 hr3 hr4 hr5 q2 q3 q4 q5 hp hp1 hp2 hpos hk2
          by_cases hkc : p2 < c
          · have hrun := fun k => run_str (P := Tryd.prog) Tryd.underlying22 Tryd.underlying5 Tryd.underlying9 (show Rd (W.drewN k) _ _ from hA hkc)
            rw [HW.out] at hrun
            clear hA hB
            have e0 : valO (some (m0, p1)) = m0 := rfl
            have e1 : valO (some (n1, p2)) = n1 := rfl
            have e2 : encP (posO (some (n1, p2))) = (p2 : Int) := rfl
            have e3 : encP (some (p2 + n1)) = (p2 : Int) + (n1 : Int) := rfl
            rw [e3] at C2
            have i0 : ¬ ((p2 : Int) < 0) := by omega
            obtain ⟨E5, hE5⟩ : ∃ E, encP (posO r5) = E := ⟨_, rfl⟩
            rw [hE5] at C5
            go_enter Tryd.func50, Tryd.ntmps50
            go_wp2_with fail
            refine C0.mono ?_
            rintro e w1 ⟨rfl, rfl⟩
            go_wp2_with fail
            refine C1.mono ?_
            rintro e w1 ⟨rfl, rfl⟩
            simp only [e1, e2]
            go_upto_region 5 with fail
            have i4 : (p2 : Int) + (n1 : Int) ≤ (c : Int) := by omega
            have i5 : ¬ ((c : Int) < (p2 : Int) + (n1 : Int)) := by omega
            have i6 : (c : Int) - (p2 : Int) = ((c - p2 : Nat) : Int) := by omega
            go_quiet (fail)
            replace C2 := C2 nq
            replace C3 := C3 nq
            replace C4 := C4 nq
            replace C5 := C5 nq
            clear hrun
            rw [HK.out]
            go_wp2_with fail
            refine C2.mono ?_
            rintro e w1 ⟨rfl, rfl⟩
            go_wp2_with fail
            refine C3.mono ?_
            rintro e w1 ⟨rfl, rfl⟩
            go_wp2_with fail
            refine C4.mono ?_
            rintro e w1 ⟨rfl, rfl⟩
            go_wp2_with fail
            refine C5.mono ?_
            rintro e w1 ⟨rfl, rfl⟩
            go_wp2
            refine bodyPost_ret (v := .tuple #[.agg #[.string (strOf (List.take m0 s.data.toList ++ List.take n1 (List.drop p2 bs))), .int .i64 (valO r2 : Nat), .int .i64 (valO r3 : Nat), .int .i64 (valO r4 : Nat), .int .i64 (valO r5 : Nat)], .int .i64 E5]) (by simp [results, Tryd.results50, go_sem, f0, f1, f2, f3, f4]) rfl ?_
            rw [← HW.out]
            exact ⟨⟨strOf (List.take m0 s.data.toList ++ List.take n1 (List.drop p2 bs)), (valO r2 : Nat), (valO r3 : Nat), (valO r4 : Nat), (valO r5 : Nat)⟩, by rw [← HF1.out, hE5]; rfl, HF2.out, HF.out _ _ _ _ _ _⟩
          · have hrun := fun k => run_str (P := Tryd.prog) Tryd.underlying22 Tryd.underlying5 Tryd.underlying9 (show Rd (W.drewN k) _ _ from hB (by omega))
            rw [HW.out] at hrun
            clear hA hB
            have e0 : valO (some (m0, p1)) = m0 := rfl
            have e1 : valO (some (n1, p2)) = n1 := rfl
            have e2 : encP (posO (some (n1, p2))) = (p2 : Int) := rfl
            have e3 : encP (some (p2 + n1)) = (p2 : Int) + (n1 : Int) := rfl
            rw [e3] at C2
            have i0 : ¬ ((p2 : Int) < 0) := by omega
            obtain ⟨E5, hE5⟩ : ∃ E, encP (posO r5) = E := ⟨_, rfl⟩
            rw [hE5] at C5
            go_enter Tryd.func50, Tryd.ntmps50
            go_wp2_with fail
            refine C0.mono ?_
            rintro e w1 ⟨rfl, rfl⟩
            go_wp2_with fail
            refine C1.mono ?_
            rintro e w1 ⟨rfl, rfl⟩
            simp only [e1, e2]
            go_upto_region 5 with fail
            have i4 : (p2 : Int) + (n1 : Int) ≤ (c : Int) := by omega
            have i5 : ¬ ((c : Int) < (p2 : Int) + (n1 : Int)) := by omega
            have i6 : (c : Int) - (p2 : Int) = ((c - p2 : Nat) : Int) := by omega
            go_quiet (fail)
            have hcp : c = p2 := by omega
            subst hcp
            replace C2 := C2 nq
            replace C3 := C3 nq
            replace C4 := C4 nq
            replace C5 := C5 nq
            clear hrun
            rw [HK.out]
            go_wp2_with fail
            refine C2.mono ?_
            rintro e w1 ⟨rfl, rfl⟩
            go_wp2_with fail
            refine C3.mono ?_
            rintro e w1 ⟨rfl, rfl⟩
            go_wp2_with fail
            refine C4.mono ?_
            rintro e w1 ⟨rfl, rfl⟩
            go_wp2_with fail
            refine C5.mono ?_
            rintro e w1 ⟨rfl, rfl⟩
            go_wp2
            refine bodyPost_ret (v := .tuple #[.agg #[.string (strOf (List.take m0 s.data.toList ++ List.take n1 (List.drop c bs))), .int .i64 (valO r2 : Nat), .int .i64 (valO r3 : Nat), .int .i64 (valO r4 : Nat), .int .i64 (valO r5 : Nat)], .int .i64 E5]) (by simp [results, Tryd.results50, go_sem, f0, f1, f2, f3, f4]) rfl ?_
            rw [← HW.out]
            exact ⟨⟨strOf (List.take m0 s.data.toList ++ List.take n1 (List.drop c bs)), (valO r2 : Nat), (valO r3 : Nat), (valO r4 : Nat), (valO r5 : Nat)⟩, by rw [← HF1.out, hE5]; rfl, HF2.out, HF.out _ _ _ _ _ _⟩
        · have hn : RES = none := by rw [← hres, if_neg (fun h => hnn h.2)]
          subst hn
          have e0 : valO (some (m0, p1)) = m0 := rfl
          have e1 : valO (some (n1, p2)) = n1 := rfl
          have e2 : encP (posO (some (n1, p2))) = (p2 : Int) := rfl
          have i0 : ¬ ((p2 : Int) < 0) := by omega
          have i1 : ¬ ((s.size : Int) < (m0 : Int)) := by omega
          have i3 : ((bs.length : Int) - (p2 : Int) < (n1 : Int)) := by omega
          clear hres hr0 hr1 hp1 hp2 hp hpos
          go_enter Tryd.func50, Tryd.ntmps50
          go_wp2_with fail
          refine C0.mono ?_
          rintro e w1 ⟨rfl, rfl⟩
          go_wp2_with fail
          refine C1.mono ?_
          rintro e w1 ⟨rfl, rfl⟩
          simp only [e1, e2]
          go_wp2
          refine bodyPost_ret (v := .tuple #[.agg noEnt.cells.toArray, .int .i64 (-1)]) (by simp [results, Tryd.results50, go_sem, f0, f1, f2, f3, f4, noEnt, EntV.cells]) rfl ?_
          rw [← HW.out]
          exact ⟨noEnt, rfl, fun y h => (by cases h), HBW.out⟩
      · have hn : RES = none := by rw [← hres, if_neg (fun h => hm h.1)]
        subst hn
        have e0 : valO (some (m0, p1)) = m0 := rfl
        have e1 : valO (some (n1, p2)) = n1 := rfl
        have e2 : encP (posO (some (n1, p2))) = (p2 : Int) := rfl
        have i0 : ¬ ((p2 : Int) < 0) := by omega
        have i1 : ((s.size : Int) < (m0 : Int)) := by omega
        clear hres hr0 hr1 hp1 hp2 hp hpos
        go_enter Tryd.func50, Tryd.ntmps50
        go_wp2_with fail
        refine C0.mono ?_
        rintro e w1 ⟨rfl, rfl⟩
        go_wp2_with fail
        refine C1.mono ?_
        rintro e w1 ⟨rfl, rfl⟩
        simp only [e1, e2]
        go_wp2
        refine bodyPost_ret (v := .tuple #[.agg noEnt.cells.toArray, .int .i64 (-1)]) (by simp [results, Tryd.results50, go_sem, f0, f1, f2, f3, f4, noEnt, EntV.cells]) rfl ?_
        rw [← HW.out]
        exact ⟨noEnt, rfl, fun y h => (by cases h), HBW.out⟩
end Go.Proofs.YtfeldllcpeibcaaDoor

/- codec.Writer: lists: anyBelow, Rising. -/
import Derived.Test.YtmmflhippbegaaaDoorZWriter
namespace Go.Proofs.YtmmflhippbegaaaDoor
set_option linter.unusedVariables false
open Go.ChangeShapes Go.WideShapes Go.ChangeAt Go.RowKit

/-- A list of ints as values; each fits. -/
def intL (l : List Int) : List Value := l.map fun z => Value.int .i64 z
theorem intL_length (l : List Int) : (intL l).length = l.length := by simp [intL]
theorem intL_get (l : List Int) (j : Nat) (h : j < l.length) : (intL l)[j]? = some (.int .i64 l[j]) := by simp [intL, h]
theorem elInts : Elem Tryd.prog 23 3 (.int .i64 0) 8 := ⟨Tryd.underlying23, by kernel_rfl, rfl, by decide⟩
theorem intL_append (a b : List Int) : intL (a ++ b) = intL a ++ intL b := by simp [intL]
theorem intL_one (l : List Int) : ∀ u ∈ intL l, u.oneCell' = true := by
  intro u hu
  obtain ⟨k, _, rfl⟩ := List.mem_map.1 hu
  rfl
def FitL (l : List Int) : Prop := ∀ z ∈ l, -9223372036854775808 ≤ z ∧ z ≤ 9223372036854775807
/-- A cell of a list that reads. -/
theorem rd_get {w : World} {a : Option Addr} {n c : Nat} {l : List Int} (h : Rd w (.slice a n c) (intL l)) : n = l.length ∧ (0 < l.length → ∃ b o, a = some ⟨b, o, none⟩ ∧ ∀ (j : Nat) (hj : j < l.length), w.cell? ⟨b, o + j, none⟩ = some (.int .i64 l[j])) := by
  obtain ⟨A, c', h, _, hg⟩ := h
  injection h with h1 h2 h3
  subst h1 h2 h3
  rw [intL_length] at hg ⊢
  refine ⟨rfl, fun h0 => ?_⟩
  obtain ⟨b, o, e, hg⟩ := hg h0
  exact ⟨b, o, e, fun j hj => hg j _ (intL_get l j hj)⟩

def anyNeg (l : List Int) : Bool := l.any fun z => decide (z < 0)

set_option maxRecDepth 100000 in
theorem anyb_any (w : World) (a : Option Addr) (n c : Nat) (l : List Int) (h : Rd w (.slice a n c) (intL l)) (hl : (l.length : Int) ≤ 9223372036854775807) :
    Calls Tryd.prog 50 #[.slice a n c] w fun e w' => e = .returned (.bool (anyNeg l)) ∧ w = w' := by
  obtain ⟨rfl, hg⟩ := rd_get h
  have HG := Lib.hid hg
  clear h hg
  go_enter Tryd.func50, Tryd.ntmps50
  go_wp2
  go_loopw [7] (fun s wr => ∃ i : Nat, s = .int .i64 i ∧ i ≤ l.length ∧ anyNeg (l.take i) = false ∧ w = wr) (fun s _ => l.length - (intOf s).toNat)
  case atStart => exact ⟨0, rfl, Nat.zero_le _, rfl, rfl⟩
  case round =>
    obtain ⟨i, rfl, hi, hno, rfl⟩ := hrel
    by_cases hlt : i < l.length
    · obtain ⟨b, o, rfl, hg⟩ := HG.out (by omega)
      have hc := hg i hlt
      obtain ⟨z, hz⟩ : ∃ z, l[i] = z := ⟨_, rfl⟩
      rw [hz] at hc
      have HZ := Lib.hid hz
      have HN := Lib.hid hno
      clear hg hz hno
      by_cases hn : z < 0
      · go_wp2
        go_ret
        refine ⟨ret_bool ?_, rfl⟩
        have : anyNeg l = true := List.any_eq_true.2 ⟨z, by rw [← HZ.out]; exact List.getElem_mem hlt, by simpa using hn⟩
        rw [this]
      · go_wp2
        go_roundw
        case rel =>
          refine ⟨i + 1, by go_num, by omega, ?_, by first | rfl | trivial⟩
          have h1 : l.take (i + 1) = l.take i ++ [z] := by rw [List.take_add_one, List.getElem?_eq_getElem hlt, HZ.out]; rfl
          rw [h1]
          have := HN.out
          unfold anyNeg at *
          rw [List.any_append, this]; simp; omega
        case measure => simp [intOf]; omega
    · obtain rfl : i = l.length := by omega
      rw [List.take_length] at hno
      go_wp2
      go_ret
      exact ⟨ret_bool hno.symm, rfl⟩

/-- Is each but the first greater than the one ahead of it? -/
def rises (l : List Int) : Prop := ∀ i, (h : i + 1 < l.length) → l[i] < l[i + 1]
/-- The steps of a rising list, each as a uvarint. -/
def gapsB : Int → List Int → List UInt8
  | _, [] => []
  | last, z :: r => uvar (z - last - 1).toNat ++ gapsB z r
def risB (l : List Int) : List UInt8 := uvar l.length ++ gapsB (-1) l

theorem gapsB_snoc (last : Int) (l : List Int) (z : Int) : gapsB last (l ++ [z]) = gapsB last l ++ uvar (z - (l.getLastD last) - 1).toNat := by
  induction l generalizing last with
  | nil => simp [gapsB]
  | cons y l ih =>
    rw [List.cons_append, gapsB, ih, gapsB, List.append_assoc]
    congr 2
    cases l <;> simp [List.getLastD]

theorem last_lt {l : List Int} (hn : anyNeg l = false) (hr : rises l) (i : Nat) (h : i < l.length) : -1 ≤ (l.take i).getLastD (-1) ∧ (l.take i).getLastD (-1) < l[i] := by
  have hneg : ∀ k, (hk : k < l.length) → 0 ≤ l[k] := fun k hk => by
    have := List.any_eq_false.1 hn l[k] (List.getElem_mem hk)
    simpa using this
  cases i with
  | zero => simp [List.getLastD]; have := hneg 0 h; omega
  | succ i =>
    have h1 : l.take (i + 1) = l.take i ++ [l[i]] := by rw [List.take_add_one, List.getElem?_eq_getElem (by omega)]; rfl
    rw [h1]
    have e : (l.take i ++ [l[i]]).getLastD (-1) = l[i] := List.getLastD_concat ..
    rw [e]
    have := hneg i (by omega)
    have := hr i h
    omega
theorem gapsB_le {l : List Int} (hf : FitL l) (last : Int) (h0 : -1 ≤ last) (hn : ∀ z ∈ l, 0 ≤ z) : (gapsB last l).length ≤ 10 * l.length := by
  induction l generalizing last with
  | nil => simp [gapsB]
  | cons z l ih =>
    rw [gapsB, List.length_append, List.length_cons]
    have h1 := ih (fun y hy => hf y (List.mem_cons_of_mem _ hy)) z (by have := hn z List.mem_cons_self; omega) (fun y hy => hn y (List.mem_cons_of_mem _ hy))
    have h2 := hf z List.mem_cons_self
    have h3 := (uvar_le (z - last - 1).toNat (by omega)).2
    omega

set_option maxRecDepth 100000 in
set_option maxHeartbeats 1000000 in
theorem wris_any (w : World) (base p : Nat) (v : Value) (bs : List UInt8) (h : Wr w base p v bs) (hb : base ≤ w.heap.size) (hbl : bs.length ≤ 10000000000) (a : Option Addr) (n c : Nat) (l : List Int) (hr : Rd w (.slice a n c) (intL l)) (hl : l.length ≤ 1000000000) (hf : FitL l)
    (eR eO : Value) (hR : w.cell? ⟨0, 0, none⟩ = some eR) (hO : w.cell? ⟨5, 0, none⟩ = some eO) (hoff : 0 < l.length → ∀ b o, a = some ⟨b, o, none⟩ → ¬ WrB p v b) :
    Calls Tryd.prog 36 #[.pointer (some ⟨p, 0, none⟩), .slice a n c] w fun e w' =>
      (anyNeg l = true → e = .returned eR ∧ w' = w) ∧ (anyNeg l = false → ¬ rises l → e = .returned eO ∧ ∃ d, w' = w.drewN d) ∧
      (anyNeg l = false → rises l → e = .returned .nilIface ∧ ∃ v', Wr w' base p v' (bs ++ risB l) ∧ Wrote w w' p v v') := by
  have hq := anyb_any w a n c l hr (by omega)
  obtain ⟨rfl, hg⟩ := rd_get hr
  have HG := Lib.hid hg
  have HF := Lib.hid hf
  clear hg hf
  go_enter Tryd.func36, Tryd.ntmps36
  go_wp2_with fail
  refine hq.mono ?_
  rintro e w' ⟨rfl, rfl⟩
  clear hq
  cases hn : anyNeg l with
  | true =>
    go_wp2
    go_ret
    exact ⟨fun _ => ⟨rfl, rfl⟩, fun h => absurd (hn.symm.trans h) (by decide), fun h => absurd (hn.symm.trans h) (by decide)⟩
  | false =>
    go_wp2
    go_loopw [5] (fun s wr => ∃ i d : Nat, s = .int .i64 i ∧ 1 ≤ i ∧ (∀ j, (h : j + 1 < l.length) → j + 1 < i → l[j] < l[j + 1]) ∧ (i ≤ l.length ∨ i = 1) ∧ wr = w.drewN d) (fun s _ => l.length - (intOf s).toNat)
    case atStart => exact ⟨1, 0, rfl, Nat.le_refl _, fun j _ h => by omega, .inr rfl, rfl⟩
    case round =>
      obtain ⟨i, d, rfl, h1, hup, hi, rfl⟩ := hrel
      have HU := Lib.hid hup
      clear hup
      by_cases hlt : i < l.length
      · obtain ⟨b, o, rfl, hg⟩ := HG.out (by omega)
        have hc1 := hg i hlt
        have hc0 := hg (i - 1) (by omega)
        obtain ⟨z, hz⟩ : ∃ z, l[i] = z := ⟨_, rfl⟩
        obtain ⟨y, hy⟩ : ∃ y, l[i - 1] = y := ⟨_, rfl⟩
        rw [hz] at hc1
        rw [hy] at hc0
        have HZ := Lib.hid hz
        have HY := Lib.hid hy
        clear hg hz hy
        have q1 : (0 : Int) ≤ (i : Int) - 1 := by omega
        have q2 : (1 : Int) ≤ i := by omega
        have q3 : (i : Int) < l.length := by omega
        have q4 : (i : Int) - 1 < l.length := by omega
        have q5 : IntKind.i64.wrap ((i : Int) - 1) = (i : Int) - 1 := IntWalk.i64_in _ (by omega)
        have q6 : ((i : Int) - 1).toNat = i - 1 := by omega
        by_cases hzy : z ≤ y
        · have d1 : decide (z ≤ y) = true := by simpa using hzy
          go_upto_region 6 with fail
          go_quiet (fail)
          go_wp2
          go_ret
          refine ⟨fun h => absurd (hn.symm.trans h) (by decide), fun _ _ => ⟨rfl, _, rfl⟩, fun _ hr => ?_⟩
          exfalso
          have := hr (i - 1) (by omega)
          simp only [show i - 1 + 1 = i by omega, HZ.out, HY.out] at this
          omega
        · have d1 : decide (z ≤ y) = false := by simpa using hzy
          go_upto_region 6 with fail
          go_quiet (fail)
          go_wp2
          go_roundw
          case rel =>
            refine ⟨i + 1, d + nq, by go_num, by omega, fun j hj hji => ?_, by omega, rfl⟩
            by_cases h2 : j + 1 < i
            · exact HU.out j hj h2
            · obtain rfl : i = j + 1 := by omega
              have e1 := HZ.out
              have e2 := HY.out
              simp only [Nat.add_sub_cancel] at e2
              rw [e1, e2]; omega
          case measure => simp [intOf]; omega
      · have hris : rises l := fun j hj => HU.out j hj (by omega)
        have C1 := wuv_any (w.drewN d) base p v bs (h.drewN d) hb (by omega) l.length (by omega)
        go_wp2_with fail
        refine C1.mono ?_
        rintro e w1 ⟨rfl, v1, hw1, hwr1⟩
        have hwr := ((Wrote.refl w p v).drewN d).trans hwr1
        have hneg : ∀ z ∈ l, 0 ≤ z := fun z hz => by have := List.any_eq_false.1 hn z hz; simpa using this
        have HN := Lib.hid hneg
        have HRI := Lib.hid hris
        have HUV := Lib.hid (uvar_le l.length (by omega)).2
        clear hneg hris C1 hwr1 h1 hi hlt HU
        go_wp2
        go_loopw [6, 36] (fun s6 s36 wr => ∃ (i : Nat) (v' : Value), s36 = .int .i64 i ∧ i ≤ l.length ∧ s6 = .int .i64 ((l.take i).getLastD (-1)) ∧ Wr wr base p v' (bs ++ (uvar l.length ++ gapsB (-1) (l.take i))) ∧ Wrote w wr p v v') (fun _ s _ => l.length - (intOf s).toNat)
        case atStart => exact ⟨0, v1, rfl, Nat.zero_le _, rfl, by simpa [gapsB] using hw1, hwr⟩
        case round =>
          clear hw1 hwr
          obtain ⟨i, v2, rfl, hi, rfl, hw, hwr⟩ := hrel
          by_cases hlt : i < l.length
          · have hr2 := hr.eff hwr.eff (fun b o l' c' e => hoff (by omega) b o (by injection e))
            obtain ⟨_, hgg⟩ := rd_get hr2
            obtain ⟨b, o, rfl, hg⟩ := hgg (by omega)
            have hc := hg i hlt
            obtain ⟨hl1, hl2⟩ := last_lt hn HRI.out i hlt
            have hl3 := HF.out l[i] (List.getElem_mem hlt)
            obtain ⟨z, hz⟩ : ∃ z, l[i] = z := ⟨_, rfl⟩
            obtain ⟨y, hy⟩ : ∃ y, (l.take i).getLastD (-1) = y := ⟨_, rfl⟩
            rw [hz] at hc hl2 hl3
            rw [hy] at hl1 hl2 ⊢
            have hgl := gapsB_le (l := l.take i) (fun z hz => HF.out z (List.mem_of_mem_take hz)) (-1) (Int.le_refl _) (fun z hz => HN.out z (List.mem_of_mem_take hz))
            rw [List.length_take] at hgl
            have hb2 := Nat.le_trans hb hwr.eff.size
            have C1 := wuv_any _ base p v2 _ hw hb2 (by have := HUV.out; simp only [List.length_append]; omega) (z - y - 1).toNat (by omega)
            have HZ := Lib.hid hz
            have HY := Lib.hid hy
            clear hg hgg hz hy hgl hr2
            have qa : IntKind.u64.wrap (wrap64 (wrap64 (z - y) - 1)) = (((z - y - 1).toNat : Nat) : Int) := by
              rw [IntKind.wrap_u64]
              simp only [wrap64]
              omega
            have HQ := Lib.hid qa
            clear qa
            go_wp2_with fail
            rw [HQ.out]
            refine C1.mono ?_
            rintro e w3 ⟨rfl, v3, hw3, hwr3⟩
            have ht : l.take (i + 1) = l.take i ++ [z] := by rw [List.take_add_one, List.getElem?_eq_getElem hlt, HZ.out]; rfl
            have HT := Lib.hid ht
            have HW3 := Lib.hid (hwr.trans hwr3)
            clear ht C1 hw hwr hwr3
            go_wp2
            go_roundw
            case rel =>
              refine ⟨i + 1, v3, by go_num, by omega, ?_, ?_, HW3.out⟩
              · rw [HT.out, List.getLastD_concat]
              · rw [HT.out, gapsB_snoc, HY.out]
                simpa [List.append_assoc] using hw3
            case measure => simp [intOf]; omega
          · obtain rfl : i = l.length := by omega
            rw [List.take_length] at hw
            go_wp2
            go_ret
            exact ⟨fun h => absurd (hn.symm.trans h) (by decide), fun _ h => absurd HRI.out h, fun _ _ => ⟨rfl, _, hw, hwr⟩⟩
end Go.Proofs.YtmmflhippbegaaaDoor

/- The document's dictionary: Open. -/
import Derived.Test.YtfeldllcpeibcaaDoorRef6F
import Derived.Test.YtfeldllcpeibcaaDoorDictT
namespace Go.Proofs.YtfeldllcpeibcaaDoor
set_option linter.unusedVariables false
open Go.ChangeShapes Go.WideShapes Go.ChangeAt Go.RowKit

theorem rent_le {bs K : List UInt8} {p q : Nat} {ev : EntV} (hp : p ≤ bs.length) (h : rentP bs (some p) K = some (ev, q)) : q ≤ bs.length := by
  unfold rentP at h
  obtain ⟨⟨u0, k0⟩, h0, h⟩ := Option.bind_eq_some_iff.1 h
  obtain ⟨⟨u1, k1⟩, h1, h⟩ := Option.bind_eq_some_iff.1 h
  have l0 := tk_le h0 hp
  have l1 := tk_le h1 l0
  split at h
  · next hc =>
    obtain ⟨⟨u2, k2⟩, h2, h⟩ := Option.bind_eq_some_iff.1 h
    obtain ⟨⟨u3, k3⟩, h3, h⟩ := Option.bind_eq_some_iff.1 h
    obtain ⟨⟨u4, k4⟩, h4, h⟩ := Option.bind_eq_some_iff.1 h
    obtain ⟨⟨u5, k5⟩, h5, h⟩ := Option.bind_eq_some_iff.1 h
    simp only at hc h2 h3 h4 h5
    have l2 := tk_le h2 (by omega)
    have l3 := tk_le h3 l2
    have l4 := tk_le h4 l3
    have l5 := tk_le h5 l4
    injection h with h
    injection h with _ h
    omega
  · cases h
theorem skip_none (bs : List UInt8) : ∀ k, skipR bs k none = none
  | 0 => rfl
  | k + 1 => skip_none bs k
/-- What the document's Open answers. -/
def ROpenPost (w : World) (res : Option (List EntV)) (e : Ending) (w' : World) : Prop :=
  (∀ l, res = some l → ∃ a c, e = .returned (.tuple #[.slice a l.length c, .int .i64 0]) ∧ RowE w' w.heap.size (.slice a l.length c) l ∧ Below w.heap.size w w') ∧
  (res = none → e = .returned (.tuple #[.slice none 0 0, .int .i64 10]) ∧ Below w.heap.size w w')
theorem ROpenPost.no {w : World} {res : Option (List EntV)} {e : Ending} {w' : World} (hr : res = none) (he : e = .returned (.tuple #[.slice none 0 0, .int .i64 10])) (h2 : Below w.heap.size w w') : ROpenPost w res e w' :=
  ⟨fun m hm => (by rw [hr] at hm; cases hm), fun _ => ⟨he, h2⟩⟩
theorem ROpenPost.ok {w : World} {res : Option (List EntV)} {e : Ending} {w' : World} {l : List EntV} {a : Option Addr} {n c : Nat} (hr : res = some l) (hn : n = l.length) (he : e = .returned (.tuple #[.slice a n c, .int .i64 0]))
    (h1 : RowE w' w.heap.size (.slice a n c) l) (h2 : Below w.heap.size w w') : ROpenPost w res e w' := by
  subst hn
  exact ⟨fun m hm => by rw [hr] at hm; injection hm with hm; subst hm; exact ⟨a, c, he, h1, h2⟩, fun hn => by rw [hr] at hn; cases hn⟩
theorem parse_none {bs : List UInt8} (hb : bs.length < 34359738368) (h : openR bs = none) : parseP bs = none := by
  cases hp : parseP bs with
  | none => rfl
  | some l => have := (openR_yes hp hb).1; rw [h] at this; cases this
theorem parse_not {bs : List UInt8} {l : List EntV} (hb : bs.length < 34359738368) (h : openR bs = some l) (hn : ¬ ((∀ e ∈ l, entOk e = true) ∧ rising none l ∧ imageB l = bs)) : parseP bs = none := by
  cases hp : parseP bs with
  | none => rfl
  | some m =>
    obtain ⟨h1, h2, h3, h4⟩ := openR_yes hp hb
    rw [h] at h1; injection h1 with h1; subst h1
    exact absurd ⟨h3, h4, h2⟩ hn
theorem parse_some {bs : List UInt8} {l : List EntV} (hb : bs.length < 34359738368) (h1 : ∀ e ∈ l, entOk e = true) (h2 : rising none l) (h3 : imageB l = bs) : parseP bs = some l := by
  rw [← h3]; exact parse_put h1 h2 (by rw [h3]; omega)
/-! ### Each entry takes six bytes at least -/
theorem tkR_pos : ∀ (m n f : Nat) (l : List UInt8) (u k : Nat), tkR m n f l = some (u, k) → 1 ≤ k
  | 0, _, _, _, _, _, h => by simp [tkR] at h
  | _ + 1, _, _, [], _, _, h => by simp [tkR] at h
  | m + 1, n, f, x :: r, u, k, h => by
    unfold tkR at h
    split at h
    · injection h with h; injection h with _ h; omega
    · obtain ⟨y, hy, he⟩ := Option.map_eq_some_iff.1 h
      injection he with _ he; omega
theorem tk_up {bs : List UInt8} {p u k : Nat} (h : tk bs p = some (u, k)) : p + 1 ≤ k := by
  obtain ⟨y, hy, he⟩ := Option.map_eq_some_iff.1 h
  injection he with _ he
  have := tkR_pos 5 _ _ _ y.1 y.2 hy
  omega
theorem rent_six {bs K : List UInt8} {p q : Nat} {ev : EntV} (h : rentP bs (some p) K = some (ev, q)) : p + 6 ≤ q := by
  unfold rentP at h
  obtain ⟨y0, h0, h⟩ := Option.bind_eq_some_iff.1 h
  have h0 : tk bs p = some y0 := h0
  obtain ⟨y1, h1, h⟩ := Option.bind_eq_some_iff.1 h
  split at h
  · obtain ⟨y2, h2, h⟩ := Option.bind_eq_some_iff.1 h
    obtain ⟨y3, h3, h⟩ := Option.bind_eq_some_iff.1 h
    obtain ⟨y4, h4, h⟩ := Option.bind_eq_some_iff.1 h
    obtain ⟨y5, h5, h⟩ := Option.bind_eq_some_iff.1 h
    injection h with h; injection h with _ h
    have a0 := tk_up (u := y0.1) (k := y0.2) h0
    have a1 := tk_up (u := y1.1) (k := y1.2) h1
    have a2 := tk_up (u := y2.1) (k := y2.2) h2
    have a3 := tk_up (u := y3.1) (k := y3.2) h3
    have a4 := tk_up (u := y4.1) (k := y4.2) h4
    have a5 := tk_up (u := y5.1) (k := y5.2) h5
    omega
  · cases h
theorem ents_six {bs : List UInt8} : ∀ (m p : Nat) (K : List UInt8) (l : List EntV), entsR bs m (some p) K = some l → p ≤ bs.length → p + 6 * m ≤ bs.length
  | 0, p, K, l, h, hp => by omega
  | m + 1, p, K, l, h, hp => by
    unfold entsR at h
    obtain ⟨y, hy, h⟩ := Option.bind_eq_some_iff.1 h
    have a := rent_six (ev := y.1) (q := y.2) hy
    have b := rent_le (ev := y.1) (q := y.2) hp hy
    split at h
    · obtain ⟨l2, h2, _⟩ := Option.map_eq_some_iff.1 h
      have := ents_six m y.2 y.1.K l2 h2 b
      omega
    · cases h
theorem skip_le {bs : List UInt8} : ∀ (k : Nat) (po : Option Nat) (p : Nat), (∀ q, po = some q → q ≤ bs.length) → skipR bs k po = some p → p ≤ bs.length
  | 0, po, p, h0, h => h0 p h
  | k + 1, po, p, h0, h => skip_le k (posO (tkO bs po)) p (tkO_le h0) h
theorem openR_six {bs : List UInt8} {l : List EntV} (h : openR bs = some l) : 6 * l.length ≤ bs.length := by
  unfold openR at h
  obtain ⟨y, hy, h⟩ := Option.bind_eq_some_iff.1 h
  split at h
  · obtain ⟨p, hp, h⟩ := Option.bind_eq_some_iff.1 h
    have a := skip_le _ _ p (fun q hq => by injection hq with hq; subst hq; exact tk_le (u := y.1) (k := y.2) hy (Nat.zero_le _)) hp
    have b := ents_six y.1 p [] l h a
    have c := entsR_len y.1 (some p) [] l h
    omega
  · cases h
theorem image_most4 {l : List EntV} (h : l.length ≤ 4000000) (ok : ∀ e ∈ l, entOk e = true) : (imageB l).length ≤ 1000000000 := by
  obtain ⟨h1, h2⟩ := chk_most _ l (Nat.le_refl _) (by omega) ok
  have := (uvar_le l.length (by omega)).2
  unfold imageB
  rw [List.length_append, List.length_append]; omega
set_option maxRecDepth 100000 in
set_option maxHeartbeats 4000000 in
theorem ropen_any (w : World) (a : Option Addr) (n c : Nat) (bs : List UInt8) (hr : Rd w (.slice a n c) (bytesV bs)) (hbs : bs.length ≤ 24000000) :
    Calls Tryd.prog 19 #[.slice a n c] w (ROpenPost w (parseP bs)) := by
  have hnl : n = bs.length := by obtain ⟨A, c', h, _⟩ := hr; injection h with _ h _; rw [h, bytesV_length]
  subst hnl
  have hbb : bs.length < 34359738368 := by omega
  obtain ⟨RES, hRES⟩ : ∃ RES, parseP bs = RES := ⟨_, rfl⟩
  rw [hRES]
  have hno : openR bs = none → RES = none := fun h => by rw [← hRES]; exact parse_none hbb h
  have hnot : ∀ l, openR bs = some l → ¬ ((∀ e ∈ l, entOk e = true) ∧ rising none l ∧ imageB l = bs) → RES = none := fun l h hn => by rw [← hRES]; exact parse_not hbb h hn
  have hyes : ∀ l, (∀ e ∈ l, entOk e = true) → rising none l → imageB l = bs → RES = some l := fun l h1 h2 h3 => by rw [← hRES]; exact parse_some hbb h1 h2 h3
  have C0 := take_pos w a bs.length c bs hr (by omega) 0 (Nat.zero_le _)
  have HNO := Lib.hid hno
  have HNOT := Lib.hid hnot
  have HYES := Lib.hid hyes
  have HR := Lib.hid hr
  clear hno hnot hyes hr hRES hbb
  cases h0 : tk bs 0 with
  | none =>
    rw [h0] at C0
    have hn : RES = none := HNO.out (by unfold openR; rw [h0]; rfl)
    subst hn
    clear h0
    go_enter Tryd.func19, Tryd.ntmps19
    go_wp2_with fail
    refine C0.mono ?_
    rintro e w1 ⟨rfl, rfl⟩
    simp only [show valO none = 0 from rfl, show encP (posO none) = -1 from rfl]
    go_wp2
    go_ret2
    exact .no rfl rfl (Below.refl _ _)
  | some y =>
    obtain ⟨n, p0⟩ := y
    rw [h0] at C0
    have hp0 : p0 ≤ bs.length := tk_le h0 (Nat.zero_le _)
    have e1 : valO (some (n, p0)) = n := rfl
    have e2 : encP (posO (some (n, p0))) = (p0 : Int) := rfl
    have i0 : decide ((p0 : Int) < 0) = false := decide_eq_false (by omega)
    by_cases hn : n ≤ bs.length
    · have hopen : openR bs = (skipR bs ((n + 15) / 16) (some p0)).bind fun p => entsR bs n (some p) [] := by
        unfold openR; rw [h0, Option.bind_some]; exact if_pos hn
      obtain ⟨B, hB⟩ : ∃ B, (n + 15) / 16 = B := ⟨_, rfl⟩
      rw [hB] at hopen
      obtain ⟨SK, hSK⟩ : ∃ SK, skipR bs B (some p0) = SK := ⟨_, rfl⟩
      rw [hSK] at hopen
      have i1 : decide (bs.length < n) = false := decide_eq_false (by omega)
      have tB : ((n : Int) + 15).tdiv 16 = (B : Int) := by rw [Int.tdiv_eq_ediv_of_nonneg (by omega)]; omega
      have tB2 : ((n : Int) + 16 - 1).tdiv 16 = (B : Int) := by rw [Int.tdiv_eq_ediv_of_nonneg (by omega)]; omega
      have hBl : B ≤ 24000000 := by omega
      have HOPEN := Lib.hid hopen
      have HSK := Lib.hid hSK
      clear h0 hopen hSK hB
      go_enter Tryd.func19, Tryd.ntmps19
      go_wp2_with fail
      refine C0.mono ?_
      rintro e w1 ⟨rfl, rfl⟩
      simp only [e1, e2]
      clear C0 e1 e2
      go_wp2
      go_loopw [5, 6] (fun s5 s6 wr => ∃ (k : Nat) (po : Option Nat), s5 = .int .i64 (encP po) ∧ s6 = .int .i64 k ∧ k ≤ B ∧ (∀ p, po = some p → p ≤ bs.length) ∧ wr = w ∧ skipR bs (B - k) po = SK) (fun _ s6 _ => B - (intOf s6).toNat)
      case atStart => exact ⟨0, some p0, rfl, rfl, Nat.zero_le _, fun p h => by injection h; omega, rfl, HSK.out⟩
      case round =>
        obtain ⟨k, po, rfl, rfl, hk, hpo, rfl, hsk⟩ := hrel
        by_cases hlt : k < B
        · have C1 := take_any wr a bs.length c bs HR.out (by omega) po hpo
          have hsk2 : skipR bs (B - (k + 1)) (posO (tkO bs po)) = SK := by
            rw [← hsk, show B - k = (B - (k + 1)) + 1 by omega]; rfl
          have hpo2 := tkO_le hpo
          obtain ⟨po2, hpo3⟩ : ∃ q, posO (tkO bs po) = q := ⟨_, rfl⟩
          rw [hpo3] at hsk2 hpo2 C1
          have i2 : (k : Int) < (B : Int) := by omega
          have HSK2 := Lib.hid hsk2
          have HPO2 := Lib.hid hpo2
          clear hsk hpo hpo3 hpo2 hsk2
          go_wp2_with fail
          refine C1.mono ?_
          rintro e w1 ⟨rfl, rfl⟩
          go_wp2
          go_roundw
          case rel => exact ⟨k + 1, po2, rfl, by go_num, by omega, HPO2.out, by first | rfl | trivial, HSK2.out⟩
          case measure => simp [intOf]; omega
        · have hk2 : B - k = 0 := by omega
          rw [hk2] at hsk
          have hsk : po = SK := hsk
          have i2 : ¬ ((k : Int) < (B : Int)) := by omega
          subst hsk
          clear hk2
          cases po with
          | none =>
            have hn : RES = none := HNO.out (by rw [HOPEN.out]; rfl)
            subst hn
            clear hpo
            simp only [show encP none = -1 from rfl]
            go_wp2
            go_ret2
            exact .no rfl rfl (Below.refl _ _)
          | some q =>
            have hq : q ≤ bs.length := hpo q rfl
            have e3 : encP (some q) = (q : Int) := rfl
            have i3 : decide ((q : Int) < 0) = false := decide_eq_false (by omega)
            have hopen : openR bs = (entsR bs (n - 0) (some q) []).map ([] ++ ·) := by
              rw [HOPEN.out, Option.bind_some]
              cases h : entsR bs n (some q) [] with
              | none => rfl
              | some l => rfl
            have HO2 := Lib.hid hopen
            clear hpo hopen HOPEN HSK hk
            simp only [e3]
            clear e3
            go_wp2
            clear tB tB2 i2 hlt
            obtain ⟨wo, rfl⟩ : ∃ wo : World, wo = wr := ⟨_, rfl⟩
            go_loopw [5, 7, 8, 9] (fun s5 s7 s8 s9 wr => ∃ (i p : Nat) (es : List EntV) (A : Option Addr) (N C : Nat) (s : ByteArray), s5 = .int .i64 p ∧ s7 = .slice A N C ∧ s8 = .string s ∧ s9 = .int .i64 i ∧ i ≤ n ∧ p ≤ bs.length ∧ N = i ∧ es.length = i ∧ s.size ≤ 65 ∧ RowE wr wo.heap.size (.slice A N C) es ∧ Below wo.heap.size wo wr ∧ openR bs = (entsR bs (n - i) (some p) s.data.toList).map (es ++ ·)) (fun _ _ _ s9 _ => n - (intOf s9).toNat)
            case atStart => exact ⟨0, q, [], none, 0, 0, ⟨#[]⟩, rfl, rfl, rfl, rfl, Nat.zero_le _, hq, rfl, rfl, by decide, rowE_nil _ _, Below.refl _ _, HO2.out⟩
            case round =>
              clear HO2 hq
              obtain ⟨i, p, es, A, N, C, s, rfl, rfl, rfl, rfl, hi, hp, rfl, hel, hs, hrow, hb, hop⟩ := hrel
              have hr1 := HR.out.below hb (Nat.le_refl _)
              by_cases hlt : N < n
              · have hop2 : openR bs = (rentP bs (some p) s.data.toList).bind fun y => if y.1.K.length ≤ 65 then (entsR bs (n - (N + 1)) (some y.2) y.1.K).map ((es ++ [y.1]) ++ ·) else none := by
                  rw [hop, show n - N = (n - (N + 1)) + 1 by omega, entsR]
                  cases h : rentP bs (some p) s.data.toList with
                  | none => rfl
                  | some y =>
                    simp only [Option.bind_some]
                    split
                    · rw [Option.map_map]; congr 1; funext l; simp
                    · rfl
                have C1 := rentry_any wr a bs.length c bs hr1 (by omega) (some p) (fun x h => by injection h; omega) s hs
                have hle : ∀ ev q, rentP bs (some p) s.data.toList = some (ev, q) → q ≤ bs.length := fun ev q h => rent_le hp h
                obtain ⟨RE, hRE⟩ : ∃ RE, rentP bs (some p) s.data.toList = RE := ⟨_, rfl⟩
                rw [hRE] at hop2 C1 hle
                rw [show encP (some p) = (p : Int) from rfl] at C1
                have i2 : (N : Int) < (n : Int) := by omega
                have HOP := Lib.hid hop2
                have HLE := Lib.hid hle
                have HROW := Lib.hid hrow
                have HB := Lib.hid hb
                have HEL := Lib.hid hel
                clear hop hop2 hle hRE hrow hb hr1 hel
                go_wp2_with fail
                refine C1.mono ?_
                rintro e w1 ⟨ev, rfl, hev, hb1⟩
                clear C1
                obtain ⟨ek, ed, et, ea, ez⟩ := ev
                have hb2 := HB.out.trans (hb1.mono HB.out.size)
                have hrow2 := HROW.out.below hb1 (Nat.le_refl _)
                have hz1 : wo.heap.size ≤ w1.heap.size := hb2.size
                have HB2 := Lib.hid hb2
                have HROW2 := Lib.hid hrow2
                have HEV := Lib.hid hev
                clear hb1 hb2 hrow2 hev HB HROW
                simp only [EntV.cells]
                cases RE with
                | none =>
                  have hn : RES = none := HNO.out (by rw [HOP.out]; rfl)
                  subst hn
                  simp only [show encP (Option.map (fun x : EntV × Nat => x.2) none) = -1 from rfl]
                  go_wp2
                  go_ret2
                  exact .no rfl rfl (HB2.out.alloc HB2.out.size _)
                | some y =>
                  obtain ⟨ev, q2⟩ := y
                  obtain rfl := HEV.out _ rfl
                  have hq2 := HLE.out _ _ rfl
                  simp only [show encP (Option.map (fun x : EntV × Nat => x.2) (some ((⟨ek, ed, et, ea, ez⟩ : EntV), q2))) = (q2 : Int) from rfl]
                  have hkl : ek.data.toList.length = ek.size := Array.length_toList (xs := ek.data)
                  by_cases h65 : ek.size ≤ 65
                  · have hop3 : openR bs = (entsR bs (n - (N + 1)) (some q2) ek.data.toList).map ((es ++ [⟨ek, ed, et, ea, ez⟩]) ++ ·) := by
                      rw [HOP.out, Option.bind_some]; exact if_pos (show ek.data.toList.length ≤ 65 by omega)
                    have HOP3 := Lib.hid hop3
                    have i5 : ¬ ((65 : Int) < (ek.size : Int)) := by omega
                    have hl2 : es.length ≤ 1000000000 := by rw [HEL.out]; omega
                    obtain ⟨W2, hW2⟩ : ∃ W2, W2 = w1.alloc (.cells #[.string ek, .int .i64 ed, .int .i64 et, .int .i64 ea, .int .i64 ez] 32) := ⟨_, rfl⟩
                    have hb3 := HB2.out.alloc HB2.out.size (.cells #[.string ek, .int .i64 ed, .int .i64 et, .int .i64 ea, .int .i64 ez] 32)
                    have hrow3 : RowE (w1.alloc (.cells #[.string ek, .int .i64 ed, .int .i64 et, .int .i64 ea, .int .i64 ez] 32)) wo.heap.size (.slice A N C) es := HROW2.out.below ((Below.refl _ _).alloc (Nat.le_refl _) _) (Nat.le_refl _)
                    have hx2 : (w1.alloc (.cells #[.string ek, .int .i64 ed, .int .i64 et, .int .i64 ea, .int .i64 ez] 32)).heap[w1.heap.size]? = some (.cells #[.string ek, .int .i64 ed, .int .i64 et, .int .i64 ea, .int .i64 ez] 32 (0, 0)) := heap_alloc_new w1 _
                    rw [← hW2] at hb3 hrow3 hx2
                    have HW2 := Lib.hid hW2
                    have HB3 := Lib.hid hb3
                    have HROW3 := Lib.hid hrow3
                    have HX2 := Lib.hid hx2
                    have HL2 := Lib.hid hl2
                    have HLT6 := Lib.hid HROW2.out.lt
                    clear hop3 hb3 hrow3 hx2 HOP hkl HB2 HROW2 HEV HLE hl2 hW2
                    go_upto_region 18 with fail
                    rw [← HW2.out]
                    have d0 := blk_cell HX2.out 0
                    have d1 := blk_cell HX2.out 1
                    have d2 := blk_cell HX2.out 2
                    have d3 := blk_cell HX2.out 3
                    have d4 := blk_cell HX2.out 4
                    have hz3 : wo.heap.size ≤ W2.heap.size := HB3.out.size
                    go_wp2_with (at_builtin; with_reducible refine apE HROW3.out HL2.out hz3 rfl _ _ rfl rfl rfl ?_)
                    intro v4 w4 hrow4 hg4
                    have hb4 := HROW3.out.grown hg4 HB3.out (Nat.le_refl _)
                    have e4 : w4.cell? ⟨w1.heap.size, 0, none⟩ = some (.string ek) := blk_cell ((hg4.block w1.heap.size (lt_of_heap HX2.out) (fun hF => by have := (HLT6.out _ hF.symm).2; omega)).trans HX2.out) 0
                    obtain ⟨A4, C4, rfl⟩ := hrow4.sl
                    have hlen4 : (es ++ [(⟨ek, ed, et, ea, ez⟩ : EntV)]).length = N + 1 := by rw [List.length_append, List.length_singleton, HEL.out]
                    rw [hlen4] at hrow4
                    rw [hlen4]
                    have HROW4 := Lib.hid hrow4
                    have HB4 := Lib.hid hb4
                    have HLEN4 := Lib.hid hlen4
                    clear d0 d1 d2 d3 d4 hrow4 hb4 hlen4 hg4
                    go_wp2
                    go_roundw
                    case rel => exact ⟨N + 1, q2, es ++ [⟨ek, ed, et, ea, ez⟩], A4, N + 1, C4, ek, rfl, rfl, rfl, by go_num, by omega, hq2, rfl, HLEN4.out, h65, HROW4.out, HB4.out, HOP3.out⟩
                    case measure => simp [intOf]; omega
                  · have hop3 : openR bs = none := by
                      rw [HOP.out, Option.bind_some]; exact if_neg (show ¬ ek.data.toList.length ≤ 65 by omega)
                    have hn : RES = none := HNO.out hop3
                    subst hn
                    have i5 : (65 : Int) < (ek.size : Int) := by omega
                    clear hop3 hkl h65
                    go_wp2
                    go_ret2
                    exact .no rfl rfl (HB2.out.alloc HB2.out.size _)
              · have hNn : n - N = 0 := by omega
                have hop2 : openR bs = some es := by rw [hop, hNn, show entsR bs 0 (some p) s.data.toList = some [] from rfl, Option.map_some, List.append_nil]
                have hsix := openR_six hop2
                have C1 := rbuild_any wr A N C es hrow.rd (by omega) (fun ok => image_most4 (by omega) ok)
                have i2 : ¬ ((N : Int) < (n : Int)) := by omega
                have HOP := Lib.hid hop2
                have HROW := Lib.hid hrow
                have HB := Lib.hid hb
                have HEL := Lib.hid hel
                have HR1 := Lib.hid hr1
                clear hop hop2 hrow hb hr1 hel hNn
                go_wp2_with fail
                refine C1.mono ?_
                rintro e w1 ⟨c0, c4, c3⟩
                clear C1 i2
                by_cases hok : ∀ x ∈ es, entOk x = true
                · by_cases hris : rising none es
                  · obtain ⟨v5, rfl, ho5, hb5⟩ := c0 hok hris
                    obtain ⟨A5, N5, C5, rfl⟩ := own_sl ho5
                    have r1 := run_str (P := Tryd.prog) Tryd.underlying22 Tryd.underlying5 Tryd.underlying9 ho5.rd
                    have r2 := run_str (P := Tryd.prog) Tryd.underlying22 Tryd.underlying5 Tryd.underlying9 (HR1.out.below hb5 (Nat.le_refl _))
                    have hb6 := HB.out.trans (hb5.mono HB.out.size)
                    have hrow6 := HROW.out.below hb5 (Nat.le_refl _)
                    have HB6 := Lib.hid hb6
                    have HROW6 := Lib.hid hrow6
                    have e6 := strOf_beq (imageB es) bs
                    by_cases him : imageB es = bs
                    · have hy : RES = some es := HYES.out es hok hris him
                      subst hy
                      rw [him] at r1
                      clear c0 c4 c3 ho5 hb5 hb6 hrow6 hok hris him e6
                      go_wp2
                      go_ret2
                      exact .ok rfl HEL.out.symm rfl HROW6.out HB6.out
                    · have hn : RES = none := HNOT.out es HOP.out (fun h => him h.2.2)
                      subst hn
                      have e7 : ((strOf (imageB es)).toList == (strOf bs).toList) = false := by rw [e6, beq_eq_false_iff_ne]; exact him
                      clear c0 c4 c3 ho5 hb5 hb6 hrow6 hok hris him e6
                      go_wp2
                      go_ret2
                      exact .no rfl rfl HB6.out
                  · obtain ⟨rfl, hb5⟩ := c4 hok hris
                    have hn : RES = none := HNOT.out es HOP.out (fun h => hris h.2.1)
                    subst hn
                    have HB6 := Lib.hid (HB.out.trans (hb5.mono HB.out.size))
                    clear c0 c4 c3 hok hris hb5
                    go_wp2
                    go_ret2
                    exact .no rfl rfl HB6.out
                · obtain ⟨rfl, hb5⟩ := c3 hok
                  have hn : RES = none := HNOT.out es HOP.out (fun h => hok h.1)
                  subst hn
                  have HB6 := Lib.hid (HB.out.trans (hb5.mono HB.out.size))
                  clear c0 c4 c3 hok hb5
                  go_wp2
                  go_ret2
                  exact .no rfl rfl HB6.out
    · have hn : RES = none := HNO.out (by unfold openR; rw [h0, Option.bind_some]; exact if_neg hn)
      subst hn
      have i1 : decide (bs.length < n) = true := decide_eq_true (by omega)
      clear h0
      go_enter Tryd.func19, Tryd.ntmps19
      go_wp2_with fail
      refine C0.mono ?_
      rintro e w1 ⟨rfl, rfl⟩
      simp only [e1, e2]
      go_wp2
      go_ret2
      exact .no rfl rfl (Below.refl _ _)
end Go.Proofs.YtfeldllcpeibcaaDoor

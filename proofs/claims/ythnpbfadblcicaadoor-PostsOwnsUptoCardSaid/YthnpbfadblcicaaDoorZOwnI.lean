/- concordmem: OwnInts: its states; the walk (printed by wip/gen_kepti.py). -/
import Derived.Test.YthnpbfadblcicaaDoorZKeptI
namespace Go.Proofs.YthnpbfadblcicaaDoor
set_option linter.unusedVariables false
open Go.ChangeShapes Go.WideShapes Go.ChangeAt Go.RowKit

/-- Lists of own: each holds its bytes, each in a block of its own. -/
structure OwnLI (w : World) (base N : Nat) (vs : Nat → Value) (ys : Nat → List Int) : Prop where
  own : ∀ k, k < N → Own w base 3 (vs k) (intL (ys k))
  sep : ∀ k l b, k < N → l < N → k ≠ l → (vs k).ownBlock = some b → (vs l).ownBlock ≠ some b
/-- The blocks of the lists. -/
def FvI (N : Nat) (vs : Nat → Value) (b : Nat) : Prop := ∃ k, k < N ∧ (vs k).ownBlock = some b
theorem OwnLI.set {w : World} {base N : Nat} {vs : Nat → Value} {ys : Nat → List Int} (h : OwnLI w base N vs ys) {i g n c : Nat} (hi : i < N) (hv : vs i = .slice (some ⟨g, 0, none⟩) n c) (j : Nat) (x : Int) :
    OwnLI (w.setCell ⟨g, j, none⟩ (.int .i64 x)) base N vs (fun k => if k = i then (ys i).set j x else ys k) := by
  refine ⟨fun k hk => ?_, h.sep⟩
  by_cases e : k = i
  · subst e
    simp only [if_true]
    have h1 := h.own k hk
    rw [hv] at h1 ⊢
    have h2 := h1.set j (.int .i64 x)
    exact own_to h2 (by simp [intL, List.map_set])
  · simp only [if_neg e]
    exact (h.own k hk).setOther (fun hb => h.sep i k g hi hk (fun e2 => e e2.symm) (by rw [hv]; rfl) hb) _
/-- The first state: the lists before place j of list i are marked. -/
def PI1 (w wr : World) (base N : Nat) (vs : Nat → Value) (xs : Nat → List Int) (i j : Nat) : Prop :=
  ∃ ys, OwnLI wr base N vs ys ∧ (∀ k, (ys k).length = (xs k).length) ∧ (∀ k, k < i → ys k = marksI k 0 (xs k).length) ∧ (∀ t, t < j → (ys i)[t]? = some (markV i t)) ∧ Eff (FvI N vs) w wr
theorem PI1.start {w : World} {base N : Nat} {vs : Nat → Value} {xs : Nat → List Int} (h : OwnLI w base N vs xs) : PI1 w w base N vs xs 0 0 :=
  ⟨xs, h, fun _ => rfl, fun _ h => absurd h (Nat.not_lt_zero _), fun _ h => absurd h (Nat.not_lt_zero _), Eff.refl _ _⟩
theorem PI1.at_ {w wr : World} {base N : Nat} {vs : Nat → Value} {xs : Nat → List Int} {i j k : Nat} (h : PI1 w wr base N vs xs i j) (hk : k < N) : ∃ a c, vs k = .slice a (xs k).length c ∧ (0 < (xs k).length → ∃ g, a = some ⟨g, 0, none⟩ ∧ ∀ j, wr.frozen? ⟨g, j, none⟩ = false ∧ (j < (xs k).length → ∃ x : Int, wr.cell? ⟨g, j, none⟩ = some (.int .i64 x))) := by
  obtain ⟨ys, ho, hl, _⟩ := h
  have h1 := ho.own k hk
  obtain ⟨a, c, hv⟩ := own_slice h1
  rw [intL_length, hl] at hv
  refine ⟨a, c, hv, fun h0 => ?_⟩
  rw [hv] at h1
  obtain ⟨g, rfl⟩ := h1.someAt h0
  refine ⟨g, rfl, fun j => ⟨h1.frozen j, fun hj => ⟨(ys k)[j]'(by rw [hl]; exact hj), h1.get (intL_get _ _ _)⟩⟩⟩
theorem PI1.step {w wr : World} {base N : Nat} {vs : Nat → Value} {xs : Nat → List Int} {i j g n c : Nat} (h : PI1 w wr base N vs xs i j) (hi : i < N) (hj : j < (xs i).length) (hv : vs i = .slice (some ⟨g, 0, none⟩) n c) :
    PI1 w (wr.setCell ⟨g, j, none⟩ (.int .i64 (markV i j))) base N vs xs i (j + 1) := by
  obtain ⟨ys, ho, hl, hm, hj2, he⟩ := h
  refine ⟨_, ho.set hi hv j (markV i j), fun k => ?_, fun k hk => ?_, fun t ht => ?_, he.setCell (fun _ => ⟨i, hi, by rw [hv]; rfl⟩) _⟩
  · by_cases e : k = i
    · subst e; simp [hl]
    · simp [e, hl]
  · rw [if_neg (by omega)]; exact hm k hk
  · simp only [if_true]
    by_cases e : t = j
    · subst e; rw [List.getElem?_set_self (by rw [hl]; exact hj)]
    · rw [List.getElem?_set_ne (fun e2 => e e2.symm)]; exact hj2 t (by omega)
theorem PI1.next {w wr : World} {base N : Nat} {vs : Nat → Value} {xs : Nat → List Int} {i : Nat} (h : PI1 w wr base N vs xs i (xs i).length) : PI1 w wr base N vs xs (i + 1) 0 := by
  obtain ⟨ys, ho, hl, hm, hj2, he⟩ := h
  refine ⟨ys, ho, hl, fun k hk => ?_, fun _ h => absurd h (Nat.not_lt_zero _), he⟩
  by_cases e : k = i
  · subst e
    refine List.ext_getElem? fun t => ?_
    by_cases ht : t < (xs k).length
    · rw [hj2 t ht, List.getElem?_eq_getElem (by rw [marksI_length]; exact ht), marksI_get, Nat.zero_add]
    · rw [List.getElem?_eq_none (by rw [hl]; omega), List.getElem?_eq_none (by rw [marksI_length]; omega)]
  · exact hm k (by omega)
/-- The second state: the copies have grown by r places, those before the i-th by one more. -/
structure PI2 (w wr : World) (base N : Nat) (vs : Nat → Value) (ln : Nat → Nat) (r i : Nat) (G : Value) (gs : Nat → Value) : Prop where
  top : Own wr w.heap.size 51 G ((List.range N).map gs)
  own : ∀ k, k < N → Own wr base 3 (gs k) (intL (marksI k 0 (ln k + r + if k < i then 1 else 0)))
  old : ∀ k, k < N → Own wr base 3 (vs k) (intL (marksI k 0 (ln k)))
  sep : ∀ k l b, k < N → l < N → k ≠ l → (gs k).ownBlock = some b → (gs l).ownBlock ≠ some b
  sepo : ∀ k l b, k < N → l < N → k ≠ l → (vs k).ownBlock = some b → (gs l).ownBlock ≠ some b
  low : ∀ k b, k < N → (gs k).ownBlock = some b → b < w.heap.size → FvI N vs b
  eff : Eff (FvI N vs) w wr
theorem PI2.start {w wr w2 : World} {base N : Nat} {vs : Nat → Value} {xs : Nat → List Int} {G : Value} (h : PI1 w wr base N vs xs N 0) (ho : Own w2 w.heap.size 51 G ((List.range N).map vs)) (hb : Below wr.heap.size wr w2) : PI2 w w2 base N vs (fun k => (xs k).length) 0 0 G vs := by
  obtain ⟨ys, h1, hl, hm, _, he⟩ := h
  have h2 : ∀ k, k < N → Own w2 base 3 (vs k) (intL (marksI k 0 (xs k).length)) := fun k hk => by
    have := (h1.own k hk).below hb (Nat.le_refl _)
    rwa [hm k hk] at this
  exact ⟨ho, fun k hk => by simpa using h2 k hk, h2, h1.sep, h1.sep, fun k b hk hb _ => ⟨k, hk, hb⟩, he.trans (Eff.of_below hb _) (fun i hi _ => hi)⟩
theorem PI2.next {w wr : World} {base N : Nat} {vs : Nat → Value} {ln : Nat → Nat} {r : Nat} {G : Value} {gs : Nat → Value} (h : PI2 w wr base N vs ln r N G gs) : PI2 w wr base N vs ln (r + 1) 0 G gs :=
  ⟨h.top, fun k hk => by have := h.own k hk; rw [if_pos hk] at this; simpa [Nat.add_assoc] using this, h.old, h.sep, h.sepo, h.low, h.eff⟩
theorem PI2.drew {w wr : World} {base N : Nat} {vs : Nat → Value} {ln : Nat → Nat} {r i : Nat} {G : Value} {gs : Nat → Value} (h : PI2 w wr base N vs ln r i G gs) : PI2 w wr.drew base N vs ln r i G gs :=
  ⟨h.top, h.own, h.old, h.sep, h.sepo, h.low, h.eff.drew⟩
theorem PI2.drewN {w wr : World} {base N : Nat} {vs : Nat → Value} {ln : Nat → Nat} {r i : Nat} {G : Value} {gs : Nat → Value} (h : PI2 w wr base N vs ln r i G gs) (d : Nat) : PI2 w (wr.drewN d) base N vs ln r i G gs :=
  ⟨h.top, h.own, h.old, h.sep, h.sepo, h.low, h.eff.drewN d⟩
/-- One copy grown by a place, and laid back. -/
theorem PI2.step {w wr w3 : World} {base N : Nat} {vs : Nat → Value} {ln : Nat → Nat} {r i : Nat} {g6 n6 c6 : Nat} {gs : Nat → Value} {v' : Value} (h : PI2 w wr base N vs ln r i (.slice (some ⟨g6, 0, none⟩) n6 c6) gs) (hi : i < N) (hz : base ≤ wr.heap.size)
    (g1 : Own w3 base 3 v' (intL (marksI i 0 (ln i + r)) ++ [.int .i64 (markV i (ln i + r))])) (g2 : Keeps wr w3 (gs i) (intL (marksI i 0 (ln i + r))).length)
    (g3 : v'.ownBlock = (gs i).ownBlock ∨ (v'.ownBlock = some (wr.heap.size + 1) ∧ Below wr.heap.size wr w3)) (g4 : wr.grownBy w3 (gs i).ownBlock) :
    PI2 w (w3.setCell ⟨g6, i, none⟩ v') base N vs ln r (i + 1) (.slice (some ⟨g6, 0, none⟩) n6 c6) (fun k => if k = i then v' else gs k) := by
  have hgi := h.own i hi
  rw [if_neg (Nat.lt_irrefl _), Nat.add_zero] at hgi
  rw [intL_length, marksI_length] at g2
  have htop := h.top
  have hb6 : w.heap.size ≤ g6 ∧ g6 < wr.heap.size := htop.lt g6 rfl
  have htop3 : Own w3 w.heap.size 51 (.slice (some ⟨g6, 0, none⟩) n6 c6) ((List.range N).map gs) := g2 _ _ _ _ htop (fun k h1 h2 => absurd h2 (own_types hgi htop (by decide) h1))
  have hown3 : ∀ k, k < N → k ≠ i → Own w3 base 3 (gs k) (intL (marksI k 0 (ln k + r + if k < i then 1 else 0))) := fun k hk hne => g2 _ _ _ _ (h.own k hk) (fun b h1 h2 => absurd h2 (h.sep i k b hi hk (fun e => hne e.symm) h1))
  have hold3 : ∀ k, k < N → Own w3 base 3 (vs k) (intL (marksI k 0 (ln k))) := fun k hk => g2 _ _ _ _ (h.old k hk) (fun b h1 h2 => by
    by_cases e : k = i
    · subst e; rw [intL_length, marksI_length]; omega
    · exact absurd h1 (h.sepo k i b hk hi e h2))
  have g5 := own_to g1 (ys := intL (marksI i 0 (ln i + r + 1))) (by rw [marksI_succ, intL_snoc7, Nat.zero_add])
  have h6 : ∀ {b e v xs}, Own w3 b e v xs → e = 3 → v.ownBlock ≠ some g6 := fun ho he hk => by subst he; exact absurd rfl (own_types ho htop3 (by decide) hk)
  have hfar : ∀ k b, k < N → (gs k).ownBlock = some b → b < wr.heap.size := fun k b hk hb => ((h.own k hk).lt b hb).2
  have hfaro : ∀ k b, k < N → (vs k).ownBlock = some b → b < wr.heap.size := fun k b hk hb => ((h.old k hk).lt b hb).2
  refine ⟨?_, fun k hk => ?_, fun k hk => (hold3 k hk).setOther (h6 (hold3 k hk) rfl) _, fun k l b hk hl hne h1 h2 => ?_, fun k l b hk hl hne h1 h2 => ?_, fun k b hk h1 h2 => ?_, ?_⟩
  · refine own_to (htop3.set i v') ?_
    refine List.ext_getElem? fun t => ?_
    by_cases e : t = i
    · subst e; rw [List.getElem?_set_self (by simpa using hi)]; simp [hi]
    · rw [List.getElem?_set_ne (fun e2 => e e2.symm)]; by_cases ht : t < N <;> simp [ht, e]
  · by_cases e : k = i
    · subst e; simp only [if_true]; rw [if_pos (Nat.lt_succ_self _)]; exact g5.setOther (h6 g5 rfl) _
    · simp only [if_neg e]
      have h7 := (hown3 k hk e).setOther (h6 (hown3 k hk e) rfl) (p := ⟨g6, i, none⟩) v'
      by_cases e2 : k < i
      · rw [if_pos e2] at h7; rw [if_pos (by omega)]; exact h7
      · rw [if_neg e2] at h7; rw [if_neg (by omega)]; exact h7
  · by_cases e : k = i
    · subst e
      simp only [if_true] at h1
      simp only [if_neg (fun e2 => hne e2.symm : ¬ l = k)] at h2
      rcases g3 with g3 | ⟨g3, _⟩
      · exact h.sep k l b hk hl hne (g3 ▸ h1) h2
      · rw [g3] at h1; injection h1 with h1; have := hfar l b hl h2; omega
    · simp only [if_neg e] at h1
      by_cases e3 : l = i
      · subst e3
        simp only [if_true] at h2
        rcases g3 with g3 | ⟨g3, _⟩
        · exact h.sep k l b hk hl hne h1 (g3 ▸ h2)
        · rw [g3] at h2; injection h2 with h2; have := hfar k b hk h1; omega
      · simp only [if_neg e3] at h2; exact h.sep k l b hk hl hne h1 h2
  · by_cases e3 : l = i
    · subst e3
      simp only [if_true] at h2
      rcases g3 with g3 | ⟨g3, _⟩
      · exact h.sepo k l b hk hl hne h1 (g3 ▸ h2)
      · rw [g3] at h2; injection h2 with h2; have := hfaro k b hk h1; omega
    · simp only [if_neg e3] at h2; exact h.sepo k l b hk hl hne h1 h2
  · by_cases e : k = i
    · subst e
      simp only [if_true] at h1
      rcases g3 with g3 | ⟨g3, _⟩
      · exact h.low k b hk (g3 ▸ h1) h2
      · rw [g3] at h1; injection h1 with h1; have := h.eff.size; omega
    · simp only [if_neg e] at h1; exact h.low k b hk h1 h2
  · refine (h.eff.grown g4 (fun k hk hlt => h.low i k hi hk hlt)).setCell (fun hlt => ?_) _
    simp only at hlt; omega

theorem elRowI : Elem Tryd.prog 62 51 (.slice none 0 0) 24 := ⟨Tryd.underlying62, by kernel_rfl, rfl, by decide⟩
set_option maxRecDepth 100000 in
set_option maxHeartbeats 4000000 in
/-- Own over lists of own: true; nothing else is changed. -/
theorem owni_any (w : World) (base : Nat) (a : Option Addr) (n c : Nat) (N : Nat) (vs : Nat → Value) (xs : Nat → List Int) (hl : Rd w (.slice a n c) ((List.range N).map vs)) (ho : OwnLI w base N vs xs) (hbase : base ≤ w.heap.size)
    (hN : N ≤ 100000000) (hx : ∀ k, (xs k).length ≤ 100000000) (hap : ∀ b o, a = some ⟨b, o, none⟩ → ¬ FvI N vs b) :
    Calls Tryd.prog 51 #[.slice a n c] w fun e w' => e = .returned (.bool true) ∧ Eff (FvI N vs) w w' := by
  have hnl : n = N := by obtain ⟨A, c', h, _⟩ := hl; injection h with _ h _; rw [h]; simp
  subst hnl
  have hlist : ∀ wr, Eff (FvI n vs) w wr → ∀ i, i < n → ∃ b o, a = some ⟨b, o, none⟩ ∧ wr.cell? ⟨b, o + i, none⟩ = some (vs i) := fun wr he i hi => by
    obtain ⟨A, c', h, _, hg⟩ := hl.eff he (fun b o l c' h => by injection h with h1 _ _; exact hap b o h1)
    injection h with h1 _ _
    subst h1
    obtain ⟨b, o, rfl, hc⟩ := hg (by simp; omega)
    exact ⟨b, o, rfl, hc i _ (by simp [hi])⟩
  have hP1 := PI1.start ho
  have hrd := hl
  have HLI := Lib.hid hlist
  have HP1 := Lib.hid hP1
  have HX := Lib.hid hx
  have HRD := Lib.hid hrd
  have HAP := Lib.hid hap
  clear hl ho hx hlist hP1 hrd hap
  go_enter Tryd.func51, Tryd.ntmps51
  go_wp2
  go_loopw [15] (fun s15 wr => ∃ (i : Nat), s15 = .int .i64 i ∧ i ≤ n ∧ PI1 w wr base n vs xs i 0) (fun s15 _ => n - (intOf s15).toNat)
  case atStart => exact ⟨0, rfl, Nat.zero_le _, HP1.out⟩
  case round =>
    clear HP1
    obtain ⟨i, rfl, hi, hP⟩ := hrel
    by_cases hlt : i < n
    · have heff : Eff (FvI n vs) w wr := by obtain ⟨_, _, _, _, _, h⟩ := hP; exact h
      obtain ⟨b, o, rfl, hci⟩ := HLI.out wr heff i hlt
      obtain ⟨A, C, hv, hg⟩ := hP.at_ hlt
      rw [hv] at hci
      have hxi := HX.out i
      have i1 : (i : Int) < (n : Int) := by omega
      obtain ⟨L, hL⟩ : ∃ L, (xs i).length = L := ⟨_, rfl⟩
      rw [hL] at hci hxi
      have HV := Lib.hid hv
      have HP := Lib.hid hP
      have HL := Lib.hid hL
      clear heff hg hv hP hL
      go_wp2
      obtain ⟨wo, rfl⟩ : ∃ wo : World, wo = wr := ⟨_, rfl⟩
      clear hci
      go_loopw [22] (fun s22 wr => ∃ (j : Nat), s22 = .int .i64 j ∧ j ≤ L ∧ PI1 w wr base n vs xs i j) (fun s22 _ => L - (intOf s22).toNat)
      case atStart => exact ⟨0, rfl, Nat.zero_le _, HP.out⟩
      case round =>
        clear HP
        obtain ⟨j, rfl, hj, hP⟩ := hrel
        by_cases hlt2 : j < L
        · have hv := HV.out
          obtain ⟨A2, C2, hv2, hg⟩ := hP.at_ hlt
          rw [hv] at hv2
          injection hv2 with e1 _ e3
          subst e1 e3
          rw [HL.out] at hv hg
          obtain ⟨g, rfl, hg2⟩ := hg (by omega)
          obtain ⟨hfz, hcx⟩ := hg2 j
          obtain ⟨x0, hcx⟩ := hcx hlt2
          have C1 := mark_any wr i j (by omega) (by omega)
          have hst := hP.step hlt (by rw [HL.out]; exact hlt2) hv
          obtain ⟨M, hM⟩ : ∃ M, markV i j = M := ⟨_, rfl⟩
          rw [hM] at C1 hst
          have j1 : (j : Int) < (L : Int) := by omega
          have HS := Lib.hid hst
          clear hg hP hM hst hv
          go_wp2_with fail
          refine C1.mono ?_
          rintro e w2 ⟨rfl, rfl⟩
          clear C1
          go_wp2
          go_roundw
          case rel => exact ⟨j + 1, by go_num, by omega, HS.out⟩
          case measure => simp [intOf]; omega
        · obtain rfl : j = L := by omega
          have j1 : ¬ ((j : Int) < (j : Int)) := by omega
          have hn2 := (show PI1 w wr base n vs xs i (xs i).length by rw [HL.out]; exact hP).next
          have HN := Lib.hid hn2
          clear hP hn2
          go_wp2
          go_roundw
          case rel => exact ⟨i + 1, by go_num, by omega, HN.out⟩
          case measure => simp [intOf]; omega
    · obtain rfl : i = n := by omega
      have i1 : ¬ ((i : Int) < (i : Int)) := by omega
      have heff : Eff (FvI i vs) w wr := by obtain ⟨_, _, _, _, _, h⟩ := hP; exact h
      have hrd := HRD.out.eff heff (fun b o l c' h => by injection h with h1 _ _; exact HAP.out b o h1)
      have hrd2 := hrd.below ((Below.refl _ wr).alloc (Nat.le_refl _) (.cells #[] 51)) (Nat.le_refl _)
      have hoe := own_empty wr w.heap.size 51 heff.size
      have h1c : ∀ u ∈ (List.range i).map vs, u.oneCell' = true := fun u hu => by
        obtain ⟨k, hk, rfl⟩ := List.mem_map.1 hu
        obtain ⟨A, C, hv, _⟩ := hP.at_ (List.mem_range.1 hk)
        rw [hv]; rfl
      have hl0 : ([] : List Value).length + ((List.range i).map vs).length < 1000000000001 := by simp; omega
      have hz : w.heap.size ≤ (wr.alloc (.cells #[] 51)).heap.size := by have := heff.size; simp; omega
      have hbA : Below wr.heap.size wr (wr.alloc (.cells #[] 51)) := (Below.refl _ _).alloc (Nat.le_refl _) _
      have hsz : wr.heap.size ≤ (wr.alloc (.cells #[] 51)).heap.size := by simp
      have HRD2 := Lib.hid hrd2
      have HOE := Lib.hid hoe
      have H1C := Lib.hid h1c
      have HL0 := Lib.hid hl0
      have HP := Lib.hid hP
      have HBA := Lib.hid hbA
      clear heff hrd hrd2 hoe h1c hl0 hP hbA
      go_wp2_with (at_builtin; with_reducible refine apN elRowI HOE.out HRD2.out H1C.out HL0.out hz rfl _ _ rfl rfl rfl ?_)
      intro G w1 g1 g2 g3 g4
      have g1 : Own w1 w.heap.size 51 G ((List.range i).map vs) := g1
      have hb1 : Below wr.heap.size wr w1 := HBA.out.grown g4 hsz (fun k hk => by
        have : k = wr.heap.size := by simpa [Value.ownBlock] using hk.symm
        omega)
      have hP2 := PI2.start HP.out g1 hb1
      obtain ⟨A6, N6, C6, rfl⟩ := own_sl g1
      have hn6 := g1.len
      simp only [List.length_map, List.length_range] at hn6
      subst hn6
      have HP2 := Lib.hid hP2
      clear g1 g2 g3 g4 hb1 hP2 HP hz hsz HRD2 HOE H1C HL0 HBA
      go_wp2
      obtain ⟨wo, rfl⟩ : ∃ wo : World, wo = wr := ⟨_, rfl⟩
      go_loopw [7] (fun s7 wr => ∃ (r : Nat) (gs : Nat → Value), s7 = .int .i64 r ∧ r ≤ 80 ∧ PI2 w wr base N6 vs (fun k => (xs k).length) r 0 (.slice A6 N6 C6) gs) (fun s7 _ => 80 - (intOf s7).toNat)
      case atStart => exact ⟨0, vs, rfl, Nat.zero_le _, HP2.out⟩
      case round =>
        clear HP2
        obtain ⟨r, gs, rfl, hr, hP⟩ := hrel
        by_cases hlt : r < 80
        · have r1 : (r : Int) < 80 := by omega
          have HP := Lib.hid hP
          clear hP
          go_wp2
          obtain ⟨wp, rfl⟩ : ∃ wp : World, wp = wr := ⟨_, rfl⟩
          go_loopw [42] (fun s43 wr => ∃ (i : Nat) (gs : Nat → Value), s43 = .int .i64 i ∧ i ≤ N6 ∧ PI2 w wr base N6 vs (fun k => (xs k).length) r i (.slice A6 N6 C6) gs) (fun s43 _ => N6 - (intOf s43).toNat)
          case atStart => exact ⟨0, gs, rfl, Nat.zero_le _, HP.out⟩
          case round =>
            clear HP gs
            obtain ⟨i, gs, rfl, hi, hP⟩ := hrel
            by_cases hlt2 : i < N6
            · obtain ⟨g6, rfl⟩ := hP.top.someAt (by omega)
              have hci := hP.top.get (j := i) (x := gs i) (by simp [hlt2])
              have hfz := hP.top.frozen i
              have hgi := hP.own i hlt2
              rw [if_neg (Nat.lt_irrefl _), Nat.add_zero] at hgi
              obtain ⟨A, C, hv⟩ := own_slice hgi
              rw [intL_length, marksI_length] at hv
              have hxi := HX.out i
              obtain ⟨L, hL⟩ : ∃ L, (xs i).length + r = L := ⟨_, rfl⟩
              have C1 := fun W => mark_any W i L (by omega) (by omega)
              obtain ⟨M, hM⟩ : ∃ M, markV i L = M := ⟨_, rfl⟩
              simp only [hM] at C1
              have HMW := Lib.hid hM.symm
              have hz : base ≤ wr.heap.size := Nat.le_trans hbase hP.eff.size
              have i1 : (i : Int) < (N6 : Int) := by omega
              have hst := fun w3 v' => hP.drew.step (w3 := w3) (v' := v') hlt2 hz
              rw [hv] at hst hgi hci
              simp only [hL] at hst hgi hci
              have hgd := hgi.drew
              have hl9 : (intL (marksI i 0 L)).length < 1000000000000 := by rw [intL_length, marksI_length]; omega
              have hzd : base ≤ wr.drew.heap.size := hz
              have h6g : (Value.slice A L C).ownBlock ≠ some g6 := fun hk => absurd rfl (own_types hgi hP.top (by decide) hk)
              have htp := hP.top
              have hg6 : ∀ w3, wr.drew.grownBy w3 (Value.slice A L C).ownBlock → w3.cell? ⟨g6, i, none⟩ = some (.slice A L C) := fun w3 g4 => (htp.drew.kept (w' := w3) (row := (Value.slice A L C).ownBlock) g4 (.inr (fun e => h6g e.symm))).get (by simp [hlt2, hv, hL])
              have hf6 : ∀ w3, wr.drew.grownBy w3 (Value.slice A L C).ownBlock → w3.frozen? ⟨g6, i, none⟩ = false := fun w3 g4 => (htp.drew.kept (w' := w3) (row := (Value.slice A L C).ownBlock) g4 (.inr (fun e => h6g e.symm))).frozen i
              have hciA : (wr.drew.alloc (.cells #[.int .i64 M] 3)).cell? ⟨g6, i, none⟩ = some (.slice A L C) := by
                rw [← hci]; exact ((Below.refl _ wr.drew).alloc (Nat.le_refl _) _).cell (p := ⟨g6, i, none⟩) (htp.lt g6 rfl).2
              have hciB : (wr.alloc (.cells #[.int .i64 M] 3)).cell? ⟨g6, i, none⟩ = some (.slice A L C) := by
                rw [← hci]; exact ((Below.refl _ wr).alloc (Nat.le_refl _) _).cell (p := ⟨g6, i, none⟩) (htp.lt g6 rfl).2
              have HG6 := Lib.hid hg6
              have HF6 := Lib.hid hf6
              have HST := Lib.hid hst
              have HL := Lib.hid hL
              have HGD := Lib.hid hgd
              have HL9 := Lib.hid hl9
              clear hP hgi hv hM hL hst hgd hl9 hxi htp hg6 hf6 h6g
              go_upto_region 18 with fail
              refine wp_region_any (by kernel_rfl) ?_
              change wpAny _ _ _ _ _ _ _ (World.drew _)
              refine wpAny_take (i := 0) (v := ?_) rfl (by kernel_rfl) (by kernel_rfl) (by kernel_rfl) (fun _ _ _ h => h) (Or.inl ⟨by kernel_rfl, ?_⟩) ?_
              rotate_left
              · intro w; go_simp; try with_reducible rfl
              refine wpAny_take (i := 1) (v := ?_) rfl (by kernel_rfl) (by kernel_rfl) (by kernel_rfl) (fun _ _ _ h => h) (Or.inl ⟨by kernel_rfl, ?_⟩) ?_
              rotate_left
              · intro w; go_simp; try with_reducible rfl
              refine wpAny_take (i := 2) (v := ?_) rfl (by kernel_rfl) (by kernel_rfl) (by kernel_rfl) (fun _ _ _ h => h) (Or.inl ⟨by kernel_rfl, ?_⟩) ?_
              rotate_left
              · intro w; go_simp; try with_reducible rfl
              refine wpAny_take (i := 3) (v := ?_) rfl (by kernel_rfl) (by kernel_rfl) (by kernel_rfl) (fun _ _ _ h => h) (Or.inl ⟨by kernel_rfl, ?_⟩) ?_
              rotate_left
              · intro w; go_simp; try with_reducible rfl
              refine wpAny_take (i := 4) (v := ?_) rfl (by kernel_rfl) (by kernel_rfl) (by kernel_rfl) (fun _ _ _ h => h) (Or.inl ⟨by kernel_rfl, ?_⟩) ?_
              rotate_left
              · intro w; go_simp; try with_reducible rfl
              refine wpAny_take (i := 6) (v := ?_) rfl (by kernel_rfl) (by kernel_rfl) (by kernel_rfl) (fun _ _ _ h => h) (Or.inl ⟨by kernel_rfl, ?_⟩) ?_
              rotate_left
              · intro w; go_simp; try with_reducible rfl
              refine wpAny_take (i := 7) (v := ?_) rfl (by kernel_rfl) (by kernel_rfl) (by kernel_rfl) (fun _ _ _ h => h) (Or.inl ⟨by kernel_rfl, ?_⟩) ?_
              rotate_left
              · intro w; go_simp; try with_reducible rfl
              refine wpAny_ready (rs := [5, 8]) (by kernel_rfl) (by simp) ?_
              refine AllReady.cons rfl (fun KK hKK => ?_) ?_
              · rw [if_pos (by kernel_rfl)]
                go_simp
                refine hKK _ _ ?_
                clear hKK KK
                refine wpAny_ready (rs := [8]) (by kernel_rfl) (by simp) ?_
                refine AllReady.cons rfl (fun KK hKK => ?_) ?_
                · rw [if_pos (by kernel_rfl)]
                  go_simp
                  go_wp2_with (go_at_call 48; refine (C1 _).mono ?_; rintro e w2 ⟨rfl, rfl⟩)
                  refine wpAny_ready (rs := [9]) (by kernel_rfl) (by simp) ?_
                  refine AllReady.cons rfl (fun KK hKK => ?_) ?_
                  · rw [if_pos (by kernel_rfl)]
                    go_simp
                    refine hKK _ _ ?_
                    clear hKK KK
                    refine wpAny_ready (rs := [10]) (by kernel_rfl) (by simp) ?_
                    refine AllReady.cons rfl (fun KK hKK => ?_) ?_
                    · refine step_ap1' elIn7 rfl HGD.out HL9.out hzd rfl (.tmp 55) (.tmp 59) rfl rfl rfl ?_
                      intro v1 w3 g1 g2 g3 g4
                      have hst := HST.out w3 v1 (own_last g1 HMW.out) g2 g3 g4
                      have hgb : w3.cell? ⟨g6, i, none⟩ = some (.slice A L C) := HG6.out w3 g4
                      have hgf : w3.frozen? ⟨g6, i, none⟩ = false := HF6.out w3 g4
                      obtain ⟨a1, n1, c1, rfl⟩ := own_sl g1
                      have HS2 := Lib.hid hst
                      clear g1 g2 g3 g4 hst
                      refine hKK _ _ ?_
                      clear hKK KK
                      refine wpAny_take (i := 11) (v := ?_) rfl (by kernel_rfl) (by kernel_rfl) (by kernel_rfl) (fun _ _ _ h => h) (Or.inl ⟨by kernel_rfl, ?_⟩) ?_
                      rotate_left
                      · intro w; go_simp; try with_reducible rfl
                      refine wpAny_ready (rs := [12]) (by kernel_rfl) (by simp) ?_
                      refine AllReady.cons rfl (fun KK hKK => ?_) ?_
                      · rw [if_pos (by kernel_rfl)]
                        go_simp
                        refine hKK _ _ ?_
                        clear hKK KK
                        refine wpAny_done (by kernel_rfl) ?_ _
                        go_wp2
                        go_roundw
                        case rel => exact ⟨i + 1, _, by go_num, by omega, HS2.out⟩
                        case measure => simp [intOf]; omega
                      exact AllReady.nil
                    exact AllReady.nil
                  exact AllReady.nil
                exact AllReady.nil
              refine AllReady.cons rfl (fun KK hKK => ?_) ?_
              · rw [if_pos (by kernel_rfl)]
                go_simp
                go_wp2_with (go_at_call 48; refine (C1 _).mono ?_; rintro e w2 ⟨rfl, rfl⟩)
                refine wpAny_ready (rs := [5, 9]) (by kernel_rfl) (by simp) ?_
                refine AllReady.cons rfl (fun KK hKK => ?_) ?_
                · rw [if_pos (by kernel_rfl)]
                  go_simp
                  refine hKK _ _ ?_
                  clear hKK KK
                  refine wpAny_ready (rs := [9]) (by kernel_rfl) (by simp) ?_
                  refine AllReady.cons rfl (fun KK hKK => ?_) ?_
                  · rw [if_pos (by kernel_rfl)]
                    go_simp
                    refine hKK _ _ ?_
                    clear hKK KK
                    refine wpAny_ready (rs := [10]) (by kernel_rfl) (by simp) ?_
                    refine AllReady.cons rfl (fun KK hKK => ?_) ?_
                    · refine step_ap1' elIn7 rfl HGD.out HL9.out hzd rfl (.tmp 55) (.tmp 59) rfl rfl rfl ?_
                      intro v1 w3 g1 g2 g3 g4
                      have hst := HST.out w3 v1 (own_last g1 HMW.out) g2 g3 g4
                      have hgb : w3.cell? ⟨g6, i, none⟩ = some (.slice A L C) := HG6.out w3 g4
                      have hgf : w3.frozen? ⟨g6, i, none⟩ = false := HF6.out w3 g4
                      obtain ⟨a1, n1, c1, rfl⟩ := own_sl g1
                      have HS2 := Lib.hid hst
                      clear g1 g2 g3 g4 hst
                      refine hKK _ _ ?_
                      clear hKK KK
                      refine wpAny_take (i := 11) (v := ?_) rfl (by kernel_rfl) (by kernel_rfl) (by kernel_rfl) (fun _ _ _ h => h) (Or.inl ⟨by kernel_rfl, ?_⟩) ?_
                      rotate_left
                      · intro w; go_simp; try with_reducible rfl
                      refine wpAny_ready (rs := [12]) (by kernel_rfl) (by simp) ?_
                      refine AllReady.cons rfl (fun KK hKK => ?_) ?_
                      · rw [if_pos (by kernel_rfl)]
                        go_simp
                        refine hKK _ _ ?_
                        clear hKK KK
                        refine wpAny_done (by kernel_rfl) ?_ _
                        go_wp2
                        go_roundw
                        case rel => exact ⟨i + 1, _, by go_num, by omega, HS2.out⟩
                        case measure => simp [intOf]; omega
                      exact AllReady.nil
                    exact AllReady.nil
                  exact AllReady.nil
                refine AllReady.cons rfl (fun KK hKK => ?_) ?_
                · rw [if_pos (by kernel_rfl)]
                  go_simp
                  refine hKK _ _ ?_
                  clear hKK KK
                  refine wpAny_ready (rs := [5]) (by kernel_rfl) (by simp) ?_
                  refine AllReady.cons rfl (fun KK hKK => ?_) ?_
                  · rw [if_pos (by kernel_rfl)]
                    go_simp
                    refine hKK _ _ ?_
                    clear hKK KK
                    refine wpAny_ready (rs := [10]) (by kernel_rfl) (by simp) ?_
                    refine AllReady.cons rfl (fun KK hKK => ?_) ?_
                    · refine step_ap1' elIn7 rfl HGD.out HL9.out hzd rfl (.tmp 55) (.tmp 59) rfl rfl rfl ?_
                      intro v1 w3 g1 g2 g3 g4
                      have hst := HST.out w3 v1 (own_last g1 HMW.out) g2 g3 g4
                      have hgb : w3.cell? ⟨g6, i, none⟩ = some (.slice A L C) := HG6.out w3 g4
                      have hgf : w3.frozen? ⟨g6, i, none⟩ = false := HF6.out w3 g4
                      obtain ⟨a1, n1, c1, rfl⟩ := own_sl g1
                      have HS2 := Lib.hid hst
                      clear g1 g2 g3 g4 hst
                      refine hKK _ _ ?_
                      clear hKK KK
                      refine wpAny_take (i := 11) (v := ?_) rfl (by kernel_rfl) (by kernel_rfl) (by kernel_rfl) (fun _ _ _ h => h) (Or.inl ⟨by kernel_rfl, ?_⟩) ?_
                      rotate_left
                      · intro w; go_simp; try with_reducible rfl
                      refine wpAny_ready (rs := [12]) (by kernel_rfl) (by simp) ?_
                      refine AllReady.cons rfl (fun KK hKK => ?_) ?_
                      · rw [if_pos (by kernel_rfl)]
                        go_simp
                        refine hKK _ _ ?_
                        clear hKK KK
                        refine wpAny_done (by kernel_rfl) ?_ _
                        go_wp2
                        go_roundw
                        case rel => exact ⟨i + 1, _, by go_num, by omega, HS2.out⟩
                        case measure => simp [intOf]; omega
                      exact AllReady.nil
                    exact AllReady.nil
                  exact AllReady.nil
                exact AllReady.nil
              exact AllReady.nil
            · obtain rfl : i = N6 := by omega
              have i1 : ¬ ((i : Int) < (i : Int)) := by omega
              have hn2 := hP.next
              have HN := Lib.hid hn2
              clear hP hn2
              go_wp2
              go_roundw
              case rel => exact ⟨r + 1, gs, by go_num, by omega, HN.out⟩
              case measure => simp [intOf]; omega
        · obtain rfl : r = 80 := by omega
          have r1 : ¬ ((80 : Int) < 80) := by omega
          have hown : ∀ k, k < N6 → ∃ A C, gs k = .slice A ((xs k).length + 80) C ∧ Own wr base 3 (.slice A ((xs k).length + 80) C) (intL (marksI k 0 ((xs k).length + 80))) := fun k hk => by
            have h := hP.own k hk
            rw [if_neg (Nat.not_lt_zero _), Nat.add_zero] at h
            obtain ⟨A, C, hv⟩ := own_slice h
            rw [intL_length, marksI_length] at hv
            rw [hv] at h
            exact ⟨A, C, hv, h⟩
          have hold : ∀ k, k < N6 → ∃ A C, vs k = .slice A (xs k).length C ∧ Own wr base 3 (.slice A (xs k).length C) (intL (marksI k 0 (xs k).length)) := fun k hk => by
            have h := hP.old k hk
            obtain ⟨A, C, hv⟩ := own_slice h
            rw [intL_length, marksI_length] at hv
            rw [hv] at h
            exact ⟨A, C, hv, h⟩
          have htop := hP.top
          have heff := hP.eff
          have HOWN := Lib.hid hown
          have HOLD := Lib.hid hold
          have HTOP := Lib.hid htop
          have HEFF := Lib.hid heff
          clear hP hown hold htop heff
          go_wp2
          obtain ⟨wq, rfl⟩ : ∃ wq : World, wq = wr := ⟨_, rfl⟩
          go_loopw [65] (fun s67 wr => ∃ (i d : Nat), s67 = .int .i64 i ∧ i ≤ N6 ∧ wr = wq.drewN d) (fun s67 _ => N6 - (intOf s67).toNat)
          case atStart => exact ⟨0, 0, rfl, Nat.zero_le _, rfl⟩
          case round =>
            obtain ⟨i, d, rfl, hi, rfl⟩ := hrel
            by_cases hlt2 : i < N6
            · obtain ⟨g6, rfl⟩ := HTOP.out.someAt (by omega)
              have hci := (HTOP.out.drewN d).get (j := i) (x := gs i) (by simp [hlt2])
              obtain ⟨A, C, hv, hgo⟩ := HOWN.out i hlt2
              obtain ⟨A0, C0, hv0, hvo⟩ := HOLD.out i hlt2
              have hxi := HX.out i
              obtain ⟨b, o, rfl, hcl⟩ := HLI.out wq HEFF.out i hlt2
              rw [hv] at hci
              rw [hv0] at hcl
              obtain ⟨L, hL⟩ : ∃ L, (xs i).length = L := ⟨_, rfl⟩
              rw [hL] at hci hcl hgo hvo hxi
              have i1 : (i : Int) < (N6 : Int) := by omega
              obtain ⟨g7, rfl⟩ := hgo.someAt (by omega)
              have hgx : ∀ j, j < L + 80 → wq.cell? ⟨g7, j, none⟩ = some (.int .i64 (markV i j)) := fun j hj => by
                have := hgo.get (intL_get _ j (by rw [marksI_length]; exact hj))
                rwa [marksI_get, Nat.zero_add] at this
              have hvx : ∀ j, j < L → ∃ g0, A0 = some ⟨g0, 0, none⟩ ∧ wq.cell? ⟨g0, j, none⟩ = some (.int .i64 (markV i j)) := fun j hj => by
                obtain ⟨g0, rfl⟩ := hvo.someAt (by omega)
                have := hvo.get (intL_get _ j (by rw [marksI_length]; exact hj))
                rw [marksI_get, Nat.zero_add] at this
                exact ⟨g0, rfl, this⟩
              have HGX := Lib.hid hgx
              have HVX := Lib.hid hvx
              clear hgo hvo hgx hvx hv hv0 hL
              go_wp2
              go_loopw [72] (fun s74 wr => ∃ (j d : Nat), s74 = .int .i64 j ∧ j ≤ L + 80 ∧ wr = wq.drewN d) (fun s74 _ => L + 80 - (intOf s74).toNat)
              case atStart => exact ⟨0, d, rfl, Nat.zero_le _, rfl⟩
              case round =>
                clear hci
                obtain ⟨j, d, rfl, hj, rfl⟩ := hrel
                by_cases hlt3 : j < L + 80
                · have x1 := HGX.out j hlt3
                  have C1 := fun m => mark_any (wq.drewN m) i j (by omega) (by omega)
                  obtain ⟨M, hM⟩ : ∃ M, markV i j = M := ⟨_, rfl⟩
                  simp only [hM] at C1
                  rw [hM] at x1
                  have j1 : (j : Int) < ((L + 80 : Nat) : Int) := by omega
                  by_cases hlt4 : j < L
                  · obtain ⟨g0, rfl, y1⟩ := HVX.out j hlt4
                    rw [hM] at y1
                    have t1 : decide (j < L) = true := decide_eq_true hlt4
                    have j2 : (j : Int) < (L : Int) := by omega
                    clear hM
                    go_upto_region 26 with fail
                    go_quiet ((go_at_call 48; with_reducible exact quiet_leftNN (C1 _)))
                    go_wp2
                    go_quiet (fail)
                    go_wp2
                    go_roundw
                    case rel => exact ⟨j + 1, _, by go_num, by omega, by first | rfl | exact World.drewN_drewN ..⟩
                    case measure => simp [intOf]; omega
                  · have t1 : decide (j < L) = false := decide_eq_false hlt4
                    clear hM
                    go_upto_region 26 with fail
                    go_quiet ((go_at_call 48; with_reducible exact quiet_leftNN (C1 _)))
                    go_wp2
                    go_quiet (fail)
                    go_wp2
                    go_roundw
                    case rel => exact ⟨j + 1, _, by go_num, by omega, by first | rfl | exact World.drewN_drewN ..⟩
                    case measure => simp [intOf]; omega
                · have j1 : ¬ ((j : Int) < ((L + 80 : Nat) : Int)) := by omega
                  clear HGX HVX
                  go_wp2
                  go_roundw
                  case rel => exact ⟨i + 1, _, by go_num, by omega, rfl⟩
                  case measure => simp [intOf]; omega
            · have i1 : ¬ ((i : Int) < (N6 : Int)) := by omega
              have hfin := HEFF.out.drewN d
              have HFIN := Lib.hid hfin
              clear hfin
              go_wp2
              go_ret
              exact ⟨rfl, HFIN.out⟩
end Go.Proofs.YthnpbfadblcicaaDoor

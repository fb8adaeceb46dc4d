/- Merged: WildA, Fuzz. -/
import Derived.Test.YtejmjjgbbojfbaaDoorZWild3
import Derived.Test.YtejmjjgbbojfbaaDoorZMach
/- auto.Wild: the automaton of a pattern; lives. -/
namespace Go.Proofs.YtejmjjgbbojfbaaDoor
set_option linter.unusedVariables false
open Go.ChangeShapes Go.WideShapes Go.ChangeAt Go.RowKit

theorem stepL_length (es : List PEl) (D : List Bool) (b : UInt8) : (stepL es D b).length = D.length := by unfold stepL; rw [closeI_length, stepI_length]
theorem startL_length (es : List PEl) : (startL es).length = es.length + 1 := by unfold startL; rw [closeI_length]; simp
theorem elems_len : ∀ (s : List UInt8) (es : List PEl), elems s = some es → es.length ≤ s.length
  | [], es, h => by rw [elems] at h; injection h with h; rw [← h]; simp
  | [c], es, h => by
    rw [elems] at h
    split at h
    · injection h with h; rw [← h]; simp
    · split at h
      · injection h with h; rw [← h]; simp
      · split at h
        · cases h
        · injection h with h; rw [← h]; simp
  | c :: d :: r, es, h => by
    have key : ∀ (r' : List UInt8) (e : PEl), (∀ es, elems r' = some es → es.length ≤ r'.length) → r'.length ≤ r.length + 1 → (elems r').map (e :: ·) = some es → es.length ≤ (c :: d :: r).length := fun r' e ih hl h => by
      cases hr : elems r' with
      | none => rw [hr] at h; cases h
      | some x =>
        rw [hr] at h; injection h with h
        have := ih x hr
        rw [← h]; simp; omega
    rw [elems] at h
    split at h
    · exact key (d :: r) _ (elems_len (d :: r)) (by simp) h
    · split at h
      · exact key (d :: r) _ (elems_len (d :: r)) (by simp) h
      · split at h
        · exact key r _ (elems_len r) (by simp) h
        · exact key (d :: r) _ (elems_len (d :: r)) (by simp) h
theorem wildM_auto {w : World} {p : Nat} {a : Option Addr} {n c : Nat} {es : List PEl} (hr : RdE w (.slice a n c) es) (hes : es.length ≤ 1000000000) (hc : w.cell? ⟨p, 0, none⟩ = some (.iface 93 (.agg #[.slice a n c]))) : IsAuto w p (wildM es) := by
  refine ⟨World.block_lt_of_cell? w _ hc, 93, .agg #[.slice a n c], 115, 116, 114, fun d => ∃ D : List Bool, D.length = es.length + 1 ∧ d = strB D, ⟨hc, fun d ⟨D, hD, e⟩ => by rw [e]; unfold strB; rw [strOf_size]; simp [bitsB]; omega⟩, ⟨fun w => by kernel_rfl, fun args w => by kernel_rfl⟩, ⟨fun w => by kernel_rfl, fun args w => by kernel_rfl⟩, ⟨fun w => by kernel_rfl, fun args w => by kernel_rfl⟩,
    fun _ => ⟨startL es, startL_length es, rfl⟩, ?_, ?_⟩
  · rintro d b ⟨D, hD, rfl⟩ _ hne
    refine ⟨stepL es D b, by rw [stepL_length]; exact hD, ?_⟩
    show (if (stepL es (boolsOf (strB D)) b).any id then strB (stepL es (boolsOf (strB D)) b) else ⟨#[]⟩) = _
    have hne' : (if (stepL es (boolsOf (strB D)) b).any id then strB (stepL es (boolsOf (strB D)) b) else ⟨#[]⟩) ≠ (⟨#[]⟩ : ByteArray) := hne
    rw [boolsOf_strB] at hne' ⊢
    split
    · rfl
    · next h => rw [if_neg h] at hne'; exact absurd rfl hne'
  · intro w' hb
    have hr' := hr.below hb
    refine ⟨wstart_any w' a n c es hr' hes, ?_, ?_⟩
    · rintro d b ⟨D, hD, rfl⟩ _
      refine (wstep_any w' a n c es hr' hes _ D rfl hD b).mono fun e w'' ⟨h1, h2⟩ => ⟨?_, h2⟩
      rw [h1]
      show _ = Ending.returned (.string (if (stepL es (boolsOf (strB D)) b).any id then strB (stepL es (boolsOf (strB D)) b) else ⟨#[]⟩))
      rw [boolsOf_strB]; rfl
    · rintro d ⟨D, hD, rfl⟩ _
      refine (wacc_any w' a n c es hr' hes _ D rfl hD).mono fun e w'' ⟨h1, h2⟩ => ⟨?_, h2⟩
      rw [h1]
      show _ = Ending.returned (.bool ((boolsOf (strB D)).getD es.length false))
      rw [boolsOf_strB]
/-- What Wild answers. -/
def WildPost (w : World) (s : ByteArray) (eP : Value) (e : Ending) (w' : World) : Prop :=
  (∀ es, elems s.data.toList = some es → ∃ p, e = .returned (.tuple #[.pointer (some ⟨p, 0, none⟩), .nilIface]) ∧ w.heap.size ≤ p ∧ IsAuto w' p (wildM es) ∧ Below w.heap.size w w') ∧
  (elems s.data.toList = none → e = .returned (.tuple #[.pointer none, eP]) ∧ Below w.heap.size w w')
set_option maxRecDepth 100000 in
set_option maxHeartbeats 1000000 in
theorem wild_any (w : World) (s : ByteArray) (hs : s.size ≤ 1000000000) (eP : Value) (hP : w.cell? ⟨2, 0, none⟩ = some eP) :
    Calls Tryd.prog 23 #[.string s] w (WildPost w s eP) := by
  have C0 := elements_any w s (by omega)
  have hsl : s.size = s.data.toList.length := (Array.length_toList (xs := s.data)).symm
  cases hes : elems s.data.toList with
  | none =>
    have HES := Lib.hid hes
    clear hes hsl
    go_enter Tryd.func23, Tryd.ntmps23
    go_wp2_with fail
    refine C0.mono ?_
    rintro e w1 ⟨_, h2⟩
    obtain ⟨rfl, hb1⟩ := h2 HES.out
    have hP1 : w1.cell? ⟨2, 0, none⟩ = some eP := by rw [hb1.cell (World.block_lt_of_cell? w _ hP)]; exact hP
    have HB := Lib.hid hb1
    clear C0 h2 hb1
    go_wp2
    go_quiet (fail)
    go_wp2
    go_ret2
    exact ⟨fun es h => absurd (HES.out.symm.trans h) (by simp), fun _ => ⟨rfl, below_drewN HB.out _⟩⟩
  | some es =>
    have hel := elems_len _ _ hes
    have hel2 : es.length ≤ 1000000000 := by omega
    have HES := Lib.hid hes
    clear hes hsl hel
    go_enter Tryd.func23, Tryd.ntmps23
    go_wp2_with fail
    refine C0.mono ?_
    rintro e w1 ⟨h1, _⟩
    obtain ⟨v, rfl, hrow, hb1⟩ := h1 es HES.out
    obtain ⟨a, c, rfl⟩ := hrow.sl
    have hrd := hrow.rd
    have hn := heap_alloc_new w1 (.cells #[.iface 93 (.agg #[.slice a es.length c])] 83)
    have hb2 : Below w1.heap.size w1 (w1.alloc (.cells #[.iface 93 (.agg #[.slice a es.length c])] 83)) := (Below.refl _ _).alloc (Nat.le_refl _) _
    have ha := wildM_auto (p := w1.heap.size) (hrd.below hb2) hel2 (blk_cell hn 0)
    have HA := Lib.hid ha
    have HB := Lib.hid (hb1.trans (hb2.mono hb1.size))
    have HSZ := Lib.hid hb1.size
    clear C0 h1 hrow hrd hn ha hb1 hb2
    go_wp2
    go_ret2
    exact ⟨fun es' h => by
      have : es = es' := Option.some.inj (HES.out.symm.trans h)
      subst this
      exact ⟨w1.heap.size, rfl, HSZ.out, HA.out, HB.out⟩, fun h => absurd (HES.out.symm.trans h) (by simp)⟩

def livesE : List PEl := [(0, 97), (1, 0), (0, 98), (2, 0)]
theorem lives1 : accM (wildM livesE) [97, 120, 98] = true := by decide +kernel
theorem lives2 : accM (wildM livesE) [97, 120, 98, 121, 121] = true := by decide +kernel
theorem lives3 : aliveM (wildM livesE) [97] = true := by decide +kernel
theorem lives4 : accM (wildM livesE) [97, 98] = false := by decide +kernel
theorem lives5 : aliveM (wildM livesE) [98] = false := by decide +kernel
set_option maxRecDepth 100000 in
theorem lives_any (w : World) (eP : Value) (hP : w.cell? ⟨2, 0, none⟩ = some eP) :
    Calls Tryd.prog 13 #[] w fun e w' => e = .returned (.bool true) ∧ Below w.heap.size w w' := by
  have C0 := wild_any w ⟨#[97, 63, 98, 42]⟩ (by decide) eP hP
  go_enter Tryd.func13, Tryd.ntmps13
  go_wp2_with fail
  refine C0.mono ?_
  rintro e w1 ⟨h1, _⟩
  obtain ⟨p, rfl, _, ha1, hb1⟩ := h1 livesE rfl
  have C1 := accepts_any w1 p _ ha1 ⟨#[97, 120, 98]⟩ (by decide)
  rw [show accM (wildM livesE) (⟨#[97, 120, 98]⟩ : ByteArray).data.toList = true from lives1] at C1
  have HA1 := Lib.hid ha1
  have HB1 := Lib.hid hb1
  clear C0 h1 ha1 hb1
  go_wp2_with fail
  refine C1.mono ?_
  rintro e w2 ⟨rfl, hb2⟩
  have ha2 := HA1.out.below hb2
  have C2 := accepts_any w2 p _ ha2 ⟨#[97, 120, 98, 121, 121]⟩ (by decide)
  rw [show accM (wildM livesE) (⟨#[97, 120, 98, 121, 121]⟩ : ByteArray).data.toList = true from lives2] at C2
  have HA2 := Lib.hid ha2
  have HB2 := Lib.hid (HB1.out.trans (hb2.mono HB1.out.size))
  clear C1 ha2 hb2
  go_wp2_with fail
  refine C2.mono ?_
  rintro e w3 ⟨rfl, hb3⟩
  have ha3 := HA2.out.below hb3
  have C3 := alive_any w3 p _ ha3 ⟨#[97]⟩ (by decide)
  rw [show aliveM (wildM livesE) (⟨#[97]⟩ : ByteArray).data.toList = true from lives3] at C3
  have HA3 := Lib.hid ha3
  have HB3 := Lib.hid (HB2.out.trans (hb3.mono HB2.out.size))
  clear C2 ha3 hb3
  go_wp2_with fail
  refine C3.mono ?_
  rintro e w4 ⟨rfl, hb4⟩
  have ha4 := HA3.out.below hb4
  have C4 := accepts_any w4 p _ ha4 ⟨#[97, 98]⟩ (by decide)
  rw [show accM (wildM livesE) (⟨#[97, 98]⟩ : ByteArray).data.toList = false from lives4] at C4
  have HA4 := Lib.hid ha4
  have HB4 := Lib.hid (HB3.out.trans (hb4.mono HB3.out.size))
  clear C3 ha4 hb4
  go_wp2_with fail
  refine C4.mono ?_
  rintro e w5 ⟨rfl, hb5⟩
  have ha5 := HA4.out.below hb5
  have C5 := alive_any w5 p _ ha5 ⟨#[98]⟩ (by decide)
  rw [show aliveM (wildM livesE) (⟨#[98]⟩ : ByteArray).data.toList = false from lives5] at C5
  have HB5 := Lib.hid (HB4.out.trans (hb5.mono HB4.out.size))
  clear C4 ha5 hb5
  go_wp2_with fail
  refine C5.mono ?_
  rintro e w6 ⟨rfl, hb6⟩
  have HB6 := Lib.hid (HB5.out.trans (hb6.mono HB5.out.size))
  clear C5 hb6
  go_wp2
  go_ret
  exact ⟨rfl, HB6.out⟩
end Go.Proofs.YtejmjjgbbojfbaaDoor

/- The machine of a word and edits: what it computes, and the walks of its methods. -/
namespace Go.Proofs.YtejmjjgbbojfbaaDoor
set_option linter.unusedVariables false
open Go.ChangeShapes Go.WideShapes Go.ChangeAt Go.RowKit

def natB (l : List Nat) : List UInt8 := l.map UInt8.ofNat
theorem natB_length (l : List Nat) : (natB l).length = l.length := by simp [natB]
def strN (l : List Nat) : ByteArray := strOf (natB l)
def natsOf (d : ByteArray) : List Nat := d.data.toList.map UInt8.toNat
theorem natsOf_strN {l : List Nat} (h : ∀ x ∈ l, x < 256) : natsOf (strN l) = l := by
  unfold natsOf strN strOf natB
  rw [List.toList_toArray, List.map_map]
  conv => rhs; rw [← List.map_id l]
  exact List.map_congr_left fun x hx => by have := h x hx; simp; omega
/-- The row's value i behind one more letter. -/
def fz (w : List UInt8) (m : Nat) (D : List Nat) (b : UInt8) : Nat → Nat
  | 0 => min (D.getD 0 0 + 1) (m + 1)
  | i + 1 => min (min (D.getD i 0 + if w.getD i 0 = b then 0 else 1) (D.getD (i + 1) 0 + 1)) (min (fz w m D b i + 1) (m + 1))
theorem fz_le (w : List UInt8) (m : Nat) (D : List Nat) (b : UInt8) (i : Nat) : fz w m D b i ≤ m + 1 := by
  cases i <;> (rw [fz]; omega)
def startF (w : List UInt8) (m : Nat) : List Nat := (List.range (w.length + 1)).map fun i => min i (m + 1)
def stepF (w : List UInt8) (m : Nat) (D : List Nat) (b : UInt8) : List Nat := (List.range (w.length + 1)).map (fz w m D b)
def fuzzM (w : List UInt8) (m : Nat) : Mach where
  start := strN (startF w m)
  step d b := if (stepF w m (natsOf d) b).any (fun x => decide (x ≤ m)) then strN (stepF w m (natsOf d) b) else ⟨#[]⟩
  acc d := decide ((natsOf d).getD w.length 0 ≤ m)
def setN (s : List Nat) : List Value := bytesV (natB s)
theorem setN_length (s : List Nat) : (setN s).length = s.length := by simp [setN, bytesV, natB]
theorem setN_get {s : List Nat} {i : Nat} (h : i < s.length) (hb : ∀ x ∈ s, x < 256) : (setN s)[i]? = some (.int .u8 (s.getD i 0 : Nat)) := by
  unfold setN bytesV natB
  rw [List.map_map, List.getElem?_map, List.getElem?_eq_getElem h, List.getD_eq_getElem?_getD, List.getElem?_eq_getElem h]
  have := hb s[i] (List.getElem_mem h)
  simp; omega
theorem setN_set (s : List Nat) (i x : Nat) (h : x < 256) : (setN s).set i (.int .u8 (x : Nat)) = setN (s.set i x) := by
  unfold setN bytesV natB
  rw [List.map_map, List.map_map, List.map_set]
  congr 1
  simp; omega
theorem madeN (n : Nat) : madeCells #[.int .u8 0] n = (setN (List.replicate n 0)).toArray := by
  refine Array.ext (by rw [size_madeCells]; simp [setN_length]) fun i h1 h2 => ?_
  simp [madeCells, setN, bytesV, natB, Nat.mod_one]
/-- The row when the values up to i are there. -/
def rowI (f : Nat → Nat) (n i : Nat) : List Nat := (List.range n).map fun j => if j < i then f j else 0
theorem rowI_length (f : Nat → Nat) (n i : Nat) : (rowI f n i).length = n := by simp [rowI]
theorem rowI_zero (f : Nat → Nat) (n : Nat) : rowI f n 0 = List.replicate n 0 := by
  unfold rowI
  apply List.ext_getElem (by simp)
  intro i h1 h2; simp
theorem rowI_set (f : Nat → Nat) (n i : Nat) (h : i < n) : (rowI f n i).set i (f i) = rowI f n (i + 1) := by
  unfold rowI
  apply List.ext_getElem (by simp)
  intro j h1 h2
  rw [List.getElem_set]
  by_cases e : i = j
  · subst e; simp
  · rw [if_neg e]
    simp only [List.getElem_map, List.getElem_range]
    by_cases h3 : j < i
    · rw [if_pos h3, if_pos (by omega)]
    · rw [if_neg h3, if_neg (by omega)]
theorem rowI_all (f : Nat → Nat) (n : Nat) : rowI f n n = (List.range n).map f := by
  unfold rowI
  exact List.map_congr_left fun j hj => by rw [if_pos (List.mem_range.1 hj)]
theorem rowI_lt {f : Nat → Nat} {n i m : Nat} (hf : ∀ j, f j ≤ m) (hm : m < 256) : ∀ x ∈ rowI f n i, x < 256 := fun x hx => by
  obtain ⟨j, _, rfl⟩ := List.mem_map.1 hx
  have := hf j
  split <;> omega
theorem rowI_get (f : Nat → Nat) (n i j : Nat) (h : j < n) : (rowI f n i).getD j 0 = if j < i then f j else 0 := by
  unfold rowI
  rw [List.getD_eq_getElem?_getD, List.getElem?_map, List.getElem?_range h]; rfl

set_option maxRecDepth 100000 in
set_option maxHeartbeats 1000000 in
theorem fstart_any (w : World) (s : ByteArray) (m : Nat) (hs : s.size ≤ 1000000000) (hm : m ≤ 2) :
    Calls Tryd.prog 112 #[.agg #[.string s, .int .u8 (m : Nat)]] w fun e w' => e = .returned (.string (strN (startF s.data.toList m))) ∧ Below w.heap.size w w' := by
  have hsl : s.size = s.data.toList.length := (Array.length_toList (xs := s.data)).symm
  obtain ⟨N, hN⟩ : ∃ N, N = s.size + 1 := ⟨_, rfl⟩
  have HN := Lib.hid hN
  have HSL := Lib.hid hsl
  have q1 : (s.size : Int) + 1 = (N : Int) := by omega
  have q2 : (N : Int) ≤ 1000000001 := by omega
  have q3 : N ≤ 1000000000000 := by omega
  clear hN hsl
  obtain ⟨ob, hob⟩ : ∃ ob, ob = Obj.cells #[.string s, .int .u8 (m : Nat)] 79 := ⟨_, rfl⟩
  obtain ⟨om, hom⟩ : ∃ om, om = Obj.cells (madeCells #[.int .u8 0] N) 5 := ⟨_, rfl⟩
  have hb1 : Below w.heap.size w ((w.alloc ob).alloc om) := ((Below.refl _ _).alloc (Nat.le_refl _) _).alloc (by simp) _
  have hs1 : (w.alloc ob).heap.size = w.heap.size + 1 := by simp
  have hs2 : ((w.alloc ob).alloc om).heap.size = w.heap.size + 2 := by simp
  have ho : Own ((w.alloc ob).alloc om) (w.heap.size + 1) 5 (.slice (some ⟨w.heap.size + 1, 0, none⟩) N N) (setN (rowI (fun i => min i (m + 1)) N 0)) := by
    have h := own_lit (w.alloc ob) (w.heap.size + 1) 5 (setN (List.replicate N 0)) (by rw [hs1]; exact Nat.le_refl _) (by rw [setN_length]; simp [maxLen]; omega)
    rw [← madeN, ← hom, hs1, setN_length, List.length_replicate] at h
    rw [rowI_zero]; exact h
  have hbx : ((w.alloc ob).alloc om).heap[w.heap.size]? = some (.cells #[.string s, .int .u8 (m : Nat)] 79) := by
    have h := (Below.heap_alloc (w.alloc ob) om w.heap.size (by rw [hs1]; omega)).trans (heap_alloc_new w ob)
    exact h.trans (congrArg some hob)
  obtain ⟨w1, hw1⟩ : ∃ w1, w1 = (w.alloc ob).alloc om := ⟨_, rfl⟩
  rw [← hw1] at hb1 hs2 ho hbx
  have HOB := Lib.hid hob
  have HOM := Lib.hid hom
  have HB1 := Lib.hid hb1
  have HO := Lib.hid ho
  have HBX := Lib.hid hbx
  have HW1 := Lib.hid hw1
  have HS2 := Lib.hid hs2
  have hmk := fun (w : World) => make_row elBytes rfl N q3 (N : Int) rfl w
  clear hb1 ho hbx hs1 hs2
  go_enter Tryd.func112, Tryd.ntmps112
  go_wp2
  rw [← HOB.out, ← HOM.out, ← HW1.out]
  go_loopw [12] (fun s12 wr => ∃ i : Nat, s12 = .int .i64 i ∧ i ≤ N ∧ Own wr (w.heap.size + 1) 5 (.slice (some ⟨w.heap.size + 1, 0, none⟩) N N) (setN (rowI (fun i => min i (m + 1)) N i)) ∧ Eff (· = w.heap.size + 1) w1 wr) (fun s12 _ => N - (intOf s12).toNat)
  case atStart => exact ⟨0, rfl, Nat.zero_le _, HO.out, Eff.refl _ _⟩
  case round =>
    clear HO
    obtain ⟨i, rfl, hi, hown, heff⟩ := hrel
    by_cases hlt : i < N
    · have hbxi : wr.heap[w.heap.size]? = some (.cells #[.string s, .int .u8 (m : Nat)] 79) := (heff.block _ (by rw [HS2.out]; omega) (fun h => by have h : w.heap.size = w.heap.size + 1 := h; omega)).trans HBX.out
      have c1 : wr.cell? ⟨w.heap.size, 1, none⟩ = some (.int .u8 (m : Nat)) := blk_cell hbxi 1
      have hlt256 : ∀ x ∈ rowI (fun i => min i (m + 1)) N i, x < 256 := rowI_lt (m := m + 1) (fun j => Nat.min_le_right _ _) (by omega)
      have hget := hown.get (setN_get (by rw [rowI_length]; exact hlt) hlt256)
      have hfz := hown.frozen i
      have hset := hown.set i (.int .u8 ((min i (m + 1) : Nat) : Int))
      rw [setN_set _ _ _ (by omega), show (rowI (fun i => min i (m + 1)) N i).set i (min i (m + 1)) = rowI (fun i => min i (m + 1)) N (i + 1) from rowI_set (fun i => min i (m + 1)) N i hlt] at hset
      have heff2 := heff.setCell (p := ⟨w.heap.size + 1, i, none⟩) (fun _ => rfl) (.int .u8 ((min i (m + 1) : Nat) : Int))
      have hcast : ((min i (m + 1) : Nat) : Int) = min (i : Int) ((m : Int) + 1) := by omega
      rw [hcast] at hset heff2
      have HSET := Lib.hid hset
      have HE2 := Lib.hid heff2
      clear hown heff hbxi hlt256 hset heff2 hcast
      go_wp2
      go_roundw
      case rel => exact ⟨i + 1, by go_num, by omega, HSET.out, HE2.out⟩
      case measure => simp [intOf]; omega
    · obtain rfl : i = N := by omega
      rw [rowI_all] at hown
      have r4 := run_str (P := Tryd.prog) Tryd.underlying26 Tryd.underlying5 Tryd.underlying9 hown.rd
      have hb2 := HB1.out.trans (heff.below (B := w.heap.size) (fun k hk => by subst hk; omega) (by rw [HS2.out]; omega))
      have HB2 := Lib.hid hb2
      have hfin : (List.range i).map (fun j => min j (m + 1)) = startF s.data.toList m := by unfold startF; rw [← HSL.out, ← HN.out]
      have HF := Lib.hid hfin
      clear hown heff hb2 hfin
      go_wp2
      go_ret
      exact ⟨by rw [← HF.out]; rfl, HB2.out⟩
theorem strN_ix {d : ByteArray} {D : List Nat} (hd : d = strN D) (hb : ∀ x ∈ D, x < 256) (i : Nat) (h : i < d.size) : ((d[i]'h).toNat : Int) = (D.getD i 0 : Nat) := by
  have e : d.data.toList = natB D := by rw [hd]; unfold strN strOf; rw [List.toList_toArray]
  have hs : d.size = D.length := by rw [hd, strN, strOf_size, natB_length]
  have e2 : d[i]'h = d.data.toList[i]'(by rw [e, natB_length]; omega) := rfl
  have e3 : (d.data.toList)[i]? = some (UInt8.ofNat (D.getD i 0)) := by
    rw [e]; unfold natB; rw [List.getElem?_map, List.getElem?_eq_getElem (by omega), List.getD_eq_getElem?_getD, List.getElem?_eq_getElem (by omega)]; rfl
  obtain ⟨_, e6⟩ := List.getElem?_eq_some_iff.1 e3
  have h256 : D.getD i 0 < 256 := by
    rw [List.getD_eq_getElem?_getD, List.getElem?_eq_getElem (by omega)]
    exact hb _ (List.getElem_mem _)
  rw [e2, e6, u8_ofNat]
  omega
set_option maxRecDepth 100000 in
theorem facc_any (w : World) (s : ByteArray) (m : Nat) (hs : s.size ≤ 1000000000) (hm : m ≤ 2) (d : ByteArray) (D : List Nat) (hd : d = strN D) (hD : D.length = s.size + 1) (hb : ∀ x ∈ D, x ≤ m + 1) :
    Calls Tryd.prog 111 #[.agg #[.string s, .int .u8 (m : Nat)], .string d] w fun e w' => e = .returned (.bool (decide (D.getD s.size 0 ≤ m))) ∧ Below w.heap.size w w' := by
  have hsz : d.size = s.size + 1 := by rw [hd, strN, strOf_size, natB_length, hD]
  have hlt : s.size < d.size := by omega
  have hix := strN_ix hd (fun x hx => by have := hb x hx; omega) s.size hlt
  obtain ⟨v, hv⟩ : ∃ v, D.getD s.size 0 = v := ⟨_, rfl⟩
  rw [hv] at hix ⊢
  have HB := Lib.hid (fun o => (Below.refl w.heap.size w).alloc (Nat.le_refl _) o)
  clear hd hD hsz hv hb
  by_cases hvm : v ≤ m
  · go_enter Tryd.func111, Tryd.ntmps111
    go_wp2
    go_quiet (fail)
    go_wp2
    go_ret
    exact ⟨by rw [decide_eq_true hvm]; rfl, below_drewN (HB.out _) _⟩
  · go_enter Tryd.func111, Tryd.ntmps111
    go_wp2
    go_quiet (fail)
    go_wp2
    go_ret
    exact ⟨by rw [decide_eq_false hvm]; rfl, below_drewN (HB.out _) _⟩
end Go.Proofs.YtejmjjgbbojfbaaDoor

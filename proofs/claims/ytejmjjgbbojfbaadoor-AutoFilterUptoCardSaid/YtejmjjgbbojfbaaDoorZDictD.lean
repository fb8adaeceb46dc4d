/- dict: the entries of an image read. -/
import Derived.Test.YtejmjjgbbojfbaaDoorZDictC
namespace Go.Proofs.YtejmjjgbbojfbaaDoor
set_option linter.unusedVariables false
open Go.ChangeShapes Go.WideShapes Go.ChangeAt Go.RowKit

set_option maxRecDepth 100000 in
theorem rdone_no (w : World) (base p : Nat) (v : Value) (bs : List UInt8) (k : Nat) (h : Rdr w base p v bs k) (hk : k < bs.length) (x : Value) (hx : w.cell? ⟨7, 0, none⟩ = some x) :
    Calls Tryd.prog 87 #[.pointer (some ⟨p, 0, none⟩)] w fun e w' => e = .returned x ∧ ∃ d, w' = w.drewN d := by
  have hc := h.c0
  have hd := h.c1
  have hs := h.sm
  have t1 : decide (k < bs.length) = true := decide_eq_true hk
  clear hk
  go_enter Tryd.func87, Tryd.ntmps87
  go_wp2
  go_quiet (fail)
  go_wp2
  go_ret
  exact ⟨rfl, _, rfl⟩
theorem elInt : Elem Tryd.prog 52 3 (.int .i64 0) 8 := ⟨Tryd.underlying52, by kernel_rfl, rfl, by decide⟩
/-- Numbers as cells. -/
def dnatsV (l : List Nat) : List Value := l.map fun (x : Nat) => Value.int .i64 ((x : Nat) : Int)
theorem dnatsV_snoc (l : List Nat) (x : Nat) : dnatsV (l ++ [x]) = dnatsV l ++ [.int .i64 (x : Nat)] := by simp [dnatsV]
theorem dnatsV_length (l : List Nat) : (dnatsV l).length = l.length := by simp [dnatsV]
theorem dnatsV_get (l : List Nat) (j : Nat) (h : j < l.length) : (dnatsV l)[j]? = some (.int .i64 (l[j] : Nat)) := by simp [dnatsV, h]

/-! ### What is still to be read -/
def restF (n : Nat) (zs : List Nat) (L : List UInt8) : Option (List EntV) := (blksP zs n none L).bind fun x => if x.2 = [] then some x.1 else none
theorem parse_restF (L : List UInt8) : parseP L = (numP L.length L).bind fun y => (sizesP ((y.1 + 15) / 16) y.2).bind fun z => restF y.1 z.1 z.2 := rfl
theorem sizes_step {n m : Nat} {zs : List Nat} {L : List UInt8} : ((sizesP (m + 1) L).bind fun z => restF n (zs ++ z.1) z.2) = (numP L.length L).bind fun y => (sizesP m y.2).bind fun z => restF n ((zs ++ [y.1]) ++ z.1) z.2 := by
  rw [show sizesP (m + 1) L = (numP L.length L).bind fun y => (sizesP m y.2).map fun z => (y.1 :: z.1, z.2) from rfl]
  cases numP L.length L with
  | none => rfl
  | some y =>
    simp only [Option.bind_some]
    cases sizesP m y.2 with
    | none => rfl
    | some z => simp only [Option.map_some, Option.bind_some, List.append_assoc, List.singleton_append]
/-- Behind the entries l. -/
def restG (l : List EntV) (x : List EntV × List UInt8) : Option (List EntV) := if x.2 = [] then some (l ++ x.1) else none
/-- Behind the entries l and those of the block, l2. -/
def restH (zs : List Nat) (n z len : Nat) (l l2 : List EntV) (R : List UInt8) : Option (List EntV) :=
  if R.length + z = len then (blksP zs n (lastK none (l ++ l2)) R).bind (restG (l ++ l2)) else none
theorem lastK_app (prev : Option (List UInt8)) (l m : List EntV) : lastK (lastK prev l) m = lastK prev (l ++ m) := by
  unfold lastK
  cases hm : m.getLast? with
  | none =>
    have : m = [] := List.getLast?_eq_none_iff.1 hm
    subst this; simp
  | some e =>
    rw [List.getLast?_append, hm]; rfl
theorem lastK_snoc (prev : Option (List UInt8)) (l : List EntV) (e : EntV) : lastK prev (l ++ [e]) = some e.K := by
  unfold lastK; rw [List.getLast?_append]; rfl
theorem blocks_step {z n : Nat} {zs : List Nat} {l : List EntV} {L : List UInt8} (hz : z ≤ L.length) : ((blksP (z :: zs) n (lastK none l) L).bind (restG l)) =
    (blkP (min 16 n) true (lastK none l) [] L).bind fun y => restH zs (n - min 16 n) z L.length l y.1 y.2 := by
  unfold blksP
  rw [if_pos hz]
  cases blkP (min 16 n) true (lastK none l) [] L with
  | none => rfl
  | some y =>
    simp only [Option.bind_some]
    unfold restH
    split
    · rw [lastK_app]
      cases blksP zs (n - min 16 n) (lastK none (l ++ y.1)) y.2 with
      | none => rfl
      | some x => simp only [Option.map_some, Option.bind_some, restG, List.append_assoc]
    · rfl
theorem blocks_no {z n : Nat} {zs : List Nat} {l : List EntV} {L : List UInt8} (hz : ¬ z ≤ L.length) : ((blksP (z :: zs) n (lastK none l) L).bind (restG l)) = none := by
  unfold blksP; rw [if_neg hz]; rfl
theorem block_step {m : Nat} {first : Bool} {l l2 : List EntV} {last L : List UInt8} {zs : List Nat} {n z len : Nat} :
    ((blkP (m + 1) first (lastK none (l ++ l2)) last L).bind fun y => restH zs n z len l (l2 ++ y.1) y.2) =
    (entP last first L).bind fun y => if above (lastK none (l ++ l2)) y.1.K = true then (blkP m false (lastK none (l ++ (l2 ++ [y.1]))) y.1.K y.2).bind fun x => restH zs n z len l ((l2 ++ [y.1]) ++ x.1) x.2 else none := by
  rw [show blkP (m + 1) first (lastK none (l ++ l2)) last L = (entP last first L).bind fun y => if above (lastK none (l ++ l2)) y.1.K = true then (blkP m false (some y.1.K) y.1.K y.2).map fun z => (y.1 :: z.1, z.2) else none from rfl]
  cases entP last first L with
  | none => rfl
  | some y =>
    simp only [Option.bind_some]
    split
    · rw [← List.append_assoc, lastK_snoc]
      cases blkP m false (some y.1.K) y.1.K y.2 with
      | none => rfl
      | some x => simp only [Option.map_some, Option.bind_some, List.append_assoc, List.singleton_append]
    · rfl

theorem bl_gt : ∀ a b : List UInt8, (!(Go.Op.bytesLess a b || a == b)) = Go.Op.bytesLess b a
  | [], [] => rfl
  | [], b :: bs => rfl
  | a :: xs, [] => rfl
  | a :: xs, b :: ys => by
    have ih := bl_gt xs ys
    unfold Go.Op.bytesLess
    by_cases h : a < b
    · have h2 : ¬ b < a := fun k => by have h1 := UInt8.lt_iff_toNat_lt.1 h; have h2 := UInt8.lt_iff_toNat_lt.1 k; omega
      have h3 : ¬ b = a := fun e => by subst e; exact h2 h
      simp [h, h2, h3]
    · by_cases h2 : b < a
      · have h3 : ¬ a = b := fun e => by subst e; exact h h2
        simp [h, h2, h3]
      · have h3 : a = b := UInt8.toNat_inj.1 (by have k1 : ¬ a.toNat < b.toNat := fun k => h (UInt8.lt_iff_toNat_lt.2 k); have k2 : ¬ b.toNat < a.toNat := fun k => h2 (UInt8.lt_iff_toNat_lt.2 k); omega)
        subst h3
        simp [h]
        simpa using ih
theorem ba_list (s : ByteArray) : s.toList = s.data.toList := by
  obtain ⟨⟨l⟩⟩ := s
  exact ByteArray.toList_mk l
theorem lastK_get (l : List EntV) (i : Nat) (h : i < l.length) (hi : i + 1 = l.length) : lastK none l = some (l[i]).K := by
  unfold lastK
  rw [List.getLast?_eq_getElem?, show l.length - 1 = i by omega, List.getElem?_eq_getElem h]

/-- What entriesOf answers and leaves. -/
def EntsPost (w : World) (p : Nat) (EA : Nat → Addr) (res : Option (List EntV)) (e : Ending) (w' : World) : Prop :=
  (∀ l, res = some l → ∃ v', e = .returned v' ∧ RowE w' w.heap.size v' l ∧ Eff (· = p) w w') ∧ (res = none → e = gaveUp EA ∧ Eff (· = p) w w')
theorem EntsPost.ok {w : World} {p : Nat} {EA : Nat → Addr} {res : Option (List EntV)} {e : Ending} {w' : World} {l : List EntV} {v' : Value}
    (hr : res = some l) (he : e = .returned v') (h1 : RowE w' w.heap.size v' l) (h2 : Eff (· = p) w w') : EntsPost w p EA res e w' :=
  ⟨fun m hm => by rw [hr] at hm; injection hm with hm; subst hm; exact ⟨v', he, h1, h2⟩, fun hn => by rw [hr] at hn; cases hn⟩
theorem EntsPost.no {w : World} {p : Nat} {EA : Nat → Addr} {res : Option (List EntV)} {e : Ending} {w' : World}
    (hr : res = none) (he : e = gaveUp EA) (h2 : Eff (· = p) w w') : EntsPost w p EA res e w' :=
  ⟨fun m hm => (by rw [hr] at hm; cases hm), fun _ => ⟨he, h2⟩⟩

set_option maxRecDepth 100000 in
set_option maxHeartbeats 4000000 in
theorem entriesOf_any (w : World) (base p : Nat) (v : Value) (bs : List UInt8) (k : Nat) (h : Rdr w base p v bs k) (EA : Nat → Addr) (hE : DErr w EA) (hG : DLow base) (hbase : base ≤ w.heap.size) :
    Calls Tryd.prog 74 #[.pointer (some ⟨p, 0, none⟩)] w (EntsPost w p EA (parseP (bs.drop k))) := by
  have hp := h.hp
  have hplt := lt_of_heap h.blk
  have hle := h.le
  have hsm := h.sm
  have hres0 := parse_restF (bs.drop k)
  have hdl : ((bs.drop k).length : Int) = (bs.length : Int) - (k : Int) := by rw [List.length_drop]; omega
  rw [hdl] at hres0
  obtain ⟨RES, hRES⟩ : ∃ RES, parseP (bs.drop k) = RES := ⟨_, rfl⟩
  rw [hRES] at hres0 ⊢
  have HRES := Lib.hid hres0
  have C1 := rleft_any w base p v bs k h
  have HR := Lib.hid h
  have HE := Lib.hid hE
  have HG := Lib.hid hG
  clear hRES hres0 hdl h hE hG
  go_enter Tryd.func74, Tryd.ntmps74
  go_wp2_with fail
  refine C1.mono ?_
  rintro e w1 ⟨rfl, d1, rfl⟩
  clear C1
  have C2 := dnumber_any (w.drewN d1) base p v bs k (HR.out.drewN d1) EA (HE.out.drewN d1) HG.out ((bs.length : Int) - (k : Int)) (by omega) (by omega)
  go_wp2_with fail
  refine C2.mono ?_
  rintro e w2 ⟨hyes, hno⟩
  clear C2
  cases hres : numP ((bs.length : Int) - (k : Int)) (bs.drop k) with
  | none =>
    obtain ⟨rfl, he2⟩ := hno hres
    have HN := Lib.hid (show RES = none by rw [HRES.out, hres]; rfl)
    have HE2 := Lib.hid (((Eff.refl (fun k => k = p) w).drewN d1).trans he2 (fun i hi _ => hi))
    clear hyes hno hres he2
    unfold gaveUp
    go_wp2
    exact ⟨rfl, EntsPost.no HN.out rfl HE2.out⟩
  | some y =>
    obtain ⟨n, R⟩ := y
    obtain ⟨k2, rfl, rfl, hr2, he2⟩ := hyes n R hres
    have hn9 : (n : Int) ≤ (bs.length : Int) - (k : Int) := (numP_form hres).2.2
    have he02 := ((Eff.refl (fun k => k = p) w).drewN d1).trans he2 (fun i hi _ => hi)
    have hrs : RES = (sizesP ((n + 15) / 16) (bs.drop k2)).bind fun z => restF n ([] ++ z.1) z.2 := by rw [HRES.out, hres]; rfl
    have HRS := Lib.hid hrs
    have HE2 := Lib.hid he02
    have HR2 := Lib.hid hr2
    clear hyes hno hres he2 hrs he02 hr2
    go_wp2
    go_loopw [4, 5] (fun s4 s5 wr => ∃ (zs : List Nat) (A : Option Addr) (C k' : Nat), s4 = .slice A zs.length C ∧ s5 = .int .i64 (16 * zs.length : Nat) ∧ Own wr w.heap.size 3 (.slice A zs.length C) (dnatsV zs) ∧ zs.length ≤ (n + 15) / 16 ∧ (∀ z ∈ zs, z ≤ 1000000000) ∧ Rdr wr base p v bs k' ∧ Eff (fun k => k = p) w wr ∧ RES = (sizesP ((n + 15) / 16 - zs.length) (bs.drop k')).bind fun z => restF n (zs ++ z.1) z.2) (fun _ s5 _ => n - (intOf s5).toNat)
    case atStart => exact ⟨[], none, 0, k2, rfl, rfl, own_nil _ _ _, Nat.zero_le _, fun z hz => (by cases hz), HR2.out, HE2.out, HRS.out⟩
    case round =>
      clear HRS HE2 HR2
      obtain ⟨zs, A, C, k', rfl, rfl, hown, hzm, hz9, hr, he, hrs⟩ := hrel
      have hle' := hr.le
      have hz1 := he.size
      by_cases hlt : 16 * zs.length < n
      · have C3 := rleft_any wr base p v bs k' hr
        have hE3 := HE.out.eff he HG.out (fun k hk => by subst hk; exact hp)
        have hrs' : RES = (numP ((bs.length : Int) - (k' : Int)) (bs.drop k')).bind fun y => (sizesP ((n + 15) / 16 - (zs.length + 1)) y.2).bind fun z => restF n ((zs ++ [y.1]) ++ z.1) z.2 := by
          rw [hrs, show (n + 15) / 16 - zs.length = ((n + 15) / 16 - (zs.length + 1)) + 1 by omega, sizes_step]
          rw [show ((bs.drop k').length : Int) = (bs.length : Int) - (k' : Int) by rw [List.length_drop]; omega]
        have tl : (((16 * zs.length : Nat) : Int) < (n : Int)) := by omega
        have HRS3 := Lib.hid hrs'
        have HE3 := Lib.hid hE3
        have HER := Lib.hid he
        have HR3 := Lib.hid hr
        have HO3 := Lib.hid hown
        have HZ9 := Lib.hid hz9
        clear hrs hrs' hE3 he hr hown hz9
        go_wp2_with fail
        refine C3.mono ?_
        rintro e w3 ⟨rfl, d3, rfl⟩
        clear C3
        have C4 := dnumber_any (wr.drewN d3) base p v bs k' (HR3.out.drewN d3) EA (HE3.out.drewN d3) HG.out ((bs.length : Int) - (k' : Int)) (by omega) (by omega)
        go_wp2_with fail
        refine C4.mono ?_
        rintro e w4 ⟨hyes, hno⟩
        clear C4
        cases hres : numP ((bs.length : Int) - (k' : Int)) (bs.drop k') with
        | none =>
          obtain ⟨rfl, he4⟩ := hno hres
          have HN := Lib.hid (show RES = none by rw [HRS3.out, hres]; rfl)
          have HE4 := Lib.hid ((HER.out.drewN d3).trans he4 (fun i hi _ => hi))
          clear hyes hno hres he4
          unfold gaveUp
          go_wp2
          exact ⟨rfl, EntsPost.no HN.out rfl HE4.out⟩
        | some y =>
          obtain ⟨u, R⟩ := y
          obtain ⟨k4, rfl, rfl, hr4, he4⟩ := hyes u R hres
          have hu9 : (u : Int) ≤ (bs.length : Int) - (k' : Int) := (numP_form hres).2.2
          have hrs4 : RES = (sizesP ((n + 15) / 16 - (zs.length + 1)) (bs.drop k4)).bind fun z => restF n ((zs ++ [u]) ++ z.1) z.2 := by rw [HRS3.out, hres]; rfl
          have hown4 := (HO3.out.drewN d3).eff he4 (fun k hk hF => by subst hF; have := (HO3.out.lt k hk).1; omega)
          have he04 := (HER.out.drewN d3).trans he4 (fun i hi _ => hi)
          have hb4 : w.heap.size ≤ w4.heap.size := he04.size
          have hl4 : (dnatsV zs).length < 1000000000000 := by rw [dnatsV_length]; omega
          have HRS4 := Lib.hid hrs4
          have HE4 := Lib.hid he04
          have HR4 := Lib.hid hr4
          have HO4 := Lib.hid hown4
          have HL4 := Lib.hid hl4
          clear hyes hno hres he4 hrs4 hown4 he04 hr4 hl4 HO3 HRS3 HER HR3 HE3
          go_wp2_with (at_builtin; with_reducible refine ap1 elInt rfl HO4.out HL4.out hb4 rfl _ _ rfl rfl rfl ?_)
          intro v5 w5 ho5 hg5
          rw [← dnatsV_snoc] at ho5
          have he5 := HE4.out.grown hg5 (fun i hi hl => by have := (HO4.out.lt i hi).1; omega)
          have hr5 : Rdr w5 base p v bs k4 := HR4.out.eff (F := fun k => (Value.slice A zs.length C).ownBlock = some k) ((Eff.refl _ _).grown hg5 (fun i hi _ => hi)) (fun k hk hF => by
            rcases hk with rfl | hk
            · have := (HO4.out.lt _ hF).1; omega
            · exact own_types HR4.out.own HO4.out (by decide) hk hF)
          obtain ⟨A5, n5, C5, rfl⟩ := own_sl ho5
          have hn5 := ho5.len
          rw [dnatsV_length, List.length_append, List.length_singleton] at hn5
          subst hn5
          have HO5 := Lib.hid ho5
          have HE5 := Lib.hid he5
          have HR5 := Lib.hid hr5
          clear ho5 hg5 he5 hr5
          go_wp2
          go_roundw
          case rel => exact ⟨zs ++ [u], A5, C5, k4, by rw [List.length_append, List.length_singleton], by rw [List.length_append, List.length_singleton]; go_num, by rw [List.length_append, List.length_singleton]; exact HO5.out, by rw [List.length_append, List.length_singleton]; omega, fun z hz => by
            rcases List.mem_append.1 hz with hz | hz
            · exact HZ9.out z hz
            · rw [List.mem_singleton.1 hz]; omega, HR5.out, HE5.out, by rw [List.length_append, List.length_singleton]; exact HRS4.out⟩
          case measure => simp [intOf]; omega
      · have hzl : (n + 15) / 16 - zs.length = 0 := by omega
        have hrs' : RES = (blksP zs n (lastK none []) (bs.drop k')).bind (restG []) := by
          rw [hrs, hzl]
          rw [show sizesP 0 (bs.drop k') = some ([], bs.drop k') from rfl, Option.bind_some, List.append_nil]; rfl
        have tl : ¬ (((16 * zs.length : Nat) : Int) < (n : Int)) := by omega
        have HRS3 := Lib.hid hrs'
        have HER := Lib.hid he
        have HR3 := Lib.hid hr
        have HO3 := Lib.hid hown
        have HZ9 := Lib.hid hz9
        clear hrs hrs' he hr hown hz9 hzl
        go_wp2
        go_loopw [6, 35] (fun s6 s35 wr => ∃ (i N6 : Nat) (l : List EntV) (A6 : Option Addr) (C6 k' : Nat), s6 = .slice A6 N6 C6 ∧ s35 = .int .i64 i ∧ i ≤ zs.length ∧ N6 = l.length ∧ RowE wr w.heap.size (.slice A6 N6 C6) l ∧ l.length ≤ n ∧ Own wr w.heap.size 3 (.slice A zs.length C) (dnatsV zs) ∧ Rdr wr base p v bs k' ∧ Eff (fun k => k = p) w wr ∧ RES = (blksP (zs.drop i) (n - l.length) (lastK none l) (bs.drop k')).bind (restG l)) (fun _ s35 _ => zs.length - (intOf s35).toNat)
        case atStart => exact ⟨0, 0, [], none, 0, k', rfl, rfl, Nat.zero_le _, rfl, rowE_nil _ _, Nat.zero_le _, HO3.out, HR3.out, HER.out, HRS3.out⟩
        case round =>
          clear HRS3 HER HR3 HO3 hle' tl hz1 hlt
          obtain ⟨i, N6, l, A6, C6, k', rfl, rfl, hi, hN6, hrow, hln, hown, hr, he, hrs⟩ := hrel
          have hz1 := he.size
          have hle' := hr.le
          have hdl : (bs.drop k').length = bs.length - k' := List.length_drop
          by_cases hlt : i < zs.length
          · obtain ⟨g, rfl⟩ := hown.someAt (by omega)
            have hcz := hown.get (dnatsV_get zs i hlt)
            have hz9 := HZ9.out zs[i] (List.getElem_mem hlt)
            have hdz : zs.drop i = zs[i] :: zs.drop (i + 1) := List.drop_eq_getElem_cons hlt
            obtain ⟨z, hz⟩ : ∃ z, zs[i] = z := ⟨_, rfl⟩
            rw [hz] at hcz hz9 hdz
            rw [hdz] at hrs
            obtain ⟨M, hM⟩ : ∃ M, min 16 (n - l.length) = M := ⟨_, rfl⟩
            have C3 := rat_any wr base p v bs k' hr
            have C4 := rleft_any wr base p v bs k' hr
            have hE3 := HE.out.eff he HG.out (fun k hk => by subst hk; exact hp)
            have i1 : (i : Int) < (zs.length : Int) := by omega
            have HE3 := Lib.hid hE3
            have HRS3 := Lib.hid hrs
            have HER := Lib.hid he
            have HR3 := Lib.hid hr
            have HO3 := Lib.hid hown
            have HROW := Lib.hid hrow
            have HN6 := Lib.hid hN6
            have HDL := Lib.hid hdl
            have HM := Lib.hid hM
            clear hE3 hrs he hr hown hrow hN6 hdl hdz hz hM
            go_wp2_with fail
            refine C3.mono ?_
            rintro e w3 ⟨rfl, rfl⟩
            clear C3
            go_wp2_with fail
            refine C4.mono ?_
            rintro e w3 ⟨rfl, d3, rfl⟩
            clear C4
            by_cases hzf : (z : Int) ≤ (bs.length : Int) - (k' : Int)
            · have hstep : RES = (blkP M true (lastK none (l ++ [])) [] (bs.drop k')).bind fun y => restH (zs.drop (i + 1)) (n - l.length - M) z (bs.drop k').length l ([] ++ y.1) y.2 := by
                rw [HRS3.out, blocks_step (by rw [HDL.out]; omega), HM.out, List.append_nil]; rfl
              have C5 := sure_ok (wr.drewN d3)
              have HST := Lib.hid hstep
              clear hstep HRS3
              go_wp2_with fail
              refine C5.mono ?_
              rintro e w5 ⟨rfl, rfl⟩
              clear C5
              have hM16 : M ≤ 16 ∧ M ≤ n - l.length ∧ (M < 16 → M = n - l.length) := by have := HM.out; omega
              go_wp2
              obtain ⟨wo, rfl⟩ : ∃ wo : World, wo = wr := ⟨_, rfl⟩
              go_loopw [6, 10, 11] (fun s6 s10 s11 wq => ∃ (m N7 : Nat) (l2 : List EntV) (A7 : Option Addr) (C7 k'' : Nat) (last : ByteArray), s6 = .slice A7 N7 C7 ∧ s10 = .string last ∧ s11 = .int .i64 m ∧ m = l2.length ∧ N7 = l.length + m ∧ m ≤ M ∧ RowE wq w.heap.size (.slice A7 N7 C7) (l ++ l2) ∧ last.size ≤ 65 ∧ (m = 0 → last.data.toList = []) ∧ Own wq w.heap.size 3 (.slice (some ⟨g, 0, none⟩) zs.length C) (dnatsV zs) ∧ Rdr wq base p v bs k'' ∧ Eff (fun k => k = p) w wq ∧ RES = (blkP (M - m) (m == 0) (lastK none (l ++ l2)) last.data.toList (bs.drop k'')).bind fun y => restH (zs.drop (i + 1)) (n - l.length - M) z (bs.drop k').length l (l2 ++ y.1) y.2) (fun _ _ s11 _ => 16 - (intOf s11).toNat)
              case atStart => exact ⟨0, N6, [], A6, C6, k', ⟨#[]⟩, rfl, rfl, rfl, rfl, HN6.out, Nat.zero_le _, by rw [List.append_nil]; exact HROW.out.drewN d3, by decide, fun _ => rfl, HO3.out.drewN d3, HR3.out.drewN d3, HER.out.drewN d3, HST.out⟩
              case round =>
                clear HST HER HR3 HO3 HROW HE3 hcz
                obtain ⟨m, N7, l2, A7, C7', k'', last, rfl, rfl, rfl, hm, hN7, hmM, hrow, hlast, hl0, hown, hr, he, hrs⟩ := hrel
                have hz2 := he.size
                have hle2 := hr.le
                have hE3 := HE.out.eff he HG.out (fun k hk => by subst hk; exact hp)
                have HM2 := Lib.hid hm
                have HN7 := Lib.hid hN7
                have hN9 : N7 ≤ 1000000000 := by omega
                by_cases hlt2 : m < M
                · have t16 : (m : Int) < 16 := by omega
                  have tn : decide (N7 < n) = true := decide_eq_true (by omega)
                  obtain ⟨fst, hf⟩ : ∃ f, (m == 0) = f := ⟨_, rfl⟩
                  have t0 : (((m : Nat) : Int) == 0) = fst := by rw [← hf, Bool.eq_iff_iff]; simp
                  rw [hf, show M - m = (M - (m + 1)) + 1 by omega, block_step] at hrs
                  have hfl : fst = true → last.data.toList = [] := fun h => hl0 (by rw [← hf] at h; simpa using h)
                  have hll : last.data.toList.length ≤ 65 := by rw [show last.data.toList.length = last.size from Array.length_toList (xs := last.data)]; exact hlast
                  have C6 := entryOf_any wr base p v bs k'' hr EA hE3 HG.out (by omega) last hlast fst
                  have HRS6 := Lib.hid hrs
                  have HROW := Lib.hid hrow
                  have HO := Lib.hid hown
                  have HR := Lib.hid hr
                  have HEQ := Lib.hid he
                  have HDQ := Lib.hid hE3
                  have HFL := Lib.hid hfl
                  have HLL := Lib.hid hll
                  have T0 := Lib.hid t0
                  clear hf hfl hll hrs hrow hown hr he hE3 hm hN7 hl0 t0
                  go_upto_region 17 with fail
                  have t0 := T0.out
                  go_wp2_with fail
                  refine C6.mono ?_
                  rintro e w6 ⟨hyes, hno⟩
                  clear C6 t0
                  cases hres : entP last.data.toList fst (bs.drop k'') with
                  | none =>
                    obtain ⟨rfl, he6⟩ := hno hres
                    have HN := Lib.hid (show RES = none by rw [HRS6.out, hres]; rfl)
                    have HE6 := Lib.hid (HEQ.out.trans he6 (fun i hi _ => hi))
                    clear hyes hno hres he6
                    unfold gaveUp
                    go_wp2
                    exact ⟨rfl, EntsPost.no HN.out rfl HE6.out⟩
                  | some y =>
                    obtain ⟨⟨ek, ed, et, ea, es⟩, R⟩ := y
                    obtain ⟨k6, rfl, rfl, hr6, he6⟩ := hyes _ _ hres
                    have hok := (entP_form HFL.out HLL.out hres).2
                    have hek : ek.size ≤ 65 := by have := (entOk_len hok).2; exact (by rw [show ek.size = (EntV.K ⟨ek, ed, et, ea, es⟩).length from (Array.length_toList (xs := ek.data)).symm]; exact this)
                    have hrs6 : RES = if above (lastK none (l ++ l2)) (EntV.K ⟨ek, ed, et, ea, es⟩) = true then (blkP (M - (m + 1)) false (lastK none (l ++ (l2 ++ [⟨ek, ed, et, ea, es⟩]))) (EntV.K ⟨ek, ed, et, ea, es⟩) (bs.drop k6)).bind fun x => restH (zs.drop (i + 1)) (n - l.length - M) z (bs.drop k').length l ((l2 ++ [⟨ek, ed, et, ea, es⟩]) ++ x.1) x.2 else none := by rw [HRS6.out, hres]; rfl
                    have hrow6 : RowE w6 w.heap.size (.slice A7 N7 C7') (l ++ l2) := HROW.out.eff he6 (fun k hk hF => by subst hF; have := (HROW.out.lt k hk).1; omega)
                    have hown6 : Own w6 w.heap.size 3 (.slice (some ⟨g, 0, none⟩) zs.length C) (dnatsV zs) := HO.out.eff he6 (fun k hk hF => by subst hF; have := (HO.out.lt k hk).1; omega)
                    have hd6 := HDQ.out.eff he6 HG.out (fun k hk => by subst hk; exact hp)
                    have he06 := HEQ.out.trans he6 (fun i hi _ => hi)
                    have HRS7 := Lib.hid hrs6
                    have HROW6 := Lib.hid hrow6
                    have HO6 := Lib.hid hown6
                    have HR6 := Lib.hid hr6
                    have HE6 := Lib.hid he06
                    have HD6 := Lib.hid hd6
                    clear hyes hno hres hok hrs6 hrow6 hown6 hr6 he06 he6 hd6 HRS6 HROW HO HR HEQ HDQ
                    simp only [EntV.cells]
                    go_upto_region 18 with fail
                    by_cases hN0 : N7 = 0
                    · have hnil : l ++ l2 = [] := List.eq_nil_of_length_eq_zero (by rw [List.length_append, ← HM2.out, ← HN7.out]; exact hN0)
                      have hrs8 := HRS7.out
                      rw [if_pos (show above (lastK none (l ++ l2)) (EntV.K ⟨ek, ed, et, ea, es⟩) = true by rw [hnil]; rfl)] at hrs8
                      have HRS8 := Lib.hid hrs8
                      have tN : (((N7 : Nat) : Int) == 0) = true := by rw [beq_iff_eq]; omega
                      clear hnil hrs8 HRS7 hN0
                      go_quiet ((go_at_call 85; first | with_reducible exact quiet_left (sure_ok _) | with_reducible exact quiet_leftN (sure_ok _) | with_reducible exact quiet_leftNN (sure_ok _)))
                      clear tN
                      obtain ⟨a8, rfl⟩ : ∃ a8, a8 = nq := ⟨_, rfl⟩

                      obtain ⟨W8, hW8⟩ : ∃ W8, W8 = (w6.alloc (.cells #[.string ek, .int .i64 ed, .int .i64 et, .int .i64 ea, .int .i64 es] 116)).drewN a8 := ⟨_, rfl⟩
                      have hb8 : W8.heap[w6.heap.size]? = some (.cells #[.string ek, .int .i64 ed, .int .i64 et, .int .i64 ea, .int .i64 es] 116 (0, 0)) := by rw [hW8]; exact heap_alloc_new w6 _
                      have e68 : Eff (fun _ => False) w6 W8 := by rw [hW8]; exact ((Eff.refl _ _).alloc _).drewN a8
                      have hr8 : Rdr W8 base p v bs k6 := HR6.out.eff e68 (fun _ _ f => f)
                      have hrow8 : RowE W8 w.heap.size (.slice A7 N7 C7') (l ++ l2) := HROW6.out.eff e68 (fun _ _ f => f)
                      have hown8 : Own W8 w.heap.size 3 (.slice (some ⟨g, 0, none⟩) zs.length C) (dnatsV zs) := HO6.out.eff e68 (fun _ _ f => f)
                      have he8 : Eff (fun k => k = p) w W8 := HE6.out.trans e68 (fun _ f _ => f.elim)
                      have hz8 : w.heap.size ≤ W8.heap.size := he8.size
                      have d0 := blk_cell hb8 0
                      have d1 := blk_cell hb8 1
                      have d2 := blk_cell hb8 2
                      have d3' := blk_cell hb8 3
                      have d4 := blk_cell hb8 4
                      have hl8 : (l ++ l2).length ≤ 1000000000 := by rw [List.length_append, ← HM2.out, ← HN7.out]; exact hN9
                      rw [← hW8]
                      have HL8 := Lib.hid hl8
                      have HB8 := Lib.hid hb8
                      have HLT6 := Lib.hid HROW6.out.lt
                      have HR8 := Lib.hid hr8
                      have HROW8 := Lib.hid hrow8
                      have HO8 := Lib.hid hown8
                      have HE8 := Lib.hid he8
                      clear hb8 e68 hr8 hrow8 hown8 he8 hW8 hl8 HR6 HROW6 HO6 HE6
                      go_upto_region 19 with fail
                      go_wp2_with (at_builtin; with_reducible refine apE HROW8.out HL8.out hz8 rfl _ _ rfl rfl rfl ?_)
                      intro v9 w9 hrow9 hg9
                      have hrow8 := HROW8.out
                      have he89 : Eff (fun k => (Value.slice A7 N7 C7').ownBlock = some k) W8 w9 := (Eff.refl _ _).grown hg9 (fun i hi _ => hi)
                      have hr9 : Rdr w9 base p v bs k6 := HR8.out.eff he89 (fun k hk hF => by
                        rcases hk with rfl | hk
                        · have := (hrow8.lt _ hF).1; omega
                        · rcases hrow8.2 with ⟨hv, _⟩ | ⟨g', cap, cur, hv, _, hgg, _⟩
                          · rw [hv] at hF; simp [Value.ownBlock] at hF
                          · have : g' = k := by rw [hv] at hF; simpa [Value.ownBlock] using hF
                            subst this
                            exact HR8.out.own.ne_type hgg (by decide) hk)
                      have hown9 : Own w9 w.heap.size 3 (.slice (some ⟨g, 0, none⟩) zs.length C) (dnatsV zs) := HO8.out.eff he89 (fun k hk hF => by
                        rcases hrow8.2 with ⟨hv, _⟩ | ⟨g', cap, cur, hv, _, hgg, _⟩
                        · rw [hv] at hF; simp [Value.ownBlock] at hF
                        · have : g' = k := by rw [hv] at hF; simpa [Value.ownBlock] using hF
                          subst this
                          exact HO8.out.ne_type hgg (by decide) hk)
                      have he9 := HE8.out.trans he89 (fun i hi hlt => by have := (hrow8.lt i hi).1; omega)
                      have e9 : w9.cell? ⟨w6.heap.size, 0, none⟩ = some (.string ek) := by
                        exact blk_cell ((he89.block w6.heap.size (lt_of_heap HB8.out) (fun hF => by have := (HLT6.out _ hF).2; omega)).trans HB8.out) 0
                      obtain ⟨A9, C9, rfl⟩ := hrow9.sl
                      have hlen9 : (l ++ (l2 ++ [(⟨ek, ed, et, ea, es⟩ : EntV)])).length = N7 + 1 := by rw [List.length_append, List.length_append, List.length_singleton, ← Nat.add_assoc, ← HM2.out, ← HN7.out]
                      rw [hlen9] at hrow9
                      rw [hlen9]
                      have HROW9 := Lib.hid hrow9
                      have HR9 := Lib.hid hr9
                      have HO9 := Lib.hid hown9
                      have HE9 := Lib.hid he9
                      clear hrow9 hg9 he89 hr9 hown9 he9 hrow8 HROW8 HR8 HO8 HE8 hlen9
                      go_wp2
                      go_roundw
                      case rel => exact ⟨m + 1, N7 + 1, l2 ++ [⟨ek, ed, et, ea, es⟩], A9, C9, k6, ek, rfl, rfl, by go_num, by rw [List.length_append, List.length_singleton, ← HM2.out], by have := HN7.out; omega, by omega, HROW9.out, hek, fun h => by omega, HO9.out, HR9.out, HE9.out, by rw [show (m + 1 == 0) = false by simp]; exact HRS8.out⟩
                      case measure => simp [intOf]; omega
                    · obtain ⟨j, rfl⟩ : ∃ j, N7 = j + 1 := ⟨N7 - 1, by omega⟩
                      have hlj : j + 1 = (l ++ l2).length := by rw [List.length_append, ← HM2.out]; exact HN7.out
                      obtain ⟨g6, rfl, hg6, hg6l, hcap, hent⟩ := HROW6.out.head (by omega)
                      have hc := (hent j (by omega)).k
                      have hlk := lastK_get (l ++ l2) j (by omega) hlj
                      obtain ⟨lk, hlke⟩ : ∃ lk, ((l ++ l2)[j]'(by omega)).k = lk := ⟨_, rfl⟩
                      have hlk2 : lastK none (l ++ l2) = some lk.data.toList := by rw [hlk, ← hlke]; rfl
                      rw [hlke] at hc
                      have hc7 : (w6.alloc (.cells #[.string ek, .int .i64 ed, .int .i64 et, .int .i64 ea, .int .i64 es] 116)).cell? ⟨g6, j * 5, none⟩ = some (.string lk) := (World.cell?_of_block (a := ⟨g6, j * 5, none⟩) (Below.heap_alloc w6 _ g6 hg6l)).trans hc
                      have tN : (((j + 1 : Nat) : Int) == 0) = false := by rw [beq_eq_false_iff_ne]; omega
                      have tN2 : ((j : Int) + 1 == 0) = false := by rw [beq_eq_false_iff_ne]; omega
                      have tb := bl_gt ek.toList lk.toList
                      have q1 : IntKind.i64.wrap (((j + 1 : Nat) : Int) - 1) = (j : Int) := (IntWalk.i64_in _ (by omega)).trans (by omega)
                      have q2 : IntKind.i64.wrap ((j : Int) + 1 - 1) = (j : Int) := (IntWalk.i64_in _ (by omega)).trans (by omega)
                      have q3 : IntKind.i64.wrap (j : Int) = (j : Int) := IntWalk.i64_in _ (by omega)
                      have i6 : (j : Int) < (j : Int) + 1 := by omega
                      have HRS8 := Lib.hid (show RES = _ from HRS7.out)
                      by_cases hab : Go.Op.bytesLess lk.data.toList ek.data.toList = true
                      · have hrs8 := HRS8.out
                        rw [if_pos (show above (lastK none (l ++ l2)) (EntV.K ⟨ek, ed, et, ea, es⟩) = true by rw [hlk2]; exact hab)] at hrs8
                        have HRS8 := Lib.hid hrs8
                        have tB : (!(Go.Op.bytesLess ek.toList lk.toList || ek.toList == lk.toList)) = true := by rw [tb, ba_list, ba_list]; exact hab
                        clear hrs8 hlj hent hlk hlke hlk2 hc tb hab
                        go_quiet ((go_at_call 85; first | with_reducible exact quiet_left (sure_ok _) | with_reducible exact quiet_leftN (sure_ok _) | with_reducible exact quiet_leftNN (sure_ok _)))
                        clear tN tN2 tB q1 q2 q3 i6 hc7 hg6 hg6l hcap
                        obtain ⟨a8, rfl⟩ : ∃ a8, a8 = nq := ⟨_, rfl⟩

                        obtain ⟨W8, hW8⟩ : ∃ W8, W8 = (w6.alloc (.cells #[.string ek, .int .i64 ed, .int .i64 et, .int .i64 ea, .int .i64 es] 116)).drewN a8 := ⟨_, rfl⟩
                        have hb8 : W8.heap[w6.heap.size]? = some (.cells #[.string ek, .int .i64 ed, .int .i64 et, .int .i64 ea, .int .i64 es] 116 (0, 0)) := by rw [hW8]; exact heap_alloc_new w6 _
                        have e68 : Eff (fun _ => False) w6 W8 := by rw [hW8]; exact ((Eff.refl _ _).alloc _).drewN a8
                        have hr8 : Rdr W8 base p v bs k6 := HR6.out.eff e68 (fun _ _ f => f)
                        have hrow8 : RowE W8 w.heap.size (.slice (some ⟨g6, 0, none⟩) (j + 1) C7') (l ++ l2) := HROW6.out.eff e68 (fun _ _ f => f)
                        have hown8 : Own W8 w.heap.size 3 (.slice (some ⟨g, 0, none⟩) zs.length C) (dnatsV zs) := HO6.out.eff e68 (fun _ _ f => f)
                        have he8 : Eff (fun k => k = p) w W8 := HE6.out.trans e68 (fun _ f _ => f.elim)
                        have hz8 : w.heap.size ≤ W8.heap.size := he8.size
                        have d0 := blk_cell hb8 0
                        have d1 := blk_cell hb8 1
                        have d2 := blk_cell hb8 2
                        have d3' := blk_cell hb8 3
                        have d4 := blk_cell hb8 4
                        have hl8 : (l ++ l2).length ≤ 1000000000 := by rw [List.length_append, ← HM2.out, ← HN7.out]; exact hN9
                        rw [← hW8]
                        have HL8 := Lib.hid hl8
                        have HB8 := Lib.hid hb8
                        have HLT6 := Lib.hid HROW6.out.lt
                        have HR8 := Lib.hid hr8
                        have HROW8 := Lib.hid hrow8
                        have HO8 := Lib.hid hown8
                        have HE8 := Lib.hid he8
                        clear hb8 e68 hr8 hrow8 hown8 he8 hW8 hl8 HR6 HROW6 HO6 HE6
                        go_upto_region 19 with fail
                        go_wp2_with (at_builtin; with_reducible refine apE HROW8.out HL8.out hz8 rfl _ _ rfl rfl rfl ?_)
                        intro v9 w9 hrow9 hg9
                        have hrow8 := HROW8.out
                        have he89 : Eff (fun k => (Value.slice (some ⟨g6, 0, none⟩) (j + 1) C7').ownBlock = some k) W8 w9 := (Eff.refl _ _).grown hg9 (fun i hi _ => hi)
                        have hr9 : Rdr w9 base p v bs k6 := HR8.out.eff he89 (fun k hk hF => by
                          rcases hk with rfl | hk
                          · have := (hrow8.lt _ hF).1; omega
                          · rcases hrow8.2 with ⟨hv, _⟩ | ⟨g', cap, cur, hv, _, hgg, _⟩
                            · rw [hv] at hF; simp [Value.ownBlock] at hF
                            · have : g' = k := by rw [hv] at hF; simpa [Value.ownBlock] using hF
                              subst this
                              exact HR8.out.own.ne_type hgg (by decide) hk)
                        have hown9 : Own w9 w.heap.size 3 (.slice (some ⟨g, 0, none⟩) zs.length C) (dnatsV zs) := HO8.out.eff he89 (fun k hk hF => by
                          rcases hrow8.2 with ⟨hv, _⟩ | ⟨g', cap, cur, hv, _, hgg, _⟩
                          · rw [hv] at hF; simp [Value.ownBlock] at hF
                          · have : g' = k := by rw [hv] at hF; simpa [Value.ownBlock] using hF
                            subst this
                            exact HO8.out.ne_type hgg (by decide) hk)
                        have he9 := HE8.out.trans he89 (fun i hi hlt => by have := (hrow8.lt i hi).1; omega)
                        have e9 : w9.cell? ⟨w6.heap.size, 0, none⟩ = some (.string ek) := by
                          exact blk_cell ((he89.block w6.heap.size (lt_of_heap HB8.out) (fun hF => by have := (HLT6.out _ hF).2; omega)).trans HB8.out) 0
                        obtain ⟨A9, C9, rfl⟩ := hrow9.sl
                        have hlen9 : (l ++ (l2 ++ [(⟨ek, ed, et, ea, es⟩ : EntV)])).length = (j + 1) + 1 := by rw [List.length_append, List.length_append, List.length_singleton, ← Nat.add_assoc, ← HM2.out, ← HN7.out]
                        rw [hlen9] at hrow9
                        rw [hlen9]
                        have HROW9 := Lib.hid hrow9
                        have HR9 := Lib.hid hr9
                        have HO9 := Lib.hid hown9
                        have HE9 := Lib.hid he9
                        clear hrow9 hg9 he89 hr9 hown9 he9 hrow8 HROW8 HR8 HO8 HE8 hlen9
                        go_wp2
                        go_roundw
                        case rel => exact ⟨m + 1, (j + 1) + 1, l2 ++ [⟨ek, ed, et, ea, es⟩], A9, C9, k6, ek, rfl, rfl, by go_num, by rw [List.length_append, List.length_singleton, ← HM2.out], by have := HN7.out; omega, by omega, HROW9.out, hek, fun h => by omega, HO9.out, HR9.out, HE9.out, by rw [show (m + 1 == 0) = false by simp]; exact HRS8.out⟩
                        case measure => simp [intOf]; omega
                      · have hno : RES = none := by rw [HRS8.out, if_neg (show ¬ above (lastK none (l ++ l2)) (EntV.K ⟨ek, ed, et, ea, es⟩) = true by rw [hlk2]; exact hab)]
                        have HN := Lib.hid hno
                        have hab2 : Go.Op.bytesLess lk.data.toList ek.data.toList = false := by simpa using hab
                        have tB : (!(Go.Op.bytesLess ek.toList lk.toList || ek.toList == lk.toList)) = false := by rw [tb, ba_list, ba_list]; exact hab2
                        have e68 : Eff (fun _ => False) w6 (w6.alloc (.cells #[.string ek, .int .i64 ed, .int .i64 et, .int .i64 ea, .int .i64 es] 116)) := (Eff.refl _ _).alloc _
                        have hc9 := (HD6.out.eff e68 HG.out (fun _ f => f.elim)).c
                        have he9 : Eff (fun k => k = p) w (w6.alloc (.cells #[.string ek, .int .i64 ed, .int .i64 et, .int .i64 ea, .int .i64 es] 116)) := HE6.out.trans e68 (fun _ f _ => f.elim)
                        have HC9 := Lib.hid hc9
                        have HE9 := Lib.hid he9
                        clear hno hab hab2 e68 hc9 he9 hlj hent hlk hlke hlk2 hc tb
                        refine wp_region_any (by kernel_rfl) ?_
                        change wpAny _ _ _ _ _ _ _ (World.drew _)
                        refine wpAny_take (i := 0) (v := ?_) rfl (by kernel_rfl) (by kernel_rfl) (by kernel_rfl) (fun _ _ _ h => h) (Or.inl ⟨by kernel_rfl, ?_⟩) ?_
                        rotate_left
                        · intro w; go_simp; try with_reducible rfl
                        refine wpAny_take (i := 1) (v := ?_) rfl (by kernel_rfl) (by kernel_rfl) (by kernel_rfl) (fun _ _ _ h => h) (Or.inl ⟨by kernel_rfl, ?_⟩) ?_
                        rotate_left
                        · intro w; go_simp; try with_reducible rfl
                        refine wpAny_take (i := 2) (v := ?_) rfl (by kernel_rfl) (by kernel_rfl) (by kernel_rfl) (fun _ _ _ h => h) (Or.inl ⟨by kernel_rfl, ?_⟩) ?_
                        rotate_left
                        · intro w; go_simp; try with_reducible rfl
                        refine wpAny_take (i := 3) (v := ?_) rfl (by kernel_rfl) (by kernel_rfl) (by kernel_rfl) (fun _ _ _ h => h) (Or.inl ⟨by kernel_rfl, ?_⟩) ?_
                        rotate_left
                        · intro w; go_simp; try with_reducible rfl
                        refine wpAny_take (i := 4) (v := ?_) rfl (by kernel_rfl) (by kernel_rfl) (by kernel_rfl) (fun _ _ _ h => h) (Or.inl ⟨by kernel_rfl, ?_⟩) ?_
                        rotate_left
                        · intro w; go_simp; try with_reducible rfl
                        refine wpAny_take (i := 6) (v := ?_) rfl (by kernel_rfl) (by kernel_rfl) (by kernel_rfl) (fun _ _ _ h => h) (Or.inl ⟨by kernel_rfl, ?_⟩) ?_
                        rotate_left
                        · intro w; go_simp; try with_reducible rfl
                        refine wpAny_take (i := 7) (v := ?_) rfl (by kernel_rfl) (by kernel_rfl) (by kernel_rfl) (fun _ _ _ h => h) (Or.inl ⟨by kernel_rfl, ?_⟩) ?_
                        rotate_left
                        · intro w; go_simp; try with_reducible rfl
                        refine wpAny_take (i := 8) (v := ?_) rfl (by kernel_rfl) (by kernel_rfl) (by kernel_rfl) (fun _ _ _ h => h) (Or.inl ⟨by kernel_rfl, ?_⟩) ?_
                        rotate_left
                        · intro w; go_simp; try with_reducible rfl
                        refine wpAny_take (i := 9) (v := ?_) rfl (by kernel_rfl) (by kernel_rfl) (by kernel_rfl) (fun _ _ _ h => h) (Or.inl ⟨by kernel_rfl, ?_⟩) ?_
                        rotate_left
                        · intro w; go_simp; try with_reducible rfl
                        refine wpAny_take (i := 10) (v := ?_) rfl (by kernel_rfl) (by kernel_rfl) (by kernel_rfl) (fun _ _ _ h => h) (Or.inl ⟨by kernel_rfl, ?_⟩) ?_
                        rotate_left
                        · intro w; go_simp; try with_reducible rfl
                        refine wpAny_take (i := 11) (v := ?_) rfl (by kernel_rfl) (by kernel_rfl) (by kernel_rfl) (fun _ _ _ h => h) (Or.inl ⟨by kernel_rfl, ?_⟩) ?_
                        rotate_left
                        · intro w; go_simp; try with_reducible rfl
                        refine wpAny_ready (rs := [5, 12]) (by kernel_rfl) (by simp) ?_
                        refine AllReady.cons rfl (fun KK hKK => ?_) ?_
                        · rw [if_pos (by kernel_rfl)]
                          go_simp
                          refine hKK _ _ ?_; clear hKK KK
                          refine wpAny_ready (rs := [12]) (by kernel_rfl) (by simp) ?_
                          refine AllReady.cons rfl (fun KK hKK => ?_) ?_
                          · rw [if_pos (by kernel_rfl)]
                            go_simp
                            refine hKK _ _ ?_; clear hKK KK
                            refine wpAny_take (i := 13) (v := ?_) rfl (by kernel_rfl) (by kernel_rfl) (by kernel_rfl) (fun _ _ _ h => h) (Or.inl ⟨by kernel_rfl, ?_⟩) ?_
                            rotate_left
                            · intro w; go_simp; try with_reducible rfl
                            refine wpAny_take (i := 14) (v := ?_) rfl (by kernel_rfl) (by kernel_rfl) (by kernel_rfl) (fun _ _ _ h => h) (Or.inl ⟨by kernel_rfl, ?_⟩) ?_
                            rotate_left
                            · intro w; go_simp; try with_reducible rfl
                            refine wpAny_ready (rs := [15]) (by kernel_rfl) (by simp) ?_
                            refine AllReady.cons rfl (fun KK hKK => ?_) ?_
                            · rw [if_pos (by kernel_rfl)]
                              go_simp
                              go_at_call 85
                              refine (sure_no _ EA ?_).mono ?_
                              · exact HC9.out
                              rintro e w9 ⟨rfl, rfl⟩
                              unfold gaveUp
                              go_wp2
                              exact ⟨rfl, EntsPost.no HN.out rfl ⟨HE9.out.os, HE9.out.tape, HE9.out.output, HE9.out.size, HE9.out.block⟩⟩
                            · exact AllReady.nil
                          exact AllReady.nil
                        refine AllReady.cons rfl (fun KK hKK => ?_) ?_
                        · rw [if_pos (by kernel_rfl)]
                          go_simp
                          refine hKK _ _ ?_; clear hKK KK
                          refine wpAny_ready (rs := [5]) (by kernel_rfl) (by simp) ?_
                          refine AllReady.cons rfl (fun KK hKK => ?_) ?_
                          · rw [if_pos (by kernel_rfl)]
                            go_simp
                            refine hKK _ _ ?_; clear hKK KK
                            refine wpAny_take (i := 13) (v := ?_) rfl (by kernel_rfl) (by kernel_rfl) (by kernel_rfl) (fun _ _ _ h => h) (Or.inl ⟨by kernel_rfl, ?_⟩) ?_
                            rotate_left
                            · intro w; go_simp; try with_reducible rfl
                            refine wpAny_take (i := 14) (v := ?_) rfl (by kernel_rfl) (by kernel_rfl) (by kernel_rfl) (fun _ _ _ h => h) (Or.inl ⟨by kernel_rfl, ?_⟩) ?_
                            rotate_left
                            · intro w; go_simp; try with_reducible rfl
                            refine wpAny_ready (rs := [15]) (by kernel_rfl) (by simp) ?_
                            refine AllReady.cons rfl (fun KK hKK => ?_) ?_
                            · rw [if_pos (by kernel_rfl)]
                              go_simp
                              go_at_call 85
                              refine (sure_no _ EA ?_).mono ?_
                              · exact HC9.out
                              rintro e w9 ⟨rfl, rfl⟩
                              unfold gaveUp
                              go_wp2
                              exact ⟨rfl, EntsPost.no HN.out rfl ⟨HE9.out.os, HE9.out.tape, HE9.out.output, HE9.out.size, HE9.out.block⟩⟩
                            · exact AllReady.nil
                          exact AllReady.nil
                        exact AllReady.nil
                · have hmM' : m = M := by omega
                  have HMM := Lib.hid hmM'
                  have hrs' : RES = restH (zs.drop (i + 1)) (n - l.length - M) z (bs.drop k').length l l2 (bs.drop k'') := by
                    rw [hrs, show M - m = 0 by omega, show blkP 0 (m == 0) (lastK none (l ++ l2)) last.data.toList (bs.drop k'') = some ([], bs.drop k'') from rfl, Option.bind_some, List.append_nil]
                  have C7 := rat_any wr base p v bs k'' hr
                  have HRX := Lib.hid hrs'
                  have HROW := Lib.hid hrow
                  have HO := Lib.hid hown
                  have HR := Lib.hid hr
                  have HEQ := Lib.hid he
                  have HDQ := Lib.hid hE3
                  have hN7' : N7 = l.length + M := by omega
                  have hNn : N7 < n → 16 ≤ m := by omega
                  by_cases h16 : m < 16
                  · have t16 : (m : Int) < 16 := by omega
                    have tn : decide (N7 < n) = false := decide_eq_false (by omega)
                    clear hrs hrs' hrow hown hr he hE3 hm hN7 hl0 hN7' hNn h16 hmM' hlt2
                    go_wp2_with fail
                    refine C7.mono ?_
                    rintro e w7 ⟨rfl, rfl⟩
                    clear C7
                    by_cases hend : k'' = k' + z
                    · have te : (((k'' : Nat) : Int) == (k' : Int) + (z : Int)) = true := by rw [beq_iff_eq]; omega
                      have hrs9 : RES = (blksP (zs.drop (i + 1)) (n - (l ++ l2).length) (lastK none (l ++ l2)) (bs.drop k'')).bind (restG (l ++ l2)) := by
                        rw [HRX.out]; unfold restH
                        rw [if_pos (by rw [List.length_drop, HDL.out]; omega), show n - l.length - M = n - (l ++ l2).length by rw [List.length_append, ← HM2.out]; have := HMM.out; omega]
                      have hll : (l ++ l2).length ≤ n := by rw [List.length_append, ← HM2.out]; omega
                      have HRX9 := Lib.hid hrs9
                      have HLL := Lib.hid hll
                      have C8 := sure_ok wr
                      clear hrs9 hll hend
                      go_wp2_with fail
                      refine C8.mono ?_
                      rintro e w8 ⟨rfl, rfl⟩
                      clear C8
                      go_wp2
                      go_roundw
                      case rel => exact ⟨i + 1, N7, l ++ l2, A7, C7', k'', rfl, by go_num, by omega, by rw [List.length_append, ← HM2.out]; exact HN7.out, HROW.out, HLL.out, HO.out, HR.out, HEQ.out, HRX9.out⟩
                      case measure => simp [intOf]; omega
                    · have te : (((k'' : Nat) : Int) == (k' : Int) + (z : Int)) = false := by rw [beq_eq_false_iff_ne]; omega
                      have hrs9 : RES = none := by
                        rw [HRX.out]; unfold restH
                        rw [if_neg (by rw [List.length_drop, HDL.out]; omega)]
                      have HN := Lib.hid hrs9
                      have C8 := sure_no wr EA HDQ.out.c
                      clear hrs9 hend
                      go_wp2_with fail
                      refine C8.mono ?_
                      rintro e w8 ⟨rfl, rfl⟩
                      unfold gaveUp
                      go_wp2
                      exact ⟨rfl, EntsPost.no HN.out rfl HEQ.out⟩
                  · have t16 : decide ((m : Int) < 16) = false := decide_eq_false (by omega)
                    clear hrs hrs' hrow hown hr he hE3 hm hN7 hl0 hN7' hNn h16 hmM' hlt2
                    go_wp2_with fail
                    refine C7.mono ?_
                    rintro e w7 ⟨rfl, rfl⟩
                    clear C7
                    by_cases hend : k'' = k' + z
                    · have te : (((k'' : Nat) : Int) == (k' : Int) + (z : Int)) = true := by rw [beq_iff_eq]; omega
                      have hrs9 : RES = (blksP (zs.drop (i + 1)) (n - (l ++ l2).length) (lastK none (l ++ l2)) (bs.drop k'')).bind (restG (l ++ l2)) := by
                        rw [HRX.out]; unfold restH
                        rw [if_pos (by rw [List.length_drop, HDL.out]; omega), show n - l.length - M = n - (l ++ l2).length by rw [List.length_append, ← HM2.out]; have := HMM.out; omega]
                      have hll : (l ++ l2).length ≤ n := by rw [List.length_append, ← HM2.out]; omega
                      have HRX9 := Lib.hid hrs9
                      have HLL := Lib.hid hll
                      have C8 := sure_ok wr
                      clear hrs9 hll hend
                      go_wp2_with fail
                      refine C8.mono ?_
                      rintro e w8 ⟨rfl, rfl⟩
                      clear C8
                      go_wp2
                      go_roundw
                      case rel => exact ⟨i + 1, N7, l ++ l2, A7, C7', k'', rfl, by go_num, by omega, by rw [List.length_append, ← HM2.out]; exact HN7.out, HROW.out, HLL.out, HO.out, HR.out, HEQ.out, HRX9.out⟩
                      case measure => simp [intOf]; omega
                    · have te : (((k'' : Nat) : Int) == (k' : Int) + (z : Int)) = false := by rw [beq_eq_false_iff_ne]; omega
                      have hrs9 : RES = none := by
                        rw [HRX.out]; unfold restH
                        rw [if_neg (by rw [List.length_drop, HDL.out]; omega)]
                      have HN := Lib.hid hrs9
                      have C8 := sure_no wr EA HDQ.out.c
                      clear hrs9 hend
                      go_wp2_with fail
                      refine C8.mono ?_
                      rintro e w8 ⟨rfl, rfl⟩
                      unfold gaveUp
                      go_wp2
                      exact ⟨rfl, EntsPost.no HN.out rfl HEQ.out⟩
            · have hno : RES = none := by rw [HRS3.out, blocks_no (by rw [HDL.out]; omega)]
              have HN := Lib.hid hno
              have C5 := sure_no (wr.drewN d3) EA (HE3.out.drewN d3).c
              have tz : decide ((z : Int) ≤ (bs.length : Int) - (k' : Int)) = false := decide_eq_false hzf
              clear hno HRS3
              go_wp2_with fail
              refine C5.mono ?_
              rintro e w5 ⟨rfl, rfl⟩
              unfold gaveUp
              go_wp2
              exact ⟨rfl, EntsPost.no HN.out rfl (HER.out.drewN d3)⟩
          · have hrs' : RES = restG l ([], bs.drop k') := by
              rw [hrs, List.drop_eq_nil_of_le (show zs.length ≤ i by omega)]; rfl
            have hE3 := HE.out.eff he HG.out (fun k hk => by subst hk; exact hp)
            have i1 : ¬ (i : Int) < (zs.length : Int) := by omega
            by_cases hk : k' = bs.length
            · have hres : RES = some l := by
                rw [hrs']; unfold restG
                rw [if_pos (List.drop_eq_nil_of_le (by omega)), List.append_nil]
              have C3 := rdone_any wr base p v bs k' hr hk
              have HN := Lib.hid hres
              have HROW := Lib.hid hrow
              have HEQ := Lib.hid he
              clear hrs hrs' hres hrow hown hr he hE3 hN6 hdl hlt hk
              go_wp2_with fail
              refine C3.mono ?_
              rintro e w3 ⟨rfl, d3, rfl⟩
              clear C3
              have C4 := sure_ok (wr.drewN d3)
              go_wp2_with fail
              refine C4.mono ?_
              rintro e w4 ⟨rfl, rfl⟩
              go_wp2
              go_ret
              exact EntsPost.ok HN.out rfl (HROW.out.drewN d3) (HEQ.out.drewN d3)
            · have hres : RES = none := by
                rw [hrs']; unfold restG
                rw [if_neg (fun h => hk (by have := List.drop_eq_nil_iff.1 h; omega))]
              have C3 := rdone_no wr base p v bs k' hr (by omega) _ hE3.t
              have C4 := fun d => sure_no (wr.drewN d) EA hE3.c
              have HN := Lib.hid hres
              have HEQ := Lib.hid he
              have HC4 := Lib.hid C4
              clear hrs hrs' hres hrow hown hr he hE3 hN6 hdl hlt hk C4
              unfold errV at C3
              go_wp2_with fail
              refine C3.mono ?_
              rintro e w3 ⟨rfl, d3, rfl⟩
              clear C3
              go_wp2_with fail
              refine (HC4.out d3).mono ?_
              rintro e w4 ⟨rfl, rfl⟩
              unfold gaveUp
              go_wp2
              exact ⟨rfl, EntsPost.no HN.out rfl (HEQ.out.drewN d3)⟩
end Go.Proofs.YtejmjjgbbojfbaaDoor

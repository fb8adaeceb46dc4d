/- AutoLeast: alone. -/
import Derived.Test.YtejmjjgbbojfbaaDoorZG8
import Derived.Test.YtejmjjgbbojfbaaDoorZG8
namespace Go.Proofs.YtejmjjgbbojfbaaDoor
set_option linter.unusedVariables false
open Go.ChangeShapes Go.WideShapes Go.ChangeAt Go.RowKit

def boolsV (f : Nat → Bool) (n : Nat) : List Value := (List.range n).map fun j => Value.bool (f j)
theorem boolsV_length (f : Nat → Bool) (n : Nat) : (boolsV f n).length = n := by simp [boolsV]
theorem boolsV_get (f : Nat → Bool) (n k : Nat) (h : k < n) : (boolsV f n)[k]? = some (.bool (f k)) := by simp [boolsV, h]
theorem boolsV_congr {f g : Nat → Bool} {n : Nat} (h : ∀ k, k < n → f k = g k) : boolsV f n = boolsV g n := List.map_congr_left fun k hk => by rw [h k (List.mem_range.1 hk)]
theorem boolsV_set (f : Nat → Bool) (n k : Nat) (v : Bool) : (boolsV f n).set k (.bool v) = boolsV (fun s => if s = k then v else f s) n := bools_set f n k v
/-- How many bools of a block are false. -/
def isF : Option Value → Bool
  | some (.bool false) => true
  | _ => false
def mB : Value → Nat
  | .bool true => 1
  | _ => 0
def cntW (w : World) (b m : Nat) : Nat := ((List.range m).filter fun j => isF (w.cell? ⟨b, j, none⟩)).length
theorem cntW_eq {w : World} {b m base c : Nat} {ap : Nat → Bool} (h : Own w base 4 (.slice (some ⟨b, 0, none⟩) m c) (boolsV ap m)) : cntW w b m = cntF ap m := by
  unfold cntW cntF
  congr 1
  refine List.filter_congr fun j hj => ?_
  rw [h.get (boolsV_get ap m j (List.mem_range.1 hj))]
  cases ap j <;> rfl
set_option maxRecDepth 100000 in
set_option maxHeartbeats 4000000 in
theorem alone_any (w : World) (B : Nat) (A X : Option Addr) (ca cx : Nat) (T : Tab) (L : List Nat → Bool) (h : TabAt w B A X ca cx T) (hn : 0 < T.n) (hn2 : T.n ≤ 120) (hc : Canon T L) :
    Calls Tryd.prog 37 #[.agg #[.int .i64 0, .slice A T.n ca, .slice X (256 * T.n) cx]] w fun e w' => e = .returned (.bool true) ∧ Below w.heap.size w w' := by
  obtain ⟨xb, rfl, hxl, hxc, hx⟩ := h.nxAt hn
  obtain ⟨yb, rfl, hyl, hyc, hy⟩ := h.accAt hn
  obtain ⟨o, ho⟩ : ∃ o, o = Obj.cells #[.int .i64 0, .slice (some ⟨yb, 0, none⟩) T.n ca, .slice (some ⟨xb, 0, none⟩) (256 * T.n) cx] 54 := ⟨_, rfl⟩
  have hb0 : Below w.heap.size w (w.alloc o) := (Below.refl _ _).alloc (Nat.le_refl _) _
  have hblk := (heap_alloc_new w o).trans (congrArg some ho)
  have c1 : (w.alloc o).cell? ⟨w.heap.size, 1, none⟩ = some (.slice (some ⟨yb, 0, none⟩) T.n ca) := blk_cell hblk 1
  have c2 : (w.alloc o).cell? ⟨w.heap.size, 2, none⟩ = some (.slice (some ⟨xb, 0, none⟩) (256 * T.n) cx) := blk_cell hblk 2
  have hz0 : (w.alloc o).heap.size = w.heap.size + 1 := by simp
  have HX := Lib.hid (show ∀ Y, Below (w.alloc o).heap.size (w.alloc o) Y → ∀ j, j < 256 * T.n → Y.cell? ⟨xb, j, none⟩ = some (.int .i64 ((T.nx (j / 256) (j % 256) : Nat) : Int)) from fun Y e j hj => (e.cell (p := ⟨xb, j, none⟩) (by rw [hz0]; show xb < _; omega)).trans ((hb0.cell (p := ⟨xb, j, none⟩) hxl).trans (hx j hj)))
  have HY := Lib.hid (show ∀ Y, Below (w.alloc o).heap.size (w.alloc o) Y → ∀ j, j < T.n → Y.cell? ⟨yb, j, none⟩ = some (.bool (T.acc j)) from fun Y e j hj => (e.cell (p := ⟨yb, j, none⟩) (by rw [hz0]; show yb < _; omega)).trans ((hb0.cell (p := ⟨yb, j, none⟩) hyl).trans (hy j hj)))
  have HZ := Lib.hid (show ∀ Y, Below (w.alloc o).heap.size (w.alloc o) Y → Y.cell? ⟨w.heap.size, 1, none⟩ = some (.slice (some ⟨yb, 0, none⟩) T.n ca) ∧ Y.cell? ⟨w.heap.size, 2, none⟩ = some (.slice (some ⟨xb, 0, none⟩) (256 * T.n) cx) from fun Y e =>
    ⟨(e.cell (p := ⟨w.heap.size, 1, none⟩) (by rw [hz0]; show w.heap.size < _; omega)).trans c1, (e.cell (p := ⟨w.heap.size, 2, none⟩) (by rw [hz0]; show w.heap.size < _; omega)).trans c2⟩)
  have HB0 := Lib.hid (show ∀ Y, Below (w.alloc o).heap.size (w.alloc o) Y → Below w.heap.size w Y from fun Y e => hb0.trans (e.mono hb0.size))
  have HC := Lib.hid hc
  have HO := Lib.hid ho
  obtain ⟨nn, hnn⟩ : ∃ nn, T.n * T.n = nn := ⟨_, rfl⟩
  have hnn2 : nn ≤ 14400 := by rw [← hnn]; exact Nat.mul_le_mul hn2 hn2
  have w0 : IntKind.i64.wrap ((T.n : Int) * (T.n : Int)) = (nn : Int) := by
    rw [← hnn, IntKind.wrap_i64]
    have h1 : ((T.n * T.n : Nat) : Int) = (T.n : Int) * (T.n : Int) := Int.natCast_mul _ _
    rw [← h1, hnn]; omega
  have hmk := fun Y => make_row elBoolG rfl nn (by omega) (nn : Int) rfl Y
  have HNN := Lib.hid hnn
  clear h hx hy hblk hb0 ho hc hz0 hnn
  go_enter Tryd.func37, Tryd.ntmps37
  go_upto_region 1 with fail
  rw [← HO.out]
  generalize w.alloc o = W at c1 c2 HX HY HZ HB0 ⊢
  generalize w.heap.size = z0 at c1 c2 HZ ⊢
  have hk0 := own_make_bools W nn (by omega)
  have hB1 : Below W.heap.size W (W.alloc (.cells (madeCells #[Value.bool false] nn) 4)) := (Below.refl _ _).alloc (Nat.le_refl _) _
  have HK0 := Lib.hid hk0
  have HB1 := Lib.hid hB1
  clear hk0 hB1
  go_upto_region 3 with fail
  clear c1 c2 hmk w0
  obtain ⟨pb, hpb⟩ : ∃ pb, pb = W.heap.size := ⟨_, rfl⟩
  have HK1 : RowKit.Hid (Own (W.alloc (.cells (madeCells #[Value.bool false] nn) 4)) W.heap.size 4 (.slice (some ⟨pb, 0, none⟩) nn nn) (boolsV (fun j => if j < 0 then (T.acc (j / T.n) != T.acc (j % T.n)) else false) nn)) := Lib.hid (by
    rw [hpb]
    exact own_to HK0.out (boolsV_congr fun j _ => by rw [if_neg (by omega)]))
  rw [← hpb]
  clear hpb HK0
  generalize W.alloc (.cells (madeCells #[Value.bool false] nn) 4) = W1 at HK1 HB1 ⊢
  go_upto_region 4 with fail
  have h00 : T.n * 0 = 0 := Nat.mul_zero _
  go_loopw [5] (fun s5 wr => ∃ (s : Nat), s5 = .int .i64 (s : Nat) ∧ s ≤ T.n ∧ RowKit.Hid (Own wr W.heap.size 4 (.slice (some ⟨pb, 0, none⟩) nn nn) (boolsV (fun j => if j < T.n * s then (T.acc (j / T.n) != T.acc (j % T.n)) else false) nn)) ∧ RowKit.Hid (Below W.heap.size W wr)) (fun s5 _ => T.n - (intOf s5).toNat)
  case atStart => exact ⟨0, rfl, Nat.zero_le _, by rw [h00]; exact HK1, HB1⟩
  case round =>
    clear HK1 HB1 h00
    obtain ⟨s, rfl, hs, HK, HB⟩ := hrel
    by_cases hlt : s < T.n
    · obtain ⟨p, hp⟩ : ∃ p, T.n * s = p := ⟨_, rfl⟩
      have hpn : p + T.n ≤ nn := by
        rw [← hp, ← HNN.out]
        have h1 : T.n * (s + 1) ≤ T.n * T.n := Nat.mul_le_mul_left _ hlt
        rwa [Nat.mul_succ] at h1
      have hps : T.n * (s + 1) = p + T.n := by rw [Nat.mul_succ, hp]
      have hpd : ∀ u, u < T.n → (p + u) / T.n = s ∧ (p + u) % T.n = u := fun u hu => by
        rw [← hp, Nat.mul_add_div (by omega), Nat.mul_add_mod, Nat.div_eq_of_lt hu, Nat.mod_eq_of_lt hu]
        exact ⟨by omega, rfl⟩
      have w1 : IntKind.i64.wrap ((T.n : Int) * (s : Int)) = (p : Int) := by
        have h1 : ((T.n * s : Nat) : Int) = (T.n : Int) * (s : Int) := Int.natCast_mul _ _
        rw [← h1, hp, IntKind.wrap_i64]; omega
      rw [hp] at HK
      have HPS := Lib.hid hps
      have HPD := Lib.hid hpd
      have HW1 := Lib.hid w1
      have HK0 : RowKit.Hid (Own wr W.heap.size 4 (.slice (some ⟨pb, 0, none⟩) nn nn) (boolsV (fun j => if j < p + 0 then (T.acc (j / T.n) != T.acc (j % T.n)) else false) nn)) := HK
      have t1 : decide (s < T.n) = true := decide_eq_true hlt
      clear hp hps hpd w1 HK
      go_upto_region 7 with fail
      go_loopw [6] (fun s6 wr => ∃ (u : Nat), s6 = .int .i64 (u : Nat) ∧ u ≤ T.n ∧ RowKit.Hid (Own wr W.heap.size 4 (.slice (some ⟨pb, 0, none⟩) nn nn) (boolsV (fun j => if j < p + u then (T.acc (j / T.n) != T.acc (j % T.n)) else false) nn)) ∧ RowKit.Hid (Below W.heap.size W wr)) (fun s6 _ => T.n - (intOf s6).toNat)
      case atStart => exact ⟨0, rfl, Nat.zero_le _, HK0, HB⟩
      case round =>
        clear HK0 HB t1
        obtain ⟨u, rfl, hu, HK, HB⟩ := hrel
        by_cases hlu : u < T.n
        · have y1 := HY.out wr HB.out s hlt
          have y2 := HY.out wr HB.out u hlu
          have z1 := (HZ.out wr HB.out).1
          obtain ⟨b1, hb1⟩ : ∃ b, T.acc s = b := ⟨_, rfl⟩
          obtain ⟨b2, hb2⟩ : ∃ b, T.acc u = b := ⟨_, rfl⟩
          rw [hb1] at y1
          rw [hb2] at y2
          obtain ⟨q, hq⟩ : ∃ q, p + u = q := ⟨_, rfl⟩
          rw [hq] at HK
          have hqn : q < nn := by omega
          have w1 := HW1.out
          have w2 : IntKind.i64.wrap ((p : Int) + (u : Int)) = (q : Int) := by rw [IntKind.wrap_i64]; omega
          have k1 : wr.cell? ⟨pb, q, none⟩ = some (.bool (if q < q then (T.acc (q / T.n) != T.acc (q % T.n)) else false)) := HK.out.get (boolsV_get _ _ _ hqn)
          have f1 := HK.out.frozen q
          have i1 : (s : Int) < (T.n : Int) := by omega
          have i2 : (u : Int) < (T.n : Int) := by omega
          have i3 : (q : Int) < (nn : Int) := by omega
          have hk1 := HK.out.set q (.bool (!(b1 == b2)))
          rw [boolsV_set] at hk1
          have HK1 := Lib.hid (show Own (wr.setCell ⟨pb, q, none⟩ (.bool (!(b1 == b2)))).drew W.heap.size 4 (.slice (some ⟨pb, 0, none⟩) nn nn) (boolsV (fun j => if j < p + (u + 1) then (T.acc (j / T.n) != T.acc (j % T.n)) else false) nn) from own_to hk1 (boolsV_congr fun j _ => by
            by_cases e : j = q
            · rw [if_pos e, if_pos (by omega), e, ← hq, (HPD.out u hlu).1, (HPD.out u hlu).2, hb1, hb2]; rfl
            · rw [if_neg e]
              by_cases e2 : j < q
              · rw [if_pos e2, if_pos (by omega)]
              · rw [if_neg e2, if_neg (by omega)]))
          have HB1 := Lib.hid ((HB.out.setCell (p := ⟨pb, q, none⟩) (HK.out.lt pb rfl).1 (.bool (!(b1 == b2)))).drew)
          clear hk1 hb1 hb2 hq hqn HK HB
          go_upto_region 9 with fail
          go_still_tail 17, (by kernel_rfl)
          change wpList _ _ _ _ _ (World.drew _)
          go_wp2
          generalize (wr.setCell ⟨pb, q, none⟩ (.bool (!(b1 == b2)))).drew = X1 at HK1 HB1 ⊢
          go_roundw
          case rel => exact ⟨u + 1, by go_num, by omega, HK1, HB1⟩
          case measure => simp [intOf]; omega
        · obtain rfl : u = T.n := by omega
          have HK1 : RowKit.Hid (Own wr W.heap.size 4 (.slice (some ⟨pb, 0, none⟩) nn nn) (boolsV (fun j => if j < T.n * (s + 1) then (T.acc (j / T.n) != T.acc (j % T.n)) else false) nn)) := by rw [HPS.out]; exact HK
          clear HK
          go_wp2
          go_roundw
          case rel => exact ⟨s + 1, by go_num, by omega, HK1, HB⟩
          case measure => simp [intOf]; omega
    · obtain rfl : s = T.n := by omega
      have hap0 : ApI T (fun j => if j < T.n * T.n then (T.acc (j / T.n) != T.acc (j % T.n)) else false) := by
        have key : ∀ a b, a < T.n → b < T.n → (if T.n * a + b < T.n * T.n then (T.acc ((T.n * a + b) / T.n) != T.acc ((T.n * a + b) % T.n)) else false) = (T.acc a != T.acc b) := fun a b ha hb => by
          rw [if_pos (pj_lt ha hb), Nat.mul_add_div (by omega), Nat.mul_add_mod, Nat.div_eq_of_lt hb, Nat.mod_eq_of_lt hb, Nat.add_zero]
        refine ⟨fun a b ha hb => ?_, fun a ha => ?_, fun a b ha hb hab => ?_⟩
        · show (if _ then _ else _) = (if _ then _ else _)
          rw [key a b ha hb, key b a hb ha]
          cases T.acc a <;> cases T.acc b <;> rfl
        · show (if _ then _ else _) = false
          rw [key a a ha ha]
          cases T.acc a <;> rfl
        · show (if _ then _ else _) = true
          rw [key a b ha hb]
          cases h1 : T.acc a <;> cases h2 : T.acc b <;> simp [h1, h2] at hab ⊢
      have HAP := Lib.hid hap0
      clear hap0
      go_upto_region 11 with fail
      go_loopw [7] (fun s7 wr => ∃ (ap : Nat → Bool) (m : Bool), s7 = .bool m ∧ RowKit.Hid (Own wr W.heap.size 4 (.slice (some ⟨pb, 0, none⟩) nn nn) (boolsV ap nn)) ∧ RowKit.Hid (ApI T ap ∧ (m = false → ApRest T ap)) ∧ RowKit.Hid (Below W.heap.size W wr)) (fun s7 wr => 2 * cntW wr pb nn + mB s7)
      case atStart => exact ⟨_, true, rfl, HK, Lib.hid ⟨HAP.out, fun e => by cases e⟩, HB⟩
      case round =>
        clear HK HAP HB
        obtain ⟨ap0, m0, rfl, HK, HI, HB⟩ := hrel
        cases m0 with
        | false =>
          have hall := ap_all HC.out HI.out.1 (HI.out.2 rfl)
          have HALL := Lib.hid hall
          clear hall HI
          go_upto_region 28 with fail
          go_loop [11] (fun s11 => ∃ s : Nat, s11 = .int .i64 (s : Nat) ∧ s ≤ T.n) (fun s11 => T.n - (intOf s11).toNat)
          case atStart => exact ⟨0, rfl, Nat.zero_le _⟩
          case round =>
            obtain ⟨s, rfl, hs⟩ := hrel
            by_cases hlt : s < T.n
            · have t1 : decide (s < T.n) = true := decide_eq_true hlt
              go_upto_region 31 with fail
              clear t1
              go_loop [12] (fun s12 => ∃ u : Nat, s12 = .int .i64 (u : Nat) ∧ u ≤ s) (fun s12 => s - (intOf s12).toNat)
              case atStart => exact ⟨0, rfl, Nat.zero_le _⟩
              case round =>
                obtain ⟨u, rfl, hu⟩ := hrel
                by_cases hlu : u < s
                · have hap := HALL.out s u hlt hlu
                  obtain ⟨p, hp⟩ : ∃ p, T.n * s = p := ⟨_, rfl⟩
                  have hq1 := pj_lt hlt (show u < T.n by omega)
                  rw [HNN.out, hp] at hq1
                  rw [hp] at hap
                  have w1 : IntKind.i64.wrap ((T.n : Int) * (s : Int)) = (p : Int) := by
                    have h1 : ((T.n * s : Nat) : Int) = (T.n : Int) * (s : Int) := Int.natCast_mul _ _
                    rw [← h1, hp, IntKind.wrap_i64]; omega
                  obtain ⟨q, hq⟩ : ∃ q, p + u = q := ⟨_, rfl⟩
                  rw [hq] at hq1 hap
                  have w2 : IntKind.i64.wrap ((p : Int) + (u : Int)) = (q : Int) := by rw [IntKind.wrap_i64]; omega
                  have k1 : wr.cell? ⟨pb, q, none⟩ = some (.bool true) := by
                    have h9 := HK.out.get (boolsV_get ap0 nn q hq1)
                    rwa [hap] at h9
                  have i3 : (q : Int) < (nn : Int) := by omega
                  clear hp hq hap
                  go_wp2
                  go_round
                  case rel => exact ⟨u + 1, by go_num, by omega⟩
                  case measure => simp [intOf]; omega
                · obtain rfl : u = s := by omega
                  go_wp2
                  go_round
                  case rel => exact ⟨u + 1, by go_num, by omega⟩
                  case measure => simp [intOf]; omega
            · obtain rfl : s = T.n := by omega
              go_wp2
              go_ret
              exact ⟨rfl, HB0.out _ HB.out⟩
        | true =>
          have hcn := cntW_eq HK.out
          have HCN := Lib.hid hcn
          have HS0 := Lib.hid (swp_start HI.out.1)
          clear hcn
          obtain ⟨wo, rfl⟩ : ∃ wo : World, wo = wr := ⟨_, rfl⟩
          go_upto_region 14 with fail
          go_loopw [7, 8] (fun s7 s8 wr => ∃ (ap : Nat → Bool) (m : Bool) (s : Nat), s7 = .bool m ∧ s8 = .int .i64 (s : Nat) ∧ s ≤ T.n ∧ RowKit.Hid (Own wr W.heap.size 4 (.slice (some ⟨pb, 0, none⟩) nn nn) (boolsV ap nn)) ∧ RowKit.Hid (Swp T ap0 ap m s 0) ∧ RowKit.Hid (Below W.heap.size W wr)) (fun _ s8 _ => T.n - (intOf s8).toNat)
          case atStart => exact ⟨ap0, false, 0, rfl, rfl, Nat.zero_le _, HK, HS0, HB⟩
          case round =>
            clear HK HS0 HB
            obtain ⟨ap, m, s, rfl, rfl, hs, HK, HS, HB⟩ := hrel
            by_cases hlt : s < T.n
            · have t1 : decide (s < T.n) = true := decide_eq_true hlt
              go_upto_region 17 with fail
              go_loopw [7, 9] (fun s7 s9 wr => ∃ (ap : Nat → Bool) (m : Bool) (u : Nat), s7 = .bool m ∧ s9 = .int .i64 (u : Nat) ∧ u ≤ s ∧ RowKit.Hid (Own wr W.heap.size 4 (.slice (some ⟨pb, 0, none⟩) nn nn) (boolsV ap nn)) ∧ RowKit.Hid (Swp T ap0 ap m s u) ∧ RowKit.Hid (Below W.heap.size W wr)) (fun _ s9 _ => s - (intOf s9).toNat)
              case atStart => exact ⟨ap, m, 0, rfl, rfl, Nat.zero_le _, HK, HS, HB⟩
              case round =>
                clear HK HS HB t1
                obtain ⟨ap, m, u, rfl, rfl, hu, HK, HS, HB⟩ := hrel
                by_cases hlu : u < s
                · have hun : u < T.n := by omega
                  obtain ⟨p, hp⟩ : ∃ p, T.n * s = p := ⟨_, rfl⟩
                  obtain ⟨p2, hp2⟩ : ∃ p, T.n * u = p := ⟨_, rfl⟩
                  have hq1 := pj_lt hlt hun
                  have hq2 := pj_lt hun hlt
                  rw [HNN.out, hp] at hq1
                  rw [HNN.out, hp2] at hq2
                  have w1 : IntKind.i64.wrap ((T.n : Int) * (s : Int)) = (p : Int) := by
                    have h1 : ((T.n * s : Nat) : Int) = (T.n : Int) * (s : Int) := Int.natCast_mul _ _
                    rw [← h1, hp, IntKind.wrap_i64]; omega
                  have w3 : IntKind.i64.wrap ((T.n : Int) * (u : Int)) = (p2 : Int) := by
                    have h1 : ((T.n * u : Nat) : Int) = (T.n : Int) * (u : Int) := Int.natCast_mul _ _
                    rw [← h1, hp2, IntKind.wrap_i64]; omega
                  obtain ⟨q, hq⟩ : ∃ q, p + u = q := ⟨_, rfl⟩
                  obtain ⟨q2, hqq⟩ : ∃ q, p2 + s = q := ⟨_, rfl⟩
                  rw [hq] at hq1
                  rw [hqq] at hq2
                  have w2 : IntKind.i64.wrap ((p : Int) + (u : Int)) = (q : Int) := by rw [IntKind.wrap_i64]; omega
                  have w4 : IntKind.i64.wrap ((p2 : Int) + (s : Int)) = (q2 : Int) := by rw [IntKind.wrap_i64]; omega
                  have hqe : T.n * s + u = q := by rw [hp, hq]
                  have hqe2 : T.n * u + s = q2 := by rw [hp2, hqq]
                  have k1 : wr.cell? ⟨pb, q, none⟩ = some (.bool (ap q)) := HK.out.get (boolsV_get _ _ _ hq1)
                  have i3 : (q : Int) < (nn : Int) := by omega
                  have HQE := Lib.hid hqe
                  have HQE2 := Lib.hid hqe2
                  have HW3 := Lib.hid w3
                  have HW4 := Lib.hid w4
                  have HW1 := Lib.hid w1
                  have HW2 := Lib.hid w2
                  clear hp hp2 hq hqq hqe hqe2 w3 w4
                  cases hb : ap q with
                  | true =>
                    rw [hb] at k1
                    have HS1 := Lib.hid (HS.out.skip (by rw [HQE.out]; exact hb))
                    clear HS hb
                    go_wp2
                    go_roundw
                    case rel => exact ⟨ap, m, u + 1, rfl, by go_num, by omega, HK, HS1, HB⟩
                    case measure => simp [intOf]; omega
                  | false =>
                    rw [hb] at k1
                    have HBF := Lib.hid hb
                    clear hb
                    go_upto_region 21 with fail
                    clear k1 w1 w2
                    obtain ⟨wi, rfl⟩ : ∃ wi : World, wi = wr := ⟨_, rfl⟩
                    go_loopw [7, 10] (fun s7 s10 wr => ∃ (c d : Nat), s7 = .bool m ∧ s10 = .int .i64 (c : Nat) ∧ c ≤ 256 ∧ wr = wi.drewN d ∧ RowKit.Hid (∀ c', c' < c → ap (T.n * T.nx s c' + T.nx u c') = false)) (fun _ s10 _ => 256 - (intOf s10).toNat)
                    case atStart => exact ⟨0, 0, rfl, rfl, Nat.zero_le _, rfl, Lib.hid (fun c' h9 => absurd h9 (Nat.not_lt_zero _))⟩
                    case round =>
                      obtain ⟨c, d, rfl, rfl, hc, rfl, HP⟩ := hrel
                      by_cases hlc : c < 256
                      · have hv1 := HC.out.rng s c hlt hlc
                        have hv2 := HC.out.rng u c hun hlc
                        have x1 := HX.out wi HB.out (256 * s + c) (by omega)
                        have x2 := HX.out wi HB.out (256 * u + c) (by omega)
                        rw [show (256 * s + c) / 256 = s by omega, show (256 * s + c) % 256 = c by omega] at x1
                        rw [show (256 * u + c) / 256 = u by omega, show (256 * u + c) % 256 = c by omega] at x2
                        have z2 := (HZ.out wi HB.out).2
                        have hrn := pj_lt hv1 hv2
                        obtain ⟨v1, e1⟩ : ∃ v, T.nx s c = v := ⟨_, rfl⟩
                        obtain ⟨v2, e2⟩ : ∃ v, T.nx u c = v := ⟨_, rfl⟩
                        rw [e1] at x1 hv1 hrn
                        rw [e2] at x2 hv2 hrn
                        obtain ⟨p1, e3⟩ : ∃ v, T.n * v1 = v := ⟨_, rfl⟩
                        obtain ⟨r, e4⟩ : ∃ v, p1 + v2 = v := ⟨_, rfl⟩
                        rw [HNN.out, e3, e4] at hrn
                        obtain ⟨a1, e5⟩ : ∃ v, 256 * s = v := ⟨_, rfl⟩
                        obtain ⟨a2, e6⟩ : ∃ v, 256 * u = v := ⟨_, rfl⟩
                        obtain ⟨g1, e7⟩ : ∃ v, a1 + c = v := ⟨_, rfl⟩
                        obtain ⟨g2, e8⟩ : ∃ v, a2 + c = v := ⟨_, rfl⟩
                        rw [e5, e7] at x1
                        rw [e6, e8] at x2
                        have j1 : IntKind.i64.wrap (256 * (s : Int)) = (a1 : Int) := by rw [IntKind.wrap_i64]; omega
                        have j2 : IntKind.i64.wrap (256 * (u : Int)) = (a2 : Int) := by rw [IntKind.wrap_i64]; omega
                        have j3 : IntKind.i64.wrap ((a1 : Int) + (c : Int)) = (g1 : Int) := by rw [IntKind.wrap_i64]; omega
                        have j4 : IntKind.i64.wrap ((a2 : Int) + (c : Int)) = (g2 : Int) := by rw [IntKind.wrap_i64]; omega
                        have j5 : IntKind.i64.wrap ((T.n : Int) * (v1 : Int)) = (p1 : Int) := by
                          have h1 : ((T.n * v1 : Nat) : Int) = (T.n : Int) * (v1 : Int) := Int.natCast_mul _ _
                          rw [← h1, e3, IntKind.wrap_i64]; omega
                        have j6 : IntKind.i64.wrap ((p1 : Int) + (v2 : Int)) = (r : Int) := by rw [IntKind.wrap_i64]; omega
                        have i4 : (g1 : Int) < ((256 * T.n : Nat) : Int) := by omega
                        have i5 : (g2 : Int) < ((256 * T.n : Nat) : Int) := by omega
                        have i6 : (r : Int) < (nn : Int) := by omega
                        have kr : wi.cell? ⟨pb, r, none⟩ = some (.bool (ap r)) := HK.out.get (boolsV_get _ _ _ hrn)
                        have hre : T.n * T.nx s c + T.nx u c = r := by rw [e1, e2, e3, e4]
                        have HRE := Lib.hid hre
                        clear e1 e2 e3 e4 e5 e6 e7 e8 hv1 hv2 hre
                        cases hb : ap r with
                        | false =>
                          rw [hb] at kr
                          have HP1 := Lib.hid (show ∀ c', c' < c + 1 → ap (T.n * T.nx s c' + T.nx u c') = false from fun c' h9 => by
                            by_cases e : c' = c
                            · rw [e, HRE.out]; exact hb
                            · exact HP.out c' (by omega))
                          clear hb HP
                          go_upto_region 23 with fail
                          go_quiet (fail)
                          go_wp2
                          go_roundw
                          case rel => exact ⟨c + 1, _, rfl, by go_num, by omega, by first | rfl | exact World.drewN_drewN .., HP1⟩
                          case measure => simp [intOf]; omega
                        | true =>
                          rw [hb] at kr
                          go_upto_region 23 with fail
                          go_quiet (fail)
                          go_upto_region 24 with fail
                          have hkX := (HK.out.drewN d).drewN nq
                          have hbX := below_drewN (below_drewN HB.out d) nq
                          generalize (wi.drewN d).drewN nq = X0 at hkX hbX ⊢
                          clear kr x1 x2 z2 j1 j2 j3 j4 j5 j6 i4 i5 i6
                          have kq : X0.cell? ⟨pb, q, none⟩ = some (.bool (ap q)) := hkX.get (boolsV_get _ _ _ hq1)
                          have fq := hkX.frozen q
                          have hk1 := hkX.set q (.bool true)
                          rw [boolsV_set] at hk1
                          have kq2 : (X0.setCell ⟨pb, q, none⟩ (.bool true)).cell? ⟨pb, q2, none⟩ = some (.bool (if q2 = q then true else ap q2)) := hk1.get (boolsV_get _ _ _ hq2)
                          have fq2 := hk1.frozen q2
                          have hk2 := hk1.set q2 (.bool true)
                          rw [boolsV_set] at hk2
                          have HK2 := Lib.hid (own_to hk2 (boolsV_congr (g := apSet T.n s u ap) fun j _ => by unfold apSet; rw [HQE.out, HQE2.out]))
                          have hp0 := (hkX.lt pb rfl).1
                          have HB2 := Lib.hid ((hbX.setCell (p := ⟨pb, q, none⟩) hp0 (.bool true)).setCell (p := ⟨pb, q2, none⟩) hp0 (.bool true))
                          have HS2 := Lib.hid (HS.out.hit hlt hlu (by rw [HQE.out]; exact HBF.out))
                          have i7 : (q2 : Int) < (nn : Int) := by omega
                          have w1 := HW1.out
                          have w2 := HW2.out
                          have w3 := HW3.out
                          have w4 := HW4.out
                          clear hkX hbX hk1 hk2 hp0 HS HK HB
                          go_wp2
                          generalize (X0.setCell ⟨pb, q, none⟩ (.bool true)).setCell ⟨pb, q2, none⟩ (.bool true) = X2 at HK2 HB2 ⊢
                          go_roundw
                          case rel => exact ⟨apSet T.n s u ap, true, u + 1, rfl, by go_num, by omega, HK2, HS2, HB2⟩
                          case measure => simp [intOf]; omega
                      · obtain rfl : c = 256 := by omega
                        have HS1 := Lib.hid (HS.out.pass HP.out)
                        have HK1 := Lib.hid (HK.out.drewN d)
                        have HB1 := Lib.hid (below_drewN HB.out d)
                        clear HS HP HK HB
                        go_wp2
                        go_roundw
                        case rel => exact ⟨ap, m, u + 1, rfl, by go_num, by omega, HK1, HS1, HB1⟩
                        case measure => simp [intOf]; omega
                · obtain rfl : u = s := by omega
                  have HS1 := Lib.hid HS.out.row
                  clear HS
                  go_wp2
                  go_roundw
                  case rel => exact ⟨ap, m, u + 1, rfl, by go_num, by omega, HK, HS1, HB⟩
                  case measure => simp [intOf]; omega
            · obtain rfl : s = T.n := by omega
              go_wp2
              go_roundw
              case rel => exact ⟨ap, m, rfl, HK, Lib.hid ⟨HS.out.inv, fun e => by subst e; exact HS.out.rest⟩, HB⟩
              case measure =>
                rw [HCN.out, cntW_eq HK.out]
                cases m with
                | false =>
                  have h9 : cntF ap nn = cntF ap0 nn := by
                    unfold cntF
                    congr 1
                    exact List.filter_congr fun j _ => by rw [(HS.out.no rfl).1 j]
                  rw [h9]
                  show 2 * cntF ap0 nn + 0 < 2 * cntF ap0 nn + 1
                  omega
                | true =>
                  obtain ⟨j, hj, h1, h2⟩ := HS.out.yes rfl
                  have h9 := cntF_lt HS.out.up (m := nn) (by rw [← HNN.out]; exact hj) h1 h2
                  show 2 * cntF ap nn + 1 < 2 * cntF ap0 nn + 1
                  omega
end Go.Proofs.YtejmjjgbbojfbaaDoor

/- auto: least. -/
import Derived.Test.YtejmjjgbbojfbaaDoorZG29
import Derived.Test.YtejmjjgbbojfbaaDoorZColF
namespace Go.Proofs.YtejmjjgbbojfbaaDoor
set_option linter.unusedVariables false
open Go.ChangeShapes Go.WideShapes Go.ChangeAt Go.RowKit

/-- What least answers. -/
def LeastPost (w : World) (T : Tab) (e : Ending) (w' : World) : Prop := ∃ (h : Nat) (nv av : Value) (cl : Nat → Nat) (H : Tab), e = .returned (.pointer (some ⟨h, 0, none⟩)) ∧ GraphAt w' w.heap.size h nv av H ∧ Quot T H cl ∧ cl 0 = 0 ∧ 0 < H.n ∧ H.n ≤ T.n ∧ Below w.heap.size w w'
/-- The number of a key. -/
def kF (L : List (List UInt8)) (u : ByteArray) : Option Nat := idxF L u.data.toList
theorem kF_nil : (fun _ => none) = kF [] := by funext u; unfold kF idxF; rw [if_neg (by simp)]
theorem kF_snoc {L : List (List UInt8)} {x : ByteArray} {l : List UInt8} (hx : x.data.toList = l) (h : l ∉ L) : (fun u => if u = x then some L.length else kF L u) = kF (L ++ [l]) := by
  funext u
  unfold kF
  have h9 := congrFun (idxF_snoc h) u.data.toList
  rw [← h9]
  by_cases e : u = x
  · subst e
    rw [if_pos rfl, if_pos hx]
  · rw [if_neg e, if_neg]
    intro e2
    rw [← hx] at e2
    refine e ?_
    cases u with | mk a => cases x with | mk b => exact congrArg ByteArray.mk (Array.ext' e2)
structure LeS (w wr : World) (T : Tab) (key : Nat → List UInt8) (mb fb : Nat) (s : Nat) : Prop where
  mp : StrMap wr mb (keysL key s).length 65536 (kF (keysL key s))
  hm : w.heap.size ≤ mb
  fin : Own wr w.heap.size 3 (.slice (some ⟨fb, 0, none⟩) T.n T.n) (intsV (fun i => if i < s then keyN key i else 0) T.n)
  bl : Below w.heap.size w wr
theorem LeS.below {w wr w2 : World} {T : Tab} {key : Nat → List UInt8} {mb fb s : Nat} (h : LeS w wr T key mb fb s) (hb : Below wr.heap.size wr w2) : LeS w w2 T key mb fb s :=
  ⟨h.mp.below hb (Nat.le_refl _), h.hm, h.fin.below hb (Nat.le_refl _), h.bl.trans (hb.mono h.bl.size)⟩
/-- A state's number stored. -/
theorem LeS.store {w w2 : World} {T : Tab} {key : Nat → List UInt8} {mb fb s : Nat} (hm : StrMap w2 mb (keysL key (s + 1)).length 65536 (kF (keysL key (s + 1)))) (hmb : w.heap.size ≤ mb)
    (hf : Own w2 w.heap.size 3 (.slice (some ⟨fb, 0, none⟩) T.n T.n) (intsV (fun i => if i < s then keyN key i else 0) T.n)) (hb : Below w.heap.size w w2) (k : Nat) (hk : keyN key s = k) :
    LeS w (w2.setCell ⟨fb, s, none⟩ (.int .i64 ((k : Nat) : Int))) T key mb fb (s + 1) := by
  subst hk
  have he : Eff (· = fb) w2 (w2.setCell ⟨fb, s, none⟩ (.int .i64 ((keyN key s : Nat) : Int))) := (Eff.refl (· = fb) w2).setCell (p := ⟨fb, s, none⟩) (fun _ => rfl) _
  refine ⟨hm.eff he (fun e => hm.ne_own hf (by rw [e]; rfl)), hmb, ?_, hb.setCell (p := ⟨fb, s, none⟩) (hf.lt fb rfl).1 _⟩
  have h1 := hf.set s (.int .i64 ((keyN key s : Nat) : Int))
  rw [intsV_set] at h1
  refine own_to h1 (intsV_congr fun i _ => ?_)
  by_cases e : i = s
  · rw [if_pos e, if_pos (by omega), e]
  · rw [if_neg e]
    by_cases e2 : i < s
    · rw [if_pos e2, if_pos (by omega)]
    · rw [if_neg e2, if_neg (by omega)]
theorem keyL_take (cl : Nat → Nat) (nx : Nat → Nat → Nat) (bs : List Nat) (s : Nat) {j : Nat} (hj : j < bs.length) : keyL cl nx (bs.take (j + 1)) s = keyL cl nx (bs.take j) s ++ enc16 (cl (nx s bs[j])) := by
  unfold keyL
  rw [List.take_succ_eq_append_getElem hj, List.flatMap_append, List.flatMap_singleton, List.append_assoc]
theorem keyL_length (cl : Nat → Nat) (nx : Nat → Nat → Nat) (bs : List Nat) (s : Nat) : (keyL cl nx bs s).length = 2 + 2 * bs.length := by
  unfold keyL
  rw [List.length_append, enc16_length]
  have : ∀ l : List Nat, (l.flatMap fun b => enc16 (cl (nx s b))).length = 2 * l.length := by
    intro l
    induction l with
    | nil => rfl
    | cons a r ih => rw [List.flatMap_cons, List.length_append, ih, enc16_length, List.length_cons]; omega
  rw [this]
set_option maxRecDepth 100000 in
set_option maxHeartbeats 4000000 in
theorem least_any (w : World) (B g : Nat) (nv av : Value) (T : Tab) (h : GraphAt w B g nv av T) (hn : T.n ≤ 1024) (hn0 : 0 < T.n) (hr : ∀ s c, s < T.n → c < 256 → T.nx s c < T.n) :
    Calls Tryd.prog 53 #[.pointer (some ⟨g, 0, none⟩)] w (LeastPost w T) := by
  have C1 := columns_any w B g nv av T h hn hr
  have HG := Lib.hid (show ∀ X, Below w.heap.size w X → GraphAt X B g nv av T from fun X e => h.below e (Nat.le_refl _))
  have HR := Lib.hid hr
  obtain ⟨nga, ngc, hnv, hnc, -⟩ := h.at_
  obtain ⟨aga, agc, hav, hac, -⟩ := h.accAt
  subst hnv hav
  clear h hr
  go_enter Tryd.func53, Tryd.ntmps53
  go_wp2_with fail
  refine C1.mono ?_
  rintro e w1 ⟨bA, bC, bs, rfl, hbs, hcols, hbl, hb1⟩
  clear C1
  have hbc := (own_cap hbs).1
  have HBS := Lib.hid (show ∀ X, Below w1.heap.size w1 X → Own X w.heap.size 3 (.slice bA bs.length bC) (natsV bs) from fun X e => hbs.below e (Nat.le_refl _))
  have HCOL := Lib.hid hcols
  have hmk := fun X => make_row elIntG rfl T.n (by omega) (T.n : Int) rfl X
  have g0 : w1.cell? ⟨g, 0, none⟩ = some (.slice nga T.n ngc) := blk_cell (HG.out _ hb1).blk 0
  have hk0 := own_make_ints w1 T.n (by omega)
  have hB12 : Below w1.heap.size w1 (w1.alloc (.cells (madeCells #[.int .i64 0] T.n) 3)) := (Below.refl _ _).alloc (Nat.le_refl _) _
  have HW := Lib.hid (show ∀ X, Below w1.heap.size w1 X → Below w.heap.size w X from fun X e => hb1.trans (e.mono hb1.size))
  have HG1 := Lib.hid (show ∀ X, Below w1.heap.size w1 X → GraphAt X B g (.slice nga T.n ngc) (.slice aga T.n agc) T from fun X e => HG.out X (HW.out X e))
  have g1 : (w1.alloc (.cells (madeCells #[.int .i64 0] T.n) 3)).cell? ⟨g, 1, none⟩ = some (.slice aga T.n agc) := blk_cell (HG1.out _ hB12).blk 1
  have HK0 := Lib.hid (own_to hk0 (intsV_congr (g := fun i => if i < 0 ∧ T.acc i = true then 1 else 0) (fun i _ => by rw [if_neg (by omega)])))
  have HB12 := Lib.hid hB12
  have hz1 := hb1.size
  clear hbs hcols hk0 hB12 hb1
  go_upto_region 4 with fail
  generalize w1.alloc (.cells (madeCells #[.int .i64 0] T.n) 3) = W2 at HK0 HB12 ⊢
  clear g0 g1
  obtain ⟨kb, hkb⟩ : ∃ kb, kb = w1.heap.size := ⟨_, rfl⟩
  rw [← hkb] at HK0 ⊢
  have HKB := Lib.hid hkb
  have HK0 : RowKit.Hid (Own W2 w1.heap.size 3 (.slice (some ⟨kb, 0, none⟩) T.n T.n) (intsV (fun i => if i < 0 ∧ T.acc i = true then 1 else 0) T.n)) := by rw [← hkb]; exact HK0
  clear hkb
  go_loopw [30] (fun s30 wr => ∃ (s : Nat), s30 = .int .i64 (s : Nat) ∧ s ≤ T.n ∧ RowKit.Hid (Own wr w1.heap.size 3 (.slice (some ⟨kb, 0, none⟩) T.n T.n) (intsV (fun i => if i < s ∧ T.acc i = true then 1 else 0) T.n)) ∧ RowKit.Hid (Below w1.heap.size w1 wr)) (fun s30 _ => T.n - (intOf s30).toNat)
  case atStart => exact ⟨0, rfl, Nat.zero_le _, HK0, HB12⟩
  case round =>
    clear HK0 HB12
    obtain ⟨s, rfl, hs, HK, HB⟩ := hrel
    by_cases hlt : s < T.n
    · obtain ⟨aga', agc', ha, -, hcell⟩ := (HG1.out wr HB.out).accAt
      injection ha with e1 e2 e3
      subst e1 e3
      obtain ⟨gab, rfl, -, -, hcell⟩ := hcell hn0
      have a1 := hcell s hlt
      clear hcell e2
      have i1 : (s : Int) < (T.n : Int) := by omega
      cases hbv : T.acc s with
      | true =>
        rw [hbv] at a1
        have k1 : wr.cell? ⟨kb, s, none⟩ = some (.int .i64 (((if s < s ∧ T.acc s = true then 1 else 0 : Nat) : Nat) : Int)) := HK.out.get (intsV_get _ _ _ hlt)
        have f1 := HK.out.frozen s
        have hk1 := HK.out.set s (.int .i64 ((1 : Nat) : Int))
        rw [intsV_set] at hk1
        have HK1 := Lib.hid (own_to hk1 (intsV_congr (g := fun i => if i < s + 1 ∧ T.acc i = true then 1 else 0) (fun i _ => by
          by_cases e : i = s
          · subst e; rw [if_pos rfl, if_pos ⟨by omega, hbv⟩]
          · rw [if_neg e]
            by_cases e2 : i < s ∧ T.acc i = true
            · rw [if_pos e2, if_pos ⟨by omega, e2.2⟩]
            · rw [if_neg e2, if_neg (fun e9 => e2 ⟨by omega, e9.2⟩)])))
        have HB1 := Lib.hid (HB.out.setCell (p := ⟨kb, s, none⟩) (HK.out.lt kb rfl).1 (.int .i64 ((1 : Nat) : Int)))
        clear hk1 HK HB hbv
        go_wp2
        go_roundw
        case rel => exact ⟨s + 1, by go_num, by omega, HK1, HB1⟩
        case measure => simp [intOf]; omega
      | false =>
        rw [hbv] at a1
        have HK1 := Lib.hid (own_to HK.out (intsV_congr (g := fun i => if i < s + 1 ∧ T.acc i = true then 1 else 0) (fun i _ => by
          by_cases e : i = s
          · subst e; rw [if_neg (by omega), if_neg (by rw [hbv]; intro e9; exact absurd e9.2 (by simp))]
          · by_cases e2 : i < s ∧ T.acc i = true
            · rw [if_pos e2, if_pos ⟨by omega, e2.2⟩]
            · rw [if_neg e2, if_neg (fun e9 => e2 ⟨by omega, e9.2⟩)])))
        clear HK hbv
        go_wp2
        go_roundw
        case rel => exact ⟨s + 1, by go_num, by omega, HK1, HB⟩
        case measure => simp [intOf]; omega
    · obtain rfl : s = T.n := by omega
      have hcl : Own wr w1.heap.size 3 (.slice (some ⟨kb, 0, none⟩) T.n T.n) (intsV (fun i => if T.acc i = true then 1 else 0) T.n) := own_to HK.out (intsV_congr (fun i hi => by
        by_cases e : T.acc i = true
        · rw [if_pos ⟨hi, e⟩, if_pos e]
        · rw [if_neg (fun e9 => e e9.2), if_neg e]))
      have hpart := part_start T
      obtain ⟨wq, rfl⟩ : ∃ wq : World, wq = wr := ⟨_, rfl⟩
      have HCL := Lib.hid hcl
      have HPA := Lib.hid hpart
      clear hcl hpart HK
      go_upto_region 10 with fail
      clear HK0
      go_loopw [4, 7] (fun s4 s7 wr => ∃ (kb2 : Nat) (cl : Nat → Nat) (count : Nat), s4 = .slice (some ⟨kb2, 0, none⟩) T.n T.n ∧ s7 = .int .i64 (count : Nat) ∧ count ≤ T.n ∧ RowKit.Hid (Own wr w1.heap.size 3 (.slice (some ⟨kb2, 0, none⟩) T.n T.n) (intsV cl T.n)) ∧ RowKit.Hid (Part T cl count ∧ (0 < count → cl 0 = 0)) ∧ RowKit.Hid (Below w1.heap.size w1 wr)) (fun _ s7 _ => T.n + 1 - (intOf s7).toNat)
      case atStart => exact ⟨kb, _, 0, rfl, rfl, Nat.zero_le _, HCL, Lib.hid ⟨HPA.out, fun h9 => absurd h9 (Nat.lt_irrefl _)⟩, HB⟩
      case round =>
        clear HCL HPA HB
        obtain ⟨kb2, cl, count, rfl, rfl, hcn, HCL, HPA, HB⟩ := hrel
        obtain ⟨wo, rfl⟩ : ∃ wo : World, wo = wr := ⟨_, rfl⟩
        obtain ⟨key, hkey⟩ : ∃ key, key = keyL cl T.nx bs := ⟨_, rfl⟩
        have hzm : (wo.alloc (.map #[] 0)).heap.size = wo.heap.size + 1 := by simp
        have hfn := own_make_ints (wo.alloc (.map #[] 0)) T.n (by omega)
        have hbm : Below wo.heap.size wo (wo.alloc (.map #[] 0)) := (Below.refl _ _).alloc (Nat.le_refl _) _
        have hbf : Below wo.heap.size wo ((wo.alloc (.map #[] 0)).alloc (.cells (madeCells #[.int .i64 0] T.n) 3)) := hbm.alloc hbm.size _
        have hS0 : LeS wo ((wo.alloc (.map #[] 0)).alloc (.cells (madeCells #[.int .i64 0] T.n) 3)) T key wo.heap.size (wo.heap.size + 1) 0 := by
          refine ⟨?_, Nat.le_refl _, ?_, hbf⟩
          · have h9 := StrMap.made wo 65536
            rw [kF_nil] at h9
            exact h9.below (B := (wo.alloc (.map #[] 0)).heap.size) ((Below.refl _ _).alloc (Nat.le_refl _) _) (Nat.le_refl _)
          · rw [hzm] at hfn
            exact own_to (own_base hfn (Nat.le_succ _)) (intsV_congr fun i _ => by rw [if_neg (by omega)])
        have hmm := @run_makeMap Tryd.prog
        have hBS := HBS.out
        have HBSX := Lib.hid (show ∀ X, Below wo.heap.size wo X → Own X w.heap.size 3 (.slice bA bs.length bC) (natsV bs) from fun X e => hBS X (HB.out.trans (e.mono HB.out.size)))
        have HCLX := Lib.hid (show ∀ X, Below wo.heap.size wo X → Own X w1.heap.size 3 (.slice (some ⟨kb2, 0, none⟩) T.n T.n) (intsV cl T.n) from fun X e => HCL.out.below e (Nat.le_refl _))
        have HGX := Lib.hid (show ∀ X, Below wo.heap.size wo X → GraphAt X B g (.slice nga T.n ngc) (.slice aga T.n agc) T from fun X e => HG1.out X (HB.out.trans (e.mono HB.out.size)))
        have HS0 := Lib.hid hS0
        have HKEY := Lib.hid hkey
        have HZM := Lib.hid hzm
        clear hzm hfn hbm hbf hS0 hBS hkey
        go_upto_region 13 with fail
        generalize (wo.alloc (.map #[] 0)).alloc (.cells (madeCells #[.int .i64 0] T.n) 3) = W3 at HS0 ⊢
        generalize wo.heap.size + 1 = fb at HS0 ⊢
        obtain ⟨mb, hmb⟩ : ∃ mb, mb = wo.heap.size := ⟨_, rfl⟩
        have HS0 : RowKit.Hid (LeS wo W3 T key mb fb 0) := by rw [hmb]; exact HS0
        rw [← hmb]
        clear hmb hmm hmk HZM
        go_loopw [46] (fun s46 wr => ∃ (s : Nat), s46 = .int .i64 (s : Nat) ∧ s ≤ T.n ∧ RowKit.Hid (LeS wo wr T key mb fb s)) (fun s46 _ => T.n - (intOf s46).toNat)
        case atStart => exact ⟨0, rfl, Nat.zero_le _, HS0⟩
        case round =>
          clear HS0
          obtain ⟨s, rfl, hs, HS⟩ := hrel
          by_cases hlt : s < T.n
          · obtain ⟨wi, rfl⟩ : ∃ wi : World, wi = wr := ⟨_, rfl⟩
            have hx1 := HPA.out.1.small (by omega) s hlt
            have c1 : wi.cell? ⟨kb2, s, none⟩ = some (.int .i64 ((cl s : Nat) : Int)) := (HCLX.out wi HS.out.bl).get (intsV_get _ _ _ hlt)
            have hkc := (HCLX.out wi HS.out.bl).lt kb2 rfl
            obtain ⟨x, hx⟩ : ∃ x, cl s = x := ⟨_, rfl⟩
            rw [hx] at c1 hx1
            have HX := Lib.hid hx
            have i0 : (s : Int) < (T.n : Int) := by omega
            have i1 : IntKind.u8.wrap (x : Int) = (x : Int) % 256 := by rw [IntKind.wrap_u8]
            have i2 : IntKind.u8.wrap ((x : Int) / 256) = (x : Int) / 256 := by rw [IntKind.wrap_u8]; omega
            have hb0 := (Below.refl wi.heap.size wi).drew
            have HB0 := Lib.hid hb0
            have q2 : wi.drew.cell? ⟨kb2, s, none⟩ = some (.int .i64 (x : Nat)) := c1
            clear hx hb0 c1
            go_upto_region 15 with fail
            refine wp_region_noPanic ?_
            refine wp_region_held_drew (S := fun X => X.cell? ⟨kb2, s, none⟩ = some (.int .i64 (x : Nat))) (by kernel_rfl) q2 (fun hHeld => ?_)
            refine wpAnyH_take (i := 0) (v := ?_) rfl (by kernel_rfl) (by kernel_rfl) (by kernel_rfl) (fun _ _ _ h => h) (Or.inl ⟨by kernel_rfl, ?_⟩) hHeld ?_
            rotate_left
            · intro w hSw
              go_simp
              try with_reducible rfl
            refine wpAnyH_take (i := 1) (v := ?_) rfl (by kernel_rfl) (by kernel_rfl) (by kernel_rfl) (fun _ _ _ h => h) (Or.inl ⟨by kernel_rfl, ?_⟩) hHeld ?_
            rotate_left
            · intro w hSw
              go_simp
              try with_reducible rfl
            refine wpAnyH_take (i := 2) (v := ?_) rfl (by kernel_rfl) (by kernel_rfl) (by kernel_rfl) (fun _ _ _ h => h) (Or.inl ⟨by kernel_rfl, ?_⟩) hHeld ?_
            rotate_left
            · intro w hSw
              go_simp
              try with_reducible rfl
            refine wpAnyH_take (i := 3) (v := ?_) rfl (by kernel_rfl) (by kernel_rfl) (by kernel_rfl) (fun _ _ _ h => h) (Or.inl ⟨by kernel_rfl, ?_⟩) hHeld ?_
            rotate_left
            · intro w hSw
              go_simp
              try with_reducible rfl
            refine wpAnyH_take (i := 4) (v := ?_) rfl (by kernel_rfl) (by kernel_rfl) (by kernel_rfl) (fun _ _ _ h => h) (Or.inl ⟨by kernel_rfl, ?_⟩) hHeld ?_
            rotate_left
            · intro w hSw
              go_simp
              try with_reducible rfl
            refine wpAnyH_take (i := 5) (v := ?_) rfl (by kernel_rfl) (by kernel_rfl) (by kernel_rfl) (fun _ _ _ h => h) (Or.inl ⟨by kernel_rfl, ?_⟩) hHeld ?_
            rotate_left
            · intro w hSw
              go_simp
              try with_reducible rfl
            refine wpAnyH_take (i := 6) (v := ?_) rfl (by kernel_rfl) (by kernel_rfl) (by kernel_rfl) (fun _ _ _ h => h) (Or.inl ⟨by kernel_rfl, ?_⟩) hHeld ?_
            rotate_left
            · intro w hSw
              go_simp
              try with_reducible rfl
            refine wpAnyH_take (i := 7) (v := ?_) rfl (by kernel_rfl) (by kernel_rfl) (by kernel_rfl) (fun _ _ _ h => h) (Or.inl ⟨by kernel_rfl, ?_⟩) hHeld ?_
            rotate_left
            · intro w hSw
              go_simp
              try with_reducible rfl
            refine wpAnyH_take (i := 8) (v := ?_) rfl (by kernel_rfl) (by kernel_rfl) (by kernel_rfl) (fun _ _ _ h => h) (Or.inl ⟨by kernel_rfl, ?_⟩) hHeld ?_
            rotate_left
            · intro w hSw
              go_simp
              try with_reducible rfl
            refine wpAnyH_take (i := 9) (v := ?_) rfl (by kernel_rfl) (by kernel_rfl) (by kernel_rfl) (fun _ _ _ h => h) (Or.inl ⟨by kernel_rfl, ?_⟩) hHeld ?_
            rotate_left
            · intro w hSw
              go_simp
              try with_reducible rfl
            refine wpAnyH_take (i := 10) (v := ?_) rfl (by kernel_rfl) (by kernel_rfl) (by kernel_rfl) (fun _ _ _ h => h) (Or.inl ⟨by kernel_rfl, ?_⟩) hHeld ?_
            rotate_left
            · intro w hSw
              go_simp
              try with_reducible rfl
            generalize World.drew wi = X0 at HB0 hHeld ⊢
            have qa : (X0.alloc (.cells #[.int .u8 ((x : Int) % 256), .int .u8 ((x : Int) / 256)] 5)).cell? ⟨kb2, s, none⟩ = some (.int .i64 (x : Nat)) := (World.cell?_alloc_some _ _ _ (by rw [hHeld]; rfl)).trans hHeld
            have hnew := own_lit X0 wi.heap.size 5 [.int .u8 ((x : Int) % 256), .int .u8 ((x : Int) / 256)] HB0.out.size (by simp [maxLen])
            have hbn := HB0.out.alloc HB0.out.size (.cells #[.int .u8 ((x : Int) % 256), .int .u8 ((x : Int) / 256)] 5)
            have HNEW := Lib.hid hnew
            have HBN := Lib.hid hbn
            have HQA := Lib.hid qa
            clear hnew hbn qa
            refine wpAnyH_ready (rs := [11]) (by kernel_rfl) (by simp) ?_
            refine AllReadyH.cons rfl (fun KK hKK => ?_) ?_
            rotate_left
            · exact AllReadyH.nil
            rw [if_pos (by kernel_rfl)]
            go_simp
            refine hKK.out _ _ HQA.out (fun hHeld => ?_)
            clear hKK KK HQA
            generalize X0.alloc (.cells #[.int .u8 ((x : Int) % 256), .int .u8 ((x : Int) / 256)] 5) = X1 at HNEW HBN hHeld ⊢
            generalize X0.heap.size = kz at HNEW ⊢
            refine wpAnyH_take (i := 12) (v := ?_) rfl (by kernel_rfl) (by kernel_rfl) (by kernel_rfl) (fun _ _ _ h => h) (Or.inl ⟨by kernel_rfl, ?_⟩) hHeld ?_
            rotate_left
            · intro w hSw
              go_simp
              try with_reducible rfl
            clear hHeld
            refine wpAnyH_done (by kernel_rfl) ?_ _
            refine NoPanic.normal ?_
            have HK0 : RowKit.Hid (Own X1 wi.heap.size 5 (.slice (some ⟨kz, 0, none⟩) 2 2) (bytesV (keyL cl T.nx (bs.take 0) s))) := Lib.hid (by
              have e : keyL cl T.nx (bs.take 0) s = enc16 x := by unfold keyL; rw [List.take_zero, List.flatMap_nil, List.append_nil, HX.out]
              rw [e, enc16_cells (by omega)]
              exact HNEW.out)
            clear HNEW i1 i2 q2 HB0
            go_upto_region 17 with fail
            go_loopw [11, 63] (fun s11 s63 wr => ∃ (j : Nat) (A : Option Addr) (C : Nat), s11 = .slice A (2 + 2 * j) C ∧ s63 = .int .i64 (j : Nat) ∧ j ≤ bs.length ∧ RowKit.Hid (Own wr wi.heap.size 5 (.slice A (2 + 2 * j) C) (bytesV (keyL cl T.nx (bs.take j) s))) ∧ RowKit.Hid (Below wi.heap.size wi wr)) (fun _ s63 _ => bs.length - (intOf s63).toNat)
            case atStart => exact ⟨0, some ⟨kz, 0, none⟩, 2, rfl, rfl, Nat.zero_le _, HK0, HBN⟩
            case round =>
              clear HK0 HBN
              obtain ⟨j, A, C, rfl, rfl, hj, HK, HBI⟩ := hrel
              have hbw := HS.out.bl.trans (HBI.out.mono HS.out.bl.size)
              by_cases hjl : j < bs.length
              · have hob := HBSX.out wr hbw
                obtain ⟨bb, rfl⟩ := hob.someAt (by omega)
                have b1 : wr.cell? ⟨bb, j, none⟩ = some (.int .i64 ((bs[j] : Nat) : Int)) := hob.get (natsV_get hjl)
                have hb256 := HCOL.out.1 bs[j] (List.getElem_mem hjl)
                have htk := keyL_take cl T.nx bs s hjl
                obtain ⟨b, hb⟩ : ∃ b, bs[j] = b := ⟨_, rfl⟩
                rw [hb] at b1 hb256 htk
                have hgr := HGX.out wr hbw
                have g0 : wr.cell? ⟨g, 0, none⟩ = some (.slice nga T.n ngc) := blk_cell hgr.blk 0
                obtain ⟨gb, gc, hv, -, -, -, hrg⟩ := hgr.range hlt
                injection hv with e1 e2 e3
                subst e1 e3
                have n1 := hrg b _ (rowV_get (T.nx s) hb256)
                have hyn := HR.out s b hlt hb256
                obtain ⟨y, hy⟩ : ∃ y, T.nx s b = y := ⟨_, rfl⟩
                rw [hy] at n1 hyn htk
                have c2 : wr.cell? ⟨kb2, y, none⟩ = some (.int .i64 ((cl y : Nat) : Int)) := (HCLX.out wr hbw).get (intsV_get _ _ _ hyn)
                have hz1 := HPA.out.1.small (by omega) y hyn
                obtain ⟨z, hz⟩ : ∃ z, cl y = z := ⟨_, rfl⟩
                rw [hz] at c2 hz1 htk
                have j1 : IntKind.u8.wrap (z : Int) = (z : Int) % 256 := by rw [IntKind.wrap_u8]
                have j2 : IntKind.u8.wrap ((z : Int) / 256) = (z : Int) / 256 := by rw [IntKind.wrap_u8]; omega
                have i3 : (s : Int) < (T.n : Int) := by omega
                have i4 : (y : Int) < (T.n : Int) := by omega
                have i5 : (b : Int) < 256 := by omega
                have hnew := own_lit wr wi.heap.size 5 [.int .u8 ((z : Int) % 256), .int .u8 ((z : Int) / 256)] HBI.out.size (by simp [maxLen])
                have hbn := HBI.out.alloc HBI.out.size (.cells #[.int .u8 ((z : Int) % 256), .int .u8 ((z : Int) / 256)] 5)
                have hon := HK.out.alloc (.cells #[.int .u8 ((z : Int) % 256), .int .u8 ((z : Int) / 256)] 5)
                have hl1 : (bytesV (keyL cl T.nx (bs.take j) s)).length + ([.int .u8 ((z : Int) % 256), .int .u8 ((z : Int) / 256)] : List Value).length < 1000000000001 := by
                  rw [bytesV_length, keyL_length, List.length_take]; simp; omega
                have hone : ∀ u ∈ ([.int .u8 ((z : Int) % 256), .int .u8 ((z : Int) / 256)] : List Value), u.oneCell' = true := fun u hu => by
                  simp at hu
                  rcases hu with rfl | rfl <;> rfl
                have hzz := hbn.size
                have HNEW := Lib.hid hnew
                have HBN := Lib.hid hbn
                have HON := Lib.hid hon
                have HL1 := Lib.hid hl1
                have HONE := Lib.hid hone
                have HTK := Lib.hid htk
                clear hnew hbn hon hl1 hone htk hob hb hgr hrg hy hz e2 hbw
                go_upto_region 20 with fail
                clear n1 c2 b1 g0
                go_wp2_with (at_builtin; with_reducible refine apN elBytes HON.out HNEW.out.rd HONE.out HL1.out hzz rfl _ _ rfl rfl rfl ?_)
                intro v1 X2 k1 k2 k3 k4
                have hb2 := HBN.out.grown k4 hzz (fun q hq => (HON.out.lt q hq).1)
                have hcol : bytesV (keyL cl T.nx (bs.take j) s) ++ [.int .u8 ((z : Int) % 256), .int .u8 ((z : Int) / 256)] = bytesV (keyL cl T.nx (bs.take (j + 1)) s) := by
                  rw [HTK.out, bytesV_append, enc16_cells (by omega)]
                rw [hcol] at k1
                obtain ⟨A7, C7, hv7⟩ := own_slice k1
                rw [bytesV_length, keyL_length, List.length_take, Nat.min_eq_left (by omega)] at hv7
                subst hv7
                have HK7 := Lib.hid k1
                have HB7 := Lib.hid hb2
                clear k1 k2 k3 k4 hb2 hcol hzz
                go_wp2
                go_roundw
                case rel => exact ⟨j + 1, A7, C7, rfl, by go_num, by omega, HK7, HB7⟩
                case measure => simp [intOf]; omega
              · obtain rfl : j = bs.length := by omega
                have hK2 : Own wr wi.heap.size 5 (.slice A (2 + 2 * bs.length) C) (bytesV (key s)) := own_to HK.out (by rw [HKEY.out, List.take_length])
                obtain ⟨X, hX⟩ : ∃ X, strOf (key s) = X := ⟨_, rfl⟩
                have hXl : X.data.toList = key s := by rw [← hX]; simp [strOf]
                have hXs : X.size ≤ maxLen := by
                  rw [← hX, strOf_size, HKEY.out, keyL_length]
                  unfold maxLen
                  omega
                have hcv : (convert 26 9 (.slice A (2 + 2 * bs.length) C)).run Tryd.prog wr = .ok (.string X) wr := by rw [← hX]; exact run_str Tryd.underlying26 Tryd.underlying5 Tryd.underlying9 hK2.rd
                have hS2 := HS.out.below HBI.out
                have hmp := hS2.mp
                have HS2 := Lib.hid hS2
                have HMP := Lib.hid hmp
                have HXL := Lib.hid hXl
                have HXS := Lib.hid hXs
                have iz := int_zero
                have HIZ := Lib.hid iz
                clear hK2 hX hXl hXs hS2 hmp iz HS HK HBI hbw
                have f1 := HS2.out.fin.frozen s
                have q1 : wr.cell? ⟨fb, s, none⟩ = some (.int .i64 (((if s < s then keyN key s else 0 : Nat) : Nat) : Int)) := HS2.out.fin.get (intsV_get _ _ _ hlt)
                by_cases hmem : key s ∈ keysL key s
                · have hks : keysL key (s + 1) = keysL key s := by rw [keysL, if_pos hmem]
                  obtain ⟨k, hk⟩ : ∃ k, keyN key s = k := ⟨_, rfl⟩
                  have hid : kF (keysL key s) X = some k := by
                    unfold kF idxF
                    rw [HXL.out, if_pos hmem, ← hk]
                    unfold keyN
                    rw [hks]
                  have hS3 := LeS.store (key := key) (s := s) (mb := mb) (fb := fb) (by rw [hks]; exact HMP.out) HS2.out.hm HS2.out.fin HS2.out.bl k hk
                  have HS3 := Lib.hid hS3
                  have HID2 := Lib.hid hid
                  clear hks hk hid hS3 hmem HS2
                  go_wp2_with (at_lookup; with_reducible refine mp_look HMP.out X HXS.out rfl _ _ _ rfl Tryd.underlying135 (HIZ.out _) rfl rfl ?_; rw [HID2.out]; simp only [Option.getD_some, Option.isSome_some])
                  go_roundw
                  case rel => exact ⟨s + 1, by go_num, by omega, HS3⟩
                  case measure => simp [intOf]; omega
                · have hks : keysL key (s + 1) = keysL key s ++ [key s] := by rw [keysL, if_neg hmem]
                  have hid : kF (keysL key s) X = none := by
                    unfold kF idxF
                    rw [HXL.out, if_neg hmem]
                  obtain ⟨k, hk⟩ : ∃ k, (keysL key s).length = k := ⟨_, rfl⟩
                  have hkn : keyN key s = k := by
                    unfold keyN
                    rw [hks, List.idxOf_append, if_neg hmem, ← hk]
                    simp
                  have hkle : k ≤ 1024 := by have := keysL_len key s; omega
                  have hn1 : (keysL key s).length < 1000000000 := by omega
                  have hk2 : k < 65536 := by omega
                  have hk3 : k ≤ 1000000000 := by omega
                  have HKS := Lib.hid hks
                  have HID2 := Lib.hid hid
                  have HK := Lib.hid hk
                  have HKN := Lib.hid hkn
                  have HN1 := Lib.hid hn1
                  have HK2 := Lib.hid hk2
                  have HK3 := Lib.hid hk3
                  have HNM := Lib.hid hmem
                  clear hks hid hk hkn hn1 hk2 hk3 hmem f1 q1
                  go_upto_region 26 with (first | (at_lookup; with_reducible refine mp_look HMP.out X HXS.out rfl _ _ _ rfl Tryd.underlying135 (HIZ.out _) rfl rfl ?_; rw [HID2.out]; simp only [Option.getD_none, Option.isSome_none]) | (with_reducible refine mp_len HMP.out rfl _ _ rfl Tryd.underlying135 rfl ?_; rw [HK.out]) | (at_mapUpdate; with_reducible refine mp_put HMP.out HN1.out X HXS.out HID2.out k HK2.out HK3.out rfl _ _ _ _ rfl Tryd.underlying135 rfl rfl rfl ?_; intro w5 g1 g2))
                  have he := Eff.ofGrown g2
                  have hm5 : StrMap w5 mb (keysL key (s + 1)).length 65536 (kF (keysL key (s + 1))) := by
                    rw [HKS.out, ← kF_snoc HXL.out HNM.out, List.length_append, HK.out]
                    rw [HK.out] at g1
                    exact g1
                  have ho5 := HS2.out.fin.eff he (fun q hq e => HS2.out.mp.ne_own HS2.out.fin (by rw [hq, e]))
                  have hb5 := HS2.out.bl.grown g2 HS2.out.bl.size (fun q hq => by rw [← Option.some.inj hq]; exact HS2.out.hm)
                  have f1 := ho5.frozen s
                  have q1 : w5.cell? ⟨fb, s, none⟩ = some (.int .i64 (((if s < s then keyN key s else 0 : Nat) : Nat) : Int)) := ho5.get (intsV_get _ _ _ hlt)
                  have hS3 := LeS.store (key := key) (s := s) (mb := mb) (fb := fb) hm5 HS2.out.hm ho5 hb5 k HKN.out
                  have HS3 := Lib.hid hS3
                  clear g1 g2 he hm5 ho5 hb5 hS3 hcv
                  go_wp2
                  go_roundw
                  case rel => exact ⟨s + 1, by go_num, by omega, HS3⟩
                  case measure => simp [intOf]; omega
          · obtain rfl : s = T.n := by omega
            obtain ⟨m, hm⟩ : ∃ m, (keysL key T.n).length = m := ⟨_, rfl⟩
            have hpr := part_round HPA.out.1 (by omega) hn0 HR.out HCOL.out
            rw [← HKEY.out, hm] at hpr
            obtain ⟨hp1, hp2, hp3⟩ := hpr
            have hmp := HS.out.mp
            rw [hm] at hmp
            have hfin := own_to HS.out.fin (intsV_congr (g := keyN key) (fun i hi => by rw [if_pos hi]))
            have hbw := HB.out.trans (HS.out.bl.mono HB.out.size)
            have HMP := Lib.hid hmp
            have HFIN := Lib.hid hfin
            have HBW := Lib.hid hbw
            have HHM := Lib.hid hm
            have hmT := hp3.le
            have hzo := HB.out.size
            clear hmp hfin hbw hm HS
            by_cases heq : m = count
            · have teq : ((m : Int) == (count : Int)) = true := by rw [beq_iff_eq]; omega
              obtain ⟨hf1, hf2, hf3⟩ := hp2 heq
              have hm0 : 0 < count := by
                have h9 := hf2 0 hn0
                omega
              have C2 := joined_any wr B g (.slice nga T.n ngc) (.slice aga T.n agc) T (HG1.out wr HBW.out) (some ⟨fb, 0, none⟩) T.n (keyN key) count HFIN.out.rd hn hn0 (by omega) hf2 HR.out
              have hq := join_quot hf1 hf2 hf3
              have HQ := Lib.hid hq
              have HC2 := Lib.hid C2
              clear hf1 hf2 hf3 hp1 hp2 hp3 hq heq C2
              go_wp2_with (with_reducible refine mp_len HMP.out rfl _ _ rfl Tryd.underlying135 rfl ?_)
              refine HC2.out.mono ?_
              rintro e w7 ⟨hh, nv7, av7, rfl, hg7, hb7⟩
              have HF := Lib.hid (show LeastPost w T (.returned (.pointer (some ⟨hh, 0, none⟩))) w7 from ⟨hh, nv7, av7, keyN key, joinT T (keyN key) count, rfl, hg7.mono (HW.out _ HBW.out).size, HQ.out, keyN_zero key, hm0, hcn, (HW.out _ HBW.out).trans (hb7.mono (HW.out _ HBW.out).size)⟩)
              clear hg7 hb7 HC2
              go_wp2
              go_ret
              exact HF.out
            · have teq : ((m : Int) == (count : Int)) = false := by rw [beq_eq_false_iff_ne]; omega
              have HP3 := Lib.hid hp3
              clear hp2 hp3
              go_wp2_with (with_reducible refine mp_len HMP.out rfl _ _ rfl Tryd.underlying135 rfl ?_)
              go_roundw
              case rel => exact ⟨fb, keyN key, m, rfl, rfl, hmT, Lib.hid (own_base HFIN.out hzo), Lib.hid ⟨HP3.out, fun _ => keyN_zero key⟩, HBW⟩
              case measure => simp [intOf]; omega
end Go.Proofs.YtejmjjgbbojfbaaDoor

/- concordhand: byteMark, and the look at a book's lists of bytes: where no two lie in one block it answers true. -/
import Derived.Test.YtmmflhippbegaaaDoorZLib
import Derived.Test.YtmmflhippbegaaaDoorProg
import Derived.Test.YtmmflhippbegaaaDoorZEl
namespace Go.Proofs.YtmmflhippbegaaaDoor
set_option linter.unusedVariables false
open Go.ChangeShapes Go.WideShapes Go.ChangeAt Go.RowKit

/-! ### Lists of lists -/
def Apart (ls : List Value) : Prop := ∀ (a b : Nat) (x y : Value) (k : Nat), ls[a]? = some x → ls[b]? = some y → a ≠ b → x.ownBlock = some k → y.ownBlock ≠ some k

/-- Each of ls is a list of elements e, the k-th holds C k. -/
def Each (w : World) (base : Nat) (e : TypeId) (ls : List Value) (C : Nat → List Value) : Prop := ∀ k x, ls[k]? = some x → Own w base e x (C k)

theorem each_at {w : World} {base : Nat} {e : TypeId} {ls : List Value} {D : Nat → List Value} (h : Each w base e ls D) {k : Nat} {x : Value} (hx : ls[k]? = some x) {xs : List Value} (hd : D k = xs) : Own w base e x xs := by
  rw [← hd]; exact h k x hx
theorem Each.congr {w : World} {base : Nat} {e : TypeId} {ls : List Value} {C D : Nat → List Value} (h : Each w base e ls C) (hc : ∀ k, k < ls.length → C k = D k) : Each w base e ls D :=
  fun k x hx => by rw [← hc k (List.getElem?_eq_some_iff.1 hx).1]; exact h k x hx

def marksOf (m : Nat → Nat → Value) (i n : Nat) : List Value := (List.range n).map (m i)
theorem marksOf_length (m : Nat → Nat → Value) (i n : Nat) : (marksOf m i n).length = n := by simp [marksOf]
theorem marksOf_succ (m : Nat → Nat → Value) (i n : Nat) : marksOf m i (n + 1) = marksOf m i n ++ [m i n] := by simp [marksOf, List.range_succ]
theorem marksOf_get (m : Nat → Nat → Value) (i n j : Nat) (h : j < n) : (marksOf m i n)[j]? = some (m i j) := by simp [marksOf, h]
theorem marksOf_add (m : Nat → Nat → Value) (i n k : Nat) : marksOf m i (n + k) = marksOf m i n ++ (List.range k).map (fun j => m i (n + j)) := by
  unfold marksOf
  rw [List.range_add, List.map_append, List.map_map]; rfl
def tailOf (m : Nat → Nat → Value) (i n k : Nat) : List Value := (List.range k).map fun j => m i (n + j)
theorem tailOf_length (m : Nat → Nat → Value) (i n k : Nat) : (tailOf m i n k).length = k := by simp [tailOf]
theorem tailOf_succ (m : Nat → Nat → Value) (i n k : Nat) : tailOf m i n (k + 1) = tailOf m i n k ++ [m i (n + k)] := by simp [tailOf, List.range_succ]
theorem marks_tail (m : Nat → Nat → Value) (i n k : Nat) : marksOf m i n ++ tailOf m i n k = marksOf m i (n + k) := (marksOf_add m i n k).symm
def partOf (m : Nat → Nat → Value) (i j : Nat) (xs : List Value) : List Value := marksOf m i j ++ xs.drop j
theorem partOf_zero (m : Nat → Nat → Value) (i : Nat) (xs : List Value) : partOf m i 0 xs = xs := by simp [partOf, marksOf]
theorem partOf_all (m : Nat → Nat → Value) (i : Nat) (xs : List Value) : partOf m i xs.length xs = marksOf m i xs.length := by simp [partOf]
theorem partOf_full (m : Nat → Nat → Value) (i : Nat) {xs : List Value} {n : Nat} (h : xs.length = n) : partOf m i n xs = marksOf m i xs.length := by subst h; exact partOf_all m i xs
theorem partOf_length (m : Nat → Nat → Value) (i j : Nat) (xs : List Value) (h : j ≤ xs.length) : (partOf m i j xs).length = xs.length := by simp [partOf, marksOf]; omega
theorem partOf_set (m : Nat → Nat → Value) (i j : Nat) (xs : List Value) (h : j < xs.length) : (partOf m i j xs).set j (m i j) = partOf m i (j + 1) xs := by
  unfold partOf
  rw [List.set_append_right _ _ (by rw [marksOf_length]; exact Nat.le_refl _), marksOf_length, Nat.sub_self, marksOf_succ, List.drop_eq_getElem_cons h, List.set_cons_zero, List.append_assoc]; rfl

/-! ### The marks -/
def bmN (i j : Nat) : Nat := (i * 37 + j * 11 + 1 + i * j % 5) % 256
def bmV (i j : Nat) : Value := .int .u8 ((bmN i j : Nat) : Int)
theorem bmV_one (i j : Nat) : (bmV i j).oneCell' = true := rfl

theorem elLists : Elem Tryd.prog 38 37 (.slice none 0 0) 24 := ⟨Tryd.underlying38, by kernel_rfl, rfl, by decide⟩
theorem bm_any (i j : Nat) (w : World) (hi : i ≤ 16777216) (hj : j ≤ 4294967296) :
    Calls Tryd.prog 94 #[.int .i64 i, .int .i64 j] w fun e w' => e = .returned (.int .u8 ((bmN i j : Nat) : Int)) ∧ w = w' := by
  have hp : i * j ≤ 16777216 * 4294967296 := Nat.mul_le_mul hi hj
  obtain ⟨p, hp'⟩ : ∃ p, p = i * j := ⟨_, rfl⟩
  have hpi : ((i : Int) * (j : Int)) = (p : Int) := by rw [hp']; simp
  have h1 : (p : Int) ≤ 72057594037927936 := by rw [hp']; omega
  have h0 : 0 ≤ (p : Int) := by omega
  have HP := Lib.hid hp'
  clear hp' hp
  go_enter Tryd.func94, Tryd.ntmps94
  go_wp2
  go_ret
  refine ⟨?_, rfl⟩
  unfold bmN
  refine ret_int ?_
  rw [← HP.out]
  omega

theorem each_store {w : World} {base : Nat} {e : TypeId} {ls : List Value} {D : Nat → List Value} (h : Each w base e ls D) (ha : Apart ls) {i g n c : Nat} (hi : ls[i]? = some (.slice (some ⟨g, 0, none⟩) n c)) (j : Nat) (u : Value) :
    Each (w.setCell ⟨g, j, none⟩ u) base e ls (fun k => if k = i then (D i).set j u else D k) := by
  intro k x hx
  by_cases hk : k = i
  · subst hk
    rw [hi] at hx
    injection hx with hx
    subst hx
    dsimp only
    rw [if_pos rfl]
    exact (h k _ hi).set j u
  · dsimp only
    rw [if_neg hk]
    exact (h k x hx).setOther (ha i k _ x g hi hx (fun e => hk e.symm) rfl) u

/-- v lies in no block of a list of ls but the i-th. -/
def Off (v : Value) (ls : List Value) (i : Nat) : Prop := ∀ (b : Nat) (y : Value) (k : Nat), b ≠ i → ls[b]? = some y → v.ownBlock = some k → y.ownBlock ≠ some k
theorem off_new {v v' : Value} {ls : List Value} {i B : Nat} (h : Off v ls i) (hv : v'.ownBlock = v.ownBlock ∨ v'.ownBlock = some B) (hB : ∀ (b : Nat) (y : Value) (k : Nat), ls[b]? = some y → y.ownBlock = some k → k < B) : Off v' ls i := by
  intro b y k hb hy hk hyk
  rcases hv with hv | hv
  · exact h b y k hb hy (hv ▸ hk) hyk
  · rw [hv] at hk
    injection hk with hk
    have := hB b y k hy hyk
    omega
theorem Each.lt {w : World} {base : Nat} {e : TypeId} {ls : List Value} {D : Nat → List Value} (h : Each w base e ls D) : ∀ (b : Nat) (y : Value) (k : Nat), ls[b]? = some y → y.ownBlock = some k → k < w.heap.size :=
  fun b y k hy hk => ((h b y hy).lt k hk).2
theorem Each.keeps {w w' : World} {base : Nat} {e : TypeId} {ls : List Value} {D : Nat → List Value} (h : Each w base e ls D) {v : Value} {n i : Nat} (hk : Keeps w w' v n) (ho : Off v ls i) (hi : ∀ x, ls[i]? = some x → (D i).length ≤ n) : Each w' base e ls D := by
  intro b y hy
  refine hk _ _ _ _ (h b y hy) fun k h1 h2 => ?_
  by_cases hb : b = i
  · subst hb; exact hi y hy
  · exact absurd h2 (ho b y k hb hy h1)
theorem Each.below {w w' : World} {base : Nat} {e : TypeId} {ls : List Value} {D : Nat → List Value} (h : Each w base e ls D) (hb : Below w.heap.size w w') : Each w' base e ls D :=
  fun k x hx => (h k x hx).below hb (Nat.le_refl _)
theorem Each.drewN {w : World} {base : Nat} {e : TypeId} {ls : List Value} {D : Nat → List Value} (h : Each w base e ls D) (n : Nat) : Each (w.drewN n) base e ls D := fun k x hx => (h k x hx).drewN n
theorem each_snoc {w : World} {base : Nat} {e : TypeId} {ls : List Value} {D : Nat → List Value} {v : Value} (h : Each w base e ls D) (hv : Own w base e v (D ls.length)) : Each w base e (ls ++ [v]) D := by
  intro k x hx
  rcases Nat.lt_trichotomy k ls.length with hk | hk | hk
  · rw [List.getElem?_append_left hk] at hx; exact h k x hx
  · subst hk
    rw [List.getElem?_append_right (Nat.le_refl _), Nat.sub_self] at hx
    simp at hx
    rw [← hx]; exact hv
  · rw [List.getElem?_eq_none (by simp; omega)] at hx; cases hx
theorem off_snoc {v x : Value} {ls : List Value} {i : Nat} (h : Off v ls i) (hx : ls.length ≠ i → ∀ k, v.ownBlock = some k → x.ownBlock ≠ some k) : Off v (ls ++ [x]) i := by
  intro b y k hb hy hk
  rcases Nat.lt_trichotomy b ls.length with hl | hl | hl
  · rw [List.getElem?_append_left hl] at hy; exact h b y k hb hy hk
  · subst hl
    rw [List.getElem?_append_right (Nat.le_refl _), Nat.sub_self] at hy
    simp at hy
    rw [← hy]; exact hx hb k hk
  · rw [List.getElem?_eq_none (by simp; omega)] at hy; cases hy
theorem apart_snoc {ls : List Value} {v : Value} (h : Apart ls) (hv : Off v ls ls.length) : Apart (ls ++ [v]) := by
  intro a b x y k hx hy hab hk
  have get : ∀ (c : Nat) (z : Value), (ls ++ [v])[c]? = some z → (c < ls.length ∧ ls[c]? = some z) ∨ (c = ls.length ∧ z = v) := by
    intro c z hz
    rcases Nat.lt_trichotomy c ls.length with hl | hl | hl
    · rw [List.getElem?_append_left hl] at hz; exact .inl ⟨hl, hz⟩
    · subst hl
      rw [List.getElem?_append_right (Nat.le_refl _), Nat.sub_self] at hz
      simp at hz
      exact .inr ⟨rfl, hz.symm⟩
    · rw [List.getElem?_eq_none (by simp; omega)] at hz; cases hz
  rcases get a x hx with ⟨ha, hx1⟩ | ⟨ha, hx1⟩
  · rcases get b y hy with ⟨hb, hy1⟩ | ⟨hb, hy1⟩
    · exact h a b x y k hx1 hy1 hab hk
    · intro hk2; rw [hy1] at hk2; exact hv a x k (by omega) hx1 hk2 hk
  · rw [hx1] at hk
    rcases get b y hy with ⟨hb, hy1⟩ | ⟨hb, hy1⟩
    · exact hv b y k (by omega) hy1 hk
    · omega

/-- The blocks of the lists. -/
def BlocksOf (ls : List Value) (b : Nat) : Prop := ∃ (k : Nat) (x : Value), ls[k]? = some x ∧ x.ownBlock = some b

set_option maxRecDepth 100000 in
set_option maxHeartbeats 4000000 in
theorem uB_some (w : World) (p q c : Nat) (vi vt : Value) (ls : List Value) (C : Nat → List Value)
    (hp : w.heap[p]? = some (.cells #[.slice (some ⟨q, 0, none⟩) ls.length c, vi, vt] 43 (0, 0))) (hq : Own w 0 37 (.slice (some ⟨q, 0, none⟩) ls.length c) ls)
    (hls : Each w 0 5 ls C) (hap : Apart ls) (hm : ls.length ≤ 2000000) (hC : ∀ k, (C k).length ≤ 1000000000) :
    Calls Tryd.prog 63 #[.pointer (some ⟨p, 0, none⟩)] w fun e w' => e = .returned (.bool true) ∧ Eff (BlocksOf ls) w w' := by
  have hcp : w.cell? ⟨p, 0, none⟩ = some (.slice (some ⟨q, 0, none⟩) ls.length c) := by rw [cell_of_row _ _ _ _ _ _ hp]; rfl
  have hFp : ¬ BlocksOf ls p := fun ⟨k, x, hx, hb⟩ => (hls k x hx).ne_type hp (by decide) hb
  have hFq : ¬ BlocksOf ls q := by
    rintro ⟨k, x, hx, hb⟩
    rcases hq with ⟨h, _⟩ | ⟨g', cap, cur, hv, _, hh, _⟩
    · cases h
    · injection hv with e1
      injection e1 with e1
      injection e1 with e1
      subst e1
      exact (hls k x hx).ne_type hh (by decide) hb
  have HC := Lib.hid hC
  have HLS := Lib.hid hls
  have HAP := Lib.hid hap
  clear hC hls hap
  go_enter Tryd.func63, Tryd.ntmps63
  go_wp2
  go_loopw [24] (fun s wr => ∃ i : Nat, s = .int .i64 i ∧ i ≤ ls.length ∧ Each wr 0 5 ls (fun k => if k < i then marksOf bmV k (C k).length else C k) ∧ Eff (BlocksOf ls) w wr) (fun s _ => ls.length - (intOf s).toNat)
  case atStart => exact ⟨0, rfl, Nat.zero_le _, by simpa using HLS.out, Eff.refl _ _⟩
  case round =>
    obtain ⟨i, rfl, hi, heach, heff⟩ := hrel
    by_cases hlt : i < ls.length
    · obtain ⟨x, hx⟩ : ∃ x, ls[i]? = some x := ⟨_, List.getElem?_eq_getElem hlt⟩
      have hxo : Own wr 0 5 x (C i) := each_at heach hx (if_neg (Nat.lt_irrefl i))
      have hcx : wr.cell? ⟨q, i, none⟩ = some x := heff.cell hFq (hq.get hx)
      obtain ⟨a, cx, rfl⟩ := own_slice hxo
      have hn := HC.out i
      obtain ⟨n, hn'⟩ : ∃ n, (C i).length = n := ⟨_, rfl⟩
      rw [hn'] at hn hx hcx hxo
      have HX := Lib.hid hx
      have HE := Lib.hid heach
      have HN := Lib.hid hn'
      clear hx heach hn'
      go_wp2
      go_loopw [31] (fun s wr => ∃ j : Nat, s = .int .i64 j ∧ j ≤ n ∧ Each wr 0 5 ls (fun k => if k < i then marksOf bmV k (C k).length else if k = i then partOf bmV i j (C i) else C k) ∧ Eff (BlocksOf ls) w wr) (fun s _ => n - (intOf s).toNat)
      case atStart =>
        refine ⟨0, rfl, Nat.zero_le _, HE.out.congr fun k hk => ?_, heff⟩
        by_cases e : k < i
        · rw [if_pos e, if_pos e]
        · rw [if_neg e, if_neg e]
          by_cases e2 : k = i
          · rw [if_pos e2, partOf_zero, e2]
          · rw [if_neg e2]
      case round =>
        obtain ⟨j, rfl, hj, heach, heff⟩ := hrel
        by_cases hlt2 : j < n
        · have hxo2 : Own wr 0 5 (.slice a n cx) (partOf bmV i j (C i)) := each_at heach HX.out (by rw [if_neg (Nat.lt_irrefl i), if_pos rfl])
          obtain ⟨g, rfl⟩ := hxo2.someAt (by omega)
          have hlen : j < (partOf bmV i j (C i)).length := by rw [partOf_length _ _ _ _ (by rw [HN.out]; omega), HN.out]; exact hlt2
          obtain ⟨y, hy⟩ : ∃ y, (partOf bmV i j (C i))[j]? = some y := ⟨_, List.getElem?_eq_getElem hlen⟩
          have hcy := hxo2.get hy
          have hfy := hxo2.frozen j
          have HE2 := Lib.hid heach
          clear heach hy
          go_wp2_with fail
          refine (bm_any i j _ (by omega) (by omega)).mono ?_
          rintro e w' ⟨rfl, rfl⟩
          go_wp2
          go_roundw
          case rel =>
            refine ⟨j + 1, by go_num, by omega, (each_store HE2.out HAP.out HX.out j (bmV i j)).congr fun k hk => ?_, heff.setCell (p := ⟨g, j, none⟩) (fun _ => ⟨i, _, HX.out, rfl⟩) _⟩
            by_cases e : k = i
            · subst e
              rw [if_pos rfl, if_neg (Nat.lt_irrefl k), if_pos rfl, if_neg (Nat.lt_irrefl k), if_pos rfl, partOf_set _ _ _ _ (by rw [HN.out]; exact hlt2)]
            · rw [if_neg e, if_neg e, if_neg e]
          case measure => simp [intOf]; omega
        · go_wp2
          go_roundw
          case rel =>
            obtain rfl : j = n := by omega
            refine ⟨i + 1, by go_num, by omega, heach.congr fun k hk => ?_, heff⟩
            by_cases e : k < i
            · rw [if_pos e, if_pos (show k < i + 1 by omega)]
            · rw [if_neg e]
              by_cases e2 : k = i
              · subst e2; rw [if_pos rfl, if_pos (show k < k + 1 by omega), partOf_full _ _ HN.out]
              · rw [if_neg e2, if_neg (show ¬ k < i + 1 by omega)]
          case measure => simp [intOf]; omega
    · have hi' : i = ls.length := by omega
      have hA : Each wr 0 5 ls (fun k => marksOf bmV k (C k).length) := heach.congr fun k hk => by rw [if_pos (by omega)]
      have hc2 : (wr.alloc (.cells #[] 37)).cell? ⟨p, 0, none⟩ = some (.slice (some ⟨q, 0, none⟩) ls.length c) := (heff.alloc _).cell hFp hcp
      have d1 : decide ((i : Int) < ls.length) = false := by simp; omega
      clear heach hi'
      go_wp2
      go_loopw [6, 48] (fun s6 s wr => ∃ (i : Nat) (gs : List Value), s = .int .i64 i ∧ i ≤ ls.length ∧ gs.length = i ∧ Own wr w.heap.size 37 s6 gs ∧ Each wr 0 5 ls (fun k => marksOf bmV k (C k).length) ∧ Each wr 0 5 gs (fun k => marksOf bmV k ((C k).length + 96)) ∧
          Apart gs ∧ (∀ (a : Nat) (x : Value), gs[a]? = some x → Off x ls a) ∧ Eff (BlocksOf ls) w wr) (fun _ s _ => ls.length - (intOf s).toNat)
      case atStart =>
        exact ⟨0, [], rfl, Nat.zero_le _, rfl, own_empty _ _ _ heff.size, hA.below ((Below.refl _ _).alloc (Nat.le_refl _) _), fun k x hx => by simp at hx, fun a b x y k hx => by simp at hx, fun a x hx => by simp at hx, heff.alloc _⟩
      case round =>
        obtain ⟨i2, gs, rfl, hi2, hgl, hG, hA, hB, hAp, hOff, heff⟩ := hrel
        by_cases hlt2 : i2 < ls.length
        · obtain ⟨x, hx⟩ : ∃ x, ls[i2]? = some x := ⟨_, List.getElem?_eq_getElem hlt2⟩
          have hxo : Own wr 0 5 x (marksOf bmV i2 (C i2).length) := hA i2 x hx
          have hcx : wr.cell? ⟨q, i2, none⟩ = some x := heff.cell hFq (hq.get hx)
          have hxoff : Off x ls i2 := fun b y k hb hy hk => HAP.out i2 b x y k hx hy (fun e => hb e.symm) hk
          have hxoff2 : Off x gs i2 := fun b y k hb hy hk hk2 => hOff b y hy i2 x k (fun e => hb e.symm) hx hk2 hk
          obtain ⟨a, cx, rfl⟩ := own_slice hxo
          rw [marksOf_length] at hx hcx hxo hxoff hxoff2
          have hn := HC.out i2
          obtain ⟨n, hn'⟩ : ∃ n, (C i2).length = n := ⟨_, rfl⟩
          rw [hn'] at hn hx hcx hxo hxoff hxoff2
          have HX := Lib.hid hx
          have HN := Lib.hid hn'
          have HG := Lib.hid hG
          clear hx hn' hG
          go_wp2
          go_loopw [8, 10] (fun s8 s wr => ∃ j : Nat, s = .int .i64 j ∧ j ≤ 16 ∧ Own wr 0 5 s8 (marksOf bmV i2 (n + j)) ∧ Off s8 ls i2 ∧ Off s8 gs i2 ∧ (∀ k, s8.ownBlock = some k → BlocksOf ls k ∨ w.heap.size ≤ k) ∧ Own wr w.heap.size 37 u6 gs ∧
              Each wr 0 5 ls (fun k => marksOf bmV k (C k).length) ∧ Each wr 0 5 gs (fun k => marksOf bmV k ((C k).length + 96)) ∧ Eff (BlocksOf ls) w wr) (fun _ s _ => 16 - (intOf s).toNat)
          case atStart => exact ⟨0, rfl, by omega, by simpa using hxo, hxoff, hxoff2, fun k hk => .inl ⟨i2, _, HX.out, hk⟩, HG.out, hA, hB, heff⟩
          case round =>
            obtain ⟨j, rfl, hj, h8, ho1, ho2, hbk, hG, hA, hB, heff⟩ := hrel
            by_cases hlt3 : j < 16
            · have HA := Lib.hid hA
              have HB := Lib.hid hB
              clear hA hB
              have hl8 : (marksOf bmV i2 (n + j)).length < 1000000000000 := by rw [marksOf_length]; omega
              go_wp2_with fail
              refine (bm_any i2 (n + j) _ (by omega) (by omega)).mono ?_
              rintro e w' ⟨rfl, rfl⟩
              go_wp2_with (at_builtin; with_reducible refine ap1' elBytes rfl h8 hl8 (Nat.zero_le _) rfl _ _ rfl rfl rfl ?_)
              intro v' w1 g1 g2 g3 g4
              rw [marksOf_length] at g2
              go_wp2
              go_roundw
              case rel =>
                have hgr : ∀ k, u8.ownBlock = some k → k < w.heap.size → BlocksOf ls k := fun k hk hlt => (hbk k hk).resolve_right (by omega)
                refine ⟨j + 1, by go_num, by omega, own_to g1 (by rw [← Nat.add_assoc, marksOf_succ]; rfl), off_new (B := wr.heap.size + 1) ho1 (g3.imp id (·.1)) (fun b y k hy hk => Nat.lt_succ_of_lt (HA.out.lt b y k hy hk)),
                  off_new (B := wr.heap.size + 1) ho2 (g3.imp id (·.1)) (fun b y k hy hk => Nat.lt_succ_of_lt (HB.out.lt b y k hy hk)), ?_, ?_, HA.out.keeps g2 ho1 ?_, HB.out.keeps g2 ho2 ?_, heff.grown g4 hgr⟩
                · intro k hk
                  rcases g3 with g3 | ⟨g3, _⟩
                  · exact hbk k (g3 ▸ hk)
                  · rw [g3] at hk; injection hk with hk; exact .inr (by have := heff.size; omega)
                · exact g2 _ _ _ _ hG fun k h1 h2 => absurd h2 (own_types h8 hG (by decide) h1)
                · intro x hx; rw [marksOf_length, HN.out]; omega
                · intro x hx; rw [List.getElem?_eq_none (by omega)] at hx; cases hx
              case measure => simp [intOf]; omega
            · have h8 := own_to h8 (show _ = marksOf bmV i2 (n + 16) by rw [show j = 16 by omega])
              have d2 : decide ((j : Int) < 16) = false := by simp; omega
              have HA := Lib.hid hA
              have HB := Lib.hid hB
              clear hA hB
              obtain ⟨wo, rfl⟩ : ∃ wo, wo = wr := ⟨_, rfl⟩
              have d3 : decide ((i2 : Int) < ls.length) = true := by simp; omega
              go_wp2
              go_loopw [11, 12] (fun s11 s wr => ∃ j : Nat, s = .int .i64 j ∧ j ≤ 80 ∧ Own wr wo.heap.size 5 s11 (tailOf bmV i2 (n + 16) j) ∧ Below wo.heap.size wo wr) (fun _ s _ => 80 - (intOf s).toNat)
              case atStart => exact ⟨0, rfl, by omega, own_empty _ _ _ (Nat.le_refl _), (Below.refl _ _).alloc (Nat.le_refl _) _⟩
              case round =>
                obtain ⟨j, rfl, hj, h11, hbel⟩ := hrel
                by_cases hlt4 : j < 80
                · have hl11 : (tailOf bmV i2 (n + 16) j).length < 1000000000000 := by rw [tailOf_length]; omega
                  have hsz := hbel.size
                  go_wp2_with fail
                  refine (bm_any i2 (n + 16 + j) _ (by omega) (by omega)).mono ?_
                  rintro e w' ⟨rfl, rfl⟩
                  go_wp2_with (at_builtin; with_reducible refine ap1' elBytes rfl h11 hl11 hsz rfl _ _ rfl rfl rfl ?_)
                  intro v' w1 g1 g2 g3 g4
                  go_wp2
                  go_roundw
                  case rel => exact ⟨j + 1, by go_num, by omega, own_to g1 (by rw [tailOf_succ]; rfl), hbel.grown g4 hsz (fun k hk => (h11.lt k hk).1)⟩
                  case measure => simp [intOf]; omega
                · obtain rfl : j = 80 := by omega
                  have h8' := h8.below hbel (Nat.le_refl _)
                  have hG' := hG.below hbel (Nat.le_refl _)
                  have hA' := HA.out.below hbel
                  have hB' := HB.out.below hbel
                  have heff' := heff.trans (Eff.of_below hbel (fun _ => False)) (fun _ h _ => h.elim)
                  have hone : ∀ u ∈ (tailOf bmV i2 (n + 16) 80), u.oneCell' = true := by
                    intro u hu
                    obtain ⟨k, _, rfl⟩ := List.mem_map.1 hu
                    rfl
                  have hl8 : (marksOf bmV i2 (n + 16)).length + (tailOf bmV i2 (n + 16) 80).length < 1000000000001 := by rw [marksOf_length, tailOf_length]; omega
                  have hsz := hbel.size
                  have HA' := Lib.hid hA'
                  have HB' := Lib.hid hB'
                  have HO := Lib.hid hone
                  clear hA' hB' hone
                  go_wp2_with (at_builtin; with_reducible refine apN elBytes h8' h11.rd HO.out hl8 (Nat.zero_le _) rfl _ _ rfl rfl rfl ?_)
                  intro v' w1 g1 g2 g3 g4
                  rw [marksOf_length] at g2
                  rw [marks_tail] at g1
                  have ho1' : Off v' ls i2 := off_new ho1 (g3.imp id (·.1)) (fun b y k hy hk => HA'.out.lt b y k hy hk)
                  have ho2' : Off v' gs i2 := off_new ho2 (g3.imp id (·.1)) (fun b y k hy hk => HB'.out.lt b y k hy hk)
                  have hbk' : ∀ k, v'.ownBlock = some k → BlocksOf ls k ∨ w.heap.size ≤ k := by
                    intro k hk
                    rcases g3 with g3 | ⟨g3, _⟩
                    · exact hbk k (g3 ▸ hk)
                    · rw [g3] at hk; injection hk with hk; exact .inr (by have := heff'.size; omega)
                  have heff2 := heff'.grown g4 (fun k hk hlt => (hbk k hk).resolve_right (by omega))
                  have hA2 := HA'.out.keeps g2 ho1 (fun x hx => by rw [marksOf_length, HN.out]; omega)
                  have hB2 := HB'.out.keeps g2 ho2 (fun x hx => by rw [List.getElem?_eq_none (by omega)] at hx; cases hx)
                  have hG2 := g2 _ _ _ _ hG' fun k h1 h2 => absurd h2 (own_types h8' hG' (by decide) h1)
                  obtain ⟨av, cv, rfl⟩ := own_slice g1
                  rw [marksOf_length] at *
                  have hlG : gs.length < 1000000000000 := by omega
                  have hszG := heff2.size
                  have HA2 := Lib.hid hA2
                  have HB2 := Lib.hid hB2
                  clear hA2 hB2 HA' HB' HO g3
                  go_wp2_with (at_builtin; with_reducible refine ap1' elLists rfl hG2 hlG hszG rfl _ _ rfl rfl rfl ?_)
                  intro v2 w2 k1 k2 k3 k4
                  go_wp2
                  go_roundw
                  case rel =>
                    have hfr : ∀ k, u6.ownBlock = some k → k < w.heap.size → BlocksOf ls k := fun k hk hlt => absurd (hG2.lt k hk).1 (by omega)
                    have hv2 : Own w2 0 5 (.slice av (n + 16 + 80) cv) (marksOf bmV i2 (n + 16 + 80)) := k2 _ _ _ _ g1 fun k h1 h2 => absurd h1 (own_types g1 hG2 (by decide) h2)
                    refine ⟨i2 + 1, gs ++ [.slice av (n + 16 + 80) cv], by go_num, by omega, by simp [hgl], k1, ?_, ?_, apart_snoc hAp (by rw [hgl]; exact ho2'), ?_, heff2.grown k4 hfr⟩
                    · exact fun b y hy => k2 _ _ _ _ (HA2.out b y hy) fun k h1 h2 => absurd h1 (own_types (HA2.out b y hy) hG2 (by decide) h2)
                    · refine each_snoc (fun b y hy => k2 _ _ _ _ (HB2.out b y hy) fun k h1 h2 => absurd h1 (own_types (HB2.out b y hy) hG2 (by decide) h2)) ?_
                      rw [hgl, HN.out]; exact hv2
                    · intro a x hx
                      rcases Nat.lt_trichotomy a gs.length with hl | hl | hl
                      · rw [List.getElem?_append_left hl] at hx; exact hOff a x hx
                      · subst hl
                        rw [List.getElem?_append_right (Nat.le_refl _), Nat.sub_self] at hx
                        simp at hx
                        rw [← hx, hgl]; exact ho1'
                      · rw [List.getElem?_eq_none (by simp; omega)] at hx; cases hx
                  case measure => simp [intOf]; omega
        · have hgl2 : gs.length ≤ ls.length := by omega
          have hgl3 : ls.length ≤ gs.length := by omega
          clear hgl
          have d3 : decide ((i2 : Int) < ls.length) = false := by simp; omega
          obtain ⟨ag, cg, hG6⟩ := own_slice hG
          have HA := Lib.hid hA
          have HB := Lib.hid hB
          have HAP2 := Lib.hid hAp
          have HOF := Lib.hid hOff
          clear hA hB hAp hOff
          subst hG6
          obtain ⟨wo, rfl⟩ : ∃ wo, wo = wr := ⟨_, rfl⟩
          go_wp2
          go_loopw [91] (fun s wr => ∃ (k d : Nat), s = .int .i64 k ∧ k ≤ gs.length ∧ wr = wo.drewN d) (fun s _ => gs.length - (intOf s).toNat)
          case atStart => exact ⟨0, 0, rfl, Nat.zero_le _, rfl⟩
          case round =>
            obtain ⟨k, d, rfl, hk, rfl⟩ := hrel
            by_cases hlt3 : k < gs.length
            · obtain ⟨x, hx⟩ : ∃ x, gs[k]? = some x := ⟨_, List.getElem?_eq_getElem hlt3⟩
              obtain ⟨gg, rfl⟩ := hG.someAt (by omega)
              have hcx : wo.cell? ⟨gg, k, none⟩ = some x := hG.get hx
              have hxo := HB.out k x hx
              obtain ⟨a, cx, rfl⟩ := own_slice hxo
              rw [marksOf_length] at hcx hxo hx
              have hn := HC.out k
              obtain ⟨n, hn'⟩ : ∃ n, (C k).length = n := ⟨_, rfl⟩
              rw [hn'] at hn hcx hxo
              go_wp2
              go_loopw [98] (fun s wr => ∃ (j d2 : Nat), s = .int .i64 j ∧ j ≤ n + 96 ∧ wr = wo.drewN d2) (fun s _ => n + 96 - (intOf s).toNat)
              case atStart => exact ⟨0, d, rfl, Nat.zero_le _, rfl⟩
              case round =>
                obtain ⟨j, d2, rfl, hj, rfl⟩ := hrel
                by_cases hlt4 : j < n + 96
                · obtain ⟨g2, rfl⟩ := hxo.someAt (by omega)
                  have hcy : wo.cell? ⟨g2, j, none⟩ = some (.int .u8 ((bmN k j : Nat) : Int)) := hxo.get (marksOf_get _ _ _ _ (by omega))
                  have q1 : (j : Int) < n + 96 := by omega
                  go_upto_region 33 with fail
                  go_quiet ((go_at_call 94; exact quiet_leftNN (bm_any k j _ (by omega) (by omega))))
                  go_wp2
                  go_roundw
                  case rel => exact ⟨j + 1, d2 + nq, by go_num, by omega, rfl⟩
                  case measure => simp [intOf]; omega
                · go_wp2
                  go_roundw
                  case rel => exact ⟨k + 1, d2, by go_num, by omega, rfl⟩
                  case measure => simp [intOf]; omega
            · have hc3 : wo.cell? ⟨p, 0, none⟩ = some (.slice (some ⟨q, 0, none⟩) ls.length c) := heff.cell hFp hcp
              go_wp2
              go_loopw [116] (fun s wr => ∃ (k d : Nat), s = .int .i64 k ∧ k ≤ ls.length ∧ wr = wo.drewN d) (fun s _ => ls.length - (intOf s).toNat)
              case atStart => exact ⟨0, d, rfl, Nat.zero_le _, rfl⟩
              case round =>
                obtain ⟨k, d, rfl, hk, rfl⟩ := hrel
                by_cases hlt3 : k < ls.length
                · obtain ⟨x, hx⟩ : ∃ x, ls[k]? = some x := ⟨_, List.getElem?_eq_getElem hlt3⟩
                  have hcx : wo.cell? ⟨q, k, none⟩ = some x := heff.cell hFq (hq.get hx)
                  have hxo := HA.out k x hx
                  obtain ⟨a, cx, rfl⟩ := own_slice hxo
                  rw [marksOf_length] at hcx hxo hx
                  have hn := HC.out k
                  obtain ⟨n, hn'⟩ : ∃ n, (C k).length = n := ⟨_, rfl⟩
                  rw [hn'] at hn hcx hxo
                  go_wp2
                  go_loopw [123] (fun s wr => ∃ (j d2 : Nat), s = .int .i64 j ∧ j ≤ n ∧ wr = wo.drewN d2) (fun s _ => n - (intOf s).toNat)
                  case atStart => exact ⟨0, d, rfl, Nat.zero_le _, rfl⟩
                  case round =>
                    obtain ⟨j, d2, rfl, hj, rfl⟩ := hrel
                    by_cases hlt4 : j < n
                    · obtain ⟨g2, rfl⟩ := hxo.someAt (by omega)
                      have hcy : wo.cell? ⟨g2, j, none⟩ = some (.int .u8 ((bmN k j : Nat) : Int)) := hxo.get (marksOf_get _ _ _ _ (by omega))
                      have q1 : (j : Int) < n := by omega
                      go_upto_region 43 with fail
                      go_quiet ((go_at_call 94; exact quiet_leftNN (bm_any k j _ (by omega) (by omega))))
                      go_wp2
                      go_roundw
                      case rel => exact ⟨j + 1, d2 + nq, by go_num, by omega, rfl⟩
                      case measure => simp [intOf]; omega
                    · go_wp2
                      go_roundw
                      case rel => exact ⟨k + 1, d2, by go_num, by omega, rfl⟩
                      case measure => simp [intOf]; omega
                · go_wp2
                  go_ret
                  exact ⟨rfl, heff.drewN d⟩

set_option maxRecDepth 100000 in
set_option maxHeartbeats 1000000 in
theorem uB_nil (w : World) (p : Nat) (vi vt : Value)
    (hp : w.heap[p]? = some (.cells #[.slice none 0 0, vi, vt] 43 (0, 0))) :
    Calls Tryd.prog 63 #[.pointer (some ⟨p, 0, none⟩)] w fun e w' => e = .returned (.bool true) ∧ Eff (fun _ => False) w w' := by
  have hcp : w.cell? ⟨p, 0, none⟩ = some (.slice none 0 0) := by rw [cell_of_row _ _ _ _ _ _ hp]; rfl
  have hc2 : (w.alloc (.cells #[] 37)).cell? ⟨p, 0, none⟩ = some (.slice none 0 0) := ((Eff.refl (fun _ => False) w).alloc _).cell (fun h => h) hcp
  go_enter Tryd.func63, Tryd.ntmps63
  go_wp2
  go_loopw [24] (fun s wr => s = .int .i64 0 ∧ w = wr) (fun s _ => 0)
  case atStart => exact ⟨rfl, rfl⟩
  case round =>
    obtain ⟨rfl, rfl⟩ := hrel
    go_wp2
    go_loopw [6, 48] (fun s6 s wr2 => s = .int .i64 0 ∧ s6 = .slice (some ⟨w.heap.size, 0, none⟩) 0 0 ∧ w.alloc (.cells #[] 37) = wr2) (fun _ s _ => 0)
    case atStart => exact ⟨rfl, rfl, rfl⟩
    case round =>
      obtain ⟨rfl, rfl, rfl⟩ := hrel
      go_wp2
      go_loopw [91] (fun s wr2 => s = .int .i64 0 ∧ w.alloc (.cells #[] 37) = wr2) (fun s _ => 0)
      case atStart => exact ⟨rfl, rfl⟩
      case round =>
        obtain ⟨rfl, rfl⟩ := hrel
        go_wp2
        go_loopw [116] (fun s wr2 => s = .int .i64 0 ∧ w.alloc (.cells #[] 37) = wr2) (fun s _ => 0)
        case atStart => exact ⟨rfl, rfl⟩
        case round =>
          obtain ⟨rfl, rfl⟩ := hrel
          go_wp2
          go_ret
          exact ⟨rfl, (Eff.refl _ _).alloc _⟩
end Go.Proofs.YtmmflhippbegaaaDoor

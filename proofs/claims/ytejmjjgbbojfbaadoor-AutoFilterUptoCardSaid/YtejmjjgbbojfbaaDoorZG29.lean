/- Merged: TermH, HitP, MachO, TabL, Through, LeastP, JoinF. -/
import Derived.Test.YtejmjjgbbojfbaaDoorZWalkT
import Derived.Test.YtejmjjgbbojfbaaDoorZOpened
import Derived.Test.YtejmjjgbbojfbaaDoorZG16
import Derived.Test.YtejmjjgbbojfbaaDoorZG9
import Derived.Test.YtejmjjgbbojfbaaDoorZBegins
import Derived.Test.YtejmjjgbbojfbaaDoorZG23
import Derived.Test.YtejmjjgbbojfbaaDoorZG11
import Derived.Test.YtejmjjgbbojfbaaDoorZWhole
import Derived.BigQuiet
import Derived.Test.YtejmjjgbbojfbaaDoorZG26
import Derived.Deep.RegionHeld3
/- AutoTerms, AutoFilter: small helpers. -/
namespace Go.Proofs.YtejmjjgbbojfbaaDoor
set_option linter.unusedVariables false
open Go.ChangeShapes Go.WideShapes Go.ChangeAt Go.RowKit

theorem Sent.derr {w : World} {EA : Nat → Addr} (h : Sent w EA) : DErr w EA := ⟨⟨h.c1, h.c2, h.c3, h.c4⟩, h.c10, h.c5⟩
theorem stopL_no (H : List Nat) : stopL H (-1) = H := by unfold stopL; rw [if_neg (by omega)]
theorem stopL_at (H : List Nat) (k : Nat) (h1 : 1 ≤ k) (h2 : k ≤ H.length) : stopL H (k : Int) = H.take k := by unfold stopL; rw [if_pos (by omega)]; rfl
theorem rd_takeN {w : World} {A : Option Addr} {n c : Nat} {l : List Nat} (h : Rd w (.slice A n c) (natsV l)) {k : Nat} (hk : k ≤ l.length) : Rd w (.slice A k c) (natsV (l.take k)) := by
  obtain ⟨A', c', hv, hc, hg⟩ := h
  injection hv with e1 e2 e3
  subst e1 e2 e3
  have hl : (natsV (l.take k)).length = k := by rw [natsV_length, List.length_take]; omega
  have hl2 := natsV_length l
  refine ⟨A, c, by rw [hl], by omega, fun h0 => ?_⟩
  obtain ⟨b, o, rfl, ha⟩ := hg (by omega)
  refine ⟨b, o, rfl, fun j x hx => ha j x ?_⟩
  have hj : j < k := by
    have := (List.getElem?_eq_some_iff.1 hx).1
    omega
  unfold natsV at hx ⊢
  rw [List.map_take, List.getElem?_take, if_pos hj] at hx
  exact hx
end Go.Proofs.YtejmjjgbbojfbaaDoor

/- The hits' numbers. No program occurs here but for begB. -/
namespace Go.Proofs.YtejmjjgbbojfbaaDoor
set_option linter.unusedVariables false
open Go.ChangeShapes Go.WideShapes Go.ChangeAt Go.RowKit

def hitK (M : Mach) (h x : List UInt8) : Bool := pre h x && accM M (x.drop h.length)
/-- The hits' numbers among the first k rows. -/
def hitsP (M : Mach) (h : List UInt8) (rows : List ByteArray) (k : Nat) : List Nat := (List.range k).filter fun i => hitK M h (rows.getD i ⟨#[]⟩).data.toList
theorem hitsP_hit {M : Mach} {h : List UInt8} {rows : List ByteArray} {k : Nat} (hk : k < rows.length) (hh : hitK M h rows[k].data.toList = true) : hitsP M h rows (k + 1) = hitsP M h rows k ++ [k] := by
  unfold hitsP
  rw [List.range_succ, List.filter_append]
  simp [hk, hh]
theorem hitsP_no {M : Mach} {h : List UInt8} {rows : List ByteArray} {k : Nat} (hk : k < rows.length) (hh : hitK M h rows[k].data.toList = false) : hitsP M h rows (k + 1) = hitsP M h rows k := by
  unfold hitsP
  rw [List.range_succ, List.filter_append]
  simp [hk, hh]
theorem hitsP_len (M : Mach) (h : List UInt8) (rows : List ByteArray) (k : Nat) : (hitsP M h rows k).length ≤ k := by
  unfold hitsP
  exact Nat.le_trans (List.length_filter_le _ _) (by simp)
theorem begB_pre (x h : ByteArray) : begB x h = pre h.data.toList x.data.toList := by
  have h1 : x.data.toList.length = x.size := Array.length_toList (xs := x.data)
  have h2 : h.data.toList.length = h.size := Array.length_toList (xs := h.data)
  unfold begB pre
  rw [ext_take, ba_list, h1, h2]
/-- The law's numbers are the hits' numbers. -/
theorem terms_hits (M : Mach) (h : List UInt8) (rows : List ByteArray) : (termsP M h (entsN rows rows.length) rows.length).map (·.1) = hitsP M h rows rows.length := by
  unfold termsP hitsP
  rw [List.map_map]
  have e : ((fun x : Nat × EntV => x.1) ∘ fun i => (i, entD (entsN rows rows.length) i)) = id := rfl
  rw [e, List.map_id]
  refine List.filter_congr fun i hi => ?_
  have hi : i < rows.length := List.mem_range.1 hi
  rw [entD_eq _ i (by rw [entsN_length]; exact hi), entsN_get]
  rfl
end Go.Proofs.YtejmjjgbbojfbaaDoor

/- The machine of what an automaton is made of. -/
namespace Go.Proofs.YtejmjjgbbojfbaaDoor
set_option linter.unusedVariables false
open Go.ChangeShapes Go.WideShapes Go.ChangeAt Go.RowKit

/-- The machine of what an automaton is made of. -/
def OfV.mach (o : OfV) : Mach :=
  if o.k = 3 then wildM ((elems o.s.data.toList).getD []) else if o.k = 4 then fuzzM o.s.data.toList o.n.toNat else if o.k = 2 then prefixM o.s.data.toList
  else if o.k = 5 then spanM o.lop o.lin o.ls o.hop o.hin o.hs else exactM o.s.data.toList
theorem at_mach {w : World} {p : Nat} {o : OfV} (h : AutoAt w p o) (hs : o.s.size ≤ 1000000000) (hl : o.ls.size ≤ 1000000000) (hh : o.hs.size ≤ 1000000000) : IsAuto w p o.mach := by
  obtain ⟨h0, h3, h4, h2, h5, h1⟩ := h
  unfold OfV.mach
  by_cases k3 : o.k = 3
  · rw [if_pos k3]; obtain ⟨es, he, ha⟩ := h3 k3; rw [he]; exact ha
  rw [if_neg k3]
  by_cases k4 : o.k = 4
  · rw [if_pos k4]; exact h4 k4
  rw [if_neg k4]
  by_cases k2 : o.k = 2
  · rw [if_pos k2]; exact prefixM_auto hs (h2 k2)
  rw [if_neg k2]
  by_cases k5 : o.k = 5
  · rw [if_pos k5]; exact spanM_auto hl hh (h5 k5)
  rw [if_neg k5]
  exact exactM_auto hs (h1 k2 k3 k4 k5)
end Go.Proofs.YtejmjjgbbojfbaaDoor

/- auto, plain: the graph of a machine's descriptions, and the language that it accepts. -/
namespace Go.Proofs.YtejmjjgbbojfbaaDoor
set_option linter.unusedVariables false

def u8s (w : List Nat) : List UInt8 := w.map UInt8.ofNat
/-- The language of a machine. -/
def langM (M : Mach) (w : List Nat) : Bool := accM M (u8s w)
/-- A graph of descriptions: state s has the description ds s. -/
structure Lay (M : Mach) (T : Tab) (ds : Nat → ByteArray) : Prop where
  pos : 0 < T.n
  zero : ds 0 = M.start
  acc : ∀ s, s < T.n → T.acc s = (decide (ds s ≠ ⟨#[]⟩) && M.acc (ds s))
  nx : ∀ s c, s < T.n → c < 256 → T.nx s c < T.n ∧ ds (T.nx s c) = stepM M (ds s) (UInt8.ofNat c)
theorem Lay.run {M : Mach} {T : Tab} {ds : Nat → ByteArray} (h : Lay M T ds) : ∀ (w : List Nat) (s : Nat), Bytes w → s < T.n → T.run s w < T.n ∧ ds (T.run s w) = (u8s w).foldl (stepM M) (ds s)
  | [], s, _, hs => ⟨hs, rfl⟩
  | c :: r, s, hw, hs => by
    have hc := hw c (List.mem_cons_self ..)
    obtain ⟨h1, h2⟩ := h.nx s c hs hc
    obtain ⟨i1, i2⟩ := h.run r (T.nx s c) (fun x hx => hw x (List.mem_cons_of_mem _ hx)) h1
    refine ⟨i1, ?_⟩
    show ds (T.run (T.nx s c) r) = _
    rw [i2, h2]
    rfl
theorem Lay.lang {M : Mach} {T : Tab} {ds : Nat → ByteArray} (h : Lay M T ds) : ∀ w, Bytes w → T.acc (T.run 0 w) = langM M w := fun w hw => by
  obtain ⟨h1, h2⟩ := h.run w 0 hw h.pos
  rw [h.acc _ h1, h2, h.zero]
  rfl
/-- The least table of a machine's graph. -/
theorem least_canon {M : Mach} {T H K : Tab} {ds : Nat → ByteArray} {cl nm mt : Nat → Nat} (h : Lay M T ds) (hq : Quot T H cl) (h0 : cl 0 = 0) (hr : Renum H K nm mt)
    (hnum : ∀ p, p < 256 * K.n → K.nx (p / 256) (p % 256) ≤ K.met p) (hrow : ∀ s, s < K.n → s < K.met (256 * s)) (hall : K.met (256 * K.n) = K.n) : Canon K (langM M) := by
  have hrT : ∀ s c, s < T.n → c < 256 → T.nx s c < T.n := fun s c hs hc => (h.nx s c hs hc).1
  refine hr.canon (fun w hw => ?_) (hq.apart hrT) hnum hrow hall
  have h9 := hq.lang hrT h.pos hw
  rw [h0] at h9
  rw [h9]
  exact h.lang w hw
/-- Relations between states that no byte breaks. -/
theorem bisim {T : Tab} {R : Nat → Nat → Prop} (hr : ∀ s c, s < T.n → c < 256 → T.nx s c < T.n) (hacc : ∀ s t, s < T.n → t < T.n → R s t → T.acc s = T.acc t) (hnx : ∀ s t c, s < T.n → t < T.n → c < 256 → R s t → R (T.nx s c) (T.nx t c)) : ∀ s t, s < T.n → t < T.n → R s t → T.Eq s t := fun s t hs ht h w hw => by
  have : ∀ (w : List Nat) (s t : Nat), Bytes w → s < T.n → t < T.n → R s t → T.acc (T.run s w) = T.acc (T.run t w) := by
    intro w
    induction w with
    | nil => intro s t _ hs ht h; exact hacc s t hs ht h
    | cons c r ih =>
      intro s t hw hs ht h
      have hc := hw c (List.mem_cons_self ..)
      exact ih _ _ (fun x hx => hw x (List.mem_cons_of_mem _ hx)) (hr s c hs hc) (hr t c ht hc) (hnx s t c hs ht hc h)
  exact this w s t hw hs ht h
end Go.Proofs.YtejmjjgbbojfbaaDoor

/- AutoFilter: through: a table gone along a text. -/
namespace Go.Proofs.YtejmjjgbbojfbaaDoor
set_option linter.unusedVariables false
open Go.ChangeShapes Go.WideShapes Go.ChangeAt Go.RowKit

def natsS (s : List UInt8) : List Nat := s.map UInt8.toNat
theorem natsS_bytes (s : List UInt8) : Bytes (natsS s) := fun c hc => by
  obtain ⟨b, _, rfl⟩ := List.mem_map.1 hc
  exact b.toNat_lt
theorem natsS_u8s (s : List UInt8) : u8s (natsS s) = s := by
  unfold u8s natsS
  rw [List.map_map]
  conv => rhs; rw [← List.map_id s]
  exact List.map_congr_left fun x _ => by simp
theorem thr_acc {T : Tab} {M : Mach} (h : Canon T (langM M)) (s : List UInt8) : T.acc (T.run 0 (natsS s)) = accM M s := by
  rw [h.lang _ (natsS_bytes s)]
  unfold langM
  rw [natsS_u8s]
theorem Tab.run_lt {T : Tab} (hr : ∀ s c, s < T.n → c < 256 → T.nx s c < T.n) : ∀ (w : List Nat) (s : Nat), Bytes w → s < T.n → T.run s w < T.n
  | [], s, _, hs => hs
  | c :: r, s, hw, hs => Tab.run_lt hr r _ (fun x hx => hw x (List.mem_cons_of_mem _ hx)) (hr s c hs (hw c (List.mem_cons_self ..)))
theorem run_take_succ (T : Tab) (s : ByteArray) (i : Nat) (h : i < s.size) : T.run 0 (natsS (s.data.toList.take (i + 1))) = T.nx (T.run 0 (natsS (s.data.toList.take i))) (s[i]'h).toNat := by
  have hl : i < s.data.toList.length := by rw [Array.length_toList]; exact h
  rw [List.take_add_one, List.getElem?_eq_getElem hl, Option.toList_some]
  unfold natsS
  rw [List.map_append, Tab.run_app]
  rfl
theorem bytes_take {s : List UInt8} (i : Nat) : Bytes (natsS (s.take i)) := natsS_bytes _
set_option maxRecDepth 100000 in
set_option maxHeartbeats 2000000 in
theorem through_any (w : World) (B : Nat) (A X : Option Addr) (ca cx : Nat) (T : Tab) (h : TabAt w B A X ca cx T) (hn : 0 < T.n) (hn2 : T.n ≤ 1024) (hr : ∀ s c, s < T.n → c < 256 → T.nx s c < T.n) (s : ByteArray) (hs : s.size ≤ 1000000) :
    Calls Tryd.prog 42 #[.agg #[.int .i64 0, .slice A T.n ca, .slice X (256 * T.n) cx], .string s] w fun e w' => e = .returned (.bool (T.acc (T.run 0 (natsS s.data.toList)))) ∧ Below w.heap.size w w' := by
  obtain ⟨xb, rfl, hxl, hxc, hx⟩ := h.nxAt hn
  obtain ⟨ab, rfl, hal, hac, ha⟩ := h.accAt hn
  obtain ⟨o, ho⟩ : ∃ o, o = Obj.cells #[.int .i64 0, .slice (some ⟨ab, 0, none⟩) T.n ca, .slice (some ⟨xb, 0, none⟩) (256 * T.n) cx] 54 := ⟨_, rfl⟩
  have hb0 : Below w.heap.size w (w.alloc o) := (Below.refl _ _).alloc (Nat.le_refl _) _
  have hblk := (heap_alloc_new w o).trans (congrArg some ho)
  have c0 : (w.alloc o).cell? ⟨w.heap.size, 0, none⟩ = some (.int .i64 0) := blk_cell hblk 0
  have c1 : (w.alloc o).cell? ⟨w.heap.size, 1, none⟩ = some (.slice (some ⟨ab, 0, none⟩) T.n ca) := blk_cell hblk 1
  have c2 : (w.alloc o).cell? ⟨w.heap.size, 2, none⟩ = some (.slice (some ⟨xb, 0, none⟩) (256 * T.n) cx) := blk_cell hblk 2
  have HX := Lib.hid (show ∀ j, j < 256 * T.n → (w.alloc o).cell? ⟨xb, j, none⟩ = some (.int .i64 ((T.nx (j / 256) (j % 256) : Nat) : Int)) from fun j hj => (hb0.cell (p := ⟨xb, j, none⟩) hxl).trans (hx j hj))
  have HA := Lib.hid (show ∀ j, j < T.n → (w.alloc o).cell? ⟨ab, j, none⟩ = some (.bool (T.acc j)) from fun j hj => (hb0.cell (p := ⟨ab, j, none⟩) hal).trans (ha j hj))
  have HR := Lib.hid hr
  have HB0 := Lib.hid hb0
  have HO := Lib.hid ho
  have HRUN := Lib.hid (show ∀ i, T.run 0 (natsS (s.data.toList.take i)) < T.n from fun i => Tab.run_lt hr _ 0 (bytes_take i) hn)
  clear h hx ha hr hblk hb0 ho
  go_enter Tryd.func42, Tryd.ntmps42
  go_upto_region 1 with fail
  rw [← HO.out]
  generalize w.alloc o = W at c0 c1 c2 HX HA HB0 ⊢
  generalize w.heap.size = z0 at c0 c1 c2 ⊢
  go_wp2
  go_loopw [5, 6] (fun s5 s6 wr => ∃ d i : Nat, wr = W.drewN d ∧ s6 = .int .i64 (i : Nat) ∧ i ≤ s.size ∧ s5 = .int .i64 ((T.run 0 (natsS (s.data.toList.take i)) : Nat) : Int)) (fun _ s6 _ => s.size - (intOf s6).toNat)
  case atStart => exact ⟨0, 0, rfl, rfl, Nat.zero_le _, rfl⟩
  case round =>
    obtain ⟨d, i, rfl, rfl, hi, rfl⟩ := hrel
    have hrun := HRUN.out i
    by_cases hlt : i < s.size
    · have hsu := run_take_succ T s i hlt
      obtain ⟨at_, hat⟩ : ∃ at_, T.run 0 (natsS (s.data.toList.take i)) = at_ := ⟨_, rfl⟩
      rw [hat] at hrun hsu ⊢
      have hbl : (s[i]'hlt).toNat < 256 := (s[i]'hlt).toNat_lt
      obtain ⟨m, hm⟩ : ∃ m, 256 * at_ = m := ⟨_, rfl⟩
      obtain ⟨j, hj⟩ : ∃ j, m + (s[i]'hlt).toNat = j := ⟨_, rfl⟩
      have hjn : j < 256 * T.n := by omega
      have x1 := HX.out j hjn
      rw [show j / 256 = at_ by omega, show j % 256 = (s[i]'hlt).toNat by omega, ← hsu] at x1
      have w0 : IntKind.i64.wrap (((s[i]'hlt).toNat : Nat) : Int) = (((s[i]'hlt).toNat : Nat) : Int) := by rw [IntKind.wrap_i64]; omega
      have w1 : IntKind.i64.wrap (256 * (at_ : Int)) = (m : Int) := by rw [IntKind.wrap_i64]; omega
      have w2 : IntKind.i64.wrap ((m : Int) + (((s[i]'hlt).toNat : Nat) : Int)) = (j : Int) := by rw [IntKind.wrap_i64]; omega
      have i1 : (i : Int) < (s.size : Int) := by omega
      have i2 : (j : Int) < ((256 * T.n : Nat) : Int) := by omega
      obtain ⟨nxt, hnxt⟩ : ∃ nxt, T.run 0 (natsS (s.data.toList.take (i + 1))) = nxt := ⟨_, rfl⟩
      rw [hnxt] at x1
      have HN := Lib.hid hnxt
      obtain ⟨Wd, hWd⟩ : ∃ Wd, Wd = W.drewN d := ⟨_, rfl⟩
      have y2 : Wd.cell? ⟨z0, 2, none⟩ = some (.slice (some ⟨xb, 0, none⟩) (256 * T.n) cx) := by rw [hWd]; exact c2
      have y3 : Wd.cell? ⟨xb, j, none⟩ = some (.int .i64 (nxt : Int)) := by rw [hWd]; exact x1
      rw [← hWd]
      have HWD := Lib.hid hWd
      clear hWd hnxt hsu hat hm hj x1 hbl hrun hjn
      go_upto_region 5 with fail
      go_quiet (fail)
      go_wp2
      go_roundw
      case rel => exact ⟨d + nq, i + 1, by rw [HWD.out, World.drewN_drewN], by go_num, by omega, by rw [HN.out]⟩
      case measure => simp [intOf]; omega
    · obtain rfl : i = s.size := by omega
      have hall : s.data.toList.take s.size = s.data.toList := by
        rw [show s.size = s.data.toList.length from (Array.length_toList (xs := s.data)).symm]; exact List.take_length
      rw [hall] at hrun ⊢
      obtain ⟨at_, hat⟩ : ∃ at_, T.run 0 (natsS s.data.toList) = at_ := ⟨_, rfl⟩
      rw [hat] at hrun ⊢
      have a1 := HA.out at_ hrun
      have i1 : ¬ (s.size : Int) < (s.size : Int) := by omega
      have i2 : (at_ : Int) < (T.n : Int) := by omega
      have HAT := Lib.hid hat
      clear hall hat hlt hi
      go_wp2
      go_ret
      exact ⟨by rw [HAT.out]; rfl, below_drewN HB0.out d⟩
end Go.Proofs.YtejmjjgbbojfbaaDoor

/- auto, plain: the rounds of the parting, the joined graph. No program occurs here. -/
namespace Go.Proofs.YtejmjjgbbojfbaaDoor
set_option linter.unusedVariables false

/-- Representatives show that a finer parting has no fewer classes. -/
theorem classes_le {n m k : Nat} {f g : Nat → Nat} (hf : ∀ s, s < n → f s < m) (hgo : ∀ j, j < k → ∃ s, s < n ∧ g s = j) (hfg : ∀ s t, s < n → t < n → f s = f t → g s = g t) : k ≤ m := by
  by_cases hlt : k ≤ m
  · exact hlt
  · exfalso
    have hrep : ∃ r : Nat → Nat, ∀ j, j < k → r j < n ∧ g (r j) = j := by
      refine ⟨fun j => if h : j < k then Classical.choose (hgo j h) else 0, fun j h => ?_⟩
      simp only [dif_pos h]
      exact Classical.choose_spec (hgo j h)
    obtain ⟨r, hr⟩ := hrep
    obtain ⟨i, hi, e⟩ := inj_onto k (fun j => f (r j)) (fun j h => by have := hf _ (hr j h).1; show f (r j) < k; omega) (fun i j hi hj e => by
      have := hfg _ _ (hr i hi).1 (hr j hj).1 e
      rwa [(hr i hi).2, (hr j hj).2] at this) (k - 1) (by omega)
    have e : f (r i) = k - 1 := e
    have := hf _ (hr i hi).1
    omega
/-- The keys of the first s states, each once, in the order of first meeting. -/
def keysL (key : Nat → List UInt8) : Nat → List (List UInt8)
  | 0 => []
  | s + 1 => if key s ∈ keysL key s then keysL key s else keysL key s ++ [key s]
theorem keysL_prefix (key : Nat → List UInt8) (s : Nat) : keysL key s <+: keysL key (s + 1) := by
  rw [keysL]
  split
  · exact List.prefix_refl _
  · exact List.prefix_append _ _
theorem keysL_mono (key : Nat → List UInt8) {p q : Nat} (h : p ≤ q) : keysL key p <+: keysL key q := by
  induction h with
  | refl => exact List.prefix_refl _
  | step _ ih => exact ih.trans (keysL_prefix key _)
theorem keysL_mem (key : Nat → List UInt8) {s n : Nat} (h : s < n) : key s ∈ keysL key n := by
  refine (keysL_mono key (show s + 1 ≤ n by omega)).subset ?_
  rw [keysL]
  split
  · assumption
  · simp
theorem keysL_of (key : Nat → List UInt8) : ∀ (n : Nat) (x : List UInt8), x ∈ keysL key n → ∃ s, s < n ∧ key s = x
  | 0, x, h => by rw [keysL] at h; cases h
  | n + 1, x, h => by
    rw [keysL] at h
    split at h
    · obtain ⟨s, h1, h2⟩ := keysL_of key n x h
      exact ⟨s, by omega, h2⟩
    · rcases List.mem_append.1 h with h | h
      · obtain ⟨s, h1, h2⟩ := keysL_of key n x h
        exact ⟨s, by omega, h2⟩
      · exact ⟨n, by omega, (List.mem_singleton.1 h).symm⟩
theorem keysL_len (key : Nat → List UInt8) : ∀ n, (keysL key n).length ≤ n
  | 0 => Nat.le_refl _
  | n + 1 => by
    have := keysL_len key n
    rw [keysL]
    split
    · omega
    · simp; omega
theorem keysL_nodup (key : Nat → List UInt8) : ∀ n, (keysL key n).Nodup
  | 0 => by simp [keysL]
  | n + 1 => by
    rw [keysL]
    split
    · exact keysL_nodup key n
    · next h => exact List.nodup_append.2 ⟨keysL_nodup key n, by simp, fun a ha b hb e => by
        rw [List.mem_singleton.1 hb] at e
        exact h (e ▸ ha)⟩
/-- A state's number among the keys. -/
def keyN (key : Nat → List UInt8) (s : Nat) : Nat := (keysL key (s + 1)).idxOf (key s)
theorem keyN_eq (key : Nat → List UInt8) {s n : Nat} (h : s < n) : keyN key s = (keysL key n).idxOf (key s) :=
  (idx_prefixL (keysL_mono key (show s + 1 ≤ n by omega)) (keysL_mem key (Nat.lt_succ_self s))).symm
where
  idx_prefixL {l l2 : List (List UInt8)} (h : l <+: l2) {x : List UInt8} (hx : x ∈ l) : l2.idxOf x = l.idxOf x := by
    obtain ⟨r, rfl⟩ := h
    rw [List.idxOf_append, if_pos hx]
theorem keyN_lt (key : Nat → List UInt8) {s n : Nat} (h : s < n) : keyN key s < (keysL key n).length := by
  rw [keyN_eq key h]
  exact List.idxOf_lt_length_of_mem (keysL_mem key h)
theorem keyN_onto (key : Nat → List UInt8) {n j : Nat} (h : j < (keysL key n).length) : ∃ s, s < n ∧ keyN key s = j := by
  obtain ⟨s, h1, h2⟩ := keysL_of key n _ (List.getElem_mem h)
  exact ⟨s, h1, by rw [keyN_eq key h1, h2]; exact (keysL_nodup key n).idxOf_getElem j h⟩
theorem keyN_some (key : Nat → List UInt8) {s n : Nat} (h : s < n) : idxF (keysL key n) (key s) = some (keyN key s) := by
  unfold idxF
  rw [if_pos (keysL_mem key h), keyN_eq key h]
theorem keyN_zero (key : Nat → List UInt8) : keyN key 0 = 0 := by simp [keyN, keysL]
/-- What the parting is between two rounds: count is the number of classes, 0 ahead of the first round. -/
structure Part (T : Tab) (cl : Nat → Nat) (count : Nat) : Prop where
  coarse : Coarse T cl
  first : count = 0 → ∀ s, s < T.n → cl s < 2
  lt : 0 < count → ∀ s, s < T.n → cl s < count
  onto : ∀ j, j < count → ∃ s, s < T.n ∧ cl s = j
  le : count ≤ T.n
theorem part_start (T : Tab) : Part T (fun s => if T.acc s then 1 else 0) 0 := by
  refine ⟨⟨fun s t _ _ e => ?_, fun s t _ _ e => ?_⟩, fun _ s _ => ?_, fun h => absurd h (Nat.lt_irrefl _), fun j h => absurd h (Nat.not_lt_zero _), Nat.zero_le _⟩
  · cases h1 : T.acc s <;> cases h2 : T.acc t <;> simp [h1, h2] at e ⊢
  · have := e [] (fun c hc => by cases hc)
    have this : T.acc s = T.acc t := this
    simp only [this]
  · show (if T.acc s then 1 else 0) < 2
    split <;> omega
theorem Part.small {T : Tab} {cl : Nat → Nat} {count : Nat} (h : Part T cl count) (hn : T.n ≤ 60000) : ∀ s, s < T.n → cl s < 65536 := fun s hs => by
  by_cases h0 : count = 0
  · have := h.first h0 s hs; omega
  · have := h.lt (by omega) s hs
    have := h.le
    omega
/-- A round: the numbers of the keys. -/
theorem part_round {T : Tab} {cl : Nat → Nat} {count : Nat} {bs : List Nat} (h : Part T cl count) (hn : T.n ≤ 60000) (hpos : 0 < T.n) (hr : ∀ s c, s < T.n → c < 256 → T.nx s c < T.n) (hc : Cols T.n T.nx bs 256) :
    count ≤ (keysL (keyL cl T.nx bs) T.n).length ∧ ((keysL (keyL cl T.nx bs) T.n).length = count → Fix T (keyN (keyL cl T.nx bs)) ∧ (∀ s, s < T.n → keyN (keyL cl T.nx bs) s < count) ∧ ∀ j, j < count → ∃ s, s < T.n ∧ keyN (keyL cl T.nx bs) s = j) ∧ Part T (keyN (keyL cl T.nx bs)) (keysL (keyL cl T.nx bs) T.n).length := by
  have hf : Finer T (keyN (keyL cl T.nx bs)) cl := finer_of hr (h.small hn) hc (fun s hs => keyN_some (keyL cl T.nx bs) hs)
  have hlt : ∀ s, s < T.n → keyN (keyL cl T.nx bs) s < (keysL (keyL cl T.nx bs) T.n).length := fun s hs => keyN_lt _ hs
  have hp0 : 0 < (keysL (keyL cl T.nx bs) T.n).length := Nat.lt_of_le_of_lt (Nat.zero_le _) (hlt 0 hpos)
  refine ⟨classes_le hlt h.onto (fun s t hs ht e => ((hf s t hs ht).1 e).1), fun e => ⟨?_, fun s hs => by rw [← e]; exact hlt s hs, fun j hj => keyN_onto _ (by rw [e]; exact hj)⟩, ⟨h.coarse.finer hf hr, fun e => by omega, fun _ => hlt, fun j hj => keyN_onto _ hj, keysL_len _ _⟩⟩
  exact h.coarse.rest hf hr (fun s hs => by rw [← e]; exact hlt s hs) (h.lt (by omega)) h.onto
/-- The cells of the joined graph behind the first s states. -/
def jnx (T : Tab) (cl : Nat → Nat) : Nat → Nat → Nat → Nat
  | 0, _, _ => 0
  | s + 1, k, b => if cl s = k then cl (T.nx s b) else jnx T cl s k b
def jacc (T : Tab) (cl : Nat → Nat) : Nat → Nat → Bool
  | 0, _ => false
  | s + 1, k => if cl s = k then T.acc s else jacc T cl s k
theorem jnx_eq {T : Tab} {cl : Nat → Nat} (h : Fix T cl) : ∀ n, n ≤ T.n → ∀ s c, s < n → c < 256 → jnx T cl n (cl s) c = cl (T.nx s c)
  | 0, _, s, c, hs, _ => absurd hs (Nat.not_lt_zero _)
  | n + 1, hn, s, c, hs, hc => by
    rw [jnx]
    by_cases e : cl n = cl s
    · rw [if_pos e]
      exact h.nx n s c (by omega) (by omega) hc e
    · rw [if_neg e]
      refine jnx_eq h n (by omega) s c ?_ hc
      by_cases e2 : s = n
      · exact absurd (by rw [e2]) e
      · omega
theorem jacc_eq {T : Tab} {cl : Nat → Nat} (h : Fix T cl) : ∀ n, n ≤ T.n → ∀ s, s < n → jacc T cl n (cl s) = T.acc s
  | 0, _, s, hs => absurd hs (Nat.not_lt_zero _)
  | n + 1, hn, s, hs => by
    rw [jacc]
    by_cases e : cl n = cl s
    · rw [if_pos e]
      exact h.acc n s (by omega) (by omega) e
    · rw [if_neg e]
      refine jacc_eq h n (by omega) s ?_
      by_cases e2 : s = n
      · exact absurd (by rw [e2]) e
      · omega
/-- The joined graph. -/
def joinT (T : Tab) (cl : Nat → Nat) (count : Nat) : Tab := ⟨count, jacc T cl T.n, jnx T cl T.n⟩
theorem join_quot {T : Tab} {cl : Nat → Nat} {count : Nat} (h : Fix T cl) (hr : ∀ s, s < T.n → cl s < count) (ho : ∀ j, j < count → ∃ s, s < T.n ∧ cl s = j) : Quot T (joinT T cl count) cl :=
  ⟨h, hr, ho, fun s hs => jacc_eq h T.n (Nat.le_refl _) s hs, fun s c hs hc => jnx_eq h T.n (Nat.le_refl _) s c hs hc⟩
theorem join_rng {T H : Tab} {cl : Nat → Nat} (h : Quot T H cl) (hr : ∀ s c, s < T.n → c < 256 → T.nx s c < T.n) : ∀ s c, s < H.n → c < 256 → H.nx s c < H.n := fun s c hs hc => by
  obtain ⟨t, ht, rfl⟩ := h.onto s hs
  rw [h.nx t c ht hc]
  exact h.rng _ (hr t c ht hc)
end Go.Proofs.YtejmjjgbbojfbaaDoor

/- auto: joined. -/
namespace Go.Proofs.YtejmjjgbbojfbaaDoor
set_option linter.unusedVariables false
open Go.ChangeShapes Go.WideShapes Go.ChangeAt Go.RowKit

def JoinPost (w : World) (T : Tab) (cl : Nat → Nat) (count : Nat) (e : Ending) (w' : World) : Prop := ∃ h nv av, e = .returned (.pointer (some ⟨h, 0, none⟩)) ∧ GraphAt w' w.heap.size h nv av (joinT T cl count) ∧ Below w.heap.size w w'
theorem GraphAt.drew {w : World} {B g : Nat} {nv av : Value} {T : Tab} (h : GraphAt w B g nv av T) : GraphAt w.drew B g nv av T := ⟨h.blk, h.hg, h.next, h.acc⟩
/-- A list of numbers that reads: its cells. -/
theorem rd_ints {w : World} {a : Option Addr} {n c : Nat} {f : Nat → Nat} (h : Rd w (.slice a n c) (intsV f n)) (h0 : 0 < n) : ∃ b o, a = some ⟨b, o, none⟩ ∧ ∀ i, i < n → w.cell? ⟨b, o + i, none⟩ = some (.int .i64 ((f i : Nat) : Int)) := by
  obtain ⟨A, c', e, _, hg⟩ := h
  injection e with e1 e2 e3
  subst e1
  rw [intsV_length] at hg
  obtain ⟨b, o, rfl, hc⟩ := hg h0
  exact ⟨b, o, rfl, fun i hi => hc i _ (intsV_get f n i hi)⟩
/-- The joined graph, while the row of state s is laid: b bytes are. -/
def jpart (T : Tab) (cl : Nat → Nat) (s b : Nat) : Nat → Nat → Nat := fun k c => if k = cl s ∧ c < b then cl (T.nx s c) else jnx T cl s k c
set_option maxRecDepth 100000 in
set_option maxHeartbeats 4000000 in
theorem joined_any (w : World) (B g : Nat) (nv av : Value) (T : Tab) (h : GraphAt w B g nv av T) (ca : Option Addr) (cc : Nat) (cl : Nat → Nat) (count : Nat) (hcr : Rd w (.slice ca T.n cc) (intsV cl T.n)) (hn : T.n ≤ 1024) (hn0 : 0 < T.n) (hct : count ≤ 1024) (hcl : ∀ s, s < T.n → cl s < count)
    (hr : ∀ s c, s < T.n → c < 256 → T.nx s c < T.n) :
    Calls Tryd.prog 63 #[.pointer (some ⟨g, 0, none⟩), .slice ca T.n cc, .int .i64 (count : Nat)] w (JoinPost w T cl count) := by
  have HG := Lib.hid (show ∀ X, Below w.heap.size w X → GraphAt X B g nv av T from fun X e => h.below e (Nat.le_refl _))
  have HR := Lib.hid hr
  have HCL := Lib.hid hcl
  obtain ⟨cb, co, rfl, hcc⟩ := rd_ints hcr hn0
  have HCC := Lib.hid (show ∀ X, Below w.heap.size w X → ∀ i, i < T.n → X.cell? ⟨cb, co + i, none⟩ = some (.int .i64 ((cl i : Nat) : Int)) from fun X e i hi => (e.cell (World.block_lt_of_cell? w _ (hcc i hi))).trans (hcc i hi))
  have hccap : T.n ≤ cc := by
    obtain ⟨A, c', e, hc, _⟩ := hcr
    injection e with _ _ e3
    rw [intsV_length] at hc
    omega
  obtain ⟨nga, ngc, hnv, hnc, -⟩ := h.at_
  obtain ⟨aga, agc, hav, hac, -⟩ := h.accAt
  subst hnv hav
  have hmk1 := fun X => run_make_arr X count (by omega) (count : Int) rfl
  have hmk2 := fun X => make_row elBoolG rfl count (by omega) (count : Int) rfl X
  clear h hr hcl hcr hcc
  go_enter Tryd.func63, Tryd.ntmps63
  go_upto_region 1 with fail
  go_cut [7] (fun s7 wx => ∃ (hb nb ab : Nat), s7 = .pointer (some ⟨hb, 0, none⟩) ∧ RowKit.Hid (GraphAt wx w.heap.size hb (.slice (some ⟨nb, 0, none⟩) count count) (.slice (some ⟨ab, 0, none⟩) count count) ⟨count, fun _ => false, fun _ _ => 0⟩) ∧ RowKit.Hid (Below w.heap.size w wx))
  case first =>
    have hb0 := (Below.refl w.heap.size w).drew
    refine wp_region_noPanic ?_
    refine wp_region_held_drew (S := fun _ => True) (by kernel_rfl) trivial (fun hHeld => ?_)
    generalize World.drew w = X0 at hb0 hHeld ⊢
    refine wpAnyH_take (i := 0) (v := ?_) rfl (by kernel_rfl) (by kernel_rfl) (by kernel_rfl) (fun _ _ _ h => h) (Or.inl ⟨by kernel_rfl, ?_⟩) hHeld ?_
    rotate_left
    · intro w hSw
      go_simp
      try with_reducible rfl
    refine wpAnyH_take (i := 2) (v := ?_) rfl (by kernel_rfl) (by kernel_rfl) (by kernel_rfl) (fun _ _ _ h => h) (Or.inl ⟨by kernel_rfl, ?_⟩) hHeld ?_
    rotate_left
    · intro w hSw
      go_simp
      try with_reducible rfl
    refine wpAnyH_ready (rs := [1, 3]) (by kernel_rfl) (by simp) ?_
    refine AllReadyH.cons rfl (fun KK hKK => ?_) ?_
    ·
      rw [if_pos (by kernel_rfl)]
      go_simp
      refine hKK.out _ _ trivial (fun hHeld => ?_)
      clear hKK KK
      refine wpAnyH_ready (rs := [3]) (by kernel_rfl) (by simp) ?_
      refine AllReadyH.cons rfl (fun KK hKK => ?_) ?_
      rotate_left
      · exact AllReadyH.nil
      rw [if_pos (by kernel_rfl)]
      go_simp
      refine hKK.out _ _ trivial (fun hHeld => ?_)
      clear hKK KK
      have hN := owns_make_arr X0 count (by omega)
      have hA := own_make_bools (X0.alloc (.cells (flatN (fun _ _ => 0) count).toArray 136)) count (by omega)
      have hb1 := hb0.alloc hb0.size (.cells (flatN (fun _ _ => 0) count).toArray 136)
      have hb2 := hb1.alloc hb1.size (.cells (madeCells #[Value.bool false] count) 4)
      have hN2 := hN.alloc (.cells (madeCells #[Value.bool false] count) 4)
      have hzz : (X0.alloc (.cells (flatN (fun _ _ => 0) count).toArray 136)).heap.size = X0.heap.size + 1 := by simp
      rw [hzz] at hA
      generalize (X0.alloc (.cells (flatN (fun _ _ => 0) count).toArray 136)).alloc (.cells (madeCells #[Value.bool false] count) 4) = X2 at hA hN2 hb2 hHeld ⊢
      have hA1 := own_base hA (Nat.le_trans hb0.size (Nat.le_succ _))
      have hN1 := rows_base hN2 hb0.size
      clear hN hb1 hzz hA hN2
      refine wpAnyH_take (i := 4) (v := ?_) rfl (by kernel_rfl) (by kernel_rfl) (by kernel_rfl) (fun _ _ _ h => h) (Or.inl ⟨by kernel_rfl, ?_⟩) hHeld ?_
      rotate_left
      · intro w hSw
        go_simp
        try with_reducible rfl
      refine wpAnyH_ready (rs := [5]) (by kernel_rfl) (by simp) ?_
      refine AllReadyH.cons rfl (fun KK hKK => ?_) ?_
      rotate_left
      · exact AllReadyH.nil
      rw [if_pos (by kernel_rfl)]
      go_simp
      refine hKK.out _ _ trivial (fun hHeld => ?_)
      clear hKK KK
      refine wpAnyH_take (i := 6) (v := ?_) rfl (by kernel_rfl) (by kernel_rfl) (by kernel_rfl) (fun _ _ _ h => h) (Or.inl ⟨by kernel_rfl, ?_⟩) hHeld ?_
      rotate_left
      · intro w hSw
        go_simp
        try with_reducible rfl
      refine wpAnyH_done (by kernel_rfl) ?_ _
      refine NoPanic.normal ?_
      go_wp2_with fail
      go_meet
      refine ⟨_, _, _, rfl, Lib.hid ⟨heap_alloc_new X2 _, hb2.size, hN1.alloc _, hA1.alloc _⟩, Lib.hid (hb2.alloc hb2.size _)⟩
    refine AllReadyH.cons rfl (fun KK hKK => ?_) ?_
    ·
      rw [if_pos (by kernel_rfl)]
      go_simp
      refine hKK.out _ _ trivial (fun hHeld => ?_)
      clear hKK KK
      refine wpAnyH_ready (rs := [1]) (by kernel_rfl) (by simp) ?_
      refine AllReadyH.cons rfl (fun KK hKK => ?_) ?_
      rotate_left
      · exact AllReadyH.nil
      rw [if_pos (by kernel_rfl)]
      go_simp
      refine hKK.out _ _ trivial (fun hHeld => ?_)
      clear hKK KK
      have hA := own_make_bools X0 count (by omega)
      have hN := owns_make_arr (X0.alloc (.cells (madeCells #[Value.bool false] count) 4)) count (by omega)
      have hb1 := hb0.alloc hb0.size (.cells (madeCells #[Value.bool false] count) 4)
      have hb2 := hb1.alloc hb1.size (.cells (flatN (fun _ _ => 0) count).toArray 136)
      have hA2 := hA.alloc (.cells (flatN (fun _ _ => 0) count).toArray 136)
      have hzz : (X0.alloc (.cells (madeCells #[Value.bool false] count) 4)).heap.size = X0.heap.size + 1 := by simp
      rw [hzz] at hN
      generalize (X0.alloc (.cells (madeCells #[Value.bool false] count) 4)).alloc (.cells (flatN (fun _ _ => 0) count).toArray 136) = X2 at hA2 hN hb2 hHeld ⊢
      have hA1 := own_base hA2 hb0.size
      have hN1 := rows_base hN (Nat.le_trans hb0.size (Nat.le_succ _))
      clear hN hb1 hzz hA hA2
      refine wpAnyH_take (i := 4) (v := ?_) rfl (by kernel_rfl) (by kernel_rfl) (by kernel_rfl) (fun _ _ _ h => h) (Or.inl ⟨by kernel_rfl, ?_⟩) hHeld ?_
      rotate_left
      · intro w hSw
        go_simp
        try with_reducible rfl
      refine wpAnyH_ready (rs := [5]) (by kernel_rfl) (by simp) ?_
      refine AllReadyH.cons rfl (fun KK hKK => ?_) ?_
      rotate_left
      · exact AllReadyH.nil
      rw [if_pos (by kernel_rfl)]
      go_simp
      refine hKK.out _ _ trivial (fun hHeld => ?_)
      clear hKK KK
      refine wpAnyH_take (i := 6) (v := ?_) rfl (by kernel_rfl) (by kernel_rfl) (by kernel_rfl) (fun _ _ _ h => h) (Or.inl ⟨by kernel_rfl, ?_⟩) hHeld ?_
      rotate_left
      · intro w hSw
        go_simp
        try with_reducible rfl
      refine wpAnyH_done (by kernel_rfl) ?_ _
      refine NoPanic.normal ?_
      go_wp2_with fail
      go_meet
      refine ⟨_, _, _, rfl, Lib.hid ⟨heap_alloc_new X2 _, hb2.size, hN1.alloc _, hA1.alloc _⟩, Lib.hid (hb2.alloc hb2.size _)⟩
    exact AllReadyH.nil
  case rest =>
    obtain ⟨hb, nb, ab, rfl, HH, HB⟩ := hcut
    clear hmk1 hmk2
    have HH0 : RowKit.Hid (GraphAt wc w.heap.size hb (.slice (some ⟨nb, 0, none⟩) count count) (.slice (some ⟨ab, 0, none⟩) count count) ⟨count, jacc T cl 0, jnx T cl 0⟩) := HH
    clear HH
    go_upto_region 3 with fail
    go_loopw [20] (fun s20 wr => ∃ (s : Nat), s20 = .int .i64 (s : Nat) ∧ s ≤ T.n ∧ RowKit.Hid (GraphAt wr w.heap.size hb (.slice (some ⟨nb, 0, none⟩) count count) (.slice (some ⟨ab, 0, none⟩) count count) ⟨count, jacc T cl s, jnx T cl s⟩) ∧ RowKit.Hid (Below w.heap.size w wr)) (fun s20 _ => T.n - (intOf s20).toNat)
    case atStart => exact ⟨0, rfl, Nat.zero_le _, HH0, HB⟩
    case round =>
      clear HH0 HB
      obtain ⟨s, rfl, hs, HH, HB⟩ := hrel
      by_cases hlt : s < T.n
      · have hgr := HG.out wr HB.out
        have l0 := HCC.out wr HB.out s hlt
        have hk := HCL.out s hlt
        obtain ⟨k, hke⟩ : ∃ k, cl s = k := ⟨_, rfl⟩
        rw [hke] at l0 hk
        have h1 : wr.cell? ⟨hb, 1, none⟩ = some (.slice (some ⟨ab, 0, none⟩) count count) := blk_cell HH.out.blk 1
        have g1 : wr.cell? ⟨g, 1, none⟩ = some (.slice aga T.n agc) := blk_cell hgr.blk 1
        obtain ⟨aga', agc', ha, -, hcell⟩ := hgr.accAt
        injection ha with e1 e2 e3
        subst e1 e3
        obtain ⟨gab, rfl, -, -, hcell⟩ := hcell (by omega)
        have a1 := hcell s hlt
        have k1 : wr.cell? ⟨ab, k, none⟩ = some (.bool (jacc T cl s k)) := HH.out.acc.get (by simp [hk])
        have f1 := HH.out.acc.frozen k
        have i1 : (s : Int) < (T.n : Int) := by omega
        have i2 : (k : Int) < (count : Int) := by omega
        obtain ⟨bv, hbv⟩ : ∃ b, T.acc s = b := ⟨_, rfl⟩
        rw [hbv] at a1
        have HGR := Lib.hid hgr
        have HKE := Lib.hid hke
        have HBV := Lib.hid hbv
        clear hgr hke hbv hcell e2
        go_upto_region 5 with fail
        have hG1 : GraphAt (wr.setCell ⟨ab, k, none⟩ (.bool bv)).drew w.heap.size hb (.slice (some ⟨nb, 0, none⟩) count count) (.slice (some ⟨ab, 0, none⟩) count count) ⟨count, jacc T cl (s + 1), jnx T cl s⟩ :=
          ((GraphAt.setAcc (T := ⟨count, jacc T cl s, jnx T cl s⟩) (k := k) HH.out bv).drew).congr rfl (fun q _ => by
            show (if q = k then bv else jacc T cl s q) = (if cl s = q then T.acc s else jacc T cl s q)
            rw [HKE.out, HBV.out]
            by_cases e : q = k
            · rw [if_pos e, if_pos e.symm]
            · rw [if_neg e, if_neg (fun e9 => e e9.symm)]) (fun _ _ _ _ => rfl)
        have hB1 := (HB.out.setCell (p := ⟨ab, k, none⟩) ((HH.out.acc.lt ab rfl).1) (.bool bv)).drew
        have hgr := HG.out _ hB1
        have g0 : (wr.setCell ⟨ab, k, none⟩ (.bool bv)).cell? ⟨g, 0, none⟩ = some (.slice nga T.n ngc) := blk_cell hgr.blk 0
        obtain ⟨gb, gc, hv, -, -, -, hrg⟩ := hgr.range hlt
        injection hv with e1 e2 e3
        subst e1 e3
        have HG1 := Lib.hid hG1
        have HB1 := Lib.hid hB1
        have HRG := Lib.hid hrg
        clear hG1 hB1 HH HB hgr hrg e2 HGR
        go_still_tail 12, (by kernel_rfl)
        change wpList _ _ _ _ _ (World.drew _)
        go_upto_region 7 with (with_reducible refine wp_row_load HRG.out rfl _ rfl rfl ?_)
        clear g0 HRG k1 f1 h1 g1 a1 l0
        generalize (wr.setCell ⟨ab, k, none⟩ (.bool bv)).drew = X1 at HG1 HB1 ⊢
        have hG2 : GraphAt X1 w.heap.size hb (.slice (some ⟨nb, 0, none⟩) count count) (.slice (some ⟨ab, 0, none⟩) count count) ⟨count, jacc T cl (s + 1), jpart T cl s 0⟩ := HG1.out.congr rfl (fun _ _ => rfl) (fun q c _ _ => by
          show jnx T cl s q c = jpart T cl s 0 q c
          unfold jpart; rw [if_neg (by omega)])
        have HG2 := Lib.hid hG2
        clear hG2 HG1
        go_loopw [45] (fun s45 wr => ∃ (b : Nat), s45 = .int .i64 (b : Nat) ∧ b ≤ 256 ∧ RowKit.Hid (GraphAt wr w.heap.size hb (.slice (some ⟨nb, 0, none⟩) count count) (.slice (some ⟨ab, 0, none⟩) count count) ⟨count, jacc T cl (s + 1), jpart T cl s b⟩) ∧ RowKit.Hid (Below w.heap.size w wr)) (fun s45 _ => 256 - (intOf s45).toNat)
        case atStart => exact ⟨0, rfl, Nat.zero_le _, HG2, HB1⟩
        case round =>
          clear HG2 HB1
          obtain ⟨b, rfl, hb256, HH, HB⟩ := hrel
          by_cases hb2 : b < 256
          · have hxn := HR.out s b hlt hb2
            obtain ⟨x, hx⟩ : ∃ x, T.nx s b = x := ⟨_, rfl⟩
            have hix : ∀ X, (Instr.index 136 (.agg (rowV (T.nx s)).toArray) (.int .i64 (b : Nat))).run Tryd.prog X = .ok (.int .i64 ((x : Nat) : Int)) X := fun X => by rw [← hx]; exact run_index_arr X (T.nx s) hb2
            rw [hx] at hxn
            have l1 := HCC.out wr HB.out x hxn
            obtain ⟨y, hy⟩ : ∃ y, cl x = y := ⟨_, rfl⟩
            rw [hy] at l1
            have n1 : wr.cell? ⟨hb, 0, none⟩ = some (.slice (some ⟨nb, 0, none⟩) count count) := blk_cell HH.out.blk 0
            have n2 : wr.cell? ⟨nb, k * 256 + b, none⟩ = some (.int .i64 ((jpart T cl s b k b : Nat) : Int)) := by
              have h9 := World.ownsRow.cells HH.out.next (g := nb) rfl _ _ (flatN_get (jpart T cl s b) hk hb2)
              rw [addr_add, Nat.zero_add] at h9
              exact h9
            have n3 : wr.frozen? ⟨nb, k * 256 + b, none⟩ = false := World.ownsRow.frozenAt HH.out.next _
            have i3 : (x : Int) < (T.n : Int) := by omega
            have i4 : (k : Int) < (count : Int) := by omega
            have i5 : (b : Int) < 256 := by omega
            have hG3 : GraphAt (wr.setCell ⟨nb, k * 256 + b, none⟩ (.int .i64 ((y : Nat) : Int))).drew w.heap.size hb (.slice (some ⟨nb, 0, none⟩) count count) (.slice (some ⟨ab, 0, none⟩) count count) ⟨count, jacc T cl (s + 1), jpart T cl s (b + 1)⟩ :=
              ((GraphAt.setNx (T := ⟨count, jacc T cl (s + 1), jpart T cl s b⟩) HH.out hk hb2 y).drew).congr rfl (fun _ _ => rfl) (fun q c _ _ => by
                show (if q = k ∧ c = b then y else jpart T cl s b q c) = jpart T cl s (b + 1) q c
                unfold jpart
                rw [HKE.out]
                by_cases e1 : q = k
                · by_cases e2 : c = b
                  · rw [if_pos ⟨e1, e2⟩, if_pos ⟨e1, by omega⟩, e2, hx, hy]
                  · rw [if_neg (fun e9 => e2 e9.2)]
                    by_cases e3 : c < b
                    · rw [if_pos ⟨e1, e3⟩, if_pos ⟨e1, by omega⟩]
                    · rw [if_neg (fun e9 => e3 e9.2), if_neg (fun e9 => by omega)]
                · rw [if_neg (fun e9 => e1 e9.1), if_neg (fun e9 => e1 e9.1), if_neg (fun e9 => e1 e9.1)])
            have hB3 := (HB.out.setCell (p := ⟨nb, k * 256 + b, none⟩) ((World.ownsRow.lt HH.out.next nb rfl).1) (.int .i64 ((y : Nat) : Int))).drew
            have HG3 := Lib.hid hG3
            have HB3 := Lib.hid hB3
            clear hG3 hB3 HH HB hx hy
            go_upto_region 9 with fail
            clear hix
            go_still_tail 11, (by kernel_rfl)
            change wpList _ _ _ _ _ (World.drew _)
            go_wp2
            generalize (wr.setCell ⟨nb, k * 256 + b, none⟩ (.int .i64 ((y : Nat) : Int))).drew = X3 at HG3 HB3 ⊢
            go_roundw
            case rel => exact ⟨b + 1, by go_num, by omega, HG3, HB3⟩
            case measure => simp [intOf]; omega
          · obtain rfl : b = 256 := by omega
            have hG4 : GraphAt wr w.heap.size hb (.slice (some ⟨nb, 0, none⟩) count count) (.slice (some ⟨ab, 0, none⟩) count count) ⟨count, jacc T cl (s + 1), jnx T cl (s + 1)⟩ := HH.out.congr rfl (fun _ _ => rfl) (fun q c _ hc => by
              show jpart T cl s 256 q c = (if cl s = q then cl (T.nx s c) else jnx T cl s q c)
              unfold jpart
              by_cases e : q = cl s
              · rw [if_pos ⟨e, hc⟩, if_pos e.symm]
              · rw [if_neg (fun e9 => e e9.1), if_neg (fun e9 => e e9.symm)])
            have HG4 := Lib.hid hG4
            clear hG4 HH
            go_wp2
            go_roundw
            case rel => exact ⟨s + 1, by go_num, by omega, HG4, HB⟩
            case measure => simp [intOf]; omega
      · obtain rfl : s = T.n := by omega
        go_wp2
        go_ret
        exact ⟨hb, _, _, rfl, HH.out, HB.out⟩
end Go.Proofs.YtejmjjgbbojfbaaDoor

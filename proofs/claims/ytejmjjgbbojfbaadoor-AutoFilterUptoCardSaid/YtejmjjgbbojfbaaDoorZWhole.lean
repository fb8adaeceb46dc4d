/- AutoLeast: whole, fits. -/
import Derived.Test.YtejmjjgbbojfbaaDoorZG26
import Derived.Test.YtejmjjgbbojfbaaDoorZG23
namespace Go.Proofs.YtejmjjgbbojfbaaDoor
set_option linter.unusedVariables false
open Go.ChangeShapes Go.WideShapes Go.ChangeAt Go.RowKit

/-- The numbers of a table, its bools, as cells. -/
theorem TabAt.nxAt {w : World} {B : Nat} {A X : Option Addr} {ca cx : Nat} {T : Tab} (h : TabAt w B A X ca cx T) (hn : 0 < T.n) : ∃ b, X = some ⟨b, 0, none⟩ ∧ b < w.heap.size ∧ 256 * T.n ≤ cx ∧ ∀ j, j < 256 * T.n → w.cell? ⟨b, j, none⟩ = some (.int .i64 ((T.nx (j / 256) (j % 256) : Nat) : Int)) := by
  obtain ⟨b, rfl⟩ := h.nx.someAt (by omega)
  exact ⟨b, rfl, (h.nx.lt b rfl).2, (own_cap h.nx).1, fun j hj => h.nx.get (intsV_get _ _ _ hj)⟩
theorem TabAt.accAt {w : World} {B : Nat} {A X : Option Addr} {ca cx : Nat} {T : Tab} (h : TabAt w B A X ca cx T) (hn : 0 < T.n) : ∃ b, A = some ⟨b, 0, none⟩ ∧ b < w.heap.size ∧ T.n ≤ ca ∧ ∀ j, j < T.n → w.cell? ⟨b, j, none⟩ = some (.bool (T.acc j)) := by
  obtain ⟨b, rfl⟩ := h.acc.someAt hn
  exact ⟨b, rfl, (h.acc.lt b rfl).2, (own_cap h.acc).1, fun j hj => h.acc.get (by simp [hj])⟩
set_option maxRecDepth 100000 in
set_option maxHeartbeats 2000000 in
theorem whole_any (w : World) (B : Nat) (A X : Option Addr) (ca cx : Nat) (T : Tab) (h : TabAt w B A X ca cx T) (hn : 0 < T.n) (hn2 : T.n ≤ 1024) (hr : ∀ s c, s < T.n → c < 256 → T.nx s c < T.n) :
    Calls Tryd.prog 36 #[.agg #[.int .i64 0, .slice A T.n ca, .slice X (256 * T.n) cx]] w fun e w' => e = .returned (.bool true) ∧ Below w.heap.size w w' := by
  obtain ⟨xb, rfl, hxl, hxc, hx⟩ := h.nxAt hn
  obtain ⟨o, ho⟩ : ∃ o, o = Obj.cells #[.int .i64 0, .slice A T.n ca, .slice (some ⟨xb, 0, none⟩) (256 * T.n) cx] 54 := ⟨_, rfl⟩
  have hb0 : Below w.heap.size w (w.alloc o) := (Below.refl _ _).alloc (Nat.le_refl _) _
  have hblk := (heap_alloc_new w o).trans (congrArg some ho)
  have c0 : (w.alloc o).cell? ⟨w.heap.size, 0, none⟩ = some (.int .i64 0) := blk_cell hblk 0
  have c1 : (w.alloc o).cell? ⟨w.heap.size, 1, none⟩ = some (.slice A T.n ca) := blk_cell hblk 1
  have c2 : (w.alloc o).cell? ⟨w.heap.size, 2, none⟩ = some (.slice (some ⟨xb, 0, none⟩) (256 * T.n) cx) := blk_cell hblk 2
  have HX := Lib.hid (show ∀ j, j < 256 * T.n → (w.alloc o).cell? ⟨xb, j, none⟩ = some (.int .i64 ((T.nx (j / 256) (j % 256) : Nat) : Int)) from fun j hj => (hb0.cell (p := ⟨xb, j, none⟩) hxl).trans (hx j hj))
  have HR := Lib.hid hr
  have HB0 := Lib.hid hb0
  have HO := Lib.hid ho
  have n1 : ¬ ((T.n : Int) ≤ 0) := by omega
  have n2 : (((256 * T.n : Nat) : Int) != 256 * (T.n : Int)) = false := by simp
  have n3 : IntKind.i64.wrap (256 * (T.n : Int)) = 256 * (T.n : Int) := by rw [IntKind.wrap_i64]; omega
  clear h hx hr hblk hb0 ho
  go_enter Tryd.func36, Tryd.ntmps36
  go_upto_region 1 with fail
  rw [← HO.out]
  generalize w.alloc o = W at c0 c1 c2 HX HB0 ⊢
  generalize w.heap.size = z0 at c0 c1 c2 ⊢
  go_wp2
  go_loopw [29] (fun s29 wr => W = wr ∧ ∃ j : Nat, s29 = .int .i64 (j : Nat) ∧ j ≤ 256 * T.n) (fun s29 _ => 256 * T.n - (intOf s29).toNat)
  case atStart => exact ⟨rfl, 0, rfl, Nat.zero_le _⟩
  case round =>
    obtain ⟨rfl, j, rfl, hj⟩ := hrel
    by_cases hlt : j < 256 * T.n
    · have x1 := HX.out j hlt
      have hv := HR.out (j / 256) (j % 256) (by omega) (by omega)
      obtain ⟨v, hve⟩ : ∃ v, T.nx (j / 256) (j % 256) = v := ⟨_, rfl⟩
      rw [hve] at x1 hv
      clear hve
      have i1 : (j : Int) < ((256 * T.n : Nat) : Int) := by omega
      have i2 : ¬ ((v : Int) < 0) := by omega
      have i3 : decide (T.n ≤ v) = false := decide_eq_false (by omega)
      go_wp2
      go_roundw
      case rel => exact ⟨trivial, j + 1, by go_num, by omega⟩
      case measure => simp [intOf]; omega
    · obtain rfl : j = 256 * T.n := by omega
      go_wp2
      go_ret
      exact ⟨rfl, HB0.out⟩
end Go.Proofs.YtejmjjgbbojfbaaDoor

/- The law's own example; one of the answers that were told. -/
import Derived.Test.YtmdcedbnlbcdjaaDoorMReplyN
import Derived.Lib.SlBytesConst
namespace Go.Proofs.YtmdcedbnlbcdjaaDoor
open Go Go.RowKit Go.My Go.Shelf
def awakeB : Str := [50, 53, 48, 45, 97, 13, 10, 50, 53, 48, 32, 50, 46, 48, 46, 48, 32, 98, 13, 10]
theorem awake_ok : readOk awakeB = true := by decide +kernel
theorem awake_told : readT awakeB = [⟨250, [⟨#[97]⟩, ⟨#[50, 46, 48, 46, 48, 32, 98]⟩], (2, 0, 0)⟩] := by kernel_rfl
theorem flatten_at {k : Nat} : ∀ (css : List (List Value)) (_ : ∀ cs ∈ css, cs.length = k) (i j : Nat) (_ : j < k) (cs : List Value), css[i]? = some cs → css.flatten[i * k + j]? = cs[j]?
  | [], _, i, j, _, cs, h => by simp at h
  | x :: r, hk, 0, j, hj, cs, h => by
    have e : x = cs := by simpa using h
    subst e
    rw [Nat.zero_mul, Nat.zero_add, List.flatten_cons, List.getElem?_append_left (by rw [hk x (by simp)]; exact hj)]
  | x :: r, hk, i + 1, j, hj, cs, h => by
    have hx := hk x (by simp)
    rw [List.flatten_cons, List.getElem?_append_right (by rw [hx, Nat.succ_mul]; omega), hx, show (i + 1) * k + j - k = i * k + j by rw [Nat.succ_mul]; omega]
    exact flatten_at r (fun c hc => hk c (by simp [hc])) i j hj cs (by simpa using h)
/-- One of the answers that were told. -/
theorem Reps.elem {base n : Nat} {w : World} {A : Option Addr} {c : Nat} {rs : List Rep} (h : Reps base n w (.slice A rs.length c) rs) (i : Nat) (hi : i < rs.length) :
    ∃ g A1 c1, A = some ⟨g, 0, none⟩ ∧ base ≤ g ∧ g < w.heap.size ∧ (∀ j, j < 5 → w.cell? ⟨g, i * 5 + j, none⟩ = (repC rs[i].code A1 rs[i].lines.length c1 rs[i].more)[j]?) ∧ RdT n w 9 A1 (strs rs[i].lines) := by
  obtain ⟨css, h1, h2, h3⟩ := h
  have hci : i < css.length := by omega
  have hrep := h3 i css[i] rs[i] (List.getElem?_eq_getElem hci) (List.getElem?_eq_getElem hi)
  obtain ⟨A1, c1, e1, -, e3⟩ := hrep
  obtain ⟨g, cap, hv, hbg, hlt⟩ := h1.form (by omega)
  injection hv with hA
  subst hA
  have hlen : ∀ cs ∈ css, cs.length = 5 := by
    intro cs hcs
    obtain ⟨k, hk, rfl⟩ := List.mem_iff_getElem.1 hcs
    obtain ⟨A2, c2, e, -⟩ := h3 k css[k] rs[k] (List.getElem?_eq_getElem hk) (List.getElem?_eq_getElem (by omega))
    rw [e]
    rfl
  refine ⟨g, A1, c1, rfl, hbg, hlt, fun j hj => ?_, e3⟩
  have hf := flatten_at css hlen i j hj css[i] (List.getElem?_eq_getElem hci)
  have hje : (repC rs[i].code A1 rs[i].lines.length c1 rs[i].more)[j]? = some ((repC rs[i].code A1 rs[i].lines.length c1 rs[i].more)[j]'hj) := Array.getElem?_eq_getElem hj
  rw [hje]
  have hadd : (⟨g, i * 5 + j, none⟩ : Addr) = (⟨g, 0, none⟩ : Addr).add (i * 5 + j) := by unfold Addr.add; split <;> simp_all
  rw [hadd]
  refine h1.cells (g := g) rfl _ _ ?_
  rw [hf, e1, Array.getElem?_toList, hje]
theorem rd_block {w : World} {b : Nat} {cs : Array Value} {t : TypeId} {fr : Nat × Nat} (h : w.heap[b]? = some (.cells cs t fr)) : Rd w.heap.size w (some ⟨b, 0, none⟩) cs.toList := fun _ =>
  ⟨b, 0, rfl, blt h, fun j u hu => by rw [bcell h, Nat.zero_add, ← Array.getElem?_toList]; exact hu⟩
theorem awake_cells : (awakeB.map u8v) = [.int .u8 50, .int .u8 53, .int .u8 48, .int .u8 45, .int .u8 97, .int .u8 13, .int .u8 10, .int .u8 50, .int .u8 53, .int .u8 48, .int .u8 32, .int .u8 50, .int .u8 46, .int .u8 48, .int .u8 46, .int .u8 48, .int .u8 32, .int .u8 98, .int .u8 13, .int .u8 10] := by kernel_rfl
set_option maxRecDepth 100000 in
set_option maxHeartbeats 1000000 in
theorem awake_any (w : World) (hG : G w) : Calls Tryd.prog 4 #[] w fun e w' => e = .returned (.bool true) ∧ Below w.heap.size w w' := by
  have hcv := fun (W : World) (C : Array Value) (n c : Nat) => Lib.run_convert_bytes_const (P := Tryd.prog) W 22 5 C n c Tryd.underlying22 Tryd.underlying5
  go_enter Tryd.func4, Tryd.ntmps4
  go_wp2_with fail
  go_at_call 5
  refine (read_yes (some ⟨w.heap.size, 0, none⟩) 20 20 awakeB _ (hG.after (bal _ _)) rfl (by rw [awake_cells]; exact rd_block (bnew _ _)) (by decide) awake_ok).mono ?_
  rintro e w1 ⟨⟨A, c, rfl, hreps⟩, hb⟩
  rw [awake_told] at hreps ⊢
  obtain ⟨g, A1, c1, rfl, hg1, hg2, hcell, hrd1⟩ := hreps.elem 0 (by simp)
  simp only [List.getElem_cons_zero, List.length_cons, List.length_nil, Nat.zero_mul, Nat.zero_add, Nat.reduceAdd] at hcell hrd1 ⊢
  have hmay : MayF ⟨250, [⟨#[97]⟩, ⟨#[50, 46, 48, 46, 48, 32, 98]⟩], (2, 0, 0)⟩ := (read_back awakeB (by have := awake_ok; unfold readOk at this; exact of_decide_eq_true (Bool.and_eq_true_iff.1 this).2)).1 _ (by have := awake_told; unfold readT at this; rw [this]; simp)
  obtain ⟨b1, o1, rfl, hb1, hc1⟩ := hrd1.rd.some (by simp [strs])
  have hg1 : G w1 := hG.after (bthen (bal w _) hb (Nat.le_refl _))
  have hM := may_yes ⟨250, [⟨#[97]⟩, ⟨#[50, 46, 48, 46, 48, 32, 98]⟩], (2, 0, 0)⟩ b1 o1 c1 (w1.alloc (.cells #[.slice none 0 0, .bool false] 44)) (hg1.after (bal _ _)) hmay ((hrd1.rd.below (bal _ _)).mono (by simp))
  have HM := Lib.hid hM
  have HB := Lib.hid hb
  have k0 := ((bal w1 (.cells #[.slice none 0 0, .bool false] 44)).cell (p := ⟨g, 0, none⟩) hg2).trans (hcell 0 (by decide))
  have k1 := ((bal w1 (.cells #[.slice none 0 0, .bool false] 44)).cell (p := ⟨g, 1, none⟩) hg2).trans (hcell 1 (by decide))
  have k2 := ((bal w1 (.cells #[.slice none 0 0, .bool false] 44)).cell (p := ⟨g, 2, none⟩) hg2).trans (hcell 2 (by decide))
  have k3 := ((bal w1 (.cells #[.slice none 0 0, .bool false] 44)).cell (p := ⟨g, 3, none⟩) hg2).trans (hcell 3 (by decide))
  have k4 := ((bal w1 (.cells #[.slice none 0 0, .bool false] 44)).cell (p := ⟨g, 4, none⟩) hg2).trans (hcell 4 (by decide))
  simp only [repC, List.getElem?_toArray, List.getElem?_cons_zero, List.getElem?_cons_succ] at k0 k1 k2 k3 k4
  clear hcell hc1 hrd1 hM hmay hb
  have he3 := eq3
  go_wp2_with (go_at_call 8; refine (new_any _).mono ?_; rintro e w1 ⟨rfl, rfl⟩)
  go_at_call 7
  refine HM.out.mono ?_
  rintro e w2 ⟨rfl, hb2⟩
  have hr2 := keep (bnew w1 (.cells #[.slice none 0 0, .bool false] 44)) hb2
  have HR2 := Lib.hid hr2
  have HB2 := Lib.hid hb2
  clear hr2 hb2 k0 k1 k2 k3 k4
  go_wp2_with (go_at_call 9; refine (bad_any _ _ _ _ HR2.out).mono ?_; rintro e w9 ⟨rfl, rfl⟩)
  go_ret
  exact ⟨rfl, bthen (bthen (bthen (bal w _) HB.out (Nat.le_refl _)) (bal w1 _) (Nat.le_refl _)) HB2.out (Nat.le_refl _)⟩
end Go.Proofs.YtmdcedbnlbcdjaaDoor

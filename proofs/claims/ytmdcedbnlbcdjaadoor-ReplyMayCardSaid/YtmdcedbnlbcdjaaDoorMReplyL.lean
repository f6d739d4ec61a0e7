/- The reader's small functions, and Put's deferred closure. -/
import Derived.Test.YtmdcedbnlbcdjaaDoorMReplyK
import Derived.Test.YtmdcedbnlbcdjaaDoorMApp
import Derived.Recover
import Derived.Defers
import Derived.Deep.RegionLaw
namespace Go.Proofs.YtmdcedbnlbcdjaaDoor
open Go Go.RowKit Go.My Go.Shelf

theorem new_any (w : World) : Calls Tryd.prog 8 #[] w fun e w' => e = .returned (.pointer (some ⟨w.heap.size, 0, none⟩)) ∧ w' = w.alloc (.cells #[.slice none 0 0, .bool false] 44) := by
  go_enter Tryd.func8, Tryd.ntmps8
  go_wp2
  go_ret
  exact ⟨rfl, rfl⟩
theorem bad_any (r : Nat) (v : Value) (b : Bool) (w : World) (h : w.heap[r]? = some (.cells #[v, .bool b] 44 (0, 0))) :
    Calls Tryd.prog 9 #[.pointer (some ⟨r, 0, none⟩)] w fun e w' => e = .returned (.bool b) ∧ w' = w := by
  have h1 := bcell h 1
  simp only [List.getElem?_toArray, List.getElem?_cons_zero, List.getElem?_cons_succ] at h1
  clear h
  go_enter Tryd.func9, Tryd.ntmps9
  go_wp2
  go_ret
  exact ⟨rfl, rfl⟩
theorem left_any (r : Nat) (A : Option Addr) (n c : Nat) (b : Bool) (w : World) (h : w.heap[r]? = some (.cells #[.slice A n c, .bool b] 44 (0, 0))) :
    Calls Tryd.prog 11 #[.pointer (some ⟨r, 0, none⟩)] w fun e w' => e = .returned (.int .i64 n) ∧ w' = w := by
  have h1 := bcell h 0
  simp only [List.getElem?_toArray, List.getElem?_cons_zero, List.getElem?_cons_succ] at h1
  clear h
  go_enter Tryd.func11, Tryd.ntmps11
  go_wp2
  go_ret
  exact ⟨rfl, rfl⟩

set_option maxRecDepth 20000 in
theorem caught_any (r rb bu : Nat) (v : Value) (b : Bool) (w : World) (hrb : w.heap[rb]? = some (.cells #[.pointer (some ⟨r, 0, none⟩)] 36 (0, 0))) (hr : w.heap[r]? = some (.cells #[v, .bool b] 44 (0, 0))) :
    CallsD Tryd.prog 15 #[.pointer (some ⟨rb, 0, none⟩), .pointer (some ⟨bu, 0, none⟩)] (.panicking [{ v := wrongV, recovered := false }]) w fun e u' w' =>
      e = .returned (.tuple #[]) ∧ u' = .panicking [{ v := wrongV, recovered := true }] ∧ w' = ((w.setCell ⟨r, 0, none⟩ (.slice none 0 0)).setCell ⟨r, 1, none⟩ (.bool true)).alloc (.cells #[] 46) := by
  have c0 := bcell hrb 0
  have c1 := bcell hr 0
  have c2 := bcell hr 1
  have f1 := bfree hr
  have l1 := blt hrb
  have l2 := blt hr
  simp only [List.getElem?_toArray, List.getElem?_cons_zero, List.getElem?_cons_succ] at c0 c1 c2
  clear hrb hr
  refine callsD_of_wpS Tryd.func15 rfl fun c₀ cs hu => ?_
  apply wpS_seq
  apply wpS_seq
  apply wpS_region
  simp [wpOpsS, go_sem, recoverD, hu, Tryd.ntmps15, Exit.thenS]
  refine wpS_of_wp ?_
  unfold wrongV
  simp only [Array.replicate_succ, Array.replicate_zero, List.push_toArray, List.append_toArray, List.nil_append, List.cons_append]
  have hta : ∀ w, (Instr.typeAssert (.iface 46 (.agg #[])) 20 46 true).run Tryd.prog w = .ok (.tuple #[.agg #[], .bool true]) w := fun _ => rfl
  go_wp2
  simp [Exit.thenS, bodyPostS, results, Tryd.results15, wrongV]

theorem clone_any {n0 : Nat} {A : Option Addr} {k c : Nat} {l : Str} (w : World) (hk : l.length = k) (hA : A = none → c = 0 ∧ k = 0) (hbig : k ≤ 140737488355328) (h : Rd n0 w A (l.map u8v)) :
    Calls Tryd.prog 16 #[.slice A k c] w fun e w' => (∃ A' c', e = .returned (.slice A' k c')) ∧ Below w.heap.size w w' := by
  cases A with
  | none =>
    obtain ⟨rfl, rfl⟩ := hA rfl
    refine (Tryd.bytes_Clone_nil 0 0 w).mono ?_
    rintro e w' ⟨rfl, rfl⟩
    exact ⟨⟨none, 0, rfl⟩, Below.refl _ _⟩
  | some a =>
    rcases Nat.eq_zero_or_pos k with h0 | h0
    · subst h0
      refine (Tryd.bytes_Clone_at a 0 c [] w rfl (by omega) (fun i hi => by omega)).mono ?_
      rintro e w' ⟨v', rfl, hown, _, hb⟩
      obtain ⟨A', c', rfl, _⟩ := own_slice hown
      exact ⟨⟨A', c', rfl⟩, hb⟩
    · obtain ⟨b, o, e, _, _⟩ := h.some (by simp; omega)
      injection e with e
      subst e
      refine (Tryd.bytes_Clone_at ⟨b, o, none⟩ k c (nums l) w (by rw [nums_length]; exact hk) hbig (fun i hi => ?_)).mono ?_
      · have h1 := h.nums i (by omega)
        have hadd : (⟨b, o, none⟩ : Addr).add i = ⟨b, o + i, none⟩ := by unfold Addr.add; split <;> simp_all
        rw [hadd]
        exact h1
      · rintro e w' ⟨v', rfl, hown, _, hb⟩
        obtain ⟨A', c', rfl, _⟩ := own_slice hown
        exact ⟨⟨A', c', rfl⟩, hb⟩

set_option maxRecDepth 20000 in
theorem idle_any (r rb bu : Nat) (A : Option Addr) (n c used : Nat) (l : Str) (b : Bool) (w : World) (hrb : w.heap[rb]? = some (.cells #[.pointer (some ⟨r, 0, none⟩)] 36 (0, 0))) (hr : w.heap[r]? = some (.cells #[.slice A n c, .bool b] 44 (0, 0)))
    (hbu : w.heap[bu]? = some (.cells #[.int .i64 used] 3 (0, 0))) (hu : used ≤ n) (hl : l.length = n) (hc : n ≤ c) (hA : A = none → c = 0) (hbig : n ≤ 2000000) (hrd : Rd w.heap.size w A (l.map u8v)) :
    CallsD Tryd.prog 15 #[.pointer (some ⟨rb, 0, none⟩), .pointer (some ⟨bu, 0, none⟩)] .returning w fun e u' w' =>
      e = .returned (.tuple #[]) ∧ u' = .returning ∧ ∃ A' c' w1, Below w.heap.size w w1 ∧ w' = w1.setCell ⟨r, 0, none⟩ (.slice A' (n - used) c') := by
  obtain ⟨i8, hi8, _, hz8, _⟩ := info_parts infoU8
  have c0 := bcell hrb 0
  have c1 := bcell hr 0
  have c2 := bcell hr 1
  have c3 := bcell hbu 0
  have f1 := bfree hr
  have l1 := blt hrb
  have l2 := blt hr
  have HRB := Lib.hid hrb
  have HR := Lib.hid hr
  have HBU := Lib.hid hbu
  have hne : rb ≠ r := by rintro rfl; rw [hrb] at hr; injection hr with hr; injection hr with _ hr; cases hr
  simp only [List.getElem?_toArray, List.getElem?_cons_zero, List.getElem?_cons_succ] at c0 c1 c2 c3
  clear hrb hr hbu
  have hcut := fun W => run_cut (P := Tryd.prog) 22 5 .i64 Tryd.underlying22 hi8 hz8 A n c used hu (used : Int) rfl W
  have hmix : Tryd.prog.follows .mixedOrders = true := by kernel_rfl
  refine callsD_of_wpS Tryd.func15 rfl fun c₀ cs hu' => ?_
  apply wpS_seq
  apply wpS_seq
  apply wpS_region
  simp [wpOpsS, go_sem, recoverD, hu', Tryd.ntmps15, Exit.thenS]
  refine wpS_of_wp ?_
  simp only [Array.replicate_succ, Array.replicate_zero, List.push_toArray, List.append_toArray, List.nil_append, List.cons_append]
  go_wp2
  simp only [Exit.thenS]
  refine wpS_of_wp ?_
  have hrdu := hrd.drop c used (by simp; omega)
  rw [← List.map_drop] at hrdu
  have hk1 : (l.drop used).length = n - used := by rw [List.length_drop]; omega
  have hk2 : cutA A c used = none → c - used = 0 ∧ n - used = 0 := fun h => by have := hA (cutA_none h); omega
  have hk3 : n - used ≤ 140737488355328 := by omega
  have hrdD := hrdu.below (Below.refl w.heap.size w).drew
  go_region_law (first | (go_simp; go_at_call 16; refine (clone_any (l := l.drop used) w.drew hk1 hk2 hk3 hrdD).mono ?_; rintro e w1 ⟨⟨A', c', rfl⟩, hb⟩; have k1 := bcell (keep (w := w.drew) HRB.out hb) 0; have k2 := bcell (keep (w := w.drew) HR.out hb) 0; have k3 := bcell (keep (w := w.drew) HBU.out hb) 0; have k4 := bfree (keep (w := w.drew) HR.out hb) 0; simp only [List.getElem?_toArray, List.getElem?_cons_zero, List.getElem?_cons_succ] at k1 k2 k3))
  all_goals
    have hbw : Below w.heap.size w w1 := ((Below.refl w.heap.size w).drew).trans (hb.mono (Nat.le_refl _))
    exact ⟨rfl, .returning, by rw [← hu'], .tuple #[], results_none rfl _ _ _, rfl, rfl, A', c', w1, hbw, rfl⟩
end Go.Proofs.YtmdcedbnlbcdjaaDoor

/- May: an answer that may be. -/
import Derived.Test.YtmdcedbnlbcdjaaDoorMReplyB
import Derived.Test.YtmdcedbnlbcdjaaDoorMLib
import Derived.Deep.RegionHeld3
import Derived.IntWalk
namespace Go.Proofs.YtmdcedbnlbcdjaaDoor
open Go Go.RowKit Go.My Go.Shelf

/-! ### '==' on arrays of three ints -/
theorem eqIn3 (d : Nat) (a b c : Int) (W : World) : (Op.equalIn (d + 2) 31 (.agg #[.int .i64 a, .int .i64 b, .int .i64 c]) (.agg #[.int .i64 a, .int .i64 b, .int .i64 c])).run Tryd.prog W = .ok true W := by
  have hi := run_equalIn_int (P := Tryd.prog) (w := W) d 3 .i64 .i64
  unfold Op.equalIn
  have hag : ∀ W, (isAgg 3).run Tryd.prog W = .ok false W := fun W => by simp [isAgg, go_sem, Tryd.underlying3]
  simp [go_sem, hi, hag, Tryd.underlying3, List.range', List.forIn_cons]
theorem eq3 (a b c : Int) (W : World) : (binOp .eql 31 (.agg #[.int .i64 a, .int .i64 b, .int .i64 c]) (.agg #[.int .i64 a, .int .i64 b, .int .i64 c])).run Tryd.prog W = .ok (.bool true) W := by
  simp [go_sem]
  rw [eqIn3]
  rfl

/-- An answer in five cells: its lines stand in a row. -/
def repC (code : Int) (A : Option Addr) (n c : Nat) (m : Int × Int × Int) : Array Value := #[.int .i64 code, .slice A n c, .int .i64 m.1, .int .i64 m.2.1, .int .i64 m.2.2]
def strs (l : List ByteArray) : List Value := l.map Value.string
/-- A line that may be. -/
def fine (s : ByteArray) : Bool := decide (s.size ≤ 506) && !(Lib.containsAny s.data.toList [13, 10])
structure MayF (x : Rep) : Prop where
  lo : 200 ≤ x.code
  hi : x.code ≤ 599
  one : 1 ≤ x.lines.length
  many : x.lines.length ≤ 100
  fine : ∀ s ∈ x.lines, fine s = true
  more : ∀ s, x.lines.getLast? = some s → x.more = moreF x.code s

theorem strs_at {ls : List ByteArray} {k : Nat} (h : k < ls.length) : (strs ls)[k]? = some (.string ls[k]) := by simp [strs, h]

set_option maxHeartbeats 2000000 in
theorem may_yes (x : Rep) (b o c : Nat) (w : World) (hG : G w) (hx : MayF x) (hR : Rd w.heap.size w (some ⟨b, o, none⟩) (strs x.lines)) :
    Calls Tryd.prog 7 #[.agg (repC x.code (some ⟨b, o, none⟩) x.lines.length c x.more)] w fun e w' => e = .returned (.bool true) ∧ Below w.heap.size w w' := by
  obtain ⟨k', ls, m⟩ := x
  obtain ⟨h1, h2, h3, h4, hf, hm⟩ := hx
  simp only [] at h1 h2 h3 h4 hf hm hR ⊢
  obtain ⟨_, _, he, hlt, hcell⟩ := hR.some (by simp [strs]; omega)
  injection he with he
  injection he with he1 he2
  subst he1; subst he2
  unfold repC
  have HF := Lib.hid hf
  have HM := Lib.hid hm
  have HC := Lib.hid hcell
  clear hf hm hR hcell
  have hn0 : ((ls.length : Int) == 0) = false := beq_eq_false_iff_ne.2 (by omega)
  have hn1 : decide ((100 : Int) < (ls.length : Int)) = false := decide_eq_false (by omega)
  have hk0 : decide (k' < 200) = false := decide_eq_false (by omega)
  have hk1 : decide (599 < k') = false := decide_eq_false (by omega)
  go_enter Tryd.func7, Tryd.ntmps7
  go_wp2_with fail
  go_loopg [28] ls.length (fun g i wr => ∃ k : Nat, k + g = ls.length ∧ i = .int .i64 k ∧ Below w.heap.size w wr ∧ wr.heap[w.heap.size]? = some (.cells (repC k' (some ⟨b, o, none⟩) ls.length c m) 33 (0, 0)))
  case atStart => exact ⟨0, by omega, rfl, bal _ _, bnew _ _⟩
  case round =>
    obtain ⟨k, hkg, rfl, hbel, hblk⟩ := hrel
    have HB := Lib.hid hblk
    cases gk with
    | zero =>
      obtain rfl : k = ls.length := by omega
      clear hblk
      have hn2 : decide ((ls.length : Int) < (ls.length : Int)) = false := decide_eq_false (by omega)
      obtain ⟨q, hq⟩ : ∃ q : Nat, q + 1 = ls.length := ⟨ls.length - 1, by omega⟩
      obtain ⟨last, hlast⟩ : ∃ s, ls[q]? = some s := ⟨_, List.getElem?_eq_getElem (by omega)⟩
      have hlv : (strs ls)[q]? = some (.string last) := by simp [strs, hlast]
      have hcl := (hbel.cell (p := ⟨b, o + q, none⟩) hlt).trans (HC.out _ _ hlv)
      have hmore := HM.out last (by rw [List.getLast?_eq_getElem?, ← hq]; exact hlast)
      have hfl := HF.out last (List.mem_of_getElem? hlast)
      unfold fine at hfl
      have hsz : last.size < 4294967281 := by
        have : last.size ≤ 506 := by simpa using (Bool.and_eq_true_iff.1 hfl).1
        omega
      have hx := bcell HB.out
      have hx0 := hx 0
      have hx1 := hx 1
      have hx2 := hx 2
      have hx3 := hx 3
      have hx4 := hx 4
      simp only [repC, List.getElem?_toArray, List.getElem?_cons_zero, List.getElem?_cons_succ] at hx0 hx1 hx2 hx3 hx4
      have hGd := (hG.after hbel).drew
      have hmr : Calls Tryd.prog 14 #[.int .i64 k', .string last] wr.drew (MorePost m wr.drew) := by rw [hmore]; exact more_any _ (by omega) (by omega) _ _ hGd hsz
      have HMR := Lib.hid hmr
      have heq := eq3 m.1 m.2.1 m.2.2
      have hle := hbel.size
      have hlw := blt HB.out
      have hw1 : IntKind.i64.wrap ((ls.length : Int) - 1) = (q : Int) := by rw [← hq, IntWalk.i64_in _ (by omega)]; omega
      have hq1 : (q : Int) < (ls.length : Int) := by omega
      have hq2 : q < ls.length := by omega
      clear hmore hmr hlast hfl hlv hx hq
      go_wp2_with fail
      go_region_held3 (fun w' => w'.cell? ⟨w.heap.size, 0, none⟩ = some (.int .i64 k') ∧ w'.cell? ⟨w.heap.size, 1, none⟩ = some (.slice (some ⟨b, o, none⟩) ls.length c) ∧ w'.cell? ⟨w.heap.size, 2, none⟩ = some (.int .i64 m.1) ∧ w'.cell? ⟨w.heap.size, 3, none⟩ = some (.int .i64 m.2.1) ∧ w'.cell? ⟨w.heap.size, 4, none⟩ = some (.int .i64 m.2.2) ∧ w'.cell? ⟨b, o + q, none⟩ = some (.string last))
        (first
          | go_keep
          | (go_split_ands
             refine ⟨?_, ?_, ?_, ?_, ?_, ?_⟩
             · exact (hb.cell (p := ⟨w.heap.size, 0, none⟩) hlw).trans hx0
             · exact (hb.cell (p := ⟨w.heap.size, 1, none⟩) hlw).trans hx1
             · exact (hb.cell (p := ⟨w.heap.size, 2, none⟩) hlw).trans hx2
             · exact (hb.cell (p := ⟨w.heap.size, 3, none⟩) hlw).trans hx3
             · exact (hb.cell (p := ⟨w.heap.size, 4, none⟩) hlw).trans hx4
             · exact (hb.cell (p := ⟨b, o + q, none⟩) (Nat.lt_of_lt_of_le hlt hle)).trans hcl))
        ((go_at_call 14; refine (HMR.out).mono ?_; rintro e w1 ⟨rfl, hb⟩))
      go_wp2_with fail
      go_ret
      exact ⟨rfl, bthen hbel.drew hb (Nat.le_refl _)⟩
    | succ g =>
      have hk : k < ls.length := by omega
      have hlk : decide ((k : Int) < (ls.length : Int)) = true := decide_eq_true (by omega)
      have hcl := (hbel.cell (p := ⟨b, o + k, none⟩) hlt).trans (HC.out _ _ (strs_at hk))
      have hfl := HF.out ls[k] (List.getElem_mem hk)
      generalize ls[k] = s at hcl hfl
      unfold fine at hfl
      have hsz : s.size ≤ 506 := by simpa using (Bool.and_eq_true_iff.1 hfl).1
      have hca : Lib.containsAny s.data.toList [13, 10] = false := by simpa using (Bool.and_eq_true_iff.1 hfl).2
      have hsd : decide ((506 : Int) < (s.size : Int)) = false := decide_eq_false (by omega)
      clear hfl hblk
      go_wp2_with (go_at_call 13; refine (containsAny_two s 13 10 (by decide) (by decide) (by omega) _).mono ?_; rintro e w1 ⟨rfl, hb⟩)
      go_roundg g
      case measure => omega
      case rel => exact ⟨k + 1, by omega, by go_num, bthen hbel hb (Nat.le_refl _), keep HB.out hb⟩
end Go.Proofs.YtmdcedbnlbcdjaaDoor

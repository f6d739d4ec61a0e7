/- Read: the answers of bytes. -/
import Derived.Test.YtmdcedbnlbcdjaaDoorMReplyM
namespace Go.Proofs.YtmdcedbnlbcdjaaDoor
open Go Go.RowKit Go.My Go.Shelf

/-- Are bytes answers? -/
def readOk (l : Str) : Bool := (runL (l.length + 1) l {}).2 && decide ((runL (l.length + 1) l {}).1.used = l.length)
def readT (l : Str) : List Rep := (runL (l.length + 1) l {}).1.told
def ReadYes (l : Str) (w : World) (e : Ending) (w' : World) : Prop := (∃ A c, e = .returned (.tuple #[.slice A (readT l).length c, .int .i64 0]) ∧ Reps w.heap.size w'.heap.size w' (.slice A (readT l).length c) (readT l)) ∧ Below w.heap.size w w'
theorem put_below {w w' : World} {l : Str} {e : Ending} (o : Obj) (h : PutPost w.heap.size l (w.alloc o) e w') : Below w.heap.size w w' :=
  ⟨h.os, h.tape, h.output, by have := h.size; simp at this; omega, fun k hk => (h.old k (by simp; omega) (by omega)).trans (Below.heap_alloc _ _ _ hk)⟩
theorem Reps.slice {base n : Nat} {w : World} {v : Value} {rs : List Rep} (h : Reps base n w v rs) : ∃ A c, v = .slice A rs.length c := by
  obtain ⟨css, h1, h2, -⟩ := h
  obtain ⟨A, c, e, _⟩ := own_slice h1
  exact ⟨A, c, by rw [e, h2]⟩
theorem Reps.base_le {base base' n : Nat} {w : World} {v : Value} {rs : List Rep} (h : Reps base n w v rs) (hb : base' ≤ base) : Reps base' n w v rs := by
  obtain ⟨css, k1, k2, k3⟩ := h
  exact ⟨css, own_base k1 hb, k2, k3⟩

set_option maxHeartbeats 1000000 in
theorem read_yes (A : Option Addr) (n c : Nat) (l : Str) (w : World) (hG : G w) (hn : l.length = n) (hrd : Rd w.heap.size w A (l.map u8v)) (hlen : n ≤ 1000000) (hok : readOk l = true) :
    Calls Tryd.prog 5 #[.slice A n c] w (ReadYes l w) := by
  unfold readOk at hok
  have hP := put_any w.heap.size A n c l (w.alloc (.cells #[.slice none 0 0, .bool false] 44)) (hG.after (bal _ _)) hG.size (bnew _ _) hn ((hrd.below (bal _ _)).mono (by simp)) hlen
  have HP := Lib.hid hP
  have HOK := Lib.hid hok
  clear hP hok hn hrd
  go_enter Tryd.func5, Tryd.ntmps5
  go_wp2_with (go_at_call 8; refine (new_any _).mono ?_; rintro e w1 ⟨rfl, rfl⟩)
  go_wp2_with (go_at_call 10; refine HP.out.mono ?_; rintro e w1 hPP; obtain ⟨lv, rfl, ht⟩ := hPP.told; have HT := Lib.hid ht; have HPP := Lib.hid hPP; clear hPP ht)
  obtain ⟨A1, c1, hleft⟩ := HPP.out.left
  obtain ⟨hR2, hRu⟩ := Bool.and_eq_true_iff.1 HOK.out
  rw [hR2, of_decide_eq_true hRu, Nat.sub_self] at hleft
  have HL := Lib.hid hleft
  clear hR2 hRu hleft
  go_wp2_with (first | (go_at_call 9; refine (bad_any _ _ _ _ HL.out).mono ?_; rintro e w9 ⟨rfl, rfl⟩) | (go_at_call 11; refine (left_any _ _ _ _ _ _ HL.out).mono ?_; rintro e w9 ⟨rfl, rfl⟩))
  go_ret2
  obtain ⟨A2, c2, rfl⟩ := HT.out.slice
  exact ⟨⟨A2, c2, rfl, HT.out.base_le (by simp)⟩, put_below _ HPP.out⟩

def ReadNo (w : World) (e : Ending) (w' : World) : Prop := e = .returned (.tuple #[.slice none 0 0, .int .i64 2]) ∧ Below w.heap.size w w'
set_option maxHeartbeats 1000000 in
theorem read_no (A : Option Addr) (n c : Nat) (l : Str) (w : World) (hG : G w) (hn : l.length = n) (hrd : Rd w.heap.size w A (l.map u8v)) (hlen : n ≤ 1000000) (hok : readOk l = false) :
    Calls Tryd.prog 5 #[.slice A n c] w (ReadNo w) := by
  unfold readOk at hok
  have hP := put_any w.heap.size A n c l (w.alloc (.cells #[.slice none 0 0, .bool false] 44)) (hG.after (bal _ _)) hG.size (bnew _ _) hn ((hrd.below (bal _ _)).mono (by simp)) hlen
  have HP := Lib.hid hP
  have HOK := Lib.hid hok
  clear hP hok hn hrd
  have hule := used_le l
  have HU := Lib.hid hule
  clear hule
  go_enter Tryd.func5, Tryd.ntmps5
  go_wp2_with (go_at_call 8; refine (new_any _).mono ?_; rintro e w1 ⟨rfl, rfl⟩)
  go_wp2_with (go_at_call 10; refine HP.out.mono ?_; rintro e w1 hPP; obtain ⟨lv, rfl, ht⟩ := hPP.told; have HPP := Lib.hid hPP; clear hPP ht)
  obtain ⟨A1, c1, hleft⟩ := HPP.out.left
  cases hR2 : (runL (l.length + 1) l {}).2 with
  | false =>
    rw [hR2] at hleft
    have HL := Lib.hid hleft
    clear hR2 hleft
    go_wp2_with (first | (go_at_call 9; refine (bad_any _ _ _ _ HL.out).mono ?_; rintro e w9 ⟨rfl, rfl⟩) | (go_at_call 11; refine (left_any _ _ _ _ _ _ HL.out).mono ?_; rintro e w9 ⟨rfl, rfl⟩))
    go_ret2
    exact ⟨rfl, put_below _ HPP.out⟩
  | true =>
    rw [hR2] at hleft
    obtain ⟨k, hk⟩ : ∃ k, l.length - (runL (l.length + 1) l {}).1.used = k := ⟨_, rfl⟩
    simp only [if_true, hk] at hleft
    have hk0 : 0 < k := by
      rcases Nat.eq_zero_or_pos k with h0 | h0
      · have h := HOK.out
        rw [hR2] at h
        have := HU.out
        simp only [Bool.true_and, decide_eq_false_iff_not] at h
        omega
      · exact h0
    have HL := Lib.hid hleft
    have hd : decide ((0 : Int) < (k : Int)) = true := decide_eq_true (by omega)
    clear hR2 hleft hk
    go_wp2_with (first | (go_at_call 9; refine (bad_any _ _ _ _ HL.out).mono ?_; rintro e w9 ⟨rfl, rfl⟩) | (go_at_call 11; refine (left_any _ _ _ _ _ _ HL.out).mono ?_; rintro e w9 ⟨rfl, rfl⟩))
    go_ret2
    exact ⟨rfl, put_below _ HPP.out⟩
end Go.Proofs.YtmdcedbnlbcdjaaDoor

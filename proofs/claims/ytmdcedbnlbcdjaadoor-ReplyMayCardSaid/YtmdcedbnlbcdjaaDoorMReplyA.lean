/- The small functions of package reply. -/
import Derived.Test.YtmdcedbnlbcdjaaDoorProg
import Derived.Test.YtmdcedbnlbcdjaaDoorMG
import Derived.Test.YtmdcedbnlbcdjaaDoorMReplyPure
import Derived.WalkKit
import Derived.WalkSpells
import Derived.Lib.Hide
import Derived.WalkLawsBesides
namespace Go.Proofs.YtmdcedbnlbcdjaaDoor
open Go Go.RowKit Go.My

/-- What is told where bytes are none. -/
def wrongV : Value := .iface 46 (.agg #[])

theorem unless_yes (w : World) : Calls Tryd.prog 25 #[.bool true] w fun e w' => e = .returned (.tuple #[]) ∧ w = w' := by
  go_enter Tryd.func25, Tryd.ntmps25
  go_wp2
  go_end0
  exact ⟨rfl, rfl⟩
theorem unless_no (w : World) : Calls Tryd.prog 25 #[.bool false] w fun e w' => e = .panicked [{ v := wrongV, recovered := false }] ∧ w = w' := by
  go_enter Tryd.func25, Tryd.ntmps25
  go_wp2
  exact ⟨rfl, rfl, rfl⟩

/-! ### number -/
def NumPost (l : Str) (w : World) (e : Ending) (w' : World) : Prop :=
  (∃ n : Int, e = .returned (.tuple #[.int .i64 n, .bool (numOk l)]) ∧ (numOk l = true → n = numVal l ∧ 0 ≤ n ∧ n ≤ 9223372036854775807)) ∧ Below w.heap.size w w'
theorem atoi_ok (s : ByteArray) (v : Int) (h : Lib.atoiAll s.data.toList = .ok v) (w : World) (hs : s.size ≤ 281474976710656) :
    Calls Tryd.prog 33 #[.string s] w fun e w' => e = .returned (.tuple #[.int .i64 v, .nilIface]) ∧ Below w.heap.size w w' :=
  (Tryd.strconv_Atoi_ok s (by omega) v h w).mono fun e w' ⟨he, hw⟩ => ⟨he, by
    rcases hw with rfl | ⟨t, rfl⟩
    · exact Below.refl _ _
    · exact bytesWorld_below _ _ _⟩
theorem atoi_bad (s : ByteArray) (h : ∀ v, Lib.atoiAll s.data.toList ≠ .ok v) (w : World) (hG : G w) (hs : s.size ≤ 281474976710656) :
    Calls Tryd.prog 33 #[.string s] w fun e w' => (∃ v t p, e = .returned (.tuple #[.int .i64 v, .iface t p])) ∧ Below w.heap.size w w' :=
  (atoi_any s w hG hs).mono fun e w' ⟨⟨v, er, he, hm, _, _⟩, hb⟩ => by
    rcases h' : Lib.atoiAll s.data.toList with u | _ | _
    · exact absurd h' (h u)
    all_goals (rw [h'] at hm; obtain ⟨t, p, rfl⟩ := hm; exact ⟨⟨v, t, p, he⟩, hb⟩)

theorem number_bad (s : ByteArray) (h : ∀ v, Lib.atoiAll s.data.toList ≠ .ok v) (w : World) (hG : G w) (hs : s.size ≤ 281474976710656) :
    Calls Tryd.prog 23 #[.string s] w (NumPost s.data.toList w) := by
  have hno : numOk s.data.toList = false := by
    unfold numOk
    split
    · rename_i v hv; exact absurd hv (h v)
    · rfl
  have HN := Lib.hid hno
  clear hno
  go_enter Tryd.func23, Tryd.ntmps23
  go_wp2_with (go_at_call 33; refine (atoi_bad s h w hG hs).mono ?_; rintro e w1 ⟨⟨v, t, p, rfl⟩, hb⟩)
  go_ret2
  exact ⟨⟨v, by rw [HN.out]; rfl, fun h => by rw [HN.out] at h; cases h⟩, hb⟩
theorem number_long (s : ByteArray) (v : Int) (h : Lib.atoiAll s.data.toList = .ok v) (h3 : 3 < s.size) (w : World) (hs : s.size ≤ 281474976710656) :
    Calls Tryd.prog 23 #[.string s] w (NumPost s.data.toList w) := by
  have hno : numOk s.data.toList = false := by
    unfold numOk
    rw [h]
    have : ¬ s.data.toList.length ≤ 3 := by rw [← Lib.size_eq]; omega
    simp only [this, decide_false, Bool.false_and]
  have HN := Lib.hid hno
  clear hno
  have hd : decide ((s.size : Int) ≤ 3) = false := decide_eq_false (by omega)
  go_enter Tryd.func23, Tryd.ntmps23
  go_wp2_with (go_at_call 33; refine (atoi_ok s v h w hs).mono ?_; rintro e w1 ⟨rfl, hb⟩)
  go_ret2
  exact ⟨⟨v, by rw [HN.out]; rfl, fun h => by rw [HN.out] at h; cases h⟩, hb⟩
theorem number_short (s : ByteArray) (v : Int) (h : Lib.atoiAll s.data.toList = .ok v) (h3 : s.size ≤ 3) (w : World) (hG : G w) :
    Calls Tryd.prog 23 #[.string s] w (NumPost s.data.toList w) := by
  have hr := atoiAll_range h
  have hd : decide ((s.size : Int) ≤ 3) = true := decide_eq_true (by omega)
  have hno : numOk s.data.toList = (Lib.itoa v == s.data.toList && decide (0 ≤ v)) := by
    unfold numOk
    rw [h]
    have : s.data.toList.length ≤ 3 := by rw [← Lib.size_eq]; omega
    simp only [this, decide_true, Bool.true_and]
  have hv : numVal s.data.toList = v := by unfold numVal; rw [h]
  have HN := Lib.hid hno
  have HV := Lib.hid hv
  clear hno hv
  go_enter Tryd.func23, Tryd.ntmps23
  go_wp2_with (first | (go_at_call 33; refine (atoi_ok s v h w (by omega)).mono ?_; rintro e w1 ⟨rfl, hb⟩) | (go_at_call 12; refine (itoa_any v _ (hG.after hb) hr.1 hr.2).mono ?_; rintro e w2 ⟨rfl, hb2⟩))
  all_goals go_ret2
  · have e : Lib.itoa v = s.data.toList := by rw [← Lib.toList_data]; assumption
    have e2 : numOk s.data.toList = decide (0 ≤ v) := by rw [HN.out, e]; simp
    refine ⟨⟨v, by rw [e2]; rfl, fun h' => ?_⟩, hb.trans (hb2.mono hb.size)⟩
    rw [e2] at h'
    exact ⟨HV.out.symm, by simpa using h', hr.2⟩
  · have e : ¬ Lib.itoa v = s.data.toList := by rw [← Lib.toList_data]; assumption
    have e2 : numOk s.data.toList = false := by rw [HN.out]; simp [e]
    exact ⟨⟨v, by rw [e2]; rfl, fun h' => by rw [e2] at h'; cases h'⟩, hb.trans (hb2.mono hb.size)⟩
theorem number_any (s : ByteArray) (w : World) (hG : G w) (hs : s.size ≤ 281474976710656) :
    Calls Tryd.prog 23 #[.string s] w (NumPost s.data.toList w) := by
  by_cases h : ∃ v, Lib.atoiAll s.data.toList = .ok v
  · obtain ⟨v, h⟩ := h
    rcases Nat.lt_or_ge 3 s.size with h3 | h3
    · exact number_long s v h h3 w hs
    · exact number_short s v h h3 w hG
  · exact number_bad s (fun v hv => h ⟨v, hv⟩) w hG hs
end Go.Proofs.YtmdcedbnlbcdjaaDoor

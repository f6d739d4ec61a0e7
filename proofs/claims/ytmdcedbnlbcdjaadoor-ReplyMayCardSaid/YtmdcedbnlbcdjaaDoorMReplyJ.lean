/- all: the round of a line that may not be. -/
import Derived.Test.YtmdcedbnlbcdjaaDoorMReplyH
namespace Go.Proofs.YtmdcedbnlbcdjaaDoor
open Go Go.RowKit Go.My Go.Shelf
attribute [local go_sem] Oper.semAt_some

theorem third (s : ByteArray) (h4 : 4 ≤ s.size) : s.data.toList[3]? = some (s[3]'(by omega)) := by
  have hl : s.data.toList.length = s.size := (Lib.size_eq s).symm
  rw [List.getElem?_eq_getElem (by omega)]
  rfl
theorem lineOk_no (st : St) (s : ByteArray) (h : lineOk st s.data.toList = false) :
    s.size < 4 ∨ (∃ h4 : 4 ≤ s.size, ((s[3]'(by omega)).toNat ≠ 45 ∧ (s[3]'(by omega)).toNat ≠ 32) ∨ ((s[3]'(by omega)).toNat = 45 ∨ ((s[3]'(by omega)).toNat ≠ 45 ∧ (s[3]'(by omega)).toNat = 32)) ∧ (100 ≤ st.xl.length ∨ (st.xl.length < 100 ∧ (numOk (s.data.toList.take 3) = false ∨ (numOk (s.data.toList.take 3) = true ∧
      (numVal (s.data.toList.take 3) < 200 ∨ (200 ≤ numVal (s.data.toList.take 3) ∧ (599 < numVal (s.data.toList.take 3) ∨ (numVal (s.data.toList.take 3) ≤ 599 ∧ st.xl.length ≠ 0 ∧ numVal (s.data.toList.take 3) ≠ st.code))))))))) := by
  rcases Nat.lt_or_ge s.size 4 with h4 | h4
  · exact .inl h4
  · refine .inr ⟨h4, ?_⟩
    have hl : s.data.toList.length = s.size := (Lib.size_eq s).symm
    have e45 : ((s[3]'(by omega)) = 45) ↔ ((s[3]'(by omega)).toNat = 45) := (UInt8.toNat_inj (b := 45)).symm
    have e32 : ((s[3]'(by omega)) = 32) ↔ ((s[3]'(by omega)).toNat = 32) := (UInt8.toNat_inj (b := 32)).symm
    unfold lineOk at h
    rw [third s h4, hl] at h
    by_cases h1 : (s[3]'(by omega)).toNat = 45 <;> by_cases h2 : (s[3]'(by omega)).toNat = 32 <;> by_cases h3 : st.xl.length < 100 <;> by_cases h5 : numOk (s.data.toList.take 3) = true <;> by_cases h6 : st.xl.length = 0 <;> by_cases h7 : numVal (s.data.toList.take 3) = st.code <;> by_cases h8 : 200 ≤ numVal (s.data.toList.take 3) <;> by_cases h9 : numVal (s.data.toList.take 3) ≤ 599 <;>
      simp only [Bool.and_eq_false_iff, Bool.or_eq_false_iff, decide_eq_false_iff_not, beq_eq_false_iff_ne, ne_eq, Option.some.injEq, e45, e32, h1, h2, h3, h5, h6, h7, h8, h9, h4, not_true, not_false_eq_true, true_and, and_true, false_or, or_false, false_and, and_false, true_or, or_true, Bool.not_eq_true, reduceCtorEq] at h ⊢ <;> omega

set_option maxRecDepth 100000 in
set_option maxHeartbeats 4000000 in
theorem body_no (L : Nat) (A : Option Addr) (n c bl bu : Nat) (w0 W : World) (st : St) (s : ByteArray) (hM : MI w0 bl bu st W) (hG0 : G w0) (hbl8 : 8 ≤ bl) (hbu8 : 8 ≤ bu) (hno : lineOk st s.data.toList = false) (hs : s.size ≤ 100000) :
    allBody.wpIn (Fence.wide.inRound L) 8 Tryd.prog (fun e a W' => e = .panic [{ v := wrongV, recovered := false }] ∧ a.defers = [] ∧ MI w0 bl bu st W' ∧ Side w0 W W') { tmps := roundTmps A n c bl bu w0.heap.size (.string s), defers := [] } W := by
  have hG := hM.g hG0 hbl8 hbu8
  obtain ⟨N, A1, c1, lv, hx1, hown, hN, hN2, hbl, hreps, hlvN⟩ := hM.rest
  have hc1 := bcell hx1 1
  have hc0 := bcell hx1 0
  simp only [repC, List.getElem?_toArray, List.getElem?_cons_zero, List.getElem?_cons_succ] at hc1 hc0
  have HX1 := Lib.hid hx1
  have HM := Lib.hid hM
  have hlt1 := blt hx1
  clear hx1 hown hbl hreps hM
  dsimp only [allBody, Tryd.f17, roundTmps]
  simp only [Array.replicate_succ, Array.replicate_zero, List.push_toArray, List.append_toArray, List.nil_append, List.cons_append]
  rcases lineOk_no st s hno with h4 | ⟨h4, h⟩
  · have hd4 : decide ((4 : Int) ≤ (s.size : Int)) = false := decide_eq_false (by omega)
    gi_wp2_with (refine ⟨trivial, ?_⟩; gi_at_call 25; refine (CallsIn.inRound L (callsIn_wide.2 (unless_no _))).mono ?_; rintro e w' ⟨rfl, rfl⟩)
    exact ⟨HM.out, fun _ _ _ => rfl⟩
  · have hd4 : decide ((4 : Int) ≤ (s.size : Int)) = true := decide_eq_true (by omega)
    have hd4' : (4 : Int) ≤ (s.size : Int) := by omega
    have h34 : (3 : Int) < (s.size : Int) := by omega
    clear hno
    rcases h with ⟨h45, h32⟩ | ⟨hsg, h⟩
    · have hd3 : (((s[3]'(by omega)).toNat : Int) == 45) = false := beq_eq_false_iff_ne.2 (by omega)
      have hd32 : (((s[3]'(by omega)).toNat : Int) == 32) = false := beq_eq_false_iff_ne.2 (by omega)
      gi_wp2_with (refine ⟨trivial, ?_⟩; gi_at_call 25; refine (CallsIn.inRound L (callsIn_wide.2 (unless_no _))).mono ?_; rintro e w' ⟨rfl, rfl⟩)
      exact ⟨HM.out, fun _ _ _ => rfl⟩
    · rcases h with hx100 | ⟨hx100, h⟩
      · have hd100 : decide ((st.xl.length : Int) < 100) = false := decide_eq_false (by omega)
        rcases hsg with hsg | ⟨hsg, hsg'⟩
        · have hd3 : (((s[3]'(by omega)).toNat : Int) == 45) = true := beq_iff_eq.2 (by omega)
          gi_wp2_with (refine ⟨trivial, ?_⟩; gi_at_call 25; refine (CallsIn.inRound L (callsIn_wide.2 (unless_no _))).mono ?_; rintro e w' ⟨rfl, rfl⟩)
          exact ⟨HM.out, fun _ _ _ => rfl⟩
        · have hd3 : (((s[3]'(by omega)).toNat : Int) == 45) = false := beq_eq_false_iff_ne.2 (by omega)
          have hd32 : (((s[3]'(by omega)).toNat : Int) == 32) = true := beq_iff_eq.2 (by omega)
          gi_wp2_with (refine ⟨trivial, ?_⟩; gi_at_call 25; refine (CallsIn.inRound L (callsIn_wide.2 (unless_no _))).mono ?_; rintro e w' ⟨rfl, rfl⟩)
          exact ⟨HM.out, fun _ _ _ => rfl⟩
      · have hd100 : decide ((st.xl.length : Int) < 100) = true := decide_eq_true (by omega)
        have hex : (s.extract 0 3).data.toList = s.data.toList.take 3 := by rw [Lib.extract_data]; simp
        have hsz : (s.extract 0 3).size ≤ 281474976710656 := by rw [ByteArray.size_extract]; omega
        have hsd : ((((s[3]'(by omega)).toNat : Int) == 45) = true) ∨ ((((s[3]'(by omega)).toNat : Int) == 45) = false ∧ (((s[3]'(by omega)).toNat : Int) == 32) = true) := by
          rcases hsg with hsg | ⟨hsg, hsg'⟩
          · exact .inl (beq_iff_eq.2 (by omega))
          · exact .inr ⟨beq_eq_false_iff_ne.2 (by omega), beq_iff_eq.2 (by omega)⟩
        clear hsg
        rcases h with hn | ⟨hn, h⟩
        · have HNUM := Lib.hid (number_no (s.extract 0 3) (by rw [hex]; exact hn) W hG hsz)
          clear hn hex hsz
          rcases hsd with hd3 | ⟨hd3, hd32⟩
          all_goals
            gi_wp2_with (first | (refine ⟨trivial, ?_⟩; gi_at_call 25; (with_reducible refine (CallsIn.inRound L (callsIn_wide.2 (unless_yes _))).mono ?_); rintro e w' ⟨rfl, rfl⟩) | (refine ⟨trivial, ?_⟩; gi_at_call 25; (with_reducible refine (CallsIn.inRound L (callsIn_wide.2 (unless_no _))).mono ?_); rintro e w' ⟨rfl, rfl⟩) | (refine ⟨trivial, ?_⟩; gi_at_call 23; refine (CallsIn.inRound L (callsIn_wide.2 HNUM.out)).mono ?_; rintro e w1 ⟨⟨nn, rfl⟩, hb1⟩; have hk1 := keep HX1.out hb1; have hc1' := bcell hk1 1; have hc0' := bcell hk1 0; have hf1' := bfree hk1; have HB1 := Lib.hid hb1; clear hk1 hb1; simp only [repC, List.getElem?_toArray, List.getElem?_cons_zero, List.getElem?_cons_succ] at hc1' hc0'))
            exact ⟨HM.out.below HB1.out, fun k _ h => HB1.out.block k (by have := HM.out.size; omega)⟩
        · have hnum := number_yes (s.extract 0 3) (by rw [hex]; exact hn) W hG hsz
          rw [hex] at hnum
          generalize hv : numVal (s.data.toList.take 3) = v at *
          have HNUM := Lib.hid hnum
          clear hn hex hsz hnum hv
          rcases h with h200 | ⟨h200, h599 | ⟨h599, hx0, hxc⟩⟩
          · have d200 : decide (200 ≤ v) = false := decide_eq_false (by omega)
            rcases hsd with hd3 | ⟨hd3, hd32⟩
            all_goals
              gi_wp2_with (first | (refine ⟨trivial, ?_⟩; gi_at_call 25; (with_reducible refine (CallsIn.inRound L (callsIn_wide.2 (unless_yes _))).mono ?_); rintro e w' ⟨rfl, rfl⟩) | (refine ⟨trivial, ?_⟩; gi_at_call 25; (with_reducible refine (CallsIn.inRound L (callsIn_wide.2 (unless_no _))).mono ?_); rintro e w' ⟨rfl, rfl⟩) | (refine ⟨trivial, ?_⟩; gi_at_call 23; refine (CallsIn.inRound L (callsIn_wide.2 HNUM.out)).mono ?_; rintro e w1 ⟨rfl, hb1⟩; have hk1 := keep HX1.out hb1; have hc1' := bcell hk1 1; have hc0' := bcell hk1 0; have hf1' := bfree hk1; have HB1 := Lib.hid hb1; clear hk1 hb1; simp only [repC, List.getElem?_toArray, List.getElem?_cons_zero, List.getElem?_cons_succ] at hc1' hc0'))
              exact ⟨HM.out.below HB1.out, fun k _ h => HB1.out.block k (by have := HM.out.size; omega)⟩
          · have d200 : decide (200 ≤ v) = true := decide_eq_true (by omega)
            have d599 : decide (v ≤ 599) = false := decide_eq_false (by omega)
            rcases hsd with hd3 | ⟨hd3, hd32⟩
            all_goals
              gi_wp2_with (first | (refine ⟨trivial, ?_⟩; gi_at_call 25; (with_reducible refine (CallsIn.inRound L (callsIn_wide.2 (unless_yes _))).mono ?_); rintro e w' ⟨rfl, rfl⟩) | (refine ⟨trivial, ?_⟩; gi_at_call 25; (with_reducible refine (CallsIn.inRound L (callsIn_wide.2 (unless_no _))).mono ?_); rintro e w' ⟨rfl, rfl⟩) | (refine ⟨trivial, ?_⟩; gi_at_call 23; refine (CallsIn.inRound L (callsIn_wide.2 HNUM.out)).mono ?_; rintro e w1 ⟨rfl, hb1⟩; have hk1 := keep HX1.out hb1; have hc1' := bcell hk1 1; have hc0' := bcell hk1 0; have hf1' := bfree hk1; have HB1 := Lib.hid hb1; clear hk1 hb1; simp only [repC, List.getElem?_toArray, List.getElem?_cons_zero, List.getElem?_cons_succ] at hc1' hc0'))
              exact ⟨HM.out.below HB1.out, fun k _ h => HB1.out.block k (by have := HM.out.size; omega)⟩
          · have d200 : decide (200 ≤ v) = true := decide_eq_true (by omega)
            have d599 : decide (v ≤ 599) = true := decide_eq_true (by omega)
            have dx0 : ((st.xl.length : Int) == 0) = false := beq_eq_false_iff_ne.2 (by omega)
            have dxc : (v == st.code) = false := beq_eq_false_iff_ne.2 hxc
            rcases hsd with hd3 | ⟨hd3, hd32⟩
            all_goals
              gi_wp2_with (first | (refine ⟨trivial, ?_⟩; gi_at_call 25; (with_reducible refine (CallsIn.inRound L (callsIn_wide.2 (unless_yes _))).mono ?_); rintro e w' ⟨rfl, rfl⟩) | (refine ⟨trivial, ?_⟩; gi_at_call 25; (with_reducible refine (CallsIn.inRound L (callsIn_wide.2 (unless_no _))).mono ?_); rintro e w' ⟨rfl, rfl⟩) | (refine ⟨trivial, ?_⟩; gi_at_call 23; refine (CallsIn.inRound L (callsIn_wide.2 HNUM.out)).mono ?_; rintro e w1 ⟨rfl, hb1⟩; have hk1 := keep HX1.out hb1; have hc1' := bcell hk1 1; have hc0' := bcell hk1 0; have hf1' := bfree hk1; have HB1 := Lib.hid hb1; clear hk1 hb1; simp only [repC, List.getElem?_toArray, List.getElem?_cons_zero, List.getElem?_cons_succ] at hc1' hc0'))
              exact ⟨HM.out.below HB1.out, fun k _ h => HB1.out.block k (by have := HM.out.size; omega)⟩
end Go.Proofs.YtmdcedbnlbcdjaaDoor

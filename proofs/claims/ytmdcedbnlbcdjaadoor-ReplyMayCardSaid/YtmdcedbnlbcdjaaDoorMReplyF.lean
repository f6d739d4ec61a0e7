/- The lines of bytes: the iterator, whatever its rounds keep. -/
import Derived.Test.YtmdcedbnlbcdjaaDoorMReplyE
import Derived.Test.YtmdcedbnlbcdjaaDoorMRange
import Derived.Shelf.Abstract
import Derived.Lib.IndexLaws
import Derived.IntWalk
import Derived.OwnWalkIn
import Derived.TacticsInMore
import Derived.LoopNIn
import Derived.LoopIn
import Derived.Sort.LoopGhostIn
namespace Go.Proofs.YtmdcedbnlbcdjaaDoor
open Go Go.RowKit Go.My Go.Shelf

/-- bytes.IndexByte, of whatever reads as bytes. -/
theorem indexByte_any {n0 : Nat} {A : Option Addr} {k c : Nat} {l : Str} (cv : Int) (w : World) (hk : l.length = k) (hA : A = none → c = 0) (h : Rd n0 w A (l.map u8v)) :
    Calls Tryd.prog 35 #[.slice A k c, .int .u8 cv] w fun e w' => e = .returned (.int .i64 (Lib.indexByte l cv.toNat.toUInt8)) ∧ w' = w := by
  rcases Nat.eq_zero_or_pos k with h0 | h0
  · subst h0
    obtain rfl : l = [] := List.eq_nil_of_length_eq_zero hk
    cases A with
    | none => rw [hA rfl]; exact Tryd.bytes_IndexByte_nil cv w
    | some a => exact Tryd.bytes_IndexByte_at a 0 c [] cv w rfl (fun i hi => by omega)
  · obtain ⟨b, o, rfl, _, _⟩ := h.some (by simp; omega)
    have := Tryd.bytes_IndexByte b o k c (nums l) cv w (by rw [nums_length]; exact hk) (fun i hi => h.nums i (by omega))
    rwa [bytesOf_nums] at this

/-- What is left, in the variable that the iterator has captured. -/
def Caps (bb n0 : Nat) (rest : Str) (W : World) : Prop :=
  ∃ A c, W.heap[bb]? = some (.cells #[.slice A rest.length c] 22 (0, 0)) ∧ rest.length ≤ c ∧ (A = none → c = 0) ∧ RdT n0 W 5 A (rest.map u8v)

set_option maxHeartbeats 4000000 in
set_option maxRecDepth 20000 in
theorem lines1_in {m L bb n0 : Nat} {J : Str → World → Prop} {X : World → List PanicEntry → Prop}
    (hJ : ∀ rest W v, J rest W → J rest (W.setCell ⟨bb, 0, none⟩ v))
    (hY : ∀ rest s rest' W, J rest W → nextLine rest = .line s rest' → YieldAt Fence.wide m Tryd.prog L #[strv s] W fun e W' =>
      (e = .returned (.bool true) ∧ J rest' W' ∧ W'.heap[bb]? = W.heap[bb]? ∧ KeepT n0 5 W W') ∨ (∃ ch, e = .panicked ch ∧ X W' ch))
    (hb : n0 ≤ bb) (rest : Str) (W : World) (h0 : J rest W) (hc : Caps bb n0 rest W) (hlen : rest.length ≤ 140737488355328) :
    CallsIn Fence.wide (m + 1) Tryd.prog 34 #[.func (.yield L) #[] #[], .pointer (some ⟨bb, 0, none⟩)] W fun e W' =>
      (e = .returned (.tuple #[]) ∧ ∃ r, nextLine r = .stop ∧ J r W') ∨ (∃ r, e = .panicked [{ v := wrongV, recovered := false }] ∧ nextLine r = .bad ∧ J r W') ∨ (∃ ch, e = .panicked ch ∧ X W' ch) := by
  obtain ⟨i8, hi8, _, hz8, _⟩ := info_parts infoU8
  have HJ := Lib.hid hJ
  have HY := Lib.hid hY
  clear hJ hY
  refine callsIn_of_wp Tryd.func34 rfl trivial ?_ rfl
  simp only [Tryd.ntmps34, List.size_toArray, List.length_cons, List.length_nil, Nat.reduceAdd, Nat.reduceSub, Array.replicate_succ, Array.replicate_zero, List.push_toArray, List.append_toArray, List.nil_append, List.cons_append]
  gi_wp2
  gi_loopg [3] rest.length (fun g _ wr => ∃ r : Str, r.length ≤ g ∧ r.length ≤ 140737488355328 ∧ J r wr ∧ Caps bb n0 r wr)
  case atStart => exact ⟨rest, Nat.le_refl _, hlen, h0, hc⟩
  case round =>
    obtain ⟨r, hg, hr47, hj, A, c, hblk, hcap, hA, hrd⟩ := hrel
    have HB := Lib.hid hblk
    have HA := Lib.hid hA
    have HR := Lib.hid hrd
    have HJr := Lib.hid hj
    have hcell := bcell hblk 0
    have hfree := bfree hblk 0
    simp only [List.getElem?_toArray, List.getElem?_cons_zero] at hcell
    clear hblk hA hrd hj h0 hc
    rcases Int.lt_or_le (Lib.indexByte r 10) 0 with hi | hi
    · by_cases h512 : r.length < 512
      · have hn : nextLine r = .stop := by unfold nextLine; rw [if_pos hi, if_pos h512]
        have HN := Lib.hid hn
        have hd : decide ((r.length : Int) < 512) = true := decide_eq_true (by omega)
        clear hn
        gi_wp2_with (first | (refine ⟨trivial, ?_⟩; gi_at_call 35; refine (callsIn_wide.2 (indexByte_any _ _ rfl HA.out HR.out.rd)).mono ?_; rintro e w' ⟨rfl, hw⟩; rw [hw]; clear hw) | (refine ⟨trivial, ?_⟩; gi_at_call 25; refine (callsIn_wide.2 (unless_yes _)).mono ?_; rintro e w' ⟨rfl, rfl⟩))
        refine bodyPost_ret (results_none rfl _ _ _) rfl ?_
        exact .inl ⟨rfl, r, HN.out, HJr.out⟩
      · have hn : nextLine r = .bad := by unfold nextLine; rw [if_pos hi, if_neg h512]
        have HN := Lib.hid hn
        have hd : decide ((r.length : Int) < 512) = false := decide_eq_false (by omega)
        clear hn
        gi_wp2_with (first | (refine ⟨trivial, ?_⟩; gi_at_call 35; refine (callsIn_wide.2 (indexByte_any _ _ rfl HA.out HR.out.rd)).mono ?_; rintro e w' ⟨rfl, hw⟩; rw [hw]; clear hw) | (refine ⟨trivial, ?_⟩; gi_at_call 25; refine (callsIn_wide.2 (unless_no _)).mono ?_; rintro e w' ⟨rfl, rfl⟩))
        exact ⟨rfl, .inr (.inl ⟨r, rfl, HN.out, HJr.out⟩)⟩
    · obtain ⟨q, hq⟩ : ∃ q : Nat, Lib.indexByte r 10 = (q : Int) := ⟨_, (Int.toNat_of_nonneg hi).symm⟩
      obtain ⟨k13, hk13⟩ : ∃ k : Int, Lib.indexByte r 13 = k := ⟨_, rfl⟩
      have hnl : nextLine r = if (q : Int) < 512 ∧ 0 < (q : Int) ∧ k13 = (q : Int) - 1 then .line (r.take ((q : Int) - 1).toNat) (r.drop ((q : Int) + 1).toNat) else .bad := by
        unfold nextLine; rw [if_neg (Int.not_lt.2 hi), hq, hk13]
      have I10 := Lib.hid (show Calls Tryd.prog 35 #[.slice A r.length c, .int .u8 10] wr (fun e w' => e = .returned (.int .i64 (q : Int)) ∧ w' = wr) from by rw [← hq]; exact indexByte_any 10 wr rfl HA.out HR.out.rd)
      have I13 := Lib.hid (show Calls Tryd.prog 35 #[.slice A r.length c, .int .u8 13] wr (fun e w' => e = .returned (.int .i64 k13) ∧ w' = wr) from by rw [← hk13]; exact indexByte_any 13 wr rfl HA.out HR.out.rd)
      have HQ := Lib.hid hq
      have d0 : decide ((q : Int) < 0) = false := decide_eq_false (by omega)
      clear hq hk13 hi
      by_cases h1 : q < 512
      · have d1 : decide ((q : Int) < 512) = true := decide_eq_true (by omega)
        by_cases h2 : 0 < q
        · have d2 : decide ((0 : Int) < (q : Int)) = true := decide_eq_true (by omega)
          by_cases h3 : k13 = (q : Int) - 1
          · obtain ⟨p, rfl⟩ : ∃ p, q = p + 1 := ⟨q - 1, by omega⟩
            have hn : nextLine r = .line (r.take p) (r.drop (p + 2)) := by
              rw [hnl, if_pos ⟨by omega, by omega, h3⟩]
              congr 2; omega
            have d3 : (k13 == (p : Int)) = true := beq_iff_eq.2 (by omega)
            have hp : p + 1 < r.length := by
              have := (Lib.indexByte_some (l := r) (c := 10) (o := p + 1) (by rw [HQ.out])).1
              exact (List.getElem?_eq_some_iff.1 this).1
            have hsub : IntKind.i64.wrap (((p + 1 : Nat) : Int) - 1) = (p : Int) := (IntWalk.i64_in _ (by omega)).trans (by omega)
            obtain ⟨fn, tmps, assign, body, hy, hR⟩ := HY.out r _ _ wr HJr.out hn
            have hconv := run_string_rd (P := Tryd.prog) (w := wr) 22 9 5 Tryd.underlying22 Tryd.underlying5 Tryd.underlying9 (A := A) (l := r.take p) (k := p) (c := c) (by rw [List.length_take]; omega) (by rw [List.map_take]; exact HR.out.rd.take p)
            clear hn hnl h3
            gi_wp2_with (first | (refine ⟨trivial, ?_⟩; gi_at_call 35; (with_reducible refine (callsIn_wide.2 I10.out).mono ?_); rintro e w' ⟨rfl, hw⟩; rw [hw]; clear hw) | (refine ⟨trivial, ?_⟩; gi_at_call 35; (with_reducible refine (callsIn_wide.2 I13.out).mono ?_); rintro e w' ⟨rfl, hw⟩; rw [hw]; clear hw) | (refine ⟨trivial, ?_⟩; gi_at_call 25; refine (callsIn_wide.2 (unless_yes _)).mono ?_; rintro e w' ⟨rfl, rfl⟩))
            refine hR.mono ?_
            rintro e W3 (⟨rfl, hJ3, hbk, hbel⟩ | ⟨ch, rfl, hx⟩)
            · have hblk3 := hbk.trans HB.out
              have hcell3 := bcell hblk3 0
              have hfree3 := bfree hblk3 0
              have HB3 := Lib.hid hblk3
              have HR3 := Lib.hid (HR.out.keep hbel)
              simp only [List.getElem?_toArray, List.getElem?_cons_zero] at hcell3
              have hcut := fun W => run_cut (P := Tryd.prog) 22 5 .i64 Tryd.underlying22 hi8 hz8 A r.length c (p + 2) (by omega) ((p : Int) + 1 + 1) (by omega) W
              clear hblk3 hbk hR
              gi_wp2
              gi_roundg (gk - 1)
              case measure => omega
              case rel =>
                have hb3 := bstore HB3.out 0 (.slice (cutA A c (p + 2)) (r.length - (p + 2)) (c - (p + 2)))
                simp only [List.setIfInBounds_toArray, List.set_cons_zero] at hb3
                refine ⟨r.drop (p + 2), by rw [List.length_drop]; omega, by rw [List.length_drop]; omega, HJ.out _ _ _ hJ3, cutA A c (p + 2), c - (p + 2), by rw [List.length_drop]; exact hb3, by rw [List.length_drop]; omega, fun h => by have := HA.out (cutA_none h); omega, ?_⟩
                rw [List.map_drop]
                exact (HR3.out.drop c (p + 2) (by simpa using hcap)).keep (KeepT.of_below (bset (Below.refl _ _) hb _ _) (Nat.le_refl _))
            · exact ⟨rfl, .inr (.inr ⟨ch, rfl, hx⟩)⟩
          · have hn : nextLine r = .bad := by rw [hnl, if_neg]; rintro ⟨_, _, h⟩; exact h3 h
            have HN := Lib.hid hn
            have d3 : (k13 == (q : Int) - 1) = false := beq_eq_false_iff_ne.2 h3
            clear hn hnl h3
            gi_wp2_with (first | (refine ⟨trivial, ?_⟩; gi_at_call 35; (with_reducible refine (callsIn_wide.2 I10.out).mono ?_); rintro e w' ⟨rfl, hw⟩; rw [hw]; clear hw) | (refine ⟨trivial, ?_⟩; gi_at_call 35; (with_reducible refine (callsIn_wide.2 I13.out).mono ?_); rintro e w' ⟨rfl, hw⟩; rw [hw]; clear hw) | (refine ⟨trivial, ?_⟩; gi_at_call 25; refine (callsIn_wide.2 (unless_no _)).mono ?_; rintro e w' ⟨rfl, rfl⟩))
            exact ⟨rfl, .inr (.inl ⟨r, rfl, HN.out, HJr.out⟩)⟩
        · have hn : nextLine r = .bad := by rw [hnl, if_neg]; rintro ⟨_, h, _⟩; omega
          have HN := Lib.hid hn
          have d2 : decide ((0 : Int) < (q : Int)) = false := decide_eq_false (by omega)
          clear hn hnl
          gi_wp2_with (first | (refine ⟨trivial, ?_⟩; gi_at_call 35; (with_reducible refine (callsIn_wide.2 I10.out).mono ?_); rintro e w' ⟨rfl, hw⟩; rw [hw]; clear hw) | (refine ⟨trivial, ?_⟩; gi_at_call 35; (with_reducible refine (callsIn_wide.2 I13.out).mono ?_); rintro e w' ⟨rfl, hw⟩; rw [hw]; clear hw) | (refine ⟨trivial, ?_⟩; gi_at_call 25; refine (callsIn_wide.2 (unless_no _)).mono ?_; rintro e w' ⟨rfl, rfl⟩))
          refine ⟨trivial, ?_⟩
          gi_wp2_with (refine ⟨trivial, ?_⟩; gi_at_call 25; refine (callsIn_wide.2 (unless_no _)).mono ?_; rintro e w' ⟨rfl, rfl⟩)
          exact ⟨rfl, .inr (.inl ⟨r, rfl, HN.out, HJr.out⟩)⟩
      · have hn : nextLine r = .bad := by rw [hnl, if_neg]; rintro ⟨h, _, _⟩; omega
        have HN := Lib.hid hn
        have d1 : decide ((q : Int) < 512) = false := decide_eq_false (by omega)
        clear hn hnl
        gi_wp2_with (first | (refine ⟨trivial, ?_⟩; gi_at_call 35; (with_reducible refine (callsIn_wide.2 I10.out).mono ?_); rintro e w' ⟨rfl, hw⟩; rw [hw]; clear hw) | (refine ⟨trivial, ?_⟩; gi_at_call 35; (with_reducible refine (callsIn_wide.2 I13.out).mono ?_); rintro e w' ⟨rfl, hw⟩; rw [hw]; clear hw) | (refine ⟨trivial, ?_⟩; gi_at_call 25; refine (callsIn_wide.2 (unless_no _)).mono ?_; rintro e w' ⟨rfl, rfl⟩))
        refine ⟨trivial, ?_⟩
        gi_wp2_with (refine ⟨trivial, ?_⟩; gi_at_call 25; refine (callsIn_wide.2 (unless_no _)).mono ?_; rintro e w' ⟨rfl, rfl⟩)
        exact ⟨rfl, .inr (.inl ⟨r, rfl, HN.out, HJr.out⟩)⟩
end Go.Proofs.YtmdcedbnlbcdjaaDoor

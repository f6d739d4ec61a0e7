/- ReplyMay: the walk. -/
import Derived.Test.YtmdcedbnlbcdjaaDoorMReplyO
namespace Go.Proofs.YtmdcedbnlbcdjaaDoor
open Go Go.RowKit Go.My Go.Shelf

def LawPost (w : World) (e : Ending) (w' : World) : Prop := e = .returned (.bool true) ∧ Below w.heap.size w w'

set_option maxHeartbeats 1000000 in
theorem law_long (A : Option Addr) (n c : Nat) (w : World) (hG : G w) (hlen : 3000 < n) : Calls Tryd.prog 3 #[.slice A n c] w (LawPost w) := by
  have hd : decide ((3000 : Int) < (n : Int)) = true := decide_eq_true (by omega)
  go_enter Tryd.func3, Tryd.ntmps3
  go_wp2_with (go_at_call 4; refine (awake_any _ hG).mono ?_; rintro e w1 ⟨rfl, hb⟩)
  go_ret
  exact ⟨rfl, hb⟩

set_option maxHeartbeats 1000000 in
theorem law_no (A : Option Addr) (n c : Nat) (l : Str) (w : World) (hG : G w) (hn : l.length = n) (hrd : Rd w.heap.size w A (l.map u8v)) (hlen : n ≤ 3000) (hok : readOk l = false) :
    Calls Tryd.prog 3 #[.slice A n c] w (LawPost w) := by
  have hd : decide ((3000 : Int) < (n : Int)) = false := decide_eq_false (by omega)
  have HN := Lib.hid hn
  have HR := Lib.hid hrd
  have HO := Lib.hid hok
  clear hn hrd hok
  go_enter Tryd.func3, Tryd.ntmps3
  go_wp2_with (first | (go_at_call 4; refine (awake_any _ hG).mono ?_; rintro e w1 ⟨rfl, hb⟩) | (go_at_call 5; refine (read_no A n c l _ (hG.after hb) HN.out ((HR.out.below hb).mono hb.size) (by omega) HO.out).mono ?_; rintro e w2 ⟨rfl, hb2⟩))
  go_ret
  exact ⟨rfl, bthen hb hb2 (Nat.le_refl _)⟩

theorem flat_pre (T : List Rep) (k : Nat) : ((T.take k).map writeF).flatten.length ≤ ((T.map writeF).flatten).length := by
  conv => rhs; rw [← List.take_append_drop k T]
  rw [List.map_append, List.flatten_append, List.length_append]
  omega
theorem flat_succ (T : List Rep) (k : Nat) (hk : k < T.length) : ((T.take (k + 1)).map writeF).flatten = ((T.take k).map writeF).flatten ++ writeF T[k] := by
  rw [List.take_succ_eq_append_getElem hk, List.map_append, List.flatten_append]
  simp

theorem writeF_pos (x : Rep) (h : 1 ≤ x.lines.length) : 1 ≤ (writeF x).length := by
  unfold writeF
  obtain ⟨k, hk⟩ : ∃ k, x.lines.length = k + 1 := ⟨x.lines.length - 1, by omega⟩
  rw [hk, linesB]
  simp only [lineB, List.length_append, List.length_cons]
  omega
theorem flat_len : ∀ T : List Rep, (∀ r ∈ T, MayF r) → T.length ≤ ((T.map writeF).flatten).length
  | [], _ => Nat.le_refl _
  | x :: T, h => by
    have h1 := writeF_pos x (h x (by simp)).one
    have h2 := flat_len T fun r hr => h r (by simp [hr])
    rw [List.map_cons, List.flatten_cons, List.length_append, List.length_cons]
    omega

set_option maxRecDepth 100000 in
set_option maxHeartbeats 2000000 in
theorem law_yes (A : Option Addr) (n c : Nat) (l : Str) (w : World) (hG : G w) (hn : l.length = n) (hrd : Rd w.heap.size w A (l.map u8v)) (hlen : n ≤ 3000) (hok : readOk l = true) :
    Calls Tryd.prog 3 #[.slice A n c] w (LawPost w) := by
  obtain ⟨i8, hi8, hz80, hz81, hz82⟩ := info_parts infoU8
  have hd : decide ((3000 : Int) < (n : Int)) = false := decide_eq_false (by omega)
  obtain ⟨hmay, hall⟩ := read_back l (by unfold readOk at hok; exact of_decide_eq_true (Bool.and_eq_true_iff.1 hok).2)
  have hTl := flat_len (readT l) hmay
  rw [show ((readT l).map writeF).flatten = l from hall, hn] at hTl
  have HN := Lib.hid hn
  have HR := Lib.hid hrd
  have HO := Lib.hid hok
  have HMay := Lib.hid (show ∀ r ∈ readT l, MayF r from hmay)
  have HAll := Lib.hid (show ((readT l).map writeF).flatten = l from hall)
  clear hn hrd hok hmay hall
  go_enter Tryd.func3, Tryd.ntmps3
  go_wp2_with (first | (go_at_call 4; refine (awake_any _ hG).mono ?_; rintro e w1 ⟨rfl, hb⟩) | (go_at_call 5; refine (read_yes A n c l _ (hG.after hb) HN.out ((HR.out.below hb).mono hb.size) (by omega) HO.out).mono ?_; rintro e w2 ⟨⟨A2, c2, rfl, hreps⟩, hb2⟩; have HRE := Lib.hid hreps; have HB2 := Lib.hid (bthen hb hb2 (Nat.le_refl _)); clear hreps hb hb2))
  go_loopg [6, 7] (readT l).length (fun g v i wr => ∃ k : Nat, k + g = (readT l).length ∧ i = .int .i64 k ∧ Own w2.heap.size wr v (((readT l).take k).map writeF).flatten ∧ Below w2.heap.size w2 wr)
  case atStart => exact ⟨0, by omega, rfl, World.ownsRow_nil _ _ _ _, Below.refl _ _⟩
  case round =>
    obtain ⟨k, hkg, rfl, hown, hbel⟩ := hrel
    cases gk with
    | zero =>
      obtain rfl : k = (readT l).length := by omega
      have hn2 : decide (((readT l).length : Int) < ((readT l).length : Int)) = false := decide_eq_false (by omega)
      rw [List.take_length, HAll.out] at hown
      obtain ⟨A3, c3, rfl, _⟩ := own_slice hown
      have hc1 := run_string_rd (P := Tryd.prog) (w := wr) 22 9 5 Tryd.underlying22 Tryd.underlying5 Tryd.underlying9 (A := A3) (l := l) (k := l.length) (c := c3) rfl (Rd.owned hown)
      have hc2 := run_string_rd (P := Tryd.prog) (w := wr) 22 9 5 Tryd.underlying22 Tryd.underlying5 Tryd.underlying9 (A := A) (l := l) (k := n) (c := c) HN.out ((HR.out.below HB2.out).below (hbel.mono HB2.out.size))
      have HBE := Lib.hid hbel
      clear hown hbel hkg
      simp only [strv] at hc1 hc2
      go_wp2_with fail
      go_ret
      exact ⟨rfl, bthen HB2.out HBE.out (Nat.le_refl _)⟩
    | succ g =>
      have hk : k < (readT l).length := by omega
      have hlk : decide ((k : Int) < ((readT l).length : Int)) = true := decide_eq_true (by omega)
      obtain ⟨b, A1, c1, rfl, hg1, hg2, hcell, hrd1⟩ := HRE.out.elem k hk
      have hx := HMay.out (readT l)[k] (List.getElem_mem hk)
      have hsucc := flat_succ (readT l) k hk
      have hpre := flat_pre (readT l) (k + 1)
      rw [HAll.out, hsucc, List.length_append, HN.out] at hpre
      have HS := Lib.hid hsucc
      clear hsucc
      generalize (readT l)[k] = x at hcell hrd1 hx HS hpre
      generalize (((readT l).take k).map writeF).flatten = p at hown HS hpre
      generalize hq : writeF x = q at HS hpre
      obtain ⟨b1, o1, rfl, hb1, _⟩ := hrd1.rd.some (by have := hx.one; simp [strs]; omega)
      have k0 := (hbel.cell (p := ⟨b, k * 5, none⟩) hg2).trans (hcell 0 (by decide))
      have k1 := (hbel.cell (p := ⟨b, k * 5 + 1, none⟩) hg2).trans (hcell 1 (by decide))
      have k2 := (hbel.cell (p := ⟨b, k * 5 + 2, none⟩) hg2).trans (hcell 2 (by decide))
      have k3 := (hbel.cell (p := ⟨b, k * 5 + 3, none⟩) hg2).trans (hcell 3 (by decide))
      have k4 := (hbel.cell (p := ⟨b, k * 5 + 4, none⟩) hg2).trans (hcell 4 (by decide))
      simp only [repC, List.getElem?_toArray, List.getElem?_cons_zero, List.getElem?_cons_succ] at k0 k1 k2 k3 k4
      have hGr : G wr := hG.below (bthen HB2.out hbel (Nat.le_refl _)) hG.size
      have HW := Lib.hid (write_yes x b1 o1 c1 wr hGr hx ((hrd1.rd.below hbel).mono hbel.size))
      unfold WritePost at HW
      rw [hq] at HW
      clear hq
      have HM := Lib.hid (fun (w5 : World) (h5 : Below wr.heap.size wr w5) => may_yes x b1 o1 c1 w5 (hGr.after h5) hx (((hrd1.rd.below hbel).mono hbel.size |>.below h5).mono h5.size))
      obtain ⟨A6, c6, rfl, hc6⟩ := own_slice hown
      have HOwn := Lib.hid (show wr.ownsRow w2.heap.size 5 1 (.slice A6 p.length c6) p.length (p.map u8v) from hown)
      have HBE := Lib.hid hbel
      have HC := Lib.hid hcell
      have hwl := hbel.size
      clear hown hrd1 hx hcell hbel
      have hlt5 := Nat.lt_of_lt_of_le hg2 hwl
      go_wp2_with (first
        | (go_at_call 6; refine HW.out.mono ?_; rintro e w5 ⟨v5, rfl, hown5, hb5⟩; obtain ⟨A5, c5, rfl, hc5⟩ := own_slice hown5; have HOwn5 := Lib.hid hown5; have HB5 := Lib.hid hb5; have hwl5 := hb5.size; replace k0 := (hb5.cell (p := ⟨b, k * 5, none⟩) hlt5).trans k0; replace k1 := (hb5.cell (p := ⟨b, k * 5 + 1, none⟩) hlt5).trans k1; replace k2 := (hb5.cell (p := ⟨b, k * 5 + 2, none⟩) hlt5).trans k2; replace k3 := (hb5.cell (p := ⟨b, k * 5 + 3, none⟩) hlt5).trans k3; replace k4 := (hb5.cell (p := ⟨b, k * 5 + 4, none⟩) hlt5).trans k4; clear hown5 hb5)
        | (go_at_call 7; refine (HM.out _ HB5.out).mono ?_; rintro e w6 ⟨rfl, hb6⟩; clear k0 k1 k2 k3 k4; have HB6 := Lib.hid hb6; have hwl6 := hb6.size; clear hb6)
        | (at_builtin; go_loud (refine wpList_append_rd _ rfl (.tmp 57) (.tmp 58) 22 rfl w2.heap.size 5 i8 _ 1 1 Tryd.underlying22 hi8 hz80 hz81 hz82 rfl (by decide) _ _ _ rfl (okeep (okeep HOwn.out HB5.out) HB6.out) _ A5 _ c5 _ rfl (by simp) ((Rd.owned HOwn5.out).below HB6.out) (by intro u hu; obtain ⟨b, _, rfl⟩ := List.mem_map.1 hu; rfl) (by unfold maxLen; omega) (by omega) (by omega) ?_); intro v7 w7 hown7 hgrow7 _))
      go_roundg g
      case measure => omega
      case rel =>
        refine ⟨k + 1, by omega, by go_num, ?_, ?_⟩
        · rw [HS.out]
          unfold Own
          rw [List.length_append, List.map_append]
          exact hown7
        · exact own_grow (bthen (bthen HBE.out HB5.out (Nat.le_refl _)) HB6.out (Nat.le_refl _)) (okeep (okeep HOwn.out HB5.out) HB6.out) hgrow7 (Nat.le_refl _) (by omega)

theorem law_any (A : Option Addr) (n c : Nat) (l : Str) (w : World) (hG : G w) (hn : l.length = n) (hrd : Rd w.heap.size w A (l.map u8v)) :
    Calls Tryd.prog 3 #[.slice A n c] w (LawPost w) := by
  by_cases hlen : n ≤ 3000
  · cases hok : readOk l with
    | true => exact law_yes A n c l w hG hn hrd hlen hok
    | false => exact law_no A n c l w hG hn hrd hlen hok
  · exact law_long A n c w hG (by omega)
end Go.Proofs.YtmdcedbnlbcdjaaDoor

/- all: the round of an answer's last line. -/
import Derived.Test.YtmdcedbnlbcdjaaDoorMReplyH
namespace Go.Proofs.YtmdcedbnlbcdjaaDoor
open Go Go.RowKit Go.My Go.Shelf
attribute [local go_sem] Oper.semAt_some

theorem lineF_space (st : St) (s : ByteArray) (h4 : 4 ≤ s.size) (h3 : (s[3]'(by omega)).toNat = 32) :
    lineF st s.data.toList = { code := 0, xl := [], at_ := st.at_ + (s.size + 2), told := st.told ++ [⟨numVal (s.data.toList.take 3), st.xl ++ [s.extract 4 s.size], moreF (numVal (s.data.toList.take 3)) (s.extract 4 s.size)⟩], used := st.at_ + (s.size + 2) } := by
  have e3 : s.data.toList[3]? = some 32 := by
    have hl : s.data.toList.length = s.size := (Lib.size_eq s).symm
    rw [List.getElem?_eq_getElem (by omega)]
    congr 1
    exact UInt8.toNat_inj.1 h3
  have e4 : (⟨(s.data.toList.drop 4).toArray⟩ : ByteArray) = s.extract 4 s.size := by
    apply ByteArray.ext
    apply Array.ext'
    rw [Lib.extract_data]
    have hl : s.data.toList.length = s.size := (Lib.size_eq s).symm
    rw [List.take_of_length_le (by simp [hl])]
  unfold lineF
  simp only [e3]
  rw [if_pos trivial, e4, ← Lib.size_eq]
section
attribute [-go_sem] Builtin.append_
set_option maxRecDepth 100000 in
set_option maxHeartbeats 4000000 in
theorem body_space (L : Nat) (A : Option Addr) (n c bl bu : Nat) (w0 W : World) (st : St) (s : ByteArray) (hM : MI w0 bl bu st W) (hG0 : G w0) (hbl8 : 8 ≤ bl) (hbu8 : 8 ≤ bu) (h4 : 4 ≤ s.size) (h3 : (s[3]'(by omega)).toNat = 32)
    (hl : st.xl.length < 100) (hn : numOk (s.data.toList.take 3) = true) (h200 : 200 ≤ numVal (s.data.toList.take 3)) (h599 : numVal (s.data.toList.take 3) ≤ 599)
    (hx : st.xl.length = 0 ∨ numVal (s.data.toList.take 3) = st.code) (hs : s.size ≤ 100000) (hat : st.at_ ≤ 140737488355328) (htold : st.told.length ≤ 2000000) :
    allBody.wpIn (Fence.wide.inRound L) 8 Tryd.prog (fun e _ W' => e = .normal ∧ MI w0 bl bu (lineF st s.data.toList) W' ∧ Side w0 W W') { tmps := roundTmps A n c bl bu w0.heap.size (.string s), defers := [] } W := by
  have hG := hM.g hG0 hbl8 hbu8
  rw [lineF_space st s h4 h3]
  obtain ⟨N, A1, c1, lv, hx1, hown, hN, hN2, hbl, hreps, hlvN⟩ := hM.rest
  have hc1 := bcell hx1 1
  have hc0 := bcell hx1 0
  simp only [repC, List.getElem?_toArray, List.getElem?_cons_zero, List.getElem?_cons_succ] at hc1 hc0
  have hd4 : decide ((4 : Int) ≤ (s.size : Int)) = true := decide_eq_true (by omega)
  have hd4' : (4 : Int) ≤ (s.size : Int) := by omega
  have hd3 : (((s[3]'(by omega)).toNat : Int) == 45) = false := beq_eq_false_iff_ne.2 (by omega)
  have hd100 : decide ((st.xl.length : Int) < 100) = true := decide_eq_true (by omega)
  have h34 : (3 : Int) < (s.size : Int) := by omega
  have hex : (s.extract 0 3).data.toList = s.data.toList.take 3 := by rw [Lib.extract_data]; simp
  have hnum := number_yes (s.extract 0 3) (by rw [hex]; exact hn) W hG (by rw [ByteArray.size_extract]; omega)
  rw [hex] at hnum
  generalize hv : numVal (s.data.toList.take 3) = v at *
  have HV := Lib.hid hv
  have HNUM := Lib.hid hnum
  have HEX := Lib.hid hex
  have e200 : decide (200 ≤ v) = true := decide_eq_true h200
  have e599 : decide (v ≤ 599) = true := decide_eq_true h599
  have HX1 := Lib.hid hx1
  have HOWN := Lib.hid hown
  have HBL := Lib.hid hbl
  have HREPS := Lib.hid hreps
  have HM := Lib.hid hM
  have hlt1 := blt hx1
  clear hv hnum hex hx1 hown hbl hreps hM hn
  obtain ⟨i0, hi, hz0, hz1, hz2⟩ := info_parts infoStr
  have hmix : Tryd.prog.follows .mixedOrders = true := by kernel_rfl
  have hxx : ((st.xl.length : Int) == 0) = true ∨ (((st.xl.length : Int) == 0) = false ∧ (v == st.code) = true) := by
    by_cases h : st.xl.length = 0
    · exact .inl (beq_iff_eq.2 (by omega))
    · exact .inr ⟨beq_eq_false_iff_ne.2 (by omega), beq_iff_eq.2 (by rcases hx with h' | h'; exact absurd h' h; exact h')⟩
  clear hx
  have hw1 : IntKind.i64.wrap ((s.size : Int) + 2) = (s.size : Int) + 2 := IntWalk.i64_in _ (by omega)
  have hw2 : IntKind.i64.wrap ((st.at_ : Int) + ((s.size : Int) + 2)) = (st.at_ : Int) + ((s.size : Int) + 2) := IntWalk.i64_in _ (by omega)
  have hd32 : (((s[3]'(by omega)).toNat : Int) == 32) = true := beq_iff_eq.2 (by omega)
  dsimp only [allBody, Tryd.f17, roundTmps]
  simp only [Array.replicate_succ, Array.replicate_zero, List.push_toArray, List.append_toArray, List.nil_append, List.cons_append]
  rcases hxx with hx0 | ⟨hx0, hxc⟩
  all_goals
    gi_wp2_with (first
      | (refine ⟨trivial, ?_⟩; gi_at_call 25; refine (CallsIn.inRound L (callsIn_wide.2 (unless_yes _))).mono ?_; rintro e w' ⟨rfl, rfl⟩)
      | (refine ⟨trivial, ?_⟩; gi_at_call 23; refine (CallsIn.inRound L (callsIn_wide.2 HNUM.out)).mono ?_; rintro e w1 ⟨rfl, hb1⟩; have hk1 := keep HX1.out hb1; have hc1' := bcell hk1 1; have hc0' := bcell hk1 0; have hf1' := bfree hk1; simp only [repC, List.getElem?_toArray, List.getElem?_cons_zero, List.getElem?_cons_succ] at hc1' hc0'))
    have HK1 := Lib.hid hk1
    clear hk1
    have hlts := HM.out.lt
    obtain ⟨v', w2, hrun, hown2, hgrow, -⟩ := run_append_own (P := Tryd.prog) (w1.alloc (.cells #[.string (s.extract 4 s.size)] 9)).drew N 30 30 9 i0 _ 1 16 Tryd.underlying30 hi hz0 hz1 hz2 rfl (by decide) (.slice A1 st.xl.length c1) st.xl.length (strs st.xl) (okeep (okeep HOWN.out hb1) (bal _ _).drew) ⟨w1.heap.size, 0, none⟩ 1 1 [.string (s.extract 4 s.size)] rfl
      (bnews (cs := #[.string (s.extract 4 s.size)]) (t := 9) (fr := (0, 0)) (bnew w1 _)) (by simp [Value.oneCell']) (by simp only [maxLen]; omega) (by omega) (by have := hb1.size; simp; omega)
    have hlt1' := blt HK1.out
    have HW0 := Lib.hid (okeep (okeep HOWN.out hb1) (bal w1 (.cells #[.string (s.extract 4 s.size)] 9)).drew)
    have HG := Lib.hid hgrow
    have k1 := own_blk (w := (w1.alloc (.cells #[.string (s.extract 4 s.size)] 9)).drew) (b := w0.heap.size + 1) (bold HK1.out _) HW0.out HG.out (by omega)
    have k2 := own_blk (w := (w1.alloc (.cells #[.string (s.extract 4 s.size)] 9)).drew) (b := w0.heap.size + 2) (bold (keep HM.out.at_ hb1) _) HW0.out HG.out (by omega)
    have K1 := Lib.hid k1
    have K2 := Lib.hid k2
    have HO2 := Lib.hid hown2
    have c10 := bcell k1 0
    have c11 := bcell k1 1
    have c20 := bcell k2 0
    have f1 := bfree k1
    have f2 := bfree k2
    obtain ⟨g', cap', rfl, hcap⟩ := own_succ hown2
    simp only [repC, List.getElem?_toArray, List.getElem?_cons_zero, List.getElem?_cons_succ] at c10 c11 c20
    clear k1 k2 hgrow hown2
    have HM3 := Lib.hid (HM.out.dash HX1.out HOWN.out hN hN2 HBL.out HREPS.out hlvN hb1 HG.out HO2.out v (s.size + 2) ((st.at_ : Int) + ((s.size : Int) + 2)) (by omega))
    refine region_round hmix (by kernel_rfl) ?_
    refine wpAnyIn_take (i := 0) (v := ?v0) rfl rfl (by kernel_rfl) (by kernel_rfl) (by kernel_rfl) (fun _ _ _ h => h) ⟨Or.inl ⟨by rfl, ?hy⟩, fun _ => rfl⟩ ?_
    case hy => intro w; go_simp; try with_reducible rfl
    refine wpAnyIn_take (i := 1) (v := ?v1) rfl rfl (by kernel_rfl) (by kernel_rfl) (by kernel_rfl) (fun _ _ _ h => h) ⟨Or.inl ⟨by rfl, ?hy⟩, fun _ => rfl⟩ ?_
    case hy => intro w; go_simp; try with_reducible rfl
    refine wpAnyIn_take (i := 3) (v := ?v3) rfl rfl (by kernel_rfl) (by kernel_rfl) (by kernel_rfl) (fun _ _ _ h => h) ⟨Or.inl ⟨by rfl, ?hy⟩, fun _ => rfl⟩ ?_
    case hy => intro w; go_simp; try with_reducible rfl
    refine wpAnyIn_take (i := 4) (v := ?v4) rfl rfl (by kernel_rfl) (by kernel_rfl) (by kernel_rfl) (fun _ _ _ h => h) ⟨Or.inl ⟨by rfl, ?hy⟩, fun _ => rfl⟩ ?_
    case hy => intro w; go_simp; try with_reducible rfl
    refine wpAnyIn_ready (rs := [2,5]) (by kernel_rfl) (by simp) ?_
    refine AllReadyIn.cons rfl (fun K hK => ?_) (AllReadyIn.cons rfl (fun K hK => ?_) AllReadyIn.nil)
    go_simp
    refine hK _ _ ?_
    clear hK K
    refine wpAnyIn_take (i := 7) (v := ?v7) rfl rfl (by kernel_rfl) (by kernel_rfl) (by kernel_rfl) (fun _ _ _ h => h) ⟨Or.inl ⟨by rfl, ?hy⟩, fun _ => rfl⟩ ?_
    case hy => intro w; go_simp; try with_reducible rfl
    refine wpAnyIn_ready (rs := [5]) (by kernel_rfl) (by simp) ?_
    refine AllReadyIn.cons rfl (fun K hK => ?_) AllReadyIn.nil
    go_simp
    refine hK _ _ ?_
    clear hK K
    refine wpAnyIn_ready (rs := [6]) (by kernel_rfl) (by simp) ?_
    refine AllReadyIn.cons rfl (fun K hK => ?_) AllReadyIn.nil
    go_simp
    refine hK _ _ ?_
    clear hK K
    refine wpAnyIn_ready (rs := [8]) (by kernel_rfl) (by simp) ?_
    refine AllReadyIn.cons rfl (fun K hK => ?_) AllReadyIn.nil
    go_simp
    refine hK _ _ ?_
    clear hK K
    refine wpAnyIn_ready (rs := [9]) (by kernel_rfl) (by simp) ?_
    refine AllReadyIn.cons rfl (fun K hK => ?_) AllReadyIn.nil
    go_simp
    refine hK _ _ ?_
    clear hK K
    refine wpAnyIn_ready (rs := [10]) (by kernel_rfl) (by simp) ?_
    refine AllReadyIn.cons rfl (fun K hK => ?_) AllReadyIn.nil
    go_simp
    refine hK _ _ ?_
    clear hK K
    refine wpAnyIn_done (by kernel_rfl) ?_ _
    simp only [Exit.then]
    rotate_left
    go_simp
    refine hK _ _ ?_
    clear hK K
    refine wpAnyIn_ready (rs := [2]) (by kernel_rfl) (by simp) ?_
    refine AllReadyIn.cons rfl (fun K hK => ?_) AllReadyIn.nil
    go_simp
    refine hK _ _ ?_
    clear hK K
    refine wpAnyIn_take (i := 7) (v := ?w7) rfl rfl (by kernel_rfl) (by kernel_rfl) (by kernel_rfl) (fun _ _ _ h => h) ⟨Or.inl ⟨by rfl, ?hy⟩, fun _ => rfl⟩ ?_
    case hy => intro w; go_simp; try with_reducible rfl
    refine wpAnyIn_ready (rs := [6]) (by kernel_rfl) (by simp) ?_
    refine AllReadyIn.cons rfl (fun K hK => ?_) AllReadyIn.nil
    go_simp
    refine hK _ _ ?_
    clear hK K
    refine wpAnyIn_ready (rs := [8]) (by kernel_rfl) (by simp) ?_
    refine AllReadyIn.cons rfl (fun K hK => ?_) AllReadyIn.nil
    go_simp
    refine hK _ _ ?_
    clear hK K
    refine wpAnyIn_ready (rs := [9]) (by kernel_rfl) (by simp) ?_
    refine AllReadyIn.cons rfl (fun K hK => ?_) AllReadyIn.nil
    go_simp
    refine hK _ _ ?_
    clear hK K
    refine wpAnyIn_ready (rs := [10]) (by kernel_rfl) (by simp) ?_
    refine AllReadyIn.cons rfl (fun K hK => ?_) AllReadyIn.nil
    go_simp
    refine hK _ _ ?_
    clear hK K
    refine wpAnyIn_done (by kernel_rfl) ?_ _
    simp only [Exit.then]
  all_goals
    gi_wp2_with (first
      | (refine ⟨trivial, ?_⟩; gi_at_call 14; refine (CallsIn.inRound L (callsIn_wide.2 (more_any v (by omega) (by omega) _ _ (HM3.out.1.g hG0 hbl8 hbu8) (by rw [ByteArray.size_extract]; omega)))).mono ?_; rintro e w3 ⟨rfl, hb3⟩; have hM4 := HM3.out.1.below hb3; have HM4 := Lib.hid hM4; obtain ⟨N4, A4, c4, lv4, hx4, hown4, hN4, hN42, hbl4, hreps4, hlvN4⟩ := hM4.rest; have c40 := bcell hx4 0; have c41 := bcell hx4 1; have c42 := bcell hx4 2; have c43 := bcell hx4 3; have c44 := bcell hx4 4; have f4 := bfree hx4; have t40 := bcell hM4.tell 0; have a40 := bcell hM4.at_ 0; have HX4 := Lib.hid hx4; have HOWN4 := Lib.hid hown4; have HBL4 := Lib.hid hbl4; have HREPS4 := Lib.hid hreps4; have hlt4 := blt hx4; have hlt40 := blt hM4.tell; have hlt42 := blt hM4.at_; obtain ⟨css4, ho4, hl4, hrep4⟩ := hreps4; have HO4 := Lib.hid ho4; have HREP4 := Lib.hid hrep4; clear hx4 hown4 hbl4 ho4 hrep4 hM4; simp only [repC, List.getElem?_toArray, List.getElem?_cons_zero, List.getElem?_cons_succ, List.length_append, List.length_cons, List.length_nil] at c40 c41 c42 c43 c44 t40 a40)
      | (refine ⟨trivial, ?_⟩; gi_at_call 18; go_must (refine (CallsIn.inRound L (callsIn_wide.2 (tell_any v A4 _ c4 (moreF v (s.extract 4 s.size)) _ bl bu lv4 _ (w0.heap.size + 6) css4 _ (bother (bother (bother HBL4.out (by omega) _ _) (by omega) _ _) (by omega) _ _) (bother (bother (bother HM4.out.used (by omega) _ _) (by omega) _ _) (by omega) _ _) hlts.2.2 (own_far (own_far (own_far HO4.out (by omega) _ _) (by omega) _ _) (by omega) _ _) (by omega) (by omega) (by simp only [set_size]; omega) (by have h9 : css4.length = st.told.length := hl4; omega)))).mono ?_); rintro e w5 ⟨rfl, lv5, hbl5, hbu5, hown5, hsz5, hos5, htp5, hout5, hold5⟩; have hne5 : some (w0.heap.size + 1) ≠ lv4.ownBlock := (fun e => by have h9 := HREPS4.out.base _ e.symm; omega); have hx5 : w5.heap[w0.heap.size + 1]? = some (.cells (repC v A4 (st.xl.length + 1) c4 (moreF v (s.extract 4 s.size))) 33 (0, 0)) := (by rw [hold5 _ (by simp only [set_size]; omega) (by omega) (by omega) hne5]; have h9 := bstore (bstore (bstore HX4.out 2 (.int .i64 (moreF v (s.extract 4 s.size)).1)) 3 (.int .i64 (moreF v (s.extract 4 s.size)).2.1)) 4 (.int .i64 (moreF v (s.extract 4 s.size)).2.2); simpa [repC] using h9); have c50 := bcell hx5 0; have c51 := bcell hx5 1; have c52 := bcell hx5 2; have c53 := bcell hx5 3; have c54 := bcell hx5 4; have f5 := bfree hx5; have HX5 := Lib.hid hx5; have HBL5 := Lib.hid hbl5; have HBU5 := Lib.hid hbu5; have HOWN5 := Lib.hid hown5; have HOLD5 := Lib.hid hold5; have HS5 := Lib.hid hsz5; have HOS5 := Lib.hid hos5; have HTP5 := Lib.hid htp5; have HOUT5 := Lib.hid hout5; clear hx5 hbl5 hbu5 hown5 hold5 hsz5 hos5 htp5 hout5; simp only [repC, List.getElem?_toArray, List.getElem?_cons_zero, List.getElem?_cons_succ] at c50 c51 c52 c53 c54))
    have hlen : (st.xl ++ [s.extract 4 s.size]).length = st.xl.length + 1 := by simp
    have hc4 : (st.xl ++ [s.extract 4 s.size]).length ≤ c4 := by
      obtain ⟨_, c', e, hc'⟩ := own_slice HOWN4.out
      injection e with _ _ e
      rw [e]
      exact hc'
    have h5 := HOWN5.out
    rw [← hlen] at h5
    have hx5 := HX5.out
    rw [← hlen] at hx5
    have hsz := HS5.out
    simp only [set_size] at hsz
    have key := HM4.out.tells (m := moreF v (s.extract 4 s.size)) HX4.out HOWN4.out hN42 HBL4.out HO4.out hl4 HREP4.out hc4 HBL5.out HBU5.out h5 hsz HOS5.out HTP5.out HOUT5.out (fun k k1 k2 k3 k4 k5 => by
      rw [HOLD5.out k (by simp only [set_size]; exact k1) k2 k3 k5, Below.heap_setCell _ _ _ _ (show k ≠ w0.heap.size + 1 from k4), Below.heap_setCell _ _ _ _ (show k ≠ w0.heap.size + 1 from k4), Below.heap_setCell _ _ _ _ (show k ≠ w0.heap.size + 1 from k4)]) hx5 rfl
    exact ⟨key.1, fun k k1 k2 => (key.2 k k1 k2).trans ((hb3.block k (by have := HM3.out.1.size; omega)).trans (HM3.out.2 k k1 k2))⟩
end
end Go.Proofs.YtmdcedbnlbcdjaaDoor

/- all: the answers of bytes that are whole. -/
import Derived.Test.YtmdcedbnlbcdjaaDoorMReplyG
import Derived.Shelf.RegionOpen
namespace Go.Proofs.YtmdcedbnlbcdjaaDoor
open Go Go.RowKit Go.My Go.Shelf
attribute [local go_sem] Oper.semAt_some

theorem lines_any (A : Option Addr) (n c : Nat) (w : World) :
    Calls Tryd.prog 24 #[.slice A n c] w fun e w' => e = .returned (.func (.func 34) #[] #[.pointer (some ⟨w.heap.size, 0, none⟩)]) ∧ w' = w.alloc (.cells #[.slice A n c] 22) := by
  go_enter Tryd.func24, Tryd.ntmps24
  go_wp2
  go_ret
  exact ⟨rfl, rfl⟩

/-- The loop's body. -/
noncomputable def allBody : Code := match Tryd.f17.body with
  | some (.seq _ (.seq _ (.seq _ (.seq _ (.block _ (.rangeFunc _ _ _ b)))))) => b
  | _ => .skip

theorem infoStr : (Tryd.prog.info? 9).map (fun i => (i.zero, i.size, i.bytes)) = some (some (.string ByteArray.empty), 1, 16) := by kernel_rfl
/-- The frame of a round. -/
def roundTmps (A : Option Addr) (n c bl bu S : Nat) (s : Value) : Array Value :=
  #[.slice A n c, .func (.func 18) #[] #[.pointer (some ⟨bl, 0, none⟩), .pointer (some ⟨bu, 0, none⟩)], undef, .pointer (some ⟨S, 0, none⟩), .pointer (some ⟨S + 1, 0, none⟩), .pointer (some ⟨S + 1 + 1, 0, none⟩), s, undef, undef, .slice A n c, .func (.func 34) #[] #[.pointer (some ⟨S + 1 + 1 + 1, 0, none⟩)], s] ++ Array.replicate 75 undef

theorem lineF_dash (st : St) (s : ByteArray) (h4 : 4 ≤ s.size) (h3 : (s[3]'(by omega)).toNat = 45) :
    lineF st s.data.toList = { st with code := numVal (s.data.toList.take 3), xl := st.xl ++ [s.extract 4 s.size], at_ := st.at_ + (s.size + 2) } := by
  have e3 : s.data.toList[3]? = some 45 := by
    have hl : s.data.toList.length = s.size := (Lib.size_eq s).symm
    rw [List.getElem?_eq_getElem (by omega)]
    congr 1
    exact UInt8.toNat_inj.1 h3
  have e4 : (⟨(s.data.toList.drop 4).toArray⟩ : ByteArray) = s.extract 4 s.size := by
    apply ByteArray.ext
    apply Array.ext'
    rw [Lib.extract_data]
    have hl : s.data.toList.length = s.size := (Lib.size_eq s).symm
    rw [List.take_of_length_le (by simp [hl])]
  unfold lineF
  simp only [e3]
  rw [if_neg (by decide), e4, ← Lib.size_eq]
section
attribute [-go_sem] Builtin.append_
set_option maxRecDepth 100000 in
set_option maxHeartbeats 4000000 in
theorem body_dash (L : Nat) (A : Option Addr) (n c bl bu : Nat) (w0 W : World) (st : St) (s : ByteArray) (hM : MI w0 bl bu st W) (hG : G W) (h4 : 4 ≤ s.size) (h3 : (s[3]'(by omega)).toNat = 45)
    (hl : st.xl.length < 100) (hn : numOk (s.data.toList.take 3) = true) (h200 : 200 ≤ numVal (s.data.toList.take 3)) (h599 : numVal (s.data.toList.take 3) ≤ 599)
    (hx : st.xl.length = 0 ∨ numVal (s.data.toList.take 3) = st.code) (hs : s.size ≤ 100000) (hat : st.at_ ≤ 140737488355328) :
    allBody.wpIn (Fence.wide.inRound L) 8 Tryd.prog (fun e _ W' => e = .normal ∧ MI w0 bl bu (lineF st s.data.toList) W' ∧ Side w0 W W') { tmps := roundTmps A n c bl bu w0.heap.size (.string s), defers := [] } W := by
  rw [lineF_dash st s h4 h3]
  obtain ⟨N, A1, c1, lv, hx1, hown, hN, hN2, hbl, hreps, hlvN⟩ := hM.rest
  have hc1 := bcell hx1 1
  have hc0 := bcell hx1 0
  simp only [repC, List.getElem?_toArray, List.getElem?_cons_zero, List.getElem?_cons_succ] at hc1 hc0
  have hd4 : decide ((4 : Int) ≤ (s.size : Int)) = true := decide_eq_true (by omega)
  have hd4' : (4 : Int) ≤ (s.size : Int) := by omega
  have hd3 : (((s[3]'(by omega)).toNat : Int) == 45) = true := beq_iff_eq.2 (by omega)
  have hd100 : decide ((st.xl.length : Int) < 100) = true := decide_eq_true (by omega)
  have h34 : (3 : Int) < (s.size : Int) := by omega
  have hex : (s.extract 0 3).data.toList = s.data.toList.take 3 := by rw [Lib.extract_data]; simp
  have hnum := number_yes (s.extract 0 3) (by rw [hex]; exact hn) W hG (by rw [ByteArray.size_extract]; omega)
  rw [hex] at hnum
  generalize hv : numVal (s.data.toList.take 3) = v at *
  have HV := Lib.hid hv
  have HNUM := Lib.hid hnum
  have HEX := Lib.hid hex
  have e200 : decide (200 ≤ v) = true := decide_eq_true h200
  have e599 : decide (v ≤ 599) = true := decide_eq_true h599
  have HX1 := Lib.hid hx1
  have HOWN := Lib.hid hown
  have HBL := Lib.hid hbl
  have HREPS := Lib.hid hreps
  have HM := Lib.hid hM
  have hlt1 := blt hx1
  clear hv hnum hex hx1 hown hbl hreps hM hn
  obtain ⟨i0, hi, hz0, hz1, hz2⟩ := info_parts infoStr
  have hmix : Tryd.prog.follows .mixedOrders = true := by kernel_rfl
  have hxx : ((st.xl.length : Int) == 0) = true ∨ (((st.xl.length : Int) == 0) = false ∧ (v == st.code) = true) := by
    by_cases h : st.xl.length = 0
    · exact .inl (beq_iff_eq.2 (by omega))
    · exact .inr ⟨beq_eq_false_iff_ne.2 (by omega), beq_iff_eq.2 (by rcases hx with h' | h'; exact absurd h' h; exact h')⟩
  clear hx
  have hw1 : IntKind.i64.wrap ((s.size : Int) + 2) = (s.size : Int) + 2 := IntWalk.i64_in _ (by omega)
  have hw2 : IntKind.i64.wrap ((st.at_ : Int) + ((s.size : Int) + 2)) = (st.at_ : Int) + ((s.size : Int) + 2) := IntWalk.i64_in _ (by omega)
  have hd32 : (((s[3]'(by omega)).toNat : Int) == 32) = false := beq_eq_false_iff_ne.2 (by omega)
  dsimp only [allBody, Tryd.f17, roundTmps]
  simp only [Array.replicate_succ, Array.replicate_zero, List.push_toArray, List.append_toArray, List.nil_append, List.cons_append]
  rcases hxx with hx0 | ⟨hx0, hxc⟩
  all_goals
    gi_wp2_with (first
      | (refine ⟨trivial, ?_⟩; gi_at_call 25; refine (CallsIn.inRound L (callsIn_wide.2 (unless_yes _))).mono ?_; rintro e w' ⟨rfl, rfl⟩)
      | (refine ⟨trivial, ?_⟩; gi_at_call 23; refine (CallsIn.inRound L (callsIn_wide.2 HNUM.out)).mono ?_; rintro e w1 ⟨rfl, hb1⟩; have hk1 := keep HX1.out hb1; have hc1' := bcell hk1 1; have hc0' := bcell hk1 0; have hf1' := bfree hk1; simp only [repC, List.getElem?_toArray, List.getElem?_cons_zero, List.getElem?_cons_succ] at hc1' hc0'))
    have HK1 := Lib.hid hk1
    clear hk1
    obtain ⟨v', w2, hrun, hown2, hgrow, -⟩ := run_append_own (P := Tryd.prog) (w1.alloc (.cells #[.string (s.extract 4 s.size)] 9)).drew N 30 30 9 i0 _ 1 16 Tryd.underlying30 hi hz0 hz1 hz2 rfl (by decide) (.slice A1 st.xl.length c1) st.xl.length (strs st.xl) (okeep (okeep HOWN.out hb1) (bal _ _).drew) ⟨w1.heap.size, 0, none⟩ 1 1 [.string (s.extract 4 s.size)] rfl
      (bnews (cs := #[.string (s.extract 4 s.size)]) (t := 9) (fr := (0, 0)) (bnew w1 _)) (by simp [Value.oneCell']) (by simp only [maxLen]; omega) (by omega) (by have := hb1.size; simp; omega)
    have hlt1' := blt HK1.out
    have HW0 := Lib.hid (okeep (okeep HOWN.out hb1) (bal w1 (.cells #[.string (s.extract 4 s.size)] 9)).drew)
    have HG := Lib.hid hgrow
    have k1 := own_blk (w := (w1.alloc (.cells #[.string (s.extract 4 s.size)] 9)).drew) (b := w0.heap.size + 1) (bold HK1.out _) HW0.out HG.out (by omega)
    have k2 := own_blk (w := (w1.alloc (.cells #[.string (s.extract 4 s.size)] 9)).drew) (b := w0.heap.size + 2) (bold (keep HM.out.at_ hb1) _) HW0.out HG.out (by omega)
    have K1 := Lib.hid k1
    have K2 := Lib.hid k2
    have HO2 := Lib.hid hown2
    have c10 := bcell k1 0
    have c11 := bcell k1 1
    have c20 := bcell k2 0
    have f1 := bfree k1
    have f2 := bfree k2
    obtain ⟨g', cap', rfl, hcap⟩ := own_succ hown2
    simp only [repC, List.getElem?_toArray, List.getElem?_cons_zero, List.getElem?_cons_succ] at c10 c11 c20
    clear k1 k2 hgrow hown2
    have HM3 := Lib.hid (HM.out.dash HX1.out HOWN.out hN hN2 HBL.out HREPS.out hlvN hb1 HG.out HO2.out v (s.size + 2) ((st.at_ : Int) + ((s.size : Int) + 2)) (by omega))
    refine region_round hmix (by kernel_rfl) ?_
    refine wpAnyIn_take (i := 0) (v := ?v0) rfl rfl (by kernel_rfl) (by kernel_rfl) (by kernel_rfl) (fun _ _ _ h => h) ⟨Or.inl ⟨by rfl, ?hy⟩, fun _ => rfl⟩ ?_
    case hy => intro w; go_simp; try with_reducible rfl
    refine wpAnyIn_take (i := 1) (v := ?v1) rfl rfl (by kernel_rfl) (by kernel_rfl) (by kernel_rfl) (fun _ _ _ h => h) ⟨Or.inl ⟨by rfl, ?hy⟩, fun _ => rfl⟩ ?_
    case hy => intro w; go_simp; try with_reducible rfl
    refine wpAnyIn_take (i := 3) (v := ?v3) rfl rfl (by kernel_rfl) (by kernel_rfl) (by kernel_rfl) (fun _ _ _ h => h) ⟨Or.inl ⟨by rfl, ?hy⟩, fun _ => rfl⟩ ?_
    case hy => intro w; go_simp; try with_reducible rfl
    refine wpAnyIn_take (i := 4) (v := ?v4) rfl rfl (by kernel_rfl) (by kernel_rfl) (by kernel_rfl) (fun _ _ _ h => h) ⟨Or.inl ⟨by rfl, ?hy⟩, fun _ => rfl⟩ ?_
    case hy => intro w; go_simp; try with_reducible rfl
    refine wpAnyIn_ready (rs := [2,5]) (by kernel_rfl) (by simp) ?_
    refine AllReadyIn.cons rfl (fun K hK => ?_) (AllReadyIn.cons rfl (fun K hK => ?_) AllReadyIn.nil)
    go_simp
    refine hK _ _ ?_
    clear hK K
    refine wpAnyIn_take (i := 7) (v := ?v7) rfl rfl (by kernel_rfl) (by kernel_rfl) (by kernel_rfl) (fun _ _ _ h => h) ⟨Or.inl ⟨by rfl, ?hy⟩, fun _ => rfl⟩ ?_
    case hy => intro w; go_simp; try with_reducible rfl
    refine wpAnyIn_ready (rs := [5]) (by kernel_rfl) (by simp) ?_
    refine AllReadyIn.cons rfl (fun K hK => ?_) AllReadyIn.nil
    go_simp
    refine hK _ _ ?_
    clear hK K
    refine wpAnyIn_ready (rs := [6]) (by kernel_rfl) (by simp) ?_
    refine AllReadyIn.cons rfl (fun K hK => ?_) AllReadyIn.nil
    go_simp
    refine hK _ _ ?_
    clear hK K
    refine wpAnyIn_ready (rs := [8]) (by kernel_rfl) (by simp) ?_
    refine AllReadyIn.cons rfl (fun K hK => ?_) AllReadyIn.nil
    go_simp
    refine hK _ _ ?_
    clear hK K
    refine wpAnyIn_ready (rs := [9]) (by kernel_rfl) (by simp) ?_
    refine AllReadyIn.cons rfl (fun K hK => ?_) AllReadyIn.nil
    go_simp
    refine hK _ _ ?_
    clear hK K
    refine wpAnyIn_ready (rs := [10]) (by kernel_rfl) (by simp) ?_
    refine AllReadyIn.cons rfl (fun K hK => ?_) AllReadyIn.nil
    go_simp
    refine hK _ _ ?_
    clear hK K
    refine wpAnyIn_done (by kernel_rfl) ?_ _
    simp only [Exit.then]
    rotate_left
    go_simp
    refine hK _ _ ?_
    clear hK K
    refine wpAnyIn_ready (rs := [2]) (by kernel_rfl) (by simp) ?_
    refine AllReadyIn.cons rfl (fun K hK => ?_) AllReadyIn.nil
    go_simp
    refine hK _ _ ?_
    clear hK K
    refine wpAnyIn_take (i := 7) (v := ?w7) rfl rfl (by kernel_rfl) (by kernel_rfl) (by kernel_rfl) (fun _ _ _ h => h) ⟨Or.inl ⟨by rfl, ?hy⟩, fun _ => rfl⟩ ?_
    case hy => intro w; go_simp; try with_reducible rfl
    refine wpAnyIn_ready (rs := [6]) (by kernel_rfl) (by simp) ?_
    refine AllReadyIn.cons rfl (fun K hK => ?_) AllReadyIn.nil
    go_simp
    refine hK _ _ ?_
    clear hK K
    refine wpAnyIn_ready (rs := [8]) (by kernel_rfl) (by simp) ?_
    refine AllReadyIn.cons rfl (fun K hK => ?_) AllReadyIn.nil
    go_simp
    refine hK _ _ ?_
    clear hK K
    refine wpAnyIn_ready (rs := [9]) (by kernel_rfl) (by simp) ?_
    refine AllReadyIn.cons rfl (fun K hK => ?_) AllReadyIn.nil
    go_simp
    refine hK _ _ ?_
    clear hK K
    refine wpAnyIn_ready (rs := [10]) (by kernel_rfl) (by simp) ?_
    refine AllReadyIn.cons rfl (fun K hK => ?_) AllReadyIn.nil
    go_simp
    refine hK _ _ ?_
    clear hK K
    refine wpAnyIn_done (by kernel_rfl) ?_ _
    simp only [Exit.then]
  all_goals
    gi_wp2
    exact HM3.out
end


end Go.Proofs.YtmdcedbnlbcdjaaDoor

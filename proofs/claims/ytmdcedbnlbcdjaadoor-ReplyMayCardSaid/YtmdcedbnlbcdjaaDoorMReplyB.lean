/- more: what is enhanced in a text. -/
import Derived.Test.YtmdcedbnlbcdjaaDoorMReplyA
import Derived.Deep.LoopGhost
namespace Go.Proofs.YtmdcedbnlbcdjaaDoor
open Go Go.RowKit Go.My Go.Shelf

theorem split_any (s sep : ByteArray) (w : World) (hG : G w) (hs : s.size < 4294967281) (h1 : 1 ≤ sep.size) :
    Calls Tryd.prog 22 #[.string s, .string sep] w fun e w' =>
      e = .returned (.slice (some ⟨w.heap.size, 0, none⟩) (Lib.countB s sep + 1) (Lib.countB s sep + 1)) ∧ w' = w.alloc (.cells ((Lib.splitB sep 0 (Lib.countB s sep) s).map Value.string).toArray 9) := by
  obtain ⟨m, hm⟩ := hG.maxlen
  exact Tryd.strings_Split s sep m w hs hm h1
theorem cut_any (s sep : ByteArray) (w : World) (hG : G w) (hs : s.size < 4294967281) :
    Calls Tryd.prog 21 #[.string s, .string sep] w fun e w' => e = .returned (.tuple #[.string ⟨(Lib.cut s.data.toList sep.data.toList).1.toArray⟩, .string ⟨(Lib.cut s.data.toList sep.data.toList).2.1.toArray⟩, .bool (Lib.cut s.data.toList sep.data.toList).2.2]) ∧ Below w.heap.size w w' := by
  obtain ⟨m, hm⟩ := hG.maxlen
  refine (Tryd.strings_Cut s sep m w hs hm).mono ?_
  rintro e w' ⟨rfl, n, rfl⟩
  exact ⟨rfl, ⟨rfl, rfl, rfl, Nat.le_refl _, fun _ _ => rfl⟩⟩
def MorePost (m : Int × Int × Int) (w : World) (e : Ending) (w' : World) : Prop :=
  e = .returned (.agg #[.int .i64 m.1, .int .i64 m.2.1, .int .i64 m.2.2]) ∧ Below w.heap.size w w'
theorem split_three (s sep a b c : ByteArray) (hp : Lib.splitB sep 0 (Lib.countB s sep) s = [a, b, c]) (w : World) (hG : G w) (hs : s.size < 4294967281) (h1 : 1 ≤ sep.size) :
    Calls Tryd.prog 22 #[.string s, .string sep] w fun e w' =>
      e = .returned (.slice (some ⟨w.heap.size, 0, none⟩) 3 3) ∧ w' = w.alloc (.cells #[.string a, .string b, .string c] 9) := by
  have hl := Lib.splitB_all sep h1 0 _ s rfl
  refine (split_any s sep w hG hs h1).mono ?_
  rintro e w' ⟨rfl, rfl⟩
  rw [← hl, hp]
  exact ⟨rfl, rfl⟩
theorem split_other (s sep : ByteArray) (hp : Lib.countB s sep ≠ 2) (w : World) (hG : G w) (hs : s.size < 4294967281) (h1 : 1 ≤ sep.size) :
    Calls Tryd.prog 22 #[.string s, .string sep] w fun e w' =>
      ∃ n : Nat, e = .returned (.slice (some ⟨w.heap.size, 0, none⟩) n n) ∧ n ≠ 3 ∧ Below w.heap.size w w' := by
  refine (split_any s sep w hG hs h1).mono ?_
  rintro e w' ⟨rfl, rfl⟩
  exact ⟨_, rfl, by omega, (Below.refl _ _).alloc (Nat.le_refl _) _⟩

theorem pieces_cases (s : ByteArray) : (∃ a b c, pieces s = [a, b, c]) ∨ (Lib.countB ⟨(Lib.cut s.data.toList [32]).1.toArray⟩ ⟨#[46]⟩ ≠ 2 ∧ ∀ code, moreF code s = (0, 0, 0)) := by
  have hl := Lib.splitB_all ⟨#[46]⟩ (by decide) 0 _ ⟨(Lib.cut s.data.toList [32]).1.toArray⟩ rfl
  by_cases h : Lib.countB ⟨(Lib.cut s.data.toList [32]).1.toArray⟩ ⟨#[46]⟩ = 2
  · left
    rw [h] at hl
    unfold pieces
    rw [h]
    match hm : Lib.splitB ⟨#[46]⟩ 0 2 ⟨(Lib.cut s.data.toList [32]).1.toArray⟩, hl with
    | [a, b, c], _ => exact ⟨a, b, c, rfl⟩
  · refine .inr ⟨h, fun code => ?_⟩
    unfold moreF
    have hl' : (pieces s).length ≠ 3 := by unfold pieces; omega
    split
    · rename_i a b c hp; rw [hp] at hl'; simp at hl'
    · rfl

theorem cut_take (s : ByteArray) (h : s.size < 4294967281) : (⟨(Lib.cut s.data.toList [32]).1.toArray⟩ : ByteArray).size < 4294967281 := by
  have : (⟨(Lib.cut s.data.toList [32]).1.toArray⟩ : ByteArray).size = (Lib.cut s.data.toList [32]).1.length := by simp [ByteArray.size]
  rw [this]
  have hs : s.size = s.data.toList.length := Lib.size_eq s
  unfold Lib.cut
  split
  · simp only [List.length_take]; omega
  · simp only []; omega

theorem more_other (code : Int) (h0 : 0 ≤ code) (h1 : code ≤ 1000000) (s : ByteArray) (hp : Lib.countB ⟨(Lib.cut s.data.toList [32]).1.toArray⟩ ⟨#[46]⟩ ≠ 2) (w : World) (hG : G w) (hs : s.size < 4294967281) :
    Calls Tryd.prog 14 #[.int .i64 code, .string s] w (MorePost (0, 0, 0) w) := by
  have hcs := cut_take s hs
  go_enter Tryd.func14, Tryd.ntmps14
  go_wp2_with (first | (go_at_call 21; refine (cut_any _ _ _ (hG.after (bal _ _)) hs).mono ?_; rintro e w1 ⟨rfl, hb⟩) | (go_at_call 22; refine (split_other _ _ hp _ (hG.after (bthen (bal _ _) hb (Nat.le_refl _))) hcs (by decide)).mono ?_; rintro e w2 ⟨n, rfl, hn, hb2⟩; have hn' : ((n : Int) != 3) = true := (by rw [bne_iff_ne]; omega); have hk := keep (keep (bnew w _) hb) hb2; have hc := bcell hk; have hf := bfree hk; clear hk))
  refine bodyPost_ret (v := .agg #[.int .i64 0, .int .i64 0, .int .i64 0]) (by simp [results, Tryd.results14, go_sem, hc]) rfl ⟨rfl, ?_⟩
  exact bset (bset (bset (bthen (bthen (bal _ _) hb (Nat.le_refl _)) hb2 (Nat.le_refl _)) (Nat.le_refl _) _ _) (Nat.le_refl _) _ _) (Nat.le_refl _) _ _

theorem number_yes (s : ByteArray) (h : numOk s.data.toList = true) (w : World) (hG : G w) (hs : s.size ≤ 281474976710656) :
    Calls Tryd.prog 23 #[.string s] w fun e w' => e = .returned (.tuple #[.int .i64 (numVal s.data.toList), .bool true]) ∧ Below w.heap.size w w' :=
  (number_any s w hG hs).mono fun e w' ⟨⟨n, he, hn⟩, hb⟩ => ⟨by rw [he, h, (hn h).1], hb⟩
theorem number_no (s : ByteArray) (h : numOk s.data.toList = false) (w : World) (hG : G w) (hs : s.size ≤ 281474976710656) :
    Calls Tryd.prog 23 #[.string s] w fun e w' => (∃ n : Int, e = .returned (.tuple #[.int .i64 n, .bool false])) ∧ Below w.heap.size w w' :=
  (number_any s w hG hs).mono fun e w' ⟨⟨n, he, _⟩, hb⟩ => ⟨⟨n, by rw [he, h]⟩, hb⟩

theorem more_300 (code : Int) (h0 : 0 ≤ code) (h1 : code ≤ 1000000) (h3 : (code / 100 == 3) = true) (s a b c : ByteArray) (hp : pieces s = [a, b, c]) (w : World) (hG : G w) (hs : s.size < 4294967281) :
    Calls Tryd.prog 14 #[.int .i64 code, .string s] w (MorePost (0, 0, 0) w) := by
  have hcs := cut_take s hs
  go_enter Tryd.func14, Tryd.ntmps14
  go_wp2_with (first | (go_at_call 21; refine (cut_any _ _ _ (hG.after (bal _ _)) hs).mono ?_; rintro e w1 ⟨rfl, hb⟩) | (go_at_call 22; refine (split_three _ _ a b c hp _ (hG.after (bthen (bal _ _) hb (Nat.le_refl _))) hcs (by decide)).mono ?_; rintro e w2 ⟨rfl, rfl⟩; have hk := keep (bnew w _) hb; have hc := bcell (bold hk (.cells #[.string a, .string b, .string c] 9)); have hf := bfree (bold hk (.cells #[.string a, .string b, .string c] 9)); clear hk))
  refine bodyPost_ret (v := .agg #[.int .i64 0, .int .i64 0, .int .i64 0]) (by simp [results, Tryd.results14, go_sem, hc]) rfl ⟨rfl, ?_⟩
  exact bset (bset (bset (bthen (bthen (bal _ _) hb (Nat.le_refl _)) (bal _ _) (Nat.le_refl _)) (Nat.le_refl _) _ _) (Nat.le_refl _) _ _) (Nat.le_refl _) _ _

/-- What the rounds of 'more' have laid. -/
structure MoreInv (w : World) (o p x : Nat) (a b c : ByteArray) (k : Nat) (wr : World) : Prop where
  out : wr.heap[o]? = some (.cells #[.int .i64 0, .int .i64 0, .int .i64 0] 31 (0, 0))
  pcs : wr.heap[p]? = some (.cells #[.string a, .string b, .string c] 9 (0, 0))
  xs : wr.heap[x]? = some (.cells #[.int .i64 (if 0 < k then numVal a.data.toList else 0), .int .i64 (if 1 < k then numVal b.data.toList else 0), .int .i64 (if 2 < k then numVal c.data.toList else 0)] 31 (0, 0))
  bel : Below w.heap.size w wr
  oka : 0 < k → numOk a.data.toList = true
  okb : 1 < k → numOk b.data.toList = true
  okc : 2 < k → numOk c.data.toList = true

theorem MoreInv.step0 {w wr w3 : World} {o p x : Nat} {a b c : ByteArray} (h : MoreInv w o p x a b c 0 wr) (hb : Below wr.heap.size wr w3) (hv : numOk a.data.toList = true) (ho : o ≠ x) (hp : p ≠ x) (hx : w.heap.size ≤ x) :
    MoreInv w o p x a b c 1 (w3.setCell ⟨x, 0, none⟩ (.int .i64 (numVal a.data.toList))) :=
  ⟨bother (keep h.out hb) ho _ _, bother (keep h.pcs hb) hp _ _, by simpa using bstore (keep h.xs hb) 0 (.int .i64 (numVal a.data.toList)), bset (bthen h.bel hb (Nat.le_refl _)) hx _ _,
    by first | exact fun _ => hv | exact fun _ => h.oka (by decide), by first | exact fun _ => hv | exact fun _ => h.okb (by decide) | (intro h; omega), by first | exact fun _ => hv | (intro h; omega)⟩
theorem MoreInv.step1 {w wr w3 : World} {o p x : Nat} {a b c : ByteArray} (h : MoreInv w o p x a b c 1 wr) (hb : Below wr.heap.size wr w3) (hv : numOk b.data.toList = true) (ho : o ≠ x) (hp : p ≠ x) (hx : w.heap.size ≤ x) :
    MoreInv w o p x a b c 2 (w3.setCell ⟨x, 1, none⟩ (.int .i64 (numVal b.data.toList))) :=
  ⟨bother (keep h.out hb) ho _ _, bother (keep h.pcs hb) hp _ _, by simpa using bstore (keep h.xs hb) 1 (.int .i64 (numVal b.data.toList)), bset (bthen h.bel hb (Nat.le_refl _)) hx _ _,
    by first | exact fun _ => hv | exact fun _ => h.oka (by decide), by first | exact fun _ => hv | exact fun _ => h.okb (by decide) | (intro h; omega), by first | exact fun _ => hv | (intro h; omega)⟩
theorem MoreInv.step2 {w wr w3 : World} {o p x : Nat} {a b c : ByteArray} (h : MoreInv w o p x a b c 2 wr) (hb : Below wr.heap.size wr w3) (hv : numOk c.data.toList = true) (ho : o ≠ x) (hp : p ≠ x) (hx : w.heap.size ≤ x) :
    MoreInv w o p x a b c 3 (w3.setCell ⟨x, 2, none⟩ (.int .i64 (numVal c.data.toList))) :=
  ⟨bother (keep h.out hb) ho _ _, bother (keep h.pcs hb) hp _ _, by simpa using bstore (keep h.xs hb) 2 (.int .i64 (numVal c.data.toList)), bset (bthen h.bel hb (Nat.le_refl _)) hx _ _,
    by first | exact fun _ => hv | exact fun _ => h.oka (by decide), by first | exact fun _ => hv | exact fun _ => h.okb (by decide) | (intro h; omega), by first | exact fun _ => hv | (intro h; omega)⟩

theorem more_ret (W : World) (o : Nat) (x y z : Value) (h : W.heap[o]? = some (.cells #[x, y, z] 31 (0, 0))) (tmps : Array Value) (ht : tmps.getD 4 undef = .pointer (some ⟨o, 0, none⟩)) :
    (results Tryd.f14 tmps).run Tryd.prog W = .ok (.agg #[x, y, z]) W := by
  have hc := bcell h
  rw [Array.getD_eq_getD_getElem?] at ht
  simp [results, Tryd.results14, go_sem, ht, hc]

set_option maxHeartbeats 1000000 in
theorem more_main (code : Int) (h0 : 0 ≤ code) (h1 : code ≤ 1000000) (h3 : (code / 100 == 3) = false) (s a b c : ByteArray) (hp : pieces s = [a, b, c]) (w : World) (hG : G w) (hs : s.size < 4294967281) (ha : a.size ≤ 281474976710656) (hbs : b.size ≤ 281474976710656) (hcz : c.size ≤ 281474976710656) :
    Calls Tryd.prog 14 #[.int .i64 code, .string s] w (MorePost (more3 (code / 100) a b c) w) := by
  have hcs := cut_take s hs
  go_enter Tryd.func14, Tryd.ntmps14
  go_wp2_with (first | (go_at_call 21; refine (cut_any _ _ _ (hG.after (bal _ _)) hs).mono ?_; rintro e w1 ⟨rfl, hb⟩) | (go_at_call 22; refine (split_three _ _ a b c hp _ (hG.after (bthen (bal _ _) hb (Nat.le_refl _))) hcs (by decide)).mono ?_; rintro e w2 ⟨rfl, rfl⟩; have hk := keep (bnew w _) hb; have hc := bcell (bold hk (.cells #[.string a, .string b, .string c] 9)); have hf := bfree (bold hk (.cells #[.string a, .string b, .string c] 9))))
  go_loopg [32] 3 (fun g i wr => ∃ k : Nat, k + g = 3 ∧ i = .int .i64 k ∧ MoreInv w w.heap.size w1.heap.size (w1.heap.size + 1) a b c k wr)
  case atStart => exact ⟨0, by omega, rfl, bold (bold hk _) _, bold (bnew _ _) _, by simpa using bnew (w1.alloc (.cells #[.string a, .string b, .string c] 9)) (.cells #[.int .i64 0, .int .i64 0, .int .i64 0] 31), bthen (bthen (bthen (bal _ _) hb (Nat.le_refl _)) (bal _ _) (Nat.le_refl _)) (bal _ _) (Nat.le_refl _), by omega, by omega, by omega⟩
  case round =>
    obtain ⟨k, hkg, rfl, hI⟩ := hrel
    have hlt := hb.size
    rw [World.size_alloc] at hlt
    have hne1 : w.heap.size ≠ w1.heap.size + 1 := by omega
    have hne2 : w1.heap.size ≠ w1.heap.size + 1 := by omega
    have hle : w.heap.size ≤ w1.heap.size + 1 := by omega
    have hpc := bcell hI.pcs
    clear hk hc hf hlt
    cases gk with
    | zero =>
      obtain rfl : k = 3 := by omega
      have hxc := bcell hI.xs
      simp only [Nat.lt_add_one, Nat.reduceLT, ↓reduceIte] at hxc
      have hoc := bcell hI.out
      have hof := bfree hI.out
      cases hv : (numVal a.data.toList == code / 100)
      · go_wp2
        refine bodyPost_ret (v := .agg #[.int .i64 0, .int .i64 0, .int .i64 0]) (by simp [results, Tryd.results14, go_sem, hoc]) rfl ⟨?_, bset (bset (bset hI.bel (Nat.le_refl _) _ _) (Nat.le_refl _) _ _) (Nat.le_refl _) _ _⟩
        rw [show more3 (code / 100) a b c = (0, 0, 0) from by unfold more3; rw [if_neg]; rintro ⟨_, _, _, e⟩; rw [e] at hv; simp at hv]
      · go_wp2
        have hfin := bstore (bstore (bstore (bstore (bstore (bstore hI.out 0 (.int .i64 (numVal a.data.toList))) 1 (.int .i64 (numVal b.data.toList))) 2 (.int .i64 (numVal c.data.toList))) 0 (.int .i64 (numVal a.data.toList))) 1 (.int .i64 (numVal b.data.toList))) 2 (.int .i64 (numVal c.data.toList))
        simp only [List.setIfInBounds_toArray, List.set_cons_zero, List.set_cons_succ] at hfin
        have hB : Below w.heap.size w ((((((wr.setCell ⟨w.heap.size, 0, none⟩ (.int .i64 (numVal a.data.toList))).setCell ⟨w.heap.size, 1, none⟩ (.int .i64 (numVal b.data.toList))).setCell ⟨w.heap.size, 2, none⟩ (.int .i64 (numVal c.data.toList))).setCell ⟨w.heap.size, 0, none⟩ (.int .i64 (numVal a.data.toList))).setCell ⟨w.heap.size, 1, none⟩ (.int .i64 (numVal b.data.toList))).setCell ⟨w.heap.size, 2, none⟩ (.int .i64 (numVal c.data.toList))) := by
          exact bset (bset (bset (bset (bset (bset hI.bel (Nat.le_refl _) _ _) (Nat.le_refl _) _ _) (Nat.le_refl _) _ _) (Nat.le_refl _) _ _) (Nat.le_refl _) _ _) (Nat.le_refl _) _ _
        have hm : more3 (code / 100) a b c = (numVal a.data.toList, numVal b.data.toList, numVal c.data.toList) := by
          unfold more3; rw [if_pos]; exact ⟨hI.oka (by omega), hI.okb (by omega), hI.okc (by omega), by simpa using hv⟩
        exact bodyPost_ret (more_ret _ _ _ _ _ hfin _ rfl) rfl ⟨by rw [hm], hB⟩
    | succ g =>
      obtain rfl | rfl | rfl : k = 0 ∨ k = 1 ∨ k = 2 := by omega
      · cases hv : numOk a.data.toList
        · go_wp2_with (go_at_call 23; refine (number_no a hv _ (hG.after hI.bel) ha).mono ?_; rintro e w3 ⟨⟨n, rfl⟩, hb3⟩; have hc3 := bcell (keep hI.out hb3); have hf3 := bfree (keep hI.out hb3))
          refine bodyPost_ret (v := .agg #[.int .i64 0, .int .i64 0, .int .i64 0]) (by simp [results, Tryd.results14, go_sem, hc3]) rfl ⟨?_, bset (bset (bset (bthen hI.bel hb3 (Nat.le_refl _)) (Nat.le_refl _) _ _) (Nat.le_refl _) _ _) (Nat.le_refl _) _ _⟩
          rw [show more3 (code / 100) a b c = (0, 0, 0) from by unfold more3; rw [if_neg]; simp [hv]]
        · go_wp2_with (go_at_call 23; refine (number_yes a hv _ (hG.after hI.bel) ha).mono ?_; rintro e w3 ⟨rfl, hb3⟩; have hc3 := bcell (keep hI.xs hb3); have hf3 := bfree (keep hI.xs hb3))
          go_roundg 2
          case measure => omega
          case rel => exact ⟨1, by omega, by go_num, hI.step0 hb3 hv hne1 hne2 hle⟩
      · cases hv : numOk b.data.toList
        · go_wp2_with (go_at_call 23; refine (number_no b hv _ (hG.after hI.bel) hbs).mono ?_; rintro e w3 ⟨⟨n, rfl⟩, hb3⟩; have hc3 := bcell (keep hI.out hb3); have hf3 := bfree (keep hI.out hb3))
          refine bodyPost_ret (v := .agg #[.int .i64 0, .int .i64 0, .int .i64 0]) (by simp [results, Tryd.results14, go_sem, hc3]) rfl ⟨?_, bset (bset (bset (bthen hI.bel hb3 (Nat.le_refl _)) (Nat.le_refl _) _ _) (Nat.le_refl _) _ _) (Nat.le_refl _) _ _⟩
          rw [show more3 (code / 100) a b c = (0, 0, 0) from by unfold more3; rw [if_neg]; simp [hv]]
        · go_wp2_with (go_at_call 23; refine (number_yes b hv _ (hG.after hI.bel) hbs).mono ?_; rintro e w3 ⟨rfl, hb3⟩; have hc3 := bcell (keep hI.xs hb3); have hf3 := bfree (keep hI.xs hb3))
          go_roundg 1
          case measure => omega
          case rel => exact ⟨2, by omega, by go_num, hI.step1 hb3 hv hne1 hne2 hle⟩
      · cases hv : numOk c.data.toList
        · go_wp2_with (go_at_call 23; refine (number_no c hv _ (hG.after hI.bel) hcz).mono ?_; rintro e w3 ⟨⟨n, rfl⟩, hb3⟩; have hc3 := bcell (keep hI.out hb3); have hf3 := bfree (keep hI.out hb3))
          refine bodyPost_ret (v := .agg #[.int .i64 0, .int .i64 0, .int .i64 0]) (by simp [results, Tryd.results14, go_sem, hc3]) rfl ⟨?_, bset (bset (bset (bthen hI.bel hb3 (Nat.le_refl _)) (Nat.le_refl _) _ _) (Nat.le_refl _) _ _) (Nat.le_refl _) _ _⟩
          rw [show more3 (code / 100) a b c = (0, 0, 0) from by unfold more3; rw [if_neg]; simp [hv]]
        · go_wp2_with (go_at_call 23; refine (number_yes c hv _ (hG.after hI.bel) hcz).mono ?_; rintro e w3 ⟨rfl, hb3⟩; have hc3 := bcell (keep hI.xs hb3); have hf3 := bfree (keep hI.xs hb3))
          go_roundg 0
          case measure => omega
          case rel => exact ⟨3, by omega, by go_num, hI.step2 hb3 hv hne1 hne2 hle⟩


theorem splitB_sizes (sep : ByteArray) (n : Nat) : ∀ (k : Nat) (s : ByteArray), s.size ≤ n → ∀ p ∈ Lib.splitB sep 0 k s, p.size ≤ n := by
  intro k
  induction k with
  | zero => intro s hs p hp; simp [Lib.splitB] at hp; subst hp; exact hs
  | succ k ih =>
    intro s hs p hp
    unfold Lib.splitB at hp
    split at hp
    · simp at hp; subst hp; exact hs
    · rcases List.mem_cons.1 hp with rfl | hp
      · rw [ByteArray.size_extract]; omega
      · exact ih _ (by rw [ByteArray.size_extract]; omega) p hp
theorem pieces_size (s : ByteArray) (hs : s.size < 4294967281) : ∀ p ∈ pieces s, p.size ≤ 281474976710656 := by
  have := cut_take s hs
  exact splitB_sizes _ _ _ _ (by omega)
theorem more_any (code : Int) (h0 : 0 ≤ code) (h1 : code ≤ 1000000) (s : ByteArray) (w : World) (hG : G w) (hs : s.size < 4294967281) :
    Calls Tryd.prog 14 #[.int .i64 code, .string s] w (MorePost (moreF code s) w) := by
  rcases pieces_cases s with ⟨a, b, c, hp⟩ | ⟨hne, hm⟩
  · have hz := pieces_size s hs
    rw [hp] at hz
    have e : moreF code s = if code / 100 = 3 then (0, 0, 0) else more3 (code / 100) a b c := by unfold moreF; rw [hp]
    by_cases h3 : code / 100 = 3
    · rw [e, if_pos h3]
      exact more_300 code h0 h1 (beq_iff_eq.2 h3) s a b c hp w hG hs
    · rw [e, if_neg h3]
      exact more_main code h0 h1 (beq_eq_false_iff_ne.2 h3) s a b c hp w hG hs (hz a (by simp)) (hz b (by simp)) (hz c (by simp))
  · rw [hm code]
    exact more_other code h0 h1 s hne w hG hs
end Go.Proofs.YtmdcedbnlbcdjaaDoor

/- The library's IndexRune and IndexAny where a text bears bytes beyond ASCII. -/
import Derived.Test.YtmdcedbnlbcdjaaDoorMG
import Derived.WalkSpells
import Derived.WalkLawsBesides
import Derived.Lib.Hide
import Derived.Deep.LoopGhost
import Derived.Deep.QuietTactic
import Derived.BigQuiet
import Derived.Laws.RangeAny
import Derived.LoopN
import Derived.Lib.OthersKept
import Derived.Lib.IndexAny
import Derived.WalkMore
import Derived.Laws.RangeString
namespace Go.Proofs.YtmdcedbnlbcdjaaDoor
open Go Go.RowKit Go.My Go.Shelf

set_option maxRecDepth 100000 in
/-- RuneError: not among two ASCII signs. -/
theorem indexRune_error (x y : UInt8) (hx : x.toNat < 128) (hy : y.toNat < 128) (w : World) :
    Calls Tryd.prog 27 #[.string ⟨#[x, y]⟩, .int .i32 65533] w fun e w' => e = .returned (.int .i64 (-1)) ∧ Below w.heap.size w w' := by
  have n0 : ∀ ty, (Instr.next (.pointer (some ⟨w.heap.size, 0, none⟩)) true ty).run Tryd.prog (w.iter ⟨#[x, y]⟩ 0) = .ok (.tuple #[.bool true, .int .i64 0, .int .i32 x.toNat]) (w.iter ⟨#[x, y]⟩ 1) := fun ty => run_next_ascii (P := Tryd.prog) w ⟨#[x, y]⟩ 0 ty (show 0 < 2 by decide) hx
  have n1 : ∀ ty, (Instr.next (.pointer (some ⟨w.heap.size, 0, none⟩)) true ty).run Tryd.prog (w.iter ⟨#[x, y]⟩ 1) = .ok (.tuple #[.bool true, .int .i64 1, .int .i32 y.toNat]) (w.iter ⟨#[x, y]⟩ 2) := fun ty => run_next_ascii (P := Tryd.prog) w ⟨#[x, y]⟩ 1 ty (show 1 < 2 by decide) hy
  have n2 : ∀ ty, (Instr.next (.pointer (some ⟨w.heap.size, 0, none⟩)) true ty).run Tryd.prog (w.iter ⟨#[x, y]⟩ 2) = .ok (.tuple #[.bool false]) (w.iter ⟨#[x, y]⟩ 2) := fun ty => run_next_end (P := Tryd.prog) w ⟨#[x, y]⟩ 2 ty (show ¬ 2 < 2 by decide)
  have e0 : ((x.toNat : Int) == 65533) = false := beq_eq_false_iff_ne.2 (by omega)
  have e1 : ((y.toNat : Int) == 65533) = false := beq_eq_false_iff_ne.2 (by omega)
  go_enter Tryd.func27, Tryd.ntmps27
  go_wp2_with fail
  refine wp_loop_rounds 3 ?_
  rw [rounds_succ]
  go_wp2_with fail
  rw [rounds_succ]
  go_wp2_with fail
  rw [rounds_succ]
  go_wp2_with fail
  go_ret
  exact ⟨rfl, ⟨rfl, rfl, rfl, by simp [World.iter], fun i hi => by simp only [World.iter, World.alloc]; rw [Array.getElem?_push, if_neg (by omega)]⟩⟩

theorem encode_high (r : Int) (h0 : 128 ≤ r) (h1 : r ≤ 2147483647) : (∃ p q : UInt8, Utf8.encode r = ⟨#[p, q]⟩ ∧ 128 ≤ q.toNat) ∨ (3 ≤ (Utf8.encode r).size ∧ (Utf8.encode r).size ≤ 4) := by
  unfold Utf8.encode
  generalize hc : (if Utf8.valid r = true then r.toNat else Utf8.runeError) = c
  have hc2 : 128 ≤ c := by
    rw [← hc]; split
    · omega
    · decide
  dsimp only
  rw [if_neg (by omega)]
  split
  · refine .inl ⟨_, _, rfl, ?_⟩
    rw [UInt8.toNat_ofNat']; omega
  · right
    split
    · exact ⟨Nat.le_refl 3, (by decide : 3 ≤ 4)⟩
    · exact ⟨(by decide : 3 ≤ 4), Nat.le_refl 4⟩

set_option maxRecDepth 100000 in
theorem indexRune_high4 (x y : UInt8) (hx : x.toNat < 128) (hy : y.toNat < 128) (r : Int) (h0 : 128 ≤ r) (h1 : r ≤ 2147483647) (hne : (r == 65533) = false) (hv : Lib.validRune r = true) (h3 : 3 ≤ (Utf8.encode r).size) (h4 : (Utf8.encode r).size ≤ 4) (w : World) :
    Calls Tryd.prog 27 #[.string ⟨#[x, y]⟩, .int .i32 r] w fun e w' => e = .returned (.int .i64 (-1)) ∧ Below w.heap.size w w' := by
  have hd : decide (r < 128) = false := decide_eq_false (by omega)
  have hsz : (⟨#[x, y]⟩ : ByteArray).size = 2 := rfl
  go_enter Tryd.func27, Tryd.ntmps27
  go_wp2_with (go_at_call 41; refine (Tryd.utf8_ValidRune _ _).mono ?_; rintro e w' ⟨rfl, rfl⟩)
  go_step3
  go_wp2_with fail
  refine wp_loop_rounds 1 ?_
  rw [rounds_succ]
  go_wp2_with fail
  rw [Exit.noGoto_ret]
  go_ret
  exact ⟨rfl, Below.refl _ _⟩

set_option maxRecDepth 100000 in
theorem indexRune_high2 (x y p q : UInt8) (hx : x.toNat < 128) (hy : y.toNat < 128) (r : Int) (h0 : 128 ≤ r) (h1 : r ≤ 2147483647) (hne : (r == 65533) = false) (hv : Lib.validRune r = true) (he : Utf8.encode r = ⟨#[p, q]⟩) (hq : 128 ≤ q.toNat) (w : World) :
    Calls Tryd.prog 27 #[.string ⟨#[x, y]⟩, .int .i32 r] w fun e w' => e = .returned (.int .i64 (-1)) ∧ Below w.heap.size w w' := by
  have hyq : ((((⟨#[x, y]⟩ : ByteArray)[1]'(show 1 < 2 by decide)).toNat : Int) != (((⟨#[p, q]⟩ : ByteArray)[1]'(show 1 < 2 by decide)).toNat : Int)) = true := by
    show ((y.toNat : Int) != (q.toNat : Int)) = true
    rw [bne_iff_ne]; omega
  have hd : decide (r < 128) = false := decide_eq_false (by omega)
  have hsz : (⟨#[x, y]⟩ : ByteArray).size = 2 := rfl
  go_enter Tryd.func27, Tryd.ntmps27
  go_wp2_with (go_at_call 41; refine (Tryd.utf8_ValidRune _ _).mono ?_; rintro e w' ⟨rfl, rfl⟩)
  go_step3
  go_wp2_with fail
  refine wp_loop_rounds 1 ?_
  rw [rounds_succ]
  go_wp2_with fail
  go_step3
  go_wp2_with fail
  go_quiet (fail)
  go_wp2_with fail
  go_quiet ((go_at_call 40; exact quiet_add_same (Tryd.strings_IndexByte _ _ _)))
  go_wp2_with fail
  rw [Exit.noGoto_ret]
  simp only [Exit.inBlock, Exit.then]
  rw [Exit.noGoto_ret]
  go_ret
  exact ⟨rfl, ⟨rfl, rfl, rfl, Nat.le_refl _, fun _ _ => rfl⟩⟩

set_option maxRecDepth 100000 in
theorem indexRune_bad (x y : UInt8) (r : Int) (h0 : 128 ≤ r) (h1 : r ≤ 2147483647) (hne : (r == 65533) = false) (hv : Lib.validRune r = false) (w : World) :
    Calls Tryd.prog 27 #[.string ⟨#[x, y]⟩, .int .i32 r] w fun e w' => e = .returned (.int .i64 (-1)) ∧ Below w.heap.size w w' := by
  have hd : decide (r < 128) = false := decide_eq_false (by omega)
  go_enter Tryd.func27, Tryd.ntmps27
  go_wp2_with (go_at_call 41; refine (Tryd.utf8_ValidRune _ _).mono ?_; rintro e w' ⟨rfl, rfl⟩)
  go_ret
  exact ⟨rfl, Below.refl _ _⟩

theorem indexRune_none (x y : UInt8) (hx : x.toNat < 128) (hy : y.toNat < 128) (r : Int) (h0 : 128 ≤ r) (h1 : r ≤ 2147483647) (w : World) :
    Calls Tryd.prog 27 #[.string ⟨#[x, y]⟩, .int .i32 r] w fun e w' => e = .returned (.int .i64 (-1)) ∧ Below w.heap.size w w' := by
  by_cases he : r = 65533
  · subst he; exact indexRune_error x y hx hy w
  · have hne : (r == 65533) = false := beq_eq_false_iff_ne.2 he
    cases hv : Lib.validRune r
    · exact indexRune_bad x y r h0 h1 hne hv w
    · rcases encode_high r h0 h1 with ⟨p, q, hp, hq⟩ | ⟨h3, h4⟩
      · exact indexRune_high2 x y p q hx hy r h0 h1 hne hv hp hq w
      · exact indexRune_high4 x y hx hy r h0 h1 hne hv h3 h4 w


/-! ### IndexAny, ContainsAny at two ASCII signs, every text -/
theorem get_list (s : ByteArray) (i : Nat) (b : UInt8) (h : s.data.toList[i]? = some b) : s.get! i = b := by
  have hlt : i < s.data.toList.length := (List.getElem?_eq_some_iff.1 h).1
  have hlt' : i < s.size := by rw [Lib.size_eq]; exact hlt
  have := Lib.data_getElem? s i hlt'
  rw [this] at h
  injection h with h
  rw [← h]
  exact get_at s i hlt'
theorem decode_cont (s : ByteArray) (pos : Nat) (h : pos < s.size) (ha : 128 ≤ (s[pos]'h).toNat) : ∀ j, j < (Utf8.decode s pos).2 → ∀ b, s.data.toList[pos + j]? = some b → 128 ≤ b.toNat := by
  intro j hj b hb
  have hg := get_list s (pos + j) b hb
  have h0 : s.get! (pos + 0) = s[pos]'h := get_at s pos h
  rcases Nat.eq_zero_or_pos j with rfl | hpos
  · rw [h0] at hg; rw [← hg]; exact ha
  · unfold Utf8.decode at hj
    dsimp only at hj
    rw [if_neg (show ¬ (s.get! (pos + 0)).toNat < 128 by rw [h0]; omega)] at hj
    rw [← hg]
    split at hj
    · rename_i hc
      split at hj
      · have : j = 1 := by simp only [] at hj; omega
        subst this
        simp only [Bool.and_eq_true, beq_iff_eq, decide_eq_true_eq] at hc
        omega
      · simp only [] at hj; omega
    · split at hj
      · rename_i hc
        simp only [Bool.and_eq_true, beq_iff_eq, decide_eq_true_eq] at hc
        split at hj
        · have : j = 1 ∨ j = 2 := by simp only [] at hj; omega
          rcases this with rfl | rfl <;> omega
        · simp only [] at hj; omega
      · split at hj
        · rename_i hc
          simp only [Bool.and_eq_true, beq_iff_eq, decide_eq_true_eq] at hc
          split at hj
          · have : j = 1 ∨ j = 2 ∨ j = 3 := by simp only [] at hj; omega
            rcases this with rfl | rfl | rfl <;> omega
          · simp only [] at hj; omega
        · simp only [] at hj; omega

/-- A sign beyond ASCII is passed over whole. -/
theorem noAny_decode (s : ByteArray) (x y : UInt8) (hx : x.toNat < 128) (hy : y.toNat < 128) (i : Nat) (h : i < s.size) (ha : 128 ≤ (s[i]'h).toNat) (hn : Lib.NoAny s.data.toList [x, y] i) :
    Lib.NoAny s.data.toList [x, y] (i + (Utf8.decode s i).2) := by
  intro j b hj hb
  rcases Nat.lt_or_ge j i with hl | hl
  · exact hn j b hl hb
  · obtain ⟨m, rfl⟩ : ∃ m, j = i + m := ⟨j - i, by omega⟩
    have := decode_cont s i h ha m (by omega) b hb
    simp only [List.contains_cons, List.contains_nil, Bool.or_false, Bool.or_eq_false_iff, beq_eq_false_iff_ne]
    exact ⟨fun e => by rw [e] at this; omega, fun e => by rw [e] at this; omega⟩

theorem biter {n : Nat} {w w' : World} (h : Below n w w') (k : Nat) (hk : n ≤ k) (s : ByteArray) (p : Nat) : Below n w (w'.iterAt k s p) :=
  h.trans ⟨rfl, rfl, rfl, by rw [Lib.iterAt_size]; exact Nat.le_refl _, fun i hi => Lib.iterAt_other _ _ _ _ _ (by omega)⟩

set_option maxHeartbeats 4000000 in
set_option maxRecDepth 100000 in
/-- A text of at most 8 bytes. -/
theorem indexAny_short (s : ByteArray) (x y : UInt8) (hx : x.toNat < 128) (hy : y.toNat < 128) (h8 : s.size ≤ 8) (w : World) :
    Calls Tryd.prog 20 #[.string s, .string ⟨#[x, y]⟩] w fun e w' => e = .returned (.int .i64 (Lib.indexAny s.data.toList [x, y])) ∧ Below w.heap.size w w' := by
  have h8z : decide ((8 : Int) < (s.size : Int)) = false := decide_eq_false (by omega)
  go_enter Tryd.func20, Tryd.ntmps20
  go_wp2_with (go_at_call 28; refine (Tryd.strings_shouldUseASCIISet _ _).mono ?_; rintro e w' ⟨rfl, hw⟩; rw [hw, h8z])
  go_loopg [9, 10] s.size (fun g _ _ wx => ∃ i : Nat, s.size ≤ i + g ∧ wx.heap[w.heap.size]? = some (.stringIter s i) ∧ Below w.heap.size w wx ∧ Lib.NoAny s.data.toList [x, y] i)
  case atStart => exact ⟨0, by omega, bnew _ _, bal _ _, Lib.NoAny.zero _ _⟩
  case round =>
    obtain ⟨i, hig, hit, hbel, hno⟩ := hrel
    have HN := Lib.hid hno
    have HI := Lib.hid hit
    clear hno
    by_cases hi : i < s.size
    · obtain ⟨g, rfl⟩ : ∃ g, gk = g + 1 := ⟨gk - 1, by omega⟩
      by_cases ha : (s[i]'hi).toNat < 128
      · have hnx := fun ty => Lib.run_next_ascii_at (P := Tryd.prog) wr w.heap.size s i ty hit hi ha
        obtain ⟨c, hc⟩ : ∃ c : UInt8, s[i]'hi = c := ⟨_, rfl⟩
        have hcl : s.data.toList[i]? = some c := by rw [← hc]; exact Lib.data_getElem? s i hi
        rw [hc] at hnx ha
        have hback : ((c.toNat : Int)).toNat.toUInt8 = c := by simp
        have HC := Lib.hid hcl
        have hcon := Lib.contains_iff_indexByte [x, y] c
        clear hcl hc hit
        cases hin : [x, y].contains c
        · rw [hin] at hcon
          have hlt : ¬ ((0 : Int) ≤ Lib.indexByte [x, y] c) := of_decide_eq_false hcon.symm
          have HH := Lib.hid hin
          clear hcon hin
          go_wp2_with (go_at_call 27; refine (Tryd.strings_IndexRune_ascii _ _ _ (by omega) (by omega)).mono ?_; rintro e w' ⟨rfl, hw⟩; rw [hw, hback])
          go_roundg g
          case measure => omega
          case rel => exact ⟨i + 1, by omega, Lib.iterAt_heap _ _ _ _ _ HI.out, biter hbel _ (Nat.le_refl _) _ _, HN.out.succ HC.out HH.out⟩
        · rw [hin] at hcon
          have hge : (0 : Int) ≤ Lib.indexByte [x, y] c := of_decide_eq_true hcon.symm
          have HH := Lib.hid hin
          clear hcon hin
          go_wp2_with (go_at_call 27; refine (Tryd.strings_IndexRune_ascii _ _ _ (by omega) (by omega)).mono ?_; rintro e w' ⟨rfl, hw⟩; rw [hw, hback])
          go_ret
          exact ⟨by rw [Lib.indexAny_hit HN.out HC.out HH.out]; rfl, biter hbel _ (Nat.le_refl _) _ _⟩
      · have hnx := fun ty => Lib.run_next_any_at (P := Tryd.prog) wr w.heap.size s i ty hit hi
        have hd := decode_high s i hi (by omega)
        have hd2 := decode_le s i
        have hno2 := noAny_decode s x y hx hy i hi (by omega) HN.out
        generalize hdec : Utf8.decode s i = d at hnx hd hd2 hno2
        have HD := Lib.hid hdec
        have HN2 := Lib.hid hno2
        clear hdec hno2 hit ha
        go_wp2_with (go_at_call 27; refine (indexRune_none x y hx hy _ (by omega) (by omega) _).mono ?_; rintro e w' ⟨rfl, hb⟩)
        go_roundg g
        case measure => omega
        case rel => exact ⟨i + d.2, by omega, keep (Lib.iterAt_heap _ _ _ _ _ HI.out) hb, bthen (biter hbel _ (Nat.le_refl _) _ _) hb (Nat.le_refl _), HN2.out⟩
    · have hnx := fun ty => Lib.run_next_end_at (P := Tryd.prog) wr w.heap.size s i ty hit hi
      have hlen : s.data.toList.length ≤ i := by rw [← Lib.size_eq]; omega
      have HL := Lib.hid hlen
      clear hit hlen
      go_wp2_with fail
      go_ret
      exact ⟨by rw [Lib.indexAny_none (fun j b hj hb => HN.out j b (Nat.lt_of_lt_of_le hj HL.out) hb)]; rfl, hbel⟩

theorem zero_set (w : World) : (zeroValue 65).run Tryd.prog w = .ok (.agg (Array.replicate 256 (.bool false))) w := by
  kernel_rfl
/-- strings.IndexAny, every text, two ASCII signs. -/
theorem indexAny_two (s : ByteArray) (x y : UInt8) (hx : x.toNat < 128) (hy : y.toNat < 128) (hs : s.size < 4294967281) (w : World) :
    Calls Tryd.prog 20 #[.string s, .string ⟨#[x, y]⟩] w fun e w' => e = .returned (.int .i64 (Lib.indexAny s.data.toList [x, y])) ∧ Below w.heap.size w w' := by
  rcases Nat.lt_or_ge 8 s.size with h | h
  · refine (Tryd.strings_IndexAny_long zero_set s ⟨#[x, y]⟩ w (Nat.le_refl 2) h hs (show 2 < 4294967281 by decide) ?_).mono ?_
    · intro j b hb
      have : b ∈ [x, y] := List.mem_of_getElem? hb
      simp only [List.mem_cons, List.not_mem_nil, or_false] at this
      rcases this with rfl | rfl <;> assumption
    · rintro e w' ⟨rfl, rfl⟩
      exact ⟨rfl, (bal _ _).trans ((bal _ _).mono (by simp))⟩
  · exact indexAny_short s x y hx hy h w
theorem containsAny_two (s : ByteArray) (x y : UInt8) (hx : x.toNat < 128) (hy : y.toNat < 128) (hs : s.size < 4294967281) (w : World) :
    Calls Tryd.prog 13 #[.string s, .string ⟨#[x, y]⟩] w fun e w' => e = .returned (.bool (Lib.containsAny s.data.toList [x, y])) ∧ Below w.heap.size w w' := by
  go_enter Tryd.func13, Tryd.ntmps13
  go_wp2_with (go_at_call 20; refine (indexAny_two s x y hx hy hs _).mono ?_; rintro e w' ⟨rfl, hb⟩)
  go_ret
  exact ⟨rfl, hb⟩
end Go.Proofs.YtmdcedbnlbcdjaaDoor

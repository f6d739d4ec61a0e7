/- Write: an answer's bytes, where it may be. -/
import Derived.Test.YtmdcedbnlbcdjaaDoorMReplyC
import Derived.Lib.AppendStr
import Derived.OwnWalk
import Derived.Lib.ItoaLen
namespace Go.Proofs.YtmdcedbnlbcdjaaDoor
open Go Go.RowKit Go.My Go.Shelf

theorem infoU8 : (Tryd.prog.info? 5).map (fun i => (i.zero, i.size, i.bytes)) = some (some (.int .u8 0), 1, 1) := by kernel_rfl
/-- Bytes of the call's own. -/
def Own (n : Nat) (w : World) (v : Value) (l : Str) : Prop := w.ownsRow n 5 1 v l.length (l.map u8v)
theorem strCells_u8 (s : ByteArray) : Lib.strCells s = s.data.toList.map u8v := rfl
/-- A line as it is written. -/
def lineB (k : Int) (last : Bool) (s : ByteArray) : Str := Lib.itoa k ++ ((if last then 32 else 45) :: (s.data.toList ++ [13, 10]))
/-- The first lines as they are written. -/
def linesB (k : Int) (ls : List ByteArray) : Nat → Str
  | 0 => []
  | i + 1 => linesB k ls i ++ lineB k (i + 1 == ls.length) (ls.getD i ⟨#[]⟩)
def writeF (x : Rep) : Str := linesB x.code x.lines x.lines.length
def WritePost (x : Rep) (w : World) (e : Ending) (w' : World) : Prop := ∃ v, e = .returned (.tuple #[v, .int .i64 0]) ∧ Own w.heap.size w' v (writeF x) ∧ Below w.heap.size w w'

theorem linesB_len (k : Int) (hk : (Lib.itoa k).length ≤ 21) (ls : List ByteArray) (hf : ∀ s ∈ ls, s.size ≤ 506) : ∀ i, i ≤ ls.length → (linesB k ls i).length ≤ 600 * i := by
  intro i
  induction i with
  | zero => intro _; simp [linesB]
  | succ i ih =>
    intro hi
    have := ih (by omega)
    have hs : (ls.getD i ⟨#[]⟩).data.toList.length ≤ 506 := by
      rw [List.getD_eq_getElem?_getD, List.getElem?_eq_getElem (by omega), Option.getD_some, ← Lib.size_eq]
      exact hf _ (List.getElem_mem _)
    simp only [linesB, lineB, List.length_append, List.length_cons, List.length_nil]
    omega

theorem own_line {B : Nat} {w : World} {v : Value} {k : Int} {ls : List ByteArray} {i : Nat} {t s : ByteArray} (h : w.ownsRow B 5 1 v ((linesB k ls i).length + t.size) ((linesB k ls i).map u8v ++ Lib.strCells t))
    (hs : ls.getD i ⟨#[]⟩ = s) (ht : t.data.toList = lineB k (i + 1 == ls.length) s) : Own B w v (linesB k ls (i + 1)) := by
  unfold Own linesB
  rw [hs, List.length_append, List.map_append, ← ht]
  rw [strCells_u8, Lib.size_eq] at h
  exact h
theorem line_bytes {k : Int} {num s sign : ByteArray} {b : Bool} (hn : (⟨(Lib.itoa k).toArray⟩ : ByteArray) = num) (hs : sign = if b then ⟨#[32]⟩ else ⟨#[45]⟩) : (num ++ sign ++ s ++ ⟨#[13, 10]⟩).data.toList = lineB k b s := by
  subst hn; subst hs
  unfold lineB
  cases b <;> simp

set_option maxHeartbeats 2000000 in
theorem write_yes (x : Rep) (b o c : Nat) (w : World) (hG : G w) (hx : MayF x) (hR : Rd w.heap.size w (some ⟨b, o, none⟩) (strs x.lines)) :
    Calls Tryd.prog 6 #[.agg (repC x.code (some ⟨b, o, none⟩) x.lines.length c x.more)] w (WritePost x w) := by
  have hmay := may_yes x b o c (w.alloc (.cells (repC x.code (some ⟨b, o, none⟩) x.lines.length c x.more) 33)) (hG.after (bal _ _)) hx ((hR.below (bal _ _)).mono (by simp))
  have HMay := Lib.hid hmay
  clear hmay
  obtain ⟨k', ls, m⟩ := x
  obtain ⟨h1, h2, h3, h4, hf, hm⟩ := hx
  simp only [] at h1 h2 h3 h4 hf hm hR HMay ⊢
  obtain ⟨_, _, he, hlt, hcell⟩ := hR.some (by simp [strs]; omega)
  injection he with he
  injection he with he1 he2
  subst he1; subst he2
  unfold repC at HMay ⊢
  have HF := Lib.hid hf
  have HC := Lib.hid hcell
  clear hf hm hR hcell
  go_enter Tryd.func6, Tryd.ntmps6
  go_wp2_with (go_at_call 7; refine HMay.out.mono ?_; rintro e w1 ⟨rfl, hb⟩; have hx := bcell (keep (bnew w _) hb))
  have HX := Lib.hid hx
  have HK := Lib.hid (keep (bnew w _) hb)
  clear hx
  obtain ⟨i0, hi, hz0, hz1, hz2⟩ := info_parts infoU8
  have hg1 := hG.after (bthen (bal w _) hb (Nat.le_refl _))
  obtain ⟨num, hnum⟩ : ∃ num : ByteArray, (⟨(Lib.itoa k').toArray⟩ : ByteArray) = num := ⟨_, rfl⟩
  have hnl : num.size ≤ 21 := by rw [← hnum]; exact Lib.itoa_length_le k' (by omega) (by omega)
  have HN := Lib.hid hnum
  clear hnum
  go_loopg [4, 14] ls.length (fun g v i wr => ∃ k : Nat, k + g = ls.length ∧ i = .int .i64 k ∧ Own (w.heap.size + 1) wr v (linesB k' ls k) ∧ Below w.heap.size w wr ∧ wr.heap[w.heap.size]? = some (.cells #[.int .i64 k', .slice (some ⟨b, o, none⟩) ls.length c, .int .i64 m.1, .int .i64 m.2.1, .int .i64 m.2.2] 33 (0, 0)))
  case atStart => exact ⟨0, by omega, rfl, World.ownsRow_nil _ _ _ _, bthen (bal _ _) hb (Nat.le_refl _), HK.out⟩
  case round =>
    obtain ⟨k, hkg, rfl, hown, hbel, hblk⟩ := hrel
    have HB := Lib.hid hblk
    have HO := Lib.hid hown
    have hx := bcell hblk
    clear hblk hown
    cases gk with
    | zero =>
      obtain rfl : k = ls.length := by omega
      have hn2 : decide ((ls.length : Int) < (ls.length : Int)) = false := decide_eq_false (by omega)
      go_wp2_with fail
      go_ret2
      exact ⟨_, rfl, own_base HO.out (by omega), hbel⟩
    | succ g =>
      have hk : k < ls.length := by omega
      have hlk : decide ((k : Int) < (ls.length : Int)) = true := decide_eq_true (by omega)
      have hcl := (hbel.cell (p := ⟨b, o + k, none⟩) hlt).trans (HC.out _ _ (strs_at hk))
      have hfl := HF.out ls[k] (List.getElem_mem hk)
      have hgd : ls.getD k ⟨#[]⟩ = ls[k] := by simp [List.getD_eq_getElem?_getD, hk]
      have HGD := Lib.hid hgd
      clear hgd
      generalize ls[k] = s at hcl hfl HGD
      unfold fine at hfl
      have hsz : s.size ≤ 506 := by simpa using (Bool.and_eq_true_iff.1 hfl).1
      clear hfl
      have hll := linesB_len k' (by rw [show (Lib.itoa k').length = num.size from by rw [← HN.out]; simp [ByteArray.size]]; exact hnl) ls (fun s hs => by have := HF.out s hs; unfold fine at this; simpa using (Bool.and_eq_true_iff.1 this).1) k (by omega)
      have hs32 : (num ++ (⟨#[32]⟩ : ByteArray) ++ s ++ ⟨#[13, 10]⟩).size ≤ 600 := by simp only [ByteArray.size_append]; have e1 : (⟨#[32]⟩ : ByteArray).size = 1 := rfl; have e2 : (⟨#[13, 10]⟩ : ByteArray).size = 2 := rfl; omega
      have hs45 : (num ++ (⟨#[45]⟩ : ByteArray) ++ s ++ ⟨#[13, 10]⟩).size ≤ 600 := by simp only [ByteArray.size_append]; have e1 : (⟨#[45]⟩ : ByteArray).size = 1 := rfl; have e2 : (⟨#[13, 10]⟩ : ByteArray).size = 2 := rfl; omega
      have hsz1 := hbel.size
      have hsz2 := blt HB.out
      by_cases hlast : k + 1 = ls.length
      · have hl : ((k : Int) + 1 == (ls.length : Int)) = true := beq_iff_eq.2 (by omega)
        go_wp2_with (first
          | (go_at_call 12; refine (itoa_any k' _ (hG.after hbel) (by omega) (by omega)).mono ?_; rintro e w2 ⟨rfl, hb2⟩; rw [HN.out]; have HO2 := Lib.hid (okeep HO.out hb2); have hsz3 := hb2.size)
          | (at_builtin; refine Lib.wpList_append_own_string _ rfl _ _ 22 9 rfl (w.heap.size + 1) 5 i0 Tryd.underlying22 Tryd.underlying9 hi hz0 hz1 hz2 _ _ _ rfl HO2.out _ rfl (by simp only [maxLen]; omega) (by omega) (by omega) ?_; intro v' w3 hown3 hgrow3 _))
        go_roundg g
        case measure => omega
        case rel => exact ⟨k + 1, by omega, by go_num, own_line hown3 HGD.out (line_bytes HN.out (by rw [show (k + 1 == ls.length) = true from by simpa using hlast]; rfl)), own_grow (bthen hbel hb2 (Nat.le_refl _)) HO2.out hgrow3 (by omega) (by omega), own_blk (keep HB.out hb2) HO2.out hgrow3 (by omega)⟩
      · have hl : ((k : Int) + 1 == (ls.length : Int)) = false := beq_eq_false_iff_ne.2 (by omega)
        go_wp2_with (first
          | (go_at_call 12; refine (itoa_any k' _ (hG.after hbel) (by omega) (by omega)).mono ?_; rintro e w2 ⟨rfl, hb2⟩; rw [HN.out]; have HO2 := Lib.hid (okeep HO.out hb2); have hsz3 := hb2.size)
          | (at_builtin; refine Lib.wpList_append_own_string _ rfl _ _ 22 9 rfl (w.heap.size + 1) 5 i0 Tryd.underlying22 Tryd.underlying9 hi hz0 hz1 hz2 _ _ _ rfl HO2.out _ rfl (by simp only [maxLen]; omega) (by omega) (by omega) ?_; intro v' w3 hown3 hgrow3 _))
        go_roundg g
        case measure => omega
        case rel => exact ⟨k + 1, by omega, by go_num, own_line hown3 HGD.out (line_bytes HN.out (by rw [show (k + 1 == ls.length) = false from by simpa using hlast]; rfl)), own_grow (bthen hbel hb2 (Nat.le_refl _)) HO2.out hgrow3 (by omega) (by omega), own_blk (keep HB.out hb2) HO2.out hgrow3 (by omega)⟩
end Go.Proofs.YtmdcedbnlbcdjaaDoor

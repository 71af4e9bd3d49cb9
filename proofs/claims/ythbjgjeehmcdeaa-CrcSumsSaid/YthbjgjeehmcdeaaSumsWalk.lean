/-
  The walk of CrcSums: whatever the parts, the check sum and the register are the document's, and the table is its rows.
-/
import Derived.Test.YthbjgjeehmcdeaaAwake
import Derived.Deep.QuietTactic
import Derived.BigQuiet
import Derived.OpenShut
namespace Go.Proofs.Ythbjgjeehmcdeaa
open Go.RowKit

def cat (ss : List ByteArray) : ByteArray := bytesOf (ss.flatMap fun s => s.data.toList)
theorem cat_list (ss : List ByteArray) : (cat ss).data.toList = ss.flatMap fun s => s.data.toList := rfl
theorem moreAll_cat : ∀ (ss : List ByteArray) (x : BitVec 32), moreAll x ss = more x (cat ss).data.toList
  | [], _ => rfl
  | s :: ss, x => by
    rw [cat_list, List.flatMap_cons, more_append]
    exact moreAll_cat ss _
theorem cat_snoc (ss : List ByteArray) (k : Nat) (h : k < ss.length) : cat (ss.take k) ++ ss[k] = cat (ss.take (k + 1)) := by
  rw [List.take_succ_eq_append_getElem h]
  unfold cat
  rw [List.flatMap_append, show ([ss[k]].flatMap fun s => s.data.toList) = ss[k].data.toList from by simp]
  exact ByteArray.mk_append_mk _ ss[k].data.toList
theorem cat_size (ss : List ByteArray) (k : Nat) (hk : k ≤ ss.length) (h : ∀ i (_ : i < ss.length), i < k → ss[i].size ≤ 300) : (cat (ss.take k)).size ≤ 300 * k := by
  induction k with
  | zero => simp [cat, bytesOf_size]
  | succ k ih =>
    rw [← cat_snoc ss k hk, ByteArray.size_append]
    have h1 := ih (by omega) (fun i hi hik => h i hi (by omega))
    have h2 := h k hk (by omega)
    omega

theorem row_more (k : Nat) : more (BitVec.ofNat 32 k <<< 24) [0] = row k := by
  rw [more_cons, more_nil]
  unfold step row
  rw [show up 0 <<< 24 = 0#32 from by decide, BitVec.xor_zero]
theorem ref_row (k : Nat) (h : k < 256) (w : World) :
    Calls Try.prog 10 #[.int .u32 ((k : Int) * (16777216 : Int)), .string ⟨#[0]⟩] w fun e w' => e = .returned (U (row k)) ∧ w' = w := by
  rw [show (k : Int) * (16777216 : Int) = ((BitVec.ofNat 32 k <<< 24).toNat : Int) from shl24 k h]
  refine (refMore _ _ (by decide) w).mono ?_
  rintro e w' ⟨rfl, rfl⟩
  exact ⟨by rw [← row_more], rfl⟩

theorem refSum_cat (ss : List ByteArray) (hs : (cat ss).size ≤ maxLen) (w : World) :
    Calls Try.prog 12 #[.string (cat ss)] w fun e w' => e = .returned (U (moreAll ones ss)) ∧ w = w' := by
  rw [moreAll_cat]
  exact refSum _ hs w

theorem small_succ {ss : List ByteArray} {k : Nat} (h : ∀ i (_ : i < ss.length), i < k → ss[i].size ≤ 300) (hk : k < ss.length) (h3 : ss[k].size ≤ 300) :
    ∀ i (_ : i < ss.length), i < k + 1 → ss[i].size ≤ 300 := fun i hi hik => by
  by_cases e : i = k
  · subst e; exact h3
  · exact h i hi (by omega)

theorem tab_cell {W : World} {g k : Nat} (h : W.heap[g]? = some (.cells (tab 256) 25 (0, 0))) (hk : k < 256) : W.cell? ⟨g, k, none⟩ = some (U (row k)) := by
  rw [cell_of_row W _ _ _ _ _ h, tab_get k hk]

set_option maxRecDepth 100000 in
set_option maxHeartbeats 800000 in
theorem sums_walk (b off c : Nat) (ss : List ByteArray) (x : BitVec 32) (w : World) (hz : ∀ i (h : i < ss.length), ss[i].size ≤ maxLen) (hl : ss.length ≤ maxLen)
    (hc : ∀ i (h : i < ss.length), w.cell? ⟨b, off + i, none⟩ = some (.string ss[i])) (hb0 : b < w.heap.size) :
    Calls Try.prog 3 #[.slice (some ⟨b, off, none⟩) ss.length c, U x] w fun e w' => e = .returned (.bool true) ∧ Below w.heap.size w w' := by
  have hl' := hl
  unfold maxLen at hl'
  by_cases h30 : 30 < ss.length
  · go_enter Try.func3, Try.ntmps3
    go_wp2_with (go_at_call 8; refine (awake_any _).mono ?_; rintro e w1 ⟨rfl, hb1⟩)
    go_ret
    exact ⟨rfl, hb1⟩
  · go_enter Try.func3, Try.ntmps3
    have zz := zero25
    go_wp2_with fail
    go_loop [5, 6] (fun r i => ∃ k : Nat, k ≤ ss.length ∧ (∀ i (_ : i < ss.length), i < k → ss[i].size ≤ 300) ∧ i = .int .i64 k ∧ r = .string (cat (ss.take k))) (fun _ i => ss.length - (intOf i).toNat)
    case atStart => exact ⟨0, by omega, fun _ _ h => by omega, rfl, rfl⟩
    case round =>
      obtain ⟨k, hk, hsm, rfl, rfl⟩ := hrel
      have hcs := cat_size ss k hk hsm
      have HS := Lib.hid hsm
      clear hsm
      by_cases hlt : k < ss.length
      · have hck := hc k hlt
        have hzk := hz k hlt
        have HC := Lib.hid hc
        have HZ := Lib.hid hz
        have HX := Lib.hid (cat_snoc ss k hlt)
        clear hc hz
        unfold maxLen at hzk
        by_cases h3 : 300 < ss[k].size
        · go_wp2_with (go_at_call 8; refine (awake_any _).mono ?_; rintro e w1 ⟨rfl, hb1⟩)
          go_ret
          exact ⟨rfl, hb1⟩
        · have H3 := Lib.hid h3
          have H3 := Lib.hid (small_succ HS.out hlt (by omega))
          clear HS
          generalize ss[k] = s at hck hzk h3 HX
          go_wp2_with fail
          go_round
          case rel => exact ⟨k + 1, by omega, H3.out, by go_num, by rw [HX.out]⟩
          case measure => simp [intOf]; omega
      · obtain rfl : k = ss.length := by omega
        rw [List.take_length] at hcs
        have HC := Lib.hid hc
        have HZ := Lib.hid hz
        clear hc hz
        go_wp2_with (first | (go_at_call 9; refine (rows_any _).mono ?_; rintro e w1 ⟨rfl, hb1⟩) | (refine wpList_store_row rfl 25 _ _ rfl _ (tab 256) rfl rfl 25 zrow (heap_alloc_new _ _) (by rw [tab_size]; exact Try.info25) (by rw [tab_size]; exact zrow_size) (tab_one 256) ?_))
        clear zz
        obtain ⟨W, hW, hT, hB⟩ := laid_tab w w1 hb1
        rw [← hW]
        clear hW hb1
        go_loopw [8] (fun i wr => ∃ k : Nat, k ≤ 256 ∧ i = .int .i64 k ∧ wr.heap[w1.heap.size]? = some (.cells (tab 256) 25 (0, 0)) ∧ Below w.heap.size w wr) (fun i _ => 256 - (intOf i).toNat)
        case atStart => exact ⟨0, by omega, rfl, hT, hB⟩
        case round =>
          clear hT hB
          obtain ⟨k, hk, rfl, hT, hB⟩ := hrel
          by_cases hlt : k < 256
          · have hcell := tab_cell hT hlt
            have hT' := Lib.hid hT
            clear hT
            go_wp2_with fail
            go_quiet ((go_at_call 10; exact Calls.quiet_of_same (ref_row k hlt _)))
            go_wp2_with fail
            go_roundw
            case rel => exact ⟨k + 1, by omega, by go_num, hT'.out, below_drewN hB _⟩
            case measure => simp [intOf]; omega
          · clear hT
            have hl2 : (cat ss).size ≤ maxLen := by unfold maxLen; omega
            have hcW : ∀ i (h : i < ss.length), wr.cell? ⟨b, off + i, none⟩ = some (.string ss[i]) := fun i h => (bcell hB _ _ hb0).trans (HC.out i h)
            have hbW : b < wr.heap.size := Nat.lt_of_lt_of_le hb0 hB.size
            have HCW := Lib.hid hcW
            clear hcW
            go_wp2_with (first | (go_at_call 11; refine (sum_any b off c ss _ HZ.out hl HCW.out hbW).mono ?_; rintro e w2 ⟨rfl, hb2⟩) | (go_at_call 12; refine (refSum_cat ss hl2 _).mono ?_; rintro e w2 ⟨rfl, rfl⟩) | (go_at_call 13; refine (crcMore x _ hl2 _).mono ?_; rintro e w2 ⟨rfl, hb2⟩) | (go_at_call 10; refine (refMore x _ hl2 _).mono ?_; rintro e w2 ⟨rfl, rfl⟩) | (go_at_call 8; refine (awake_any _).mono ?_; rintro e w2 ⟨rfl, hb2⟩))
            go_ret
            refine ⟨rfl, ?_⟩
            repeat (first | exact Below.refl _ _ | assumption | (refine thenB ?_ (by assumption)) | refine allocB ?_ _)

set_option maxRecDepth 100000 in
set_option maxHeartbeats 800000 in
theorem sums_zero (a : Option Addr) (c : Nat) (x : BitVec 32) (w : World) :
    Calls Try.prog 3 #[.slice a 0 c, U x] w fun e w' => e = .returned (.bool true) ∧ Below w.heap.size w w' := by
  go_enter Try.func3, Try.ntmps3
  have zz := zero25
  go_wp2_with fail
  go_loop [5, 6] (fun r i => i = .int .i64 0 ∧ r = .string (cat [])) (fun _ _ => 0)
  case atStart => exact ⟨rfl, rfl⟩
  case round =>
    obtain ⟨rfl, rfl⟩ := hrel
    go_wp2_with (first | (go_at_call 9; refine (rows_any _).mono ?_; rintro e w1 ⟨rfl, hb1⟩) | (refine wpList_store_row rfl 25 _ _ rfl _ (tab 256) rfl rfl 25 zrow (heap_alloc_new _ _) (by rw [tab_size]; exact Try.info25) (by rw [tab_size]; exact zrow_size) (tab_one 256) ?_))
    clear zz
    obtain ⟨W, hW, hT, hB⟩ := laid_tab w w1 hb1
    rw [← hW]
    clear hW hb1
    go_loopw [8] (fun i wr => ∃ k : Nat, k ≤ 256 ∧ i = .int .i64 k ∧ wr.heap[w1.heap.size]? = some (.cells (tab 256) 25 (0, 0)) ∧ Below w.heap.size w wr) (fun i _ => 256 - (intOf i).toNat)
    case atStart => exact ⟨0, by omega, rfl, hT, hB⟩
    case round =>
      clear hT hB
      obtain ⟨k, hk, rfl, hT, hB⟩ := hrel
      by_cases hlt : k < 256
      · have hcell := tab_cell hT hlt
        have hT' := Lib.hid hT
        clear hT
        go_wp2_with fail
        go_quiet ((go_at_call 10; exact Calls.quiet_of_same (ref_row k hlt _)))
        go_wp2_with fail
        go_roundw
        case rel => exact ⟨k + 1, by omega, by go_num, hT'.out, below_drewN hB _⟩
        case measure => simp [intOf]; omega
      · clear hT
        have hl2 : (cat []).size ≤ maxLen := by simp [cat, bytesOf_size]
        go_wp2_with (first | (go_at_call 11; refine (sum_zero a c _).mono ?_; rintro e w2 ⟨rfl, hb2⟩) | (go_at_call 12; refine (refSum_cat [] hl2 _).mono ?_; rintro e w2 ⟨rfl, rfl⟩) | (go_at_call 13; refine (crcMore x _ hl2 _).mono ?_; rintro e w2 ⟨rfl, hb2⟩) | (go_at_call 10; refine (refMore x _ hl2 _).mono ?_; rintro e w2 ⟨rfl, rfl⟩) | (go_at_call 8; refine (awake_any _).mono ?_; rintro e w2 ⟨rfl, hb2⟩))
        go_ret
        refine ⟨rfl, ?_⟩
        repeat (first | exact Below.refl _ _ | assumption | (refine thenB ?_ (by assumption)) | refine allocB ?_ _)

/-- What the walk is told of a slice of strings that came in: it is nil, or it leads to a row of c cells, of which the first n are its elements. -/
def IsStrs (w : World) (a : Option Addr) (n c : Nat) (zs : List ByteArray) : Prop :=
  (a = none ∧ n = 0 ∧ c = 0 ∧ zs = []) ∨
  ∃ x, a = some x ∧ n ≤ c ∧ c ≤ maxLen ∧ zs.length = c ∧ (∀ i, i < zs.length → w.cell? (x.add i) = some (.string (zs.getD i ByteArray.empty))) ∧ ∀ s ∈ zs, s.size ≤ maxLen

theorem reg_of {a : Int} (h : (Lit.int .u32 a).wf = true) : ∃ x : BitVec 32, a = (x.toNat : Int) := by
  have hb := bounds_u32 h
  refine ⟨BitVec.ofNat 32 a.toNat, ?_⟩
  rw [BitVec.toNat_ofNat]
  omega

theorem sums_all (w : World) (a : Option Addr) (n c : Nat) (zs : List ByteArray) (hs : IsStrs w a n c zs) (y : Int) (hy : (Lit.int .u32 y).wf = true) :
    Calls Try.prog 3 #[.slice a n c, .int .u32 y] w fun e w' => e = .returned (.bool true) ∧ Below w.heap.size w w' := by
  obtain ⟨x, rfl⟩ := reg_of hy
  rcases hs with ⟨rfl, rfl, rfl, rfl⟩ | ⟨p, rfl, hn, hc, hz, hcell, hsz⟩
  · exact sums_zero none 0 x w
  · by_cases h0 : n = 0
    · subst h0
      exact sums_zero (some p) c x w
    · obtain ⟨b, off, spot⟩ := p
      have hspot : spot = none := by simpa [Addr.add] using World.cell?_spot (hcell 0 (by omega))
      subst hspot
      have hcell' : ∀ i (h : i < (zs.take n).length), w.cell? ⟨b, off + i, none⟩ = some (.string (zs.take n)[i]) := by
        intro i h
        have hi : i < zs.length := by rw [List.length_take] at h; omega
        rw [← Go.WideShapes.add_plain, hcell i hi, List.getElem_take, List.getD_eq_getElem?_getD, List.getElem?_eq_getElem hi]
        rfl
      have hlen : (zs.take n).length = n := by rw [List.length_take]; omega
      have hb0 : b < w.heap.size := block_lt_of_cell (hcell' 0 (by omega))
      have hsz' : ∀ i (h : i < (zs.take n).length), (zs.take n)[i].size ≤ maxLen := fun i h => hsz _ (List.mem_of_mem_take (List.getElem_mem h))
      have := sums_walk b off c (zs.take n) x w hsz' (by omega) hcell' hb0
      rw [hlen] at this
      exact this
end Go.Proofs.Ythbjgjeehmcdeaa

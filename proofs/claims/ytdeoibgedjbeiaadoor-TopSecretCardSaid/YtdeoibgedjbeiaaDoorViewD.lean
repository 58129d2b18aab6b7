import Derived.Test.YtdeoibgedjbeiaaDoorTapeF
import Derived.Test.YtdeoibgedjbeiaaDoorDigH
/- The walks of view.has and view.Shares. -/
namespace Go.Proofs.YtdeoibgedjbeiaaDoor
open Go.RowKit

set_option maxRecDepth 100000 in
theorem has_any {B m : Nat} {A' : Option Addr} (c' : Nat) {wh : List Bool} {w : World} (h' : KH.Reads w B 1 A' m (wh.map .bool)) (hm : m ≤ maxLen) (i : Nat) :
    Calls Tryd.prog 12 #[.slice A' m c', .int .i64 i] w fun e w' => e = .returned (.bool (wh.getD i false)) ∧ w = w' := by
  have hl' : wh.length = m := by have := h'.1; simpa using this
  have HL := KH.hid hl'
  have hm9 : m ≤ 9223372036854775807 := by unfold maxLen at hm; exact hm
  clear hl'
  by_cases hi : i < m
  · obtain ⟨ad', b', rfl, _, hb', hcb⟩ := bool_at h' hi
    have HW : Hid (wh.getD i false = b') := by unfold Hid; rw [List.getD, hb']; rfl
    rw [HW.out]
    have hd : decide (i < m) = true := by rw [decide_eq_true_iff]; exact hi
    clear hb'
    go_enter Tryd.func12, Tryd.ntmps12
    go_wp2
    go_ret
    exact ⟨rfl, rfl⟩
  · have HW : Hid (wh.getD i false = false) := by unfold Hid; rw [List.getD, List.getElem?_eq_none (by have := HL.out; omega)]; rfl
    rw [HW.out]
    have hd : decide (i < m) = false := by rw [decide_eq_false_iff_not]; exact hi
    go_enter Tryd.func12, Tryd.ntmps12
    go_wp2
    go_ret
    exact ⟨rfl, rfl⟩

theorem chs_len {l : List (Int × ByteArray)} {wh : List Bool} {k : Nat} : (chs l wh k).length ≤ k := by
  induction k with
  | zero => exact Nat.le_refl _
  | succ k ih =>
    show (chs l wh k ++ (if wh.getD k false then _ else _)).length ≤ _
    rw [List.length_append]
    split <;> simp <;> omega

set_option maxHeartbeats 1000000 in
set_option maxRecDepth 100000 in
theorem vshares_any {n m : Nat} {A A' : Option Addr} (c c' : Nat) {l : List (Int × ByteArray)} {wh : List Bool} {w : World} (h : ShIn w w.heap.size A n l) (hn : n ≤ 255) (h' : KH.Reads w w.heap.size 1 A' m (wh.map .bool)) (hm : m ≤ maxLen) :
    Calls Tryd.prog 8 #[.slice A n c, .slice A' m c'] w fun e w' => ∃ Ar nr cr, e = .returned (.slice Ar nr cr) ∧ w'.ownsRow w.heap.size 36 2 (.slice Ar nr cr) nr (shC (chs l wh n)) ∧ Below w.heap.size w w' ∧ (chs l wh n).length = nr := by
  obtain ⟨i2, hi2, hx0, hx1, hx2⟩ := info_parts share_row
  go_enter Tryd.func8, Tryd.ntmps8
  go_wp2
  go_loopw [5, 10] (fun v i wr => ∃ k r : Nat, k ≤ n ∧ i = .int .i64 k ∧ r ≤ k ∧ Hid ((chs l wh k).length = r) ∧ wr.ownsRow w.heap.size 36 2 v r (shC (chs l wh k)) ∧ Below w.heap.size w wr) (fun _ i _ => n - (intOf i).toNat)
  case atStart => exact ⟨0, 0, Nat.zero_le _, rfl, Nat.zero_le _, rfl, World.ownsRow_nil _ _ _ _, Below.refl _ _⟩
  case round =>
    obtain ⟨k, r, hk, rfl, hrk, HR, hown, hb⟩ := hrel
    have hsz := hb.size
    by_cases h1 : k < n
    · obtain ⟨ad, x, b, rfl, hab, hx, hc1, hc2⟩ := ShIn.at_ (KH.Reads.below h hb) h1
      have HX : Hid (l.getD k (0, ⟨#[]⟩) = (x, b)) := by unfold Hid; rw [List.getD, hx]; rfl
      have hw1 : KH.Reads (wr.alloc (.cells #[.int .i64 x, .string b] 36)) w.heap.size 1 A' m (wh.map .bool) := (h'.below hb).alloc hsz _
      have hb1 := hb.alloc hsz (.cells #[.int .i64 x, .string b] 36)
      have hown1 := hown.alloc (.cells #[.int .i64 x, .string b] 36)
      have hcx : (wr.alloc (.cells #[.int .i64 x, .string b] 36)).cell? ⟨wr.heap.size, 0, none⟩ = some (.int .i64 x) := by simp
      have hcb : (wr.alloc (.cells #[.int .i64 x, .string b] 36)).cell? ⟨wr.heap.size, 1, none⟩ = some (.string b) := by rw [World.cell?_alloc_at _ _ _ _ rfl]; rfl
      have hs1 : w.heap.size ≤ (wr.alloc (.cells #[.int .i64 x, .string b] 36)).heap.size := hb1.size
      clear hx hown hb
      go_wp2_with fail
      refine (has_any _ hw1 hm k).mono ?_; rintro e w2 ⟨rfl, rfl⟩
      generalize wr.alloc (.cells #[.int .i64 x, .string b] 36) = w2 at *
      cases hwk : wh.getD k false
      · have HS : Hid (chs l wh (k + 1) = chs l wh k) := by
          show chs l wh k ++ (if wh.getD k false then _ else _) = _
          rw [hwk]; simp
        clear hwk
        go_wp2
        go_roundw
        case rel => exact ⟨k + 1, r, by omega, by go_num, by omega, by rw [HS.out]; exact HR, by rw [HS.out]; exact hown1, hb1⟩
        case measure => simp [intOf]; omega
      · have HS : Hid (chs l wh (k + 1) = chs l wh k ++ [(x, b)]) := by
          show chs l wh k ++ (if wh.getD k false then _ else _) = _
          rw [hwk, HX.out]; simp
        clear hwk
        go_wp2_with (at_builtin; refine KH.wpList_append_two rfl (.tmp 18) (.tmp 20) 29 rfl w.heap.size 36 i2 _ 24 Tryd.underlying29 hi2 hx0 hx1 hx2 rfl _ r _ rfl (hown1.alloc _) w2.heap.size 1 (.int .i64 x) (.string b) rfl ?d1 ?d2 rfl rfl ?d3 ?d4 ?d5 ?_)
        first | (case d1 => simp) | skip
        first | (case d2 => simp) | skip
        case d3 => unfold maxLen; omega
        case d4 => omega
        case d5 => first | omega | (simp; omega)
        intro v1 w1' hown2 hb2
        have hb3 := (hb1.alloc hs1 (.cells #[.int .i64 x, .string b] 36)).trans hb2
        clear hown1 hb1
        go_wp2
        go_roundw
        case rel => exact ⟨k + 1, r + 1, by omega, by go_num, by omega, by unfold Hid; rw [HS.out, List.length_append, HR.out]; rfl, by rw [HS.out, shC_append]; exact hown2, hb3⟩
        case measure => simp [intOf]; omega
    · obtain rfl : k = n := by omega
      have hd2 : decide ((k : Int) < (k : Int)) = false := by simp
      obtain ⟨Ar, cr, rfl⟩ := KH.own_form hown
      go_wp2
      go_ret
      exact ⟨_, _, _, rfl, hown, hb, HR.out⟩
end Go.Proofs.YtdeoibgedjbeiaaDoor
/- The walks of package pledge. -/
namespace Go.Proofs.YtdeoibgedjbeiaaDoor
open Go.RowKit

def plT (salt : ByteArray) (x : Nat) (b : ByteArray) : ByteArray := (⟨#[112, 108, 101, 100, 103, 101]⟩ ++ salt) ++ strOfNums [(x : Int)] ++ b

set_option maxRecDepth 100000 in
theorem bright_yes (salt : ByteArray) (x : Nat) (b : ByteArray) (w : World) (hs : salt.size = 16) (h1 : 1 ≤ x) (hx : x ≤ 255) (hb : b.size = 32) :
    Calls Tryd.prog 18 #[.agg #[.string salt, .int .i64 x, .string b]] w fun e w' => e = .returned (.bool true) ∧ Below w.heap.size w w' := by
  have e1 : ((salt.size : Int) == 16) = true := by simp [hs]
  have e2 : ((b.size : Int) == 32) = true := by simp [hb]
  have hs9 : salt.size ≤ 1000 := by omega
  have hb9 : b.size ≤ 1000 := by omega
  clear hs hb
  go_enter Tryd.func18, Tryd.ntmps18
  go_wp2
  go_ret
  exact ⟨rfl, (Below.refl _ _).alloc (Nat.le_refl _) _⟩
set_option maxRecDepth 100000 in
theorem bright_no (salt : ByteArray) (x : Nat) (b : ByteArray) (w : World) (hs : salt.size ≠ 16) :
    Calls Tryd.prog 18 #[.agg #[.string salt, .int .i64 x, .string b]] w fun e w' => e = .returned (.bool false) ∧ Below w.heap.size w w' := by
  have e1 : ((salt.size : Int) == 16) = false := by simp; omega
  clear hs
  go_enter Tryd.func18, Tryd.ntmps18
  go_wp2
  go_ret
  exact ⟨rfl, (Below.refl _ _).alloc (Nat.le_refl _) _⟩
set_option maxRecDepth 100000 in
theorem btext_any (salt : ByteArray) (x : Nat) (b : ByteArray) (w : World) (hs : salt.size ≤ 1000) (hx : x ≤ 255) (hb : b.size ≤ 1000) :
    Calls Tryd.prog 20 #[.agg #[.string salt, .int .i64 x, .string b]] w fun e w' => e = .returned (.string (plT salt x b)) ∧ Below w.heap.size w w' := by
  have hback := run_convert_bytes_arg (P := Tryd.prog) ((w.alloc (.cells #[.string salt, .int .i64 x, .string b] 51)).alloc (.cells #[.int .u8 x] 5)) 62 5 Tryd.underlying62 Tryd.underlying5 (w.heap.size + 1) 0 1 1 [(x : Int)] rfl (fun i hi => by
    obtain rfl : i = 0 := by omega
    rw [Nat.zero_add, World.cell?_alloc_at _ _ _ _ (by simp)]; rfl) 9 Tryd.underlying9
  have hz : (strOfNums [(x : Int)]).size = 1 := strOfNums_size _
  have HT : Hid (plT salt x b = (⟨#[112, 108, 101, 100, 103, 101]⟩ ++ salt) ++ strOfNums [(x : Int)] ++ b) := rfl
  rw [HT.out]
  generalize strOfNums [(x : Int)] = sx at *
  have h1 : 6 + salt.size ≤ 9223372036854775807 := by omega
  have hz2 : sx.size ≤ 1 := by omega
  clear hz
  have hA : ((⟨#[112, 108, 101, 100, 103, 101]⟩ : ByteArray) ++ salt).size = 6 + salt.size := by rw [ByteArray.size_append]; rfl
  have hA2 : ((⟨#[112, 108, 101, 100, 103, 101]⟩ : ByteArray) ++ salt).size ≤ 2000 := by omega
  have hA3 : (((⟨#[112, 108, 101, 100, 103, 101]⟩ : ByteArray) ++ salt) ++ sx).size ≤ 3000 := by rw [ByteArray.size_append]; omega
  clear hA
  go_enter Tryd.func20, Tryd.ntmps20
  go_wp2
  go_ret
  exact ⟨rfl, ((Below.refl _ _).alloc (Nat.le_refl _) (.cells #[.string salt, .int .i64 x, .string b] 51)).alloc (by simp) (.cells #[.int .u8 x] 5)⟩
theorem plT_size (salt : ByteArray) (x : Nat) (b : ByteArray) : (plT salt x b).size = 6 + salt.size + 1 + b.size := by
  unfold plT
  rw [ByteArray.size_append, ByteArray.size_append, ByteArray.size_append, strOfNums_size]; rfl
set_option maxRecDepth 100000 in
theorem psum_any (K : Nat → Nat) (salt : ByteArray) (x : Nat) (b : ByteArray) (w : World) (hK : RoundsAt K w) (hs : salt.size ≤ 1000) (hx : x ≤ 255) (hb : b.size ≤ 1000) :
    Calls Tryd.prog 19 #[.func (.func 20) #[.agg #[.string salt, .int .i64 x, .string b]] #[]] w fun e w' => e = .returned (.string (sumV K (plT salt x b))) ∧ Below w.heap.size w w' := by
  have hpz := plT_size salt x b
  obtain ⟨T, hT⟩ : ∃ T, T = plT salt x b := ⟨_, rfl⟩
  rw [← hT]
  rw [← hT] at hpz
  have HT := KH.hid hT
  have HP : Hid (T.size ≤ 900000) := by unfold Hid; omega
  clear hpz hT
  go_enter Tryd.func19, Tryd.ntmps19
  go_wp2_with fail
  refine (btext_any salt x b w hs hx hb).mono ?_
  rw [← HT.out]
  rintro e w1 ⟨rfl, hb1⟩
  have hs1 := hb1.size
  go_wp2_with fail
  refine (dsum_any K T w1 (rounds_below hK hb1 hK.1) HP.out).mono ?_; rintro e w2 ⟨rfl, hb2⟩
  go_wp2
  go_ret
  exact ⟨rfl, hb1.trans (hb2.mono hs1)⟩
set_option maxRecDepth 100000 in
theorem make_yes (K : Nat → Nat) (salt : ByteArray) (x : Nat) (b : ByteArray) (w : World) (hK : RoundsAt K w) (hs : salt.size = 16) (h1 : 1 ≤ x) (hx : x ≤ 255) (hb : b.size = 32) :
    Calls Tryd.prog 10 #[.string salt, .agg #[.int .i64 x, .string b]] w fun e w' => e = .returned (.tuple #[.string (sumV K (plT salt x b)), .int .i64 0]) ∧ Below w.heap.size w w' := by
  have HS := KH.hid (And.intro hs hb)
  have hB2 := ((Below.refl w.heap.size w).alloc (Nat.le_refl _) (.cells #[.int .i64 x, .string b] 36)).alloc (by simp) (.cells #[.string salt, .int .i64 x, .string b] 51)
  have hz2 : w.heap.size + 2 ≤ ((w.alloc (.cells #[.int .i64 x, .string b] 36)).alloc (.cells #[.string salt, .int .i64 x, .string b] 51)).heap.size := by simp
  have hc0 : ((w.alloc (.cells #[.int .i64 x, .string b] 36)).alloc (.cells #[.string salt, .int .i64 x, .string b] 51)).cell? ⟨w.heap.size + 1, 0, none⟩ = some (.string salt) := by rw [World.cell?_alloc_at _ _ _ _ (by simp)]; rfl
  have hc1 : ((w.alloc (.cells #[.int .i64 x, .string b] 36)).alloc (.cells #[.string salt, .int .i64 x, .string b] 51)).cell? ⟨w.heap.size + 1, 1, none⟩ = some (.int .i64 x) := by rw [World.cell?_alloc_at _ _ _ _ (by simp)]; rfl
  have hc2 : ((w.alloc (.cells #[.int .i64 x, .string b] 36)).alloc (.cells #[.string salt, .int .i64 x, .string b] 51)).cell? ⟨w.heap.size + 1, 2, none⟩ = some (.string b) := by rw [World.cell?_alloc_at _ _ _ _ (by simp)]; rfl
  clear hs hb
  go_enter Tryd.func10, Tryd.ntmps10
  go_wp2_with fail
  generalize ((w.alloc (.cells #[.int .i64 x, .string b] 36)).alloc (.cells #[.string salt, .int .i64 x, .string b] 51)) = W at *
  refine (bright_yes salt x b W HS.out.1 h1 hx HS.out.2).mono ?_; rintro e w1 ⟨rfl, hb1⟩
  have hd0 := (hb1.cell (p := ⟨w.heap.size + 1, 0, none⟩) (by show w.heap.size + 1 < _; omega)).trans hc0
  have hd1 := (hb1.cell (p := ⟨w.heap.size + 1, 1, none⟩) (by show w.heap.size + 1 < _; omega)).trans hc1
  have hd2 := (hb1.cell (p := ⟨w.heap.size + 1, 2, none⟩) (by show w.heap.size + 1 < _; omega)).trans hc2
  have hB1 := hB2.trans (hb1.mono (by omega))
  have hs1 := hB1.size
  clear hc0 hc1 hc2 hB2 hb1
  go_wp2_with fail
  refine (psum_any K salt x b w1 (rounds_below hK hB1 hK.1) (by have := HS.out.1; omega) hx (by have := HS.out.2; omega)).mono ?_; rintro e w2 ⟨rfl, hb2⟩
  go_wp2
  go_ret2
  exact ⟨rfl, hB1.trans (hb2.mono hs1)⟩
set_option maxRecDepth 100000 in
theorem make_no (salt : ByteArray) (x : Nat) (b : ByteArray) (w : World) (hs : salt.size ≠ 16) :
    Calls Tryd.prog 10 #[.string salt, .agg #[.int .i64 x, .string b]] w fun e w' => e = .returned (.tuple #[.string ⟨#[]⟩, .int .i64 1]) ∧ Below w.heap.size w w' := by
  have HS := KH.hid hs
  have hB2 := ((Below.refl w.heap.size w).alloc (Nat.le_refl _) (.cells #[.int .i64 x, .string b] 36)).alloc (by simp) (.cells #[.string salt, .int .i64 x, .string b] 51)
  have hz2 : w.heap.size + 2 ≤ ((w.alloc (.cells #[.int .i64 x, .string b] 36)).alloc (.cells #[.string salt, .int .i64 x, .string b] 51)).heap.size := by simp
  clear hs
  go_enter Tryd.func10, Tryd.ntmps10
  go_wp2_with fail
  generalize ((w.alloc (.cells #[.int .i64 x, .string b] 36)).alloc (.cells #[.string salt, .int .i64 x, .string b] 51)) = W at *
  refine (bright_no salt x b W HS.out).mono ?_; rintro e w1 ⟨rfl, hb1⟩
  go_wp2
  go_ret2
  exact ⟨rfl, hB2.trans (hb1.mono (by omega))⟩
end Go.Proofs.YtdeoibgedjbeiaaDoor
/- The walk of view.Remap. -/
namespace Go.Proofs.YtdeoibgedjbeiaaDoor
open Go.RowKit

/-- the shares that Remap keeps of the first i, and how many it may still keep beside the chosen -/
def kpt (l : List (Int × ByteArray)) (wh : List Bool) (f : Nat) : Nat → List (Int × ByteArray) × Nat
  | 0 => ([], f)
  | i + 1 => if wh.getD i false then ((kpt l wh f i).1 ++ [l.getD i (0, ⟨#[]⟩)], (kpt l wh f i).2)
      else if 0 < (kpt l wh f i).2 then ((kpt l wh f i).1 ++ [l.getD i (0, ⟨#[]⟩)], (kpt l wh f i).2 - 1) else kpt l wh f i

set_option maxRecDepth 100000 in
theorem remap_no1 {A : Option Addr} {m c' : Nat} (s o : ByteArray) (n k : Int) (t : ByteArray) (w : World) (ho : o.size ≠ 32) (ho9 : o.size ≤ maxLen) :
    Calls Tryd.prog 5 #[.string s, .string o, .int .i64 n, .int .i64 k, .string t, .slice A m c'] w fun e w' => e = .returned (.tuple #[.string ⟨#[]⟩, .int .i64 1]) ∧ Below w.heap.size w w' := by
  have b1 : ((o.size : Int) != 32) = true := by simp; omega
  have h9 : o.size ≤ 9223372036854775807 := by unfold maxLen at ho9; exact ho9
  clear ho
  go_enter Tryd.func5, Tryd.ntmps5
  go_wp2
  go_ret2
  exact ⟨rfl, Below.refl _ _⟩
set_option maxRecDepth 100000 in
theorem remap_no2 {A : Option Addr} {m c' : Nat} (s o : ByteArray) (n k : Int) (t : ByteArray) (w : World) (ho : o.size = 32) (hs : s.size ≤ maxLen) (ht : t.size ≤ maxLen) (hK : splitK s n k t = false) :
    Calls Tryd.prog 5 #[.string s, .string o, .int .i64 n, .int .i64 k, .string t, .slice A m c'] w fun e w' => e = .returned (.tuple #[.string ⟨#[]⟩, .int .i64 1]) ∧ Below w.heap.size w w' := by
  have b1 : ((o.size : Int) != 32) = false := by simp [ho]
  have h9 : o.size ≤ 9223372036854775807 := by omega
  clear ho
  go_enter Tryd.func5, Tryd.ntmps5
  go_wp2_with fail
  refine (split_told s n k t _ hs ht).mono ?_; rintro e w1 ⟨A1, n1, c1, rfl, ho1, hb1, hl1⟩
  rw [hK]
  have e1 : splitE false = 1 := rfl
  rw [e1]
  clear e1 ho1 hl1
  go_wp2
  go_ret2
  exact ⟨rfl, hb1⟩
set_option maxRecDepth 100000 in
theorem remap_no3 {A : Option Addr} {m c' : Nat} {wh : List Bool} (s o : ByteArray) (n k : Nat) (t : ByteArray) (w : World) (ho : o.size = 32) (hs : s.size ≤ maxLen) (ht : t.size ≤ maxLen) (hm : m ≤ maxLen) (hw : KH.Reads w w.heap.size 1 A m (wh.map .bool)) (hK : splitK s n k t = true) (hn : n ≤ 255) (hk : k ≤ n) (h1 : 1 ≤ k) (hc : k ≤ (chs (splitL s t n k) wh n).length ∨ k = 1) :
    Calls Tryd.prog 5 #[.string s, .string o, .int .i64 n, .int .i64 k, .string t, .slice A m c'] w fun e w' => e = .returned (.tuple #[.string ⟨#[]⟩, .int .i64 90]) ∧ Below w.heap.size w w' := by
  have b1 : ((o.size : Int) != 32) = false := by simp [ho]
  have h9 : o.size ≤ 9223372036854775807 := by omega
  have hcl : (chs (splitL s t n k) wh n).length ≤ n := chs_len
  have HC := KH.hid hc
  have hV : splitV s n k t = splitL s t n k := by unfold splitV; rw [hK]; rfl
  have HV := KH.hid hV; clear hV hc
  clear ho
  go_enter Tryd.func5, Tryd.ntmps5
  go_wp2_with fail
  refine (split_told s n k t _ hs ht).mono ?_; rintro e w1 ⟨A1, n1, c1, rfl, ho1, hb1, hl1⟩
  rw [HV.out] at ho1 hl1
  rw [splitL_length] at hl1
  subst hl1
  rw [hK]
  have e1 : splitE true = 0 := rfl
  rw [e1]
  have hin1 : ShIn w1 w1.heap.size A1 n (splitL s t n k) := KH.Reads.of_own ho1
  have hw1 := (hw.below hb1).more hb1.size
  have hs1 := hb1.size
  clear e1 ho1
  go_wp2_with fail
  refine (vshares_any _ _ hin1 hn hw1 hm).mono ?_; rintro e w2 ⟨A2, n2, c2, rfl, ho2, hb2, hl2⟩
  have hn2 : n2 ≤ n := by omega
  have hC2 := HC.out
  rw [hl2] at hC2
  by_cases g : k ≤ n2
  · have d1 : decide ((k : Int) - 1 - (n2 : Int) < 0) = true := by rw [decide_eq_true_iff]; omega
    clear ho2 hl2 hC2 g hcl
    go_wp2
    go_ret2
    exact ⟨rfl, hb1.trans (hb2.mono hs1)⟩
  · have d1 : decide ((k : Int) - 1 - (n2 : Int) < 0) = false := by rw [decide_eq_false_iff_not]; omega
    have d2 : ((k : Int) == 1) = true := by simp; omega
    clear ho2 hl2 hC2 g hcl
    go_wp2
    go_ret2
    exact ⟨rfl, hb1.trans (hb2.mono hs1)⟩
end Go.Proofs.YtdeoibgedjbeiaaDoor
/- The walk of view.Remap where it tells a tape. -/
namespace Go.Proofs.YtdeoibgedjbeiaaDoor
open Go.RowKit

theorem kpt_sub (l : List (Int × ByteArray)) (wh : List Bool) (f : Nat) : ∀ i, i ≤ l.length → (kpt l wh f i).1.Sublist (l.take i) := by
  intro i hi
  induction i with
  | zero => exact List.Sublist.refl _
  | succ i ih =>
    have hs := ih (by omega)
    have e : l.take (i + 1) = l.take i ++ [l.getD i (0, ⟨#[]⟩)] := by
      rw [List.take_add_one, List.getElem?_eq_getElem (show i < l.length by omega), List.getD, List.getElem?_eq_getElem (show i < l.length by omega)]; rfl
    rw [e]
    unfold kpt
    split
    · exact hs.append (List.Sublist.refl _)
    · split
      · exact hs.append (List.Sublist.refl _)
      · exact hs.trans (List.sublist_append_left _ _)
theorem kpt_len (l : List (Int × ByteArray)) (wh : List Bool) (f : Nat) : ∀ i, (kpt l wh f i).1.length ≤ i := by
  intro i
  induction i with
  | zero => exact Nat.le_refl _
  | succ i ih =>
    unfold kpt
    split
    · show (_ ++ _ : List _).length ≤ _
      rw [List.length_append]; simp; omega
    · split
      · show (_ ++ _ : List _).length ≤ _
        rw [List.length_append]; simp; omega
      · omega
theorem kpt_left (l : List (Int × ByteArray)) (wh : List Bool) (f : Nat) : ∀ i, (kpt l wh f i).2 ≤ f := by
  intro i
  induction i with
  | zero => exact Nat.le_refl _
  | succ i ih =>
    unfold kpt
    split
    · exact ih
    · split
      · show _ - 1 ≤ _; omega
      · exact ih

set_option maxHeartbeats 2000000 in
set_option maxRecDepth 100000 in
theorem remap_yes {A : Option Addr} {m c' : Nat} {wh : List Bool} (s o : ByteArray) (n k f : Nat) (t : ByteArray) (w : World) (ho : o.size = 32) (hs : s.size ≤ maxLen) (ht : t.size ≤ maxLen) (hm : m ≤ maxLen) (hw : KH.Reads w w.heap.size 1 A m (wh.map .bool)) (hK : splitK s n k t = true) (hn : n ≤ 255) (hk : k ≤ n) (h1 : k ≠ 1) (hf : f + 1 + (chs (splitL s t n k) wh n).length = k) :
    Calls Tryd.prog 5 #[.string s, .string o, .int .i64 n, .int .i64 k, .string t, .slice A m c'] w fun e w' => e = .returned (.tuple #[.string (tapeV o (kpt (splitL s t n k) wh f n).1), .int .i64 (tapeE o (kpt (splitL s t n k) wh f n).1)]) ∧ Below w.heap.size w w' := by
  obtain ⟨i2, hi2, hx0, hx1, hx2⟩ := info_parts share_row
  have b1 : ((o.size : Int) != 32) = false := by simp [ho]
  have h9 : o.size ≤ 9223372036854775807 := by omega
  have hV : splitV s n k t = splitL s t n k := by unfold splitV; rw [hK]; rfl
  have hmem : ∀ p ∈ (kpt (splitL s t n k) wh f n).1, p.2.size ≤ maxLen := fun p hp => by
    obtain ⟨i, hi, rfl⟩ := splitL_mem (List.mem_of_mem_take ((kpt_sub _ wh f n (by rw [splitL_length]; omega)).subset hp))
    rw [tx_size]; unfold maxLen; omega
  have hll : (splitL s t n k).length = n := splitL_length _ _ _ _
  obtain ⟨l, hl⟩ : ∃ l, l = splitL s t n k := ⟨_, rfl⟩
  rw [← hl] at hf hV hmem hll ⊢
  have HV := KH.hid hV
  have HM := KH.hid hmem
  clear ho hmem hV hl
  go_enter Tryd.func5, Tryd.ntmps5
  go_wp2_with fail
  refine (split_told s n k t _ hs ht).mono ?_; rintro e w1 ⟨A1, n1, c1, rfl, ho1, hb1, hl1⟩
  rw [HV.out] at ho1 hl1
  rw [hll] at hl1
  subst hl1
  clear hll
  rw [hK]
  have e1 : splitE true = 0 := rfl
  rw [e1]
  have hin1 : ShIn w1 w1.heap.size A1 n l := KH.Reads.of_own ho1
  have hw1 := (hw.below hb1).more hb1.size
  have hs1 := hb1.size
  clear e1 ho1 hw
  go_wp2_with fail
  refine (vshares_any _ _ hin1 hn hw1 hm).mono ?_; rintro e w2 ⟨A2, n2, c2, rfl, ho2, hb2, hl2⟩
  rw [hl2] at hf
  have hf1 : f ≤ 255 := by omega
  have d1 : decide ((k : Int) - 1 - (n2 : Int) < 0) = false := by rw [decide_eq_false_iff_not]; omega
  have d2 : ((k : Int) == 1) = false := by simp; omega
  have d3 : ((k : Int) - 1 - (n2 : Int)) = (f : Int) := by omega
  have hin2 := (KH.Reads.below hin1 hb2).more hb2.size
  have hw2 := (hw1.below hb2).more hb2.size
  have hB2 := hb1.trans (hb2.mono hs1)
  have hs2 := hb2.size
  have HF := KH.hid hf
  rw [d3] at d1
  clear hin1 hw1 hb1 hb2 ho2 hl2 hf hk h1 hK
  go_wp2
  first | rw [d3] | skip
  clear d3
  go_loopw [16, 17, 49] (fun g v i wr => ∃ j r q : Nat, j ≤ n ∧ i = .int .i64 j ∧ r ≤ j ∧ g = .int .i64 q ∧ q ≤ 255 ∧ Hid ((kpt l wh f j).2 = q ∧ (kpt l wh f j).1.length = r) ∧ wr.ownsRow w2.heap.size 36 2 v r (shC (kpt l wh f j).1) ∧ Below w2.heap.size w2 wr) (fun _ _ i _ => n - (intOf i).toNat)
  case atStart => exact ⟨0, 0, f, Nat.zero_le _, rfl, Nat.zero_le _, rfl, hf1, ⟨rfl, rfl⟩, World.ownsRow_nil _ _ _ _, Below.refl _ _⟩
  case round =>
    obtain ⟨j, r, q, hj, rfl, hrj, rfl, hq, HR, hown, hb⟩ := hrel
    have hsz := hb.size
    by_cases h1 : j < n
    · obtain ⟨ad, x, b, rfl, hab, hx, hc1, hc2⟩ := ShIn.at_ (KH.Reads.below hin2 hb) h1
      have HX : Hid (l.getD j (0, ⟨#[]⟩) = (x, b)) := by unfold Hid; rw [List.getD, hx]; rfl
      have hwr : KH.Reads (wr.alloc (.cells #[.int .i64 x, .string b] 36)) w2.heap.size 1 A m (wh.map .bool) := (hw2.below hb).alloc hsz _
      have hb1 := hb.alloc hsz (.cells #[.int .i64 x, .string b] 36)
      have hown1 := hown.alloc (.cells #[.int .i64 x, .string b] 36)
      have hcx : (wr.alloc (.cells #[.int .i64 x, .string b] 36)).cell? ⟨wr.heap.size, 0, none⟩ = some (.int .i64 x) := by simp
      have hcb : (wr.alloc (.cells #[.int .i64 x, .string b] 36)).cell? ⟨wr.heap.size, 1, none⟩ = some (.string b) := by rw [World.cell?_alloc_at _ _ _ _ rfl]; rfl
      have hs3 : w2.heap.size ≤ (wr.alloc (.cells #[.int .i64 x, .string b] 36)).heap.size := hb1.size
      clear hx hown hb
      go_wp2_with fail
      refine (has_any _ hwr hm j).mono ?_; rintro e w4 ⟨rfl, rfl⟩
      generalize wr.alloc (.cells #[.int .i64 x, .string b] 36) = w4 at *
      cases hwk : wh.getD j false
      · by_cases h2 : 0 < q
        · have HS : Hid ((kpt l wh f (j + 1)).1 = (kpt l wh f j).1 ++ [(x, b)] ∧ (kpt l wh f (j + 1)).2 = q - 1) := by
            unfold Hid; rw [kpt, if_neg (by rw [hwk]; simp), if_pos (by rw [HR.out.1]; exact h2), HX.out, HR.out.1]; exact ⟨rfl, rfl⟩
          have d4 : decide ((0 : Int) < (q : Int)) = true := by rw [decide_eq_true_iff]; omega
          have d5 : (q : Int) - 1 = ((q - 1 : Nat) : Int) := by omega
          clear hwk
          go_wp2_with (at_builtin; refine KH.wpList_append_two rfl (.tmp 65) (.tmp 67) 29 rfl w2.heap.size 36 i2 _ 24 Tryd.underlying29 hi2 hx0 hx1 hx2 rfl _ r _ rfl (hown1.alloc _) w4.heap.size 1 (.int .i64 x) (.string b) rfl ?d1 ?d2 rfl rfl ?d3 ?d4 ?d5 ?_)
          first | (case d1 => simp) | skip
          first | (case d2 => simp) | skip
          case d3 => unfold maxLen; omega
          case d4 => omega
          case d5 => first | omega | (simp; omega)
          intro v1 w5 hown2 hb2
          have hb3 := (hb1.alloc hs3 (.cells #[.int .i64 x, .string b] 36)).trans hb2
          clear hown1 hb1
          go_wp2
          go_roundw
          case rel => exact ⟨j + 1, r + 1, q - 1, by omega, by go_num, by omega, by first | (rw [d5]) | go_num, by omega, by unfold Hid; rw [HS.out.1, HS.out.2, List.length_append, HR.out.2]; exact ⟨rfl, rfl⟩, by rw [HS.out.1, shC_append]; exact hown2, hb3⟩
          case measure => simp [intOf]; omega
        · have HS : Hid (kpt l wh f (j + 1) = kpt l wh f j) := by
            unfold Hid; rw [kpt, if_neg (by rw [hwk]; simp), if_neg (by rw [HR.out.1]; exact h2)]
          have d4 : decide ((0 : Int) < (q : Int)) = false := by rw [decide_eq_false_iff_not]; omega
          clear hwk
          go_wp2
          go_roundw
          case rel => exact ⟨j + 1, r, q, by omega, by go_num, by omega, rfl, hq, by rw [HS.out]; exact HR, by rw [HS.out]; exact hown1, hb1⟩
          case measure => simp [intOf]; omega
      · have HS : Hid ((kpt l wh f (j + 1)).1 = (kpt l wh f j).1 ++ [(x, b)] ∧ (kpt l wh f (j + 1)).2 = q) := by
          unfold Hid; rw [kpt, if_pos hwk, HX.out, HR.out.1]; exact ⟨rfl, rfl⟩
        clear hwk
        go_wp2_with (at_builtin; refine KH.wpList_append_two rfl (.tmp 58) (.tmp 60) 29 rfl w2.heap.size 36 i2 _ 24 Tryd.underlying29 hi2 hx0 hx1 hx2 rfl _ r _ rfl (hown1.alloc _) w4.heap.size 1 (.int .i64 x) (.string b) rfl ?d1 ?d2 rfl rfl ?d3 ?d4 ?d5 ?_)
        first | (case d1 => simp) | skip
        first | (case d2 => simp) | skip
        case d3 => unfold maxLen; omega
        case d4 => omega
        case d5 => first | omega | (simp; omega)
        intro v1 w5 hown2 hb2
        have hb3 := (hb1.alloc hs3 (.cells #[.int .i64 x, .string b] 36)).trans hb2
        clear hown1 hb1
        go_wp2
        go_roundw
        case rel => exact ⟨j + 1, r + 1, q, by omega, by go_num, by omega, rfl, hq, by unfold Hid; rw [HS.out.1, HS.out.2, List.length_append, HR.out.2]; exact ⟨rfl, rfl⟩, by rw [HS.out.1, shC_append]; exact hown2, hb3⟩
        case measure => simp [intOf]; omega
    · obtain rfl : j = n := by omega
      have hd2 : decide ((j : Int) < (j : Int)) = false := by simp
      obtain ⟨Ar, cr, rfl⟩ := KH.own_form hown
      have hin3 : ShIn wr wr.heap.size Ar r (kpt l wh f j).1 := KH.Reads.of_own hown
      go_wp2_with fail
      refine (tape_told _ o hin3 (by unfold maxLen; omega) HM.out).mono ?_; rintro e w5 ⟨rfl, hb5⟩
      go_wp2
      go_ret2
      exact ⟨rfl, hB2.trans ((hb.trans (hb5.mono hsz)).mono (by omega))⟩
end Go.Proofs.YtdeoibgedjbeiaaDoor

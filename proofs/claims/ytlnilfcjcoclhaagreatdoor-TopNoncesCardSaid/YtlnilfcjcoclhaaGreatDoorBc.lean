import Derived.Test.YtlnilfcjcoclhaaGreatDoorBb
import Derived.IntWalk
import Derived.StillTailTactics
import Derived.Deep.RegionHeld3
import Derived.Deep.DrawnRows
import Derived.Laws.CopyOwn
/- The walks of package word: Is, Xor, And, Add, Rot. -/
namespace Go.Proofs.YtlnilfcjcoclhaaGreatDoor
open Go.RowKit

theorem bits_and_i64_nat (a b : Nat) (ha : a < 4611686018427387904) (hb : b < 4611686018427387904) :
    bits .and .i64 (a : Int) (b : Int) = ((a &&& b : Nat) : Int) := by
  have hx : a &&& b < 2 ^ 62 := Nat.and_lt_two_pow _ (by omega)
  have h1 : (BitVec.ofInt 64 (a : Int)).toNat = a := by
    rw [BitVec.ofInt_natCast, BitVec.toNat_ofNat]; exact Nat.mod_eq_of_lt (by omega)
  have h2 : (BitVec.ofInt 64 (b : Int)).toNat = b := by
    rw [BitVec.ofInt_natCast, BitVec.toNat_ofNat]; exact Nat.mod_eq_of_lt (by omega)
  show IntKind.i64.wrap ((BitVec.ofInt 64 (a : Int) &&& BitVec.ofInt 64 (b : Int)).toNat : Int) = _
  rw [BitVec.toNat_and, h1, h2]
  simp only [IntKind.wrap, IntKind.bits, IntKind.signed]
  simp
  omega
theorem bits_or_i64_nat (a b : Nat) (ha : a < 4611686018427387904) (hb : b < 4611686018427387904) :
    bits .or .i64 (a : Int) (b : Int) = ((a ||| b : Nat) : Int) := by
  have hx : a ||| b < 2 ^ 62 := Nat.or_lt_two_pow (by omega) (by omega)
  have h1 : (BitVec.ofInt 64 (a : Int)).toNat = a := by
    rw [BitVec.ofInt_natCast, BitVec.toNat_ofNat]; exact Nat.mod_eq_of_lt (by omega)
  have h2 : (BitVec.ofInt 64 (b : Int)).toNat = b := by
    rw [BitVec.ofInt_natCast, BitVec.toNat_ofNat]; exact Nat.mod_eq_of_lt (by omega)
  show IntKind.i64.wrap ((BitVec.ofInt 64 (a : Int) ||| BitVec.ofInt 64 (b : Int)).toNat : Int) = _
  rw [BitVec.toNat_or, h1, h2]
  simp only [IntKind.wrap, IntKind.bits, IntKind.signed]
  simp
  omega
theorem bits_and_u64_nat (a b : Nat) (ha : a < 4611686018427387904) (hb : b < 4611686018427387904) :
    bits .and .u64 (a : Int) (b : Int) = ((a &&& b : Nat) : Int) := by
  have hx : a &&& b < 2 ^ 62 := Nat.and_lt_two_pow _ (by omega)
  have h1 : (BitVec.ofInt 64 (a : Int)).toNat = a := by
    rw [BitVec.ofInt_natCast, BitVec.toNat_ofNat]; exact Nat.mod_eq_of_lt (by omega)
  have h2 : (BitVec.ofInt 64 (b : Int)).toNat = b := by
    rw [BitVec.ofInt_natCast, BitVec.toNat_ofNat]; exact Nat.mod_eq_of_lt (by omega)
  show IntKind.u64.wrap ((BitVec.ofInt 64 (a : Int) &&& BitVec.ofInt 64 (b : Int)).toNat : Int) = _
  rw [BitVec.toNat_and, h1, h2]
  simp only [IntKind.wrap, IntKind.bits, IntKind.signed]
  simp
  omega
theorem bits_or_u32_nat (a b : Nat) (ha : a < 4294967296) (hb : b < 4294967296) :
    bits .or .u32 (a : Int) (b : Int) = ((a ||| b : Nat) : Int) := by
  have hx : a ||| b < 2 ^ 32 := Nat.or_lt_two_pow (by omega) (by omega)
  have h1 : (BitVec.ofInt 32 (a : Int)).toNat = a := by
    rw [BitVec.ofInt_natCast, BitVec.toNat_ofNat]; exact Nat.mod_eq_of_lt (by omega)
  have h2 : (BitVec.ofInt 32 (b : Int)).toNat = b := by
    rw [BitVec.ofInt_natCast, BitVec.toNat_ofNat]; exact Nat.mod_eq_of_lt (by omega)
  show IntKind.u32.wrap ((BitVec.ofInt 32 (a : Int) ||| BitVec.ofInt 32 (b : Int)).toNat : Int) = _
  rw [BitVec.toNat_or, h1, h2]
  simp only [IntKind.wrap, IntKind.bits, IntKind.signed]
  simp
  omega

/-- a word turned -/
def rotV (x k : Nat) : Nat := ((x * 2 ^ k) % 4294967296) ||| (x / 2 ^ (32 - k))
theorem rotV_lt (x k : Nat) (hx : x < 4294967296) : rotV x k < 4294967296 :=
  Nat.or_lt_two_pow (n := 32) (Nat.mod_lt _ (by omega)) (Nat.lt_of_le_of_lt (Nat.div_le_self _ _) hx)

set_option maxRecDepth 100000 in
theorem rotl_yes (x k : Nat) (w : World) (hx : x < 4294967296) (h1 : 1 ≤ k) (hk : k < 32) :
    Calls Tryz.prog 148 #[.int .u32 x, .int .i64 k] w fun e w' => e = .returned (.int .u32 (rotV x k : Nat)) ∧ w = w' := by
  have h31 : bits .and .u64 (k : Int) 31 = (k : Int) := by
    have := bits_and_u64_nat k 31 (by omega) (by omega)
    have e : k &&& 31 = k := by
      have := Nat.and_two_pow_sub_one_eq_mod k 5
      rw [show (2 : Nat) ^ 5 - 1 = 31 from rfl] at this
      rw [this]; exact Nat.mod_eq_of_lt hk
    rw [e] at this
    exact this
  go_enter Tryz.func148, Tryz.ntmps148
  go_wp2
  go_ret
  have h := bits_or_u32_nat (x * 2 ^ k % 4294967296) (x / 2 ^ (32 - k)) (Nat.mod_lt _ (by omega)) (Nat.lt_of_le_of_lt (Nat.div_le_self _ _) hx)
  refine ⟨KH.ret_int ?_, rfl⟩
  unfold rotV
  rw [← h]
  simp

set_option maxRecDepth 100000 in
theorem is_yes {B n : Nat} {A : Option Addr} (c : Nat) {L : List Nat} {w : World} (h : KH.Reads w B 1 A n ((zi L).map (.int .i64))) (hL : ∀ x ∈ L, x < 4294967296) (hn : n ≤ maxLen) :
    Calls Tryz.prog 72 #[.slice A n c] w fun e w' => e = .returned (.bool true) ∧ w = w' := by
  unfold maxLen at hn
  have hl : L.length = n := by have := h.1; simpa [zi] using this
  have HL := KH.hid (And.intro hl hL); clear hl hL
  go_enter Tryz.func72, Tryz.ntmps72
  go_wp2
  go_loop [7] (fun i => ∃ k : Nat, k ≤ n ∧ i = .int .i64 k) (fun i => n - (intOf i).toNat)
  case atStart => exact ⟨0, Nat.zero_le _, rfl⟩
  case round =>
    obtain ⟨k, hk, rfl⟩ := hrel
    by_cases hlt : k < n
    · obtain ⟨ad, z, rfl, _, hx, hc⟩ := KH.Reads.int h hlt
      have hz : z = ((L.getD k 0 : Nat) : Int) := by
        rw [zi_get (by rw [HL.out.1]; omega)] at hx; injection hx with hx; exact hx.symm
      subst hz
      have hb : L.getD k 0 < 4294967296 := by
        rw [KH.getD_eq (by rw [HL.out.1]; omega)]; exact HL.out.2 _ (List.getElem_mem _)
      clear hx
      generalize L.getD k 0 = y at *
      go_wp2
      go_round
      case rel => exact ⟨k + 1, by omega, by go_num⟩
      case measure => simp [intOf]; omega
    · obtain rfl : k = n := by omega
      go_wp2
      go_ret
      exact ⟨rfl, rfl⟩

set_option maxRecDepth 100000 in
theorem wxor_yes (x y : Nat) (w : World) (hx : x < 4294967296) (hy : y < 4294967296) :
    Calls Tryz.prog 138 #[.int .i64 x, .int .i64 y] w fun e w' => e = .returned (.tuple #[.int .i64 (x ^^^ y : Nat), .bool true]) ∧ Below w.heap.size w w' := by
  have hxor := KH.bits_xor_i64_nat x y (by omega) (by omega)
  have hr := reads_lit w [(x : Int), (y : Int)] 3 w.heap.size rfl
  have hr' : KH.Reads (w.alloc (.cells #[.int .i64 x, .int .i64 y] 3)) (w.heap.size + 1) 1 (some ⟨w.heap.size, 0, none⟩) 2 ((zi [x, y]).map (.int .i64)) := hr
  clear hr
  go_enter Tryz.func138, Tryz.ntmps138
  go_wp2_with fail
  refine (is_yes _ hr' (by intro a ha; simp at ha; omega) (by unfold maxLen; omega)).mono ?_; rintro e w' ⟨rfl, rfl⟩
  go_wp2
  go_ret2
  exact ⟨rfl, (Below.refl _ _).alloc (Nat.le_refl _) _⟩
set_option maxRecDepth 100000 in
theorem wand_yes (x y : Nat) (w : World) (hx : x < 4294967296) (hy : y < 4294967296) :
    Calls Tryz.prog 147 #[.int .i64 x, .int .i64 y] w fun e w' => e = .returned (.tuple #[.int .i64 (x &&& y : Nat), .bool true]) ∧ Below w.heap.size w w' := by
  have hxor := bits_and_i64_nat x y (by omega) (by omega)
  have hr := reads_lit w [(x : Int), (y : Int)] 3 w.heap.size rfl
  have hr' : KH.Reads (w.alloc (.cells #[.int .i64 x, .int .i64 y] 3)) (w.heap.size + 1) 1 (some ⟨w.heap.size, 0, none⟩) 2 ((zi [x, y]).map (.int .i64)) := hr
  clear hr
  go_enter Tryz.func147, Tryz.ntmps147
  go_wp2_with fail
  refine (is_yes _ hr' (by intro a ha; simp at ha; omega) (by unfold maxLen; omega)).mono ?_; rintro e w' ⟨rfl, rfl⟩
  go_wp2
  go_ret2
  exact ⟨rfl, (Below.refl _ _).alloc (Nat.le_refl _) _⟩
set_option maxRecDepth 100000 in
theorem wrot_yes (x k : Nat) (w : World) (hx : x < 4294967296) (h1 : 1 ≤ k) (hk : k < 32) :
    Calls Tryz.prog 139 #[.int .i64 x, .int .i64 k] w fun e w' => e = .returned (.tuple #[.int .i64 (rotV x k : Nat), .bool true]) ∧ Below w.heap.size w w' := by
  have hr := reads_lit w [(x : Int)] 3 w.heap.size rfl
  have hr' : KH.Reads (w.alloc (.cells #[.int .i64 x] 3)) (w.heap.size + 1) 1 (some ⟨w.heap.size, 0, none⟩) 1 ((zi [x]).map (.int .i64)) := hr
  clear hr
  have hrv := rotV_lt x k hx
  go_enter Tryz.func139, Tryz.ntmps139
  go_wp2_with fail
  refine (is_yes _ hr' (by intro a ha; simp at ha; omega) (by unfold maxLen; omega)).mono ?_; rintro e w' ⟨rfl, rfl⟩
  go_wp2_with fail
  refine (rotl_yes x k _ hx h1 hk).mono ?_; rintro e w' ⟨rfl, rfl⟩
  go_wp2
  go_ret2
  exact ⟨rfl, (Below.refl _ _).alloc (Nat.le_refl _) _⟩

/-- the sum of words -/
def adV : List Nat → Nat := List.foldl (fun s x => (s + x) &&& 4294967295) 0
theorem adV_snoc (l : List Nat) (x : Nat) : adV (l ++ [x]) = (adV l + x) &&& 4294967295 := by unfold adV; rw [List.foldl_append]; rfl
theorem adV_lt (l : List Nat) : adV l < 4294967296 := by
  rcases List.eq_nil_or_concat l with rfl | ⟨l', x, rfl⟩
  · exact (by omega : 0 < 4294967296)
  · rw [List.concat_eq_append, adV_snoc]
    exact Nat.and_lt_two_pow (n := 32) _ (by omega)
set_option maxRecDepth 100000 in
theorem wadd_yes {B n : Nat} {A : Option Addr} (c : Nat) {L : List Nat} {w : World} (h : KH.Reads w B 1 A n ((zi L).map (.int .i64))) (hL : ∀ x ∈ L, x < 4294967296) (hn : n ≤ maxLen) :
    Calls Tryz.prog 108 #[.slice A n c] w fun e w' => e = .returned (.tuple #[.int .i64 (adV L : Nat), .bool true]) ∧ w = w' := by
  have hl : L.length = n := by have := h.1; simpa [zi] using this
  have HL := KH.hid (And.intro hl hL); clear hl hL
  have hn9 : n ≤ 9223372036854775807 := by unfold maxLen at hn; exact hn
  go_enter Tryz.func108, Tryz.ntmps108
  go_wp2_with fail
  refine (is_yes _ h HL.out.2 hn).mono ?_; rintro e w' ⟨rfl, rfl⟩
  go_wp2
  go_loop [4, 12] (fun v i => ∃ k : Nat, k ≤ n ∧ i = .int .i64 k ∧ v = .int .i64 (adV (L.take k) : Nat)) (fun _ i => n - (intOf i).toNat)
  case atStart => exact ⟨0, Nat.zero_le _, rfl, rfl⟩
  case round =>
    obtain ⟨k, hk, rfl, rfl⟩ := hrel
    by_cases hlt : k < n
    · obtain ⟨ad, z, rfl, _, hx, hc⟩ := KH.Reads.int h hlt
      have hz : z = ((L.getD k 0 : Nat) : Int) := by
        rw [zi_get (by rw [HL.out.1]; omega)] at hx; injection hx with hx; exact hx.symm
      subst hz
      have hb : L.getD k 0 < 4294967296 := by
        rw [KH.getD_eq (by rw [HL.out.1]; omega)]; exact HL.out.2 _ (List.getElem_mem _)
      have hkl : k < L.length := by rw [HL.out.1]; omega
      have HS : Hid (adV (L.take (k + 1)) = (adV (L.take k) + L.getD k 0) &&& 4294967295) := by
        unfold Hid
        rw [List.take_add_one, List.getElem?_eq_getElem hkl, KH.getD_eq hkl]; exact adV_snoc _ _
      have ha := adV_lt (L.take k)
      clear hx hkl
      generalize L.getD k 0 = y at *
      generalize adV (L.take k) = s at *
      have hand : bits .and .i64 ((s : Int) + (y : Int)) 4294967295 = (((s + y) &&& 4294967295 : Nat) : Int) := bits_and_i64_nat (s + y) 4294967295 (by omega) (by omega)
      go_wp2
      go_round
      case rel => exact ⟨k + 1, by omega, by go_num, by rw [HS.out]⟩
      case measure => simp [intOf]; omega
    · obtain rfl : k = n := by omega
      have HF : Hid (L.take k = L) := List.take_of_length_le (by rw [HL.out.1]; exact Nat.le_refl _)
      rw [HF.out]
      go_wp2
      go_ret2
      exact ⟨rfl, rfl⟩
end Go.Proofs.YtlnilfcjcoclhaaGreatDoor
/- The walks of package digest's small functions. -/
namespace Go.Proofs.YtlnilfcjcoclhaaGreatDoor
open Go.RowKit

set_option maxRecDepth 100000 in
theorem dfall_yes (x n : Nat) (w : World) (hn : n ≤ 32) :
    Calls Tryz.prog 146 #[.int .i64 x, .int .i64 n] w fun e w' => e = .returned (.int .i64 (x / 2 ^ n : Nat)) ∧ w = w' := by
  go_enter Tryz.func146, Tryz.ntmps146
  go_wp2
  go_ret
  refine ⟨KH.ret_int ?_, rfl⟩
  simp
set_option maxRecDepth 100000 in
theorem dback_yes (x n : Nat) (w : World) (hx : x < 4294967296) (h1 : 1 ≤ n) (hn : n < 32) :
    Calls Tryz.prog 136 #[.int .i64 x, .int .i64 n] w fun e w' => e = .returned (.int .i64 (rotV x (32 - n) : Nat)) ∧ Below w.heap.size w w' := by
  have e1 : (32 : Int) - (n : Int) = ((32 - n : Nat) : Int) := by omega
  obtain ⟨m, hm⟩ : ∃ m, 32 - n = m := ⟨_, rfl⟩
  rw [hm] at e1 ⊢
  have m1 : 1 ≤ m := by omega
  have m2 : m < 32 := by omega
  clear hm
  go_enter Tryz.func136, Tryz.ntmps136
  go_wp2_with fail
  refine (wrot_yes x m _ hx m1 m2).mono ?_; rintro e w' ⟨rfl, hb⟩
  go_wp2
  go_ret
  exact ⟨rfl, hb⟩
set_option maxRecDepth 100000 in
theorem dand_yes (x y : Nat) (w : World) (hx : x < 4294967296) (hy : y < 4294967296) :
    Calls Tryz.prog 137 #[.int .i64 x, .int .i64 y] w fun e w' => e = .returned (.int .i64 (x &&& y : Nat)) ∧ Below w.heap.size w w' := by
  go_enter Tryz.func137, Tryz.ntmps137
  go_wp2_with fail
  refine (wand_yes x y _ hx hy).mono ?_; rintro e w' ⟨rfl, hb⟩
  go_wp2
  go_ret
  exact ⟨rfl, hb⟩
set_option maxRecDepth 100000 in
theorem dadd_yes {B n : Nat} {A : Option Addr} (c : Nat) {L : List Nat} {w : World} (h : KH.Reads w B 1 A n ((zi L).map (.int .i64))) (hL : ∀ x ∈ L, x < 4294967296) (hn : n ≤ maxLen) :
    Calls Tryz.prog 134 #[.slice A n c] w fun e w' => e = .returned (.int .i64 (adV L : Nat)) ∧ w = w' := by
  go_enter Tryz.func134, Tryz.ntmps134
  go_wp2_with fail
  refine (wadd_yes c h hL hn).mono ?_; rintro e w' ⟨rfl, rfl⟩
  go_wp2
  go_ret
  exact ⟨rfl, rfl⟩

/-- the words held against one another -/
def xoV : List Nat → Nat := List.foldl (· ^^^ ·) 0
theorem xoV_snoc (l : List Nat) (x : Nat) : xoV (l ++ [x]) = xoV l ^^^ x := by unfold xoV; rw [List.foldl_append]; rfl
theorem xoV_take_lt {l : List Nat} (h : ∀ x ∈ l, x < 4294967296) (k : Nat) : xoV (l.take k) < 4294967296 := by
  induction k with
  | zero => exact (by omega : 0 < 4294967296)
  | succ k ih =>
    rw [List.take_add_one]
    cases hk : l[k]? with
    | none => simpa using ih
    | some x => exact (xoV_snoc _ x).symm ▸ Nat.xor_lt_two_pow (n := 32) ih (h x (List.mem_of_getElem? hk))
theorem xoV_lt {l : List Nat} (h : ∀ x ∈ l, x < 4294967296) : xoV l < 4294967296 := by
  have := xoV_take_lt h l.length
  rwa [List.take_length] at this
set_option maxRecDepth 100000 in
theorem dxor_yes {n : Nat} {A : Option Addr} (c : Nat) {L : List Nat} {w : World} (h : KH.Reads w w.heap.size 1 A n ((zi L).map (.int .i64))) (hL : ∀ x ∈ L, x < 4294967296) (hn : n ≤ maxLen) :
    Calls Tryz.prog 135 #[.slice A n c] w fun e w' => e = .returned (.int .i64 (xoV L : Nat)) ∧ Below w.heap.size w w' := by
  have hl : L.length = n := by have := h.1; simpa [zi] using this
  have HL := KH.hid (And.intro hl hL); clear hl hL
  have hn9 : n ≤ 9223372036854775807 := by unfold maxLen at hn; exact hn
  go_enter Tryz.func135, Tryz.ntmps135
  go_wp2
  go_loopw [3, 8] (fun v i wr => ∃ k : Nat, k ≤ n ∧ i = .int .i64 k ∧ v = .int .i64 (xoV (L.take k) : Nat) ∧ Below w.heap.size w wr) (fun _ i _ => n - (intOf i).toNat)
  case atStart => exact ⟨0, Nat.zero_le _, rfl, rfl, Below.refl _ _⟩
  case round =>
    obtain ⟨k, hk, rfl, rfl, hb⟩ := hrel
    by_cases hlt : k < n
    · obtain ⟨ad, z, rfl, _, hx, hc⟩ := KH.Reads.int (h.below hb) hlt
      have hz : z = ((L.getD k 0 : Nat) : Int) := by
        rw [zi_get (by rw [HL.out.1]; omega)] at hx; injection hx with hx; exact hx.symm
      subst hz
      have hbb : L.getD k 0 < 4294967296 := by
        rw [KH.getD_eq (by rw [HL.out.1]; omega)]; exact HL.out.2 _ (List.getElem_mem _)
      have hkl : k < L.length := by rw [HL.out.1]; omega
      have HS : Hid (xoV (L.take (k + 1)) = xoV (L.take k) ^^^ L.getD k 0) := by
        unfold Hid
        rw [List.take_add_one, List.getElem?_eq_getElem hkl, KH.getD_eq hkl]; exact xoV_snoc _ _
      have ha := xoV_take_lt HL.out.2 k
      have hsz := hb.size
      clear hx hkl
      generalize L.getD k 0 = y at *
      generalize xoV (L.take k) = s at *
      go_wp2_with fail
      refine (wxor_yes s y _ ha hbb).mono ?_; rintro e w2 ⟨rfl, hb2⟩
      go_wp2
      go_roundw
      case rel => exact ⟨k + 1, by omega, by go_num, by rw [HS.out], hb.trans (hb2.mono hsz)⟩
      case measure => simp [intOf]; omega
    · obtain rfl : k = n := by omega
      have HF : Hid (L.take k = L) := List.take_of_length_le (by rw [HL.out.1]; exact Nat.le_refl _)
      rw [HF.out]
      go_wp2
      go_ret
      exact ⟨rfl, hb⟩

/-! ### of words that are laid just so -/
theorem words_lit (w : World) (L : List Nat) : KH.Reads (w.alloc (.cells ((zi L).map (Value.int .i64)).toArray 3)) (w.alloc (.cells ((zi L).map (Value.int .i64)).toArray 3)).heap.size 1 (some ⟨w.heap.size, 0, none⟩) L.length ((zi L).map (.int .i64)) := by
  have h := reads_lit w (zi L) 3 w.heap.size rfl
  rw [zi_length] at h
  exact h.more (by simp)
theorem lits_add (L : List Nat) (w : World) (hL : ∀ x ∈ L, x < 4294967296) (hn : L.length ≤ 10) (c : Nat) :
    Calls Tryz.prog 134 #[.slice (some ⟨w.heap.size, 0, none⟩) L.length c] (w.alloc (.cells ((zi L).map (Value.int .i64)).toArray 3)) fun e w' => e = .returned (.int .i64 (adV L : Nat)) ∧ w.alloc (.cells ((zi L).map (Value.int .i64)).toArray 3) = w' :=
  dadd_yes c (words_lit w L) hL (by unfold maxLen; omega)
theorem lits_xor (L : List Nat) (w : World) (hL : ∀ x ∈ L, x < 4294967296) (hn : L.length ≤ 10) (c : Nat) :
    Calls Tryz.prog 135 #[.slice (some ⟨w.heap.size, 0, none⟩) L.length c] (w.alloc (.cells ((zi L).map (Value.int .i64)).toArray 3)) fun e w' => e = .returned (.int .i64 (xoV L : Nat)) ∧ Below w.heap.size w w' :=
  (dxor_yes c (words_lit w L) hL (by unfold maxLen; omega)).mono fun _ _ ⟨he, hb⟩ => ⟨he, ((Below.refl _ _).alloc (Nat.le_refl _) _).trans (hb.mono (by simp))⟩
theorem all2 {p : Nat → Prop} {a b : Nat} (ha : p a) (hb : p b) : ∀ x ∈ [a, b], p x := by
  intro x hx; simp at hx; rcases hx with rfl | rfl <;> assumption
theorem all3 {p : Nat → Prop} {a b c : Nat} (ha : p a) (hb : p b) (hc : p c) : ∀ x ∈ [a, b, c], p x := by
  intro x hx; simp at hx; rcases hx with rfl | rfl | rfl <;> assumption
theorem all4 {p : Nat → Prop} {a b c d : Nat} (ha : p a) (hb : p b) (hc : p c) (hd : p d) : ∀ x ∈ [a, b, c, d], p x := by
  intro x hx; simp at hx; rcases hx with rfl | rfl | rfl | rfl <;> assumption
theorem all5 {p : Nat → Prop} {a b c d e : Nat} (ha : p a) (hb : p b) (hc : p c) (hd : p d) (he : p e) : ∀ x ∈ [a, b, c, d, e], p x := by
  intro x hx; simp at hx; rcases hx with rfl | rfl | rfl | rfl | rfl <;> assumption
theorem add2_any (a b : Nat) (w : World) (ha : a < 4294967296) (hb : b < 4294967296) :
    Calls Tryz.prog 134 #[.slice (some ⟨w.heap.size, 0, none⟩) 2 2] (w.alloc (.cells #[.int .i64 a, .int .i64 b] 3)) fun e w' => e = .returned (.int .i64 (adV [a, b] : Nat)) ∧ Below w.heap.size w w' :=
  (lits_add [a, b] w (all2 ha hb) (by simp) 2).mono fun _ _ ⟨he, hw⟩ => ⟨he, hw ▸ (Below.refl _ _).alloc (Nat.le_refl _) _⟩
theorem add4_any (a b c d : Nat) (w : World) (ha : a < 4294967296) (hb : b < 4294967296) (hc : c < 4294967296) (hd : d < 4294967296) :
    Calls Tryz.prog 134 #[.slice (some ⟨w.heap.size, 0, none⟩) 4 4] (w.alloc (.cells #[.int .i64 a, .int .i64 b, .int .i64 c, .int .i64 d] 3)) fun e w' => e = .returned (.int .i64 (adV [a, b, c, d] : Nat)) ∧ Below w.heap.size w w' :=
  (lits_add [a, b, c, d] w (all4 ha hb hc hd) (by simp) 4).mono fun _ _ ⟨he, hw⟩ => ⟨he, hw ▸ (Below.refl _ _).alloc (Nat.le_refl _) _⟩
theorem add5_any (a b c d f : Nat) (w : World) (ha : a < 4294967296) (hb : b < 4294967296) (hc : c < 4294967296) (hd : d < 4294967296) (hf : f < 4294967296) :
    Calls Tryz.prog 134 #[.slice (some ⟨w.heap.size, 0, none⟩) 5 5] (w.alloc (.cells #[.int .i64 a, .int .i64 b, .int .i64 c, .int .i64 d, .int .i64 f] 3)) fun e w' => e = .returned (.int .i64 (adV [a, b, c, d, f] : Nat)) ∧ Below w.heap.size w w' :=
  (lits_add [a, b, c, d, f] w (all5 ha hb hc hd hf) (by simp) 5).mono fun _ _ ⟨he, hw⟩ => ⟨he, hw ▸ (Below.refl _ _).alloc (Nat.le_refl _) _⟩
theorem xor2_any (a b : Nat) (w : World) (ha : a < 4294967296) (hb : b < 4294967296) :
    Calls Tryz.prog 135 #[.slice (some ⟨w.heap.size, 0, none⟩) 2 2] (w.alloc (.cells #[.int .i64 a, .int .i64 b] 3)) fun e w' => e = .returned (.int .i64 (xoV [a, b] : Nat)) ∧ Below w.heap.size w w' :=
  lits_xor [a, b] w (all2 ha hb) (by simp) 2
theorem xor3_any (a b c : Nat) (w : World) (ha : a < 4294967296) (hb : b < 4294967296) (hc : c < 4294967296) :
    Calls Tryz.prog 135 #[.slice (some ⟨w.heap.size, 0, none⟩) 3 3] (w.alloc (.cells #[.int .i64 a, .int .i64 b, .int .i64 c] 3)) fun e w' => e = .returned (.int .i64 (xoV [a, b, c] : Nat)) ∧ Below w.heap.size w w' :=
  lits_xor [a, b, c] w (all3 ha hb hc) (by simp) 3
end Go.Proofs.YtlnilfcjcoclhaaGreatDoor
/- The walks of word.Cut and word.Join. -/
namespace Go.Proofs.YtlnilfcjcoclhaaGreatDoor
open Go.RowKit

theorem still_eq2 {P : Program} {f : FuncId} {args : Array Value} {w : World} {v : Value} (h : Calls P f args w fun e w' => e = .returned v ∧ w = w') : Calls P f args w fun e w' => e = .returned v ∧ w' = w :=
  h.mono fun _ _ ⟨h1, h2⟩ => ⟨h1, h2.symm⟩

/-- how many digits stand below byte k of a word -/
def blw (h : Bool) (k : Nat) : Nat := if h then 24 - 8 * (k % 4) else 8 * (k % 4)
theorem blw_le (h : Bool) (k : Nat) : blw h k ≤ 24 := by unfold blw; split <;> omega

theorem places_yes (w : World) : Calls Tryz.prog 73 #[.bool true] w fun e w' => e = .returned (.func (.func 89) #[] #[]) ∧ w = w' := by
  go_enter Tryz.func73, Tryz.ntmps73
  go_wp2
  go_ret
  exact ⟨rfl, rfl⟩
theorem places_no (w : World) : Calls Tryz.prog 73 #[.bool false] w fun e w' => e = .returned (.func (.func 90) #[] #[]) ∧ w = w' := by
  go_enter Tryz.func73, Tryz.ntmps73
  go_wp2
  go_ret
  exact ⟨rfl, rfl⟩
theorem places1_any (k : Nat) (w : World) : Calls Tryz.prog 89 #[.int .i64 ((k : Int) % 4)] w fun e w' => e = .returned (.int .i64 (blw true k : Nat)) ∧ w = w' := by
  have hk : 0 ≤ (k : Int) % 4 ∧ (k : Int) % 4 < 4 := by omega
  have hb : ((blw true k : Nat) : Int) = 24 - 8 * ((k : Int) % 4) := by unfold blw; rw [if_pos rfl]; omega
  rw [hb]
  clear hb
  generalize (k : Int) % 4 = m at *
  go_enter Tryz.func89, Tryz.ntmps89
  go_wp2
  go_ret
  exact ⟨rfl, rfl⟩
theorem places2_any (k : Nat) (w : World) : Calls Tryz.prog 90 #[.int .i64 ((k : Int) % 4)] w fun e w' => e = .returned (.int .i64 (blw false k : Nat)) ∧ w = w' := by
  have hk : 0 ≤ (k : Int) % 4 ∧ (k : Int) % 4 < 4 := by omega
  have hb : ((blw false k : Nat) : Int) = 8 * ((k : Int) % 4) := by unfold blw; rw [if_neg (by simp)]; omega
  rw [hb]
  clear hb
  generalize (k : Int) % 4 = m at *
  go_enter Tryz.func90, Tryz.ntmps90
  go_wp2
  go_ret
  exact ⟨rfl, rfl⟩

/-- the word q of a text's first k bytes -/
def ctF (h : Bool) (s : ByteArray) (q : Nat) : Nat → Nat
  | 0 => 0
  | k + 1 => if k / 4 = q then ctF h s q k ||| (sb s k * 2 ^ blw h k) else ctF h s q k
theorem shl_lt (h : Bool) (s : ByteArray) (k : Nat) : sb s k * 2 ^ blw h k < 4294967296 := by
  have h1 := sb_lt s k
  have h2 : 2 ^ blw h k ≤ 2 ^ 24 := Nat.pow_le_pow_right (by omega) (blw_le h k)
  have : sb s k * 2 ^ blw h k ≤ 255 * 2 ^ 24 := Nat.mul_le_mul (by omega) h2
  omega
theorem ctF_lt (h : Bool) (s : ByteArray) (q k : Nat) : ctF h s q k < 4294967296 := by
  induction k with
  | zero => exact (by omega : 0 < 4294967296)
  | succ k ih =>
    unfold ctF
    split
    · exact Nat.or_lt_two_pow (n := 32) ih (shl_lt h s k)
    · exact ih
/-- the words of a text -/
def cutV (h : Bool) (s : ByteArray) : List Nat := (List.range (s.size / 4)).map fun q => ctF h s q s.size
theorem cutV_length (h : Bool) (s : ByteArray) : (cutV h s).length = s.size / 4 := by simp [cutV]
theorem cutV_lt (h : Bool) (s : ByteArray) : ∀ x ∈ cutV h s, x < 4294967296 := fun x hx => by
  obtain ⟨q, _, rfl⟩ := List.mem_map.1 hx; exact ctF_lt _ _ _ _
def bzW (N : Nat) (F : Nat → Nat) : List Value := (List.range N).map fun o => .int .i64 (F o : Nat)
theorem bzW_get {N o : Nat} (F : Nat → Nat) (h : o < N) : (bzW N F)[o]? = some (.int .i64 (F o : Nat)) := by
  unfold bzW; rw [List.getElem?_map, List.getElem?_range h]; rfl
theorem bzW_congr {N : Nat} {F G : Nat → Nat} (h : ∀ o, o < N → F o = G o) : bzW N F = bzW N G :=
  List.map_congr_left fun o ho => by rw [h o (List.mem_range.1 ho)]
theorem bzW_set {N o v : Nat} (F : Nat → Nat) : (bzW N F).set o (.int .i64 (v : Nat)) = bzW N fun p => if p = o then v else F p := by
  refine List.ext_getElem (by simp [bzW]) fun j h1 h2 => ?_
  simp only [bzW, List.getElem_set, List.getElem_map, List.getElem_range]
  by_cases e : o = j
  · subst e; rw [if_pos rfl, if_pos rfl]
  · rw [if_neg e, if_neg (fun h => e h.symm)]
theorem bzW_length (N : Nat) (F : Nat → Nat) : (bzW N F).length = N := by simp [bzW]
theorem cutV_bz (h : Bool) (s : ByteArray) : (zi (cutV h s)).map (Value.int .i64) = bzW (s.size / 4) fun q => ctF h s q s.size := by
  unfold cutV zi bzW
  rw [List.map_map, List.map_map]
  rfl

set_option maxHeartbeats 1000000 in
set_option maxRecDepth 100000 in
theorem cut_yes (s : ByteArray) (w : World) (m : Nat) (hs : s.size = m * 4) (hm : m ≤ 100) :
    Calls Tryz.prog 74 #[.string s, .bool true] w fun e w' => e = .returned (.tuple #[.slice (some ⟨w.heap.size, 0, none⟩) m m, .bool true]) ∧
      w'.ownsRow w.heap.size 3 1 (.slice (some ⟨w.heap.size, 0, none⟩) m m) m (bzW m fun q => ctF true s q s.size) ∧ Below w.heap.size w w' := by
  obtain ⟨i0, hi, hz0, hz1, hz2⟩ := info_parts int_info
  have hr4 : ((s.size : Int) % 4 != 0) = false := by simp; omega
  have hs9 : s.size ≤ 400 := by omega
  have HS := KH.hid hs
  have hq4 : (s.size : Int) / 4 = (m : Nat) := by omega
  clear hs
  go_enter Tryz.func74, Tryz.ntmps74
  go_wp2_with fail
  refine (places_yes _).mono ?_; rintro e w' ⟨rfl, rfl⟩
  go_wp2_with (at_make; refine wpList_make_full _ rfl _ _ 29 rfl w.heap.size 3 i0 (.int .i64 0) 1 Tryz.underlying29 hi hz0 hz1 .i64 .i64 _ _ m rfl rfl rfl rfl (by rw [hz2]; omega) (by unfold maxLen; omega) (Nat.le_refl _) ?_; intro w3 hown3 hg3)
  have hb3 : Below w.heap.size w w3 := (Below.refl _ _).grown hg3 (Nat.le_refl _) (fun _ h => by cases h)
  rw [show (madeCells (Value.int .i64 0).cells (m * 1)).toList = bzW m fun q => ctF true s q 0 by
    rw [Nat.mul_one]
    refine (toList_madeCells_one _ _).trans ?_
    refine List.ext_getElem (by simp [bzW]) fun j h1 h2 => ?_
    simp [bzW, ctF]] at hown3
  clear hg3 hq4 hr4
  go_loopw [21] (fun i wr => ∃ k : Nat, k ≤ s.size ∧ i = .int .i64 k ∧ wr.ownsRow w.heap.size 3 1 (.slice (some ⟨w.heap.size, 0, none⟩) m m) m (bzW m fun q => ctF true s q k) ∧ Below w.heap.size w wr) (fun i _ => s.size - (intOf i).toNat)
  case atStart => exact ⟨0, Nat.zero_le _, rfl, hown3, hb3⟩
  case round =>
    obtain ⟨k, hk, rfl, ho, hb⟩ := hrel
    clear hown3 hb3
    by_cases hlt : k < s.size
    · have hq : k / 4 < m := by have := HS.out; omega
      have hc := (ho.cellAt (k / 4) (by omega)).trans (bzW_get _ hq)
      have hf := ho.frozenAt (k / 4)
      have hct := ctF_lt true s (k / 4) k
      have hsh := shl_lt true s k
      have hbl := blw_le true k
      have hsb : (s[k]'hlt).toNat = sb s k := sb_get s k hlt
      have hsk : (s[k]'hlt).toNat < 256 := UInt8.toNat_lt _
      have HST : Hid ((bzW m fun q => ctF true s q k).set (k / 4) (.int .i64 (ctF true s (k / 4) k ||| (sb s k * 2 ^ blw true k) : Nat)) = bzW m fun q => ctF true s q (k + 1)) := by
        unfold Hid
        rw [bzW_set]
        refine bzW_congr fun o _ => ?_
        show _ = if k / 4 = o then _ else _
        by_cases e : o = k / 4
        · subst e; rw [if_pos rfl]
        · rw [if_neg e, if_neg (fun h => e h.symm)]
      have HO := KH.hid ho
      have HB := KH.hid hb
      have HSB := KH.hid hsb
      have k0 : (0 : Int) ≤ (k : Int) := by omega
      have k1 : (k : Int) < (s.size : Int) := by omega
      clear ho hb hsb
      generalize ctF true s (k / 4) k = old at *
      have kw : IntKind.i64.wrap ((k : Int) / 4) = (k : Int) / 4 := IntWalk.i64_in _ (by omega)
      have km : IntKind.i64.wrap ((k : Int) % 4) = (k : Int) % 4 := IntWalk.i64_in _ (by omega)
      have kt : ((k : Int) / 4).toNat = k / 4 := by omega
      have k2 : (0 : Int) ≤ (k : Int) / 4 := by omega
      have k3 : (k : Int) / 4 < (m : Int) := by omega
      have wb : IntKind.i64.wrap ((s[k]'hlt).toNat : Int) = ((s[k]'hlt).toNat : Int) := IntWalk.i64_in _ (by omega)
      have ktm : Int.tmod (k : Int) 4 = (k : Int) % 4 := Int.tmod_eq_emod_of_nonneg (by omega)
      go_wp2
      refine wp_region_still_tail 16 (by kernel_rfl) (by kernel_rfl) ?_
      simp only [List.take_succ_cons, List.take_zero, List.drop_succ_cons, List.drop_zero]
      repeat still_step
      still_call (still_eq2 (places1_any k _))
      repeat still_step
      refine wpStill_nil ?_
      clear kw km ktm wb
      have hval : bits .or .i64 (old : Int) (IntKind.i64.wrap (((s[k]'hlt).toNat : Int) * 2 ^ blw true k)) = ((old ||| (sb s k * 2 ^ blw true k) : Nat) : Int) := by
        rw [← bits_or_i64_nat _ _ (by omega) (by omega), HSB.out]
        congr 1
        have : ((sb s k * 2 ^ blw true k : Nat) : Int) = (sb s k : Int) * 2 ^ blw true k := by simp
        rw [← this]
        exact IntWalk.i64_in _ (by omega)
      go_wp2
      have ho6 : (wr.setCell ⟨w.heap.size, k / 4, none⟩ (.int .i64 (old ||| (sb s k * 2 ^ blw true k) : Nat))).drew.ownsRow w.heap.size 3 1 (.slice (some ⟨w.heap.size, 0, none⟩) m m) m (bzW m fun q => ctF true s q (k + 1)) := by
        rw [← HST.out]; exact (HO.out.stored (k / 4) _).1
      have hb6 : Below w.heap.size w (wr.setCell ⟨w.heap.size, k / 4, none⟩ (.int .i64 (old ||| (sb s k * 2 ^ blw true k) : Nat))).drew := (HB.out.setCell (p := ⟨w.heap.size, k / 4, none⟩) (Nat.le_refl _) _).drew
      go_roundw
      case rel => exact ⟨k + 1, by omega, by go_num, ho6, hb6⟩
      case measure => simp [intOf]; omega
    · obtain rfl : k = s.size := by omega
      have hd1 : decide ((s.size : Int) < (s.size : Int)) = false := by simp
      go_wp2
      go_ret2
      exact ⟨rfl, ho, hb⟩

/-- the text of words -/
def joF (h : Bool) (L : List Nat) (i : Nat) : Nat := (L.getD (i / 4) 0 / 2 ^ blw h i) % 256
theorem joF_lt (h : Bool) (L : List Nat) (i : Nat) : joF h L i < 256 := Nat.mod_lt _ (by omega)
def joV (h : Bool) (L : List Nat) : ByteArray := tx (L.length * 4) (joF h L)
theorem joV_size (h : Bool) (L : List Nat) : (joV h L).size = L.length * 4 := tx_size _ _

set_option maxHeartbeats 1000000 in
set_option maxRecDepth 100000 in
theorem join_yes {m : Nat} {A : Option Addr} (c : Nat) {L : List Nat} {w : World} (h : KH.Reads w w.heap.size 1 A m ((zi L).map (.int .i64))) (hL : ∀ x ∈ L, x < 4294967296) (hm : m ≤ 100) :
    Calls Tryz.prog 47 #[.slice A m c, .bool true] w fun e w' => e = .returned (.tuple #[.string (joV true L), .bool true]) ∧ Below w.heap.size w w' := by
  obtain ⟨i1, hi1, hy0, hy1, hy2⟩ := info_parts byte_info
  have hl : L.length = m := by have := h.1; simpa [zi] using this
  have HL := KH.hid (And.intro hl hL)
  have HV : Hid (joV true L = tx (m * 4) (joF true L)) := by unfold Hid joV; rw [hl]
  rw [HV.out]
  clear hl hL
  go_enter Tryz.func47, Tryz.ntmps47
  go_wp2_with fail
  refine (is_yes _ h HL.out.2 (by unfold maxLen; omega)).mono ?_; rintro e w' ⟨rfl, rfl⟩
  go_wp2_with fail
  refine (places_yes _).mono ?_; rintro e w' ⟨rfl, rfl⟩
  go_wp2_with (at_make; refine wpList_make_full _ rfl _ _ 84 rfl w.heap.size 5 i1 (.int .u8 0) 1 Tryz.underlying84 hi1 hy0 hy1 .i64 .i64 _ _ (m * 4) (by first | rfl | (show Value.int _ _ = Value.int _ _; congr 1; omega)) (by first | rfl | (show Value.int _ _ = Value.int _ _; congr 1; omega)) rfl rfl (by rw [hy2]; omega) (by unfold maxLen; omega) (Nat.le_refl _) ?_; intro w3 hown3 hg3)
  have hb3 : Below w.heap.size w w3 := (Below.refl _ _).grown hg3 (Nat.le_refl _) (fun _ h => by cases h)
  rw [show (madeCells (Value.int .u8 0).cells (m * 4 * 1)).toList = bl (m * 4) (fun o => if o < 0 then joF true L o else 0) by
    rw [Nat.mul_one]
    refine (toList_madeCells_one _ _).trans ?_
    refine List.ext_getElem (by simp [bl]) fun j h1 h2 => ?_
    simp [bl]] at hown3
  clear hg3
  go_loopw [20] (fun i wr => ∃ k : Nat, k ≤ m * 4 ∧ i = .int .i64 k ∧ wr.ownsRow w.heap.size 5 1 (.slice (some ⟨w.heap.size, 0, none⟩) (m * 4) (m * 4)) (m * 4) (bl (m * 4) fun o => if o < k then joF true L o else 0) ∧ Below w.heap.size w wr) (fun i _ => m * 4 - (intOf i).toNat)
  case atStart => exact ⟨0, Nat.zero_le _, rfl, hown3, hb3⟩
  case round =>
    obtain ⟨k, hk, rfl, ho, hb⟩ := hrel
    clear hown3 hb3
    by_cases hlt : k < m * 4
    · have hq : k / 4 < m := by omega
      obtain ⟨ad, z, rfl, hab, hx, hc⟩ := KH.Reads.int (h.below hb) hq
      have hz : z = ((L.getD (k / 4) 0 : Nat) : Int) := by
        rw [zi_get (by rw [HL.out.1]; omega)] at hx; injection hx with hx; exact hx.symm
      subst hz
      have hL8 : L.getD (k / 4) 0 < 4294967296 := by
        rw [KH.getD_eq (by rw [HL.out.1]; omega)]; exact HL.out.2 _ (List.getElem_mem _)
      have hco := (ho.cellAt k (by omega)).trans (bl_get _ hlt)
      have hf := ho.frozenAt k
      have hbl := blw_le true k
      have HJ : Hid (joF true L k = (L.getD (k / 4) 0 / 2 ^ blw true k) % 256) := rfl
      have HST : Hid ((bl (m * 4) fun o => if o < k then joF true L o else 0).set k (.int .u8 ((L.getD (k / 4) 0 / 2 ^ blw true k) % 256 : Nat)) = bl (m * 4) fun o => if o < k + 1 then joF true L o else 0) := by
        unfold Hid
        rw [bl_set]
        refine bl_congr fun o _ => ?_
        by_cases e : o = k
        · subst e; rw [if_pos rfl, if_pos (by omega)]; rfl
        · rw [if_neg e]
          by_cases h : o < k
          · rw [if_pos h, if_pos (by omega)]
          · rw [if_neg h, if_neg (by omega)]
      have HO := KH.hid ho
      have HB := KH.hid hb
      clear hx ho hb
      generalize L.getD (k / 4) 0 = y at *
      generalize (if k < k then joF true L k else 0) = old at *
      have k0 : (0 : Int) ≤ (k : Int) := by omega
      have k1 : (k : Int) < (m : Int) * 4 := by omega
      have kw : IntKind.i64.wrap ((k : Int) / 4) = (k : Int) / 4 := IntWalk.i64_in _ (by omega)
      have kt : ((k : Int) / 4).toNat = k / 4 := by omega
      have k2 : (0 : Int) ≤ (k : Int) / 4 := by omega
      have k3 : (k : Int) / 4 < (m : Int) := by omega
      have km : IntKind.i64.wrap ((k : Int) % 4) = (k : Int) % 4 := IntWalk.i64_in _ (by omega)
      have ktm : Int.tmod (k : Int) 4 = (k : Int) % 4 := Int.tmod_eq_emod_of_nonneg (by omega)
      go_wp2
      refine wp_region_still_tail 14 (by kernel_rfl) (by kernel_rfl) ?_
      simp only [List.take_succ_cons, List.take_zero, List.drop_succ_cons, List.drop_zero]
      repeat still_step
      still_call (still_eq2 (places1_any k _))
      repeat still_step
      refine wpStill_nil ?_
      clear kw km ktm
      have hval : IntKind.u8.wrap ((y : Int) / 2 ^ blw true k) = (((y / 2 ^ blw true k) % 256 : Nat) : Int) := by
        rw [IntKind.wrap_u8]; simp
      generalize (y / 2 ^ blw true k) % 256 = v at *
      go_wp2
      have ho6 : (wr.setCell ⟨w.heap.size, k, none⟩ (.int .u8 (v : Nat))).drew.ownsRow w.heap.size 5 1 (.slice (some ⟨w.heap.size, 0, none⟩) (m * 4) (m * 4)) (m * 4) (bl (m * 4) fun o => if o < k + 1 then joF true L o else 0) := by
        rw [← HST.out]; exact (HO.out.stored k _).1
      have hb6 : Below w.heap.size w (wr.setCell ⟨w.heap.size, k, none⟩ (.int .u8 (v : Nat))).drew := (HB.out.setCell (p := ⟨w.heap.size, k, none⟩) (Nat.le_refl _) _).drew
      generalize (wr.setCell ⟨w.heap.size, k, none⟩ (.int .u8 (v : Nat))).drew = wz at *
      go_roundw
      case rel => exact ⟨k + 1, by omega, by go_num, ho6, hb6⟩
      case measure => simp [intOf]; omega
    · obtain rfl : k = m * 4 := by omega
      have hd1 : decide (((m * 4 : Nat) : Int) < ((m * 4 : Nat) : Int)) = false := by simp
      have hd2 : decide ((m : Int) * 4 < (m : Int) * 4) = false := by simp
      rw [bl_congr (G := joF true L) (fun o ho => by rw [if_pos ho]), bl_map] at ho
      have hback := conv_own ho
      have HTX : Hid (strOfNums ((List.range (m * 4)).map fun o => ((joF true L o : Nat) : Int)) = tx (m * 4) (joF true L)) := rfl
      rw [HTX.out] at hback
      clear ho
      go_wp2
      go_ret2
      exact ⟨rfl, hb⟩
end Go.Proofs.YtlnilfcjcoclhaaGreatDoor
/- Contracts of digest's small functions, as the drawn regions meet them. -/
namespace Go.Proofs.YtlnilfcjcoclhaaGreatDoor
open Go.RowKit

def falV (x n : Nat) : Nat := x / 2 ^ n
theorem falV_lt (x n : Nat) (hx : x < 4294967296) : falV x n < 4294967296 := Nat.lt_of_le_of_lt (Nat.div_le_self _ _) hx
def anV (x y : Nat) : Nat := x &&& y
theorem anV_lt (x y : Nat) (hx : x < 4294967296) : anV x y < 4294967296 := Nat.lt_of_le_of_lt Nat.and_le_left hx
theorem dback_at (x n m : Nat) (w : World) (hx : x < 4294967296) (h1 : 1 ≤ n) (hn : n < 32) (hm : 32 - n = m) :
    Calls Tryz.prog 136 #[.int .i64 x, .int .i64 (OfNat.ofNat n)] w fun e w' => e = .returned (.int .i64 (rotV x m : Nat)) ∧ Below w.heap.size w w' := by
  subst hm; exact dback_yes x n w hx h1 hn
theorem dfall_at (x n : Nat) (w : World) (hn : n ≤ 32) :
    Calls Tryz.prog 146 #[.int .i64 x, .int .i64 (OfNat.ofNat n)] w fun e w' => e = .returned (.int .i64 (falV x n : Nat)) ∧ Below w.heap.size w w' :=
  (dfall_yes x n w hn).mono fun _ _ ⟨he, hw⟩ => ⟨he, hw ▸ Below.refl _ _⟩
theorem dand_at (x y : Nat) (w : World) (hx : x < 4294967296) (hy : y < 4294967296) :
    Calls Tryz.prog 137 #[.int .i64 x, .int .i64 y] w fun e w' => e = .returned (.int .i64 (anV x y : Nat)) ∧ Below w.heap.size w w' := dand_yes x y w hx hy
theorem xo2 {a b : Nat} (ha : a < 4294967296) (hb : b < 4294967296) : xoV [a, b] < 4294967296 := xoV_lt (all2 ha hb)
theorem xo3 {a b c : Nat} (ha : a < 4294967296) (hb : b < 4294967296) (hc : c < 4294967296) : xoV [a, b, c] < 4294967296 := xoV_lt (all3 ha hb hc)
end Go.Proofs.YtlnilfcjcoclhaaGreatDoor
/- The walk of digest.spread. -/
namespace Go.Proofs.YtlnilfcjcoclhaaGreatDoor
open Go.RowKit

/-- the words of a block after k rounds -/
def spS (L : List Nat) : Nat → Nat → Nat
  | 0 => fun j => L.getD j 0
  | k + 1 => fun j => if j = 16 + k then adV [spS L k k, xoV [rotV (spS L k (k + 1)) 25, rotV (spS L k (k + 1)) 14, falV (spS L k (k + 1)) 3], spS L k (k + 9), xoV [rotV (spS L k (k + 14)) 15, rotV (spS L k (k + 14)) 13, falV (spS L k (k + 14)) 10]] else spS L k j
theorem spS_lt {L : List Nat} (h : ∀ x ∈ L, x < 4294967296) (k j : Nat) : spS L k j < 4294967296 := by
  induction k generalizing j with
  | zero =>
    show L.getD j 0 < _
    rw [List.getD]
    cases hj : L[j]? with
    | none => exact (by omega : 0 < 4294967296)
    | some x => exact h x (List.mem_of_getElem? hj)
  | succ k ih =>
    show (if j = 16 + k then _ else _) < _
    split
    · exact adV_lt _
    · exact ih j
def spV (s : ByteArray) (j : Nat) : Nat := spS (cutV true s) 48 j
theorem spV_lt (s : ByteArray) (j : Nat) : spV s j < 4294967296 := spS_lt (cutV_lt true s) 48 j

theorem zlit64 : (#[.int .i64 0, .int .i64 0, .int .i64 0, .int .i64 0, .int .i64 0, .int .i64 0, .int .i64 0, .int .i64 0, .int .i64 0, .int .i64 0, .int .i64 0, .int .i64 0, .int .i64 0, .int .i64 0, .int .i64 0, .int .i64 0, .int .i64 0, .int .i64 0, .int .i64 0, .int .i64 0, .int .i64 0, .int .i64 0, .int .i64 0, .int .i64 0, .int .i64 0, .int .i64 0, .int .i64 0, .int .i64 0, .int .i64 0, .int .i64 0, .int .i64 0, .int .i64 0, .int .i64 0, .int .i64 0, .int .i64 0, .int .i64 0, .int .i64 0, .int .i64 0, .int .i64 0, .int .i64 0, .int .i64 0, .int .i64 0, .int .i64 0, .int .i64 0, .int .i64 0, .int .i64 0, .int .i64 0, .int .i64 0, .int .i64 0, .int .i64 0, .int .i64 0, .int .i64 0, .int .i64 0, .int .i64 0, .int .i64 0, .int .i64 0, .int .i64 0, .int .i64 0, .int .i64 0, .int .i64 0, .int .i64 0, .int .i64 0, .int .i64 0, .int .i64 0] : Array Value) = (bzW 64 fun _ => 0).toArray := by kernel_rfl
/-- a row in a block of its own, and what lay below -/
def Spr (B0 g : Nat) (t : TypeId) (cs : Array Value) (w0 w : World) : Prop := KH.Blk w g t cs ∧ Below B0 w0 w ∧ g < w.heap.size ∧ B0 ≤ w.heap.size
theorem spr_step {B0 g : Nat} {t : TypeId} {cs : Array Value} {w0 w w' : World} (h : Spr B0 g t cs w0 w) (hb : Below w.heap.size w w') : Spr B0 g t cs w0 w' :=
  ⟨h.1.below hb h.2.2.1, h.2.1.trans (hb.mono h.2.2.2), Nat.lt_of_lt_of_le h.2.2.1 hb.size, Nat.le_trans h.2.2.2 hb.size⟩
theorem spr_cell {B0 g : Nat} {t : TypeId} {cs : Array Value} {w0 w : World} (h : Spr B0 g t cs w0 w) (i : Nat) : w.cell? ⟨g, i, none⟩ = cs[i]? := h.1.cell i
theorem spr_lt {B0 g : Nat} {t : TypeId} {cs : Array Value} {w0 w : World} (h : Spr B0 g t cs w0 w) : g < w.heap.size := h.2.2.1
theorem spr_set {B0 g : Nat} {t : TypeId} {cs : Array Value} {w0 w : World} (h : Spr B0 g t cs w0 w) (hg : B0 ≤ g) (i : Nat) (v : Value) : Spr B0 g t (cs.setIfInBounds i v) w0 (w.setCell ⟨g, i, none⟩ v) :=
  ⟨h.1.set_ i v, h.2.1.setCell (p := ⟨g, i, none⟩) hg v, by simpa using h.2.2.1, by simpa using h.2.2.2⟩
theorem bzW_splice (F G : Nat → Nat) (n m : Nat) (h : m ≤ n) : splice (bzW n F) 0 (bzW m G) = bzW n fun j => if j < m then G j else F j := by
  refine List.ext_getElem? fun i => ?_
  unfold splice
  simp only [List.take_zero, List.nil_append, Nat.zero_add, bzW_length]
  rcases Nat.lt_or_ge i m with hi | hi
  · rw [List.getElem?_append_left (by rw [bzW_length]; exact hi), bzW_get _ hi, bzW_get _ (by omega), if_pos hi]
  · rw [List.getElem?_append_right (by rw [bzW_length]; exact hi), bzW_length, List.getElem?_drop, show m + (i - m) = i by omega]
    rcases Nat.lt_or_ge i n with hn | hn
    · rw [bzW_get _ hn, bzW_get _ hn, if_neg (by omega)]
    · rw [List.getElem?_eq_none (by rw [bzW_length]; exact hn), List.getElem?_eq_none (by rw [bzW_length]; exact hn)]
theorem int_size : (Tryz.prog.info? 3).map (·.size) = some 1 := by kernel_rfl
theorem bzW_one {n : Nat} {F : Nat → Nat} : ∀ v ∈ bzW n F, v.oneCell' = true := fun v hv => by
  obtain ⟨o, _, rfl⟩ := List.mem_map.1 hv; rfl
theorem words_info : (Tryz.prog.info? 203).map (·.size) = some 64 := by kernel_rfl

set_option maxHeartbeats 1000000 in
set_option maxRecDepth 100000 in
theorem spread_yes (s : ByteArray) (w : World) (hs : s.size = 64) :
    Calls Tryz.prog 133 #[.string s] w fun e w' => e = .returned (.agg (bzW 64 (spV s)).toArray) ∧ Below w.heap.size w w' := by
  obtain ⟨L, hL⟩ : ∃ L, L = cutV true s := ⟨_, rfl⟩
  have e64 : bzW 64 (spV s) = bzW 64 (spS L 48) := by rw [hL]; rfl
  rw [e64]
  have HLL := KH.hid hL
  clear hL e64
  go_enter Tryz.func133, Tryz.ntmps133
  go_wp2_with fail
  rw [zlit64]
  have hA0 : KH.Blk ((w.alloc (.cells (bzW 64 fun _ => 0).toArray 203)).alloc (.cells (bzW 64 fun _ => 0).toArray 203)) w.heap.size 203 (bzW 64 fun _ => 0).toArray := (KH.Blk.new w _ _).alloc _
  have hA1 : KH.Blk ((w.alloc (.cells (bzW 64 fun _ => 0).toArray 203)).alloc (.cells (bzW 64 fun _ => 0).toArray 203)) (w.heap.size + 1) 203 (bzW 64 fun _ => 0).toArray := by
    have := KH.Blk.new (w.alloc (.cells (bzW 64 fun _ => 0).toArray 203)) 203 (bzW 64 fun _ => 0).toArray
    simpa using this
  have hA3 := ((Below.refl w.heap.size w).alloc (Nat.le_refl _) (.cells (bzW 64 fun _ => 0).toArray 203)).alloc (by simp) (.cells (bzW 64 fun _ => 0).toArray 203)
  have hz1 : w.heap.size + 2 ≤ ((w.alloc (.cells (bzW 64 fun _ => 0).toArray 203)).alloc (.cells (bzW 64 fun _ => 0).toArray 203)).heap.size := by simp
  generalize ((w.alloc (.cells (bzW 64 fun _ => 0).toArray 203)).alloc (.cells (bzW 64 fun _ => 0).toArray 203)) = W at *
  refine (cut_yes s W 16 (by omega) (by omega)).mono ?_; rintro e w3 ⟨rfl, ho3, hb3⟩
  have hs3 := hb3.size
  have hA0' := hA0.below hb3 (by omega)
  have hA1' := hA1.below hb3 (by omega)
  have hB3 := hA3.trans (hb3.mono (by omega))
  have hcs : ∀ j v, (bzW 16 fun q => ctF true s q s.size)[j]? = some v → w3.cell? ((⟨W.heap.size, 0, none⟩ : Addr).add j) = some v := fun j v hv => by
    have hj : j < 16 := by
      rcases Nat.lt_or_ge j 16 with h | h
      · exact h
      · rw [List.getElem?_eq_none (by rw [bzW_length]; exact h)] at hv; cases hv
    rw [addr_at, ho3.cellAt j (by omega)]; exact hv
  have HCS := KH.hid hcs
  have HSPL := KH.hid (bzW_splice (fun _ => 0) (fun q => ctF true s q s.size) 64 16 (by omega))
  have HS := KH.hid hs
  clear hcs hA0 hA1 hA3 hb3 ho3 hs
  go_wp2_with ((with_reducible show wpList _ _ _ (⟨some 16, _, _, _, _, _⟩ :: _) _ _); refine wpList_copy_splice rfl (.tmp 14) (.tmp 15) 29 29 rfl 3 Tryz.underlying29 int_size _ _ 64 _ 16 _ rfl rfl (w.heap.size + 1) 0 (bzW 64 fun _ => 0) 203 hA1' (bzW 16 fun q => ctF true s q s.size) (by rw [bzW_length]; rfl) (fun _ => ⟨rfl, _, rfl, HCS.out⟩) (by rw [bzW_length, bzW_length]; omega) bzW_one (w.heap.size + 1) w3 (Below.refl _ _) (Nat.le_refl _) ?_; intro w4 hg4 hb4)
  have hg5 : KH.Blk w4 (w.heap.size + 1) 203 (bzW 64 (spS (cutV true s) 0)).toArray := by
    have h := hg4.out
    rw [HSPL.out] at h
    have e : (bzW 64 fun j => if j < 16 then ctF true s j s.size else 0) = bzW 64 (spS (cutV true s) 0) := by
      refine bzW_congr fun j _ => ?_
      show _ = (cutV true s).getD j 0
      have hl : (cutV true s).length = 16 := by rw [cutV_length, HS.out]
      by_cases hj : j < 16
      · rw [if_pos hj, KH.getD_eq (by rw [hl]; exact hj)]
        unfold cutV
        rw [List.getElem_map, List.getElem_range]
      · rw [if_neg hj, List.getD, List.getElem?_eq_none (by rw [hl]; omega)]; rfl
    rw [e] at h
    exact h
  have hz4 : w.heap.size + 1 < w4.heap.size := hg5.lt
  have hS0 : Spr (w.heap.size + 1) (w.heap.size + 1) 203 (bzW 64 (spS (cutV true s) 0)).toArray w3 w4 := ⟨hg5, hb4, hz4, by omega⟩
  have hlt := cutV_lt true s
  rw [← HLL.out] at hlt hS0
  have HLT := KH.hid hlt
  clear hlt
  clear hg4 hg5 hb4 hz4 hA1' HSPL HCS hz1
  go_loopw [6] (fun i wr => ∃ k : Nat, k ≤ 48 ∧ i = .int .i64 ((k : Int) + 16) ∧ Spr (w.heap.size + 1) (w.heap.size + 1) 203 (bzW 64 (spS L k)).toArray w3 wr) (fun i _ => 64 - (intOf i).toNat)
  case atStart => exact ⟨0, Nat.zero_le _, rfl, hS0⟩
  case round =>
    obtain ⟨k, hk, rfl, hS⟩ := hrel
    clear hS0
    by_cases hlt : k < 48
    · have hcp := (spr_cell hS (k + 1)).trans ((List.getElem?_toArray).trans (bzW_get _ (show k + 1 < 64 by omega)))
      have hcq := (spr_cell hS (k + 14)).trans ((List.getElem?_toArray).trans (bzW_get _ (show k + 14 < 64 by omega)))
      have hk1 := (List.getElem?_toArray).trans (bzW_get (N := 64) (spS L k) (show k < 64 by omega))
      have hk2 := (List.getElem?_toArray).trans (bzW_get (N := 64) (spS L k) (show k + 9 < 64 by omega))
      have hk3 := (List.getElem?_toArray).trans (bzW_get (N := 64) (spS L k) (show k + 16 < 64 by omega))
      have hp := spS_lt HLT.out k (k + 1)
      have hq := spS_lt HLT.out k (k + 14)
      have ha := spS_lt HLT.out k k
      have ha7 := spS_lt HLT.out k (k + 9)
      have HST : Hid ((bzW 64 (spS L k)).toArray.setIfInBounds (k + 16) (.int .i64 (adV [spS L k k, xoV [rotV (spS L k (k + 1)) 25, rotV (spS L k (k + 1)) 14, falV (spS L k (k + 1)) 3], spS L k (k + 9), xoV [rotV (spS L k (k + 14)) 15, rotV (spS L k (k + 14)) 13, falV (spS L k (k + 14)) 10]] : Nat)) = (bzW 64 (spS L (k + 1))).toArray) := by
        unfold Hid
        rw [List.setIfInBounds_toArray, bzW_set]
        congr 1
        refine bzW_congr fun o _ => ?_
        show _ = if o = 16 + k then _ else _
        rw [Nat.add_comm 16 k]
      have k0 : (0 : Int) ≤ (k : Int) + 1 := by omega
      have k14 : (k : Int) + 14 < 64 := by omega
      have d64 : decide ((k : Int) + 16 < 64) = true := by rw [decide_eq_true_iff]; omega
      generalize spS L k (k + 1) = p at *
      generalize spS L k (k + 14) = q at *
      generalize spS L k k = a16 at *
      generalize spS L k (k + 9) = a7 at *
      have e15 : IntKind.i64.wrap ((k : Int) + 16 - 15) = (k : Int) + 1 := by rw [show (k : Int) + 16 - 15 = (k : Int) + 1 by omega]; exact IntWalk.i64_in _ (by omega)
      have e2 : IntKind.i64.wrap ((k : Int) + 16 - 2) = (k : Int) + 14 := by rw [show (k : Int) + 16 - 2 = (k : Int) + 14 by omega]; exact IntWalk.i64_in _ (by omega)
      have t1 : ((k : Int) + 1).toNat = k + 1 := by omega
      have t14 : ((k : Int) + 14).toNat = k + 14 := by omega
      have k014 : (0 : Int) ≤ (k : Int) + 14 := by omega
      have k1 : (k : Int) + 1 < 64 := by omega
      go_wp2
      go_quiet (fail)
      go_wp2
      have hS' : Spr (w.heap.size + 1) (w.heap.size + 1) 203 (bzW 64 (spS L k)).toArray w3 (wr.drewN nq).drew := ⟨hS.1, below_drewN (below_drewN hS.2.1 nq) 1, hS.2.2.1, hS.2.2.2⟩
      clear e15 e2 hcp hcq hS k0 k014
      generalize wr.drewN nq = wq at *
      have hS := hS'
      have hc1 := (spr_cell hS k).trans hk1
      have hc2 := (spr_cell hS (k + 9)).trans hk2
      have hp1 := rotV_lt p 25 hp
      have hp2 := rotV_lt p 14 hp
      have hp3 := falV_lt p 3 hp
      have hq1 := rotV_lt q 15 hq
      have hq2 := rotV_lt q 13 hq
      have hq3 := falV_lt q 10 hq
      have hx1 := xo3 hp1 hp2 hp3
      have hx2 := xo3 hq1 hq2 hq3
      have kk0 : (0 : Int) ≤ (k : Int) := by omega
      have kk9 : (0 : Int) ≤ (k : Int) + 9 := by omega
      have kk16 : (0 : Int) ≤ (k : Int) + 16 := by omega
      have kl0 : (k : Int) < 64 := by omega
      have kl9 : (k : Int) + 9 < 64 := by omega
      have kl16 : (k : Int) + 16 < 64 := by omega
      have t9 : ((k : Int) + 9).toNat = k + 9 := by omega
      have t16 : ((k : Int) + 16).toNat = k + 16 := by omega
      have e0 : IntKind.i64.wrap (k : Int) = (k : Int) := IntWalk.i64_in _ (by omega)
      have e16 : IntKind.i64.wrap ((k : Int) + 16 - 16) = (k : Int) := by rw [show (k : Int) + 16 - 16 = (k : Int) by omega]; exact IntWalk.i64_in _ (by omega)
      have e7 : IntKind.i64.wrap ((k : Int) + 16 - 7) = (k : Int) + 9 := by rw [show (k : Int) + 16 - 7 = (k : Int) + 9 by omega]; exact IntWalk.i64_in _ (by omega)
      clear hS'
      go_region_held3 (fun w' => w'.cell? ⟨w.heap.size + 1, k, none⟩ = some (.int .i64 a16) ∧ w'.cell? ⟨w.heap.size + 1, k + 9, none⟩ = some (.int .i64 a7)) (first | exact ⟨by assumption, by assumption⟩ | exact ⟨(World.cell?_alloc_lt _ _ _ (spr_lt hS)).trans hc1, (World.cell?_alloc_lt _ _ _ (spr_lt hS)).trans hc2⟩ | exact ⟨(World.cell?_setCell_other _ _ _ _ (fun e => by injection e with _ e; omega)).trans hc1, (World.cell?_setCell_other _ _ _ _ (fun e => by injection e with _ e; omega)).trans hc2⟩ | go_keep)
        (first
          | ((with_reducible (go_at_call 136)); (with_reducible refine (dback_at p 7 25 _ (by omega) (by omega) (by omega) (by omega)).mono ?_); rintro e w7 ⟨rfl, hb7⟩; have hS := spr_step hS hb7; have hc1 := (spr_cell hS k).trans hk1; have hc2 := (spr_cell hS (k + 9)).trans hk2; have hcs := (spr_cell hS (k + 16)).trans hk3; have hfs := hS.1.frozen (k + 16))
          | ((with_reducible (go_at_call 136)); (with_reducible refine (dback_at p 18 14 _ (by omega) (by omega) (by omega) (by omega)).mono ?_); rintro e w7 ⟨rfl, hb7⟩; have hS := spr_step hS hb7; have hc1 := (spr_cell hS k).trans hk1; have hc2 := (spr_cell hS (k + 9)).trans hk2; have hcs := (spr_cell hS (k + 16)).trans hk3; have hfs := hS.1.frozen (k + 16))
          | ((with_reducible (go_at_call 146)); (with_reducible refine (dfall_at p 3 _ (by omega)).mono ?_); rintro e w7 ⟨rfl, hb7⟩; have hS := spr_step hS hb7; have hc1 := (spr_cell hS k).trans hk1; have hc2 := (spr_cell hS (k + 9)).trans hk2; have hcs := (spr_cell hS (k + 16)).trans hk3; have hfs := hS.1.frozen (k + 16))
          | ((with_reducible (go_at_call 135)); (with_reducible refine (xor3_any (rotV p 25) (rotV p 14) (falV p 3) _ (by assumption) (by assumption) (by assumption)).mono ?_); rintro e w7 ⟨rfl, hb7⟩; have hS := spr_step hS hb7; have hc1 := (spr_cell hS k).trans hk1; have hc2 := (spr_cell hS (k + 9)).trans hk2; have hcs := (spr_cell hS (k + 16)).trans hk3; have hfs := hS.1.frozen (k + 16))
          | ((with_reducible (go_at_call 136)); (with_reducible refine (dback_at q 17 15 _ (by omega) (by omega) (by omega) (by omega)).mono ?_); rintro e w7 ⟨rfl, hb7⟩; have hS := spr_step hS hb7; have hc1 := (spr_cell hS k).trans hk1; have hc2 := (spr_cell hS (k + 9)).trans hk2; have hcs := (spr_cell hS (k + 16)).trans hk3; have hfs := hS.1.frozen (k + 16))
          | ((with_reducible (go_at_call 136)); (with_reducible refine (dback_at q 19 13 _ (by omega) (by omega) (by omega) (by omega)).mono ?_); rintro e w7 ⟨rfl, hb7⟩; have hS := spr_step hS hb7; have hc1 := (spr_cell hS k).trans hk1; have hc2 := (spr_cell hS (k + 9)).trans hk2; have hcs := (spr_cell hS (k + 16)).trans hk3; have hfs := hS.1.frozen (k + 16))
          | ((with_reducible (go_at_call 146)); (with_reducible refine (dfall_at q 10 _ (by omega)).mono ?_); rintro e w7 ⟨rfl, hb7⟩; have hS := spr_step hS hb7; have hc1 := (spr_cell hS k).trans hk1; have hc2 := (spr_cell hS (k + 9)).trans hk2; have hcs := (spr_cell hS (k + 16)).trans hk3; have hfs := hS.1.frozen (k + 16))
          | ((with_reducible (go_at_call 135)); (with_reducible refine (xor3_any (rotV q 15) (rotV q 13) (falV q 10) _ (by assumption) (by assumption) (by assumption)).mono ?_); rintro e w7 ⟨rfl, hb7⟩; have hS := spr_step hS hb7; have hc1 := (spr_cell hS k).trans hk1; have hc2 := (spr_cell hS (k + 9)).trans hk2; have hcs := (spr_cell hS (k + 16)).trans hk3; have hfs := hS.1.frozen (k + 16))
          | ((with_reducible (go_at_call 134)); (with_reducible refine (add4_any a16 (xoV [rotV p 25, rotV p 14, falV p 3]) a7 (xoV [rotV q 15, rotV q 13, falV q 10]) _ (by assumption) (by assumption) (by assumption) (by assumption)).mono ?_); rintro e w7 ⟨rfl, hb7⟩; have hS := spr_step hS hb7; have hc1 := (spr_cell hS k).trans hk1; have hc2 := (spr_cell hS (k + 9)).trans hk2; have hcs := (spr_cell hS (k + 16)).trans hk3; have hfs := hS.1.frozen (k + 16)))
      have hS6 := spr_set hS (Nat.le_refl _) (k + 16) (.int .i64 (adV [a16, xoV [rotV p 25, rotV p 14, falV p 3], a7, xoV [rotV q 15, rotV q 13, falV q 10]] : Nat))
      rw [HST.out] at hS6
      clear e0 e16 e7 hS hc1 hc2 hcs hfs
      go_wp2
      go_roundw
      case rel => exact ⟨k + 1, by omega, by go_num, hS6⟩
      case measure => simp [intOf]; omega
    · obtain rfl : k = 48 := by omega
      have hB := hB3.trans (hS.2.1.mono (by omega))
      have hT0 := hA0'.below hS.2.1 (by omega)
      have hrg : wr.rangeAt (w.heap.size + 1) 0 (bzW 64 (spS L 48)) := fun j v hv => by
        rw [Nat.zero_add, spr_cell hS j, List.getElem?_toArray]; exact hv
      have hth : wr.there w.heap.size 0 64 := fun j hj => by
        rw [Nat.zero_add]
        exact ⟨by rw [hT0.cell j, List.getElem?_toArray, bzW_get _ hj]; rfl, hT0.frozen j⟩
      have hi1 : (Tryz.prog.info? 203).map (·.size) = some (bzW 64 (spS L 48)).length := by rw [bzW_length]; exact words_info
      have hi2 : (Tryz.prog.info? 203).map (·.size) = some (bzW 64 (spS L 48)).toArray.size := by simp only [List.size_toArray, bzW_length]; exact words_info
      have ht2 : wr.there w.heap.size 0 (bzW 64 (spS L 48)).toArray.size := by simp only [List.size_toArray, bzW_length]; exact hth
      have ho2 := all_oneCell_toArray (bzW_one (n := 64) (F := spS L 48))
      have HE := KH.hid (And.intro hi1 (And.intro hi2 (And.intro ht2 (And.intro ho2 hrg))))
      clear hi1 hi2 ht2 ho2 hrg hth hS hT0
      go_wp2_with (first | ((with_reducible show wpList _ _ _ (⟨some 57, _, _, _, _, _⟩ :: _) _ _); refine wpList_load_mid (by rfl) 203 (.tmp 3) (by rfl) (w.heap.size + 1) 0 (by rfl) (bzW 64 (spS L 48)) _ HE.out.2.2.2.2 Tryz.underlying203 rfl HE.out.1 ?_) | ((with_reducible show wpList _ _ _ (⟨none, Op.store _ (Operand.tmp 2) (Operand.tmp 57), _, _, _, _⟩ :: _) _ _); refine wpList_store_mid (by rfl) 203 (.tmp 2) (.tmp 57) (by rfl) w.heap.size 0 (bzW 64 (spS L 48)).toArray (by rfl) (by rfl) HE.out.2.2.1 HE.out.2.1 HE.out.2.2.2.1 ?_))
      have hload := run_loadVar_mid (P := Tryz.prog) (wr.setCells w.heap.size 0 (bzW 64 (spS L 48))) w.heap.size 0 203 (bzW 64 (spS L 48)) _ (World.rangeAt_setCells_same _ _ _ _ (by have := HE.out.2.2.1; simp only [List.size_toArray] at this; exact this)) Tryz.underlying203 rfl HE.out.1
      refine bodyPost_ret (v := .agg (bzW 64 (spS L 48)).toArray) (results_cell Tryz.results133 (by rfl) hload) rfl ⟨rfl, below_setCells (Nat.le_refl _) _ _ _ hB⟩
end Go.Proofs.YtlnilfcjcoclhaaGreatDoor

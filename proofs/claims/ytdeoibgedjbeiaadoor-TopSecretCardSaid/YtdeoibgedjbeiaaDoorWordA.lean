/- The walks of package word: Is, Xor, And, Add, Rot. -/
import Derived.Test.YtdeoibgedjbeiaaDoorWords
import Derived.Test.YtdeoibgedjbeiaaDoorTapeA
import Derived.Test.YtdeoibgedjbeiaaDoorPolyE
import Derived.IntWalk
namespace Go.Proofs.YtdeoibgedjbeiaaDoor
open Go.RowKit

theorem bits_and_i64_nat (a b : Nat) (ha : a < 4611686018427387904) (hb : b < 4611686018427387904) :
    bits .and .i64 (a : Int) (b : Int) = ((a &&& b : Nat) : Int) := by
  have hx : a &&& b < 2 ^ 62 := Nat.and_lt_two_pow _ (by omega)
  have h1 : (BitVec.ofInt 64 (a : Int)).toNat = a := by
    rw [BitVec.ofInt_natCast, BitVec.toNat_ofNat]; exact Nat.mod_eq_of_lt (by omega)
  have h2 : (BitVec.ofInt 64 (b : Int)).toNat = b := by
    rw [BitVec.ofInt_natCast, BitVec.toNat_ofNat]; exact Nat.mod_eq_of_lt (by omega)
  show IntKind.i64.wrap ((BitVec.ofInt 64 (a : Int) &&& BitVec.ofInt 64 (b : Int)).toNat : Int) = _
  rw [BitVec.toNat_and, h1, h2]
  simp only [IntKind.wrap, IntKind.bits, IntKind.signed]
  simp
  omega
theorem bits_or_i64_nat (a b : Nat) (ha : a < 4611686018427387904) (hb : b < 4611686018427387904) :
    bits .or .i64 (a : Int) (b : Int) = ((a ||| b : Nat) : Int) := by
  have hx : a ||| b < 2 ^ 62 := Nat.or_lt_two_pow (by omega) (by omega)
  have h1 : (BitVec.ofInt 64 (a : Int)).toNat = a := by
    rw [BitVec.ofInt_natCast, BitVec.toNat_ofNat]; exact Nat.mod_eq_of_lt (by omega)
  have h2 : (BitVec.ofInt 64 (b : Int)).toNat = b := by
    rw [BitVec.ofInt_natCast, BitVec.toNat_ofNat]; exact Nat.mod_eq_of_lt (by omega)
  show IntKind.i64.wrap ((BitVec.ofInt 64 (a : Int) ||| BitVec.ofInt 64 (b : Int)).toNat : Int) = _
  rw [BitVec.toNat_or, h1, h2]
  simp only [IntKind.wrap, IntKind.bits, IntKind.signed]
  simp
  omega
theorem bits_and_u64_nat (a b : Nat) (ha : a < 4611686018427387904) (hb : b < 4611686018427387904) :
    bits .and .u64 (a : Int) (b : Int) = ((a &&& b : Nat) : Int) := by
  have hx : a &&& b < 2 ^ 62 := Nat.and_lt_two_pow _ (by omega)
  have h1 : (BitVec.ofInt 64 (a : Int)).toNat = a := by
    rw [BitVec.ofInt_natCast, BitVec.toNat_ofNat]; exact Nat.mod_eq_of_lt (by omega)
  have h2 : (BitVec.ofInt 64 (b : Int)).toNat = b := by
    rw [BitVec.ofInt_natCast, BitVec.toNat_ofNat]; exact Nat.mod_eq_of_lt (by omega)
  show IntKind.u64.wrap ((BitVec.ofInt 64 (a : Int) &&& BitVec.ofInt 64 (b : Int)).toNat : Int) = _
  rw [BitVec.toNat_and, h1, h2]
  simp only [IntKind.wrap, IntKind.bits, IntKind.signed]
  simp
  omega
theorem bits_or_u32_nat (a b : Nat) (ha : a < 4294967296) (hb : b < 4294967296) :
    bits .or .u32 (a : Int) (b : Int) = ((a ||| b : Nat) : Int) := by
  have hx : a ||| b < 2 ^ 32 := Nat.or_lt_two_pow (by omega) (by omega)
  have h1 : (BitVec.ofInt 32 (a : Int)).toNat = a := by
    rw [BitVec.ofInt_natCast, BitVec.toNat_ofNat]; exact Nat.mod_eq_of_lt (by omega)
  have h2 : (BitVec.ofInt 32 (b : Int)).toNat = b := by
    rw [BitVec.ofInt_natCast, BitVec.toNat_ofNat]; exact Nat.mod_eq_of_lt (by omega)
  show IntKind.u32.wrap ((BitVec.ofInt 32 (a : Int) ||| BitVec.ofInt 32 (b : Int)).toNat : Int) = _
  rw [BitVec.toNat_or, h1, h2]
  simp only [IntKind.wrap, IntKind.bits, IntKind.signed]
  simp
  omega

/-- a word turned -/
def rotV (x k : Nat) : Nat := ((x * 2 ^ k) % 4294967296) ||| (x / 2 ^ (32 - k))
theorem rotV_lt (x k : Nat) (hx : x < 4294967296) : rotV x k < 4294967296 :=
  Nat.or_lt_two_pow (n := 32) (Nat.mod_lt _ (by omega)) (Nat.lt_of_le_of_lt (Nat.div_le_self _ _) hx)

set_option maxRecDepth 100000 in
theorem rotl_yes (x k : Nat) (w : World) (hx : x < 4294967296) (h1 : 1 ≤ k) (hk : k < 32) :
    Calls Tryd.prog 69 #[.int .u32 x, .int .i64 k] w fun e w' => e = .returned (.int .u32 (rotV x k : Nat)) ∧ w = w' := by
  have h31 : bits .and .u64 (k : Int) 31 = (k : Int) := by
    have := bits_and_u64_nat k 31 (by omega) (by omega)
    have e : k &&& 31 = k := by
      have := Nat.and_two_pow_sub_one_eq_mod k 5
      rw [show (2 : Nat) ^ 5 - 1 = 31 from rfl] at this
      rw [this]; exact Nat.mod_eq_of_lt hk
    rw [e] at this
    exact this
  go_enter Tryd.func69, Tryd.ntmps69
  go_wp2
  go_ret
  have h := bits_or_u32_nat (x * 2 ^ k % 4294967296) (x / 2 ^ (32 - k)) (Nat.mod_lt _ (by omega)) (Nat.lt_of_le_of_lt (Nat.div_le_self _ _) hx)
  refine ⟨KH.ret_int ?_, rfl⟩
  unfold rotV
  rw [← h]
  simp

set_option maxRecDepth 100000 in
theorem is_yes {B n : Nat} {A : Option Addr} (c : Nat) {L : List Nat} {w : World} (h : KH.Reads w B 1 A n ((zi L).map (.int .i64))) (hL : ∀ x ∈ L, x < 4294967296) (hn : n ≤ maxLen) :
    Calls Tryd.prog 54 #[.slice A n c] w fun e w' => e = .returned (.bool true) ∧ w = w' := by
  unfold maxLen at hn
  have hl : L.length = n := by have := h.1; simpa [zi] using this
  have HL := KH.hid (And.intro hl hL); clear hl hL
  go_enter Tryd.func54, Tryd.ntmps54
  go_wp2
  go_loop [7] (fun i => ∃ k : Nat, k ≤ n ∧ i = .int .i64 k) (fun i => n - (intOf i).toNat)
  case atStart => exact ⟨0, Nat.zero_le _, rfl⟩
  case round =>
    obtain ⟨k, hk, rfl⟩ := hrel
    by_cases hlt : k < n
    · obtain ⟨ad, z, rfl, _, hx, hc⟩ := KH.Reads.int h hlt
      have hz : z = ((L.getD k 0 : Nat) : Int) := by
        rw [zi_get (by rw [HL.out.1]; omega)] at hx; injection hx with hx; exact hx.symm
      subst hz
      have hb : L.getD k 0 < 4294967296 := by
        rw [KH.getD_eq (by rw [HL.out.1]; omega)]; exact HL.out.2 _ (List.getElem_mem _)
      clear hx
      generalize L.getD k 0 = y at *
      go_wp2
      go_round
      case rel => exact ⟨k + 1, by omega, by go_num⟩
      case measure => simp [intOf]; omega
    · obtain rfl : k = n := by omega
      go_wp2
      go_ret
      exact ⟨rfl, rfl⟩

set_option maxRecDepth 100000 in
theorem wxor_yes (x y : Nat) (w : World) (hx : x < 4294967296) (hy : y < 4294967296) :
    Calls Tryd.prog 64 #[.int .i64 x, .int .i64 y] w fun e w' => e = .returned (.tuple #[.int .i64 (x ^^^ y : Nat), .bool true]) ∧ Below w.heap.size w w' := by
  have hxor := KH.bits_xor_i64_nat x y (by omega) (by omega)
  have hr := reads_lit w [(x : Int), (y : Int)] 3 w.heap.size rfl
  have hr' : KH.Reads (w.alloc (.cells #[.int .i64 x, .int .i64 y] 3)) (w.heap.size + 1) 1 (some ⟨w.heap.size, 0, none⟩) 2 ((zi [x, y]).map (.int .i64)) := hr
  clear hr
  go_enter Tryd.func64, Tryd.ntmps64
  go_wp2_with fail
  refine (is_yes _ hr' (by intro a ha; simp at ha; omega) (by unfold maxLen; omega)).mono ?_; rintro e w' ⟨rfl, rfl⟩
  go_wp2
  go_ret2
  exact ⟨rfl, (Below.refl _ _).alloc (Nat.le_refl _) _⟩
set_option maxRecDepth 100000 in
theorem wand_yes (x y : Nat) (w : World) (hx : x < 4294967296) (hy : y < 4294967296) :
    Calls Tryd.prog 66 #[.int .i64 x, .int .i64 y] w fun e w' => e = .returned (.tuple #[.int .i64 (x &&& y : Nat), .bool true]) ∧ Below w.heap.size w w' := by
  have hxor := bits_and_i64_nat x y (by omega) (by omega)
  have hr := reads_lit w [(x : Int), (y : Int)] 3 w.heap.size rfl
  have hr' : KH.Reads (w.alloc (.cells #[.int .i64 x, .int .i64 y] 3)) (w.heap.size + 1) 1 (some ⟨w.heap.size, 0, none⟩) 2 ((zi [x, y]).map (.int .i64)) := hr
  clear hr
  go_enter Tryd.func66, Tryd.ntmps66
  go_wp2_with fail
  refine (is_yes _ hr' (by intro a ha; simp at ha; omega) (by unfold maxLen; omega)).mono ?_; rintro e w' ⟨rfl, rfl⟩
  go_wp2
  go_ret2
  exact ⟨rfl, (Below.refl _ _).alloc (Nat.le_refl _) _⟩
set_option maxRecDepth 100000 in
theorem wrot_yes (x k : Nat) (w : World) (hx : x < 4294967296) (h1 : 1 ≤ k) (hk : k < 32) :
    Calls Tryd.prog 65 #[.int .i64 x, .int .i64 k] w fun e w' => e = .returned (.tuple #[.int .i64 (rotV x k : Nat), .bool true]) ∧ Below w.heap.size w w' := by
  have hr := reads_lit w [(x : Int)] 3 w.heap.size rfl
  have hr' : KH.Reads (w.alloc (.cells #[.int .i64 x] 3)) (w.heap.size + 1) 1 (some ⟨w.heap.size, 0, none⟩) 1 ((zi [x]).map (.int .i64)) := hr
  clear hr
  have hrv := rotV_lt x k hx
  go_enter Tryd.func65, Tryd.ntmps65
  go_wp2_with fail
  refine (is_yes _ hr' (by intro a ha; simp at ha; omega) (by unfold maxLen; omega)).mono ?_; rintro e w' ⟨rfl, rfl⟩
  go_wp2_with fail
  refine (rotl_yes x k _ hx h1 hk).mono ?_; rintro e w' ⟨rfl, rfl⟩
  go_wp2
  go_ret2
  exact ⟨rfl, (Below.refl _ _).alloc (Nat.le_refl _) _⟩

/-- the sum of words -/
def adV : List Nat → Nat := List.foldl (fun s x => (s + x) &&& 4294967295) 0
theorem adV_snoc (l : List Nat) (x : Nat) : adV (l ++ [x]) = (adV l + x) &&& 4294967295 := by unfold adV; rw [List.foldl_append]; rfl
theorem adV_lt (l : List Nat) : adV l < 4294967296 := by
  rcases List.eq_nil_or_concat l with rfl | ⟨l', x, rfl⟩
  · exact (by omega : 0 < 4294967296)
  · rw [List.concat_eq_append, adV_snoc]
    exact Nat.and_lt_two_pow (n := 32) _ (by omega)
set_option maxRecDepth 100000 in
theorem wadd_yes {B n : Nat} {A : Option Addr} (c : Nat) {L : List Nat} {w : World} (h : KH.Reads w B 1 A n ((zi L).map (.int .i64))) (hL : ∀ x ∈ L, x < 4294967296) (hn : n ≤ maxLen) :
    Calls Tryd.prog 63 #[.slice A n c] w fun e w' => e = .returned (.tuple #[.int .i64 (adV L : Nat), .bool true]) ∧ w = w' := by
  have hl : L.length = n := by have := h.1; simpa [zi] using this
  have HL := KH.hid (And.intro hl hL); clear hl hL
  have hn9 : n ≤ 9223372036854775807 := by unfold maxLen at hn; exact hn
  go_enter Tryd.func63, Tryd.ntmps63
  go_wp2_with fail
  refine (is_yes _ h HL.out.2 hn).mono ?_; rintro e w' ⟨rfl, rfl⟩
  go_wp2
  go_loop [4, 12] (fun v i => ∃ k : Nat, k ≤ n ∧ i = .int .i64 k ∧ v = .int .i64 (adV (L.take k) : Nat)) (fun _ i => n - (intOf i).toNat)
  case atStart => exact ⟨0, Nat.zero_le _, rfl, rfl⟩
  case round =>
    obtain ⟨k, hk, rfl, rfl⟩ := hrel
    by_cases hlt : k < n
    · obtain ⟨ad, z, rfl, _, hx, hc⟩ := KH.Reads.int h hlt
      have hz : z = ((L.getD k 0 : Nat) : Int) := by
        rw [zi_get (by rw [HL.out.1]; omega)] at hx; injection hx with hx; exact hx.symm
      subst hz
      have hb : L.getD k 0 < 4294967296 := by
        rw [KH.getD_eq (by rw [HL.out.1]; omega)]; exact HL.out.2 _ (List.getElem_mem _)
      have hkl : k < L.length := by rw [HL.out.1]; omega
      have HS : Hid (adV (L.take (k + 1)) = (adV (L.take k) + L.getD k 0) &&& 4294967295) := by
        unfold Hid
        rw [List.take_add_one, List.getElem?_eq_getElem hkl, KH.getD_eq hkl]; exact adV_snoc _ _
      have ha := adV_lt (L.take k)
      clear hx hkl
      generalize L.getD k 0 = y at *
      generalize adV (L.take k) = s at *
      have hand : bits .and .i64 ((s : Int) + (y : Int)) 4294967295 = (((s + y) &&& 4294967295 : Nat) : Int) := bits_and_i64_nat (s + y) 4294967295 (by omega) (by omega)
      go_wp2
      go_round
      case rel => exact ⟨k + 1, by omega, by go_num, by rw [HS.out]⟩
      case measure => simp [intOf]; omega
    · obtain rfl : k = n := by omega
      have HF : Hid (L.take k = L) := List.take_of_length_le (by rw [HL.out.1]; exact Nat.le_refl _)
      rw [HF.out]
      go_wp2
      go_ret2
      exact ⟨rfl, rfl⟩
end Go.Proofs.YtdeoibgedjbeiaaDoor

/- The walks of field.Bytes and of the document's answer: each byte of a text times a digit. -/
import Derived.Test.YtdeoibgedjbeiaaDoorFieldT
import Derived.Test.YtdeoibgedjbeiaaDoorWords
import Derived.Laws.BytesArg
import Derived.Lib.ConvBytes
import Derived.StillTailTactics
import Derived.Outline
import Derived.Deep.DeepFit
import Derived.Laws.EntriesVeiled
namespace Go.Proofs.YtdeoibgedjbeiaaDoor
open Go.RowKit

/-- the byte of a text at a place -/
def sb (s : ByteArray) (k : Nat) : Nat := (s.data.toList.getD k 0).toNat
theorem sb_lt (s : ByteArray) (k : Nat) : sb s k < 256 := UInt8.toNat_lt _
theorem sb_get (s : ByteArray) (k : Nat) (h : k < s.size) : s[k].toNat = sb s k := by
  unfold sb; rw [List.getD, List.getElem?_eq_getElem (by simpa using h)]; rfl
/-- the bytes of a text, each times a digit -/
def mb (a : Nat) (s : ByteArray) : List Int := s.data.toList.map fun c => ((KH.mul a c.toNat : Nat) : Int)
theorem mb_length (a : Nat) (s : ByteArray) : (mb a s).length = s.size := by unfold mb; rw [List.length_map]; rfl
theorem mb_get (a : Nat) (s : ByteArray) (k : Nat) (h : k < s.size) : (mb a s).getD k 0 = ((KH.mul a (sb s k) : Nat) : Int) := by
  unfold mb sb
  rw [List.getD, List.getD, List.getElem?_map, List.getElem?_eq_getElem (by simpa using h)]; rfl

theorem each_in (b : Nat) (x a : Nat) (p8 p4 : Addr) (w : World) (h : FieldAt b w) (ha : a ≤ 255) (hx : x ≤ 255) (h8 : w.cell? p8 = some (.func (.func 27) #[.pointer (some ⟨b, 0, none⟩)] #[])) (h4 : w.cell? p4 = some (.int .i64 a)) :
    Calls Tryd.prog 42 #[.int .u8 x, .pointer (some p8), .pointer (some p4)] w fun e w' => e = .returned (.int .u8 (KH.mul a x : Nat)) ∧ ∃ n, w' = w.drewN n := by
  have hm := KH.mul_lt a x
  go_enter Tryd.func42, Tryd.ntmps42
  go_wp2_with fail
  refine (mul_in _ _ _ _ h (by omega) (by omega) (by omega) (by omega)).mono ?_; rintro e w' ⟨rfl, n1, rfl⟩
  go_wp2
  go_ret
  exact ⟨rfl, _, rfl⟩

/-- what stands in the row after k rounds -/
structure BytesTo (a : Nat) (s : ByteArray) (B k : Nat) (w : World) : Prop where
  cell : ∀ j, j < s.size → w.cell? ⟨B, j, none⟩ = some (.int .u8 (if j < k then KH.mul a (sb s j) else sb s j : Nat))
  free : ∀ j, j < s.size → w.frozen? ⟨B, j, none⟩ = false

theorem bytesWorld_below (w : World) (e : TypeId) (s : ByteArray) : Below w.heap.size w (Lib.bytesWorld w e s) :=
  ⟨rfl, rfl, rfl, by rw [Lib.bytesWorld_size]; omega, fun k hk => Lib.bytesWorld_at_old w e s k hk⟩

theorem BytesTo.start (a : Nat) (s : ByteArray) (w : World) (e : TypeId) : BytesTo a s w.heap.size 0 (Lib.bytesWorld w e s) := by
  refine ⟨fun j hj => ?_, fun j hj => ?_⟩
  · rw [Lib.bytesWorld_cell w e s j hj, if_neg (by omega)]; rfl
  · have hs : s.size ≤ (Lib.bytesCells w e s).size := by simp [Lib.bytesCells]
    unfold World.frozen?
    rw [Lib.bytesWorld_at_new]
    simp
    omega
theorem BytesTo.step {a : Nat} {s : ByteArray} {B k : Nat} {w : World} (h : BytesTo a s B k w) (hk : k < s.size) : BytesTo a s B (k + 1) (w.setCell ⟨B, k, none⟩ (.int .u8 (KH.mul a (sb s k) : Nat))) := by
  refine ⟨fun j hj => ?_, fun j hj => by rw [World.frozen?_setCell]; exact h.free j hj⟩
  by_cases e : j = k
  · subst e; rw [KH.cell_put_same (h.cell j hj), if_pos (by omega)]
  · rw [KH.cell_put_other (fun h => e h.symm), h.cell j hj]
    by_cases hl : j < k
    · rw [if_pos hl, if_pos (by omega)]
    · rw [if_neg hl, if_neg (by omega)]

set_option maxRecDepth 100000 in
theorem bytes_in (b a : Nat) (s : ByteArray) (w : World) (h : FieldAt b w) (hb : b < w.heap.size) (ha : a ≤ 255) (hs : s.size ≤ maxLen) :
    Calls Tryd.prog 30 #[.pointer (some ⟨b, 0, none⟩), .int .i64 a, .string s] w fun e w' => e = .returned (.tuple #[.string (strOfNums (mb a s)), .bool true]) ∧ Below w.heap.size w w' := by
  have hs' : s.size ≤ 9223372036854775807 := by unfold maxLen at hs; omega
  have hcv : ∀ w, (convert 9 62 (.string s)).run Tryd.prog w = .ok (.slice (some ⟨w.heap.size, 0, none⟩) s.size (grownCap w s.size 0 5)) (Lib.bytesWorld w 5 s) :=
    fun w => Lib.run_convert_string_bytes w _ _ _ s Tryd.underlying9 Tryd.underlying62 Tryd.underlying5
  go_enter Tryd.func30, Tryd.ntmps30
  go_wp2_with fail
  refine (isDigit_in _ _ (by omega) (by omega)).mono ?_; rintro e w' ⟨rfl, rfl⟩
  go_wp2_with fail
  refine (made_any _ _ (h.below ((Below.refl _ _).alloc (Nat.le_refl _) _) hb)).mono ?_; rintro e w' ⟨rfl, rfl⟩
  go_wp2
  generalize grownCap _ _ _ _ = cap
  clear hcv
  obtain ⟨W2, hW2⟩ : ∃ W2, W2 = ((w.alloc (.cells #[.int .i64 a] 3)).alloc (.cells #[.func (.func 27) #[.pointer (some ⟨b, 0, none⟩)] #[]] 60)) := ⟨_, rfl⟩
  have hz2 : W2.heap.size = w.heap.size + 1 + 1 := by subst hW2; simp
  have hb2 : Below w.heap.size w W2 := by subst hW2; exact ((Below.refl _ _).alloc (Nat.le_refl _) _).alloc (by simp) _
  have hc4 : W2.cell? ⟨w.heap.size, 0, none⟩ = some (.int .i64 a) := by subst hW2; simp
  have hc8 : W2.cell? ⟨w.heap.size + 1, 0, none⟩ = some (.func (.func 27) #[.pointer (some ⟨b, 0, none⟩)] #[]) := by subst hW2; simp
  rw [← hW2]
  clear hW2
  have hst := BytesTo.start a s W2 5
  have hbw := bytesWorld_below W2 5 s
  rw [hz2] at hst hbw
  have hsz3 := Lib.bytesWorld_size W2 5 s
  have hF2 := h.below hb2 hb
  have HZ2 := KH.hid hz2; clear hz2
  have hcc4 := fun wr (hr : Below (w.heap.size + 1 + 1) W2 wr) => (hr.cell (p := ⟨w.heap.size, 0, none⟩) (by show w.heap.size < _; omega)).trans hc4
  have hcc8 := fun wr (hr : Below (w.heap.size + 1 + 1) W2 wr) => (hr.cell (p := ⟨w.heap.size + 1, 0, none⟩) (by show w.heap.size + 1 < _; omega)).trans hc8
  clear hc4 hc8
  generalize Lib.bytesWorld W2 5 s = W3 at *
  go_loopw [28] (fun i wr => ∃ k : Nat, k ≤ s.size ∧ i = .int .i64 k ∧ BytesTo a s (w.heap.size + 1 + 1) k wr ∧ Below (w.heap.size + 1 + 1) W2 wr) (fun i _ => s.size - (intOf i).toNat)
  case atStart => exact ⟨0, Nat.zero_le _, rfl, hst, hbw⟩
  case round =>
    obtain ⟨k, hk, rfl, hB, hr⟩ := hrel
    by_cases hlt : k < s.size
    · have hc := hB.cell k hlt
      rw [if_neg (by omega)] at hc
      have hfr := hB.free k hlt
      have HST : Hid (∀ q, BytesTo a s (w.heap.size + 1 + 1) (k + 1) ((wr.drewN q).setCell ⟨w.heap.size + 1 + 1, k, none⟩ (.int .u8 (KH.mul a (sb s k) : Nat)))) := fun q => BytesTo.step (w := wr.drewN q) ⟨hB.cell, hB.free⟩ hlt
      have h4 := hcc4 wr hr
      have h8 := hcc8 wr hr
      have hF : FieldAt b wr := hF2.below (hr.mono (by have := HZ2.out; omega)) (by have := HZ2.out; omega)
      have hlb := sb_lt s k
      have hlm := KH.mul_lt a (sb s k)
      generalize sb s k = x at *
      clear hcc4 hcc8 hB
      go_wp2_with fail
      refine (each_in _ _ _ _ _ _ hF ha (by omega) h8 h4).mono ?_; rintro e w' ⟨rfl, q, rfl⟩
      go_wp2
      go_roundw
      case rel => exact ⟨k + 1, by omega, by go_num, HST.out q, (below_drewN hr q).setCell (p := ⟨w.heap.size + 1 + 1, k, none⟩) (Nat.le_refl _) _⟩
      case measure => simp [intOf]; omega
    · obtain rfl : k = s.size := by omega
      have hback := run_convert_bytes_arg (P := Tryd.prog) wr 62 5 Tryd.underlying62 Tryd.underlying5 (w.heap.size + 1 + 1) 0 s.size cap (mb a s) (mb_length a s) (fun i hi => by rw [Nat.zero_add, hB.cell i hi, if_pos hi, mb_get a s i hi]) 9 Tryd.underlying9
      clear hB hcc4 hcc8
      go_wp2
      go_ret2
      exact ⟨rfl, hb2.trans (hr.mono (by omega))⟩

theorem bytes_out (p : Option Addr) (a : Int) (s : ByteArray) (w : World) (h : p = none ∨ (p ≠ none ∧ (a < 0 ∨ 255 < a))) :
    Calls Tryd.prog 30 #[.pointer p, .int .i64 a, .string s] w fun e w' => e = .returned (.tuple #[.string ⟨#[]⟩, .bool false]) ∧ Below w.heap.size w w' := by
  rcases h with rfl | ⟨hp, h⟩
  · go_enter Tryd.func30, Tryd.ntmps30
    go_wp2
    go_ret2
    exact ⟨rfl, (Below.refl _ _).alloc (Nat.le_refl _) _⟩
  · obtain ⟨q, rfl⟩ := Option.ne_none_iff_exists'.1 hp
    clear hp
    go_enter Tryd.func30, Tryd.ntmps30
    go_wp2_with fail
    refine (isDigit_out _ _ h).mono ?_; rintro e w' ⟨rfl, rfl⟩
    go_wp2
    go_ret2
    exact ⟨rfl, (Below.refl _ _).alloc (Nat.le_refl _) _⟩

/-- the bytes cells of a row of the call's own read as the text -/
theorem conv_own {w : World} {base n : Nat} {v : Value} {xs : List Int} (h : w.ownsRow base 5 1 v n (xs.map (.int .u8))) :
    (convert 62 9 v).run Tryd.prog w = .ok (.string (strOfNums xs)) w := by
  have hl : xs.length = n := by have := h.1; simpa using this
  rcases Nat.eq_zero_or_pos n with h0 | h0
  · subst h0
    have hx : xs = [] := List.length_eq_zero_iff.1 hl
    subst hx
    rcases h.2 with ⟨rfl, _⟩ | ⟨g, cap, cur, rfl, _, _, _, _⟩
    · exact run_convert_bytes_nil w _ _ Tryd.underlying62 Tryd.underlying5 0 0 _ Tryd.underlying9
    · exact run_convert_bytes_arg w _ _ Tryd.underlying62 Tryd.underlying5 g 0 0 cap [] rfl (fun i hi => by omega) _ Tryd.underlying9
  · obtain ⟨g, cap, rfl, _, _⟩ := h.form h0
    refine run_convert_bytes_arg w _ _ Tryd.underlying62 Tryd.underlying5 g 0 n cap xs hl (fun i hi => ?_) _ Tryd.underlying9
    have := h.cellAt i (by omega)
    rw [Nat.zero_add, this, List.getElem?_map, List.getD, List.getElem?_eq_getElem (by omega)]; rfl

theorem byte_info : (Tryd.prog.info? 5).map (fun i => (i.zero, i.size, i.bytes)) = some (some (.int .u8 0), 1, 1) := by kernel_rfl

theorem mb_snoc (a : Nat) (s : ByteArray) (k : Nat) (h : k < s.size) : (mb a s).take (k + 1) = (mb a s).take k ++ [((KH.mul a (sb s k) : Nat) : Int)] := by
  rw [List.take_add_one]
  congr 1
  rw [← mb_get a s k h, List.getD, List.getElem?_eq_getElem (by rw [mb_length]; exact h)]; rfl

/-- what Bytes tells -/
def bytesV (a : Int) (s : ByteArray) : ByteArray := if dgB a then strOfNums (mb a.toNat s) else ⟨#[]⟩
theorem bytes_told (b : Nat) (a : Int) (s : ByteArray) (w : World) (h : FieldAt b w) (hb : b < w.heap.size) (hs : s.size ≤ maxLen) :
    Calls Tryd.prog 30 #[.pointer (some ⟨b, 0, none⟩), .int .i64 a, .string s] w fun e w' => e = .returned (.tuple #[.string (bytesV a s), .bool (dgB a)]) ∧ Below w.heap.size w w' := by
  cases hk : dgB a
  · have hn : ¬ (0 ≤ a ∧ a ≤ 255) := by unfold dgB at hk; simpa using hk
    refine (bytes_out _ a s w (Or.inr ⟨by simp, by omega⟩)).mono fun e w' ⟨he, hw⟩ => ⟨?_, hw⟩
    rw [he]; unfold bytesV; rw [hk]; rfl
  · have hn : 0 ≤ a ∧ a ≤ 255 := by unfold dgB at hk; simpa using hk
    obtain ⟨n, rfl⟩ := Int.eq_ofNat_of_zero_le hn.1
    refine (bytes_in b n s w h hb (by omega) hs).mono fun e w' ⟨he, hw⟩ => ⟨?_, hw⟩
    rw [he]; unfold bytesV; rw [hk]; rfl
end Go.Proofs.YtdeoibgedjbeiaaDoor

/- The document's Many, Same, row, Eval; the append of a share. -/
import Derived.Test.YtdeoibgedjbeiaaShareE
namespace KH
open Go Go.RowKit
/-- append of one element of two cells to a row of the call's own -/
theorem wpList_append_two {P : Program} {w : World} {ops : Array Oper} {rest : List Oper} {o : Oper} {a : Act} {Q : Exit → Act → World → Prop} (hgd : o.guard = none) (s x : Operand) (t : TypeId)
    (ho : o.op = .call { callee := .builtin .append, args := #[s, x], argTypes := #[t, t] })
    (base : Nat) (e : TypeId) (i : TypeInfo) (z : Value) (bytes : Nat) (ht : P.underlying t = some (.slice e)) (hi : P.info? e = some i) (hz : i.zero = some z)
    (hsize : i.size = 2) (hby : i.bytes = bytes) (hzs : z.cells.size = 2)
    (v : Value) (n : Nat) (xs : List Value) (hs : a.eval s = v) (hown : w.ownsRow base e 2 v n xs)
    (b c : Nat) (u1 u2 : Value) (hx : a.eval x = .slice (some ⟨b, 0, none⟩) 1 c) (hu1 : w.cell? ⟨b, 0, none⟩ = some u1) (hu2 : w.cell? ⟨b, 1, none⟩ = some u2) (h1 : u1.oneCell' = true) (h2 : u2.oneCell' = true)
    (h63 : n + 1 ≤ maxLen) (hbytes : (n + 1) * bytes ≤ 140737488355328) (hbase : base ≤ w.heap.size)
    (h : ∀ v' w', w'.ownsRow base e 2 v' (n + 1) (xs ++ [u1, u2]) → Below base w w' → wpList P ops Q rest (a.put o.dst v') w') : wpList P ops Q (o :: rest) a w := by
  refine Go.wpList_append_own w hgd s x t ho base e i z 2 bytes ht hi hz hsize hby hzs (by omega) v n xs hs hown ⟨b, 0, none⟩ 1 c [u1, u2] hx rfl ?_ ?_ h63 hbytes hbase fun v' w' h2 h3 _ => h v' w' h2 ((Below.refl _ _).grown h3 hbase fun k hk => (hown.lt k hk).1)
  · intro j q hj
    match j, hj with
    | 0, hj => simp at hj; subst hj; simpa [Addr.add] using hu1
    | 1, hj => simp at hj; subst hj; simpa [Addr.add] using hu2
  · intro q hq
    simp at hq
    rcases hq with rfl | rfl
    · exact h1
    · exact h2
end KH
namespace Go.Proofs.Ytdeoibgedjbeiaa
open Go.RowKit

theorem bl_map (N : Nat) (F : Nat → Nat) : bl N F = ((List.range N).map fun o => ((F o : Nat) : Int)).map (Value.int .u8) := by simp [bl]

set_option maxRecDepth 100000 in
theorem many_any (c n : Nat) (hn : n ≤ 1000) (w : World) :
    Calls Try.prog 72 #[.int .u8 c, .int .i64 n] w fun e w' => e = .returned (.string (tx n fun _ => c)) ∧ Below w.heap.size w w' := by
  obtain ⟨i0, hi, hz0, hz1, hz2⟩ := info_parts byte_info
  go_enter Try.func72, Try.ntmps72
  go_wp2_with (at_make; refine wpList_make_full _ rfl _ _ 73 rfl w.heap.size 5 i0 (.int .u8 0) 1 Try.underlying73 hi hz0 hz1 .i64 .i64 _ _ n rfl rfl rfl rfl (by rw [hz2]; omega) (by unfold maxLen; omega) (Nat.le_refl _) ?_; intro w3 hown3 hg3)
  have hb3 : Below w.heap.size w w3 := (Below.refl _ _).grown hg3 (Nat.le_refl _) (fun _ h => by cases h)
  rw [show (madeCells (Value.int .u8 0).cells (n * 1)).toList = bl n (fun o => if o < 0 then c else 0) by
    rw [Nat.mul_one]
    refine (toList_madeCells_one _ _).trans ?_
    refine List.ext_getElem (by simp [bl]) fun j h1 h2 => ?_
    simp [bl]] at hown3
  clear hg3
  go_loopw [6] (fun i wr => ∃ k : Nat, k ≤ n ∧ i = .int .i64 k ∧ wr.ownsRow w.heap.size 5 1 (.slice (some ⟨w.heap.size, 0, none⟩) n n) n (bl n fun o => if o < k then c else 0) ∧ Below w.heap.size w wr) (fun i _ => n - (intOf i).toNat)
  case atStart => exact ⟨0, Nat.zero_le _, rfl, hown3, hb3⟩
  case round =>
    obtain ⟨k, hk, rfl, hown, hb⟩ := hrel
    clear hown3 hb3
    by_cases hlt : k < n
    · have hl7 := (hown.cellAt k (by omega)).trans (bl_get _ hlt)
      have hf7 := hown.frozenAt k
      have HS : Hid ((bl n fun o => if o < k then c else 0).set k (.int .u8 c) = bl n fun o => if o < k + 1 then c else 0) := by
        unfold Hid
        rw [bl_set]
        refine bl_congr fun o _ => ?_
        by_cases e : o = k
        · subst e; rw [if_pos rfl, if_pos (by omega)]
        · rw [if_neg e]
          by_cases h : o < k
          · rw [if_pos h, if_pos (by omega)]
          · rw [if_neg h, if_neg (by omega)]
      have HO := KH.hid (hown.stored k (.int .u8 c)).1
      generalize (if k < k then c else 0) = old at *
      clear hown
      go_wp2
      go_roundw
      case rel => exact ⟨k + 1, by omega, by go_num, by rw [← HS.out]; exact HO.out, hb.setCell (p := ⟨w.heap.size, k, none⟩) (Nat.le_refl _) _⟩
      case measure => simp [intOf]; omega
    · obtain rfl : k = n := by omega
      rw [bl_congr (G := fun _ => c) (fun o ho => by rw [if_pos ho]), bl_map] at hown
      have hback := conv_own hown
      clear hown
      go_wp2
      go_ret
      exact ⟨rfl, hb⟩

theorem reval_told {B n : Nat} {A : Option Addr} (c : Nat) {l : List Int} {w : World} (h : KH.Reads w B 1 A n (l.map (.int .i64))) (hn : n ≤ maxLen) (x : Int) :
    Calls Try.prog 70 #[.slice A n c, .int .i64 x] w fun e w' => e = .returned (.tuple #[.int .i64 (evalV l x), .bool (evalK l x)]) ∧ w = w' := by
  have hl : l.length = n := by have := h.1; simpa using this
  have hm : n ≤ 9223372036854775807 := by unfold maxLen at hn; omega
  cases hk : evalK l x
  · have HV : Hid (evalV l x = 0) := by unfold Hid evalV; rw [hk]; rfl
    rw [HV.out]
    by_cases h255 : n ≤ 255
    · cases ha : allB l
      · clear hk hl
        go_enter Try.func70, Try.ntmps70
        go_wp2_with fail
        refine (rAll_any _ h hn).mono ?_; rintro e w' ⟨rfl, rfl⟩
        rw [ha]
        go_wp2
        go_ret2
        exact ⟨rfl, rfl⟩
      · have hx : x < 0 ∨ 255 < x := by
          unfold evalK at hk
          rw [decide_eq_true (by omega), ha] at hk
          have : dgB x = false := hk
          unfold dgB at this; rw [decide_eq_false_iff_not] at this; omega
        clear hk hl
        go_enter Try.func70, Try.ntmps70
        go_wp2_with fail
        refine (rAll_any _ h hn).mono ?_; rintro e w' ⟨rfl, rfl⟩
        rw [ha]
        go_wp2_with fail
        refine (rDigit_out _ _ hx).mono ?_; rintro e w' ⟨rfl, rfl⟩
        go_wp2
        go_ret2
        exact ⟨rfl, rfl⟩
    · clear hk hl
      go_enter Try.func70, Try.ntmps70
      go_wp2
      go_ret2
      exact ⟨rfl, rfl⟩
  · have HV : Hid (evalV l x = ((KH.ev (nats l) x.toNat : Nat) : Int)) := evalV_eq hk
    rw [HV.out]
    obtain ⟨h1, ha, hx⟩ := evalK_iff.1 hk
    have hx' := dgB_iff.1 hx
    obtain ⟨y, rfl⟩ := Int.eq_ofNat_of_zero_le hx'.1
    rw [Int.toNat_natCast]
    have hd := dg_nats ha
    have h255 : n ≤ 255 := by omega
    have hy : y < 256 := by omega
    have HL := KH.hid hl
    have HA := KH.hid ha
    have d255 : decide ((255 : Int) < n) = false := by simp; omega
    clear hx hx' hk hl h1
    go_enter Try.func70, Try.ntmps70
    go_wp2_with fail
    refine (rAll_any _ h hn).mono ?_; rintro e w' ⟨rfl, rfl⟩
    rw [ha]
    clear ha
    go_wp2_with fail
    refine (rDigit_in _ _ (by omega) (by omega)).mono ?_; rintro e w' ⟨rfl, rfl⟩
    go_wp2
    go_loop [6, 7, 8] (fun s p i => ∃ k a b : Nat, k ≤ n ∧ a < 256 ∧ b < 256 ∧ i = .int .i64 k ∧ s = .int .i64 a ∧ p = .int .i64 b ∧ Hid (a ^^^ KH.mul b (KH.ev ((nats l).drop k) y) = KH.ev (nats l) y)) (fun _ _ i => n - (intOf i).toNat)
    case atStart => exact ⟨0, 0, 1, Nat.zero_le _, by omega, by omega, rfl, rfl, rfl, by unfold Hid; rw [Nat.zero_xor, KH.one_mul (KH.ev_lt (by simpa using hd) _)]; rfl⟩
    case round =>
      obtain ⟨k, a, b, hk, ha, hb, rfl, rfl, rfl, HI⟩ := hrel
      by_cases hlt : k < n
      · obtain ⟨ad, z, rfl, _, hz, hc⟩ := h.int hlt
        have hzn := nats_get HA.out hz
        obtain ⟨v, hv⟩ : ∃ v : Nat, v = (nats l).getD k 0 := ⟨_, rfl⟩
        rw [← hv] at hzn
        subst hzn
        have hv8 : v < 256 := by rw [hv]; exact hd.getD k
        have HN : Hid ((a ^^^ KH.mul v b) ^^^ KH.mul (KH.mul b y) (KH.ev ((nats l).drop (k + 1)) y) = KH.ev (nats l) y) := by
          have h2 := HI.out
          rw [KH.ev_drop (nats l) y k (by rw [nats_length, HL.out]; exact hlt), ← hv] at h2
          exact eval_law a b v y _ _ hb hv8 h2
        have hm1 := KH.mul_lt v b
        have hm2 := KH.mul_lt b y
        have hx1 := KH.xor_lt ha hm1
        clear hz hv hd
        go_wp2_with fail
        refine (times_any _ _ _ (by omega) (by omega) (by omega) (by omega)).mono ?_; rintro e w' ⟨rfl, rfl⟩
        rw [Int.toNat_natCast, Int.toNat_natCast]
        go_wp2_with fail
        refine (sum_any _ _ _ (by omega) (by omega) (by omega) (by omega)).mono ?_; rintro e w' ⟨rfl, rfl⟩
        rw [Int.toNat_natCast, Int.toNat_natCast]
        go_wp2_with fail
        refine (times_any _ _ _ (by omega) (by omega) (by omega) (by omega)).mono ?_; rintro e w' ⟨rfl, rfl⟩
        rw [Int.toNat_natCast, Int.toNat_natCast]
        go_wp2
        go_round
        case rel => exact ⟨k + 1, _, _, by omega, hx1, hm2, by go_num, rfl, rfl, HN⟩
        case measure => simp [intOf]; omega
      · obtain rfl : k = n := by omega
        have HE : Hid (a = KH.ev (nats l) y) := by
          have h2 := HI.out
          rw [List.drop_of_length_le (by rw [nats_length]; have := HL.out; omega)] at h2
          unfold Hid
          rw [← h2]
          show a = a ^^^ KH.mul b 0
          rw [KH.mul_zero, Nat.xor_zero]
        go_wp2
        go_ret2
        exact ⟨KH.ret_int_bool (by rw [HE.out]) rfl, rfl⟩

set_option maxRecDepth 100000 in
theorem rrow_any (secret tape : ByteArray) (j k : Nat) (w : World) (hj : j < 32) (hs : secret.size = 32) (hk : 1 ≤ k) (hk2 : k ≤ 255) (ht : tape.size = 32 * (k - 1)) :
    Calls Try.prog 71 #[.string secret, .int .i64 k, .string tape, .int .i64 j] w
      fun e w' => ∃ g c, e = .returned (.slice (some ⟨g, 0, none⟩) k c) ∧ w'.ownsRow w.heap.size 3 1 (.slice (some ⟨g, 0, none⟩) k c) k ((rowL secret tape j (k - 1)).map (.int .i64)) ∧ Below w.heap.size w w' := by
  obtain ⟨i0, hi, hz0, hz1, hz2⟩ := info_parts int_info
  have hjs : j < secret.size := by omega
  have hb8 : (secret[j]'hjs).toNat < 256 := by rw [sb_get secret j hjs]; exact sb_lt _ _
  have HG := KH.hid (sb_get secret j hjs)
  have hown0 : (w.alloc (.cells #[.int .i64 ((secret[j]'hjs).toNat : Nat)] 3)).ownsRow w.heap.size 3 1 (.slice (some ⟨w.heap.size, 0, none⟩) 1 1) 1 ((rowL secret tape j 0).map (.int .i64)) := by
    have := World.ownsRow_lit (base := w.heap.size) (size := 1) w #[.int .i64 ((secret[j]'hjs).toNat : Nat)] 1 (e := 3) (Nat.le_refl _) (by unfold maxLen; omega) rfl
    rw [HG.out] at this
    rw [HG.out]
    exact this
  have hb0 := (Below.refl w.heap.size w).alloc (Nat.le_refl _) (.cells #[.int .i64 ((secret[j]'hjs).toNat : Nat)] 3)
  go_enter Try.func71, Try.ntmps71
  go_wp2
  go_loopw [9, 10] (fun v i wr => ∃ m : Nat, m ≤ k - 1 ∧ i = .int .i64 ((m : Int) + 1) ∧ wr.ownsRow w.heap.size 3 1 v (m + 1) ((rowL secret tape j m).map (.int .i64)) ∧ Below w.heap.size w wr) (fun _ i _ => k - (intOf i).toNat)
  case atStart => exact ⟨0, Nat.zero_le _, rfl, hown0, hb0⟩
  case round =>
    obtain ⟨m, hm, rfl, hown, hb⟩ := hrel
    clear hown0 hb0
    have hsz := hb.size
    by_cases hlt : m < k - 1
    · have hat : 32 * m + j < tape.size := by omega
      have HS := KH.hid (rowL_step secret tape j m)
      have hz8 : ((tape[32 * m + j]'hat).toNat) < 256 := by rw [sb_get tape _ hat]; exact sb_lt _ _
      have hT := sb_get tape _ hat
      have hy8 := sb_lt tape (32 * m + j)
      generalize sb tape (32 * m + j) = y at *
      go_wp2_with (at_builtin; refine KH.wpList_append_one rfl (.tmp 21) (.tmp 30) 34 rfl w.heap.size 3 i0 _ 8 Try.underlying34 hi hz0 hz1 hz2 rfl _ (m + 1) _ rfl (hown.alloc _) wr.heap.size 1 (.int .i64 y) rfl ?c1 rfl ?c3 ?c4 ?c5 ?_)
      first | (case c1 => simp) | skip
      case c3 => unfold maxLen; omega
      case c4 => omega
      case c5 => first | omega | (simp; omega)
      intro v1 w1' hown1 hb1
      have hb2 := (hb.alloc hsz (.cells #[.int .i64 y] 3)).trans hb1
      clear hown hb hT
      go_wp2
      go_roundw
      case rel => exact ⟨m + 1, by omega, by go_num, by rw [HS.out]; simpa using hown1, hb2⟩
      case measure => simp [intOf]; omega
    · obtain rfl : m = k - 1 := by omega
      have e1 : k - 1 + 1 = k := by omega
      rw [e1] at hown
      obtain ⟨g, cap, rfl, _, _⟩ := hown.form hk
      have HE := KH.hid e1
      clear e1
      go_wp2
      go_ret
      exact ⟨g, cap, rfl, hown, hb⟩

theorem bytes_ne {b b' : ByteArray} (h : b ≠ b') : (b.toList == b'.toList) = false := by
  rw [beq_eq_false_iff_ne]
  intro e
  apply h
  rw [ByteArray.toList_eq, ByteArray.toList_eq] at e
  exact ByteArray.ext (Array.toList_inj.1 e)
theorem shtake_eq {l m : List (Int × ByteArray)} {k : Nat} {x : Int × ByteArray} (h : l.take k = m.take k) (h1 : l[k]? = some x) (h2 : m[k]? = some x) : l.take (k + 1) = m.take (k + 1) := by
  rw [List.take_add_one, List.take_add_one, h, h1, h2]

theorem same_any {B B' n m : Nat} {A A' : Option Addr} (c c' : Nat) {l l' : List (Int × ByteArray)} {w : World} (h : ShIn w B A n l) (h' : ShIn w B' A' m l') (hn : n ≤ maxLen) (hm : m ≤ maxLen) :
    Calls Try.prog 42 #[.slice A n c, .slice A' m c'] w fun e w' => e = .returned (.bool (decide (l = l'))) ∧ ∃ q, w' = w.drewN q := by
  unfold maxLen at hn hm
  have hl := h.len
  have hl' := h'.len
  by_cases hnm : n = m
  · subst hnm
    have HL := KH.hid (And.intro hl hl'); clear hl hl'
    go_enter Try.func42, Try.ntmps42
    go_wp2
    go_loopw [5] (fun i wr => ∃ k q : Nat, k ≤ n ∧ i = .int .i64 k ∧ Hid (l.take k = l'.take k) ∧ wr = w.drewN q) (fun i _ => n - (intOf i).toNat)
    case atStart => exact ⟨0, 0, Nat.zero_le _, rfl, rfl, rfl⟩
    case round =>
      obtain ⟨k, q, hk, rfl, HT, rfl⟩ := hrel
      by_cases hlt : k < n
      · obtain ⟨ad, x, b, rfl, _, hx, hc1, hc2⟩ := h.at_ hlt
        obtain ⟨ad', x', b', rfl, _, hx', hc1', hc2'⟩ := h'.at_ hlt
        have HX := KH.hid (And.intro hx hx'); clear hx hx'
        have k0 : (0 : Int) ≤ (k : Int) := by omega
        have k1 : (k : Int) < (n : Int) := by omega
        by_cases hxy : x = x' ∧ b = b'
        · obtain ⟨rfl, rfl⟩ := hxy
          go_wp2
          go_quiet (fail)
          go_wp2
          go_roundw
          case rel => exact ⟨k + 1, _, by omega, by go_num, shtake_eq HT.out HX.out.1 HX.out.2, rfl⟩
          case measure => simp [intOf]; omega
        · have HF : Hid (decide (l = l') = false) := by
            unfold Hid
            rw [decide_eq_false_iff_not]; rintro rfl
            have h1 := HX.out.1; rw [HX.out.2] at h1; injection h1 with h1; injection h1 with h1 h2; exact hxy ⟨h1.symm, h2.symm⟩
          by_cases hx : x = x'
          · subst hx
            have hb : b ≠ b' := fun e => hxy ⟨rfl, e⟩
            have hbe : (b.toList == b'.toList) = false := bytes_ne hb
            clear hxy hb
            go_wp2
            go_quiet (fail)
            go_wp2
            go_ret
            exact ⟨KH.ret_bool HF.out.symm, _, KH.dd⟩
          · have hxe : (x == x') = false := by simpa using hx
            clear hxy hx
            go_wp2
            go_quiet (fail)
            go_wp2
            go_ret
            exact ⟨KH.ret_bool HF.out.symm, _, KH.dd⟩
      · obtain rfl : k = n := by omega
        have HF : Hid (decide (l = l') = true) := by
          unfold Hid
          rw [decide_eq_true_iff]
          have h1 := HT.out
          rw [List.take_of_length_le (by have := HL.out.1; omega), List.take_of_length_le (by have := HL.out.2; omega)] at h1
          exact h1
        go_wp2
        go_ret
        exact ⟨KH.ret_bool HF.out.symm, _, rfl⟩
  · have HF : Hid (decide (l = l') = false) := by
      unfold Hid
      rw [decide_eq_false_iff_not]; rintro rfl; omega
    have hne : ((n : Int) != (m : Int)) = true := by simp; omega
    clear hl hl' hnm
    go_enter Try.func42, Try.ntmps42
    go_wp2
    go_ret
    exact ⟨KH.ret_bool HF.out.symm, 0, rfl⟩
end Go.Proofs.Ytdeoibgedjbeiaa

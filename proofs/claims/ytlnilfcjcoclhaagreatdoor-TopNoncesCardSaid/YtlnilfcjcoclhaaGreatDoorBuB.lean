import Derived.Test.YtlnilfcjcoclhaaGreatDoorStD
import Derived.Test.YtlnilfcjcoclhaaGreatDoorShelf
import Derived.Test.YtlnilfcjcoclhaaGreatDoorTrC
/- Package seal: what a builder is written. -/
namespace Go.Proofs.YtlnilfcjcoclhaaGreatDoor
open Go.RowKit

theorem bu_size : (Tryz.prog.info? 180).map (·.size) = some 2 := by kernel_rfl
theorem bu_lies : liesAt Tryz.prog Tryz.prog.depth 180 (2 / Tryz.prog.cellsOf 180) 0 180 1 = true := by kernel_rfl
set_option maxHeartbeats 1000000 in
set_option maxRecDepth 100000 in
theorem bcheck_used (b : Nat) (w : World) (h0 : w.cell? ⟨b, 0, none⟩ = some (.pointer (some ⟨b, 0, none⟩))) :
    Calls Tryz.prog 127 #[.pointer (some ⟨b, 0, none⟩)] w fun e w' => e = .returned (.tuple #[]) ∧ w' = w := by
  obtain ⟨j, hj, _⟩ := Option.map_eq_some_iff.1 bu_size
  go_enter Tryz.func127, Tryz.ntmps127
  go_wp2
  rw [Lib.run_neq_ptr_same w _ Tryz.underlying178 hj]
  go_wp2
  go_end0
  exact ⟨rfl, rfl⟩
set_option maxHeartbeats 1000000 in
set_option maxRecDepth 100000 in
theorem bcheck_fresh (b : Nat) (w : World) (h0 : w.cell? ⟨b, 0, none⟩ = some (.pointer none)) (hsh : w.shape? b = some (180, 2)) (hfz : w.frozen? ⟨b, 0, none⟩ = false) :
    Calls Tryz.prog 127 #[.pointer (some ⟨b, 0, none⟩)] w fun e w' => e = .returned (.tuple #[]) ∧ w' = w.setCell ⟨b, 0, none⟩ (.pointer (some ⟨b, 0, none⟩)) := by
  obtain ⟨j, hj, hjs⟩ := Option.map_eq_some_iff.1 bu_size
  go_enter Tryz.func127, Tryz.ntmps127
  go_wp2
  rw [Lib.run_to_unsafe w ⟨b, 0, none⟩ Tryz.underlying178 Tryz.underlying207 hj (by rw [hjs]; decide) hsh (Nat.zero_lt_succ 1)]
  simp only [Result.andThen]
  rw [Oper.upon_value]
  go_wp2
  rw [run_callFunc_extern Tryz.func140 (by kernel_rfl) (by kernel_rfl) (by kernel_rfl) (e := Extern.AbiNoEscape.same) (by kernel_rfl)]
  rw [Lib.run_noEscape]
  simp only [Result.andThen]
  rw [Oper.upon_value]
  go_wp2
  rw [Lib.run_from_unsafe w ⟨b, 0, none⟩ Tryz.underlying207 Tryz.underlying178 hj hsh bu_lies]
  simp only [Result.andThen]
  rw [Oper.upon_value]
  go_wp2
  go_end0
  exact ⟨rfl, rfl⟩
/-- a builder that holds bytes -/
abbrev BuI (B b : Nat) (l : List UInt8) (w : World) : Prop := Lib.IsBuilder 180 5 B b (Lib.byteCells l) w
theorem bcheck_any (B b : Nat) (bs : List Value) (w : World) (h : Lib.IsBuilder 180 5 B b bs w) :
    Calls Tryz.prog 127 #[.pointer (some ⟨b, 0, none⟩)] w fun e w' => e = .returned (.tuple #[]) ∧ Lib.BuilderAt 180 5 B b (.pointer (some ⟨b, 0, none⟩)) bs w' ∧ Below B w w' := by
  rcases h with h | h
  · refine (bcheck_fresh b w h.cell0 h.shape h.frozen0).mono ?_
    rintro e w' ⟨rfl, rfl⟩
    exact ⟨rfl, h.used _, (Below.refl B w).setCell (p := ⟨b, 0, none⟩) h.1 _⟩
  · refine (bcheck_used b w h.cell0).mono ?_
    rintro e w' ⟨rfl, rfl⟩
    exact ⟨rfl, h, Below.refl B _⟩
set_option maxHeartbeats 1000000 in
set_option maxRecDepth 100000 in
theorem wbyte_any (B b : Nat) (l : List UInt8) (c : Nat) (w : World) (h : BuI B b l w) (hc : c < 256) (hl : l.length ≤ 100000) (hB : B ≤ w.heap.size) :
    Calls Tryz.prog 118 #[.pointer (some ⟨b, 0, none⟩), .int .u8 (c : Nat)] w fun e w' => e = .returned .nilIface ∧ BuI B b (l ++ [UInt8.ofNat c]) w' ∧ Below B w w' := by
  obtain ⟨i0, hi, hz0, hz1, hz2⟩ := info_parts byte_info
  have HC := KH.hid (bcheck_any B b _ w h)
  have hcc : Lib.byteCells (l ++ [UInt8.ofNat c]) = Lib.byteCells l ++ [.int .u8 (c : Nat)] := by
    simp [Lib.byteCells, UInt8.toNat_ofNat', Nat.mod_eq_of_lt hc]
  have hlen : (Lib.byteCells l).length ≤ 100000 := by simpa [Lib.byteCells] using hl
  have HCC := KH.hid hcc
  clear h hcc hl
  generalize Lib.byteCells l = bs at *
  go_enter Tryz.func118, Tryz.ntmps118
  go_wp2_with fail
  refine HC.out.mono ?_; rintro e w1 ⟨rfl, ⟨hBb, v, hbk, hown, hne⟩, hb1⟩
  have hk : KH.Blk w1 b 180 #[.pointer (some ⟨b, 0, none⟩), v] := hbk
  have hs1 := hb1.size
  obtain ⟨A, c1, rfl⟩ := KH.own_form hown
  have f1 : w1.cell? ⟨b, 1, none⟩ = some (.slice A bs.length c1) := hk.cell 1
  have f1' : (w1.alloc (.cells #[.int .u8 (c : Nat)] 5)).cell? ⟨b, 1, none⟩ = some (.slice A bs.length c1) := (World.cell?_alloc_lt w1 _ _ (by show b < _; exact hk.lt)).trans f1
  have f3 : w1.frozen? ⟨b, 1, none⟩ = false := hk.frozen 1
  have HK := KH.hid hk
  clear hk hbk HC
  go_wp2_with (at_builtin; refine KH.wpList_append_any _ rfl _ _ _ rfl B 5 i0 _ 1 1 Tryz.underlying84 hi hz0 hz1 hz2 rfl (by omega) (.slice A bs.length c1) bs.length _ rfl (hown.alloc _) (w1.heap.size + 1) (some ⟨w1.heap.size, 0, none⟩) 1 1 [.int .u8 (c : Nat)] rfl (one_reads w1 _ _) (by intro u hu; simp at hu; subst hu; rfl) (by unfold maxLen; omega) (by omega) (by simp; omega) ?_; intro v6 w6 hown6 hgrow6 hlies6; obtain ⟨A6, c6, rfl⟩ := KH.own_form hown6; have hk6 := (HK.out.alloc (.cells #[.int .u8 (c : Nat)] 5)).grown hgrow6 (Ne.symm hne); have f4 : w6.cell? ⟨b, 1, none⟩ = some (.slice A bs.length c1) := hk6.cell 1; have f5 : w6.frozen? ⟨b, 1, none⟩ = false := hk6.frozen 1)
  have hb6 : Below B w1 w6 := ((Below.refl w1.heap.size w1).alloc (Nat.le_refl _) (.cells #[.int .u8 (c : Nat)] 5)).mono (by omega) |>.grown hgrow6 (by simp; omega) fun q hq => (hown.lt q hq).1
  go_ret
  refine ⟨rfl, .inr ?_, (hb1.trans hb6).setCell (p := ⟨b, 1, none⟩) hBb _⟩
  rw [HCC.out]
  exact Lib.BuilderAt.put (T := 180) (e := 5) hBb hk6 (bs' := bs ++ [.int .u8 (c : Nat)]) (by simpa using hown6) (by decide)
set_option maxHeartbeats 1000000 in
set_option maxRecDepth 100000 in
theorem wstr_any (B b : Nat) (l : List UInt8) (s : ByteArray) (w : World) (h : BuI B b l w) (hl : l.length ≤ 100000) (hs : s.size ≤ 100000) (hB : B ≤ w.heap.size) :
    Calls Tryz.prog 116 #[.pointer (some ⟨b, 0, none⟩), .string s] w fun e w' => e = .returned (.tuple #[.int .i64 s.size, .nilIface]) ∧ BuI B b (l ++ s.data.toList) w' ∧ Below B w w' := by
  obtain ⟨i0, hi, hz0, hz1, hz2⟩ := info_parts byte_info
  have HC := KH.hid (bcheck_any B b _ w h)
  have hcc : Lib.byteCells (l ++ s.data.toList) = Lib.byteCells l ++ Lib.strCells s := by
    simp [Lib.byteCells, Lib.strCells]
  have hlen : (Lib.byteCells l).length ≤ 100000 := by simpa [Lib.byteCells] using hl
  have HCC := KH.hid hcc
  clear h hcc hl
  generalize Lib.byteCells l = bs at *
  go_enter Tryz.func116, Tryz.ntmps116
  go_wp2_with fail
  refine HC.out.mono ?_; rintro e w1 ⟨rfl, ⟨hBb, v, hbk, hown, hne⟩, hb1⟩
  have hk : KH.Blk w1 b 180 #[.pointer (some ⟨b, 0, none⟩), v] := hbk
  have hs1 := hb1.size
  obtain ⟨A, c1, rfl⟩ := KH.own_form hown
  have f1 : w1.cell? ⟨b, 1, none⟩ = some (.slice A bs.length c1) := hk.cell 1
  have f3 : w1.frozen? ⟨b, 1, none⟩ = false := hk.frozen 1
  have HK := KH.hid hk
  clear hk hbk HC
  go_wp2_with (at_builtin; refine Lib.wpList_append_own_string _ rfl _ _ 84 9 rfl B 5 i0 Tryz.underlying84 Tryz.underlying9 hi hz0 hz1 hz2 _ _ _ rfl hown s rfl (by unfold maxLen; omega) (by omega) (by omega) ?_; intro v6 w6 hown6 hgrow6 hlies6; obtain ⟨A6, c6, rfl⟩ := KH.own_form hown6; have hk6 := HK.out.grown hgrow6 (Ne.symm hne); have f4 : w6.cell? ⟨b, 1, none⟩ = some (.slice A bs.length c1) := hk6.cell 1; have f5 : w6.frozen? ⟨b, 1, none⟩ = false := hk6.frozen 1)
  have hb6 : Below B w1 w6 := (Below.refl B w1).grown hgrow6 (by omega) fun q hq => (hown.lt q hq).1
  go_ret2
  refine ⟨rfl, .inr ?_, (hb1.trans hb6).setCell (p := ⟨b, 1, none⟩) hBb _⟩
  rw [HCC.out]
  exact Lib.BuilderAt.put (T := 180) (e := 5) hBb hk6 (bs' := bs ++ Lib.strCells s) (by simpa [Lib.strCells_length] using hown6) (by decide)
theorem blen_any (B b : Nat) (l : List UInt8) (w : World) (h : BuI B b l w) :
    Calls Tryz.prog 117 #[.pointer (some ⟨b, 0, none⟩)] w fun e w' => e = .returned (.int .i64 (l.length : Nat)) ∧ w' = w := by
  have := Tryz.Builder_Len B b _ w h
  simpa [Lib.byteCells] using this
theorem bstr_any (B b : Nat) (l : List UInt8) (w : World) (h : BuI B b l w) (hB : B ≤ w.heap.size) :
    Calls Tryz.prog 119 #[.pointer (some ⟨b, 0, none⟩)] w fun e w' => e = .returned (.string ⟨l.toArray⟩) ∧ Below B w w' := Tryz.Builder_String_any B b l w h hB
end Go.Proofs.YtlnilfcjcoclhaaGreatDoor
/- Package seal: padded, Told. -/
namespace Go.Proofs.YtlnilfcjcoclhaaGreatDoor
open Go.RowKit

def p16 (n : Nat) : Nat := (16 - n % 16) % 16
/-- the parts, each with bytes 0 behind it -/
def padL (P : List ByteArray) : Nat → List UInt8
  | 0 => []
  | k + 1 => padL P k ++ (P.getD k ⟨#[]⟩).data.toList ++ List.replicate (p16 (padL P k ++ (P.getD k ⟨#[]⟩).data.toList).length) 0
def szI (n i : Nat) : List UInt8 := (List.range i).map fun i => UInt8.ofNat (n / 2 ^ (8 * i) % 256)
def szL (P : List ByteArray) : Nat → List UInt8
  | 0 => []
  | k + 1 => szL P k ++ szI (P.getD k ⟨#[]⟩).size 8
theorem szI_snoc (n i : Nat) : szI n (i + 1) = szI n i ++ [UInt8.ofNat (n / 2 ^ (8 * i) % 256)] := by
  unfold szI; rw [List.range_succ, List.map_append]; rfl
theorem szI_length (n i : Nat) : (szI n i).length = i := by simp [szI]
def pdL (P : List ByteArray) : List UInt8 := padL P P.length ++ szL P P.length
def pdV (P : List ByteArray) : ByteArray := ⟨(pdL P).toArray⟩
theorem padL_le {P : List ByteArray} (h : ∀ i, (P.getD i ⟨#[]⟩).size ≤ 1000) : ∀ k, (padL P k).length ≤ k * 1015
  | 0 => Nat.zero_le _
  | k + 1 => by
    have h1 := padL_le h k
    have h2 := h k
    have h3 : p16 (padL P k ++ (P.getD k ⟨#[]⟩).data.toList).length < 16 := Nat.mod_lt _ (by omega)
    have h4 : (P.getD k ⟨#[]⟩).data.toList.length = (P.getD k ⟨#[]⟩).size := rfl
    rw [List.length_append, h4] at h3
    rw [padL, List.length_append, List.length_append, List.length_replicate, h4]
    omega
theorem szL_length (P : List ByteArray) : ∀ k, (szL P k).length = 8 * k
  | 0 => rfl
  | k + 1 => by rw [szL, List.length_append, szL_length P k, szI_length]; omega
theorem pdV_size {P : List ByteArray} (h : ∀ i, (P.getD i ⟨#[]⟩).size ≤ 1000) (hn : P.length ≤ 2) : (pdV P).size ≤ 2046 := by
  have h1 := padL_le h P.length
  show (pdL P).toArray.size ≤ _
  unfold pdL
  rw [List.size_toArray, List.length_append, szL_length]
  omega
def buLen (w : World) (b : Nat) : Nat := match w.cell? ⟨b, 1, none⟩ with | some (.slice _ n _) => n | _ => 0
theorem buLen_eq {B b : Nat} {l : List UInt8} {w : World} (h : BuI B b l w) : buLen w b = l.length := by
  obtain ⟨p, hB, v, hbk, hown, hne⟩ : ∃ p, Lib.BuilderAt 180 5 B b p (Lib.byteCells l) w := by
    rcases h with h | h
    · exact ⟨_, h⟩
    · exact ⟨_, h⟩
  obtain ⟨A, c, rfl⟩ := KH.own_form hown
  have hk : KH.Blk w b 180 #[p, .slice A (Lib.byteCells l).length c] := hbk
  have f1 : w.cell? ⟨b, 1, none⟩ = some (.slice A (Lib.byteCells l).length c) := hk.cell 1
  unfold buLen
  rw [f1]
  simp [Lib.byteCells]
theorem buI_lt {B b : Nat} {l : List UInt8} {w : World} (h : BuI B b l w) : b < w.heap.size := by
  rcases h with h | h <;> exact h.lt
set_option maxHeartbeats 1000000 in
set_option maxRecDepth 100000 in
theorem padded_any {w : World} {B n c : Nat} {A : Option Addr} {P : List ByteArray} (hr : KH.Reads w B 1 A n (P.map .string)) (hB : B ≤ w.heap.size) (hn : n ≤ 2) (hs : ∀ i, (P.getD i ⟨#[]⟩).size ≤ 1000) :
    Calls Tryz.prog 100 #[.slice A n c] w fun e w' => e = .returned (.string (pdV P)) ∧ Below w.heap.size w w' := by
  have hl : P.length = n := by have := hr.1; simpa using this
  have HR := KH.hid (And.intro hr (And.intro hs (And.intro hl (padL_le hs))))
  have hb0 := (Below.refl w.heap.size w).alloc (Nat.le_refl _) (.cells #[.pointer none, .slice none 0 0] 180)
  have h0 : BuI w.heap.size w.heap.size (padL P 0) (w.alloc (.cells #[.pointer none, .slice none 0 0] 180)) := Lib.fresh_isBuilder _ _ w
  clear hr hs
  go_enter Tryz.func100, Tryz.ntmps100
  go_wp2_with fail
  generalize w.alloc (.cells #[.pointer none, .slice none 0 0] 180) = W at *
  obtain ⟨b, hb⟩ : ∃ b, b = w.heap.size := ⟨_, rfl⟩
  have hbw : w.heap.size ≤ b := by omega
  conv at h0 => arg 2; rw [← hb]
  conv => pattern w.heap.size; rw [← hb]
  clear hb
  go_loopw [5, 11] (fun _ t wr => ∃ k : Nat, k ≤ n ∧ t = .int .i64 k ∧ BuI w.heap.size b (padL P k) wr ∧ Below w.heap.size w wr) (fun _ t _ => n - (intOf t).toNat)
  case atStart => exact ⟨0, Nat.zero_le _, rfl, h0, hb0⟩
  case round =>
    obtain ⟨k, hk, rfl, hI, hb⟩ := hrel
    clear h0 hb0
    have hsz := hb.size
    by_cases hlt : k < n
    · obtain ⟨ad, u, rfl, hbl, hu, hc⟩ := (HR.out.1.below (hb.mono hB)).at_ hlt
      rw [str_at (by rw [HR.out.2.2.1]; exact hlt)] at hu
      obtain rfl := (Option.some.inj hu).symm
      have hpk := HR.out.2.2.2 k
      have hsk := HR.out.2.1 k
      have HP : Hid (padL P (k + 1) = padL P k ++ (P.getD k ⟨#[]⟩).data.toList ++ List.replicate (p16 (padL P k ++ (P.getD k ⟨#[]⟩).data.toList).length) 0) := rfl
      have HWS := KH.hid (wstr_any _ _ _ (P.getD k ⟨#[]⟩) wr hI (by omega) (by omega) hsz)
      generalize P.getD k ⟨#[]⟩ = s0 at *
      have i0' : (0 : Int) ≤ (k : Int) := by omega
      have i1 : (k : Int) < (n : Int) := by omega
      have d1 : decide ((k : Int) < (n : Int)) = true := by rw [decide_eq_true_iff]; omega
      go_wp2_with (go_at_call 116; refine HWS.out.mono ?_; rintro e w5 ⟨rfl, hI5, hb5⟩)
      have hb5' := hb.trans hb5
      have hLl : (padL P k ++ s0.data.toList).length ≤ 5000 := by rw [List.length_append]; have : s0.data.toList.length = s0.size := rfl; omega
      clear hI HWS hpk hb hb5 hu
      generalize padL P k ++ s0.data.toList = L at *
      have hz : p16 L.length < 16 := Nat.mod_lt _ (by omega)
      have hz' : (L.length + p16 L.length) % 16 = 0 := by unfold p16; omega
      have hzz : ∀ j, j < p16 L.length → (L.length + j) % 16 ≠ 0 := fun j hj => by unfold p16 at hj; omega
      have HZ := KH.hid (And.intro hz' hzz)
      have hI0 : BuI w.heap.size b (L ++ List.replicate 0 0) w5 := by rw [List.replicate_zero, List.append_nil]; exact hI5
      clear hI5 hz' hzz
      generalize p16 L.length = z at *
      go_loopw [17] (fun _ wr => ∃ j : Nat, j ≤ z ∧ BuI w.heap.size b (L ++ List.replicate j 0) wr ∧ Below w.heap.size w wr) (fun _ wr => L.length + z - buLen wr b)
      case atStart => exact ⟨0, Nat.zero_le _, hI0, hb5'⟩
      case round =>
        obtain ⟨j, hj, hI, hb⟩ := hrel
        clear hI0 hb5'
        have hsz5 := hb.size
        have hbl1 := buLen_eq hI
        have hll : (L ++ List.replicate j (0 : UInt8)).length = L.length + j := by rw [List.length_append, List.length_replicate]
        have HLN := KH.hid (blen_any _ _ _ _ hI)
        have hrep : L ++ List.replicate j (0 : UInt8) ++ [UInt8.ofNat 0] = L ++ List.replicate (j + 1) 0 := by rw [List.append_assoc, List.replicate_succ']; rfl
        have HWB := KH.hid (wbyte_any _ _ _ 0 _ hI (by omega) (by rw [hll]; omega) hsz5)
        rw [hrep] at HWB
        unfold Hid at HLN
        rw [hll] at HLN
        have HLN' := KH.hid HLN
        rw [hll] at hbl1
        obtain ⟨m, hm⟩ : ∃ m, m = L.length + j := ⟨_, rfl⟩
        rw [← hm] at HLN' hbl1
        have HM := KH.hid hm
        clear HLN hll hrep
        by_cases hjz : j < z
        · have h16 := HZ.out.2 j hjz
          rw [← hm] at h16
          have e1 : ((m : Int) % 16 == 0) = false := by rw [beq_eq_false_iff_ne]; omega
          have e2 : ((m : Int).tmod 16 == 0) = false := by rw [Int.tmod_eq_emod_of_nonneg (by omega)]; exact e1
          have e3 : ((m : Int) % 16 != 0) = true := by simp; omega
          clear hm
          go_wp2_with (first
            | (go_at_call 117; refine HLN'.out.mono ?_; rintro e w7 ⟨rfl, rfl⟩)
            | (go_at_call 118; refine HWB.out.mono ?_; rintro e w8 ⟨rfl, hI8, hb8⟩))
          have hbl8 := buLen_eq hI8
          rw [List.length_append, List.length_replicate] at hbl8
          have hM := HM.out
          exact ⟨⟨j + 1, by omega, hI8, hb.trans hb8⟩, by rw [hbl8, hbl1]; omega⟩
        · obtain rfl : j = z := by omega
          have h16 := HZ.out.1
          rw [← hm] at h16
          have e1 : ((m : Int) % 16 == 0) = true := by rw [beq_iff_eq]; omega
          have e3 : ((m : Int) % 16 != 0) = false := by simp; omega
          rw [← HP.out] at hI
          clear hm
          go_wp2_with (first
            | (go_at_call 117; refine HLN'.out.mono ?_; rintro e w7 ⟨rfl, rfl⟩))
          exact ⟨⟨k + 1, by omega, by go_num, hI, hb⟩, by simp [intOf]; omega⟩
    · obtain rfl : k = n := by omega
      have d1 : decide ((k : Int) < (k : Int)) = false := by rw [decide_eq_false_iff_not]; omega
      go_wp2_with fail
      have HLE := KH.hid (And.intro (HR.out.2.2.2 k) HR.out.2.2.1)
      have hI0 : BuI w.heap.size b (padL P k ++ szL P 0) wr := by rw [show szL P 0 = [] from rfl, List.append_nil]; exact hI
      clear hI hk
      go_loopw [7, 8, 24] (fun _ _ t wr => ∃ q : Nat, q ≤ k ∧ t = .int .i64 q ∧ BuI w.heap.size b (padL P k ++ szL P q) wr ∧ Below w.heap.size w wr) (fun _ _ t _ => k - (intOf t).toNat)
      case atStart => exact ⟨0, Nat.zero_le _, rfl, hI0, hb⟩
      case round =>
        obtain ⟨q, hq, rfl, hI, hb⟩ := hrel
        clear hI0
        have hsz := hb.size
        by_cases hlt : q < k
        · obtain ⟨ad, u, rfl, hbl, hu, hc⟩ := (HR.out.1.below (hb.mono hB)).at_ hlt
          rw [str_at (by rw [HR.out.2.2.1]; exact hlt)] at hu
          obtain rfl := (Option.some.inj hu).symm
          have hsk := HR.out.2.1 q
          have HP : Hid (padL P k ++ szL P (q + 1) = padL P k ++ szL P q ++ szI (P.getD q ⟨#[]⟩).size 8) := by
            unfold Hid; rw [List.append_assoc]; rfl
          have hLl : (padL P k ++ szL P q).length ≤ 2100 := by rw [List.length_append, szL_length]; have := HLE.out.1; omega
          generalize P.getD q ⟨#[]⟩ = s0 at *
          have i0' : (0 : Int) ≤ (q : Int) := by omega
          have i1 : (q : Int) < (k : Int) := by omega
          have d2 : decide ((q : Int) < (k : Int)) = true := by rw [decide_eq_true_iff]; omega
          generalize padL P k ++ szL P q = L at *
          have hI0 : BuI w.heap.size b (L ++ szI s0.size 0) wr := by rw [show szI s0.size 0 = [] from rfl, List.append_nil]; exact hI
          clear hI hu d1
          go_wp2_with fail
          go_loopw [8, 28] (fun _ t wr => ∃ i : Nat, i ≤ 8 ∧ t = .int .i64 i ∧ BuI w.heap.size b (L ++ szI s0.size i) wr ∧ Below w.heap.size w wr) (fun _ t _ => 8 - (intOf t).toNat)
          case atStart => exact ⟨0, Nat.zero_le _, rfl, hI0, hb⟩
          case round =>
            obtain ⟨i, hi, rfl, hI, hb⟩ := hrel
            clear hI0
            have hsz5 := hb.size
            by_cases hi8 : i < 8
            · have i2 : (0 : Int) ≤ (i : Int) := by omega
              have i3 : (i : Int) < 8 := by omega
              have d8 : decide ((i : Int) < 8) = true := by rw [decide_eq_true_iff]; omega
              have HWB := KH.hid (wbyte_any _ _ _ (s0.size / 2 ^ (8 * i) % 256) _ hI (Nat.mod_lt _ (by omega)) (by rw [List.length_append, szI_length]; omega) hsz5)
              have HSN := KH.hid (szI_snoc s0.size i)
              have hm2 : (8 : Int) * (i : Int) = ((8 * i : Nat) : Int) := by omega
              have hval : ((s0.size : Int) / 2 ^ (8 * i)) % 256 = ((s0.size / 2 ^ (8 * i) % 256 : Nat) : Int) := by simp
              have h8 : 8 * i ≤ 64 := by omega
              generalize s0.size / 2 ^ (8 * i) % 256 = y at *
              have HW8 := KH.hid (And.intro HWB.out HSN.out)
              clear HWB HSN hI
              generalize hm : 8 * i = m at *
              clear hm
              go_wp2_with (go_at_call 118; refine HW8.out.1.mono ?_; rintro e w8 ⟨rfl, hI8, hb8⟩)
              rw [List.append_assoc, ← HW8.out.2] at hI8
              exact ⟨⟨i + 1, by omega, by go_num, hI8, hb.trans hb8⟩, by simp [intOf]; omega⟩
            · obtain rfl : i = 8 := by omega
              rw [show ((8 : Nat) : Int) = (8 : Int) from rfl]
              rw [← HP.out] at hI
              go_wp2_with fail
              exact ⟨⟨q + 1, by omega, by go_num, hI, hb⟩, by simp [intOf]; omega⟩
        · obtain rfl : q = k := by omega
          have d2 : decide ((q : Int) < (q : Int)) = false := by rw [decide_eq_false_iff_not]; omega
          have HST := KH.hid (bstr_any _ _ _ _ hI hsz)
          have HV : Hid ((⟨(padL P q ++ szL P q).toArray⟩ : ByteArray) = pdV P) := by unfold Hid pdV pdL; rw [HLE.out.2]
          rw [HV.out] at HST
          go_wp2_with (go_at_call 119; refine HST.out.mono ?_; rintro e w8 ⟨rfl, hb8⟩)
          go_ret
          exact ⟨rfl, hb.trans hb8⟩
theorem strs_reads (w : World) (L : List ByteArray) (t : TypeId) : KH.Reads (w.alloc (.cells (L.map Value.string).toArray t)) (w.heap.size + 1) 1 (some ⟨w.heap.size, 0, none⟩) L.length (L.map .string) := by
  refine ⟨by simp, fun _ => ⟨_, rfl, by show w.heap.size < _; omega, fun j u hu => ?_⟩⟩
  rw [addr_at, World.cell?_alloc_at _ _ _ _ rfl]
  simpa using hu
set_option maxRecDepth 100000 in
theorem told_any (a b : ByteArray) (w : World) (ha : a.size ≤ 1000) (hb : b.size ≤ 1000) :
    Calls Tryz.prog 81 #[.string a, .string b] w fun e w' => e = .returned (.string (pdV [a, b])) ∧ Below w.heap.size w w' := by
  have hb1 := (Below.refl w.heap.size w).alloc (Nat.le_refl _) (.cells #[.string a, .string b] 9)
  have HP := KH.hid (padded_any (P := [a, b]) (c := 2) (strs_reads w [a, b] 9) (by simp) (by simp) (fun i => by
    match i with
    | 0 => exact ha
    | 1 => exact hb
    | i + 2 => exact Nat.zero_le _))
  go_enter Tryz.func81, Tryz.ntmps81
  go_wp2_with fail
  refine HP.out.mono ?_; rintro e w2 ⟨rfl, hb2⟩
  go_wp2
  go_ret
  exact ⟨rfl, hb1.trans (hb2.mono (by simp))⟩
end Go.Proofs.YtlnilfcjcoclhaaGreatDoor

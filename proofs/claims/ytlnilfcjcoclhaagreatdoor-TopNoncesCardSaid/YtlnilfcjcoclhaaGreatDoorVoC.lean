import Derived.Test.YtlnilfcjcoclhaaGreatDoorSeA
/- Package volume: isCount, isPlace, beside, Hide, Show. -/
namespace Go.Proofs.YtlnilfcjcoclhaaGreatDoor
open Go.RowKit

theorem pow_two : ∀ m, m < 65 → 1 ≤ m → ((m &&& (m - 1) == 0) = cntB (m : Nat)) := by decide
set_option maxRecDepth 100000 in
theorem isCount_any (n : Int) (w : World) :
    Calls Tryz.prog 38 #[.int .i64 n] w fun e w' => e = .returned (.bool (cntB n)) ∧ w = w' := by
  by_cases h1 : 1 ≤ n
  · by_cases h2 : n ≤ 64
    · obtain ⟨m, rfl⟩ : ∃ m : Nat, n = m := ⟨n.toNat, by omega⟩
      have hp := pow_two m (by omega) (by omega)
      have e1 : IntKind.i64.wrap ((m : Int) - 1) = ((m - 1 : Nat) : Int) := by rw [show (m : Int) - 1 = ((m - 1 : Nat) : Int) by omega]; exact wrap_nat _ (by omega)
      have e2 : bits .and .i64 (m : Int) ((m - 1 : Nat) : Int) = ((m &&& (m - 1) : Nat) : Int) := bits_and_i64 _ _ (by omega) (by omega)
      have e3 : (((m &&& (m - 1) : Nat) : Int) == 0) = cntB m := by
        rw [← hp]
        cases h : (m &&& (m - 1) == 0)
        · rw [beq_eq_false_iff_ne] at h ⊢; omega
        · rw [beq_iff_eq] at h ⊢; omega
      have d1 : decide ((1 : Int) ≤ (m : Int)) = true := by rw [decide_eq_true_iff]; omega
      have d2 : decide ((m : Int) ≤ 64) = true := by rw [decide_eq_true_iff]; omega
      have e4 : (m : Int) - 1 = ((m - 1 : Nat) : Int) := by omega
      generalize cntB (m : Int) = c at *
      generalize m &&& (m - 1) = q at *
      generalize m - 1 = m' at *
      clear hp
      go_enter Tryz.func38, Tryz.ntmps38
      go_wp2
      go_ret
      exact ⟨rfl, rfl⟩
    · have hc : cntB n = false := by simp [cntB]; omega
      have d1 : decide ((1 : Int) ≤ n) = true := by rw [decide_eq_true_iff]; omega
      have d2 : decide (n ≤ 64) = false := by rw [decide_eq_false_iff_not]; omega
      rw [hc]
      go_enter Tryz.func38, Tryz.ntmps38
      go_wp2
      go_ret
      exact ⟨rfl, rfl⟩
  · have hc : cntB n = false := by simp [cntB]; omega
    have d1 : decide ((1 : Int) ≤ n) = false := by rw [decide_eq_false_iff_not]; omega
    rw [hc]
    go_enter Tryz.func38, Tryz.ntmps38
    go_wp2
    go_ret
    exact ⟨rfl, rfl⟩
set_option maxRecDepth 100000 in
theorem isPlace_yes (i : Nat) (w : World) (hi : i < 64) :
    Calls Tryz.prog 52 #[.int .i64 i] w fun e w' => e = .returned (.bool true) ∧ w = w' := by
  have d1 : decide ((0 : Int) ≤ (i : Int)) = true := by rw [decide_eq_true_iff]; omega
  have d2 : decide ((i : Int) < 64) = true := by rw [decide_eq_true_iff]; omega
  go_enter Tryz.func52, Tryz.ntmps52
  go_wp2
  go_ret
  exact ⟨rfl, rfl⟩
/-- what stands beside a block -/
def dcV (i : Nat) : ByteArray := ⟨(Lib.decDigits i).toArray⟩
def bsV (i : Nat) : ByteArray := ⟨#[98, 108, 111, 99, 107, 32]⟩ ++ dcV i
theorem dcV_size {i : Nat} (hi : i < 100) : (dcV i).size ≤ 2 := by
  show (Lib.decDigits i).toArray.size ≤ 2
  by_cases h : i < 10
  · rw [Lib.decDigits_one h]; simp
  · rw [Lib.decDigits_two h hi]; simp
theorem bsV_size {i : Nat} (hi : i < 100) : (bsV i).size ≤ 8 := by
  have := dcV_size hi
  unfold bsV
  rw [ByteArray.size_append]
  show 6 + (dcV i).size ≤ 8
  omega
set_option maxRecDepth 100000 in
theorem beside_any (i : Nat) (w : World) (hi : i < 64) :
    Calls Tryz.prog 54 #[.int .i64 i] w fun e w' => e = .returned (.string (bsV i)) ∧ w = w' := by
  have hz := dcV_size (i := i) (by omega)
  have HI := KH.hid (Tryz.strconv_Itoa_small i (by omega) w)
  have HV : Hid ((⟨(Lib.decDigits i).toArray⟩ : ByteArray) = dcV i ∧ bsV i = ⟨#[98, 108, 111, 99, 107, 32]⟩ ++ dcV i) := ⟨rfl, rfl⟩
  have hcat : (⟨#[98, 108, 111, 99, 107, 32]⟩ : ByteArray).size + (dcV i).size ≤ 9223372036854775807 := by show 6 + _ ≤ _; omega
  rw [HV.out.1] at HI
  rw [HV.out.2]
  generalize dcV i = d at *
  go_enter Tryz.func54, Tryz.ntmps54
  go_wp2_with fail
  refine HI.out.mono ?_; rintro e w2 ⟨rfl, rfl⟩
  go_wp2
  go_ret
  exact ⟨rfl, rfl⟩
/-- a block -/
def hdV (key nonce : ByteArray) (i : Nat) (s : ByteArray) : ByteArray := nonce ++ slV key nonce (bsV i) s
theorem hdV_size (key nonce : ByteArray) (i : Nat) (s : ByteArray) (hn : nonce.size = 12) : (hdV key nonce i s).size = s.size + 28 := by
  unfold hdV; rw [ByteArray.size_append, slV_size, hn]; omega
set_option maxRecDepth 100000 in
theorem hide_yes (key nonce s : ByteArray) (i : Nat) (w : World) (hk : key.size = 32) (hn : nonce.size = 12) (hi : i < 64) (hs : s.size ≤ 64) (hT : TurnsAt w) :
    Calls Tryz.prog 28 #[.string key, .string nonce, .int .i64 i, .string s] w fun e w' => e = .returned (.tuple #[.string (hdV key nonce i s), .int .i64 0]) ∧ Below w.heap.size w w' := by
  have HS := KH.hid (seal_any key nonce (bsV i) s w hk hn (by have := bsV_size (i := i) (by omega); omega) hs hT)
  have hz := slV_size key nonce (bsV i) s
  have HV : Hid (hdV key nonce i s = nonce ++ slV key nonce (bsV i) s) := rfl
  have d1 : decide ((64 : Int) < (s.size : Int)) = false := by rw [decide_eq_false_iff_not]; omega
  have hcat : nonce.size + (slV key nonce (bsV i) s).size ≤ 9223372036854775807 := by omega
  clear hT
  generalize slV key nonce (bsV i) s = se at *
  generalize hb : bsV i = b at *
  go_enter Tryz.func28, Tryz.ntmps28
  go_wp2_with fail
  refine (isPlace_yes i w hi).mono ?_; rintro e w1 ⟨rfl, rfl⟩
  go_wp2_with fail
  refine (beside_any i _ hi).mono ?_; rintro e w2 ⟨rfl, rfl⟩
  rw [hb]
  go_wp2_with fail
  refine HS.out.mono ?_; rintro e w3 ⟨rfl, hb3⟩
  go_wp2
  go_ret2
  rw [HV.out]
  exact ⟨rfl, hb3⟩
set_option maxRecDepth 100000 in
theorem hide_no (key nonce s : ByteArray) (i : Nat) (w : World) (hi : i < 64) (hs : 64 < s.size) :
    Calls Tryz.prog 28 #[.string key, .string nonce, .int .i64 i, .string s] w fun e w' => e = .returned (.tuple #[.string ⟨#[]⟩, .int .i64 2]) ∧ Below w.heap.size w w' := by
  have d1 : decide ((64 : Int) < (s.size : Int)) = true := by rw [decide_eq_true_iff]; omega
  go_enter Tryz.func28, Tryz.ntmps28
  go_wp2_with fail
  refine (isPlace_yes i w hi).mono ?_; rintro e w1 ⟨rfl, rfl⟩
  go_wp2
  go_ret2
  exact ⟨rfl, Below.refl _ _⟩
set_option maxRecDepth 100000 in
theorem show_none (key : ByteArray) (i : Nat) (w : World) (hi : i < 64) :
    Calls Tryz.prog 34 #[.string key, .int .i64 i, .string ⟨#[]⟩] w fun e w' => e = .returned (.tuple #[.string ⟨#[]⟩, .int .i64 0]) ∧ Below w.heap.size w w' := by
  go_enter Tryz.func34, Tryz.ntmps34
  go_wp2_with fail
  refine (isPlace_yes i w hi).mono ?_; rintro e w1 ⟨rfl, rfl⟩
  go_wp2
  go_ret2
  exact ⟨rfl, Below.refl _ _⟩
set_option maxHeartbeats 1000000 in
set_option maxRecDepth 100000 in
theorem show_yes (key nonce s : ByteArray) (i : Nat) (w : World) (hk : key.size = 32) (hn : nonce.size = 12) (hi : i < 64) (hs : s.size ≤ 64) (hT : TurnsAt w) :
    Calls Tryz.prog 34 #[.string key, .int .i64 i, .string (hdV key nonce i s)] w fun e w' => e = .returned (.tuple #[.string s, .int .i64 0]) ∧ Below w.heap.size w w' := by
  have HO := KH.hid fun w hT => open_yes key nonce (bsV i) s w hk hn (by have := bsV_size (i := i) (by omega); omega) hs hT
  have hz := hdV_size key nonce i s hn
  have hl : (hdV key nonce i s).extract 0 12 = nonce := by have := cat_left nonce (slV key nonce (bsV i) s); rwa [hn] at this
  have hr : (hdV key nonce i s).extract 12 (hdV key nonce i s).size = slV key nonce (bsV i) s := by
    have := cat_right nonce (slV key nonce (bsV i) s)
    rw [hn, slV_size] at this
    rw [hz, show s.size + 28 = 12 + (s.size + 16) by omega]
    exact this
  have he1 : (hdV key nonce i s).toList.isEmpty = false := str_some (by omega)
  have HB := KH.hid fun w => beside_any i w hi
  have hg := hT.1
  have HTT := KH.hid hT
  clear hT
  generalize slV key nonce (bsV i) s = se at *
  generalize hdV key nonce i s = hd at *
  generalize bsV i = b at *
  have d1 : decide ((hd.size : Int) < 12) = false := by rw [decide_eq_false_iff_not]; omega
  have i1 : (12 : Int) ≤ (hd.size : Int) := by omega
  have HSZ := KH.hid hz
  clear hz
  go_enter Tryz.func34, Tryz.ntmps34
  go_wp2_with fail
  refine (isPlace_yes i w hi).mono ?_; rintro e w1 ⟨rfl, rfl⟩
  go_wp2_with fail
  go_region_with (first
    | (go_at_call 54; refine (HB.out _).mono ?_; rintro e w2 ⟨rfl, rfl⟩)
    | (go_at_call 57; refine (HO.out w.drew HTT.out).mono ?_; rintro e w3 ⟨rfl, hb3⟩))
  all_goals
    have hB : Below w.heap.size w w3 := ((Below.refl w.heap.size w).drew).trans hb3
    clear hb3 HO HB HTT HSZ
    go_wp2
    go_ret2
    exact ⟨rfl, hB⟩
end Go.Proofs.YtlnilfcjcoclhaaGreatDoor
/- Package volume: Check, has, copied, rooted. -/
namespace Go.Proofs.YtlnilfcjcoclhaaGreatDoor
open Go.RowKit

/-- a volume -/
def VlIn (w : World) (v : Value) (Bl : List ByteArray) (r : ByteArray) : Prop :=
  ∃ A c, v = .agg #[.slice A Bl.length c, .string r] ∧ KH.Reads w w.heap.size 1 A Bl.length (Bl.map .string)
theorem VlIn.below {w w' : World} {v : Value} {Bl : List ByteArray} {r : ByteArray} (h : VlIn w v Bl r) (hb : Below w.heap.size w w') : VlIn w' v Bl r := by
  obtain ⟨A, c, rfl, hr⟩ := h
  exact ⟨A, c, rfl, (hr.below hb).more hb.size⟩
def vSz (Bl : List ByteArray) : Prop := ∀ i, (Bl.getD i ⟨#[]⟩).size ≤ 92
set_option maxHeartbeats 1000000 in
set_option maxRecDepth 100000 in
theorem vcheck_yes {w : World} {v : Value} {Bl : List ByteArray} {r : ByteArray} (h : VlIn w v Bl r) (hn : cntB Bl.length = true) (hr : r.size = 32) (hs : vSz Bl) :
    Calls Tryz.prog 31 #[v] w fun e w' => e = .returned (.bool true) ∧ Below w.heap.size w w' := by
  obtain ⟨A, c, rfl, hrd⟩ := h
  have hn' : 1 ≤ Bl.length ∧ Bl.length ≤ 64 := by obtain ⟨m, hm, h⟩ := cntB_nat hn; omega
  have hb1 := (Below.refl w.heap.size w).alloc (Nat.le_refl _) (.cells #[.slice A Bl.length c, .string r] 48)
  have HR := KH.hid (hrd.below hb1)
  have HS := KH.hid hs
  have HL := KH.hid fun k (hk : k < Bl.length) => str_at hk
  have HI := KH.hid (isCount_any (Bl.length : Nat))
  rw [hn] at HI
  have d0 : ((r.size : Int) != 32) = false := by rw [hr]; rfl
  have hk1 := KH.Blk.new w 48 #[.slice A Bl.length c, .string r]
  have f0 : (w.alloc (.cells #[.slice A Bl.length c, .string r] 48)).cell? ⟨w.heap.size, 0, none⟩ = some (.slice A Bl.length c) := hk1.cell 0
  have f1 : (w.alloc (.cells #[.slice A Bl.length c, .string r] 48)).cell? ⟨w.heap.size, 1, none⟩ = some (.string r) := hk1.cell 1
  clear hs hrd hn hk1 hr
  generalize Bl.length = n at *
  go_enter Tryz.func31, Tryz.ntmps31
  go_wp2_with fail
  generalize w.alloc (.cells #[.slice A n c, .string r] 48) = W at *
  refine (HI.out W).mono ?_; rintro e w1 ⟨rfl, rfl⟩
  go_wp2_with fail
  go_loopw [4, 19] (fun _ t wr => ∃ k : Nat, k ≤ n ∧ t = .int .i64 k ∧ wr = W) (fun _ t _ => n - (intOf t).toNat)
  case atStart => exact ⟨0, Nat.zero_le _, rfl, rfl⟩
  case round =>
    obtain ⟨k, hk, rfl, rfl⟩ := hrel
    by_cases hlt : k < n
    · obtain ⟨ad, u, rfl, hbl, hu, hc⟩ := HR.out.at_ hlt
      rw [HL.out k hlt] at hu
      obtain rfl := (Option.some.inj hu).symm
      have hsk := HS.out k
      generalize Bl.getD k ⟨#[]⟩ = s0 at *
      have i0' : (0 : Int) ≤ (k : Int) := by omega
      have i1 : (k : Int) < (n : Int) := by omega
      have d1 : decide ((k : Int) < (n : Int)) = true := by rw [decide_eq_true_iff]; omega
      have d2 : decide ((92 : Int) < (s0.size : Int)) = false := by rw [decide_eq_false_iff_not]; omega
      clear hu
      go_wp2_with fail
      exact ⟨⟨k + 1, by omega, by go_num, by first | rfl | trivial⟩, by simp [intOf]; omega⟩
    · obtain rfl : k = n := by omega
      have d1 : decide ((k : Int) < (k : Int)) = false := by rw [decide_eq_false_iff_not]; omega
      go_wp2_with fail
      go_ret
      exact ⟨rfl, hb1⟩
set_option maxRecDepth 100000 in
theorem vhas_any {w : World} {g n c : Nat} {A : Option Addr} {r : ByteArray} (i : Int) (hk : KH.Blk w g 77 #[.slice A n c, .string r]) :
    Calls Tryz.prog 27 #[.pointer (some ⟨g, 0, none⟩), .int .i64 i] w fun e w' => e = .returned (.bool (decide (0 ≤ i ∧ i < (n : Int)))) ∧ w = w' := by
  have f0 : w.cell? ⟨g, 0, none⟩ = some (.slice A n c) := hk.cell 0
  by_cases h0 : 0 ≤ i
  · have d0 : decide ((0 : Int) ≤ i) = true := by rw [decide_eq_true_iff]; omega
    have HD : Hid (decide (0 ≤ i ∧ i < (n : Int)) = decide (i < (n : Int))) := by unfold Hid; simp [h0]
    rw [HD.out]
    clear h0
    go_enter Tryz.func27, Tryz.ntmps27
    go_wp2
    go_ret
    exact ⟨rfl, rfl⟩
  · have d0 : decide ((0 : Int) ≤ i) = false := by rw [decide_eq_false_iff_not]; omega
    have HD : Hid (decide (0 ≤ i ∧ i < (n : Int)) = false) := by unfold Hid; simp [h0]
    rw [HD.out]
    clear h0
    go_enter Tryz.func27, Tryz.ntmps27
    go_wp2
    go_ret
    exact ⟨rfl, rfl⟩
set_option maxHeartbeats 1000000 in
set_option maxRecDepth 100000 in
theorem vcopied_any {w : World} {v : Value} {Bl : List ByteArray} {r : ByteArray} (h : VlIn w v Bl r) (h1 : 1 ≤ Bl.length) (hn : Bl.length ≤ 64) :
    Calls Tryz.prog 29 #[v] w fun e w' => ∃ g b c, e = .returned (.pointer (some ⟨g, 0, none⟩)) ∧ KH.Blk w' g 77 #[.slice (some ⟨b, 0, none⟩) Bl.length c, .string r] ∧ w.heap.size ≤ g ∧
      w'.ownsRow w.heap.size 9 1 (.slice (some ⟨b, 0, none⟩) Bl.length c) Bl.length (Bl.map .string) ∧ Below w.heap.size w w' := by
  obtain ⟨A, c, rfl, hrd⟩ := h
  obtain ⟨i0, hi, hz0, hz1, hz2⟩ := info_parts str_info
  have hb1 := (Below.refl w.heap.size w).alloc (Nat.le_refl _) (.cells #[.slice A Bl.length c, .string r] 48)
  have hr1 := hrd.below hb1
  have hk1 := KH.Blk.new w 48 #[.slice A Bl.length c, .string r]
  have hW0 : (w.alloc (.cells #[.slice A Bl.length c, .string r] 48)).heap.size = w.heap.size + 1 := by simp
  have f1 : (w.alloc (.cells #[.slice A Bl.length c, .string r] 48)).cell? ⟨w.heap.size, 0, none⟩ = some (.slice A Bl.length c) := hk1.cell 0
  have f2 : (w.alloc (.cells #[.slice A Bl.length c, .string r] 48)).cell? ⟨w.heap.size, 1, none⟩ = some (.string r) := hk1.cell 1
  have h1c1 : ∀ u ∈ Bl.map Value.string, u.oneCell' = true := by intro u hu; obtain ⟨b, _, rfl⟩ := List.mem_map.1 hu; rfl
  go_enter Tryz.func29, Tryz.ntmps29
  go_wp2
  generalize w.alloc (.cells #[.slice A Bl.length c, .string r] 48) = w1 at *
  have HB1 : w.heap.size ≤ w1.heap.size := by omega
  go_region_held3 (fun w' => w'.cell? ⟨w.heap.size, 0, none⟩ = some (.slice A Bl.length c) ∧ w'.cell? ⟨w.heap.size, 1, none⟩ = some (.string r) ∧ Below w1.heap.size w1 w') (first | exact ⟨by assumption, by assumption, by first | assumption | exact (Below.refl _ _).drew⟩ | exact copS_grown (by assumption) (by omega) (by assumption) | exact copS_alloc (by assumption) (by omega) _) (first
    | (refine KH.step_append_any _ (by rfl) _ _ _ (by rfl) w.heap.size 9 i0 _ 1 16 Tryz.underlying30 hi hz0 hz1 hz2 rfl (by omega) (.slice none 0 0) 0 [] (by rfl) ⟨by simp, .inl ⟨rfl, rfl⟩⟩ w.heap.size A Bl.length c _ (by rfl) (hr1.below (Below.mono (And.right (And.right (by assumption))) HB1)) h1c1 (by unfold maxLen; omega) (by omega) (by have := Below.size (And.right (And.right (by assumption : _ ∧ _ ∧ Below w1.heap.size w1 _))); omega) ?_; intro vs ws hown1 hgrow1 hlies1; obtain ⟨As, cs, rfl⟩ := KH.own_form hown1))
  go_wp2
  go_ret
  simp only [Nat.zero_add, List.nil_append] at hown1
  obtain ⟨g, cl, hv, _, _⟩ := hown1.form (by omega)
  obtain rfl : As = some ⟨g, 0, none⟩ := by injection hv
  have hbB : Below w1.heap.size w1 ws := (Below.refl w1.heap.size w1).drew.grown hgrow1 (Nat.le_refl _) (fun _ h => by cases h)
  have hb2 := hb1.trans (hbB.mono HB1)
  have hz := hb2.size
  exact ⟨ws.heap.size, g, cs, rfl, KH.Blk.new _ _ _, hz, hown1.alloc _, hb2.alloc hz _⟩
end Go.Proofs.YtlnilfcjcoclhaaGreatDoor
/- Package volume: rooted, fit. -/
namespace Go.Proofs.YtlnilfcjcoclhaaGreatDoor
open Go.RowKit

theorem load_vol {fn : Func} {p u : Nat} {tmps : Array Value} {w : World} {h : Nat} {x y : Value} {k : Int}
    (hr : fn.results = #[.cell p 48, .tmp u]) (hp : tmps.getD p undef = .pointer (some ⟨h, 0, none⟩)) (hu : tmps.getD u undef = .int .i64 k)
    (h0 : w.cell? ⟨h, 0, none⟩ = some x) (h1 : w.cell? ⟨h, 1, none⟩ = some y) : (results fn tmps).run Tryz.prog w = .ok (.tuple #[.agg #[x, y], .int .i64 k]) w := by
  rw [Array.getD_eq_getD_getElem?] at hp hu
  simp [results, hr, hp, hu, go_sem, h0, h1]
theorem ret_vol {fn : Func} {p u : Nat} {a : Act} {w w0 : World} {h B : Nat} {x0 y0 x y : Value} {k : Int}
    (hr : fn.results = #[.cell p 48, .tmp u]) (hp : a.tmps.getD p undef = .pointer (some ⟨h, 0, none⟩)) (hu : a.tmps.getD u undef = .int .i64 k) (hd : a.defers = [])
    (hk : KH.Blk w h 48 #[x0, y0]) (hB : Below B w0 w) (hh : B ≤ h) (Q : World → Prop) (hQ : Q ((w.setCell ⟨h, 0, none⟩ x).setCell ⟨h, 1, none⟩ y)) :
    bodyPost Tryz.prog fn (fun e w' => e = .returned (.tuple #[.agg #[x, y], .int .i64 k]) ∧ Q w' ∧ Below B w0 w') .ret a ((w.setCell ⟨h, 0, none⟩ x).setCell ⟨h, 1, none⟩ y) := by
  have k3 := (hk.set_ 0 x).set_ 1 y
  have hB' := (hB.setCell (p := ⟨h, 0, none⟩) hh x).setCell (p := ⟨h, 1, none⟩) hh y
  generalize (w.setCell ⟨h, 0, none⟩ x).setCell ⟨h, 1, none⟩ y = W at *
  have c3 : W.cell? ⟨h, 0, none⟩ = some x := by simpa using k3.cell 0
  have c4 : W.cell? ⟨h, 1, none⟩ = some y := by simpa using k3.cell 1
  exact bodyPost_ret (load_vol hr hp hu c3 c4) hd ⟨rfl, hQ, hB'⟩
theorem ret_volR {fn : Func} {p u : Nat} {a : Act} {w : World} {h : Nat} {x0 y0 x y : Value} {k : Int} {R : Ending → World → Prop} (hk : KH.Blk w h 48 #[x0, y0])
    (hr : fn.results = #[.cell p 48, .tmp u]) (hp : a.tmps.getD p undef = .pointer (some ⟨h, 0, none⟩)) (hu : a.tmps.getD u undef = .int .i64 k) (hd : a.defers = [])
    (hR : R (.returned (.tuple #[.agg #[x, y], .int .i64 k])) ((w.setCell ⟨h, 0, none⟩ x).setCell ⟨h, 1, none⟩ y)) :
    bodyPost Tryz.prog fn R .ret a ((w.setCell ⟨h, 0, none⟩ x).setCell ⟨h, 1, none⟩ y) := by
  have k3 := (hk.set_ 0 x).set_ 1 y
  have c3 : ((w.setCell ⟨h, 0, none⟩ x).setCell ⟨h, 1, none⟩ y).cell? ⟨h, 0, none⟩ = some x := by simpa using k3.cell 0
  have c4 : ((w.setCell ⟨h, 0, none⟩ x).setCell ⟨h, 1, none⟩ y).cell? ⟨h, 1, none⟩ = some y := by simpa using k3.cell 1
  exact bodyPost_ret (load_vol hr hp hu c3 c4) hd hR
theorem vSz.big {Bl : List ByteArray} (h : vSz Bl) (i : Nat) : (Bl.getD i ⟨#[]⟩).size ≤ 100000 := by have := h i; omega
set_option maxHeartbeats 1000000 in
set_option maxRecDepth 100000 in
theorem vrooted_any (K : Nat → Nat) {w : World} {base g n c : Nat} {A : Option Addr} {r0 : ByteArray} {Bl : List ByteArray} (hk : KH.Blk w g 77 #[.slice A n c, .string r0]) (hg : base ≤ g) (ho : w.ownsRow base 9 1 (.slice A n c) n (Bl.map .string))
    (hn : cntB n = true) (hs : vSz Bl) (hK : RoundsAt K w) :
    Calls Tryz.prog 30 #[.pointer (some ⟨g, 0, none⟩)] w fun e w' => e = .returned (.tuple #[.agg #[.slice A n c, .string (rootV K Bl)], .int .i64 0]) ∧ VlIn w' (.agg #[.slice A n c, .string (rootV K Bl)]) Bl (rootV K Bl) ∧ Below base w w' := by
  have hl : Bl.length = n := by have := ho.1; simpa using this
  have hbw : base ≤ w.heap.size := Nat.le_trans hg (Nat.le_of_lt hk.lt)
  have hb1 := (Below.refl w.heap.size w).alloc (Nat.le_refl _) (.cells #[.slice none 0 0, .string ⟨#[]⟩] 48)
  have k1 := hk.alloc (.cells #[.slice none 0 0, .string ⟨#[]⟩] 48)
  have k2 := KH.Blk.new w 48 #[.slice none 0 0, .string ⟨#[]⟩]
  have ho1 := ho.alloc (.cells #[.slice none 0 0, .string ⟨#[]⟩] 48)
  have hr1 := KH.Reads.of_own ho1
  have hR := KH.hid (troot_any K (c := c) hr1 (Nat.le_refl _) hn hs.big (rounds_below hK hb1 hK.1))
  have f0 : (w.alloc (.cells #[.slice none 0 0, .string ⟨#[]⟩] 48)).cell? ⟨g, 0, none⟩ = some (.slice A n c) := k1.cell 0
  have ng : g < w.heap.size := hk.lt
  obtain ⟨rv, hrv⟩ : ∃ r, r = rootV K Bl := ⟨_, rfl⟩
  rw [← hrv] at hR ⊢
  clear hrv
  go_enter Tryz.func30, Tryz.ntmps30
  go_wp2_with fail
  generalize w.alloc (.cells #[.slice none 0 0, .string ⟨#[]⟩] 48) = w1 at *
  generalize w.heap.size = h2 at *
  refine hR.out.mono ?_; rintro e w2 ⟨rfl, hb2⟩
  have j1 := k1.below hb2 k1.lt
  have j2 := k2.below hb2 k2.lt
  have o2 := KH.own_below ho1 hb2
  have lb := hb2.size
  have l1 := k1.lt
  have hB2 : Below base w w2 := (hb1.mono (by omega)).trans (hb2.mono (by omega))
  have x1 := j1.set_ 1 (.string rv)
  simp only [List.setIfInBounds_toArray, List.set_cons_zero, List.set_cons_succ] at x1
  have x2 := j2.far (p := ⟨g, 1, none⟩) (by show h2 ≠ g; omega) (.string rv)
  have o3 := ownsRow_setCell_other (a := ⟨g, 1, none⟩) o2 (KH.own_blk_ne o2 j1 (by decide)) (.string rv)
  have hB3 := hB2.setCell (p := ⟨g, 1, none⟩) hg (.string rv)
  have f3 : w2.cell? ⟨g, 1, none⟩ = some (.string r0) := j1.cell 1
  have f4 : w2.frozen? ⟨g, 1, none⟩ = false := j1.frozen 1
  have f5 : (w2.setCell ⟨g, 1, none⟩ (.string rv)).cell? ⟨g, 0, none⟩ = some (.slice A n c) := x1.cell 0
  have f6 : (w2.setCell ⟨g, 1, none⟩ (.string rv)).cell? ⟨g, 1, none⟩ = some (.string rv) := x1.cell 1
  have f7 : (w2.setCell ⟨g, 1, none⟩ (.string rv)).cell? ⟨h2, 0, none⟩ = some (.slice none 0 0) := x2.cell 0
  have f8 : (w2.setCell ⟨g, 1, none⟩ (.string rv)).cell? ⟨h2, 1, none⟩ = some (.string ⟨#[]⟩) := x2.cell 1
  have f9 : (w2.setCell ⟨g, 1, none⟩ (.string rv)).frozen? ⟨h2, 0, none⟩ = false := x2.frozen 0
  have f10 : (w2.setCell ⟨g, 1, none⟩ (.string rv)).frozen? ⟨h2, 1, none⟩ = false := x2.frozen 1
  have o4 := ownsRow_setCell_other (a := ⟨h2, 1, none⟩) (ownsRow_setCell_other (a := ⟨h2, 0, none⟩) o3 (KH.own_blk_ne o3 x2 (by decide)) (.slice A n c)) (KH.own_blk_ne (ownsRow_setCell_other (a := ⟨h2, 0, none⟩) o3 (KH.own_blk_ne o3 x2 (by decide)) (.slice A n c)) (x2.set_ 0 (.slice A n c)) (by decide)) (.string rv)
  have HX := KH.hid (And.intro x2 (And.intro hB3 o4))
  clear hk ho k1 k2 ho1 hr1 hb1 hb2 j1 j2 o2 hB2 x1 x2 o3 hB3 o4
  go_wp2_with fail
  refine ret_vol (p := 2) (u := 3) (k := 0) ?_ ?_ ?_ ?_ HX.out.1 HX.out.2.1 (by omega) (fun w' => VlIn w' (.agg #[.slice A n c, .string rv]) Bl rv) ?_
  · rfl
  · rfl
  · rfl
  · rfl
  have := KH.Reads.of_own HX.out.2.2
  exact ⟨A, c, by rw [hl], by rw [hl]; exact this⟩
set_option maxHeartbeats 1000000 in
set_option maxRecDepth 100000 in
theorem fit_yes (K : Nat → Nat) {w : World} {g n c : Nat} {A : Option Addr} {Bl : List ByteArray} (hk : KH.Blk w g 77 #[.slice A n c, .string (rootV K Bl)]) (hv : VlIn w (.agg #[.slice A n c, .string (rootV K Bl)]) Bl (rootV K Bl))
    (hn : cntB n = true) (hs : vSz Bl) (hK : RoundsAt K w) :
    Calls Tryz.prog 26 #[.pointer (some ⟨g, 0, none⟩), .int .i64 0, .bool true] w fun e w' => e = .returned (.int .i64 0) ∧ Below w.heap.size w w' := by
  have hl : Bl.length = n := by obtain ⟨A', c', h, -⟩ := hv; injection h with h; injection h with h; injection h with h _; injection h with _ h _; exact h.symm
  have h0 : 0 < Bl.length := by obtain ⟨m, hm, h⟩ := cntB_nat hn; omega
  have HC := KH.hid (vcheck_yes hv (by rw [hl]; exact hn) (rootV_size K Bl h0) hs)
  have f0 : w.cell? ⟨g, 0, none⟩ = some (.slice A n c) := hk.cell 0
  have f1 : w.cell? ⟨g, 1, none⟩ = some (.string (rootV K Bl)) := hk.cell 1
  have HX := KH.hid (And.intro hk (And.intro hv (And.intro hK hs)))
  clear hk hv hs hK h0
  go_enter Tryz.func26, Tryz.ntmps26
  go_wp2_with fail
  refine HC.out.mono ?_; rintro e w1 ⟨rfl, hb1⟩
  have k1 := HX.out.1.below hb1 HX.out.1.lt
  have v1 := HX.out.2.1.below hb1
  have K1 := rounds_below HX.out.2.2.1 hb1 HX.out.2.2.1.1
  obtain ⟨A', c', h, hr1⟩ := v1
  obtain ⟨rfl, rfl⟩ : A = A' ∧ c = c' := by injection h with h; injection h with h; injection h with h _; injection h with h1 _ h2; exact ⟨h1, h2⟩
  rw [hl] at hr1
  have HR := KH.hid (troot_any K (c := c) hr1 (Nat.le_refl _) hn HX.out.2.2.2.big K1)
  have g0 : w1.cell? ⟨g, 0, none⟩ = some (.slice A n c) := k1.cell 0
  clear hr1 K1 h
  go_wp2_with fail
  refine HR.out.mono ?_; rintro e w2 ⟨rfl, hb2⟩
  have k2 := k1.below hb2 k1.lt
  have g1 : w2.cell? ⟨g, 1, none⟩ = some (.string (rootV K Bl)) := k2.cell 1
  have hB := hb1.trans (hb2.mono hb1.size)
  clear k1 k2 hb1 hb2
  generalize rootV K Bl = rv at *
  go_wp2
  go_ret
  exact ⟨rfl, hB⟩
set_option maxHeartbeats 1000000 in
set_option maxRecDepth 100000 in
theorem fit_no (K : Nat → Nat) {w : World} {g n c : Nat} {A : Option Addr} {Bl : List ByteArray} (hk : KH.Blk w g 77 #[.slice A n c, .string (rootV K Bl)]) (hv : VlIn w (.agg #[.slice A n c, .string (rootV K Bl)]) Bl (rootV K Bl))
    (hn : cntB n = true) (hs : vSz Bl) :
    Calls Tryz.prog 26 #[.pointer (some ⟨g, 0, none⟩), .int .i64 0, .bool false] w fun e w' => e = .returned (.int .i64 1) ∧ Below w.heap.size w w' := by
  have hl : Bl.length = n := by obtain ⟨A', c', h, -⟩ := hv; injection h with h; injection h with h; injection h with h _; injection h with _ h _; exact h.symm
  have h0 : 0 < Bl.length := by obtain ⟨m, hm, h⟩ := cntB_nat hn; omega
  have HC := KH.hid (vcheck_yes hv (by rw [hl]; exact hn) (rootV_size K Bl h0) hs)
  have f0 : w.cell? ⟨g, 0, none⟩ = some (.slice A n c) := hk.cell 0
  have f1 : w.cell? ⟨g, 1, none⟩ = some (.string (rootV K Bl)) := hk.cell 1
  clear hk hv hs h0
  go_enter Tryz.func26, Tryz.ntmps26
  go_wp2_with fail
  refine HC.out.mono ?_; rintro e w1 ⟨rfl, hb1⟩
  go_wp2
  go_ret
  exact ⟨rfl, hb1⟩
end Go.Proofs.YtlnilfcjcoclhaaGreatDoor

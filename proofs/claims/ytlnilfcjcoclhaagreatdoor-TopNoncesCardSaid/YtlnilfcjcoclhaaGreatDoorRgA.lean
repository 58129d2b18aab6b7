import Derived.Test.YtlnilfcjcoclhaaGreatDoorBe
/- A range over a function whose elements lie in memory that the iterator makes for each: what is known of an element where it is handed over. -/
namespace Go.Proofs.YtlnilfcjcoclhaaGreatDoor
open Go.RowKit

/-- an iterator of elements of which G is known where they are handed over -/
def SeqG {α : Type} (F : Fence) (n : Nat) (P : Program) (g : Nat) (lb : Array Value) (encs : α → Array Value) (G : List α → α → World → Prop) (Kp : World → World → Prop) (S : List α → Prop) (N : Nat) (w : World) : Prop :=
  ∀ (l : Nat) (J Jx : List α → World → Prop) (W : World), Below w.heap.size w W → AbidesFrom W.heap.size J → AbidesFrom W.heap.size Jx →
    (∀ pre x W1, J pre W1 → G pre x W1 → pre.length < N → YieldAt F (n - 1) P l (encs x) W1 fun e W' =>
      (e = .returned (.bool true) ∧ J (pre ++ [x]) W' ∧ Kp W1 W') ∨ (e = .returned (.bool false) ∧ Jx (pre ++ [x]) W')) →
    J [] W →
    CallsIn F n P g (#[.func (.yield l) #[] #[]] ++ lb) W fun e W' => (∃ v, e = .returned v) ∧ ((∃ xs, S xs ∧ J xs W') ∨ (∃ pre, Jx pre W'))
/-- how a round may end -/
def rndPost {α : Type} (Kp : World → World → Prop) (I Ix : List α → World → Prop) (xs : List α) (W : World) : Exit → Act → World → Prop
  | .normal, _, W' => KeepsOthers W W' ∧ Kp W W' ∧ I xs W'
  | .ret, _, W' => KeepsOthers W W' ∧ Ix xs W'
  | _, _, _ => False
theorem wpIn_rangeG {F : Fence} {n : Nat} {P : Program} {α : Type} {g : Operand} {ps : Array Tmp} {assign body : Code} {Q : Exit → Act → World → Prop} {a : Act} {w : World}
    (hro : F.round = none) (h1 : 1 ≤ n) {gf : Nat} {lb : Array Value} (hg : a.eval g = .func (.func gf) #[] lb) (hFg : F.fn gf) (eg : ∀ args w, (callFunc gf args).run P w = .ok (.enter gf args) w)
    {encs : α → Array Value} {G : List α → α → World → Prop} {Kp : World → World → Prop} {S : List α → Prop} {N : Nat} {w0 : World} (hseq : SeqG F (n - 1) P gf lb encs G Kp S N w0)
    (hKt : ∀ {A B C : World}, Kp A B → Kp B C → Kp A C) (hKb : ∀ (W : World) (l : Nat) (o o' : Obj), w.heap.size ≤ l → W.heap[l]? = some o → o.isCells = false → Kp W (W.putObj l o'))
    (hGb : ∀ (pre : List α) (x : α) (W : World) (l : Nat) (o o' : Obj), W.heap[l]? = some o → o.isCells = false → G pre x W → G pre x (W.putObj l o'))
    (hb0 : Below w0.heap.size w0 w) (hps : ∀ x, (encs x).size = ps.size)
    (I Ix : List α → World → Prop) (hI : OwnFrom w.heap.size I) (hIx : OwnFrom w.heap.size Ix) (h0 : I [] w) (a₁ : α → Act)
    (hassign : ∀ (l : Nat) (x : α) (W : World) (K : Act → World → Prop), K (a₁ x) W → assign.wpIn (F.inRound l) (n - 1 - 1) P (Exit.then K (fun _ _ _ => False)) { tmps := (ps.zip (encs x)).foldl (fun t (p, v) => t.setIfInBounds p v) a.tmps, defers := [] } W)
    (hbody : ∀ (l : Nat) (pre : List α) (x : α) (W : World), I pre W → G pre x W → pre.length < N → body.wpIn (F.inRound l) (n - 1 - 1) P (rndPost Kp I Ix (pre ++ [x]) W) (a₁ x) W)
    (hdone : ∀ (D : Nat) (xs : List α) (W : World), w.heap.size ≤ D → S xs → I xs W → W.heap[D]? = some (.deferred (some [])) → Q .normal { a with defers := { target := .collected D, args := #[] } :: a.defers } W)
    (hstop : ∀ (D : Nat) (pre : List α) (W : World), w.heap.size ≤ D → Ix pre W → W.heap[D]? = some (.deferred (some [])) → Code.ret.wpIn F n P Q { a with defers := { target := .collected D, args := #[] } :: a.defers } W) :
    (Code.rangeFunc g ps assign body).wpIn F n P Q a w := by
  refine wpIn_rangeFunc fun fn hfn => ?_
  rw [hro]
  obtain ⟨L, hL⟩ : ∃ L : LoopState → Option Code → Loop, L = fun st pe => { state := st, pending := pe, fn, tmps := a.tmps, params := ps, assign, body, defers := w.heap.size } := ⟨_, rfl⟩
  obtain ⟨V, hV⟩ : ∃ V, (w.alloc (.deferred (some []))).alloc (.loop (L .ready none)) = V := ⟨_, rfl⟩
  have hVs : V.heap.size = w.heap.size + 2 := by rw [← hV]; simp
  have hVl : V.heap[w.heap.size + 1]? = some (.loop (L .ready none)) := by
    have := World.alloc_heap_new (w.alloc (.deferred (some []))) (.loop (L .ready none))
    rw [← hV]; rwa [World.size_alloc] at this
  have hVd : V.heap[w.heap.size]? = some (.deferred (some [])) := by
    rw [← hV]; exact (Below.heap_alloc _ _ _ (by simp)).trans (World.alloc_heap_new w _)
  have hV0 : I [] V := by rw [← hV]; exact hI.alloc _ (hI.alloc _ h0)
  have hVb : Below w0.heap.size w0 V := by
    rw [← hV]; exact hb0.trans ((((Below.refl _ w).alloc (Nat.le_refl _) _).alloc (by simp) _).mono hb0.size)
  refine ⟨w.heap.size + 1, [{ target := .collected w.heap.size, args := #[] }], V, { target := .fn (.func gf) lb, args := #[.func (.yield (w.heap.size + 1)) #[] #[]] }, V, gf,
    #[.func (.yield (w.heap.size + 1)) #[] #[]] ++ lb, V, ?enter, ?reso, ?lead, ?inv, fun _ => h1, ?call⟩
  case enter => rw [← hV, hL]; exact run_enterLoop_outer _ _ _ _ _
  case reso => simp only [resolve, hg]; simp [go_sem]
  case lead => intro f' hf'; simp [Target.leads] at hf'; subst hf'; exact hFg
  case inv => simp [invoke, go_sem, eg]
  case call =>
    have hrow : ∀ {A : World} {row : Option Nat}, (∀ r, row = some r → V.heap.size ≤ r ∧ ∃ o : Obj, A.heap[r]? = some o ∧ o.isWalk = true) → (∀ r, row = some r → w.heap.size ≤ r ∧ ∃ o : Obj, A.heap[r]? = some o ∧ o.isCells = false) :=
      fun h r e => by obtain ⟨hB, o, ho, hw⟩ := h r e; exact ⟨by omega, o, ho, Obj.not_cells_of_walk hw⟩
    have hkeep : ∀ {A B : World} {row : Option Nat} {k : Nat} {o : Obj}, A.grownBy B row → (∀ r, row = some r → V.heap.size ≤ r ∧ ∃ o : Obj, A.heap[r]? = some o ∧ o.isWalk = true) → A.heap[k]? = some o → o.isWalk = false → B.heap[k]? = some o :=
      fun hg h hk hw => (grownBy_keeps hg (fun r e => (h r e).2) hk hw).trans hk
    refine (hseq (w.heap.size + 1)
      (fun pre W => I pre W ∧ W.heap[w.heap.size + 1]? = some (.loop (L .ready none)) ∧ W.heap[w.heap.size]? = some (.deferred (some [])))
      (fun pre W => Ix pre W ∧ W.heap[w.heap.size + 1]? = some (.loop (L .done (some .ret))) ∧ W.heap[w.heap.size]? = some (.deferred (some [])))
      V hVb
      (fun s A B row hs hg' hr => ⟨hI s A B row hs.1 hg' (hrow hr), hkeep hg' hr hs.2.1 rfl, hkeep hg' hr hs.2.2 rfl⟩)
      (fun s A B row hs hg' hr => ⟨hIx s A B row hs.1 hg' (hrow hr), hkeep hg' hr hs.2.1 rfl, hkeep hg' hr hs.2.2 rfl⟩)
      ?round ⟨hV0, hVl, hVd⟩).mono ?behind
    case round =>
      rintro pre x W ⟨hi, hl, hk⟩ hGx hlen
      have hlt : w.heap.size + 1 < W.heap.size := (Array.getElem?_eq_some_iff.1 hl).1
      have hy := run_yield (P := P) (args := encs x) hl (by rw [hL]; exact hps x)
      rw [hL] at hy
      refine ⟨fn, _, assign, body, hy, roundIn_of_wpIn hfn (hassign _ x W _ ⟨_, run_beginRound hl (by rw [hL]), ?_⟩)⟩
      obtain ⟨W2, hW2⟩ : ∃ W2, W.putObj (w.heap.size + 1) (.loop { L .ready none with state := .busy }) = W2 := ⟨_, rfl⟩
      have hl2 : W2.heap[w.heap.size + 1]? = some (.loop { L .ready none with state := .busy }) := by rw [← hW2]; exact World.putObj_heap_same hlt
      have hk2 : W2.heap[w.heap.size]? = some (.deferred (some [])) := by rw [← hW2]; exact (World.putObj_heap_other (by omega)).trans hk
      have hw2 : Kp W W2 := by rw [← hW2]; exact hKb _ _ _ _ (by omega) hl rfl
      have hi2 : I pre W2 := by rw [← hW2]; exact hI.putObj _ hi (by omega) hl rfl
      have hG2 : G pre x W2 := by rw [← hW2]; exact hGb _ _ _ _ _ _ hl rfl hGx
      rw [hW2]
      refine wpIn_mono (hbody _ pre x W2 hi2 hG2 hlen) ?_
      have fin : ∀ (jump : Option Code) (W3 : World), KeepsOthers W2 W3 → ∃ W4, (Instr.endRound (w.heap.size + 1) jump).run P W3 = .ok (.bool jump.isNone) W4 ∧ W3.putObj (w.heap.size + 1) (.loop (L (if jump.isNone then .ready else .done) jump)) = W4 ∧
          W3.heap[w.heap.size + 1]? = some (.loop { L .ready none with state := .busy }) ∧ W4.heap[w.heap.size + 1]? = some (.loop (L (if jump.isNone then .ready else .done) jump)) ∧ W4.heap[w.heap.size]? = some (.deferred (some [])) := fun jump W3 hk3 => by
        have hl3 := hk3.same _ _ hl2 rfl
        have hr := run_endRound (P := P) jump hl3
        have hz : w.heap.size + 1 < W3.heap.size := (Array.getElem?_eq_some_iff.1 hl3).1
        have hd := (World.putObj_heap_other (w := W3) (r := w.heap.size + 1) (o := .loop (L (if jump.isNone then .ready else .done) jump)) (show w.heap.size ≠ w.heap.size + 1 by omega)).trans (hk3.same _ _ hk2 rfl)
        refine ⟨_, ?_, rfl, hl3, World.putObj_heap_same hz, hd⟩
        rw [hL] at hr ⊢
        exact hr
      rintro e a3 W3 hp
      cases e with
      | normal =>
        obtain ⟨hk3, hkp3, hi3⟩ := hp
        obtain ⟨W4, hr, hW4, hl3, hl4, hk4⟩ := fin none W3 hk3
        have hi4 : I (pre ++ [x]) W4 := by rw [← hW4]; exact hI.putObj _ hi3 (by omega) hl3 rfl
        have hkp4 : Kp W3 W4 := by rw [← hW4]; exact hKb _ _ _ _ (by omega) hl3 rfl
        exact ⟨_, _, hr, .inl ⟨rfl, ⟨hi4, hl4, hk4⟩, hKt (hKt hw2 hkp3) hkp4⟩⟩
      | ret =>
        obtain ⟨hk3, hi3⟩ := hp
        obtain ⟨W4, hr, hW4, hl3, hl4, hk4⟩ := fin (some .ret) W3 hk3
        have hi4 : Ix (pre ++ [x]) W4 := by rw [← hW4]; exact hIx.putObj _ hi3 (by omega) hl3 rfl
        exact ⟨_, _, hr, .inr ⟨rfl, hi4, hl4, hk4⟩⟩
      | exit id => exact hp.elim
      | goto t => exact hp.elim
      | panic ch => exact hp.elim
      | outgrown => exact hp.elim
    case behind =>
      rintro e W2 ⟨⟨v, rfl⟩, (⟨xs, hS, hi, hl, hk⟩ | ⟨pre, hi, hl, hk⟩)⟩
      · have hr := run_endLoop (P := P) hl (by rw [hL]; simp)
        have hd := (World.putObj_heap_other (w := W2) (r := w.heap.size + 1) (o := .loop { L .ready none with state := .exhausted }) (show w.heap.size ≠ w.heap.size + 1 by omega)).trans hk
        refine ⟨none, _, ?_, hdone _ xs _ (Nat.le_refl _) hS (hI.putObj (.loop { L .ready none with state := .exhausted }) hi (by omega) hl rfl) hd⟩
        rw [hL] at hr ⊢; exact hr
      · have hr := run_endLoop (P := P) hl (by rw [hL]; simp)
        have hd := (World.putObj_heap_other (w := W2) (r := w.heap.size + 1) (o := .loop { L .done (some .ret) with state := .exhausted }) (show w.heap.size ≠ w.heap.size + 1 by omega)).trans hk
        refine ⟨some .ret, _, ?_, hstop _ pre _ (Nat.le_refl _) (hIx.putObj (.loop { L .done (some .ret) with state := .exhausted }) hi (by omega) hl rfl) hd⟩
        rw [hL] at hr ⊢; exact hr
end Go.Proofs.YtlnilfcjcoclhaaGreatDoor

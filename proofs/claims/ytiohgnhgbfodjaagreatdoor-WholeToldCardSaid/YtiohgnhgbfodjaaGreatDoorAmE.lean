/- What the library contracts leave of the abstract store. -/
import Derived.Below
import Derived.Laws.AppendOwn
import Derived.Maps.Own
import Derived.Sort.KeysCollected
import Derived.Lib.SlKeysI
import Derived.Test.YtiohgnhgbfodjaaGreatDoorAmC
set_option linter.unusedVariables false
set_option linter.unusedSimpArgs false
set_option linter.deprecated false
/- Calls that the library's contracts answer for: what they leave of the abstract machine's store. -/
namespace Am
open Go
variable {H : Hc} {M : Mu} {σ : St} {w w' : World} {P : Program} {CR : Code → ACode → Prop}

/-- What nobody knew has come; nothing that lay before has turned. -/
theorem WRel.later (h : WRel CR H M σ w) (hb : RowKit.Below w.heap.size w w') : WRel CR H M σ w' ∧ Keeps M M w w' := by
  have same : ∀ c, c < w.heap.size → w'.heap[c]? = w.heap[c]? := fun c hc => hb.block c hc
  refine ⟨⟨h.next, fun b o hbo => ?_, h.lt, fun b c n hx => Nat.lt_of_lt_of_le (h.bnd b c n hx) hb.size, h.inj, fun c off v hv => ?_, h.apart⟩,
    ⟨Mu.Le.refl M, hb.size, fun c hc _ => same c hc, fun b _ n hx => .inr ⟨b, n, hx⟩, hb.output, hb.os, fun c lp hl => ⟨lp, by rw [same c (Array.getElem?_eq_some_iff.1 hl).1]; exact hl⟩⟩⟩
  · obtain ⟨c, n, h1, h2⟩ := h.obj b o hbo
    exact ⟨c, n, h1, by rw [same c (h.bnd _ _ _ h1)]; exact h2⟩
  · have h1 := h.imm c off v hv
    have hlt : c < w.heap.size := World.block_lt_of_cell? _ _ h1
    simp only [World.cell?] at h1 ⊢
    rw [same c hlt]; exact h1
/-- A new block of cells that nobody knew is taken in. -/
theorem WRel.take {A n : Nat} {o : AObj} (h : WRel CR H M σ w) (hb : RowKit.Below w.heap.size w w') (hA : w.heap.size ≤ A) (hlt : A < w'.heap.size)
    (ho : ORel CR H (M.add A n) n o w'.heap[A]?) : WRel CR H (M.add A n) (σ.new o) w' ∧ Keeps M (M.add A n) w w' := by
  obtain ⟨hw, hk⟩ := h.later hb
  have hle := M.le_add A n
  have at_N : (M.add A n).at_ M.N = some (A, n) := by simp [Mu.add]
  have at_ne : ∀ b, b ≠ M.N → (M.add A n).at_ b = M.at_ b := fun b hb => by simp [Mu.add, hb]
  have hfree : ∀ b n', M.at_ b ≠ some (A, n') := fun b n' hx => by have := h.bnd _ _ _ hx; omega
  refine ⟨⟨by simp [Mu.add, h.next], ?_, ?_, ?_, ?_, hw.imm, ?_⟩, ⟨hk.le.trans hle, hk.size, hk.frame, ?_, hk.out, hk.os, hk.loops⟩⟩
  · intro b o1 hbo
    rw [St.get_new, ← h.next] at hbo
    by_cases e' : b = M.N
    · subst e'; simp at hbo; subst hbo; exact ⟨_, _, at_N, ho⟩
    · simp [e'] at hbo
      obtain ⟨c, n', h1, h2⟩ := hw.obj b o1 hbo
      exact ⟨c, n', by rw [at_ne b e']; exact h1, h2.mono hle⟩
  · intro b x hx
    by_cases e' : b = M.N
    · subst e'; simp [Mu.add]
    · rw [at_ne b e'] at hx; exact Nat.lt_of_lt_of_le (h.lt b x hx) hle.N
  · intro b c n' hx
    by_cases e' : b = M.N
    · subst e'; rw [at_N] at hx; cases hx; exact hlt
    · rw [at_ne b e'] at hx; exact hw.bnd b c n' hx
  · intro b b' c n1 n2 h1 h2
    by_cases e1 : b = M.N
    · subst e1; rw [at_N] at h1; cases h1
      by_cases e2 : b' = M.N
      · exact e2.symm
      · rw [at_ne b' e2] at h2; exact absurd h2 (hfree _ _)
    · rw [at_ne b e1] at h1
      by_cases e2 : b' = M.N
      · subst e2; rw [at_N] at h2; cases h2; exact absurd h1 (hfree _ _)
      · rw [at_ne b' e2] at h2; exact h.inj _ _ _ _ _ h1 h2
  · intro b c n' off hx
    by_cases e' : b = M.N
    · subst e'; rw [at_N] at hx; cases hx
      cases hH : H A off with
      | none => rfl
      | some v => have := World.block_lt_of_cell? _ _ (h.imm _ _ _ hH); simp only at this; omega
    · rw [at_ne b e'] at hx; exact h.apart _ _ _ _ hx
  · intro b c n' hx
    by_cases e' : b = M.N
    · subst e'; rw [at_N] at hx; cases hx; exact .inl hA
    · rw [at_ne b e'] at hx; exact hk.fresh b c n' hx

/-! ### The keys of a map, sorted -/
def leqS (x y : List UInt8) : Bool := !ltBytes y x
def leqI (x y : Int) : Bool := !ltI y x
def ins {α : Type} (le : α → α → Bool) (x : α) : List α → List α
  | [] => [x]
  | y :: l => match le x y with
    | true => x :: y :: l
    | false => y :: ins le x l
def isort {α : Type} (le : α → α → Bool) : List α → List α
  | [] => []
  | x :: l => ins le x (isort le l)
theorem ins_perm {α : Type} (le : α → α → Bool) (x : α) : ∀ l, (ins le x l).Perm (x :: l)
  | [] => .refl _
  | y :: l => by
    simp only [ins]; split
    · exact .refl _
    · exact ((ins_perm le x l).cons y).trans (.swap x y l)
theorem isort_perm {α : Type} (le : α → α → Bool) : ∀ l : List α, (isort le l).Perm l
  | [] => .refl _
  | x :: l => (ins_perm le x _).trans ((isort_perm le l).cons x)
theorem ins_sorted {α : Type} {le : α → α → Bool} (ht : ∀ a b c, le a b = true → le b c = true → le a c = true) (hl : ∀ a b, (le a b || le b a) = true) (x : α) : ∀ l : List α, l.Pairwise (fun a b => le a b = true) → (ins le x l).Pairwise (fun a b => le a b = true)
  | [], _ => by simp [ins]
  | y :: l, h => by
    have h' := List.pairwise_cons.1 h
    simp only [ins]; split
    · rename_i hxy
      refine List.pairwise_cons.2 ⟨fun z hz => ?_, h⟩
      rcases List.mem_cons.1 hz with rfl | hz
      · exact hxy
      · exact ht _ _ _ hxy (h'.1 z hz)
    · rename_i hxy
      refine List.pairwise_cons.2 ⟨fun z hz => ?_, ins_sorted ht hl x l h'.2⟩
      rcases List.mem_cons.1 ((ins_perm le x l).mem_iff.1 hz) with rfl | hz
      · have := hl z y; rw [Bool.or_eq_true] at this
        rcases this with h1 | h1
        · rw [h1] at hxy; simp at hxy
        · exact h1
      · exact h'.1 z hz
theorem isort_sorted {α : Type} {le : α → α → Bool} (ht : ∀ a b c, le a b = true → le b c = true → le a c = true) (hl : ∀ a b, (le a b || le b a) = true) : ∀ l : List α, (isort le l).Pairwise (fun a b => le a b = true)
  | [] => .nil
  | x :: l => ins_sorted ht hl x _ (isort_sorted ht hl l)
theorem ltBytes_lt : ∀ x y : List UInt8, ltBytes x y = true ↔ x < y
  | _, [] => by simp [ltBytes]
  | [], _ :: _ => by simp [ltBytes]
  | a :: x, b :: y => by
    have ih := ltBytes_lt x y
    have e1 : Nat.blt a.toNat b.toNat = true ↔ a < b := by rw [Nat.blt_eq]; exact Iff.rfl
    have e2 : Nat.beq a.toNat b.toNat = true ↔ a = b := by rw [Nat.beq_eq]; exact ⟨UInt8.toNat_inj.1, fun h => by rw [h]⟩
    rw [List.cons_lt_cons_iff]
    simp only [ltBytes]
    split
    · rename_i h; rw [e1] at h; simp [h]
    · rename_i h
      have h1 : ¬ a < b := fun h' => by rw [e1.2 h'] at h; simp at h
      split
      · rename_i h2; rw [e2] at h2; subst h2; simp [ih]
      · rename_i h2
        have h3 : ¬ a = b := fun h' => by rw [e2.2 h'] at h2; simp at h2
        simp [h1, h3]
theorem leqS_eq (x y : List UInt8) : leqS x y = decide (x ≤ y) := by
  unfold leqS
  by_cases h : y < x
  · rw [(ltBytes_lt y x).2 h]; simp only [Bool.not_true]; exact (decide_eq_false (fun h' => (List.not_le.2 h) h')).symm
  · have : ltBytes y x = false := by cases hq : ltBytes y x with | false => rfl | true => exact absurd ((ltBytes_lt y x).1 hq) h
    rw [this]; simp only [Bool.not_false]; exact (decide_eq_true (List.not_lt.1 h)).symm
theorem isortS_eq (l l' : List (List UInt8)) (h : l'.Perm l) : l'.mergeSort (fun x y => decide (x ≤ y)) = isort leqS l := by
  have e : leqS = fun x y => decide (x ≤ y) := funext fun x => funext fun y => leqS_eq x y
  have tr : ∀ a b c : List UInt8, (decide (a ≤ b)) = true → (decide (b ≤ c)) = true → (decide (a ≤ c)) = true := fun a b c h1 h2 => by simp only [decide_eq_true_eq] at *; exact List.le_trans h1 h2
  have to : ∀ a b : List UInt8, ((decide (a ≤ b)) || (decide (b ≤ a))) = true := fun a b => by simp only [Bool.or_eq_true, decide_eq_true_eq]; exact List.le_total a b
  rw [e]
  refine List.Perm.eq_of_pairwise (le := fun a b => decide (a ≤ b) = true) (fun a b _ _ h1 h2 => ?_) (List.pairwise_mergeSort tr to l') (isort_sorted tr to l) (((List.mergeSort_perm l' _).trans h).trans (isort_perm _ l).symm)
  simp only [decide_eq_true_eq] at h1 h2
  exact List.le_antisymm h1 h2
theorem leqI_eq (x y : Int) : leqI x y = decide (x ≤ y) := by
  unfold leqI; rw [ltI_eq]
  by_cases h : y < x
  · simp [h]
  · simp [h]; omega
theorem isortI_eq (l l' : List Int) (h : l'.Perm l) : l'.mergeSort (fun x y => decide (x ≤ y)) = isort leqI l := by
  have e : leqI = fun x y => decide (x ≤ y) := funext fun x => funext fun y => leqI_eq x y
  have tr : ∀ a b c : Int, (decide (a ≤ b)) = true → (decide (b ≤ c)) = true → (decide (a ≤ c)) = true := fun a b c h1 h2 => by simp only [decide_eq_true_eq] at *; omega
  have to : ∀ a b : Int, ((decide (a ≤ b)) || (decide (b ≤ a))) = true := fun a b => by simp only [Bool.or_eq_true, decide_eq_true_eq]; omega
  rw [e]
  refine List.Perm.eq_of_pairwise (le := fun a b => decide (a ≤ b) = true) (fun a b _ _ h1 h2 => ?_) (List.pairwise_mergeSort tr to l') (isort_sorted tr to l) (((List.mergeSort_perm l' _).trans h).trans (isort_perm _ l).symm)
  simp only [decide_eq_true_eq] at h1 h2
  omega
/-! ### slices.Sorted(maps.Keys(m)) -/
def keyStrs : List AEnt → Option (List (List UInt8))
  | [] => some []
  | e :: es => match e.key with
    | .str s => match Nat.ble s.size 140737488355328 with
      | true => match keyStrs es with
        | some l => some (s.data.toList :: l)
        | none => none
      | false => none
    | _ => none
def keyInts : List AEnt → Option (List Int)
  | [] => some []
  | e :: es => match e.key with
    | .int .i64 n => match eqI (wrapI .i64 n) n with
      | true => match keyInts es with
        | some l => some (n :: l)
        | none => none
      | false => none
    | _ => none
def hasS (x : List UInt8) : List (List UInt8) → Bool
  | [] => false
  | y :: l => match eqBytes x y with
    | true => true
    | false => hasS x l
def onceS : List (List UInt8) → Bool
  | [] => true
  | x :: l => match hasS x l with
    | true => false
    | false => onceS l
def hasI (x : Int) : List Int → Bool
  | [] => false
  | y :: l => match eqI x y with
    | true => true
    | false => hasI x l
def onceI : List Int → Bool
  | [] => true
  | x :: l => match hasI x l with
    | true => false
    | false => onceI l
def onceN : List Nat → Bool
  | [] => true
  | x :: l => match Regs.elemN x l with
    | true => false
    | false => onceN l
def bornOk (clock : Nat) : List AEnt → Bool
  | [] => true
  | e :: es => match Nat.blt e.born clock with
    | true => bornOk clock es
    | false => false
theorem eqBytes_iff : ∀ x y : List UInt8, eqBytes x y = true ↔ x = y
  | [], [] => by simp [eqBytes]
  | [], _ :: _ => by simp [eqBytes]
  | _ :: _, [] => by simp [eqBytes]
  | a :: x, b :: y => by
    have ih := eqBytes_iff x y
    have e2 : Nat.beq a.toNat b.toNat = true ↔ a = b := by rw [Nat.beq_eq]; exact ⟨UInt8.toNat_inj.1, fun h => by rw [h]⟩
    simp only [eqBytes]
    split
    · rename_i h; rw [e2] at h; simp [h, ih]
    · rename_i h
      have : ¬ a = b := fun h' => by rw [e2.2 h'] at h; simp at h
      simp [this]
theorem eqI_iff (x y : Int) : eqI x y = true ↔ x = y := by rw [eqI_eq]; simp
theorem hasS_iff (x : List UInt8) : ∀ l, hasS x l = true ↔ x ∈ l
  | [] => by simp [hasS]
  | y :: l => by
    simp only [hasS, List.mem_cons]
    split
    · rename_i h; simp [(eqBytes_iff x y).1 h]
    · rename_i h
      have : ¬ x = y := fun e => by rw [(eqBytes_iff x y).2 e] at h; simp at h
      simp [this, hasS_iff x l]
theorem onceS_iff : ∀ l, onceS l = true ↔ l.Nodup
  | [] => by simp [onceS]
  | x :: l => by
    simp only [onceS, List.nodup_cons]
    split
    · rename_i h; simp [(hasS_iff x l).1 h]
    · rename_i h
      have : ¬ x ∈ l := fun e => by rw [(hasS_iff x l).2 e] at h; simp at h
      simp [this, onceS_iff l]
theorem hasI_iff (x : Int) : ∀ l, hasI x l = true ↔ x ∈ l
  | [] => by simp [hasI]
  | y :: l => by
    simp only [hasI, List.mem_cons]
    split
    · rename_i h; simp [(eqI_iff x y).1 h]
    · rename_i h
      have : ¬ x = y := fun e => by rw [(eqI_iff x y).2 e] at h; simp at h
      simp [this, hasI_iff x l]
theorem onceI_iff : ∀ l, onceI l = true ↔ l.Nodup
  | [] => by simp [onceI]
  | x :: l => by
    simp only [onceI, List.nodup_cons]
    split
    · rename_i h; simp [(hasI_iff x l).1 h]
    · rename_i h
      have : ¬ x ∈ l := fun e => by rw [(hasI_iff x l).2 e] at h; simp at h
      simp [this, onceI_iff l]
theorem onceN_iff : ∀ l, onceN l = true ↔ l.Nodup
  | [] => by simp [onceN]
  | x :: l => by
    simp only [onceN, List.nodup_cons]
    split
    · rename_i h; simp [(elemN_iff x l).1 h]
    · rename_i h
      have : ¬ x ∈ l := fun e => by rw [(elemN_iff x l).2 e] at h; simp at h
      simp [this, onceN_iff l]
theorem bornOk_iff (clock : Nat) : ∀ l, bornOk clock l = true ↔ ∀ e ∈ l, e.born < clock
  | [] => by simp [bornOk]
  | e :: l => by
    simp only [bornOk, List.mem_cons, forall_eq_or_imp]
    split
    · rename_i h; simp only [Nat.blt_eq] at h; simp [h, bornOk_iff clock l]
    · rename_i h
      have : ¬ e.born < clock := fun h' => by rw [show Nat.blt e.born clock = true by rw [Nat.blt_eq]; exact h'] at h; simp at h
      simp [this]
def mapAt (σ : St) (b : Nat) : Option (List AEnt × Nat) := match σ.get b with
  | some (.cells [.map m] _) => match σ.get m with
    | some (.map es clock) => some (es, clock)
    | _ => none
  | _ => none
def stampOk (es : List AEnt) (clock : Nat) : Bool := match bornOk clock es with
  | true => match onceN (es.map (·.born)) with
    | true => Nat.ble es.length 8796093022208
    | false => false
  | false => false
def putSorted (σ : St) (r : List PV) : PV × St := match r with
  | [] => (.nils, σ)
  | _ :: _ => (.slice σ.next 0 r.length 1 none, σ.new (.cells r true))
def strOfBytes (l : List UInt8) : PV := .str ⟨l.toArray⟩
def sortedS (fit : Nat) (args : List PV) (σ : St) : Option (PV × St) := match args with
  | [.func f [] [.ptr b 0]] => match Nat.beq f fit with
    | true => match mapAt σ b with
      | some (es, clock) => match keyStrs es with
        | some ks => match onceS ks with
          | true => match stampOk es clock with
            | true => some (putSorted σ ((isort leqS ks).map strOfBytes))
            | false => none
          | false => none
        | none => none
      | none => none
    | false => none
  | _ => none
def sortedI (fit : Nat) (args : List PV) (σ : St) : Option (PV × St) := match args with
  | [.func f [] [.ptr b 0]] => match Nat.beq f fit with
    | true => match mapAt σ b with
      | some (es, clock) => match keyInts es with
        | some ks => match onceI ks with
          | true => match stampOk es clock with
            | true => some (putSorted σ ((isort leqI ks).map (PV.int .i64)))
            | false => none
          | false => none
        | none => none
      | none => none
    | false => none
  | _ => none
theorem mapAt_spec {b : Nat} {es : List AEnt} {clock : Nat} (h : mapAt σ b = some (es, clock)) : ∃ m op, σ.get b = some (.cells [.map m] op) ∧ σ.get m = some (.map es clock) := by
  unfold mapAt at h
  split at h
  · rename_i m op h1
    split at h
    · rename_i h2; simp only [Option.some.injEq, Prod.mk.injEq] at h; obtain ⟨rfl, rfl⟩ := h; exact ⟨m, op, h1, h2⟩
    · simp at h
  · simp at h
theorem stampOk_spec {es : List AEnt} {clock : Nat} (h : stampOk es clock = true) : (∀ e ∈ es, e.born < clock) ∧ (es.map (·.born)).Nodup ∧ es.length ≤ 8796093022208 := by
  unfold stampOk at h
  split at h
  · rename_i h1
    split at h
    · rename_i h2; exact ⟨(bornOk_iff _ _).1 h1, (onceN_iff _).1 h2, Nat.le_of_ble_eq_true h⟩
    · simp at h
  · simp at h
theorem ERels_born : ∀ {es : List AEnt} {es' : List MapEntry}, ERels H M es es' → es'.map (·.born) = es.map (·.born)
  | [], _, h => by cases h; rfl
  | e :: es, _, h => by
    obtain ⟨y, ys, rfl, h1, h2⟩ := h
    simp [h1.2.2, ERels_born h2]
theorem ERels_strs : ∀ {es : List AEnt} {es' : List MapEntry} {ks : List (List UInt8)}, ERels H M es es' → keyStrs es = some ks → es'.map (·.key) = ks.map Proofs.encStr ∧ ∀ k ∈ ks, k.length ≤ 140737488355328
  | [], _, ks, h, hk => by cases h; simp [keyStrs] at hk; subst hk; simp
  | e :: es, _, ks, h, hk => by
    obtain ⟨y, ys, rfl, h1, h2⟩ := h
    unfold keyStrs at hk
    split at hk
    · rename_i s hs
      split at hk
      · rename_i hn
        split at hk
        · rename_i l hl
          simp only [Option.some.injEq] at hk; subst hk
          obtain ⟨g1, g2⟩ := ERels_strs h2 hl
          have hy := h1.1
          rw [hs] at hy; simp only [VRel] at hy
          refine ⟨by simp [g1, hy, Proofs.encStr], fun k hk => ?_⟩
          rcases List.mem_cons.1 hk with rfl | hk
          · have := Nat.le_of_ble_eq_true hn; simpa using this
          · exact g2 k hk
        · simp at hk
      · simp at hk
    · simp at hk
theorem ERels_ints : ∀ {es : List AEnt} {es' : List MapEntry} {ks : List Int}, ERels H M es es' → keyInts es = some ks → es'.map (·.key) = ks.map encZ ∧ ∀ n ∈ ks, IntKind.i64.wrap n = n
  | [], _, ks, h, hk => by cases h; simp [keyInts] at hk; subst hk; simp
  | e :: es, _, ks, h, hk => by
    obtain ⟨y, ys, rfl, h1, h2⟩ := h
    unfold keyInts at hk
    split at hk
    · rename_i n hn
      split at hk
      · rename_i hwr
        split at hk
        · rename_i l hl
          simp only [Option.some.injEq] at hk; subst hk
          have hy := h1.1
          rw [hn] at hy; simp only [VRel] at hy
          obtain ⟨g1, g2⟩ := ERels_ints h2 hl
          refine ⟨by simp [g1, hy], fun x hx => ?_⟩
          rcases List.mem_cons.1 hx with rfl | hx
          · rw [eqI_iff, wrapI_eq] at hwr; exact hwr
          · exact g2 x hx
        · simp at hk
      · simp at hk
    · simp at hk
/-- What a row of its own, laid by a call, is to the abstract machine. -/
theorem put_sorted {v : Value} {r : List PV} {xs : List Value} {e : TypeId} (hw : WRel CR H M σ w) (hb : RowKit.Below w.heap.size w w') (hrow : w'.ownsRow w.heap.size e 1 v xs.length xs) (hnil : v = .slice none 0 0 ↔ xs = []) (hr : ∀ M, VRels H M r xs) :
    ∃ M', WRel CR H M' (putSorted σ r).2 w' ∧ Keeps M M' w w' ∧ VRel H M' (putSorted σ r).1 v := by
  cases r with
  | nil =>
    have : xs = [] := by have := hr M; simpa only [VRels] using this
    obtain ⟨h1, h2⟩ := hw.later hb
    exact ⟨M, h1, h2, by rw [hnil.2 this]; simp only [putSorted, VRel]⟩
  | cons x r =>
    have hne : xs ≠ [] := by rintro rfl; have := hr M; simp [VRels] at this
    rcases hrow.2 with ⟨rfl, _⟩ | ⟨g, cap, cur, rfl, hg, hob, h1, h2, h3, h4⟩
    · exact absurd (hnil.1 rfl) hne
    · have hlen := hrow.1
      have hxl : xs.length = (x :: r).length := (hr M).length
      have hlt : g < w'.heap.size := (Array.getElem?_eq_some_iff.1 hob).1
      obtain ⟨g1, g2⟩ := hw.take (o := .cells (x :: r) true) (n := cur.size) hb hg hlt (by
        refine ⟨cur.toList, e, (0, 0), by simpa using hob, by simp, by simp, by simp, xs, cur.toList.drop (xs.length * 1), ?_, hr _⟩
        conv => rhs; arg 1; rw [← h4]
        rw [List.take_append_drop])
      refine ⟨_, g1, g2, ?_⟩
      simp only [putSorted, VRel]
      refine ⟨by simp [Mu.add, hw.next], ⟨g, 0, none⟩, cap, by simp [hxl], by rw [← hxl]; exact h1, by omega, by simp, fun c n hc => ?_⟩
      have : (M.add g cur.size).at_ σ.next = some (g, cur.size) := by simp [Mu.add, hw.next]
      rw [this] at hc; simp only [Option.some.injEq, Prod.mk.injEq] at hc; obtain ⟨rfl, rfl⟩ := hc
      exact ⟨.inr rfl, by omega, fun _ => by omega⟩
/-! ### strings.Contains, event.Less: what they answer -/
def startsB : List UInt8 → List UInt8 → Bool
  | [], _ => true
  | _ :: _, [] => false
  | a :: p, b :: s => match Nat.beq a.toNat b.toNat with
    | true => startsB p s
    | false => false
def containsB (p : List UInt8) : List UInt8 → Bool
  | [] => match p with
    | [] => true
    | _ :: _ => false
  | b :: s => match startsB p (b :: s) with
    | true => true
    | false => containsB p s
def containsH (args : List PV) (σ : St) : Option (PV × St) := match args with
  | [.str s, .str p] => match Nat.blt s.size 4294967281 with
    | true => some (.bool (containsB p.data.toList s.data.toList), σ)
    | false => none
  | _ => none
def lessQ (a b c a' b' c' : Int) : Bool := match eqI a a' with
  | true => match eqI b b' with
    | true => ltI c c'
    | false => ltI b b'
  | false => ltI a a'
def lessH (args : List PV) (σ : St) : Option (PV × St) := match args with
  | [.agg [.int .i64 a, .int .i64 b, .int .i64 c, _, _], .agg [.int .i64 a', .int .i64 b', .int .i64 c', _, _]] => some (.bool (lessQ a b c a' b' c'), σ)
  | _ => none
end Am

/- Calls that the library contracts answer for, at this program. -/
import Derived.Test.YtiohgnhgbfodjaaGreatDoorLay
import Derived.Test.YtiohgnhgbfodjaaGreatDoorAmE
import Derived.KernelRfl
import Derived.Test.YtiohgnhgbfodjaaGreatDoorLess
set_option linter.unusedVariables false
set_option linter.unusedSimpArgs false
set_option linter.deprecated false
namespace Go.Proofs
open Go.RowKit Go.Maps Go.Sort Go.Shelf
theorem Tryz.sortsS (m : Nat) : AnyZ.SortsIn Tryz.prog Tryz.sortedS_ren Fence.wide m :=
  ⟨fun blk off cap ss W hH hblk hsz => callsIn_wide.2 (AnyM.slices_Sort_string Tryz.sortS blk off cap ss W hH hblk hsz),
   fun p cap W => callsIn_wide.2 (AnyM.slices_Sort_string_none Tryz.sortS p cap W)⟩
theorem Tryz.sortsI (m : Nat) : AnyZI.SortsIn Tryz.prog Tryz.sortedI_ren Fence.wide m :=
  ⟨fun blk off cap ss W hH hblk hsz => callsIn_wide.2 (AnyM.slices_Sort_int Tryz.sortI blk off cap ss W hH hblk hsz),
   fun p cap W => callsIn_wide.2 (AnyM.slices_Sort_int_none Tryz.sortI p cap W)⟩
theorem Tryz.callS (c b nn : Nat) (D0 : DataW Unit) (R : Value → Option (DataW Unit × List MemPlace)) (w : World) (hc : c < w.heap.size) (hcell : w.cell? ⟨c, 0, none⟩ = some (.map (some b))) (hown : w.ownsMap Tryz.prog 9 R b nn D0) (hmax : Maps.size D0 ≤ maxLen) (hbytes : Maps.size D0 * 16 ≤ 140737488355328) :
    Calls Tryz.prog 46 #[.func (.func 82) #[] #[.pointer (some ⟨c, 0, none⟩)]] w fun e w' => ∃ (v : Value) (ss : List (List UInt8)), e = .returned v ∧ ss.Perm (strKeys D0) ∧
      w'.ownsRow w.heap.size 9 1 v ss.length ((ss.mergeSort (fun x y => decide (x ≤ y))).map encStr) ∧ (v = .slice none 0 0 ↔ ss = []) ∧ Below w.heap.size w w' := by
  refine (callsIn_wide (n := 6)).1 ?_
  have hseq : SeqGives Fence.wide 3 Tryz.prog 82 #[.pointer (some ⟨c, 0, none⟩)] encStr (fun ss => ss.Perm (strKeys D0)) (Maps.size D0) w :=
    AnyZ.keys_gives (ρ := Tryz.keysS_ren) { Tryz.keysS with } Fence.wide _ trivial rfl (by omega) c b nn D0 _ hc hcell hown
  exact AnyZ.sorted_in Tryz.sortedS Fence.wide 6 trivial trivial trivial trivial rfl (by omega) (Tryz.sortsS _) (enters_of Tryz.func81 (by kernel_rfl) rfl) 82 #[.pointer (some ⟨c, 0, none⟩)] trivial (enters_of Tryz.func82 (by kernel_rfl) rfl) _ _ hmax hbytes _ hseq
theorem Tryz.callI (c b nn : Nat) (D0 : DataW Unit) (R : Value → Option (DataW Unit × List MemPlace)) (w : World) (hc : c < w.heap.size) (hcell : w.cell? ⟨c, 0, none⟩ = some (.map (some b))) (hown : w.ownsMap Tryz.prog 3 R b nn D0) (hmax : Maps.size D0 ≤ maxLen) (hbytes : Maps.size D0 * 8 ≤ 140737488355328) :
    Calls Tryz.prog 40 #[.func (.func 79) #[] #[.pointer (some ⟨c, 0, none⟩)]] w fun e w' => ∃ (v : Value) (ss : List Int), e = .returned v ∧ ss.Perm (intKeys D0) ∧
      w'.ownsRow w.heap.size 3 1 v ss.length ((ss.mergeSort (fun x y => decide (x ≤ y))).map encZ) ∧ (v = .slice none 0 0 ↔ ss = []) ∧ Below w.heap.size w w' := by
  refine (callsIn_wide (n := 6)).1 ?_
  have hseq : SeqGives Fence.wide 3 Tryz.prog 79 #[.pointer (some ⟨c, 0, none⟩)] encZ (fun ss => ss.Perm (intKeys D0)) (Maps.size D0) w :=
    AnyZI.keys_gives (ρ := Tryz.keysI_ren) { Tryz.keysI with } Fence.wide _ trivial rfl (by omega) c b nn D0 _ hc hcell hown
  exact AnyZI.sorted_in Tryz.sortedI Fence.wide 6 trivial trivial trivial trivial rfl (by omega) (Tryz.sortsI _) (enters_of Tryz.func78 (by kernel_rfl) rfl) 79 #[.pointer (some ⟨c, 0, none⟩)] trivial (enters_of Tryz.func79 (by kernel_rfl) rfl) _ _ hmax hbytes _ hseq
end Go.Proofs
namespace Am
open Go Go.Proofs Go.WideElems Go.MapKept
variable {H : Hc} {σ σ' : St}
def plainR : Value → Option (DataW Unit × List MemPlace) := fun _ => some (.nil, [])
theorem foldr_perm (E : List (Lit × DataW Unit)) : (E.foldr DataW.insert []).Perm E := Go.WideShapes.sorted_perm E
theorem own_strs {P : Program} {k m : Nat} {w : World} {es : List MapEntry} {clock : Nat} {ks : List (List UInt8)} (hk : P.underlying k = some .string) (hm : w.heap[m]? = some (.map es.toArray clock)) (hst : Stamped es.toArray clock) (hlen : es.length ≤ maxLen)
    (hks : es.map (·.key) = ks.map encStr) (hkl : ∀ x ∈ ks, x.length ≤ maxLen) : ∃ D0 : DataW Unit, w.ownsMap P k plainR m es.length D0 ∧ (strKeys D0).Perm ks ∧ Maps.size D0 = es.length := by
  have key : ∀ (es : List MapEntry) (ks : List (List UInt8)), es.map (·.key) = ks.map encStr → (∀ x ∈ ks, x.length ≤ maxLen) → (∀ x ∈ es, ∃ y, rd P k plainR x = some y) ∧ es.map (Go.WideElems.rg P k plainR) = ks.map fun x => (Lit.string x, DataW.nil) := by
    intro es
    induction es with
    | nil => intro ks h _; cases ks <;> simp at h ⊢
    | cons e es ih =>
      intro ks h hl
      cases ks with
      | nil => simp at h
      | cons x ks =>
        simp only [List.map_cons, List.cons.injEq] at h
        obtain ⟨i1, i2⟩ := ih ks h.2 (fun y hy => hl y (by simp [hy]))
        have hx := hl x (by simp)
        have hr : rd P k plainR e = some (.string x, .nil) := by
          unfold rd keyOf
          rw [hk, h.1]
          simp [mapKey, hk, hx, plainR, encStr, ByteArray.size]
        refine ⟨fun y hy => ?_, ?_⟩
        · rcases List.mem_cons.1 hy with rfl | hy
          · exact ⟨_, hr⟩
          · exact i1 y hy
        · simp only [List.map_cons, i2, Go.WideElems.rg_of hr]
  obtain ⟨k1, k2⟩ := key es ks hks hkl
  refine ⟨_, ⟨es.toArray, clock, hm, ⟨by simpa using hlen, hst, by simpa using k1⟩, by simp, rfl⟩, ?_, ?_⟩
  · have h := foldr_perm (es.map (Go.WideElems.rg P k plainR))
    have : (strKeys (.map ((es.map (Go.WideElems.rg P k plainR)).foldr DataW.insert []) : DataW Unit)).Perm ((es.map (Go.WideElems.rg P k plainR)).map fun p => strOf p.1) := h.map _
    refine this.trans ?_
    rw [k2]; simp [strOf, Function.comp_def]
  · have h := (foldr_perm (es.map (Go.WideElems.rg P k plainR))).length_eq
    simpa [Maps.size] using h
theorem own_ints {P : Program} {k m : Nat} {w : World} {es : List MapEntry} {clock : Nat} {ks : List Int} (hk : P.underlying k = some (.int .i64)) (hm : w.heap[m]? = some (.map es.toArray clock)) (hst : Stamped es.toArray clock) (hlen : es.length ≤ maxLen)
    (hks : es.map (·.key) = ks.map encZ) (hkl : ∀ x ∈ ks, (Lit.int .i64 x).wf = true) : ∃ D0 : DataW Unit, w.ownsMap P k plainR m es.length D0 ∧ (intKeys D0).Perm ks ∧ Maps.size D0 = es.length := by
  have key : ∀ (es : List MapEntry) (ks : List Int), es.map (·.key) = ks.map encZ → (∀ x ∈ ks, (Lit.int .i64 x).wf = true) → (∀ x ∈ es, ∃ y, rd P k plainR x = some y) ∧ es.map (Go.WideElems.rg P k plainR) = ks.map fun x => (Lit.int .i64 x, DataW.nil) := by
    intro es
    induction es with
    | nil => intro ks h _; cases ks <;> simp at h ⊢
    | cons e es ih =>
      intro ks h hl
      cases ks with
      | nil => simp at h
      | cons x ks =>
        simp only [List.map_cons, List.cons.injEq] at h
        obtain ⟨i1, i2⟩ := ih ks h.2 (fun y hy => hl y (by simp [hy]))
        have hx := hl x (by simp)
        have hr : rd P k plainR e = some (.int .i64 x, .nil) := by
          unfold rd keyOf
          rw [hk, h.1]
          simp [mapKey, hk, hx, plainR, encZ]
        refine ⟨fun y hy => ?_, ?_⟩
        · rcases List.mem_cons.1 hy with rfl | hy
          · exact ⟨_, hr⟩
          · exact i1 y hy
        · simp only [List.map_cons, i2, Go.WideElems.rg_of hr]
  obtain ⟨k1, k2⟩ := key es ks hks hkl
  refine ⟨_, ⟨es.toArray, clock, hm, ⟨by simpa using hlen, hst, by simpa using k1⟩, by simp, rfl⟩, ?_, ?_⟩
  · have h := foldr_perm (es.map (Go.WideElems.rg P k plainR))
    have : (intKeys (.map ((es.map (Go.WideElems.rg P k plainR)).foldr DataW.insert []) : DataW Unit)).Perm ((es.map (Go.WideElems.rg P k plainR)).map fun p => _root_.Go.intOf p.1) := h.map _
    refine this.trans ?_
    rw [k2]; simp [_root_.Go.intOf, Function.comp_def]
  · have h := (foldr_perm (es.map (Go.WideElems.rg P k plainR))).length_eq
    simpa [Maps.size] using h
theorem wf_wrap {n : Int} (h : IntKind.i64.wrap n = n) : (Lit.int .i64 n).wf = true := by
  have h1 : -(2 ^ 63 : Int) ≤ IntKind.i64.wrap n ∧ IntKind.i64.wrap n < 2 ^ 63 := by
    unfold IntKind.wrap
    simp only [IntKind.signed, IntKind.bits]
    by_cases hc : n % (2 ^ 64 : Int) ≥ 2 ^ (64 - 1)
    · simp only [hc, decide_true, Bool.and_self, if_true]; omega
    · simp only [hc, decide_false, Bool.and_false, Bool.false_eq_true, if_false]; omega
  rw [h] at h1
  simp [Lit.wf, IntKind.min, IntKind.max, IntKind.signed, IntKind.bits]
  omega
theorem sortedS_ok {args : List PV} {v : PV} (h : sortedS 82 args σ = some (v, σ')) : CallOk Tryz.prog H 46 args σ v σ' := by
  unfold sortedS at h
  split at h
  · rename_i f b
    split at h
    · rename_i hf
      have := Nat.eq_of_beq_eq_true hf; subst this
      split at h
      · rename_i es clock hma
        split at h
        · rename_i ks hks
          split at h
          · rename_i hon
            split at h
            · rename_i hst
              simp only [Option.some.injEq] at h
              obtain ⟨m, op, hb, hm⟩ := mapAt_spec hma
              obtain ⟨s1, s2, s3⟩ := stampOk_spec hst
              have hnd := (onceS_iff _).1 hon
              intro M w vs hvs hw
              refine ⟨enters_of Tryz.func46 (by kernel_rfl) rfl vs.toArray w, ?_⟩
              simp only [VRels, VRel] at hvs
              obtain ⟨_, _, rfl, ⟨_, _, rfl, rfl, _, _, rfl, ⟨hbN, a, rfl, ha⟩, rfl⟩, rfl⟩ := hvs
              obtain ⟨c, n, hc, cl, e, fr, ho, hcn, hfull, _, c1, c2, hcl, hcv⟩ := hw.obj b _ hb
              rw [ha c n hc]
              simp only [VRels, VRel] at hcv
              obtain ⟨_, _, rfl, ⟨hmN, r, rfl, hr⟩, rfl⟩ := hcv
              obtain ⟨cm, nm, hcm, es', ho', hes'⟩ := hw.obj m _ hm
              rw [hr cm nm hcm] at hcl
              have hclt := hw.bnd _ _ _ hc
              obtain ⟨g1, g2⟩ := ERels_strs hes' hks
              have hborn := ERels_born hes'
              have hlen : es'.length = es.length := by have := congrArg List.length hborn; simpa using this
              have hkn : ks.length = es'.length := by have := congrArg List.length g1; simpa using this.symm
              obtain ⟨D0, hown, hperm, hsz⟩ := own_strs (P := Tryz.prog) (k := 9) (ks := ks) (w := w) (m := cm) (by kernel_rfl) ho' (by
                refine ⟨fun x hx => ?_, by simpa [hborn] using s2, ?_⟩
                · have : x.born ∈ es'.map (·.born) := List.mem_map_of_mem (by simpa using hx)
                  rw [hborn] at this
                  obtain ⟨y, hy, he⟩ := List.mem_map.1 this
                  rw [← he]; exact s1 y hy
                · simp only [g1]
                  exact List.pairwise_map.2 (hnd.imp fun hne e => hne (_root_.Go.encStr_inj e))) (by rw [hlen]; unfold maxLen; omega) g1 (fun x hx => by have := g2 x hx; unfold maxLen; omega)
              refine (Tryz.callS c cm es'.length D0 plainR w hclt (by simp [World.cell?, ho, hcl]) hown (by rw [hsz, hlen]; unfold maxLen; omega) (by rw [hsz, hlen]; omega)).mono ?_
              rintro e w' ⟨v', ss, rfl, hss, hrow, hnil, hbl⟩
              rw [isortS_eq ks ss (hss.trans hperm)] at hrow
              have hsl : ss.length = ((isort leqS ks).map encStr).length := by
                rw [List.length_map]; exact (hss.trans (hperm.trans (isort_perm leqS ks).symm)).length_eq
              rw [hsl] at hrow
              obtain ⟨M', q1, q2, q3⟩ := put_sorted (σ := σ) (r := (isort leqS ks).map strOfBytes) hw hbl hrow (by
                rw [hnil]
                constructor
                · rintro rfl; exact List.eq_nil_of_length_eq_zero (by rw [← hsl]; rfl)
                · intro h0; exact List.eq_nil_of_length_eq_zero (by rw [hsl, h0]; rfl)) (fun M => by
                  generalize isort leqS ks = l
                  induction l with
                  | nil => simp [VRels]
                  | cons x l ih => exact VRels.cons_iff.2 ⟨by simp [strOfBytes, VRel, encStr], ih⟩)
              have hv1 : v = (putSorted σ ((isort leqS ks).map strOfBytes)).1 := by rw [h]
              have hv2 : σ' = (putSorted σ ((isort leqS ks).map strOfBytes)).2 := by rw [h]
              rw [hv1, hv2]
              exact ⟨M', q1, q2, q3⟩
            · simp at h
          · simp at h
        · simp at h
      · simp at h
    · simp at h
  · simp at h
theorem sortedI_ok {args : List PV} {v : PV} (h : sortedI 79 args σ = some (v, σ')) : CallOk Tryz.prog H 40 args σ v σ' := by
  unfold sortedI at h
  split at h
  · rename_i f b
    split at h
    · rename_i hf
      have := Nat.eq_of_beq_eq_true hf; subst this
      split at h
      · rename_i es clock hma
        split at h
        · rename_i ks hks
          split at h
          · rename_i hon
            split at h
            · rename_i hst
              simp only [Option.some.injEq] at h
              obtain ⟨m, op, hb, hm⟩ := mapAt_spec hma
              obtain ⟨s1, s2, s3⟩ := stampOk_spec hst
              have hnd := (onceI_iff _).1 hon
              intro M w vs hvs hw
              refine ⟨enters_of Tryz.func40 (by kernel_rfl) rfl vs.toArray w, ?_⟩
              simp only [VRels, VRel] at hvs
              obtain ⟨_, _, rfl, ⟨_, _, rfl, rfl, _, _, rfl, ⟨hbN, a, rfl, ha⟩, rfl⟩, rfl⟩ := hvs
              obtain ⟨c, n, hc, cl, e, fr, ho, hcn, hfull, _, c1, c2, hcl, hcv⟩ := hw.obj b _ hb
              rw [ha c n hc]
              simp only [VRels, VRel] at hcv
              obtain ⟨_, _, rfl, ⟨hmN, r, rfl, hr⟩, rfl⟩ := hcv
              obtain ⟨cm, nm, hcm, es', ho', hes'⟩ := hw.obj m _ hm
              rw [hr cm nm hcm] at hcl
              have hclt := hw.bnd _ _ _ hc
              obtain ⟨g1, g2⟩ := ERels_ints hes' hks
              have hborn := ERels_born hes'
              have hlen : es'.length = es.length := by have := congrArg List.length hborn; simpa using this
              have hkn : ks.length = es'.length := by have := congrArg List.length g1; simpa using this.symm
              obtain ⟨D0, hown, hperm, hsz⟩ := own_ints (P := Tryz.prog) (k := 3) (ks := ks) (w := w) (m := cm) (by kernel_rfl) ho' (by
                refine ⟨fun x hx => ?_, by simpa [hborn] using s2, ?_⟩
                · have : x.born ∈ es'.map (·.born) := List.mem_map_of_mem (by simpa using hx)
                  rw [hborn] at this
                  obtain ⟨y, hy, he⟩ := List.mem_map.1 this
                  rw [← he]; exact s1 y hy
                · simp only [g1]
                  exact List.pairwise_map.2 (hnd.imp fun hne e => hne (by simpa [encZ] using e))) (by rw [hlen]; unfold maxLen; omega) g1 (fun x hx => wf_wrap (g2 x hx))
              refine (Tryz.callI c cm es'.length D0 plainR w hclt (by simp [World.cell?, ho, hcl]) hown (by rw [hsz, hlen]; unfold maxLen; omega) (by rw [hsz, hlen]; omega)).mono ?_
              rintro e w' ⟨v', ss, rfl, hss, hrow, hnil, hbl⟩
              rw [isortI_eq ks ss (hss.trans hperm)] at hrow
              have hsl : ss.length = ((isort leqI ks).map encZ).length := by
                rw [List.length_map]; exact (hss.trans (hperm.trans (isort_perm leqI ks).symm)).length_eq
              rw [hsl] at hrow
              obtain ⟨M', q1, q2, q3⟩ := put_sorted (σ := σ) (r := (isort leqI ks).map (PV.int .i64)) hw hbl hrow (by
                rw [hnil]
                constructor
                · rintro rfl; exact List.eq_nil_of_length_eq_zero (by rw [← hsl]; rfl)
                · intro h0; exact List.eq_nil_of_length_eq_zero (by rw [hsl, h0]; rfl)) (fun M => by
                  generalize isort leqI ks = l
                  induction l with
                  | nil => simp [VRels]
                  | cons x l ih => exact VRels.cons_iff.2 ⟨by simp [VRel, encZ], ih⟩)
              have hv1 : v = (putSorted σ ((isort leqI ks).map (PV.int .i64))).1 := by rw [h]
              have hv2 : σ' = (putSorted σ ((isort leqI ks).map (PV.int .i64))).2 := by rw [h]
              rw [hv1, hv2]
              exact ⟨M', q1, q2, q3⟩
            · simp at h
          · simp at h
        · simp at h
      · simp at h
    · simp at h
  · simp at h
end Am
namespace Am
open Go Go.Proofs AmIr
variable {H : Hc} {σ σ' : St}
/-! ### The calls that are known from outside -/
theorem startsB_eq : ∀ p s : List UInt8, startsB p s = p.isPrefixOf s
  | [], _ => by simp [startsB]
  | _ :: _, [] => by simp [startsB]
  | a :: p, b :: s => by
    have e2 : Nat.beq a.toNat b.toNat = true ↔ a = b := by rw [Nat.beq_eq]; exact ⟨UInt8.toNat_inj.1, fun h => by rw [h]⟩
    simp only [startsB, List.isPrefixOf]
    split
    · rename_i h; rw [e2] at h; simp [h, startsB_eq p s]
    · rename_i h
      have : ¬ a = b := fun h' => by rw [e2.2 h'] at h; simp at h
      simp [this]
theorem containsB_eq (p : List UInt8) : ∀ s, containsB p s = Lib.contains s p
  | [] => by cases p <;> simp [containsB, Lib.contains, Lib.index]
  | b :: s => by
    have ih := containsB_eq p s
    have hge := Lib.index_ge s p
    simp only [containsB, startsB_eq, Lib.contains, Lib.index] at ih ⊢
    split
    · rename_i h; simp [h]
    · rename_i h
      simp only [h, Bool.false_eq_true, if_false]
      rw [ih]
      by_cases h1 : Lib.index s p = -1
      · simp [h1]
      · simp [h1]; constructor <;> intro _ <;> omega
theorem containsH_ok (hH : ∃ m, H 1 0 = some (.int .i64 m)) {args : List PV} {v : PV} (h : containsH args σ = some (v, σ')) : CallOk Tryz.prog H 147 args σ v σ' := by
  unfold containsH at h
  split at h
  · rename_i s p
    split at h
    · rename_i hs
      simp only [Option.some.injEq, Prod.mk.injEq] at h; obtain ⟨rfl, rfl⟩ := h
      intro M w vs hvs hw
      refine ⟨enters_of Tryz.func147 (by kernel_rfl) rfl vs.toArray w, ?_⟩
      simp only [VRels, VRel] at hvs
      obtain ⟨_, _, rfl, rfl, _, _, rfl, rfl, rfl⟩ := hvs
      obtain ⟨m, hm⟩ := hH
      refine (Any.strings_Contains Tryz.laysContains s p m w (by simpa using hs) (hw.imm 1 0 _ hm)).mono ?_
      rintro e w' ⟨rfl, rfl⟩
      exact ⟨M, hw, Keeps.refl M w', by simp only [VRel]; rw [containsB_eq]⟩
    · simp at h
  · simp at h
theorem lessQ_eq (a b c a' b' c' : Int) : lessQ a b c a' b' c' = lessB a b c a' b' c' := by
  unfold lessQ lessB
  rw [show eqI a a' = decide (a = a') from eqI_eq a a', show eqI b b' = decide (b = b') from eqI_eq b b']; simp only [ltI_eq]
  by_cases h1 : a = a' <;> by_cases h2 : b = b' <;> simp [h1, h2]
theorem mixedT : Tryz.prog.follows .mixedOrders = true := by kernel_rfl
theorem fn179 : fnOf Tryz.prog 179 = some af179 := by kernel_rfl
theorem fn249 : fnOf Tryz.prog 249 = some af249 := by kernel_rfl
set_option maxRecDepth 100000 in
theorem lessH_ok {args : List PV} {v : PV} (h : lessH args σ = some (v, σ')) : CallOk Tryz.prog H 179 args σ v σ' := by
  unfold lessH at h
  split at h
  · rename_i a b c d e a' b' c' d' e'
    simp only [Option.some.injEq, Prod.mk.injEq] at h; obtain ⟨rfl, rfl⟩ := h
    rw [lessQ_eq]
    have h1 := callOk_of mixedT (envOf_ok (H := H)) (less_ok (E := envOf Tryz.prog) rfl fn249 rfl fn179 σ a b c a' b' c' d e d' e')
    refine forget_call h1 (fun b o hlt hb => ?_) rfl
    exact get_new_old (get_new_old (get_new_old (get_new_old hb hlt) (by simp; omega)) (by simp; omega)) (by simp; omega)
  · simp at h
/-- All of them. -/
def hkBase (f : Nat) (args : List PV) (σ : St) : Option (PV × St) := match Nat.beq f 179 with
  | true => lessH args σ
  | false => match Nat.beq f 46 with
    | true => sortedS 82 args σ
    | false => match Nat.beq f 40 with
      | true => sortedI 79 args σ
      | false => match Nat.beq f 147 with
        | true => containsH args σ
        | false => none
noncomputable def envB : Env := { fn := fnOf Tryz.prog, hook := hkBase }
theorem envB_ok (hH : ∃ m, H 1 0 = some (.int .i64 m)) : EnvOk Tryz.prog H envB := by
  refine ⟨(envOf_ok (H := H)).fn, fun f args σ v σ' h => ?_⟩
  change hkBase f args σ = some (v, σ') at h
  unfold hkBase at h
  split at h
  · rename_i hf; rw [Nat.eq_of_beq_eq_true hf]; exact lessH_ok h
  · split at h
    · rename_i hf; rw [Nat.eq_of_beq_eq_true hf]; exact sortedS_ok h
    · split at h
      · rename_i hf; rw [Nat.eq_of_beq_eq_true hf]; exact sortedI_ok h
      · split at h
        · rename_i hf; rw [Nat.eq_of_beq_eq_true hf]; exact containsH_ok hH h
        · simp at h
end Am

/- Values that come in as arguments; slices of rows; slices that grow. -/
import Derived.ChangeAnyMap
import Derived.DataReads
import GoSem.ClaimJoined
import Derived.Test.YtiohgnhgbfodjaaGreatDoorAmC
set_option linter.unusedVariables false
set_option linter.unusedSimpArgs false
set_option linter.deprecated false
/- What is read as data is, to the abstract machine, values that nobody writes. -/
namespace Am
open Go
def hOf (W : World) : Hc := fun c off => W.cell? ⟨c, off, none⟩
theorem wrel_start (W : World) {CR : Code → ACode → Prop} : WRel CR (hOf W) ⟨fun _ => none, 0⟩ St.none_ W :=
  ⟨rfl, fun b o hb => by simp [St.none_, St.get] at hb, fun b x hx => by simp at hx, fun b c n hb => by simp at hb, fun b b' c n n' hb => by simp at hb, fun c off v hv => hv, fun b c n off hb => by simp at hb⟩
def contig (P : Program) (total : Nat) : Nat → List Field → Bool
  | off, [] => off == total
  | off, f :: fs => f.offset == off && contig P total (off + P.cellsOf f.type) fs
/-- Types that are taken. -/
def okTy (P : Program) : Nat → TypeId → Bool
  | 0, _ => false
  | k + 1, t => match P.underlying t with
    | some .bool | some (.int _) | some .string => P.cellsOf t == 1
    | some (.slice e) => P.cellsOf t == 1 && decide (0 < P.cellsOf e) && okTy P k e
    | some (.struct fs) => contig P (P.cellsOf t) 0 fs.toList && fs.toList.all fun f => okTy P k f.type
    | _ => false
/-- Cells of a type. -/
def TyA (P : Program) : Nat → TypeId → List PV → Prop
  | 0, _, _ => False
  | k + 1, t, pvs => match P.underlying t with
    | some .bool => ∃ b, pvs = [.bool b]
    | some (.int q) => ∃ n, pvs = [.int q n] ∧ (Lit.int q n).wf = true
    | some .string => ∃ s, pvs = [.str s] ∧ s.size ≤ reachBytes
    | some (.slice e) => pvs = [.nils] ∨ ∃ (cells : List (List PV)) (cap : Nat), pvs = [.islice cells.flatten cells.length (P.cellsOf e) (some cap)] ∧ cells.length ≤ cap ∧ cap * P.bytesOf e ≤ reachBytes ∧ ∀ c ∈ cells, c.length = P.cellsOf e ∧ TyA P k e c
    | some (.struct fs) => pvs.length = P.cellsOf t ∧ ∀ f ∈ fs.toList, TyA P k f.type ((pvs.drop f.offset).take (P.cellsOf f.type))
    | _ => False
section
variable {T : Type} {enc : TypeId × Value → T} {P : Program} {W : World} {M : Mu}
theorem cells_read {a : Addr} {n : Nat} {cs : List Value} (h : W.cells? 0 a n = some cs) : cs.length = n ∧ ∀ j x, cs[j]? = some x → W.cell? (a.add j) = some x := by
  unfold World.cells? at h
  rw [if_pos (Nat.zero_le _)] at h
  have hl := mapM_some_length h
  rw [List.length_range] at hl
  refine ⟨hl, fun j x hx => ?_⟩
  have hj : j < n := by have := (List.getElem?_eq_some_iff.1 hx).1; omega
  have := mapM_some_get h j j (by simp [hj])
  rw [this]; exact hx
theorem add_cell {a : Addr} {j : Nat} {x : Value} (h : W.cell? (a.add j) = some x) (h0 : j = 0 → a.spot = none) : W.cell? ⟨a.block, a.off + j, none⟩ = some x := by
  unfold Addr.add at h
  split at h
  · rename_i hj; subst hj
    have := h0 rfl
    cases a; simp only at this; subst this; simpa using h
  · exact h
theorem add_add (a : Addr) (m n : Nat) : (a.add m).add n = a.add (m + n) := by
  unfold Addr.add
  by_cases h1 : m = 0
  · subst h1; simp
  · by_cases h2 : n = 0
    · subst h2; simp [h1]
    · simp [h1, h2, Nat.add_assoc]
theorem spot_of {a : Addr} {x : Value} (h : W.cell? (a.add 0) = some x) : a.spot = none := by
  unfold Addr.add at h; simp only [if_true] at h
  unfold World.cell? at h
  split at h
  · split at h
    · simp at h
    · rename_i hs; cases hq : a.spot with
      | none => rfl
      | some _ => simp [hq] at hs
  · simp at h
theorem mem_weightsAll {e : TypeId} {x : Nat} : ∀ {l : List (DataW T)} {d : DataW T}, d ∈ l → x ∈ d.weights P e → x ∈ DataW.weightsAll P e l
  | d' :: l, d, hd, hx => by
    simp only [DataW.weightsAll, List.mem_append]
    rcases List.mem_cons.1 hd with rfl | hd
    · exact .inl hx
    · exact .inr (mem_weightsAll hd hx)
theorem flat_get {α : Type} {n : Nat} : ∀ {l : List (List α)}, (∀ c ∈ l, c.length = n) → ∀ (i j : Nat) c, l[i]? = some c → j < n → l.flatten[i * n + j]? = c[j]?
  | [], _, i, j, c, h, _ => by simp at h
  | a :: l, hl, i, j, c, h, hj => by
    have ha := hl a (by simp)
    cases i with
    | zero => simp at h; subst h; rw [List.flatten_cons, List.getElem?_append_left (by omega)]; congr 1; omega
    | succ i =>
      simp at h
      rw [List.flatten_cons, List.getElem?_append_right (by rw [ha, Nat.succ_mul]; omega), ha]
      have := flat_get (fun c hc => hl c (by simp [hc])) i j c h hj
      rw [← this]; congr 1; rw [Nat.succ_mul]; omega
theorem flat_len {α : Type} {n : Nat} : ∀ {l : List (List α)}, (∀ c ∈ l, c.length = n) → l.flatten.length = l.length * n
  | [], _ => by simp
  | a :: l, h => by
    have := flat_len (l := l) fun c hc => h c (by simp [hc])
    have ha := h a (by simp)
    simp only [List.flatten_cons, List.length_append, List.length_cons, this, ha, Nat.succ_mul]; omega
theorem VRels_flat {H : Hc} : ∀ {ps : List (List PV)} {vs : List (List Value)}, ps.length = vs.length → (∀ (i : Nat) p v, ps[i]? = some p → vs[i]? = some v → VRels H M p v) → VRels H M ps.flatten vs.flatten
  | [], [], _, _ => by simp [VRels]
  | p :: ps, v :: vs, hl, h => by
    simp only [List.flatten_cons]
    exact (h 0 p v rfl rfl).append (VRels_flat (by simpa using hl) fun i p' v' hp hv => h (i + 1) p' v' (by simpa using hp) (by simpa using hv))
  | [], _ :: _, hl, _ => by simp at hl
  | _ :: _, [], hl, _ => by simp at hl
/-- For each place of a row something is found: then a row of it. -/
theorem choose_row {α β : Type} {R : α → β → Prop} : ∀ {l : List α}, (∀ x ∈ l, ∃ y, R x y) → ∃ r : List β, r.length = l.length ∧ ∀ (i : Nat) x y, l[i]? = some x → r[i]? = some y → R x y
  | [], _ => ⟨[], rfl, fun i x y h => by simp at h⟩
  | x :: l, h => by
    obtain ⟨y, hy⟩ := h x (by simp)
    obtain ⟨r, h1, h2⟩ := choose_row (l := l) fun z hz => h z (by simp [hz])
    refine ⟨y :: r, by simp [h1], fun i a b ha hb => ?_⟩
    cases i with
    | zero => simp at ha hb; subst ha hb; exact hy
    | succ i => exact h2 i a b (by simpa using ha) (by simpa using hb)
theorem contig_le {total : Nat} : ∀ {fs : List Field} {off : Nat}, contig P total off fs = true → off ≤ total
  | [], off, h => by simp [contig] at h; omega
  | f :: fs, off, h => by
    simp only [contig, Bool.and_eq_true] at h
    have := contig_le h.2; omega
theorem struct_aux {k fuel total : Nat} {cs : List Value} (hcs : cs.length = total)
    (ih : ∀ (t : TypeId) (cs : List Value) (d : DataW T) (pl : List MemPlace), okTy P k t = true → DataW.trod enc P W 0 (fun _ => true) true fuel t cs = some (d, pl) → (∀ x ∈ d.weights P t, x ≤ reachBytes) →
      cs.length = P.cellsOf t → ∃ pvs, VRels (hOf W) M pvs cs ∧ TyA P k t pvs ∧ pvs.length = P.cellsOf t) :
    ∀ (fs : List Field) (off : Nat) (xs : List (DataW T × List MemPlace)), contig P total off fs = true → (∀ f ∈ fs, okTy P k f.type = true) →
      fs.mapM (fun f => DataW.trod enc P W 0 (fun _ => true) true fuel f.type ((cs.drop f.offset).take (P.cellsOf f.type))) = some xs → (∀ x ∈ DataW.weightsEach P (fs.map (·.type)) (xs.map (·.1)), x ≤ reachBytes) →
      ∃ pvs, VRels (hOf W) M pvs (cs.drop off) ∧ pvs.length = total - off ∧ ∀ f ∈ fs, off ≤ f.offset ∧ TyA P k f.type ((pvs.drop (f.offset - off)).take (P.cellsOf f.type))
  | [], off, xs, hc, _, _, _ => by
    simp [contig] at hc; subst hc
    exact ⟨[], by rw [List.drop_eq_nil_of_le (by omega)]; simp [VRels], by simp, by simp⟩
  | f :: fs, off, xs, hc, hok, hm, hw => by
    simp only [contig, Bool.and_eq_true, beq_iff_eq] at hc
    obtain ⟨ho, hc⟩ := hc
    have hle := contig_le hc
    simp only [List.mapM_cons, Option.pure_def, Option.bind_eq_bind, Option.bind_eq_some_iff, Option.some.injEq] at hm
    obtain ⟨x, hx, xs', hxs, rfl⟩ := hm
    rw [ho] at hx
    simp only [List.map_cons, DataW.weightsEach, List.mem_append] at hw
    have hlen : ((cs.drop off).take (P.cellsOf f.type)).length = P.cellsOf f.type := by simp; omega
    obtain ⟨p1, q1, q2, q3⟩ := ih f.type _ x.1 x.2 (hok f (by simp)) hx (fun y hy => hw y (.inl hy)) hlen
    obtain ⟨p2, r1, r2, r3⟩ := struct_aux hcs ih fs (off + P.cellsOf f.type) xs' hc (fun g hg => hok g (by simp [hg])) hxs (fun y hy => hw y (.inr hy))
    refine ⟨p1 ++ p2, ?_, by simp [q3, r2]; omega, fun g hg => ?_⟩
    · have : cs.drop off = (cs.drop off).take (P.cellsOf f.type) ++ cs.drop (off + P.cellsOf f.type) := by
        rw [← List.drop_drop]; exact (List.take_append_drop _ _).symm
      rw [this]; exact q1.append r1
    · rcases List.mem_cons.1 hg with rfl | hg
      · refine ⟨by omega, ?_⟩
        rw [ho, Nat.sub_self, List.drop_zero, List.take_append_of_le_length (by omega), List.take_of_length_le (by omega)]
        exact q2
      · obtain ⟨s1, s2⟩ := r3 g hg
        refine ⟨by omega, ?_⟩
        rw [List.drop_append, List.drop_eq_nil_of_le (by omega), List.nil_append, q3, show g.offset - off - P.cellsOf f.type = g.offset - (off + P.cellsOf f.type) by omega]
        exact s2
theorem trod_ty : ∀ (k : Nat) (fuel : Nat) (t : TypeId) (cs : List Value) (d : DataW T) (pl : List MemPlace), okTy P k t = true → DataW.trod enc P W 0 (fun _ => true) true fuel t cs = some (d, pl) → (∀ x ∈ d.weights P t, x ≤ reachBytes) →
    cs.length = P.cellsOf t → ∃ pvs, VRels (hOf W) M pvs cs ∧ TyA P k t pvs ∧ pvs.length = P.cellsOf t := by
  intro k
  induction k with
  | zero => intro fuel t cs d pl hk; simp [okTy] at hk
  | succ k ih =>
    intro fuel t cs d pl hk h hwt hcl
    cases fuel with
    | zero => simp [DataW.trod] at h
    | succ fuel =>
      unfold okTy at hk
      unfold TyA
      unfold DataW.trod at h
      cases hu : P.underlying t with
      | none => rw [hu] at hk; simp at hk
      | some u =>
        rw [hu] at hk h
        cases u with
        | bool =>
          simp only [beq_iff_eq] at hk
          obtain ⟨v, rfl⟩ := List.length_eq_one_iff.1 (hcl.trans hk)
          cases v <;> simp only [reduceCtorEq] at h
          rename_i b
          exact ⟨[.bool b], by simp [VRels, VRel], ⟨b, rfl⟩, by simp [hk]⟩
        | int q =>
          simp only [beq_iff_eq] at hk
          obtain ⟨v, rfl⟩ := List.length_eq_one_iff.1 (hcl.trans hk)
          cases v <;> simp only [reduceCtorEq] at h
          rename_i q' n
          split at h
          · rename_i hq
            obtain ⟨rfl, hw⟩ := hq
            exact ⟨[.int _ n], by simp [VRels, VRel], ⟨n, rfl, hw⟩, by simp [hk]⟩
          · simp at h
        | string =>
          simp only [beq_iff_eq] at hk
          obtain ⟨v, rfl⟩ := List.length_eq_one_iff.1 (hcl.trans hk)
          cases v <;> simp only [reduceCtorEq] at h
          rename_i s
          split at h
          · simp only [Option.some.injEq, Prod.mk.injEq] at h; obtain ⟨rfl, rfl⟩ := h
            refine ⟨[.str s], by simp [VRels, VRel], ⟨s, rfl, ?_⟩, by simp [hk]⟩
            have := hwt s.data.toList.length (by simp [DataW.weights])
            simpa using this
          · simp at h
        | slice e =>
          simp only [Bool.and_eq_true, beq_iff_eq, decide_eq_true_eq] at hk
          obtain ⟨⟨hk1, hk2⟩, hk3⟩ := hk
          obtain ⟨v, rfl⟩ := List.length_eq_one_iff.1 (hcl.trans hk1)
          cases v <;> simp only [reduceCtorEq] at h
          rename_i a len cap
          cases a with
          | none =>
            refine ⟨[.nils], ?_, .inl rfl, by simp [hk1]⟩
            cases len <;> cases cap <;> simp at h
            simp [VRels, VRel]
          | some a =>
            simp only at h
            split at h
            · rename_i hc
              obtain ⟨_, hlc, hcm⟩ := hc
              simp only [Option.bind_eq_some_iff, Option.map_eq_some_iff, if_true] at h
              obtain ⟨elems, h1, rest, h2, h3⟩ := h
              simp only [Prod.mk.injEq] at h3
              obtain ⟨rfl, rfl⟩ := h3
              have l1 := mapM_some_length h1
              have l2 := mapM_some_length h2
              rw [List.length_range] at l1 l2
              -- each element's cells
              have each : ∀ i ∈ List.range len, ∃ y : List Value × List PV, W.cells? 0 (a.add (i * P.cellsOf e)) (P.cellsOf e) = some y.1 ∧ VRels (hOf W) M y.2 y.1 ∧ TyA P k e y.2 ∧ y.2.length = P.cellsOf e := by
                intro i hi
                have hi' : i < len := by simpa using hi
                have hx := mapM_some_get h1 i i (by simp [hi'])
                rw [List.getElem?_eq_getElem (by omega)] at hx
                simp only [Option.bind_eq_some_iff] at hx
                obtain ⟨cs, c1, c2⟩ := hx
                obtain ⟨pvs, p1, p2, p3⟩ := ih fuel e cs _ _ hk3 c2 (fun x hx => hwt x (by
                  simp only [DataW.weights, hu, List.mem_cons, List.mem_append]
                  exact .inr (.inl (mem_weightsAll (List.mem_map_of_mem (List.getElem_mem (by omega))) hx)))) (cells_read c1).1
                exact ⟨(cs, pvs), c1, p1, p2, p3⟩
              obtain ⟨ys, y1, y2⟩ := choose_row each
              rw [List.length_range] at y1
              have yg : ∀ (i : Nat) y, ys[i]? = some y → W.cells? 0 (a.add (i * P.cellsOf e)) (P.cellsOf e) = some y.1 ∧ VRels (hOf W) M y.2 y.1 ∧ TyA P k e y.2 ∧ y.2.length = P.cellsOf e := by
                intro i y hy
                have : i < len := by have := (List.getElem?_eq_some_iff.1 hy).1; omega
                exact y2 i i y (by simp [this]) hy
              have f1 : ∀ c ∈ ys.map (·.1), c.length = P.cellsOf e := by
                intro c hc
                obtain ⟨y, hy, rfl⟩ := List.mem_map.1 hc
                obtain ⟨i, hi⟩ := List.mem_iff_getElem?.1 hy
                exact (cells_read (yg i y hi).1).1
              have f2 : ∀ c ∈ ys.map (·.2), c.length = P.cellsOf e ∧ TyA P k e c := by
                intro c hc
                obtain ⟨y, hy, rfl⟩ := List.mem_map.1 hc
                obtain ⟨i, hi⟩ := List.mem_iff_getElem?.1 hy
                exact ⟨(yg i y hi).2.2.2, (yg i y hi).2.2.1⟩
              have hcap : cap * P.bytesOf e ≤ reachBytes := by
                have := hwt ((elems.length + rest.length) * P.bytesOf e) (by simp [DataW.weights, hu])
                rw [l1, l2] at this
                rwa [show len + (cap - len) = cap by omega] at this
              have hspot : 0 < cap → a.spot = none := by
                intro hc
                by_cases hl : len = 0
                · subst hl
                  have hx := mapM_some_get h2 0 0 (by rw [List.getElem?_range]; simpa using hc)
                  rw [List.getElem?_eq_getElem (by rw [l2]; simpa using hc)] at hx
                  simp only [Option.bind_eq_some_iff] at hx
                  obtain ⟨cs, c1, _⟩ := hx
                  have := (cells_read c1).2 0 (cs[0]'(by rw [(cells_read c1).1]; exact hk2)) (by simp)
                  simp only [Nat.zero_add, Nat.zero_mul] at this
                  have e0 : (a.add 0) = a := by simp [Addr.add]
                  rw [e0] at this
                  exact spot_of this
                · have : 0 < ys.length := by omega
                  have c1 := (yg 0 ys[0] (by simp)).1
                  have := (cells_read c1).2 0 (ys[0].1[0]'(by rw [(cells_read c1).1]; exact hk2)) (by simp)
                  simp only [Nat.zero_mul] at this
                  have e0 : (a.add 0) = a := by simp [Addr.add]
                  rw [e0] at this
                  exact spot_of this
              refine ⟨[.islice (ys.map (·.2)).flatten len (P.cellsOf e) (some cap)], ?_, .inr ⟨ys.map (·.2), cap, by simp [y1], by simpa [y1] using hlc, hcap, f2⟩, by simp [hk1]⟩
              rw [VRels.cons_iff]
              refine ⟨?_, by simp [VRels]⟩
              simp only [VRel]
              refine ⟨a, cap, (ys.map (·.1)).flatten, rfl, hlc, hk2, by simp, by rw [flat_len fun c hc => (f2 c hc).1]; simp [y1], ?_, VRels_flat (by simp) fun i p v hp hv => ?_⟩
              · by_cases hc : cap = 0
                · exact .inl hc
                · refine .inr ⟨hspot (by omega), fun j x hx => ?_⟩
                  have hlt : j < ys.length * P.cellsOf e := by
                    have := (List.getElem?_eq_some_iff.1 hx).1
                    rw [flat_len f1] at this; simpa using this
                  have hq : j / P.cellsOf e < ys.length := Nat.div_lt_of_lt_mul (by rw [Nat.mul_comm]; exact hlt)
                  have hr : j % P.cellsOf e < P.cellsOf e := Nat.mod_lt _ hk2
                  have hj : j = j / P.cellsOf e * P.cellsOf e + j % P.cellsOf e := by rw [Nat.mul_comm]; exact (Nat.div_add_mod _ _).symm
                  have hc1 := (yg (j / P.cellsOf e) ys[j / P.cellsOf e] (by simp [hq])).1
                  have hg := flat_get f1 (j / P.cellsOf e) (j % P.cellsOf e) (ys[j / P.cellsOf e]).1 (by simp [hq]) hr
                  rw [← hj, hx] at hg
                  have hcell := (cells_read hc1).2 _ _ hg.symm
                  have e1 : (a.add (j / P.cellsOf e * P.cellsOf e)).add (j % P.cellsOf e) = a.add j := by
                    conv => rhs; rw [hj]
                    exact add_add a _ _
                  rw [e1] at hcell
                  exact add_cell hcell fun _ => hspot (by omega)
              · simp only [List.getElem?_map, Option.map_eq_some_iff] at hp hv
                obtain ⟨y, hy, rfl⟩ := hp
                obtain ⟨y', hy', rfl⟩ := hv
                rw [hy] at hy'; simp only [Option.some.injEq] at hy'; subst hy'
                exact (yg i y hy).2.1
            · simp at h
        | struct fs =>
          simp only [Bool.and_eq_true, List.all_eq_true] at hk
          simp only at h
          rw [if_pos hcl] at h
          simp only [Option.map_eq_some_iff, Prod.mk.injEq] at h
          obtain ⟨xs, hx, rfl, rfl⟩ := h
          obtain ⟨pvs, p1, p2, p3⟩ := struct_aux (M := M) hcl (fun t cs d pl => ih fuel t cs d pl) fs.toList 0 xs hk.1 hk.2 hx (by simpa [DataW.weights, hu] using hwt)
          exact ⟨pvs, by simpa using p1, ⟨by simpa using p2, fun f hf => by simpa using (p3 f hf).2⟩, by simpa using p2⟩
        | _ => simp at hk
end
end Am
/- Slices that came in, by their rows; numbers that are counts. -/
namespace Am
open Go
variable {E : Env} {ρ : Regs} {σ σ' σ1 σ2 : St}

/-- A slice that came in, nil or not: its rows. -/
def Sl (esz bytes : Nat) (rows : List (List PV)) (v : PV) : Prop :=
  (v = .nils ∧ rows = []) ∨ ∃ cap, v = .islice rows.flatten rows.length esz (some cap) ∧ rows.length ≤ cap ∧ cap * bytes ≤ reachBytes ∧ ∀ c ∈ rows, c.length = esz
theorem ev_len_sl {esz bytes : Nat} {rows : List (List PV)} {v : PV} {x : Src} (h : Sl esz bytes rows v) (hs : ρ.src x = some v) : opEval (.lenS false x) ρ σ = some (.v (.int .i64 (.ofNat rows.length)) σ) := by
  rcases h with ⟨rfl, rfl⟩ | ⟨cap, rfl, _⟩ <;> simp only [opEval, evLenS, hs] <;> rfl
theorem Sl.len {esz bytes : Nat} {rows : List (List PV)} {v : PV} (h : Sl esz bytes rows v) : rows.length * bytes ≤ reachBytes := by
  rcases h with ⟨_, rfl⟩ | ⟨cap, _, h1, h2, _⟩
  · simp
  · exact Nat.le_trans (Nat.mul_le_mul_right _ h1) h2
theorem Sl.each {esz bytes : Nat} {rows : List (List PV)} {v : PV} (h : Sl esz bytes rows v) : ∀ c ∈ rows, c.length = esz := by
  rcases h with ⟨_, rfl⟩ | ⟨cap, _, _, _, h⟩
  · simp
  · exact h
theorem ev_iaddr_sl {esz bytes : Nat} {rows : List (List PV)} {v : PV} {x i : Src} {k : IntKind} {j : Nat} (h : Sl esz bytes rows v) (hs : ρ.src x = some v) (hi : ρ.src i = some (.int k (.ofNat j))) (hj : j < rows.length) :
    opEval (.iaddr esz none x i) ρ σ = some (.v (.iptr rows.flatten (j * esz)) σ) := by
  rcases h with ⟨_, rfl⟩ | ⟨cap, rfl, _⟩
  · simp at hj
  · exact ev_iaddr_i hs hi hj
theorem cellsAt_app : ∀ {a r b : List PV} {o n : Nat}, a.length = o → r.length = n → cellsAt (a ++ r ++ b) o n = some r := by
  intro a r b o n h1 h2; subst h1 h2; exact cellsAt_of
theorem row_at {esz : Nat} : ∀ {rows : List (List PV)} {j : Nat} {c : List PV}, (∀ c ∈ rows, c.length = esz) → rows[j]? = some c → cellsAt rows.flatten (j * esz) esz = some c
  | [], j, c, _, h => by simp at h
  | r :: rows, j, c, hl, h => by
    cases j with
    | zero =>
      simp at h; subst h
      have := hl r (by simp)
      have := @cellsAt_app [] r rows.flatten 0 esz rfl this
      simpa using this
    | succ j =>
      simp at h
      have ih := row_at (fun c hc => hl c (by simp [hc])) h
      obtain ⟨a, b, e1, e2, e3⟩ := cellsAt_eq ih
      have hr := hl r (by simp)
      rw [List.flatten_cons, e1]
      have := @cellsAt_app (r ++ a) c b ((j + 1) * esz) esz (by simp [hr, e2, Nat.succ_mul]; omega) e3
      simpa using this
theorem cell_at {esz o : Nat} {rows : List (List PV)} {j : Nat} {c : List PV} {v : PV} (hl : ∀ c ∈ rows, c.length = esz) (h : rows[j]? = some c) (ho : c[o]? = some v) : cellsAt rows.flatten (j * esz + o) 1 = some [v] := by
  obtain ⟨a, b, e1, e2, e3⟩ := cellsAt_eq (row_at hl h)
  obtain ⟨c1, c2, rfl, hc⟩ : ∃ c1 c2, c = c1 ++ v :: c2 ∧ c1.length = o := by
    obtain ⟨hlt, hv⟩ := List.getElem?_eq_some_iff.1 ho
    exact ⟨c.take o, c.drop (o + 1), by rw [← hv]; simp, by simp; omega⟩
  rw [e1]
  have := @cellsAt_app (a ++ c1) [v] (c2 ++ b) (j * esz + o) 1 (by simp [e2, hc]) rfl
  simpa using this

/-! ### Numbers that are counts -/
section
variable {k : IntKind} {x y : Src} {a b : Nat} {r : Bool}
theorem ev_ltN (hx : ρ.src x = some (.int k (.ofNat a))) (hy : ρ.src y = some (.int k (.ofNat b))) (h : decide (a < b) = r) : opEval (.bin .lss x y) ρ σ = some (.v (.bool r) σ) := by
  subst h; rw [ev_ltI hx hy]; simp
theorem ev_gtN (hx : ρ.src x = some (.int k (.ofNat a))) (hy : ρ.src y = some (.int k (.ofNat b))) (h : decide (b < a) = r) : opEval (.bin .gtr x y) ρ σ = some (.v (.bool r) σ) := by
  subst h; rw [ev_gtI hx hy]; simp
theorem ev_geN (hx : ρ.src x = some (.int k (.ofNat a))) (hy : ρ.src y = some (.int k (.ofNat b))) (h : decide (b ≤ a) = r) : opEval (.bin .geq x y) ρ σ = some (.v (.bool r) σ) := by
  subst h; rw [ev_geI hx hy]; simp; by_cases h : b ≤ a <;> simp [h] <;> omega
theorem ev_leN (hx : ρ.src x = some (.int k (.ofNat a))) (hy : ρ.src y = some (.int k (.ofNat b))) (h : decide (a ≤ b) = r) : opEval (.bin .leq x y) ρ σ = some (.v (.bool r) σ) := by
  subst h; rw [ev_leI hx hy]; simp; by_cases h : a ≤ b <;> simp [h] <;> omega
theorem ev_eqN (hx : ρ.src x = some (.int k (.ofNat a))) (hy : ρ.src y = some (.int k (.ofNat b))) (h : decide (a = b) = r) : opEval (.bin .eql x y) ρ σ = some (.v (.bool r) σ) := by
  subst h; rw [ev_eqI hx hy]; congr 3; simp; exact Int.ofNat_inj
theorem ev_neN (hx : ρ.src x = some (.int k (.ofNat a))) (hy : ρ.src y = some (.int k (.ofNat b))) (h : (!decide (a = b)) = r) : opEval (.bin .neq x y) ρ σ = some (.v (.bool r) σ) := by
  subst h; rw [ev_neI hx hy]; congr 4; simp; exact Int.ofNat_inj
end
theorem ev_lenStr {x : Src} {s : ByteArray} (hs : ρ.src x = some (.str s)) : opEval (.lenS true x) ρ σ = some (.v (.int .i64 (.ofNat s.size)) σ) := by
  simp only [opEval, evLenS, hs]; rfl

theorem ev_min2N {k : IntKind} {x y : Src} {a b : Nat} (hx : ρ.src x = some (.int k (.ofNat a))) (hy : ρ.src y = some (.int k (.ofNat b))) : opEval (.mmin [x, y]) ρ σ = some (.v (.int k (.ofNat (min a b))) σ) := by
  have e1 : eqK k k = true := by simp [eqK]
  have e2 : ltI (.ofNat b) (.ofNat a) = Nat.blt b a := rfl
  cases h : Nat.blt b a with
  | true =>
    have hlt : b < a := by simpa using h
    simp only [opEval, evMmin, Regs.srcs, hx, hy, best, ltV, e1, e2, h, Nat.min_eq_right (Nat.le_of_lt hlt)]
  | false =>
    have hlt : a ≤ b := by rw [Bool.eq_false_iff] at h; simpa using h
    simp only [opEval, evMmin, Regs.srcs, hx, hy, best, ltV, e1, e2, h, Nat.min_eq_left hlt]
theorem reach_eq : reachBytes = 140737488351232 := rfl
/-- A meeting point: what is known behind a piece of code. -/
theorem we_cut {n : Nat} {vs : List Nat} {c : ACode} {e : Vars} {Q : AExit → Vars → St → Prop} (M : Vars → St → Prop) (h1 : WPE E n vs c e σ (ThenE M Q)) (h2 : ∀ e σ, M e σ → Q .normal e σ) : WPE E n vs c e σ Q :=
  h1.mono fun x e σ hx => by cases x <;> first | exact h2 _ _ hx | exact hx
/-! ### What a call leaves -/
structure Ext (σ σ' : St) : Prop where
  next : σ.next ≤ σ'.next
  old : ∀ b, b < σ.next → σ'.get b = σ.get b
theorem Ext.refl (σ : St) : Ext σ σ := ⟨Nat.le_refl _, fun _ _ => rfl⟩
theorem Ext.trans {a b c : St} (h : Ext a b) (k : Ext b c) : Ext a c := ⟨Nat.le_trans h.next k.next, fun i hi => (k.old i (Nat.lt_of_lt_of_le hi h.next)).trans (h.old i hi)⟩
theorem Ext.new (σ : St) (o : AObj) : Ext σ (σ.new o) := ⟨by simp, fun b hb => by simp; intro h; omega⟩
theorem Ext.get {o : AObj} {b : Nat} (h : Ext σ σ') (hb : b < σ.next) (hg : σ.get b = some o) : σ'.get b = some o := (h.old b hb).trans hg
/-- A call that gives a value that nobody else holds, and leaves what there was. -/
def CallX (E : Env) (f : Nat) (args : List PV) (σ : St) (R : PV → St → Prop) : Prop := ∃ v σ', CallA E f args σ v σ' ∧ Ext σ σ' ∧ R v σ'

/-! ### The data of this program -/
structure Vl where
  k : Int
  n : Int
  s : ByteArray
def Vl.row (v : Vl) : List PV := [.int .i64 v.k, .int .i64 v.n, .str v.s]
structure Ev where
  ts : Int
  dp : Int
  sq : Int
  name : ByteArray
  vals : PV
  vl : List Vl
def Ev.row (e : Ev) : List PV := [.int .i64 e.ts, .int .i64 e.dp, .int .i64 e.sq, .str e.name, e.vals]
structure Ev.Ok (e : Ev) : Prop where
  name : e.name.size ≤ reachBytes
  vals : Sl 3 32 (e.vl.map Vl.row) e.vals
  each : ∀ v ∈ e.vl, v.s.size ≤ reachBytes
structure Evs where
  v : PV
  l : List Ev
structure Evs.Ok (s : Evs) : Prop where
  sl : Sl 5 64 (s.l.map Ev.row) s.v
  each : ∀ e ∈ s.l, e.Ok
structure Mt where
  done : Int
  v : PV
  l : List Evs
def Mt.row (m : Mt) : List PV := [.int .i64 m.done, m.v]
structure Mt.Ok (m : Mt) : Prop where
  sl : Sl 1 24 (m.l.map fun s => [s.v]) m.v
  each : ∀ s ∈ m.l, s.Ok
structure Mts where
  v : PV
  l : List Mt
structure Mts.Ok (s : Mts) : Prop where
  sl : Sl 2 32 (s.l.map Mt.row) s.v
  each : ∀ m ∈ s.l, m.Ok
end Am
/- Slices of one's own: appended to, in place or anew. -/
namespace Am
open Go
variable {E : Env} {ρ : Regs} {σ σ' σ1 σ2 : St}
theorem writeAt_zero : ∀ {new m b : List PV}, m.length = new.length → writeAt (m ++ b) 0 new = some (new ++ b)
  | [], m, b, h => by
    have : m = [] := List.eq_nil_of_length_eq_zero h
    subst this; cases b <;> rfl
  | x :: new, [], b, h => by simp at h
  | x :: new, y :: m, b, h => by
    have := writeAt_zero (new := new) (m := m) (b := b) (by simpa using h)
    simp only [List.cons_append, writeAt, this]
theorem writeAt_app : ∀ {a m b new : List PV} {o : Nat}, a.length = o → m.length = new.length → writeAt (a ++ m ++ b) o new = some (a ++ new ++ b)
  | [], m, b, new, o, h1, h2 => by
    subst h1
    exact writeAt_zero h2
  | x :: a, m, b, new, o, h1, h2 => by
    subst h1
    have := writeAt_app (a := a) (b := b) rfl h2
    simp only [List.cons_append, List.length_cons, writeAt, this]
theorem writeAt_no : ∀ {a new : List PV} {o : Nat}, a.length = o → new ≠ [] → writeAt a o new = none
  | [], new, o, h1, h2 => by
    subst h1
    cases new with
    | nil => exact absurd rfl h2
    | cons x new => rfl
  | x :: a, new, o, h1, h2 => by
    subst h1
    have := writeAt_no (a := a) rfl h2
    simp only [List.length_cons, writeAt, this]
theorem allOne_app : ∀ {a b : List PV}, allOne (a ++ b) = (allOne a && allOne b)
  | [], b => by simp [allOne]
  | x :: a, b => by simp [allOne, allOne_app (a := a) (b := b), Bool.and_assoc]
theorem allOne_flat : ∀ {rows : List (List PV)}, (∀ c ∈ rows, allOne c = true) → allOne rows.flatten = true
  | [], _ => rfl
  | c :: rows, h => by rw [List.flatten_cons, allOne_app, h c (by simp), allOne_flat fun c hc => h c (by simp [hc])]; rfl
theorem roomy_of {n bytes : Nat} (h : n * bytes ≤ 70368744177664) (h' : n ≤ 70368744177664) : roomy n bytes = true := by
  unfold roomy; simp [h, h']
theorem ev_append {zero : List PV} {esz bytes n : Nat} {s x : Src} {sv xv r : PV} {new : List PV} (hs : ρ.src s = some sv) (hx : ρ.src x = some xv) (hl : lenOf xv = some n) (hz : Nat.beq zero.length esz = true)
    (hc : sliceCells σ n xv = some new) (ha : appendV σ esz bytes sv n new = some (r, σ')) : opEval (.append zero esz bytes s x) ρ σ = some (.v r σ') := by
  simp only [opEval, evAppend, hs, hx, hl, hz, hc, ha]
section
variable {esz bytes n len b : Nat} {new : List PV}
theorem app_head (h0 : 0 < esz) (hn : new.length = n * esz) (h1 : allOne new = true) : (Nat.blt 0 esz && Nat.beq new.length (n * esz) && allOne new) = true := by
  simp [h0, hn, h1]
/-- Nothing is appended to nil. -/
theorem app_nil0 (h0 : 0 < esz) : appendV σ esz bytes .nils 0 [] = some (.nils, σ) := by
  unfold appendV
  rw [app_head (n := 0) (new := []) h0 (by simp) rfl]
/-- To nil: a new block. -/
theorem app_nil (h0 : 0 < esz) (hn : new.length = n * esz) (h1 : allOne new = true) (hp : 0 < n) (hr : n * bytes ≤ 70368744177664) (hr' : n ≤ 70368744177664) :
    appendV σ esz bytes .nils n new = some (.slice σ.next 0 n esz none, σ.new (.cells new true)) := by
  unfold appendV
  rw [app_head h0 hn h1]
  cases n with
  | zero => omega
  | succ n => simp only [roomy_of hr hr']
/-- There is room. -/
theorem app_in {pre old post : List PV} {op : Bool} (h0 : 0 < esz) (hn : new.length = n * esz) (h1 : allOne new = true) (hr : (len + n) * bytes ≤ 70368744177664) (hr' : len + n ≤ 70368744177664)
    (hg : σ.get b = some (.cells (pre ++ old ++ post) op)) (hp : pre.length = len * esz) (ho : old.length = new.length) :
    appendV σ esz bytes (.slice b 0 len esz none) n new = some (.slice b 0 (len + n) esz none, σ.set b (.cells (pre ++ new ++ post) op)) := by
  unfold appendV
  rw [app_head h0 hn h1]
  have h2 : (Nat.beq esz esz && roomy (len + n) bytes) = true := by simp [roomy_of hr hr']
  simp only [h2, hg, Nat.zero_add]
  rw [writeAt_app hp ho]
/-- There is none: a new block, and the elder one is nobody's. -/
theorem app_out {old : List PV} {op : Bool} (h0 : 0 < esz) (hn : new.length = n * esz) (h1 : allOne new = true) (hp : 0 < n) (hr : (len + n) * bytes ≤ 70368744177664) (hr' : len + n ≤ 70368744177664)
    (hg : σ.get b = some (.cells old op)) (hl : old.length = len * esz) :
    appendV σ esz bytes (.slice b 0 len esz none) n new = some (.slice σ.next 0 (len + n) esz none, (σ.del b).new (.cells (old ++ new) true)) := by
  unfold appendV
  rw [app_head h0 hn h1]
  have h2 : (Nat.beq esz esz && roomy (len + n) bytes) = true := by simp [roomy_of hr hr']
  have hne : new ≠ [] := by
    rintro rfl
    have := Nat.mul_pos hp h0
    simp only [List.length_nil] at hn
    omega
  have h3 : cellsAt old 0 (len * esz) = some old := by
    have := @cellsAt_app [] old [] 0 (len * esz) rfl hl
    simpa using this
  simp only [h2, hg, Nat.zero_add, writeAt_no hl hne, h3]
end
theorem cells_sl {esz bytes : Nat} {rows : List (List PV)} {v : PV} (h : Sl esz bytes rows v) : lenOf v = some rows.length ∧ sliceCells σ rows.length v = some rows.flatten := by
  rcases h with ⟨rfl, rfl⟩ | ⟨cap, rfl, h1, h2, h3⟩
  · exact ⟨rfl, rfl⟩
  · refine ⟨rfl, ?_⟩
    simp only [sliceCells]
    have := @cellsAt_app [] rows.flatten [] 0 (rows.length * esz) rfl (flat_len h3)
    simpa using this
theorem cells_own {b len n esz : Nat} {cap : Option Nat} {cs post : List PV} {op : Bool} (hg : σ.get b = some (.cells (cs ++ post) op)) (hl : cs.length = n * esz) : sliceCells σ n (.slice b 0 len esz cap) = some cs := by
  simp only [sliceCells, hg]
  have := @cellsAt_app [] cs post 0 (n * esz) rfl hl
  simpa using this
theorem repl_len (z : List PV) : ∀ n, (repl z n).length = n * z.length
  | 0 => by simp [repl]
  | n + 1 => by simp [repl, repl_len z n, Nat.succ_mul]; omega
theorem repl_add (z : List PV) : ∀ m n, repl z (m + n) = repl z m ++ repl z n
  | 0, n => by simp [repl]
  | m + 1, n => by rw [show m + 1 + n = (m + n) + 1 by omega]; simp [repl, repl_add z m n]
theorem repl_one {z : List PV} (h : allOne z = true) : ∀ n, allOne (repl z n) = true
  | 0 => rfl
  | n + 1 => by simp [repl, allOne_app, h, repl_one h n]
theorem Ext.set {o : AObj} {b : Nat} (h : Ext σ σ') (hb : σ.next ≤ b) : Ext σ (σ'.set b o) := ⟨by simpa using h.next, fun i hi => by rw [St.get_set, if_neg (by omega)]; exact h.old i hi⟩
theorem Ext.del {b : Nat} (h : Ext σ σ') (hb : σ.next ≤ b) : Ext σ (σ'.del b) := ⟨by simpa using h.next, fun i hi => by rw [St.get_del, if_neg (by omega)]; exact h.old i hi⟩
theorem Ext.add {o : AObj} (h : Ext σ σ') : Ext σ (σ'.new o) := h.trans (Ext.new _ _)
end Am

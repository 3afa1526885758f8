/- What the abstract machine says of the model: operations and code, second part. -/
import Derived.Test.YtiohgnhgbfodjaaGreatDoorAmA
import Derived.Orders
import Derived.RangeFuncLeaves
import Derived.OrdersIn
set_option linter.unusedVariables false
set_option linter.unusedSimpArgs false
set_option linter.deprecated false
/- What an operation of the abstract machine says of the model's: equality. -/
namespace Am
open Go
variable {CR : Code → ACode → Prop} {H : Hc} {M M' : Mu} {σ σ' : St} {w : World} {P : Program} {ρ : Regs} {a : Act}

theorem bytes_beq (a b : ByteArray) : (a.data.toList == b.data.toList) = (a == b) := by
  rw [beq_toListBytes, ByteArray.toList_eq, ByteArray.toList_eq]
set_option maxHeartbeats 2000000 in
theorem scalarEq_sound {n k : Nat} {t : TypeId} {d : TypeDesc} {x y : PV} {X Y : Value} {b : Bool} (hd : P.underlying t = some d) (hk : eqk d = some k)
    (hx : VRel H M x X) (hy : VRel H M y Y) (h : scalarEq k x y = some b) : (Op.equalIn (n + 1) t X Y).run P w = .ok b w := by
  unfold scalarEq at h
  have kind : ∀ j, Nat.beq k j = true → eqk d = some j := fun j hj => by rw [hk, Nat.eq_of_beq_eq_true hj]
  have d0 : eqk d = some 0 → d = .bool := by intro h; cases d <;> simp [eqk] at h; rfl
  have d1 : eqk d = some 1 → ∃ e, d = .pointer e := by intro h; cases d <;> simp [eqk] at h; exact ⟨_, rfl⟩
  have d2 : eqk d = some 2 → ∃ e, d = .slice e := by intro h; cases d <;> simp [eqk] at h; exact ⟨_, rfl⟩
  have d3 : eqk d = some 3 → ∃ e f, d = .map e f := by intro h; cases d <;> simp [eqk] at h; exact ⟨_, _, rfl⟩
  have d4 : eqk d = some 4 → ∃ e f g, d = .func e f g := by intro h; cases d <;> simp [eqk] at h; exact ⟨_, _, _, rfl⟩
  have d5 : eqk d = some 5 → ∃ e, d = .interface e := by intro h; cases d <;> simp [eqk] at h; exact ⟨_, rfl⟩
  have d6 : eqk d = some 6 → ∃ e, d = .int e := by intro h; cases d <;> simp [eqk] at h; exact ⟨_, rfl⟩
  have d7 : eqk d = some 7 → d = .string := by intro h; cases d <;> simp [eqk] at h; rfl
  split at h
  -- bool
  · split at h <;> simp at h
    rename_i hq; subst h
    have := d0 (kind _ hq); subst this
    simp only [VRel] at hx hy; subst hx hy
    simp [Op.equalIn, runUnderlying hd]
  -- int
  · split at h <;> simp at h
    rename_i hq; subst h
    rw [Bool.and_eq_true] at hq
    obtain ⟨e, rfl⟩ := d6 (kind _ hq.1)
    simp only [VRel] at hx hy; subst hx hy
    have := hq.2
    rw [eqK_eq] at this
    simp at this; subst this
    simp [Op.equalIn, runUnderlying hd, eqI_eq]
  -- string
  · split at h <;> simp at h
    rename_i hq; subst h
    have := d7 (kind _ hq); subst this
    simp only [VRel] at hx hy; subst hx hy
    simp only [Op.equalIn, Sem.run_bind, runUnderlying hd, Result.andThen_ok, Sem.run_pure, eqBytes_eq, bytes_beq]
  -- pointers
  · split at h <;> simp at h
    rename_i hq; subst h
    obtain ⟨e, rfl⟩ := d1 (kind _ hq)
    simp only [VRel] at hx hy; subst hx hy
    simp only [Op.equalIn, Sem.run_bind, runUnderlying hd, Result.andThen_ok, Sem.run_pure]; try rfl
  · split at h <;> simp at h
    rename_i hq; subst h
    obtain ⟨e, rfl⟩ := d1 (kind _ hq)
    simp only [VRel] at hx hy
    obtain ⟨_, ad, rfl, _⟩ := hy
    subst hx
    simp only [Op.equalIn, Sem.run_bind, runUnderlying hd, Result.andThen_ok, Sem.run_pure]; try rfl
  · split at h <;> simp at h
    rename_i hq; subst h
    obtain ⟨e, rfl⟩ := d1 (kind _ hq)
    simp only [VRel] at hx hy
    obtain ⟨_, ad, rfl, _⟩ := hx
    subst hy
    simp only [Op.equalIn, Sem.run_bind, runUnderlying hd, Result.andThen_ok, Sem.run_pure]; try rfl
  · split at h <;> simp at h
    rename_i hq; subst h
    obtain ⟨e, rfl⟩ := d1 (kind _ hq)
    simp only [VRel] at hx hy
    obtain ⟨_, _, _, rfl, _⟩ := hy
    subst hx
    simp only [Op.equalIn, Sem.run_bind, runUnderlying hd, Result.andThen_ok, Sem.run_pure]; try rfl
  · split at h <;> simp at h
    rename_i hq; subst h
    obtain ⟨e, rfl⟩ := d1 (kind _ hq)
    simp only [VRel] at hx hy
    obtain ⟨_, _, _, rfl, _⟩ := hx
    subst hy
    simp only [Op.equalIn, Sem.run_bind, runUnderlying hd, Result.andThen_ok, Sem.run_pure]; try rfl
  -- slices
  · split at h <;> simp at h
    rename_i hq; subst h
    obtain ⟨e, rfl⟩ := d2 (kind _ hq)
    simp only [VRel] at hx hy; subst hx hy
    simp only [Op.equalIn, Sem.run_bind, runUnderlying hd, Result.andThen_ok, Sem.run_pure]; try rfl
  · split at h <;> simp at h
    rename_i hq; subst h
    obtain ⟨e, rfl⟩ := d2 (kind _ hq)
    simp only [VRel] at hx hy
    obtain ⟨_, _, _, rfl, _⟩ := hy
    subst hx
    simp only [Op.equalIn, Sem.run_bind, runUnderlying hd, Result.andThen_ok, Sem.run_pure]; try rfl
  · split at h <;> simp at h
    rename_i hq; subst h
    obtain ⟨e, rfl⟩ := d2 (kind _ hq)
    simp only [VRel] at hx hy
    obtain ⟨_, _, _, rfl, _⟩ := hx
    subst hy
    simp only [Op.equalIn, Sem.run_bind, runUnderlying hd, Result.andThen_ok, Sem.run_pure]; try rfl
  · split at h <;> simp at h
    rename_i hq; subst h
    obtain ⟨e, rfl⟩ := d2 (kind _ hq)
    simp only [VRel] at hx hy
    obtain ⟨_, _, _, rfl, _⟩ := hy
    subst hx
    simp only [Op.equalIn, Sem.run_bind, runUnderlying hd, Result.andThen_ok, Sem.run_pure]; try rfl
  · split at h <;> simp at h
    rename_i hq; subst h
    obtain ⟨e, rfl⟩ := d2 (kind _ hq)
    simp only [VRel] at hx hy
    obtain ⟨_, _, _, rfl, _⟩ := hx
    subst hy
    simp only [Op.equalIn, Sem.run_bind, runUnderlying hd, Result.andThen_ok, Sem.run_pure]; try rfl
  -- maps
  · split at h <;> simp at h
    rename_i hq; subst h
    obtain ⟨e, f, rfl⟩ := d3 (kind _ hq)
    simp only [VRel] at hx hy; subst hx hy
    simp only [Op.equalIn, Sem.run_bind, runUnderlying hd, Result.andThen_ok, Sem.run_pure]; try rfl
  · split at h <;> simp at h
    rename_i hq; subst h
    obtain ⟨e, f, rfl⟩ := d3 (kind _ hq)
    simp only [VRel] at hx hy
    obtain ⟨_, _, rfl, _⟩ := hy
    subst hx
    simp only [Op.equalIn, Sem.run_bind, runUnderlying hd, Result.andThen_ok, Sem.run_pure]; try rfl
  · split at h <;> simp at h
    rename_i hq; subst h
    obtain ⟨e, f, rfl⟩ := d3 (kind _ hq)
    simp only [VRel] at hx hy
    obtain ⟨_, _, rfl, _⟩ := hx
    subst hy
    simp only [Op.equalIn, Sem.run_bind, runUnderlying hd, Result.andThen_ok, Sem.run_pure]; try rfl
  -- functions
  · split at h <;> simp at h
    rename_i hq; subst h
    obtain ⟨e, f, g, rfl⟩ := d4 (kind _ hq)
    simp only [VRel] at hx hy; subst hx hy
    simp only [Op.equalIn, Sem.run_bind, runUnderlying hd, Result.andThen_ok, Sem.run_pure]; try rfl
  · split at h <;> simp at h
    rename_i hq; subst h
    obtain ⟨e, f, g, rfl⟩ := d4 (kind _ hq)
    simp only [VRel] at hx hy
    obtain ⟨_, _, rfl, _⟩ := hy
    subst hx
    simp only [Op.equalIn, Sem.run_bind, runUnderlying hd, Result.andThen_ok, Sem.run_pure]; try rfl
  · split at h <;> simp at h
    rename_i hq; subst h
    obtain ⟨e, f, g, rfl⟩ := d4 (kind _ hq)
    simp only [VRel] at hx hy
    obtain ⟨_, _, rfl, _⟩ := hx
    subst hy
    simp only [Op.equalIn, Sem.run_bind, runUnderlying hd, Result.andThen_ok, Sem.run_pure]; try rfl
  · split at h <;> simp at h
    rename_i hq; subst h
    obtain ⟨e, f, g, rfl⟩ := d4 (kind _ hq)
    simp only [VRel] at hx hy
    obtain ⟨_, _, rfl, _⟩ := hy
    subst hx
    simp only [Op.equalIn, Sem.run_bind, runUnderlying hd, Result.andThen_ok, Sem.run_pure]; try rfl
  · split at h <;> simp at h
    rename_i hq; subst h
    obtain ⟨e, f, g, rfl⟩ := d4 (kind _ hq)
    simp only [VRel] at hx hy
    obtain ⟨_, _, rfl, _⟩ := hx
    subst hy
    simp [Op.equalIn, runUnderlying hd]
  -- interfaces
  · split at h <;> simp at h
    rename_i hq; subst h
    obtain ⟨e, rfl⟩ := d5 (kind _ hq)
    simp only [VRel] at hx hy
    obtain ⟨_, rfl, _⟩ := hy
    subst hx
    simp only [Op.equalIn, Sem.run_bind, runUnderlying hd, Result.andThen_ok, Sem.run_pure]; try rfl
  · split at h <;> simp at h
    rename_i hq; subst h
    obtain ⟨e, rfl⟩ := d5 (kind _ hq)
    simp only [VRel] at hx hy
    obtain ⟨_, rfl, _⟩ := hx
    subst hy
    simp only [Op.equalIn, Sem.run_bind, runUnderlying hd, Result.andThen_ok, Sem.run_pure]; try rfl
  · simp at h
theorem eqField_inv {f : Field} {p : Nat × Nat} (h : eqField P f = some p) : f.name ≠ "_" ∧ agg? P f.type = some false ∧ ∃ d, P.underlying f.type = some d ∧ eqk d = some p.2 ∧ p.1 = f.offset := by
  unfold eqField at h
  split at h
  · simp at h
  · rename_i hn
    split at h
    · rename_i ha
      split at h
      · rename_i d hd
        simp only [Option.map_eq_some_iff] at h
        obtain ⟨k, hk, rfl⟩ := h
        exact ⟨hn, ha, d, hd, hk, rfl⟩
      · simp at h
    · simp at h
theorem part_one {t : TypeId} {cs : List PV} {vs : List Value} {off : Nat} {x : PV} (hc : VRels H M cs vs) (ht : agg? P t = some false) (h : cellsAt cs off 1 = some [x]) :
    ∃ v, (part t vs.toArray off).run P w = .ok v w ∧ VRel H M x v :=
  part_sound (n := none) hc (by unfold many?; rw [ht]) (by simp only [partV, h])
theorem cellsEq_sound {n : Nat} {xs ys : List PV} {us vs : List Value} (hx : VRels H M xs us) (hy : VRels H M ys vs) : ∀ (fs : List Field) (offs : List (Nat × Nat)) (b : Bool),
    mapO (eqField P) fs = some offs → cellsEq offs xs ys = some b → (Op.eqFields (n + 1) us.toArray vs.toArray fs).run P w = .ok b w
  | [], offs, b, h, h2 => by
    simp [mapO] at h; subst h
    simp [cellsEq] at h2; subst h2
    simp [Op.eqFields]
  | f :: fs, offs, b, h, h2 => by
    obtain ⟨p, ps, h3, h4, rfl⟩ := mapO_cons h
    obtain ⟨o, k⟩ := p
    obtain ⟨hn, ha, d, hd, hk, ho⟩ := eqField_inv h3
    simp only at hk ho
    subst ho
    unfold cellsEq at h2
    split at h2
    · rename_i x y h5 h6
      obtain ⟨u, r1, r2⟩ := part_one (P := P) (w := w) hx ha h5
      obtain ⟨v, s1, s2⟩ := part_one (P := P) (w := w) hy ha h6
      split at h2
      · rename_i h7
        have := scalarEq_sound (P := P) (w := w) (n := n) hd hk r2 s2 h7
        have ih := cellsEq_sound (n := n) hx hy fs ps b h4 h2
        simp only [Op.eqFields, hn, ne_eq, not_false_eq_true, if_true, Sem.run_bind, r1, s1, Result.andThen_ok, this, Bool.not_true, Bool.false_eq_true, if_false, ih]
      · rename_i h7
        simp only [Option.some.injEq] at h2; subst h2
        have := scalarEq_sound (P := P) (w := w) (n := n) hd hk r2 s2 h7
        simp only [Op.eqFields, hn, ne_eq, not_false_eq_true, if_true, Sem.run_bind, r1, s1, Result.andThen_ok, this, Bool.not_false, Sem.run_pure]
      · simp at h2
    · simp at h2
theorem isNilConst_sound {X : Operand} {x : Src} (h : trS X = some x) (hn : isNilConst x = true) : ∃ v, X = .const v := by
  cases X with
  | const v => exact ⟨v, rfl⟩
  | tmp t => simp [trS] at h; subst h; simp [isNilConst] at hn
  | global g => simp [trS] at h
  | func f => simp [trS] at h; subst h; simp [isNilConst] at hn
theorem binOp_eq (op : BinOp) (neg : Bool) (t : TypeId) (X Y : Value) (hop : op = if neg then .neq else .eql)
    (hX : (∃ b, X = .bool b) ∨ (∃ a, X = .pointer a) ∨ (∃ a l c, X = .slice a l c) ∨ (∃ m, X = .map m) ∨ (∃ f g h, X = .func f g h) ∨ X = .nilFunc ∨ (∃ i v, X = .iface i v) ∨ X = .nilIface ∨ ∃ cs, X = .agg cs)
    (hY : (∃ b, Y = .bool b) ∨ (∃ a, Y = .pointer a) ∨ (∃ a l c, Y = .slice a l c) ∨ (∃ m, Y = .map m) ∨ (∃ f g h, Y = .func f g h) ∨ Y = .nilFunc ∨ (∃ i v, Y = .iface i v) ∨ Y = .nilIface ∨ ∃ cs, Y = .agg cs)
    (b : Bool) (h : (Op.equal t X Y).run P w = .ok b w) : (binOp op t X Y).run P w = .ok (.bool (xor neg b)) w := by
  subst hop
  rcases hX with ⟨x, rfl⟩ | ⟨x, rfl⟩ | ⟨x, x1, x2, rfl⟩ | ⟨x, rfl⟩ | ⟨x, x1, x2, rfl⟩ | rfl | ⟨x, x1, rfl⟩ | rfl | ⟨x, rfl⟩ <;>
  rcases hY with ⟨y, rfl⟩ | ⟨y, rfl⟩ | ⟨y, y1, y2, rfl⟩ | ⟨y, rfl⟩ | ⟨y, y1, y2, rfl⟩ | rfl | ⟨y, y1, rfl⟩ | rfl | ⟨y, rfl⟩ <;>
  cases neg <;> simp [binOp, h]
end Am
/- What an operation of the abstract machine says of the model's: '==' and maps. -/
namespace Am
open Go
variable {CR : Code → ACode → Prop} {H : Hc} {M M' : Mu} {σ σ' : St} {w : World} {P : Program} {ρ : Regs} {a : Act}

theorem equal_struct {n : Nat} {t : TypeId} {fs : Array Field} {offs : List (Nat × Nat)} {xs ys : List PV} {us vs : List Value} {b : Bool} (hd : P.underlying t = some (.struct fs)) (hst : P.stoodInHeld t = false)
    (hf : mapO (eqField P) fs.toList = some offs) (hx : VRels H M xs us) (hy : VRels H M ys vs) (h : cellsEq offs xs ys = some b) :
    (Op.equalIn (n + 2) t (.agg us.toArray) (.agg vs.toArray)).run P w = .ok b w := by
  have hfo : P.fieldsOf t = fs := by simp [Program.fieldsOf, hd]
  rw [run_equalIn_struct w (n + 1) t _ _ (by rw [hfo]; exact hd) hst, hfo]
  exact cellsEq_sound hx hy fs.toList offs b hf h
theorem eqVal_forms {x : PV} {X : Value} (h : VRel H M x X) (hx : ∀ vs, x ≠ .tup vs) (hi : ∀ k n, x ≠ .int k n) (hs : ∀ s, x ≠ .str s) (hraw : ∀ v, x ≠ .raw v) :
    (∃ b, X = .bool b) ∨ (∃ a, X = .pointer a) ∨ (∃ a l c, X = .slice a l c) ∨ (∃ m, X = .map m) ∨ (∃ f g h, X = .func f g h) ∨ X = .nilFunc ∨ (∃ i v, X = .iface i v) ∨ X = .nilIface ∨ ∃ cs, X = .agg cs := by
  cases x <;> simp only [VRel] at h
  · exact .inl ⟨_, h⟩
  · exact absurd rfl (hi _ _)
  · exact absurd rfl (hs _)
  · exact .inr (.inl ⟨_, h⟩)
  · obtain ⟨_, _, h, _⟩ := h; exact .inr (.inl ⟨_, h⟩)
  · obtain ⟨_, _, _, h, _⟩ := h; exact .inr (.inl ⟨_, h⟩)
  · exact .inr (.inr (.inl ⟨_, _, _, h⟩))
  · obtain ⟨_, _, _, h, _⟩ := h; exact .inr (.inr (.inl ⟨_, _, _, h⟩))
  · obtain ⟨_, _, _, h, _⟩ := h; exact .inr (.inr (.inl ⟨_, _, _, h⟩))
  · exact .inr (.inr (.inr (.inl ⟨_, h⟩)))
  · obtain ⟨_, _, h, _⟩ := h; exact .inr (.inr (.inr (.inl ⟨_, h⟩)))
  · obtain ⟨_, _, h, _⟩ := h; exact .inr (.inr (.inr (.inr (.inl ⟨_, _, _, h⟩))))
  · obtain ⟨_, _, h, _⟩ := h; exact .inr (.inr (.inr (.inr (.inl ⟨_, _, _, h⟩))))
  · exact .inr (.inr (.inr (.inr (.inr (.inl h)))))
  · obtain ⟨_, h, _⟩ := h; exact .inr (.inr (.inr (.inr (.inr (.inr (.inl ⟨_, _, h⟩))))))
  · exact .inr (.inr (.inr (.inr (.inr (.inr (.inr (.inl h)))))))
  · obtain ⟨_, h, _⟩ := h; exact .inr (.inr (.inr (.inr (.inr (.inr (.inr (.inr ⟨_, h⟩)))))))
  · exact absurd rfl (hx _)
  · exact absurd rfl (hraw _)
theorem scalarEq_forms {k : Nat} {x y : PV} {b : Bool} (h : scalarEq k x y = some b) (hk : k ≠ 6) (hk7 : k ≠ 7) :
    (∀ vs, x ≠ .tup vs) ∧ (∀ k n, x ≠ .int k n) ∧ (∀ s, x ≠ .str s) ∧ (∀ vs, y ≠ .tup vs) ∧ (∀ k n, y ≠ .int k n) ∧ (∀ s, y ≠ .str s) ∧ (∀ v, x ≠ .raw v) ∧ (∀ v, y ≠ .raw v) := by
  have n6 : Nat.beq k 6 = false := by cases h : Nat.beq k 6 with | false => rfl | true => exact absurd (Nat.eq_of_beq_eq_true h) hk
  have n7 : Nat.beq k 7 = false := by cases h : Nat.beq k 7 with | false => rfl | true => exact absurd (Nat.eq_of_beq_eq_true h) hk7
  unfold scalarEq at h
  split at h <;> first
    | (simp [n6] at h; done)
    | (simp [n7] at h; done)
    | exact ⟨by simp, by simp, by simp, by simp, by simp, by simp, by simp, by simp⟩
theorem nili_eq (n : Nat) {t : TypeId} {ms : Array (String × TypeId)} (hd : P.underlying t = some (.interface ms)) : (Op.equalIn (n + 1) t .nilIface .nilIface).run P w = .ok true w := by
  simp only [Op.equalIn, Sem.run_bind, runUnderlying hd, Result.andThen_ok, Sem.run_pure]
set_option maxHeartbeats 1000000 in
theorem eqlS {neg : Bool} {e : EqT} {x y : Src} {r : ORes} {X Y : Operand} {t : TypeId} {d : TypeDesc} (hd : P.underlying t = some d) (hni : ∀ k, d ≠ .int k) (hns : d ≠ .string) (he : trEq P t = some e)
    (hx : trS X = some x) (hy : trS Y = some y) (hr : RRel H M ρ a.tmps) (hw : WRel CR H M σ w) (h : evEql neg e x y ρ σ = some r) :
    Sound P CR H M w (do pure (.value (← do eqGuard (if neg then .neq else .eql) t X Y (a.eval X) (a.eval Y); binOp (if neg then .neq else .eql) t (a.eval X) (a.eval Y)))) r := by
  unfold evEql at h
  cases h1 : ρ.src x with
  | none => simp [h1] at h
  | some p =>
    cases h2 : ρ.src y with
    | none => simp [h1, h2] at h
    | some q =>
      cases h3 : eqlV e x y p q with
      | none => simp [h1, h2, h3] at h
      | some b =>
        simp only [h1, h2, h3, Option.some.injEq] at h; subst h
        have hp := trS_sound hx hr h1
        have hq := trS_sound hy hr h2
        refine Sound.pure (cv := .bool (xor neg b)) hw ?_ (by simp only [VRel])
        have fin : (eqGuard (if neg then .neq else .eql) t X Y (a.eval X) (a.eval Y)).run P w = .ok () w → (binOp (if neg then .neq else .eql) t (a.eval X) (a.eval Y)).run P w = .ok (.bool (xor neg b)) w →
            (do pure (Next.value (← do eqGuard (if neg then .neq else .eql) t X Y (a.eval X) (a.eval Y); binOp (if neg then .neq else .eql) t (a.eval X) (a.eval Y))) : Sem Next).run P w = .ok (.value (.bool (xor neg b))) w := by
          intro g1 g2; simp only [Sem.run_bind, g1, g2, Result.andThen_ok, Sem.run_pure]
        unfold eqlV at h3
        split at h3
        · -- structs
          rename_i offs xs ys
          simp only [VRel] at hp hq
          obtain ⟨us, hX, hu⟩ := hp
          obtain ⟨vs, hY, hv⟩ := hq
          unfold trEq at he
          rw [hd] at he
          cases d with
          | struct fs =>
            simp only at he
            split at he
            · simp at he
            · rename_i hc
              simp only [Bool.or_eq_true, not_or, Bool.not_eq_true] at hc
              simp only [Option.map_eq_some_iff, EqT.cells.injEq] at he
              obtain ⟨offs', hf, rfl⟩ := he
              rw [hX, hY]
              rw [hX, hY] at fin
              refine fin (by cases neg <;> exact run_eqGuard_agg w _ t X Y _ _ hc.2) ?_
              exact binOp_eq _ neg t _ _ rfl (.inr (.inr (.inr (.inr (.inr (.inr (.inr (.inr ⟨_, rfl⟩)))))))) (.inr (.inr (.inr (.inr (.inr (.inr (.inr (.inr ⟨_, rfl⟩)))))))) b
                (equal_struct (n := 9998) hd hc.1 hf hu hv h3)
          | _ => simp only [Option.map_eq_some_iff, reduceCtorEq, and_false, exists_false] at he
        · -- two nil interfaces, one of them written so
          simp only [VRel] at hp hq
          split at h3
          · rename_i hc
            simp only [Option.some.injEq] at h3; subst h3
            have hk : eqk d = some 5 := by
              unfold trEq at he
              rw [hd] at he
              cases d <;> simp [eqk] at he ⊢
            have hdi : ∃ ms, d = .interface ms := by cases d <;> simp [eqk] at hk; exact ⟨_, rfl⟩
            obtain ⟨ms, rfl⟩ := hdi
            rw [hp, hq]
            rw [hp, hq] at fin
            refine fin ?_ ?_
            · rw [Bool.or_eq_true] at hc
              rcases hc with hc | hc
              · obtain ⟨v, rfl⟩ := isNilConst_sound hx hc
                cases neg <;> rfl
              · obtain ⟨v, rfl⟩ := isNilConst_sound hy hc
                cases neg <;> simp [eqGuard]
            · exact binOp_eq _ neg t _ _ rfl (.inr (.inr (.inr (.inr (.inr (.inr (.inr (.inl rfl)))))))) (.inr (.inr (.inr (.inr (.inr (.inr (.inr (.inl rfl)))))))) true
                (nili_eq 9999 hd)
          · simp at h3
        · -- one cell
          rename_i k hno
          have hk : eqk d = some k := by
            unfold trEq at he
            rw [hd] at he
            cases d <;> simp [eqk] at he ⊢ <;> first | exact he | (split at he <;> simp at he)
          have k6 : k ≠ 6 := by rintro rfl; cases d <;> simp [eqk] at hk; exact hni _ rfl
          have k7 : k ≠ 7 := by rintro rfl; cases d <;> simp [eqk] at hk; exact hns rfl
          obtain ⟨f1, f2, f3, f4, f5, f6, f7, f8⟩ := scalarEq_forms h3 k6 k7
          have heq := scalarEq_sound (P := P) (w := w) (n := 9999) hd hk hp hq h3
          refine fin ?_ (binOp_eq _ neg t _ _ rfl (eqVal_forms hp f1 f2 f3 f7) (eqVal_forms hq f4 f5 f6 f8) b heq)
          have hagg : ∀ cs, a.eval X ≠ .agg cs := by
            intro cs hc
            have hp' := hp
            cases p <;> simp only [VRel] at hp' <;> first
              | (rw [hc] at hp'; cases hp'; done)
              | (obtain ⟨_, hp', _⟩ := hp'; rw [hc] at hp'; cases hp'; done)
              | (obtain ⟨_, _, hp', _⟩ := hp'; rw [hc] at hp'; cases hp'; done)
              | (obtain ⟨_, _, _, hp', _⟩ := hp'; rw [hc] at hp'; cases hp'; done)
              | (unfold scalarEq at h3; simp at h3; done)
              | exact absurd rfl (f7 _)
          by_cases hn : a.eval X = .nilIface
          · -- the other one is none: then nothing is asked
            have hq2 : ∀ z, a.eval Y = z → (eqGuard (if neg then .neq else .eql) t X Y (a.eval X) z).run P w = .ok () w := by
              intro z hz
              rw [hn]
              by_cases hz2 : z = .nilIface
              · exfalso
                subst hz2
                have hp' := hp
                have hq' := hq
                rw [hn] at hp'
                rw [hz] at hq'
                cases p <;> (try exact absurd rfl (f7 _)) <;> simp only [VRel, reduceCtorEq, exists_false, and_false, false_and] at hp' <;> (try (obtain ⟨_, hp', _⟩ := hp'; cases hp'; done)) <;> (try (obtain ⟨_, _, hp', _⟩ := hp'; cases hp'; done))
                cases q <;> (try exact absurd rfl (f8 _)) <;> simp only [VRel, reduceCtorEq, exists_false, and_false, false_and] at hq' <;> (try (obtain ⟨_, hq', _⟩ := hq'; cases hq'; done)) <;> (try (obtain ⟨_, _, hq', _⟩ := hq'; cases hq'; done))
                unfold scalarEq at h3
                simp at h3
              · cases neg <;> cases z <;> first | rfl | exact absurd rfl hz2
            exact hq2 _ rfl
          · exact eqGuard_plain _ t X Y _ hagg hn
        · simp at h3
/-! ### Maps -/
theorem keyKind_iff (k : Nat) : keyKind k = true ↔ k = 0 ∨ k = 6 ∨ k = 7 := by
  unfold keyKind; split <;> simp_all
theorem keyK_one {t : TypeId} {k : Nat} (h : keyK P t = some (.one k)) : ∃ d, P.underlying t = some d ∧ eqk d = some k ∧ keyKind k = true := by
  unfold keyK at h
  split at h
  · split at h
    · simp at h
    · split at h
      · split at h <;> simp at h
      · simp at h
  · rename_i d hne hd
    split at h
    · rename_i k' hk
      split at h
      · rename_i hkk; simp at h; subst h; exact ⟨d, hd, hk, hkk⟩
      · simp at h
    · simp at h
  · simp at h
theorem keyK_cells {t : TypeId} {l : List (Nat × Nat)} (h : keyK P t = some (.cells l)) : ∃ fs, P.underlying t = some (.struct fs) ∧ P.stoodInHeld t = false ∧ mapO (eqField P) fs.toList = some l ∧ l.all (fun p => keyKind p.2) = true := by
  unfold keyK at h
  split at h
  · rename_i fs hd
    split at h
    · simp at h
    · rename_i hst
      split at h
      · rename_i l' hl
        split at h
        · rename_i ha; simp at h; subst h; exact ⟨fs, hd, by simpa using hst, hl, ha⟩
        · simp at h
      · simp at h
  · split at h
    · split at h <;> simp at h
    · simp at h
  · simp at h
theorem keyEq_sound {t : TypeId} {kk : KeyK} {x y : PV} {X Y : Value} {b : Bool} (hk : keyK P t = some kk) (hx : VRel H M x X) (hy : VRel H M y Y) (h : keyEq kk x y = some b) :
    (Op.equal t X Y).run P w = .ok b w := by
  cases kk with
  | one k =>
    obtain ⟨d, hd, hk1, hk2⟩ := keyK_one hk
    simp only [keyEq] at h
    split at h
    · exact scalarEq_sound (n := 9999) hd hk1 hx hy h
    · simp at h
  | cells l =>
    obtain ⟨fs, hd, hst, hf, -⟩ := keyK_cells hk
    simp only [keyEq] at h
    split at h
    · simp only [VRel] at hx hy
      obtain ⟨us, rfl, hu⟩ := hx
      obtain ⟨vs, rfl, hv⟩ := hy
      exact equal_struct (n := 9998) hd hst hf hu hv h
    · simp at h
theorem keyLoop {us : List Value} {xs : List PV} {e : Bool} (hu : VRels H M xs us)
    (one : ∀ (n : Nat) (t : TypeId) (d : TypeDesc) (k : Nat) (v : Value), P.underlying t = some d → eqk d = some k → keyKind k = true → (Instr.checkKey e (n + 1) t v).run P w = .ok () w) :
    ∀ (fl : List Field) (offs : List (Nat × Nat)), mapO (eqField P) fl = some offs → offs.all (fun p => keyKind p.2) = true → cellsEq offs xs xs = some true →
    (forIn fl PUnit.unit (fun f _ => do
      if f.name ≠ "_" then
        Instr.checkKey e 9999 f.type (← part f.type us.toArray f.offset)
      pure (ForInStep.yield PUnit.unit)) : Sem PUnit).run P w = .ok PUnit.unit w := by
  intro fl
  induction fl with
  | nil => intro offs _ _ _; rfl
  | cons f fl ih =>
    intro offs h1 h2 h3
    obtain ⟨p, ps, h4, h5, rfl⟩ := mapO_cons h1
    obtain ⟨o, k⟩ := p
    obtain ⟨hn, ha, d, hd', hk', ho⟩ := eqField_inv h4
    simp only at hk' ho
    subst ho
    simp only [List.all_cons, Bool.and_eq_true] at h2
    unfold cellsEq at h3
    split at h3
    · rename_i x y h6 h7
      rw [h6] at h7
      simp only [Option.some.injEq, List.cons.injEq, and_true] at h7
      obtain ⟨u, r1, r2⟩ := part_one (P := P) (w := w) hu ha h6
      have hrest : cellsEq ps xs xs = some true := by
        split at h3
        · exact h3
        · simp at h3
        · simp at h3
      simp only [List.forIn_cons, Sem.run_bind, hn, ne_eq, not_false_eq_true, if_true, r1, Result.andThen_ok, one 9998 f.type d k u hd' hk' h2.1, Sem.run_pure]
      exact ih ps h5 h2.2 hrest
    · simp at h3
/-- A key's check goes through. -/
theorem checkKey_sound {t : TypeId} {kk : KeyK} {x : PV} {X : Value} {e : Bool} (hk : keyK P t = some kk) (hx : VRel H M x X) (h : keyOk kk x = true) :
    (Instr.checkKey e 10000 t X).run P w = .ok () w := by
  have one : ∀ (n : Nat) (t : TypeId) (d : TypeDesc) (k : Nat) (v : Value), P.underlying t = some d → eqk d = some k → keyKind k = true → (Instr.checkKey e (n + 1) t v).run P w = .ok () w := by
    intro n t d k v hd hk hkk
    rw [keyKind_iff] at hkk
    have : d = .bool ∨ (∃ j, d = .int j) ∨ d = .string := by
      rcases hkk with rfl | rfl | rfl <;> cases d <;> simp [eqk] at hk ⊢
    simp only [Instr.checkKey, Sem.run_bind, runUnderlying hd, Result.andThen_ok]
    rcases this with rfl | ⟨j, rfl⟩ | rfl <;> cases v <;> rfl
  cases kk with
  | one k =>
    obtain ⟨d, hd, hk1, hk2⟩ := keyK_one hk
    exact one 9999 t d k X hd hk1 hk2
  | cells l =>
    obtain ⟨fs, hd, hst, hf, hall⟩ := keyK_cells hk
    unfold keyOk at h
    split at h
    · rename_i heq
      cases x with
      | agg xs =>
        simp only [keyEq] at heq
        simp only [VRel] at hx
        obtain ⟨us, rfl, hu⟩ := hx
        have hl := keyLoop (e := e) (P := P) (w := w) hu (fun n t d k v => one n t d k v) fs.toList l hf hall heq
        unfold Instr.checkKey
        simp only [Sem.run_bind, runUnderlying hd, Result.andThen_ok]
        rw [← Array.forIn_toList]
        simp at hl ⊢
        rw [hl]; rfl
      | _ => simp [keyEq] at heq
    · simp at h
end Am
/- What an operation of the abstract machine says of the model's: maps asked and written. -/
namespace Am
open Go
variable {CR : Code → ACode → Prop} {H : Hc} {M M' : Mu} {σ σ' : St} {w : World} {P : Program} {ρ : Regs} {a : Act}

/-- What a look for a key comes to. -/
def FRel (H : Hc) (M : Mu) (es' : List MapEntry) (j : Nat) : Option (Nat × AEnt) → Option (Nat × Value) → Prop
  | none, r => r = none
  | some (i, e), r => ∃ e', r = some (i, e'.val) ∧ es'[i - j]? = some e' ∧ j ≤ i ∧ ERel H M e e'
theorem FRel.shift {es' : List MapEntry} {e' : MapEntry} {j : Nat} {x : Option (Nat × AEnt)} {r : Option (Nat × Value)} (h : FRel H M es' (j + 1) x r) : FRel H M (e' :: es') j x r := by
  cases x with
  | none => exact h
  | some p =>
    obtain ⟨i, e⟩ := p
    obtain ⟨e'', h1, h2, h3, h4⟩ := h
    refine ⟨e'', h1, ?_, by omega, h4⟩
    have : i - j = (i - (j + 1)) + 1 := by omega
    rw [this]; simpa using h2
theorem findAsking_sound {t : TypeId} {kk : KeyK} {k : PV} {K : Value} (hk : keyK P t = some kk) (hK : VRel H M k K) : ∀ (es : List AEnt) (es' : List MapEntry) (j : Nat) (x : Option (Nat × AEnt)),
    ERels H M es es' → findKey kk k es j = some x → ∃ r, (Instr.findAsking t K es' j).run P w = .ok r w ∧ FRel H M es' j x r
  | [], es', j, x, he, h => by
    simp only [ERels] at he; subst he
    simp only [findKey, Option.some.injEq] at h; subst h
    exact ⟨none, rfl, rfl⟩
  | e :: es, es', j, x, he, h => by
    simp only [ERels] at he
    obtain ⟨y, ys, rfl, h1, h2⟩ := he
    unfold findKey at h
    cases hq : keyEq kk k e.key with
    | none => simp [hq] at h
    | some b =>
      have heq := keyEq_sound (P := P) (w := w) hk hK h1.1 hq
      cases b with
      | true =>
        simp only [hq, Option.some.injEq] at h; subst h
        refine ⟨some (j, y.val), by simp [Instr.findAsking, heq], y, rfl, by simp, Nat.le_refl _, h1⟩
      | false =>
        simp only [hq] at h
        obtain ⟨r, r1, r2⟩ := findAsking_sound hk hK es ys (j + 1) x h2 h
        exact ⟨r, by simp [Instr.findAsking, heq, r1], r2.shift⟩
theorem sameNow_sound {t : TypeId} {d : TypeDesc} {kk : KeyK} {x y : PV} {X Y : Value} {b c : Bool} (hd : P.underlying t = some d) (hk : keyK P t = some kk) (hx : VRel H M x X) (hy : VRel H M y Y) (h : keyEq kk x y = some b)
    (hs : Instr.sameNow d X Y = some c) : c = b := by
  have heq := keyEq_sound (P := P) (w := default) hk hx hy h
  have : ∀ n, (Op.equalIn (n + 1) t X Y).run P default = .ok c default := by
    intro n
    unfold Instr.sameNow at hs
    split at hs
    · rename_i k a k' b'
      split at hs
      · rename_i hkk; subst hkk; simp at hs; subst hs
        simp only [Op.equalIn, Sem.run_bind, runUnderlying hd, Result.andThen_ok]; simp
      · simp at hs
    · simp at hs; subst hs
      simp only [Op.equalIn, Sem.run_bind, runUnderlying hd, Result.andThen_ok, Sem.run_pure]
    · simp at hs; subst hs
      simp only [Op.equalIn, Sem.run_bind, runUnderlying hd, Result.andThen_ok, Sem.run_pure]
    · simp at hs
  have h2 : (Op.equal t X Y).run P default = .ok c default := this 9999
  rw [heq] at h2
  injection h2 with h2
  exact h2.symm
theorem findNow_sound {t : TypeId} {d : TypeDesc} {kk : KeyK} {k : PV} {K : Value} (hd : P.underlying t = some d) (hk : keyK P t = some kk) (hK : VRel H M k K) : ∀ (es : List AEnt) (es' : List MapEntry) (j : Nat) (x : Option (Nat × AEnt)) (r : Option (Nat × Value)),
    ERels H M es es' → findKey kk k es j = some x → Instr.findNow d K es' j = some r → FRel H M es' j x r
  | [], es', j, x, r, he, h, hn => by
    simp only [ERels] at he; subst he
    simp only [findKey, Option.some.injEq] at h; subst h
    simp only [Instr.findNow, Option.some.injEq] at hn; subst hn
    rfl
  | e :: es, es', j, x, r, he, h, hn => by
    simp only [ERels] at he
    obtain ⟨y, ys, rfl, h1, h2⟩ := he
    unfold findKey at h
    unfold Instr.findNow at hn
    cases hq : keyEq kk k e.key with
    | none => simp [hq] at h
    | some b =>
      cases hs : Instr.sameNow d K y.key with
      | none => simp [hs] at hn
      | some c =>
        have := sameNow_sound hd hk hK h1.1 hq hs
        subst this
        cases c with
        | true =>
          simp only [hq, Option.some.injEq] at h; subst h
          simp only [hs, Option.some.injEq] at hn; subst hn
          exact ⟨y, rfl, by simp, Nat.le_refl _, h1⟩
        | false =>
          simp only [hq] at h
          simp only [hs] at hn
          exact (findNow_sound hd hk hK es ys (j + 1) x r h2 h hn).shift
theorem findKey_sound {t : TypeId} {kk : KeyK} {k : PV} {K : Value} {es : List AEnt} {es' : List MapEntry} {x : Option (Nat × AEnt)} (hk : keyK P t = some kk) (hK : VRel H M k K)
    (he : ERels H M es es') (h : findKey kk k es 0 = some x) : ∃ r, (Instr.findKey t K es').run P w = .ok r w ∧ FRel H M es' 0 x r := by
  have hd : ∃ d, P.underlying t = some d := by
    unfold keyK at hk
    cases hd : P.underlying t with
    | none => simp [hd] at hk
    | some d => exact ⟨d, rfl⟩
  obtain ⟨d, hd⟩ := hd
  cases hn : Instr.findNow d K es' 0 with
  | some r => exact ⟨r, by simp [Instr.findKey, runUnderlying hd, hn], findNow_sound hd hk hK es es' 0 x r he h hn⟩
  | none =>
    obtain ⟨r, r1, r2⟩ := findAsking_sound (P := P) (w := w) hk hK es es' 0 x he h
    exact ⟨r, by simp [Instr.findKey, runUnderlying hd, hn, r1], r2⟩
theorem ERels.length : ∀ {es : List AEnt} {es' : List MapEntry}, ERels H M es es' → es'.length = es.length
  | [], es', h => by simp only [ERels] at h; subst h; rfl
  | e :: es, es', h => by
    simp only [ERels] at h
    obtain ⟨y, ys, rfl, _, h2⟩ := h
    simp [ERels.length h2]
theorem ERels.append : ∀ {es fs : List AEnt} {es' fs' : List MapEntry}, ERels H M es es' → ERels H M fs fs' → ERels H M (es ++ fs) (es' ++ fs')
  | [], fs, es', fs', h1, h2 => by simp only [ERels] at h1; subst h1; exact h2
  | e :: es, fs, es', fs', h1, h2 => by
    simp only [ERels] at h1
    obtain ⟨y, ys, rfl, h3, h4⟩ := h1
    exact ⟨y, ys ++ fs', rfl, h3, ERels.append h4 h2⟩
theorem map_obj {b : Nat} {es : List AEnt} {clock : Nat} (hw : WRel CR H M σ w) (hg : σ.get b = some (.map es clock)) :
    ∃ c n es', M.at_ b = some (c, n) ∧ w.heap[c]? = some (.map (es' : List MapEntry).toArray clock) ∧ ERels H M es es' := by
  obtain ⟨c, n, h1, es', h2, h3⟩ := hw.obj b _ hg
  exact ⟨c, n, es', h1, h2, h3⟩
theorem getObj_run {c : Nat} {o : Obj} (h : w.heap[c]? = some o) (ho : ∀ a b d, o ≠ .cells a b d) : (getObj c).run P w = .ok o w := by
  simp only [getObj, Sem.run, h]
  try (cases o <;> first | rfl | exact absurd rfl (ho _ _ _))
theorem setObj_run {c : Nat} {o o' : Obj} (h : w.heap[c]? = some o) (ho : ∀ a b d, o ≠ .cells a b d) : (setObj c o').run P w = .ok () (put w c o') := by
  simp only [setObj, Sem.run, h, put]
  try (cases o <;> first | rfl | exact absurd rfl (ho _ _ _))
/-- The entries of a map value. -/
theorem mapOf_sound {m : PV} {X : Value} {es : List AEnt} (hw : WRel CR H M σ w) (hx : VRel H M m X) (h : mapOf σ m = some es) :
    (X = .map none ∧ es = []) ∨ ∃ c es' clock, X = .map (some c) ∧ w.heap[c]? = some (.map (es' : List MapEntry).toArray clock) ∧ ERels H M es es' := by
  cases m <;> simp only [mapOf, reduceCtorEq, Option.some.injEq] at h
  · simp only [VRel] at hx; exact .inl ⟨hx, h.symm⟩
  · rename_i b
    simp only [VRel] at hx
    obtain ⟨_, r, rfl, h2⟩ := hx
    cases hg : σ.get b with
    | none => simp [hg] at h
    | some o =>
      cases o with
      | map es0 clock =>
        simp only [hg, Option.some.injEq] at h; subst h
        obtain ⟨c, n, es', h3, h4, h5⟩ := map_obj hw hg
        have := h2 c n h3
        subst this
        exact .inr ⟨_, es', clock, rfl, h4, h5⟩
      | _ => simp [hg] at h
def okC (ok : Bool) (v : Value) (b : Bool) : Value := if ok then .tuple #[v, .bool b] else v
theorem okV_sound {ok b : Bool} {p : PV} {v : Value} (hv : VRel H M p v) : VRel H M (okV ok p b) (okC ok v b) := by
  cases ok
  · exact hv
  · simp only [okV, okC, if_true, VRel]
    exact ⟨[v, .bool b], rfl, VRels.cons_iff.2 ⟨hv, VRels.cons_iff.2 ⟨by simp only [VRel], VRels.nil_iff.2 rfl⟩⟩⟩
theorem lookupS {kk : KeyK} {zv : PV} {ok : Bool} {x y : Src} {r : ORes} {X Y : Operand} {t kt e : TypeId} {z : Value} (hd : P.underlying t = some (.map kt e)) (hkk : keyK P kt = some kk) (hz : zero? P e = some z) (hzv : trV 3 z = some zv)
    (hx : trS X = some x) (hy : trS Y = some y) (hr : RRel H M ρ a.tmps) (hw : WRel CR H M σ w) (h : evLookup kk zv ok x y ρ σ = some r) :
    Sound P CR H M w (do pure (.value (← Instr.lookup t (a.eval X) (a.eval Y) ok))) r := by
  unfold evLookup at h
  cases h1 : ρ.src x with
  | none => simp [h1] at h
  | some m =>
    cases h2 : ρ.src y with
    | none => simp [h1, h2] at h
    | some k =>
      cases h3 : mapOf σ m with
      | none => simp [h1, h2, h3] at h
      | some es =>
        cases h4 : keyOk kk k with
        | false => simp [h1, h2, h3, h4] at h
        | true =>
          cases h5 : findKey kk k es 0 with
          | none => simp [h1, h2, h3, h4, h5] at h
          | some f =>
            have hm := trS_sound hx hr h1
            have hk := trS_sound hy hr h2
            have hzr : VRel H M zv z := trV_sound _ _ _ hzv
            have hck : ∀ e, (Instr.checkKey e 10000 kt (a.eval Y)).run P w = .ok () w := fun e => checkKey_sound hkk hk h4
            -- the entries that are looked at, and what is found among them
            have key : ∃ es' : List MapEntry, ERels H M es es' ∧ (∀ (f : Array MapEntry → Sem Value), (f es'.toArray).run P w = (f es'.toArray).run P w) ∧
                ∀ rr, (Instr.findKey kt (a.eval Y) es').run P w = .ok rr w → (Instr.lookup t (a.eval X) (a.eval Y) ok).run P w =
                  .ok ((rr.map fun p => okC ok p.2 true).getD (okC ok z false)) w := by
              rcases mapOf_sound hw hm h3 with ⟨hX, rfl⟩ | ⟨c, es', clock, hX, hobj, he⟩
              · refine ⟨[], rfl, fun _ => rfl, fun rr hrr => ?_⟩
                rw [hX]
                simp only [Instr.lookup, Sem.run_bind, runUnderlying hd, Result.andThen_ok, Sem.run_pure, hck, hrr]
                cases rr with
                | none => simp only [Sem.run_bind, runZeroValue hz, Result.andThen_ok, Sem.run_pure]; rfl
                | some p => obtain ⟨_, v⟩ := p; simp only [Sem.run_bind, Sem.run_pure, Result.andThen_ok]; rfl
              · refine ⟨es', he, fun _ => rfl, fun rr hrr => ?_⟩
                rw [hX]
                simp only [Instr.lookup, Sem.run_bind, runUnderlying hd, Result.andThen_ok, Sem.run_pure, getObj_run hobj (by simp), hck, hrr]
                cases rr with
                | none => simp only [Sem.run_bind, runZeroValue hz, Result.andThen_ok, Sem.run_pure]; rfl
                | some p => obtain ⟨_, v⟩ := p; simp only [Sem.run_bind, Sem.run_pure, Result.andThen_ok]; rfl
            obtain ⟨es', he, -, hrun⟩ := key
            obtain ⟨rr, f1, f2⟩ := findKey_sound (P := P) (w := w) hkk hk he h5
            have hrun := hrun rr f1
            cases f with
            | none =>
              simp only [h1, h2, h3, h4, h5, Option.some.injEq] at h; subst h
              simp only [FRel] at f2; subst f2
              exact Sound.pure (cv := okC ok z false) hw (by simp only [Sem.run_bind, hrun, Result.andThen_ok, Sem.run_pure]; rfl) (okV_sound hzr)
            | some p =>
              obtain ⟨i, en⟩ := p
              simp only [h1, h2, h3, h4, h5, Option.some.injEq] at h; subst h
              obtain ⟨e', rfl, -, -, hE⟩ := f2
              exact Sound.pure (cv := okC ok e'.val true) hw (by simp only [Sem.run_bind, hrun, Result.andThen_ok, Sem.run_pure]; rfl) (okV_sound hE.2.1)
end Am
/- What an operation of the abstract machine says of the model's: maps written, ranged over; the rest. -/
namespace Am
open Go
variable {CR : Code → ACode → Prop} {H : Hc} {M M' : Mu} {σ σ' : St} {w : World} {P : Program} {ρ : Regs} {a : Act}

mutual
theorem PV.beq_eq : ∀ {x y : PV}, PV.beq x y = true → x = y
  | .bool a, y, h => by cases y <;> simp [PV.beq] at h; rw [h]
  | .int k a, y, h => by
    cases y <;> simp only [PV.beq, reduceCtorEq, Bool.false_eq_true] at h
    rw [Bool.and_eq_true, eqK_eq, eqI_eq] at h; simp at h; obtain ⟨rfl, rfl⟩ := h; rfl
  | .str s, y, h => by
    cases y <;> simp only [PV.beq, reduceCtorEq, Bool.false_eq_true] at h
    rw [eqBytes_eq] at h
    simp at h
    rename_i s'
    have : s = s' := by apply ByteArray.ext; exact h
    rw [this]
  | .nilp, y, h => by cases y <;> simp [PV.beq] at h; rfl
  | .ptr a b, y, h => by
    cases y <;> simp only [PV.beq, reduceCtorEq, Bool.false_eq_true] at h
    rw [Bool.and_eq_true] at h; rw [Nat.eq_of_beq_eq_true h.1, Nat.eq_of_beq_eq_true h.2]
  | .iptr a b, y, h => by
    cases y <;> simp only [PV.beq, reduceCtorEq, Bool.false_eq_true] at h
    rw [Bool.and_eq_true] at h; rw [PV.beqs_eq h.1, Nat.eq_of_beq_eq_true h.2]
  | .nils, y, h => by cases y <;> simp [PV.beq] at h; rfl
  | .slice a b c d e, y, h => by
    cases y <;> simp only [PV.beq, reduceCtorEq, Bool.false_eq_true] at h
    simp only [Bool.and_eq_true, decide_eq_true_eq] at h
    obtain ⟨⟨⟨⟨h1, h2⟩, h3⟩, h4⟩, h5⟩ := h
    rw [Nat.eq_of_beq_eq_true h1, Nat.eq_of_beq_eq_true h2, Nat.eq_of_beq_eq_true h3, Nat.eq_of_beq_eq_true h4, h5]
  | .islice a c d e, y, h => by
    cases y <;> simp only [PV.beq, reduceCtorEq, Bool.false_eq_true] at h
    simp only [Bool.and_eq_true, decide_eq_true_eq] at h
    obtain ⟨⟨⟨h1, h2⟩, h3⟩, h4⟩ := h
    rw [PV.beqs_eq h1, Nat.eq_of_beq_eq_true h2, Nat.eq_of_beq_eq_true h3, h4]
  | .nilm, y, h => by cases y <;> simp [PV.beq] at h; rfl
  | .map a, y, h => by
    cases y <;> simp only [PV.beq, reduceCtorEq, Bool.false_eq_true] at h
    rw [Nat.eq_of_beq_eq_true h]
  | .func f a b, y, h => by
    cases y <;> simp only [PV.beq, reduceCtorEq, Bool.false_eq_true] at h
    simp only [Bool.and_eq_true] at h
    rw [Nat.eq_of_beq_eq_true h.1.1, PV.beqs_eq h.1.2, PV.beqs_eq h.2]
  | .yld a, y, h => by
    cases y <;> simp only [PV.beq, reduceCtorEq, Bool.false_eq_true] at h
    rw [Nat.eq_of_beq_eq_true h]
  | .nilf, y, h => by cases y <;> simp [PV.beq] at h; rfl
  | .raw _, y, h => by cases y <;> simp [PV.beq] at h; rw [h]
  | .iface t v, y, h => by
    cases y <;> simp only [PV.beq, reduceCtorEq, Bool.false_eq_true] at h
    rw [Bool.and_eq_true] at h; rw [Nat.eq_of_beq_eq_true h.1, PV.beq_eq h.2]
  | .nili, y, h => by cases y <;> simp [PV.beq] at h; rfl
  | .agg a, y, h => by
    cases y <;> simp only [PV.beq, reduceCtorEq, Bool.false_eq_true] at h
    rw [PV.beqs_eq h]
  | .tup a, y, h => by
    cases y <;> simp only [PV.beq, reduceCtorEq, Bool.false_eq_true] at h
    rw [PV.beqs_eq h]
theorem PV.beqs_eq : ∀ {xs ys : List PV}, PV.beqs xs ys = true → xs = ys
  | [], ys, h => by cases ys <;> simp [PV.beqs] at h; rfl
  | x :: xs, ys, h => by
    cases ys with
    | nil => simp [PV.beqs] at h
    | cons y ys =>
      simp only [PV.beqs, Bool.and_eq_true] at h
      rw [PV.beq_eq h.1, PV.beqs_eq h.2]
end
theorem eqBytes_refl : ∀ l : List UInt8, eqBytes l l = true
  | [] => rfl
  | a :: l => by simp [eqBytes, eqBytes_refl l]
theorem eqI_refl : ∀ n : Int, eqI n n = true
  | .ofNat n => by simp [eqI]
  | .negSucc n => by simp [eqI]
mutual
theorem PV.beq_refl : ∀ x : PV, PV.beq x x = true
  | .bool b => by simp [PV.beq]
  | .int k n => by simp [PV.beq, eqI_refl, eqK]
  | .str s => by simp [PV.beq, eqBytes_refl]
  | .nilp => rfl
  | .ptr _ _ => by simp [PV.beq]
  | .iptr cs _ => by simp [PV.beq, PV.beqs_refl cs]
  | .nils => rfl
  | .slice _ _ _ _ _ => by simp [PV.beq]
  | .islice cs _ _ _ => by simp [PV.beq, PV.beqs_refl cs]
  | .nilm => rfl
  | .map _ => by simp [PV.beq]
  | .func _ a b => by simp [PV.beq, PV.beqs_refl a, PV.beqs_refl b]
  | .yld _ => by simp [PV.beq]
  | .nilf => rfl
  | .iface _ v => by simp [PV.beq, PV.beq_refl v]
  | .nili => rfl
  | .agg a => by simp [PV.beq, PV.beqs_refl a]
  | .tup a => by simp [PV.beq, PV.beqs_refl a]
  | .raw _ => by simp [PV.beq]
theorem PV.beqs_refl : ∀ xs : List PV, PV.beqs xs xs = true
  | [] => rfl
  | x :: xs => by simp [PV.beqs, PV.beq_refl x, PV.beqs_refl xs]
end
theorem plain1_same {x : PV} {v u : Value} (hp : plain1 x = true) (h1 : VRel H M x v) (h2 : VRel H M x u) : v = u ∧ ∀ n, Instr.sameBits n v u = true := by
  cases x <;> simp [plain1] at hp <;> simp only [VRel] at h1 h2 <;> subst h1 h2 <;> exact ⟨rfl, fun n => by cases n <;> simp [Instr.sameBits, beq_toListBytes]⟩
theorem plains_same : ∀ {xs : List PV} {vs us : List Value}, xs.all plain1 = true → VRels H M xs vs → VRels H M xs us → vs = us ∧ ∀ n, (vs.zip us).all (fun p => Instr.sameBits n p.1 p.2) = true
  | [], vs, us, _, h1, h2 => by rw [VRels.nil_iff] at h1 h2; subst h1 h2; exact ⟨rfl, fun _ => rfl⟩
  | x :: xs, vs, us, hp, h1, h2 => by
    simp only [VRels] at h1 h2
    obtain ⟨y, ys, rfl, a1, a2⟩ := h1
    obtain ⟨z, zs, rfl, b1, b2⟩ := h2
    simp only [List.all_cons, Bool.and_eq_true] at hp
    obtain ⟨rfl, k1⟩ := plain1_same hp.1 a1 b1
    obtain ⟨rfl, k2⟩ := plains_same hp.2 a2 b2
    exact ⟨rfl, fun n => by simp [k1 n, k2 n]⟩
theorem key_same {kk : KeyK} {x : PV} {v u : Value} (hp : keyOk kk x = true) (h1 : VRel H M x v) (h2 : VRel H M x u) : v = u ∧ Instr.sameBits 10000 v u = true := by
  unfold keyOk at hp
  split at hp
  · split at hp
    · rename_i cs
      simp only [VRel] at h1 h2
      obtain ⟨vs, rfl, a1⟩ := h1
      obtain ⟨us, rfl, b1⟩ := h2
      obtain ⟨rfl, k⟩ := plains_same hp a1 b1
      refine ⟨rfl, ?_⟩
      have := k 9999
      show (vs.toArray.size == vs.toArray.size && (vs.toArray.toList.zip vs.toArray.toList).all fun p => Instr.sameBits 9999 p.1 p.2) = true
      simpa using this
    · obtain ⟨k1, k2⟩ := plain1_same hp h1 h2
      exact ⟨k1, k2 _⟩
  · simp at hp
theorem ERels.setEntry {k v : PV} {K V : Value} (hk : VRel H M k K) (hv : VRel H M v V) : ∀ {es : List AEnt} {es' : List MapEntry} (i : Nat), ERels H M es es' →
    ERels H M (Am.setEntry k v es i) (es'.modify i fun e => { e with key := K, val := V })
  | [], es', i, h => by simp only [ERels] at h; subst h; simp [Am.setEntry, ERels]
  | e :: es, es', i, h => by
    simp only [ERels] at h
    obtain ⟨y, ys, rfl, h1, h2⟩ := h
    cases i with
    | zero => exact ⟨{ y with key := K, val := V }, ys, by simp, ⟨hk, hv, h1.2.2⟩, h2⟩
    | succ i => exact ⟨y, _, by simp, h1, ERels.setEntry hk hv i h2⟩
theorem ERels.dropEntry : ∀ {es : List AEnt} {es' : List MapEntry} (i : Nat), ERels H M es es' → ERels H M (Am.dropEntry es i) (es'.eraseIdx i)
  | [], es', i, h => by simp only [ERels] at h; subst h; simp [Am.dropEntry, ERels]
  | e :: es, es', i, h => by
    simp only [ERels] at h
    obtain ⟨y, ys, rfl, h1, h2⟩ := h
    cases i with
    | zero => simpa [Am.dropEntry] using h2
    | succ i => exact ⟨y, _, by simp, h1, ERels.dropEntry i h2⟩
theorem mapupS {kk : KeyK} {x y z : Src} {r : ORes} {X Y Z : Operand} {t kt e : TypeId} (hd : P.underlying t = some (.map kt e)) (hkk : keyK P kt = some kk) (hx : trS X = some x) (hy : trS Y = some y) (hz : trS Z = some z)
    (hr : RRel H M ρ a.tmps) (hw : WRel CR H M σ w) (h : evMapup kk x y z ρ σ = some r) : Sound P CR H M w (do (Instr.mapUpdate t (a.eval X) (a.eval Y) (a.eval Z)); pure .skip) r := by
  unfold evMapup at h
  cases h1 : ρ.src x with
  | none => simp [h1] at h
  | some m =>
    cases m with
    | map b =>
      cases h2 : ρ.src y with
      | none => simp [h1, h2] at h
      | some k =>
        cases h3 : ρ.src z with
        | none => simp [h1, h2, h3] at h
        | some v =>
          cases hg : σ.get b with
          | none => simp [h1, h2, h3, hg] at h
          | some o =>
            cases o with
            | map es clock =>
              cases h4 : keyOk kk k with
              | false => simp [h1, h2, h3, hg, h4] at h
              | true =>
                cases h5 : findKey kk k es 0 with
                | none => simp [h1, h2, h3, hg, h4, h5] at h
                | some f =>
                  have hm := trS_sound hx hr h1
                  have hk := trS_sound hy hr h2
                  have hv := trS_sound hz hr h3
                  simp only [VRel] at hm
                  obtain ⟨_, c, hX, hc⟩ := hm
                  obtain ⟨c', n, es', hM, hobj, he⟩ := map_obj hw hg
                  have := hc c' n hM
                  subst this
                  have hck := checkKey_sound (e := false) (P := P) (w := w) hkk hk h4
                  obtain ⟨rr, f1, f2⟩ := findKey_sound (P := P) (w := w) hkk hk he h5
                  have pre : ∀ g : Option (Nat × Value) → Sem Unit, (∀ w', w' = w → (g rr).run P w' = (g rr).run P w') → True := fun _ _ => trivial
                  cases f with
                  | none =>
                    simp only [h1, h2, h3, hg, h4, h5, Option.some.injEq] at h; subst h
                    simp only [FRel] at f2; subst f2
                    obtain ⟨s1, s2⟩ := hw.set (o := .map (es ++ [({ key := k, val := v, born := clock } : AEnt)]) (clock + 1)) (o' := .map (es' ++ [({ key := a.eval Y, val := a.eval Z, born := clock } : MapEntry)]).toArray (clock + 1)) hM
                      ⟨_, rfl, he.append (fs := [({ key := k, val := v, born := clock } : AEnt)]) (fs' := [({ key := a.eval Y, val := a.eval Z, born := clock } : MapEntry)]) ⟨_, [], rfl, ⟨hk, hv, rfl⟩, rfl⟩⟩ (fun lp hl => by rw [hobj] at hl; simp at hl)
                    refine ⟨.skip, _, M, ?_, s1, s2, undef, undefS, .inr ⟨rfl, rfl⟩⟩
                    rw [hX]
                    simp only [Instr.mapUpdate, Sem.run_bind, runUnderlying hd, Result.andThen_ok, getObj_run hobj (by simp), hck, f1, setObj_run hobj (by simp), Sem.run_pure]
                    simp
                  | some p =>
                    obtain ⟨i, en⟩ := p
                    simp only [h1, h2, h3, hg, h4, h5] at h
                    cases hbq : PV.beq en.key k with
                    | false => simp [hbq] at h
                    | true =>
                      simp only [hbq, Option.some.injEq] at h; subst h
                      obtain ⟨e', rfl, hge, -, hE⟩ := f2
                      have hke := PV.beq_eq hbq
                      rw [Nat.sub_zero] at hge
                      obtain ⟨hks, hsb⟩ := key_same h4 (hke ▸ hE.1) hk
                      obtain ⟨s1, s2⟩ := hw.set (o := .map (setEntry k v es i) clock) (o' := .map (es'.modify i fun e => { e with key := a.eval Y, val := a.eval Z }).toArray clock) hM
                        ⟨_, rfl, ERels.setEntry hk hv i he⟩ (fun lp hl => by rw [hobj] at hl; simp at hl)
                      refine ⟨.skip, _, M, ?_, s1, s2, undef, undefS, .inr ⟨rfl, rfl⟩⟩
                      rw [hX]
                      have hkts : ∀ w, (Instr.keyThatStays (((es'.toArray[i]?).map (·.key)).getD (a.eval Y)) (a.eval Y)).run P w = .ok (a.eval Y) w := by
                        intro w
                        have : ((es'.toArray[i]?).map (·.key)).getD (a.eval Y) = e'.key := by simp [hge]
                        rw [this]
                        simp [Instr.keyThatStays, hsb]
                      simp only [Instr.mapUpdate, Sem.run_bind, runUnderlying hd, Result.andThen_ok, getObj_run hobj (by simp), hck, f1, hkts, setObj_run hobj (by simp), Sem.run_pure]
                      simp
            | _ => simp [h1, h2, h3, hg] at h
    | _ => simp [h1] at h
theorem deleteS {kk : KeyK} {x y : Src} {r : ORes} {X Y : Operand} {t u kt e ty : TypeId} (hd : P.underlying t = some (.map kt e)) (hkk : keyK P kt = some kk) (hx : trS X = some x) (hy : trS Y = some y)
    (hr : RRel H M ρ a.tmps) (hw : WRel CR H M σ w) (h : evDelete kk x y ρ σ = some r) : Sound P CR H M w (do pure (.value (← Builtin.delete_ #[t, u] ty #[a.eval X, a.eval Y]))) r := by
  unfold evDelete at h
  cases h1 : ρ.src x with
  | none => simp [h1] at h
  | some m =>
    cases m with
    | map b =>
      cases h2 : ρ.src y with
      | none => simp [h1, h2] at h
      | some k =>
        cases hg : σ.get b with
        | none => simp [h1, h2, hg] at h
        | some o =>
          cases o with
          | map es clock =>
            cases h4 : keyOk kk k with
            | false => simp [h1, h2, hg, h4] at h
            | true =>
              cases h5 : findKey kk k es 0 with
              | none => simp [h1, h2, hg, h4, h5] at h
              | some f =>
                have hm := trS_sound hx hr h1
                have hk := trS_sound hy hr h2
                simp only [VRel] at hm
                obtain ⟨_, c, hX, hc⟩ := hm
                obtain ⟨c', n, es', hM, hobj, he⟩ := map_obj hw hg
                have := hc c' n hM
                subst this
                have hck := fun e => checkKey_sound (e := e) (P := P) (w := w) hkk hk h4
                obtain ⟨rr, f1, f2⟩ := findKey_sound (P := P) (w := w) hkk hk he h5
                cases f with
                | none =>
                  simp only [h1, h2, hg, h4, h5, Option.some.injEq] at h; subst h
                  simp only [FRel] at f2; subst f2
                  obtain ⟨s1, s2⟩ := hw.set (o := .map es clock) (o' := .map es'.toArray clock) hM ⟨_, rfl, he⟩ (fun lp hl => by rw [hobj] at hl; simp at hl)
                  refine ⟨.value (.tuple #[]), _, M, ?_, s1, s2, undef, undefS, .inl rfl⟩
                  rw [hX]
                  simp only [Builtin.delete_, List.getElem?_toArray, List.getElem?_cons_zero, List.getElem?_cons_succ, Sem.run_bind, runUnderlying hd, Result.andThen_ok, getObj_run hobj (by simp), hck, f1, setObj_run hobj (by simp), Sem.run_pure]
                | some p =>
                  obtain ⟨i, en⟩ := p
                  simp only [h1, h2, hg, h4, h5, Option.some.injEq] at h; subst h
                  obtain ⟨e', rfl, hge, -, hE⟩ := f2
                  obtain ⟨s1, s2⟩ := hw.set (o := .map (dropEntry es i) clock) (o' := .map (es'.eraseIdx i).toArray clock) hM ⟨_, rfl, ERels.dropEntry i he⟩ (fun lp hl => by rw [hobj] at hl; simp at hl)
                  refine ⟨.value (.tuple #[]), _, M, ?_, s1, s2, undef, undefS, .inl rfl⟩
                  rw [hX]
                  simp only [Builtin.delete_, List.getElem?_toArray, List.getElem?_cons_zero, List.getElem?_cons_succ, Sem.run_bind, runUnderlying hd, Result.andThen_ok, getObj_run hobj (by simp), hck, f1, setObj_run hobj (by simp), Sem.run_pure]
                  simp
          | _ => simp [h1, h2, hg] at h
    | _ => simp [h1] at h
theorem lenMS {x : Src} {r : ORes} {X : Operand} {t kt e ty : TypeId} (hd : P.underlying t = some (.map kt e)) (hx : trS X = some x) (hr : RRel H M ρ a.tmps) (hw : WRel CR H M σ w)
    (h : evLenM x ρ σ = some r) : Sound P CR H M w (do pure (.value (← Builtin.len_ #[t] ty #[a.eval X]))) r := by
  unfold evLenM at h
  cases h1 : ρ.src x with
  | none => simp [h1] at h
  | some m =>
    have hm := trS_sound hx hr h1
    cases m with
    | nilm =>
      simp [h1] at h; subst h
      simp only [VRel] at hm
      exact Sound.pure (cv := .int .i64 0) hw (by simp [Builtin.len_, runUnderlying hd, hm, goInt]) (by simp only [VRel])
    | map b =>
      cases hg : σ.get b with
      | none => simp [h1, hg] at h
      | some o =>
        cases o with
        | map es clock =>
          simp only [h1, hg, Option.some.injEq] at h; subst h
          simp only [VRel] at hm
          obtain ⟨_, c, hX, hc⟩ := hm
          obtain ⟨c', n, es', hM, hobj, he⟩ := map_obj hw hg
          have := hc c' n hM
          subst this
          have := he.length
          exact Sound.pure (cv := .int .i64 es.length) hw (by simp [Builtin.len_, runUnderlying hd, hX, getObj_run hobj, goInt, this]) (by simp only [VRel])
        | _ => simp [h1, hg] at h
    | _ => simp [h1] at h
theorem clearMS {x : Src} {r : ORes} {X : Operand} {t kt e ty : TypeId} (hd : P.underlying t = some (.map kt e)) (hx : trS X = some x) (hr : RRel H M ρ a.tmps) (hw : WRel CR H M σ w)
    (h : evClearM x ρ σ = some r) : Sound P CR H M w (do pure (.value (← Builtin.clear_ #[t] ty #[a.eval X]))) r := by
  unfold evClearM at h
  cases h1 : ρ.src x with
  | none => simp [h1] at h
  | some m =>
    have hm := trS_sound hx hr h1
    cases m with
    | nilm =>
      simp [h1] at h; subst h
      simp only [VRel] at hm
      exact Sound.pure (cv := .tuple #[]) hw (by simp [Builtin.clear_, runUnderlying hd, hm]) undefS
    | map b =>
      cases hg : σ.get b with
      | none => simp [h1, hg] at h
      | some o =>
        cases o with
        | map es clock =>
          simp only [h1, hg, Option.some.injEq] at h; subst h
          simp only [VRel] at hm
          obtain ⟨_, c, hX, hc⟩ := hm
          obtain ⟨c', n, es', hM, hobj, he⟩ := map_obj hw hg
          have := hc c' n hM
          subst this
          obtain ⟨s1, s2⟩ := hw.set (o := .map [] clock) (o' := .map #[] clock) hM ⟨[], rfl, rfl⟩ (fun lp hl => by rw [hobj] at hl; simp at hl)
          refine ⟨.value (.tuple #[]), _, M, ?_, s1, s2, undef, undefS, .inl rfl⟩
          rw [hX]
          simp [Builtin.clear_, runUnderlying hd, getObj_run hobj, setObj_run hobj]
        | _ => simp [h1, hg] at h
    | _ => simp [h1] at h
end Am
/- What an operation of the abstract machine says of the model's: ranging over maps, least and greatest, calls; and all operations together. -/
namespace Am
open Go
variable {CR : Code → ACode → Prop} {H : Hc} {M M' : Mu} {σ σ' : St} {w : World} {P : Program} {ρ : Regs} {a : Act}

theorem clearSS {zc : List PV} {esz : Nat} {x : Src} {r : ORes} {X : Operand} {t e ty : TypeId} (hd : P.underlying t = some (.slice e)) (hz : zcells? P e = some zc) (hx : trS X = some x) (hr : RRel H M ρ a.tmps)
    (hw : WRel CR H M σ w) (h : evClearS zc esz x ρ σ = some r) : Sound P CR H M w (do pure (.value (← Builtin.clear_ #[t] ty #[a.eval X]))) r := by
  unfold evClearS at h
  cases h1 : ρ.src x with
  | none => simp [h1] at h
  | some m =>
    have hm := trS_sound hx hr h1
    cases m with
    | nils =>
      simp [h1] at h; subst h
      simp only [VRel] at hm
      exact Sound.pure (cv := .tuple #[]) hw (by simp [Builtin.clear_, runUnderlying hd, hm]) undefS
    | slice b off len esz' cap =>
      simp only [h1] at h
      cases hq : Nat.beq esz esz' && allOne zc && Nat.beq zc.length esz && Nat.blt 0 esz with
      | false => simp [hq] at h
      | true =>
        simp only [hq] at h
        simp only [Bool.and_eq_true] at hq
        obtain ⟨⟨⟨q1, q2⟩, q3⟩, q4⟩ := hq
        have he := Nat.eq_of_beq_eq_true q1
        subst he
        have hpos : 0 < esz := by simpa using q4
        simp only [VRel] at hm
        obtain ⟨hb, ad, cp, hX, x1, x2, x3, x4⟩ := hm
        cases len with
        | zero =>
          simp only [Option.some.injEq] at h; subst h
          exact Sound.pure (cv := .tuple #[]) hw (by simp [Builtin.clear_, runUnderlying hd, hX]) undefS
        | succ n =>
          simp only at h
          cases hwp : writePtr σ (.ptr b off) (repl zc (n + 1)) with
          | none => simp [hwp] at h
          | some σ' =>
            simp only [hwp, Option.some.injEq] at h; subst h
            obtain ⟨z, hz1, hz2⟩ := zcells_sound (H := H) (M := M) hz
            have hz0 := zlen hz hz1 (Nat.eq_of_beq_eq_true q3)
            have hp : VRel H M (.ptr b off) (.pointer (some ad)) := by
              simp only [VRel]
              refine ⟨hb, ad, rfl, fun c n hc => ?_⟩
              rcases (x4 c n hc).1 with k | k
              · omega
              · exact k
            have hones : ∀ n, allOne (repl zc n) = true := by
              have app : ∀ (xs ys : List PV), allOne xs = true → allOne ys = true → allOne (xs ++ ys) = true := by
                intro xs ys h1 h2
                induction xs with
                | nil => exact h2
                | cons x xs ih => obtain ⟨k1, k2⟩ := allOne_cons h1; simp [allOne, k1, ih k2]
              intro n
              induction n with
              | zero => rfl
              | succ n ih => exact app _ _ q2 ih
            obtain ⟨ad', w', hpe, hsp, hrun, hw', hk⟩ := writePtr_sound (P := P) hw hp hwp (repl_sound hz2 (n + 1)) (hones _)
            cases hpe
            refine ⟨.value (.tuple #[]), w', M, ?_, hw', hk, undef, undefS, .inl rfl⟩
            have hzc : (Builtin.zeroCells z.cells (n + 1)).toList = replV z.cells.toList (n + 1) := by
              rw [← replV_zero z.cells (by omega) (n + 1)]
            rw [hX]
            simp [Builtin.clear_, runUnderlying hd, runZeroValue hz1, hzc, hrun]
    | _ => simp [h1] at h
theorem rangeS {x : Src} {r : ORes} {X : Operand} {t kt e : TypeId} (hd : P.underlying t = some (.map kt e)) (hx : trS X = some x) (hr : RRel H M ρ a.tmps) (hw : WRel CR H M σ w)
    (h : evRange false x ρ σ = some r) : Sound P CR H M w (do pure (.value (← Instr.range t (a.eval X)))) r := by
  unfold evRange at h
  cases h1 : ρ.src x with
  | none => simp [h1] at h
  | some m =>
    have hm := trS_sound hx hr h1
    cases m with
    | nilm =>
      simp [h1] at h; subst h
      simp only [VRel] at hm
      obtain ⟨s1, s2⟩ := hw.new (n := 0) (o := .mit none 0 [] 0) (o' := .mapIter none 0 #[] 0) ⟨none, rfl, trivial⟩
      refine ⟨.value (.pointer (some ⟨w.heap.size, 0, none⟩)), _, _, ?_, s1, s2, _, ?_, .inl rfl⟩
      · rw [hm]
        simp only [Instr.range, Sem.run_bind, runUnderlying hd, Result.andThen_ok, Sem.run_pure, run_newObj]
      · rw [← hw.next]; exact newPtr M _ _
    | map b =>
      cases hg : σ.get b with
      | none => simp [h1, hg] at h
      | some o =>
        cases o with
        | map es clock =>
          simp only [h1, hg, Option.some.injEq] at h; subst h
          simp only [VRel] at hm
          obtain ⟨hbN, c, hX, hc⟩ := hm
          obtain ⟨c', n, es', hM, hobj, he⟩ := map_obj hw hg
          have := hc c' n hM
          subst this
          obtain ⟨s1, s2⟩ := hw.new (n := 0) (o := .mit (some b) clock [] clock) (o' := .mapIter (some c) clock #[] clock)
            ⟨some c, rfl, Nat.lt_of_lt_of_le hbN (M.le_add _ _).N, fun c' n' hc' => hc c' n' ((M.le_add w.heap.size 0).at_ b hbN _ hc')⟩
          refine ⟨.value (.pointer (some ⟨w.heap.size, 0, none⟩)), _, _, ?_, s1, s2, _, ?_, .inl rfl⟩
          · rw [hX]
            simp only [Instr.range, Sem.run_bind, runUnderlying hd, Result.andThen_ok, Sem.run_pure, run_newObj, getObj_run hobj (by simp)]
          · rw [← hw.next]; exact newPtr M _ _
        | _ => simp [h1, hg] at h
    | _ => simp [h1] at h
theorem ERels.filter (p : Nat → Bool) : ∀ {es : List AEnt} {es' : List MapEntry}, ERels H M es es' → ERels H M (es.filter fun e => p e.born) (es'.filter fun e => p e.born)
  | [], es', h => by simp only [ERels] at h; subst h; simp [ERels]
  | e :: es, es', h => by
    simp only [ERels] at h
    obtain ⟨y, ys, rfl, h1, h2⟩ := h
    have hb := h1.2.2
    simp only [List.filter_cons, hb]
    split
    · exact ⟨y, _, rfl, h1, ERels.filter p h2⟩
    · exact ERels.filter p h2
theorem ERels.all (p : Nat → Bool) : ∀ {es : List AEnt} {es' : List MapEntry}, ERels H M es es' → es'.all (fun e => p e.born) = es.all (fun e => p e.born)
  | [], es', h => by simp only [ERels] at h; subst h; rfl
  | e :: es, es', h => by
    simp only [ERels] at h
    obtain ⟨y, ys, rfl, h1, h2⟩ := h
    simp only [List.all_cons, h1.2.2, ERels.all p h2]
theorem ERels.find (p : Nat → Bool) : ∀ {es : List AEnt} {es' : List MapEntry} {e : AEnt}, ERels H M es es' → es.find? (fun e => p e.born) = some e → ∃ e', es'.find? (fun e => p e.born) = some e' ∧ ERel H M e e'
  | [], es', e, h, hf => by simp at hf
  | e :: es, es', e0, h, hf => by
    simp only [ERels] at h
    obtain ⟨y, ys, rfl, h1, h2⟩ := h
    simp only [List.find?_cons, h1.2.2] at hf ⊢
    split at hf
    · simp only [Option.some.injEq] at hf; subst hf; exact ⟨y, rfl, h1⟩
    · exact ERels.find p h2 hf
theorem seen_any (seen : List Nat) (b : Nat) : seen.any (fun s => Nat.beq s b) = seen.contains b := by
  induction seen with
  | nil => rfl
  | cons s l ih =>
    simp only [List.any_cons, List.contains_cons, ih]
    congr 1
    rw [Bool.eq_iff_iff, Nat.beq_eq, beq_iff_eq]; exact eq_comm
/-- The candidates of a step, in the model. -/
def candC (es : List MapEntry) (since : Nat) (seen : List Nat) : List (Option MapEntry) :=
  let left := es.filter fun e => !seen.contains e.born
  (if (left.filter fun e => e.born < since).isEmpty then [none] else []) ++ ((left.filter fun e => e.born < since) ++ (left.filter fun e => e.born ≥ since)).map some
def CRelO (H : Hc) (M : Mu) : Option AEnt → Option MapEntry → Prop
  | none, none => True
  | some e, some e' => ERel H M e e'
  | _, _ => False
def candP {α : Type} (A B : List α) : List (Option α) := (match A with | [] => [none] | _ :: _ => []) ++ (A ++ B).map some
theorem candP_sound {A B : List AEnt} {A' B' : List MapEntry} {c : Option AEnt} (h2 : ERels H M A A') (h3 : ERels H M B B') (h : candP A B = [c]) : ∃ c', candP A' B' = [c'] ∧ CRelO H M c c' := by
  cases A with
  | nil =>
    simp only [ERels] at h2; subst h2
    cases B with
    | nil =>
      simp only [ERels] at h3; subst h3
      simp [candP] at h; subst h
      exact ⟨none, by simp [candP], trivial⟩
    | cons b B => simp [candP] at h
  | cons e A =>
    simp only [ERels] at h2
    obtain ⟨y, ys, rfl, h4, h5⟩ := h2
    cases A with
    | cons _ _ => simp [candP] at h
    | nil =>
      cases B with
      | cons _ _ => simp [candP] at h
      | nil =>
        simp only [ERels] at h5 h3; subst h5 h3
        simp [candP] at h; subst h
        exact ⟨some y, by simp [candP], h4⟩
theorem cand_sound {es : List AEnt} {es' : List MapEntry} {since : Nat} {seen : List Nat} {c : Option AEnt} (he : ERels H M es es') (h : candidates es since seen = [c]) :
    ∃ c', candC es' since seen = [c'] ∧ CRelO H M c c' := by
  have h1 := he.filter fun b => !seen.any (fun s => Nat.beq s b)
  have h2 := h1.filter fun b => Nat.blt b since
  have h3 := h1.filter fun b => !Nat.blt b since
  have f1 : (es'.filter fun e => !seen.contains e.born) = es'.filter fun e => !seen.any (fun s => Nat.beq s e.born) := by
    congr 1; funext e; rw [seen_any]
  have f2 : ∀ l : List MapEntry, (l.filter fun e => decide (e.born < since)) = l.filter fun e => Nat.blt e.born since := by
    intro l; congr 1; funext e; rw [Bool.eq_iff_iff, Nat.blt_eq]; simp
  have f3 : ∀ l : List MapEntry, (l.filter fun e => decide (e.born ≥ since)) = l.filter fun e => !Nat.blt e.born since := by
    intro l; congr 1; funext e
    rw [Bool.eq_iff_iff]
    simp only [decide_eq_true_eq, Bool.not_eq_true', Bool.eq_false_iff, ne_eq, Nat.blt_eq]; omega
  have h' : candP (es.filter (fun e => !seen.any (fun s => Nat.beq s e.born)) |>.filter fun e => Nat.blt e.born since) (es.filter (fun e => !seen.any (fun s => Nat.beq s e.born)) |>.filter fun e => !Nat.blt e.born since) = [c] := by
    rw [← h]; unfold candidates candP
    dsimp only
    congr 1
    cases List.filter (fun e => Nat.blt e.born since) (List.filter (fun e => !seen.any fun s => Nat.beq s e.born) es) <;> rfl
  obtain ⟨c', k1, k2⟩ := candP_sound h2 h3 h'
  refine ⟨c', ?_, k2⟩
  rw [← k1]
  unfold candC candP
  simp only [f1, f2, f3]
  congr 1
  cases List.filter (fun e => Nat.blt e.born since) (List.filter (fun e => !seen.any fun s => Nat.beq s e.born) es') <;> rfl
def IterRel (M : Mu) : Option Nat → Option Nat → Prop
  | none, none => True
  | some b, some r => b < M.N ∧ ∀ c n, M.at_ b = some (c, n) → r = c
  | _, _ => False
theorem iter_obj {r : Nat} {m : Option Nat} {since : Nat} {seen : List Nat} {stepped : Nat} {X : Value} (hw : WRel CR H M σ w) (hg : σ.get r = some (.mit m since seen stepped)) (hx : VRel H M (.ptr r 0) X) :
    ∃ c n m', X = .pointer (some ⟨c, 0, none⟩) ∧ M.at_ r = some (c, n) ∧ w.heap[c]? = some (.mapIter m' since seen.toArray stepped) ∧
      IterRel M m m' := by
  simp only [VRel] at hx
  obtain ⟨_, ad, rfl, h2⟩ := hx
  obtain ⟨c, n, h3, m', h4, h5⟩ := hw.obj r _ hg
  have := h2 c n h3
  subst this
  exact ⟨c, n, m', rfl, h3, h4, h5⟩
theorem nextS {x : Src} {r : ORes} {X : Operand} {ty : TypeId} (hx : trS X = some x) (hr : RRel H M ρ a.tmps) (hw : WRel CR H M σ w)
    (h : evNext false x ρ σ = some r) : Sound P CR H M w (do pure (.value (← Instr.next (a.eval X) false ty))) r := by
  unfold evNext at h
  have over : VRel H M (.tup [.bool false]) (.tuple #[.bool false]) := by
    simp only [VRel]; exact ⟨[.bool false], rfl, VRels.cons_iff.2 ⟨by simp only [VRel], VRels.nil_iff.2 rfl⟩⟩
  split at h
  · rename_i it r' _ hs
    have hp := trS_sound hx hr hs
    split at h
    · rename_i s1 s2 s3 hg
      simp only [Option.some.injEq] at h; subst h
      obtain ⟨c, n, m', hX, hM, hobj, hm⟩ := iter_obj hw hg hp
      cases m' with
      | some _ => exact hm.elim
      | none => exact Sound.pure hw (by rw [hX]; simp [Instr.next, getObj_run hobj]) over
    · rename_i b since seen last hg
      obtain ⟨c, n, m', hX, hM, hobj, hm⟩ := iter_obj hw hg hp
      cases m' with
      | none => exact hm.elim
      | some cm =>
        split at h
        · rename_i es clock hgm
          obtain ⟨cm', nm, es', hMm, hobjm, he⟩ := map_obj hw hgm
          have := hm.2 cm' nm hMm
          subst this
          have hall : (es'.all fun e => Nat.ble last e.born) = es.all fun e => Nat.ble last e.born := he.all fun b => Nat.ble last b
          have hlen := he.length
          split at h
          · simp at h
          · rename_i hcond
            have hcond' : (!seen.toArray.isEmpty && !es'.toArray.isEmpty && es'.toArray.all fun e => decide (e.born ≥ last)) = false := by
              rw [← hcond]
              have e1 : es'.toArray.isEmpty = es.isEmpty := by
                cases es with
                | nil => simp at hlen; subst hlen; rfl
                | cons e es => cases es' with | nil => simp at hlen | cons _ _ => rfl
              have e2 : (es'.toArray.all fun e => decide (e.born ≥ last)) = es'.all fun e => Nat.ble last e.born := by
                simp only [List.all_toArray]
                congr 1; funext e
                rw [Bool.eq_iff_iff]; simp
              rw [e1, e2, hall]
              simp
            have hcand : ∀ c', candC es' since seen = [c'] → (Instr.next (a.eval X) false ty).run P w =
                (match c' with
                 | some e => ((setObj c (.mapIter (some cm) since (seen ++ [e.born]).toArray clock)).run P w).andThen fun _ w' => .ok (.tuple #[.bool true, e.key, e.val]) w'
                 | none => .ok (.tuple #[.bool false]) w) := by
              intro c' hc'
              rw [hX]
              have hfil : (if (Array.filter (fun e => decide (e.born < since)) (Array.filter (fun e => !seen.toArray.contains e.born) es'.toArray)).isEmpty = true then #[none] else #[]) ++
                  Array.map some (Array.filter (fun e => decide (e.born < since)) (Array.filter (fun e => !seen.toArray.contains e.born) es'.toArray) ++
                    Array.filter (fun e => decide (e.born ≥ since)) (Array.filter (fun e => !seen.toArray.contains e.born) es'.toArray)) = #[c'] := by
                apply Array.ext'
                have := hc'
                simp only [candC] at this
                have e1 : ∀ (p : MapEntry → Bool) (l : List MapEntry), Array.filter p l.toArray = (l.filter p).toArray := fun p l => by simp
                simp only [e1, List.contains_toArray, Array.toList_append, List.isEmpty_toArray]
                rw [← this]
                split <;> simp
              simp only [Instr.next, Sem.run_bind, getObj_run hobj (by simp), Result.andThen_ok, getObj_run hobjm (by simp)]
              rw [if_neg (by rw [hcond']; simp)]
              simp only [hfil]
              simp only [List.size_toArray, List.length_cons, List.length_nil, Nat.zero_add, Sem.run_bind, run_choose, Question.forced, Nat.le_refl, decide_true, if_true, Result.andThen_ok]
              cases c' with
              | none => simp
              | some e => simp
            split at h
            · rename_i e hce
              simp only [Option.some.injEq] at h; subst h
              obtain ⟨c', k1, k2⟩ := cand_sound he hce
              cases c' with
              | none => exact k2.elim
              | some e' =>
                have hrun := hcand _ k1
                simp only at hrun
                rw [setObj_run hobj (by simp)] at hrun
                have hb := k2.2.2
                obtain ⟨s1, s2⟩ := hw.set (o := .mit (some b) since (seen ++ [e.born]) clock) (o' := .mapIter (some cm) since (seen ++ [e'.born]).toArray clock) hM ⟨some cm, by rw [hb], hm⟩ (fun lp hl => by rw [hobj] at hl; simp at hl)
                refine ⟨.value (.tuple #[.bool true, e'.key, e'.val]), _, M, ?_, s1, s2, _, ?_, .inl rfl⟩
                · simp only [Sem.run_bind, hrun, Result.andThen_ok, Sem.run_pure]
                · simp only [VRel]
                  exact ⟨[.bool true, e'.key, e'.val], rfl, VRels.cons_iff.2 ⟨by simp only [VRel], VRels.cons_iff.2 ⟨k2.1, VRels.cons_iff.2 ⟨k2.2.1, VRels.nil_iff.2 rfl⟩⟩⟩⟩
            · rename_i hce
              simp only [Option.some.injEq] at h; subst h
              obtain ⟨c', k1, k2⟩ := cand_sound he hce
              cases c' with
              | some _ => exact k2.elim
              | none =>
                have hrun := hcand _ k1
                exact Sound.pure (cv := .tuple #[.bool false]) hw (by simp only [Sem.run_bind, hrun, Result.andThen_ok, Sem.run_pure]) over
            · simp at h
        · simp at h
    · simp at h
  · simp at h
end Am
/- What an operation of the abstract machine says of the model's: least and greatest, calls; and all operations together. -/
namespace Am
open Go
variable {CR : Code → ACode → Prop} {H : Hc} {M M' : Mu} {σ σ' : St} {w : World} {P : Program} {ρ : Regs} {a : Act}

theorem VRels.uncons {x : PV} {xs : List PV} {l : List Value} (h : VRels H M (x :: xs) l) : ∃ y ys, l = y :: ys ∧ VRel H M x y ∧ VRels H M xs ys := by
  cases l with
  | nil => simp only [VRels] at h; obtain ⟨_, _, h, _⟩ := h; simp at h
  | cons y ys => obtain ⟨h1, h2⟩ := VRels.cons_iff.1 h; exact ⟨y, ys, rfl, h1, h2⟩
theorem lastOf {α : Type} : ∀ (l : List α), l.toArray.back? = l.getLast? := by intro l; simp
theorem entryS {x : Src} {r : ORes} {X : Operand} (hx : trS X = some x) (hr : RRel H M ρ a.tmps) (hw : WRel CR H M σ w)
    (h : evEntry x ρ σ = some r) : Sound P CR H M w (do pure (.value (← Instr.entry (a.eval X)))) r := by
  unfold evEntry at h
  split at h
  · rename_i r' hs
    have hp := trS_sound hx hr hs
    split at h
    · rename_i b since seen stepped hg
      obtain ⟨c, n, m', hX, hM, hobj, hm⟩ := iter_obj hw hg hp
      cases m' with
      | none => exact hm.elim
      | some cm =>
        split at h
        · rename_i stamp hst
          split at h
          · rename_i es clock hgm
            obtain ⟨cm', nm, es', hMm, hobjm, he⟩ := map_obj hw hgm
            have := hm.2 cm' nm hMm
            subst this
            split at h
            · rename_i hcl
              have hcl := Nat.eq_of_beq_eq_true hcl
              subst hcl
              split at h
              · rename_i e hf
                simp only [Option.some.injEq] at h; subst h
                obtain ⟨e', k1, k2⟩ := he.find (fun b => Nat.beq b stamp) hf
                have k1' : es'.find? (fun e => e.born == stamp) = some e' := by
                  rw [← k1]; congr 1; funext e; rw [Bool.eq_iff_iff, Nat.beq_eq, beq_iff_eq]
                refine Sound.pure (cv := .tuple #[e'.key, e'.val]) hw ?_ ?_
                · rw [hX]
                  simp only [Instr.entry, Sem.run_bind, getObj_run hobj (by simp), Result.andThen_ok, lastOf, hst, getObj_run hobjm (by simp), bne_self_eq_false, Bool.false_eq_true, if_false, List.find?_toArray, k1', Sem.run_pure]
                · simp only [VRel]
                  exact ⟨[e'.key, e'.val], rfl, VRels.cons_iff.2 ⟨k2.1, VRels.cons_iff.2 ⟨k2.2.1, VRels.nil_iff.2 rfl⟩⟩⟩
              · simp at h
            · simp at h
          · simp at h
        · simp at h
    · simp at h
  · simp at h
theorem best_min : ∀ (l : List PV) (x v : PV) (l' : List Value) (x' : Value), VRel H M x x' → VRels H M l l' → best ltV x l = some v → ∃ v', (l'.foldlM Builtin.min2 x').run P w = .ok v' w ∧ VRel H M v v'
  | [], x, v, l', x', hx, hl, h => by
    rw [VRels.nil_iff] at hl; subst hl
    simp [best] at h; subst h
    exact ⟨x', by simp, hx⟩
  | y :: ys, x, v, l', x', hx, hl, h => by
    obtain ⟨y', ys', rfl, hy, hys⟩ := VRels.uncons hl
    simp only [best] at h
    cases hlt : ltV y x with
    | none => simp [hlt] at h
    | some q =>
      unfold ltV at hlt
      split at hlt
      · rename_i k n k' n'
        split at hlt
        · rename_i hk
          simp only [VRel] at hx hy; subst hx hy
          rw [eqK_eq] at hk
          have hk : k = k' := by simpa using hk
          subst hk
          simp only [Option.some.injEq, ltI_eq] at hlt; subst hlt
          simp only [List.foldlM_cons, Sem.run_bind, Builtin.min2, Sem.run_pure, Result.andThen_ok]
          by_cases hq : n < n'
          · simp only [ltV, hq, decide_true, if_true, eqK_eq, ltI_eq] at h ⊢
            exact best_min ys _ v ys' _ (by simp only [VRel]) hys h
          · simp only [ltV, hq, decide_false, if_false, eqK_eq, ltI_eq] at h ⊢
            exact best_min ys _ v ys' _ (by simp only [VRel]) hys h
        · simp at hlt
      · simp at hlt
theorem best_max : ∀ (l : List PV) (x v : PV) (l' : List Value) (x' : Value), VRel H M x x' → VRels H M l l' → best gtV x l = some v → ∃ v', (l'.foldlM Builtin.max2 x').run P w = .ok v' w ∧ VRel H M v v'
  | [], x, v, l', x', hx, hl, h => by
    rw [VRels.nil_iff] at hl; subst hl
    simp [best] at h; subst h
    exact ⟨x', by simp, hx⟩
  | y :: ys, x, v, l', x', hx, hl, h => by
    obtain ⟨y', ys', rfl, hy, hys⟩ := VRels.uncons hl
    simp only [best] at h
    cases hlt : gtV y x with
    | none => simp [hlt] at h
    | some q =>
      unfold gtV at hlt
      split at hlt
      · rename_i k n k' n'
        split at hlt
        · rename_i hk
          simp only [VRel] at hx hy; subst hx hy
          rw [eqK_eq] at hk
          have hk : k = k' := by simpa using hk
          subst hk
          simp only [Option.some.injEq, ltI_eq] at hlt; subst hlt
          simp only [List.foldlM_cons, Sem.run_bind, Builtin.max2, Sem.run_pure, Result.andThen_ok]
          by_cases hq : n > n'
          · simp only [gtV, hq, decide_true, if_true, eqK_eq, ltI_eq] at h ⊢
            exact best_max ys _ v ys' _ (by simp only [VRel]) hys h
          · simp only [gtV, hq, decide_false, if_false, eqK_eq, ltI_eq] at h ⊢
            exact best_max ys _ v ys' _ (by simp only [VRel]) hys h
        · simp at hlt
      · simp at hlt
theorem mminS {l : List Src} {r : ORes} {L : Array Operand} {ts : Array TypeId} {ty : TypeId} (hl : trSs L.toList = some l) (hr : RRel H M ρ a.tmps) (hw : WRel CR H M σ w)
    (h : evMmin l ρ σ = some r) : Sound P CR H M w (do pure (.value (← Builtin.min_ ts ty (L.map a.eval)))) r := by
  unfold evMmin at h
  split at h
  · rename_i x xs hs
    split at h
    · rename_i v hb
      simp only [Option.some.injEq] at h; subst h
      have := trSs_sound hr _ _ _ hl hs
      obtain ⟨x', xs', he, hx', hxs'⟩ := VRels.uncons this
      obtain ⟨v', h1, h2⟩ := best_min (P := P) (w := w) xs x v xs' x' hx' hxs' hb
      refine Sound.pure hw ?_ h2
      rw [map_arr, he]
      simp only [Builtin.min_, Sem.run_bind, h1, Result.andThen_ok, Sem.run_pure]
    · simp at h
  · simp at h
theorem mmaxS {l : List Src} {r : ORes} {L : Array Operand} {ts : Array TypeId} {ty : TypeId} (hl : trSs L.toList = some l) (hr : RRel H M ρ a.tmps) (hw : WRel CR H M σ w)
    (h : evMmax l ρ σ = some r) : Sound P CR H M w (do pure (.value (← Builtin.max_ ts ty (L.map a.eval)))) r := by
  unfold evMmax at h
  split at h
  · rename_i x xs hs
    split at h
    · rename_i v hb
      simp only [Option.some.injEq] at h; subst h
      have := trSs_sound hr _ _ _ hl hs
      obtain ⟨x', xs', he, hx', hxs'⟩ := VRels.uncons this
      obtain ⟨v', h1, h2⟩ := best_max (P := P) (w := w) xs x v xs' x' hx' hxs' hb
      refine Sound.pure hw ?_ h2
      rw [map_arr, he]
      simp only [Builtin.max_, Sem.run_bind, h1, Result.andThen_ok, Sem.run_pure]
    · simp at h
  · simp at h
/-! ### Floats -/
theorem complexS {l : List Src} {r : ORes} {L : Array Operand} {ts : Array TypeId} {ty : TypeId} (hl : trSs L.toList = some l) (hr : RRel H M ρ a.tmps) (hw : WRel CR H M σ w)
    (h : evPrim prCpx l ρ σ = some r) : Sound P CR H M w (do pure (.value (← Builtin.complex_ ts ty (L.map a.eval)))) r := by
  unfold evPrim at h
  split at h
  · rename_i vs hs
    split at h
    · rename_i v hb
      simp only [Option.some.injEq] at h; subst h
      have hv := trSs_sound hr _ _ _ hl hs
      unfold prCpx at hb
      split at hb
      · rename_i k x k' y
        split at hb
        · rename_i hk; subst hk
          simp only [Option.some.injEq] at hb; subst hb
          simp only [VRels, VRel] at hv
          obtain ⟨_, _, he, rfl, _, _, rfl, rfl, rfl⟩ := hv
          refine Sound.pure (cv := .complex k x y) hw ?_ (by simp [VRel, Flt.val])
          rw [map_arr, he, show Builtin.complex_ ts ty [Flt.val (.f k x), Flt.val (.f k y)].toArray = pure (.complex k x y) from if_pos rfl]
          simp
        · simp at hb
      · simp at hb
    · simp at h
  · simp at h
theorem toFloatS {k : FloatKind} {x : Src} {r : ORes} {X : Operand} {s d : TypeId} {ks : IntKind} (hd : P.underlying d = some (.float k)) (hsd : P.underlying s = some (.int ks)) (hx : trS X = some x) (hr : RRel H M ρ a.tmps)
    (hw : WRel CR H M σ w) (h : evPrim (prFlt k) [x] ρ σ = some r) : Sound P CR H M w (do pure (.value (← convert s d (a.eval X)))) r := by
  unfold evPrim at h
  split at h
  · rename_i vs hs
    split at h
    · rename_i v hb
      simp only [Option.some.injEq] at h; subst h
      cases hq : ρ.src x with
      | none => simp [Regs.srcs, hq] at hs
      | some p =>
        simp only [Regs.srcs, hq, Option.some.injEq] at hs; subst hs
        have hp := trS_sound hx hr hq
        unfold prFlt at hb
        split at hb
        · rename_i k' n he
          simp only [List.cons.injEq, and_true] at he; subst he
          simp only [Option.some.injEq] at hb; subst hb
          simp only [VRel] at hp
          exact Sound.pure (cv := .float k (k.nearest n)) hw (by simp [convert, runUnderlying hd, runUnderlying hsd, hp, Conv.intToFloat]) (by simp [VRel, Flt.val])
        · simp at hb
    · simp at h
  · simp at h
theorem ceqS {neg : Bool} {op : BinOp} (hop : op = if neg then .neq else .eql) {x y : Src} {r : ORes} {X Y : Operand} {t : TypeId} (hx : trS X = some x) (hy : trS Y = some y) (hr : RRel H M ρ a.tmps)
    (hw : WRel CR H M σ w) (h : evPrim (prCeq neg) [x, y] ρ σ = some r) : Sound P CR H M w (do eqGuard op t X Y (a.eval X) (a.eval Y); pure (.value (← binOp op t (a.eval X) (a.eval Y)))) r := by
  unfold evPrim at h
  split at h
  · rename_i vs hs
    split at h
    · rename_i v hb
      simp only [Option.some.injEq] at h; subst h
      cases hq : ρ.src x with
      | none => simp [Regs.srcs, hq] at hs
      | some p =>
        cases hq' : ρ.src y with
        | none => simp [Regs.srcs, hq, hq'] at hs
        | some p' =>
          simp only [Regs.srcs, hq, hq', Option.some.injEq] at hs; subst hs
          have hp := trS_sound hx hr hq
          have hp' := trS_sound hy hr hq'
          unfold prCeq at hb
          split at hb
          · rename_i k x1 x2 k' y1 y2 he
            simp only [List.cons.injEq, and_true] at he; obtain ⟨rfl, rfl⟩ := he
            split at hb
            · rename_i hk; subst hk
              simp only [Option.some.injEq] at hb; subst hb
              simp only [VRel] at hp hp'
              refine Sound.pure (cv := .bool (xor neg ((k.format.order x1 y1 == some .eq) && (k.format.order x2 y2 == some .eq)))) hw ?_ (by simp [VRel])
              rw [hp, hp']; simp only [Flt.val]
              cases neg <;> simp only [Bool.false_eq_true, if_false, if_true] at hop <;> subst hop <;> simp [eqGuard, binOp, Op.complexOp, Op.Complex.cmp, Op.floatCmp, asBool]
            · simp at hb
          · simp at hb
    · simp at h
  · simp at h
theorem callS {f : Src} {l : List Src} {r : ORes} {F : Operand} {L : Array Operand} {c : Call} {ty : TypeId} (hc : c.callee = .value F) (hL : c.args = L) (hf : trS F = some f) (hl : trSs L.toList = some l) (hr : RRel H M ρ a.tmps) (hw : WRel CR H M σ w)
    (h : evCall f l ρ σ = some r) : Sound P CR H M w (do let d ← resolve a.eval c ty; invoke d.target d.args) r := by
  unfold evCall at h
  split at h
  · rename_i g first cap hs
    have hp := trS_sound hf hr hs
    simp only [VRel] at hp
    obtain ⟨fs', cs', hF, h1, h2⟩ := hp
    split at h
    · rename_i vs hvs
      simp only [Option.some.injEq] at h; subst h
      have h3 := trSs_sound hr _ _ _ hl hvs
      refine ⟨fs' ++ L.toList.map a.eval ++ cs', ?_, (h1.append h3).append h2, hw⟩
      simp only [resolve, hc, hL, hF, Deferred.ofValue, Sem.run_bind, Sem.run_pure, Result.andThen_ok, invoke, map_arr]
      simp
    · simp at h
  · rename_i b hs
    have hp := trS_sound hf hr hs
    simp only [VRel] at hp
    obtain ⟨hb, q, hF, h1⟩ := hp
    split at h
    · rename_i vs hvs
      simp only [Option.some.injEq] at h; subst h
      have h3 := trSs_sound hr _ _ _ hl hvs
      refine ⟨q, L.toList.map a.eval, ?_, h3, hw, hb, h1⟩
      simp only [resolve, hc, hL, hF, Deferred.ofValue, Sem.run_bind, Sem.run_pure, Result.andThen_ok, invoke, map_arr]
      simp
    · simp at h
  · simp at h
/-- All operations together. -/
theorem builtin_sound {b : Builtin} {ts : Array TypeId} {L : Array Operand} {c : Call} {ty : TypeId} {ao : AOp} {r : ORes} (hc : c.callee = .builtin b) (hL : c.args = L) (hts : c.argTypes = ts)
    (ht : trBuiltin P b ts.toList L.toList = some ao) (hr : RRel H M ρ a.tmps) (hw : WRel CR H M σ w) (h : opEval ao ρ σ = some r) :
    Sound P CR H M w (do let d ← resolve a.eval c ty; invoke d.target d.args) r := by
  have e1 : (do let d ← resolve a.eval c ty; invoke d.target d.args : Sem Next) = builtin b ts ty (L.map fun | .const _ => true | _ => false) (L.map a.eval) := by
    simp only [resolve, hc, hL, hts, pure_bind, invoke]; rfl
  rw [e1]
  have aL : ∀ {x : Operand}, L.toList = [x] → L = #[x] := fun h => by apply Array.ext'; rw [h]
  have aL2 : ∀ {x y : Operand}, L.toList = [x, y] → L = #[x, y] := fun h => by apply Array.ext'; rw [h]
  have aT : ∀ {x : TypeId}, ts.toList = [x] → ts = #[x] := fun h => by apply Array.ext'; rw [h]
  have aT2 : ∀ {x y : TypeId}, ts.toList = [x, y] → ts = #[x, y] := fun h => by apply Array.ext'; rw [h]
  unfold trBuiltin at ht
  split at ht
  · rename_i b1 t x hts' hL'
    rw [aL hL', aT hts']
    simp only [builtin, List.map_toArray, List.map]
    split at ht
    · rename_i d s hd hs; simp only [Option.some.injEq] at ht; subst ht
      exact lenSS (s := true) hd hs hr hw h
    · rename_i d s hd hs; simp only [Option.some.injEq] at ht; subst ht
      exact lenSS (s := false) ⟨_, hd⟩ hs hr hw h
    · rename_i d s hd hs; simp only [Option.some.injEq] at ht; subst ht
      exact lenMS hd hs hr hw h
    · simp at ht
  · rename_i b1 t x hts' hL'
    rw [aL hL', aT hts']
    simp only [builtin, List.map_toArray, List.map]
    split at ht
    · rename_i d s hd hs; simp only [Option.some.injEq] at ht; subst ht
      exact capSS hd hs hr hw h
    · simp at ht
  · rename_i b1 t u x y hts' hL'
    rw [aL2 hL', aT2 hts']
    simp only [builtin, List.map_toArray, List.map]
    split at ht
    · rename_i e s z he hs hz
      have he' : P.underlying t = some (.slice e) := by
        unfold elemOf at he
        split at he
        · rename_i hq; simp only [Option.some.injEq] at he; subst he; exact hq
        · simp at he
      split at ht
      · rename_i zc n bb k h1 h2 h3 h4
        simp only [Option.some.injEq] at ht; subst ht
        exact appendNS he' h1 h2 h3 ⟨_, h4⟩ hs hz hr hw h
      · rename_i zc n bb d hq h1 h2 h3 h4
        simp only [Option.some.injEq] at ht; subst ht
        exact appendS he' h1 h2 h3 ⟨_, h4, fun k hk => hq k hk⟩ hs hz hr hw h
      · simp at ht
    · simp at ht
  · rename_i b1 t u x y hts' hL'
    rw [aL2 hL', aT2 hts']
    simp only [builtin, List.map_toArray, List.map]
    split at ht
    · rename_i e s z he hs hz
      have he' : P.underlying t = some (.slice e) := by
        unfold elemOf at he
        split at he
        · rename_i hq; simp only [Option.some.injEq] at he; subst he; exact hq
        · simp at he
      simp only [Option.map_eq_some_iff] at ht
      obtain ⟨n, h1, rfl⟩ := ht
      exact copyS he' h1 hs hz hr hw h
    · simp at ht
  · rename_i b1 t x hts' hL'
    rw [aL hL', aT hts']
    simp only [builtin, List.map_toArray, List.map]
    split at ht
    · rename_i d s hd hs; simp only [Option.some.injEq] at ht; subst ht
      exact clearMS hd hs hr hw h
    · rename_i d s hd hs
      split at ht
      · rename_i zc n h1 h2
        simp only [Option.some.injEq] at ht; subst ht
        exact clearSS hd h1 hs hr hw h
      · simp at ht
    · simp at ht
  · rename_i b1 t u x y hts' hL'
    rw [aL2 hL', aT2 hts']
    simp only [builtin, List.map_toArray, List.map]
    split at ht
    · rename_i kt e m k hd hm hk
      simp only [Option.map_eq_some_iff] at ht
      obtain ⟨kk, h1, rfl⟩ := ht
      exact deleteS hd h1 hm hk hr hw h
    · simp at ht
  · rename_i hL'
    simp only [Option.map_eq_some_iff] at ht
    obtain ⟨l, h1, rfl⟩ := ht
    simp only [builtin]
    exact mminS h1 hr hw h
  · rename_i hL'
    simp only [Option.map_eq_some_iff] at ht
    obtain ⟨l, h1, rfl⟩ := ht
    simp only [builtin]
    exact mmaxS h1 hr hw h
  · rename_i hL'
    simp only [Option.map_eq_some_iff] at ht
    obtain ⟨l, h1, rfl⟩ := ht
    simp only [builtin]
    exact complexS h1 hr hw h
  · simp at ht
end Am
/- What an operation of the abstract machine says of the model's: all operations together. -/
namespace Am
open Go
variable {CR : Code → ACode → Prop} {H : Hc} {M M' : Mu} {σ σ' : St} {w : World} {P : Program} {ρ : Regs} {a : Act}

theorem elem_of {t e : TypeId} (he : elemOf P t = some e) : P.underlying t = some (.slice e) := by
  unfold elemOf at he
  split at he
  · rename_i hq; simp only [Option.some.injEq] at he; subst he; exact hq
  · simp at he
theorem op_sound {o : Oper} {ao : AOp} {r : ORes} (ht : trOp P o.op = some ao) (hr : RRel H M ρ a.tmps) (hw : WRel CR H M σ w) (h : opEval ao ρ σ = some r) : Sound P CR H M w (execOp a.eval o) r := by
  cases ho : o.op with
  | move x =>
    simp only [ho, trOp, Option.map_eq_some_iff] at ht; obtain ⟨s, h1, rfl⟩ := ht
    simp only [execOp, ho]; exact movS h1 hr hw h
  | assign x =>
    simp only [ho, trOp, Option.map_eq_some_iff] at ht; obtain ⟨s, h1, rfl⟩ := ht
    simp only [execOp, ho]; exact movS h1 hr hw h
  | pick c x y =>
    simp only [ho, trOp] at ht; split at ht
    · rename_i h1 h2 h3; simp only [Option.some.injEq] at ht; subst ht
      simp only [execOp, ho]; exact pickS h1 h2 h3 hr hw h
    · simp at ht
  | alloc e =>
    simp only [ho, trOp] at ht; split at ht
    · rename_i h1; simp only [Option.map_eq_some_iff] at ht; obtain ⟨v, h2, rfl⟩ := ht
      simp only [execOp, ho]; exact allocS (ρ := ρ) h1 h2 hw h
    · simp at ht
  | box e x =>
    simp only [ho, trOp, Option.map_eq_some_iff] at ht; obtain ⟨s, h1, rfl⟩ := ht
    simp only [execOp, ho]; exact boxS h1 hr hw h
  | build t ps =>
    simp only [ho, trOp] at ht; split at ht
    · rename_i fs zc hd hz; split at ht
      · rename_i pl hpl; simp only [Option.map_eq_some_iff] at ht; obtain ⟨v, h2, rfl⟩ := ht
        simp only [execOp, ho]; exact buildS hd hz (.inl ⟨fs, pl, rfl, hpl, rfl⟩) h2 hr hw h
      · simp at ht
    · rename_i n e zc hd hz; split at ht
      · rename_i sz hsz; simp only [Option.map_eq_some_iff] at ht; obtain ⟨v, h2, rfl⟩ := ht
        simp only [execOp, ho]; exact buildS hd hz (.inr ⟨n, e, sz, rfl, hsz, rfl⟩) h2 hr hw h
      · simp at ht
    · simp at ht
  | buildSlice t len ps =>
    simp only [ho, trOp] at ht; split at ht
    · rename_i e he; split at ht
      · rename_i n zc h1 h2; simp only [Option.map_eq_some_iff] at ht; obtain ⟨v, h3, rfl⟩ := ht
        simp only [execOp, ho]; exact mkrowS (elem_of he) h2 h1 h3 hr hw h
      · simp at ht
    · simp at ht
  | load t x =>
    simp only [ho, trOp] at ht; split at ht
    · rename_i h1 h2; simp only [Option.some.injEq] at ht; subst ht
      simp only [execOp, ho]; exact loadS h1 h2 hr hw h
    · simp at ht
  | store t x y =>
    simp only [ho, trOp] at ht; split at ht
    · rename_i h1 h2 h3; simp only [Option.some.injEq] at ht; subst ht
      simp only [execOp, ho]; exact storeS h1 h2 h3 hr hw h
    · simp at ht
  | nilCheck x =>
    simp only [ho, trOp, Option.map_eq_some_iff] at ht; obtain ⟨s, h1, rfl⟩ := ht
    exact nilchkS ho h1 hr hw h
  | binOp op t x y q =>
    simp only [ho, trOp] at ht; split at ht
    · rename_i h1 h2 h3; simp only [Option.some.injEq] at ht; subst ht
      simp only [execOp, ho]; simpa only [bind_assoc] using binS (P := P) (t := t) h2 h3 hr hw h
    · rename_i h1 h2 h3; simp only [Option.some.injEq] at ht; subst ht
      simp only [execOp, ho]; simpa only [bind_assoc] using binS (P := P) (t := t) h2 h3 hr hw h
    · rename_i h1 h2 h3; split at ht
      · simp only [Option.some.injEq] at ht; subst ht
        simp only [execOp, ho]; simpa only [bind_assoc] using ceqS (neg := false) (op := .eql) (t := t) rfl h2 h3 hr hw h
      · simp only [Option.some.injEq] at ht; subst ht
        simp only [execOp, ho]; simpa only [bind_assoc] using ceqS (neg := true) (op := .neq) (t := t) rfl h2 h3 hr hw h
      · simp at ht
    · rename_i d u v hn1 hn2 hn3 h1 h2 h3
      split at ht
      · simp only [Option.map_eq_some_iff] at ht; obtain ⟨e, h4, rfl⟩ := ht
        simp only [execOp, ho]; simpa only [bind_assoc, Bool.false_eq_true, if_false] using eqlS (neg := false) h1 (fun k hk => hn1 k hk) (fun hk => hn2 hk) h4 h2 h3 hr hw h
      · simp only [Option.map_eq_some_iff] at ht; obtain ⟨e, h4, rfl⟩ := ht
        simp only [execOp, ho]; simpa only [bind_assoc, if_true] using eqlS (neg := true) h1 (fun k hk => hn1 k hk) (fun hk => hn2 hk) h4 h2 h3 hr hw h
      · simp at ht
    · simp at ht
  | unOp op t x =>
    simp only [ho, trOp, Option.map_eq_some_iff] at ht; obtain ⟨s, h1, rfl⟩ := ht
    simp only [execOp, ho]; exact unS h1 hr hw h
  | convert s d x =>
    simp only [ho, trOp] at ht; split at ht
    · rename_i h1 h2 h3; simp only [Option.some.injEq] at ht; subst ht
      simp only [execOp, ho]; exact toIntS h2 h1 h3 hr hw h
    · rename_i h1 h2 h3; simp only [Option.some.injEq] at ht; subst ht
      simp only [execOp, ho]; exact toFloatS h2 h1 h3 hr hw h
    · rename_i h1 h2 h3; simp only [Option.some.injEq] at ht; subst ht
      simp only [execOp, ho]; exact sameS h2 h1 h3 hr hw h
    · rename_i h1 h2 h3; split at ht
      · rename_i h4; simp only [Option.some.injEq] at ht; subst ht
        simp only [execOp, ho]; exact toBytesS h1 h2 h4 h3 hr hw h
      · simp at ht
    · rename_i h1 h2 h3; split at ht
      · rename_i h4; simp only [Option.some.injEq] at ht; subst ht
        simp only [execOp, ho]
        simp only [Bool.and_eq_true, beq_iff_eq] at h4
        exact toStrS h1 h2 h4.1 h4.2 h3 hr hw h
      · simp at ht
    · simp at ht
  | makeInterface t x =>
    simp only [ho, trOp] at ht; split at ht
    · simp at ht
    · rename_i d s hn h1 h2; simp only [Option.some.injEq] at ht; subst ht
      simp only [execOp, ho]; exact mkifaceS h1 (fun ms hk => hn ms hk) h2 hr hw h
    · simp at ht
  | makeFunc f xs ys =>
    cases f with
    | func f =>
      simp only [ho, trOp] at ht; split at ht
      · rename_i h1 h2; simp only [Option.some.injEq] at ht; subst ht
        simp only [execOp, ho]; exact mkfuncS h1 h2 hr hw h
      · simp at ht
    | _ => simp [ho, trOp] at ht
  | makeMap t q =>
    cases q with
    | none =>
      simp only [ho, trOp, Option.some.injEq] at ht; subst ht
      simp only [execOp, ho]; exact mkmapS (ρ := ρ) hw h
    | some _ => simp [ho, trOp] at ht
  | makeSlice t l c =>
    simp only [ho, trOp] at ht; split at ht
    · rename_i e he; split at ht
      · rename_i h1 h2 h3 h4 h5; simp only [Option.some.injEq] at ht; subst ht
        simp only [execOp, ho]; exact mksliceS (elem_of he) h1 h2 h3 h4 h5 hr hw h
      · simp at ht
    · simp at ht
  | slice t x lo hi mx =>
    simp only [ho, trOp] at ht; split at ht
    · rename_i h1 h2 h3 h4 h5; simp only [Option.some.injEq] at ht; subst ht
      simp only [execOp, ho]; exact slicS h1 h2 h3 h4 h5 hr hw h
    · simp at ht
  | fieldAddr t x i =>
    simp only [ho, trOp] at ht; split at ht
    · rename_i fs s hd hx; split at ht
      · rename_i f hf; split at ht
        · rename_i n hn; simp only [Option.some.injEq] at ht; subst ht
          simp only [execOp, ho]; exact faddrS hd hf hn hx hr hw h
        · simp at ht
      · simp at ht
    · simp at ht
  | field t x i =>
    simp only [ho, trOp] at ht; split at ht
    · rename_i fs s hd hx; split at ht
      · rename_i f hf; simp only [Option.map_eq_some_iff] at ht; obtain ⟨n, h1, rfl⟩ := ht
        simp only [execOp, ho]; exact fldS hd hf h1 hx hr hw h
      · simp at ht
    · simp at ht
  | indexAddr t x i =>
    simp only [ho, trOp] at ht; split at ht
    · rename_i e s z hd hx hy; simp only [Option.map_eq_some_iff] at ht; obtain ⟨n, h1, rfl⟩ := ht
      simp only [execOp, ho]; exact iaddrS h1 (arr := none) hd hx hy hr hw h
    · rename_i l e s z hd hx hy; simp only [Option.map_eq_some_iff] at ht; obtain ⟨n, h1, rfl⟩ := ht
      simp only [execOp, ho]; exact iaddrS h1 (arr := some l) hd hx hy hr hw h
    · simp at ht
  | index t x i =>
    simp only [ho, trOp] at ht; split at ht
    · rename_i hd hx hy; simp only [Option.some.injEq] at ht; subst ht
      simp only [execOp, ho]; exact idxSS hd hx hy hr hw h
    · rename_i l e s z hd hx hy; split at ht
      · rename_i h1 h2; simp only [Option.some.injEq] at ht; subst ht
        simp only [execOp, ho]; exact idxAS hd h1 h2 hx hy hr hw h
      · simp at ht
    · simp at ht
  | lookup t x i ok =>
    simp only [ho, trOp] at ht; split at ht
    · rename_i kt e s z hd hx hy; split at ht
      · rename_i zz hz; split at ht
        · rename_i h1 h2; simp only [Option.some.injEq] at ht; subst ht
          simp only [execOp, ho]; exact lookupS hd h1 hz h2 hx hy hr hw h
        · simp at ht
      · simp at ht
    · simp at ht
  | mapUpdate t m k v =>
    simp only [ho, trOp] at ht; split at ht
    · rename_i kt e sm sk sv hd hm hk hv; simp only [Option.map_eq_some_iff] at ht; obtain ⟨kk, h1, rfl⟩ := ht
      simp only [execOp, ho]; exact mapupS hd h1 hm hk hv hr hw h
    · simp at ht
  | range t x =>
    simp only [ho, trOp] at ht; split at ht
    · rename_i hd hx; simp only [Option.some.injEq] at ht; subst ht
      simp only [execOp, ho]; exact rangeS hd hx hr hw h
    · simp at ht
  | next it s =>
    cases s with
    | false =>
      simp only [ho, trOp, Option.map_eq_some_iff] at ht; obtain ⟨s, h1, rfl⟩ := ht
      simp only [execOp, ho]; exact nextS h1 hr hw h
    | true => simp [ho, trOp] at ht
  | entry it =>
    simp only [ho, trOp, Option.map_eq_some_iff] at ht; obtain ⟨s, h1, rfl⟩ := ht
    simp only [execOp, ho]; exact entryS h1 hr hw h
  | extract t i =>
    simp only [ho, trOp, Option.map_eq_some_iff] at ht; obtain ⟨s, h1, rfl⟩ := ht
    simp only [execOp, ho]; exact extractS h1 hr hw h
  | call c =>
    simp only [ho, trOp] at ht
    split at ht
    · rename_i f hc; split at ht
      · rename_i h1 h2; simp only [Option.some.injEq] at ht; subst ht
        simp only [execOp, ho]; exact callS hc rfl h1 h2 hr hw h
      · simp at ht
    · rename_i b hc
      simp only [execOp, ho]; exact builtin_sound hc rfl rfl ht hr hw h
    · simp at ht
  | _ => simp [ho, trOp] at ht
end Am
/- Temporaries, and what an operation looks at. -/
namespace Am
open Go
variable {CR : Code → ACode → Prop} {H : Hc} {M M' : Mu} {σ σ' : St} {w : World} {P : Program} {ρ ρ' : Regs} {a : Act}

theorem elemN_iff (k : Nat) : ∀ l : List Nat, Regs.elemN k l = true ↔ k ∈ l
  | [] => by simp [Regs.elemN]
  | x :: xs => by
    simp only [Regs.elemN, List.mem_cons]
    by_cases h : x = k
    · subst h; simp
    · have : Nat.beq x k = false := by rw [Bool.eq_false_iff]; intro e; exact h (Nat.eq_of_beq_eq_true e)
      simp only [this]
      rw [elemN_iff k xs]
      constructor
      · exact .inr
      · rintro (e | e)
        · exact absurd e.symm h
        · exact e
theorem Regs.get_put {dst : Option Nat} {v : PV} (h : ρ.put dst v = some ρ') (t : Nat) : ρ'.get t = if dst = some t then some v else ρ.get t := by
  obtain ⟨n, m, l⟩ := ρ
  cases dst with
  | none => simp [Regs.put] at h; subst h; simp
  | some d =>
    simp only [Regs.put] at h
    split at h
    · simp only [Option.some.injEq] at h; subst h
      simp only [Regs.get, Regs.look]
      by_cases e : d = t
      · subst e; simp
      · have : Nat.beq d t = false := by rw [Bool.eq_false_iff]; intro e'; exact e (Nat.eq_of_beq_eq_true e')
        simp [this, e]
    · simp at h
theorem Regs.n_put {dst : Option Nat} {v : PV} (h : ρ.put dst v = some ρ') : ρ'.n = ρ.n ∧ ∀ d, dst = some d → d < ρ.n := by
  obtain ⟨n, m, l⟩ := ρ
  cases dst with
  | none => simp [Regs.put] at h; subst h; simp
  | some d =>
    simp only [Regs.put] at h
    split at h
    · rename_i hb; simp only [Option.some.injEq] at h; subst h
      refine ⟨rfl, fun d' hd => ?_⟩
      simp only [Option.some.injEq] at hd; subst hd; simpa using hb
    · simp at h
theorem Act.put_size (a : Act) (dst : Option Nat) (v : Value) : (a.put dst v).tmps.size = a.tmps.size := by cases dst <;> simp [Act.put]
theorem Act.put_defers' (a : Act) (dst : Option Nat) (v : Value) : (a.put dst v).defers = a.defers := by cases dst <;> rfl
theorem Act.put_get (a : Act) (dst : Option Nat) (v : Value) (t : Nat) : (a.put dst v).tmps[t]? = if dst = some t then (if t < a.tmps.size then some v else none) else a.tmps[t]? := by
  cases dst with
  | none => simp [Act.put]
  | some d =>
    simp only [Act.put, Array.getElem?_setIfInBounds, Option.some.injEq]
    by_cases e : d = t
    · subst e; simp
    · simp [e]
theorem RRel.put {dst : Option Nat} {v : PV} {cv : Value} (hr : RRel H M ρ a.tmps) (hv : VRel H M v cv) (h : ρ.put dst v = some ρ') : RRel H M ρ' (a.put dst cv).tmps := by
  obtain ⟨hn, hlt⟩ := Regs.n_put h
  refine ⟨by rw [hn, Act.put_size]; exact hr.1, fun t u ht => ?_⟩
  rw [Regs.get_put h] at ht
  rw [Act.put_get]
  by_cases e : dst = some t
  · simp only [e, if_true, Option.some.injEq] at ht; subst ht
    have := hlt t e
    exact ⟨cv, by have := hr.1; simp [e]; omega, hv⟩
  · simp only [e, if_false] at ht ⊢
    exact hr.2 t u ht
theorem keepAll_get (l : List (Nat × PV)) : ∀ (outs : List Nat) (m : PT PV) (t : Nat),
    (Regs.keepAll l outs m).get t = if t ∈ outs then (match Regs.look t l .leaf with | some v => some v | none => m.get t) else m.get t
  | [], m, t => by simp [Regs.keepAll]
  | o :: outs, m, t => by
    simp only [Regs.keepAll]
    cases hl : Regs.look o l .leaf with
    | none =>
      simp only [keepAll_get l outs m t, List.mem_cons]
      by_cases e : t = o
      · subst e; simp [hl]
      · simp [e]
    | some v =>
      simp only [keepAll_get l outs _ t, List.mem_cons, PT.get_put]
      by_cases e : t = o
      · subst e; simp [hl]
      · simp [e]
theorem look_split (t : Nat) : ∀ (l : List (Nat × PV)) (m : PT PV), Regs.look t l m = match Regs.look t l .leaf with | some v => some v | none => m.get t
  | [], m => by simp [Regs.look]
  | (j, v) :: l, m => by
    simp only [Regs.look]
    split
    · rfl
    · exact look_split t l m
theorem look_mem (t : Nat) : ∀ (l : List (Nat × PV)) (v : PV), Regs.look t l .leaf = some v → ∃ u, (t, u) ∈ l
  | [], v, h => by simp [Regs.look] at h
  | (j, u) :: l, v, h => by
    simp only [Regs.look] at h
    split at h
    · rename_i e; have := Nat.eq_of_beq_eq_true e; subst this; exact ⟨u, by simp⟩
    · obtain ⟨u', hu⟩ := look_mem t l v h; exact ⟨u', by simp [hu]⟩
theorem freshIn_spec (outs : List Nat) : ∀ (l : List (Nat × PV)) (m : PT PV), Regs.freshIn outs l m = true → ∀ t u, (t, u) ∈ l → m.get t = none ∨ t ∈ outs
  | [], m, _, t, u, h => by simp at h
  | (j, v) :: l, m, hf, t, u, h => by
    simp only [Regs.freshIn] at hf
    rcases List.mem_cons.1 h with e | e
    · simp only [Prod.mk.injEq] at e; obtain ⟨rfl, rfl⟩ := e
      split at hf
      · exact .inl (by assumption)
      · split at hf
        · rename_i he; exact .inr ((elemN_iff _ _).1 he)
        · simp at hf
    · split at hf
      · exact freshIn_spec outs l m hf t u e
      · split at hf
        · exact freshIn_spec outs l m hf t u e
        · simp at hf
theorem Regs.get_keep {outs : List Nat} (h : ρ.keep outs = some ρ') : ρ'.n = ρ.n ∧ ∀ t v, ρ'.get t = some v → ρ.get t = some v := by
  obtain ⟨n, m, l⟩ := ρ
  simp only [Regs.keep, Regs.keepOk] at h
  split at h
  · rename_i hf
    simp only [Option.some.injEq] at h; subst h
    refine ⟨rfl, fun t v ht => ?_⟩
    simp only [Regs.get, Regs.look] at ht ⊢
    rw [look_split]
    have hk := keepAll_get l outs m t
    have hs := freshIn_spec outs l _ hf t
    cases hl : Regs.look t l .leaf with
    | none =>
      simp only
      rw [hk, hl] at ht
      simpa using ht
    | some u =>
      simp only
      obtain ⟨u', hu⟩ := look_mem t l u hl
      rcases hs u' hu with h0 | h0
      · rw [h0] at ht; simp at ht
      · rw [hk, hl] at ht; simpa [h0] using ht
  · simp at h
theorem RRel.keep {outs : List Nat} {tmps : Array Value} (hr : RRel H M ρ tmps) (h : ρ.keep outs = some ρ') : RRel H M ρ' tmps := by
  obtain ⟨hn, hg⟩ := Regs.get_keep h
  exact ⟨by rw [hn]; exact hr.1, fun t v ht => hr.2 t v (hg t v ht)⟩
theorem Regs.get_putM {d : Nat} {v : PV} (h : ρ.putM d v = some ρ') (t : Nat) : ρ'.get t = (if d = t then some v else ρ.get t) ∧ ρ'.n = ρ.n ∧ d < ρ.n := by
  obtain ⟨n, m, l⟩ := ρ
  cases l with
  | cons _ _ => simp [Regs.putM] at h
  | nil =>
    simp only [Regs.putM] at h
    split at h
    · rename_i hb; simp only [Option.some.injEq] at h; subst h
      refine ⟨?_, rfl, by simpa using hb⟩
      simp only [Regs.get, Regs.look, PT.get_put]
      by_cases e : d = t
      · subst e; simp
      · simp [e, Ne.symm e]
    · simp at h
end Am
/- What an operation looks at; which operations leave the store alone, which do not even look at it. -/
namespace Am
open Go
variable {CR : Code → ACode → Prop} {H : Hc} {M M' : Mu} {σ σ' : St} {w : World} {P : Program} {ρ ρ' : Regs} {a : Act}

def optL : Option Src → List Src
  | none => []
  | some x => [x]
def opSrcs : AOp → List Src
  | .mov x | .box x | .load _ x | .nilchk x | .un _ x | .toInt _ x | .toStr x | .toBytes x | .same x | .mkiface _ x | .faddr _ x | .fld _ _ x
  | .range _ x | .next _ x | .entry x | .extract x _ | .lenS _ x | .lenM x | .capS x | .clearS _ _ x | .clearM x => [x]
  | .store _ x y | .bin _ x y | .eql _ _ x y | .mkslice _ _ _ x y | .iaddr _ _ x y | .idxS x y | .idxA _ _ _ x y | .lookup _ _ _ x y | .append _ _ _ x y | .appendN _ _ _ x y
  | .copy _ x y | .delete _ x y => [x, y]
  | .pick x y z | .mapup _ x y z => [x, y, z]
  | .build _ ps | .mkrow _ _ _ ps => ps.map (·.2.2)
  | .mkfunc _ xs ys => xs ++ ys
  | .slic _ x lo hi mx => x :: (optL lo ++ (optL hi ++ optL mx))
  | .call f l => f :: l
  | .mmin l | .mmax l | .prim _ l => l
  | .mkmap | .stuck => []
theorem srcs_congr : ∀ {l : List Src}, (∀ s ∈ l, ρ.src s = ρ'.src s) → ρ.srcs l = ρ'.srcs l
  | [], _ => rfl
  | x :: l, h => by
    simp only [Regs.srcs]
    rw [h x (by simp), srcs_congr (l := l) fun s hs => h s (by simp [hs])]
theorem parts_congr : ∀ {l : List (Nat × Nat × Src)}, (∀ s ∈ l.map (·.2.2), ρ.src s = ρ'.src s) → parts ρ l = parts ρ' l
  | [], _ => rfl
  | (o, n, x) :: l, h => by
    simp only [parts]
    rw [h x (by simp), parts_congr (l := l) fun s hs => h s (List.mem_cons_of_mem _ hs)]
theorem optS_congr {x : Option Src} (h : ∀ s ∈ optL x, ρ.src s = ρ'.src s) : optS ρ x = optS ρ' x := by
  cases x with
  | none => rfl
  | some x => simp only [optS]; rw [h x (by simp [optL])]
theorem opEval_congr {op : AOp} (h : ∀ s ∈ opSrcs op, ρ.src s = ρ'.src s) : opEval op ρ σ = opEval op ρ' σ := by
  cases op with
  | build zc ps => simp only [opEval, evBuild]; rw [parts_congr h]
  | mkrow zc n l ps => simp only [opEval, evMkrow]; rw [parts_congr h]
  | mkfunc f xs ys =>
    simp only [opEval, evMkfunc]
    rw [srcs_congr (l := xs) fun s hs => h s (by simp [opSrcs, hs]), srcs_congr (l := ys) fun s hs => h s (by simp [opSrcs, hs])]
  | slic k x lo hi mx =>
    simp only [opEval, evSlic]
    rw [h x (by simp [opSrcs]), optS_congr (x := lo) fun s hs => h s (by simp [opSrcs, hs]), optS_congr (x := hi) fun s hs => h s (by simp [opSrcs, hs]), optS_congr (x := mx) fun s hs => h s (by simp [opSrcs, hs])]
  | call f l => simp only [opEval, evCall]; rw [h f (by simp [opSrcs]), srcs_congr (l := l) fun s hs => h s (by simp [opSrcs, hs])]
  | mmin l => simp only [opEval, evMmin]; rw [srcs_congr (l := l) h]
  | mmax l => simp only [opEval, evMmax]; rw [srcs_congr (l := l) h]
  | prim _ l => simp only [opEval, evPrim]; rw [srcs_congr (l := l) h]
  | mkmap => rfl
  | stuck => rfl
  | mov x => simp only [opEval, evMov]; rw [h x (by simp [opSrcs])]
  | box x => simp only [opEval, evBox]; rw [h x (by simp [opSrcs])]
  | load _ x => simp only [opEval, evLoad]; rw [h x (by simp [opSrcs])]
  | nilchk x => simp only [opEval, evNilchk]; rw [h x (by simp [opSrcs])]
  | un _ x => simp only [opEval, evUn]; rw [h x (by simp [opSrcs])]
  | toInt _ x => simp only [opEval, evToInt]; rw [h x (by simp [opSrcs])]
  | toStr x => simp only [opEval, evToStr]; rw [h x (by simp [opSrcs])]
  | toBytes x => simp only [opEval, evToBytes]; rw [h x (by simp [opSrcs])]
  | same x => simp only [opEval, evSame]; rw [h x (by simp [opSrcs])]
  | mkiface _ x => simp only [opEval, evMkiface]; rw [h x (by simp [opSrcs])]
  | faddr _ x => simp only [opEval, evFaddr]; rw [h x (by simp [opSrcs])]
  | fld _ _ x => simp only [opEval, evFld]; rw [h x (by simp [opSrcs])]
  | range _ x => simp only [opEval, evRange]; rw [h x (by simp [opSrcs])]
  | next _ x => simp only [opEval, evNext]; rw [h x (by simp [opSrcs])]
  | entry x => simp only [opEval, evEntry]; rw [h x (by simp [opSrcs])]
  | extract x _ => simp only [opEval, evExtract]; rw [h x (by simp [opSrcs])]
  | lenS _ x => simp only [opEval, evLenS]; rw [h x (by simp [opSrcs])]
  | lenM x => simp only [opEval, evLenM]; rw [h x (by simp [opSrcs])]
  | capS x => simp only [opEval, evCapS]; rw [h x (by simp [opSrcs])]
  | clearS _ _ x => simp only [opEval, evClearS]; rw [h x (by simp [opSrcs])]
  | clearM x => simp only [opEval, evClearM]; rw [h x (by simp [opSrcs])]
  | store _ x y => simp only [opEval, evStore]; rw [h x (by simp [opSrcs]), h y (by simp [opSrcs])]
  | bin _ x y => simp only [opEval, evBin]; rw [h x (by simp [opSrcs]), h y (by simp [opSrcs])]
  | eql _ _ x y => simp only [opEval, evEql]; rw [h x (by simp [opSrcs]), h y (by simp [opSrcs])]
  | mkslice _ _ _ x y => simp only [opEval, evMkslice]; rw [h x (by simp [opSrcs]), h y (by simp [opSrcs])]
  | iaddr _ _ x y => simp only [opEval, evIaddr]; rw [h x (by simp [opSrcs]), h y (by simp [opSrcs])]
  | idxS x y => simp only [opEval, evIdxS]; rw [h x (by simp [opSrcs]), h y (by simp [opSrcs])]
  | idxA _ _ _ x y => simp only [opEval, evIdxA]; rw [h x (by simp [opSrcs]), h y (by simp [opSrcs])]
  | lookup _ _ _ x y => simp only [opEval, evLookup]; rw [h x (by simp [opSrcs]), h y (by simp [opSrcs])]
  | append _ _ _ x y => simp only [opEval, evAppend]; rw [h x (by simp [opSrcs]), h y (by simp [opSrcs])]
  | appendN _ _ _ x y => simp only [opEval, evAppendN]; rw [h x (by simp [opSrcs]), h y (by simp [opSrcs])]
  | copy _ x y => simp only [opEval, evCopy]; rw [h x (by simp [opSrcs]), h y (by simp [opSrcs])]
  | delete _ x y => simp only [opEval, evDelete]; rw [h x (by simp [opSrcs]), h y (by simp [opSrcs])]
  | pick x y z => simp only [opEval, evPick]; rw [h x (by simp [opSrcs]), h y (by simp [opSrcs]), h z (by simp [opSrcs])]
  | mapup _ x y z => simp only [opEval, evMapup]; rw [h x (by simp [opSrcs]), h y (by simp [opSrcs]), h z (by simp [opSrcs])]

/-- 0: does not look at the store; 1: looks, and leaves it as it is; 2: changes it. -/
def kind : AOp → Nat
  | .mov _ | .pick _ _ _ | .build _ _ | .nilchk _ | .bin _ _ _ | .eql _ _ _ _ | .un _ _ | .toInt _ _ | .same _ | .mkiface _ _ | .mkfunc _ _ _ | .faddr _ _ | .fld _ _ _ | .iaddr _ _ _ _
  | .idxS _ _ | .idxA _ _ _ _ _ | .extract _ _ | .lenS _ _ | .capS _ | .mmin _ | .mmax _ | .prim _ _ | .stuck => 0
  | .load _ _ | .toStr _ | .slic _ _ _ _ _ | .lookup _ _ _ _ _ | .entry _ | .lenM _ => 1
  | _ => 2
theorem pure_op {op : AOp} {r : ORes} (hk : kind op = 0) (h : opEval op ρ σ = some r) : ∃ v, r = .v v σ ∧ ∀ σ2, opEval op ρ σ2 = some (.v v σ2) := by
  cases op <;> (try (simp [kind] at hk; done)) <;> clear hk <;>
    simp only [opEval, evMov, evPick, evBuild, evNilchk, evBin, evEql, evUn, evToInt, evSame, evMkiface, evMkfunc, evFaddr, evFld, evIaddr, evIdxS, evIdxA, evExtract, evLenS, evCapS, evMmin, evMmax, evPrim, evStuck] at h ⊢ <;>
    (repeat' (split at h)) <;> simp only [Option.some.injEq, reduceCtorEq] at h <;> subst h <;> exact ⟨_, rfl, fun σ2 => by simp_all⟩
theorem read_op {op : AOp} {r : ORes} (hk : kind op = 1) (h : opEval op ρ σ = some r) : ∃ v, r = .v v σ := by
  cases op <;> (try (simp [kind] at hk; done)) <;> clear hk <;>
    simp only [opEval, evLoad, evToStr, evSlic, evLookup, evEntry, evLenM] at h ⊢ <;>
    (repeat' (split at h)) <;> simp only [Option.some.injEq, reduceCtorEq] at h <;> subst h <;> exact ⟨_, rfl⟩
end Am
/- The model's code and the abstract machine's: the relation, and what is said of a run. One operation; the ways in and out of a function. -/
namespace Am
open Go

/-! ### The relation -/
def GuardRel (ops : Array Oper) : Option (Nat × Bool) → Option (Nat × Bool) → Prop
  | none, none => True
  | some (j, v), some (t, u) => v = u ∧ (ops[j]?).bind (·.dst) = some t
  | _, _ => False
structure OperRel (P : Program) (ops : Array Oper) (o : Oper) (ao : AOper) : Prop where
  dst : ao.dst = o.dst
  op : ao.op = .stuck ∨ trOp P o.op = some ao.op
  guard : GuardRel ops o.guard ao.guard
structure OpsRel (P : Program) (ops : Array Oper) (aops : List AOper) : Prop where
  size : aops.length = ops.size
  one : ∀ (i : Nat) o ao, ops[i]? = some o → aops[i]? = some ao → OperRel P ops o ao

/-- Which operations stand before which: the bits of a mask. -/
def bef (B : List Nat) (i j : Nat) : Bool := (B.getD j 0).testBit i
def reads (o : AOper) : List Nat := (opSrcs o.op).filterMap (fun | .t n => some n | .c _ => none) ++ (match o.guard with | some (t, _) => [t] | none => [])
def changer (o : AOper) : Bool := !Nat.ble (kind o.op) 1
def lateOp : Op → Bool
  | .box _ _ | .alloc _ | .buildSlice _ _ _ => true
  | _ => false
/-- What a region in whatever order is asked for. 'L' is an allocation that may come up ahead of changers that stand before it; nobody looks at what it makes ahead of those. -/
structure DrawnOk (ops : Array Oper) (aops : List AOper) (B : List Nat) (L : Nat) (floats : List (Nat × Nat × Nat)) : Prop where
  /-- the masks say no more than the edges -/
  mask : ∀ (j : Nat) o, ops[j]? = some o → ∀ i, bef B i j = true → ∃ e ∈ o.after, Region.binds .any e = true ∧ (e.on = i ∨ bef B i e.on = true)
  back : ∀ (j : Nat) o, ops[j]? = some o → ∀ e ∈ o.after, Region.binds .any e = true → e.on < j
  names : ∀ (i j : Nat) a b, i < j → aops[i]? = some a → aops[j]? = some b → (∀ d, a.dst = some d → (b.dst = some d ∨ d ∈ reads b) → bef B i j = true) ∧ (∀ d, b.dst = some d → d ∈ reads a → bef B i j = true)
  chain : ∀ (i j : Nat) a b, i < j → aops[i]? = some a → aops[j]? = some b → changer a = true → changer b = true →
    bef B i j = true ∨ (j = L ∧ ∀ (k : Nat) c d, aops[k]? = some c → k ≠ L → b.dst = some d → (c.dst = some d ∨ d ∈ reads c) → bef B i k = true)
  late : ∀ o a, ops[L]? = some o → aops[L]? = some a → lateOp o.op = true ∧ a.guard = none ∧ changer a = true
  float : ∀ (x c : Nat) a b, aops[x]? = some a → aops[c]? = some b → kind a.op = 1 → changer b = true →
    (c < x → bef B c x = true ∨ ∃ lo hi, (x, lo, hi) ∈ floats ∧ lo ≤ c ∧ x ≤ hi) ∧ (x < c → bef B x c = true ∨ (∃ (f : Nat) (b' : AOper), aops[f]? = some b' ∧ changer b' = true ∧ f < c ∧ bef B x f = true) ∨ ∃ lo hi, (x, lo, hi) ∈ floats ∧ lo ≤ x ∧ c < hi)

inductive CRel (P : Program) : Code → ACode → Prop
  | stuck (c) : CRel P c .stuck
  | skip : CRel P .skip .skip
  | region {id ops aops outs} (h : OpsRel P ops aops) : CRel P (.region id ops false) (.region aops outs)
  | drawn {id ops aops B L floats outs} (h : OpsRel P ops aops) (h' : DrawnOk ops aops B L floats) : CRel P (.region id ops true) (.drawn aops floats outs)
  | seq {a b a' b'} (h1 : CRel P a a') (h2 : CRel P b b') : CRel P (.seq a b) (.seq a' b')
  | cond {c x y c' x' y'} (hc : trS c = some c') (h1 : CRel P x x') (h2 : CRel P y y') : CRel P (.cond c x y) (.cond c' x' y')
  | block {id c c'} (h : CRel P c c') : CRel P (.block id c) (.block id c')
  | loop {c c'} (h : CRel P c c') : CRel P (.loop c) (.loop c')
  | rangeFunc {f ps as body f' as' body'} (hf : trS f = some f') (h1 : CRel P as as') (h2 : CRel P body body') : CRel P (.rangeFunc f ps as body) (.rangeFunc f' ps.toList as' body')
  | exit {id} : CRel P (.exit id) (.exit id)
  | label {l} : CRel P (.label l) (.label l)
  | goto {l} : CRel P (.goto l) (.goto l)
  | ret : CRel P .ret .ret
  | scope {c c'} (h : CRel P c c') : CRel P (.scope c) (.scope c' c')

/-! ### What is said of a run -/
def Wide (ro : Option Nat) : Fence := { Fence.wide with round := ro }
theorem wide_none : Wide none = Fence.wide := rfl
def InR (ro : Option Nat) (w : World) : Prop := ∀ l, ro = some l → ∃ lp : Loop, w.heap[l]? = some (Obj.loop lp)
def mkD (r : Nat) : Deferred := { target := .collected r, args := #[] }
/-- The marks that a piece of code leaves among the deferred calls. -/
def Mks (M' : Mu) (w w' : World) (ds ds' : List Deferred) : Prop :=
  ∃ rs : List Nat, ds' = rs.map mkD ++ ds ∧ rs.Nodup ∧ ∀ r ∈ rs, w.heap.size ≤ r ∧ r < w'.heap.size ∧ w'.heap[r]? = some (Obj.deferred (some [])) ∧ ∀ b n, M'.at_ b ≠ some (r, n)
def Post (P : Program) (H : Hc) (M : Mu) (w : World) (ds : List Deferred) (e : AExit) (ρ' : Regs) (σ' : St) : Exit → Act → World → Prop :=
  fun ex a' w' => ex = exitOf e ∧ ∃ M', RRel H M' ρ' a'.tmps ∧ WRel (CRel P) H M' σ' w' ∧ Keeps M M' w w' ∧ Mks M' w w' ds a'.defers
/-- A loop's run, from the start of a round on. -/
def loopWp (F : Fence) (n : Nat) (P : Program) (c : Code) (Q : Exit → Act → World → Prop) (a : Act) (w : World) : Prop :=
  ∀ (b : Frame) (k : List Item) (cs : List Frame), b.roundOf = F.round → F.fn b.fn → F.room (cs.length + 1 + n) →
    ∃ e a' w', Q e a' w' ∧ ArrivesIn (Machine.fenced P F) P (lone (b.atR a (.code c :: .inLoop c :: k)) cs w) b k cs e a' w'
theorem loopWp.wp {F : Fence} {n : Nat} {P : Program} {c : Code} {Q : Exit → Act → World → Prop} {a : Act} {w : World} (h : loopWp F n P c Q a w) : (Code.loop c).wpIn F n P Q a w :=
  fun b k cs hro hb hr => let ⟨e, a', w', q, r⟩ := h b k cs hro hb hr; ⟨e, a', w', q, .of_steps (.one (fenced_calm hb hr rfl) stepR_loop) r⟩
theorem loopWp_round {F : Fence} {n : Nat} {P : Program} {c : Code} {Q : Exit → Act → World → Prop} {a : Act} {w : World} (h : c.wpIn F n P (Exit.then (loopWp F n P c Q) Q) a w) : loopWp F n P c Q a w := by
  intro b k cs hro hb hr
  obtain ⟨e, a₁, w₁, hq, harr⟩ := h b (.inLoop c :: k) cs hro hb hr
  cases e with
  | normal =>
    obtain ⟨e₂, a₂, w₂, hq₂, harr₂⟩ := hq b k cs hro hb hr
    exact ⟨e₂, a₂, w₂, hq₂, .of_steps (StepsIn.trans harr (.one (fenced_calm hb hr rfl) stepR_inLoop)) harr₂⟩
  | exit id => exact ⟨_, a₁, w₁, hq, .pass (x := .inLoop c) rfl (fun _ _ => .inl (by simp)) harr⟩
  | goto l => exact ⟨_, a₁, w₁, hq, .pass (x := .inLoop c) rfl (fun _ _ => .inl (by simp)) harr⟩
  | ret => exact ⟨_, a₁, w₁, hq, .pass (x := .inLoop c) rfl (fun _ _ => .inl (by simp)) harr⟩
  | panic ch => exact ⟨_, a₁, w₁, hq, .pass (x := .inLoop c) rfl (fun _ _ => .inl (by simp)) harr⟩
  | outgrown => exact ⟨_, a₁, w₁, hq, .pass (x := .inLoop c) rfl (fun _ _ => .inl (by simp)) harr⟩
def Runs (F : Fence) (n : Nat) (P : Program) (c : Code) (Q : Exit → Act → World → Prop) (a : Act) (w : World) : Prop :=
  match c with
  | .loop c => loopWp F n P c Q a w
  | c => c.wpIn F n P Q a w
theorem Runs.wp {F : Fence} {n : Nat} {P : Program} {c : Code} {Q : Exit → Act → World → Prop} {a : Act} {w : World} (h : Runs F n P c Q a w) : c.wpIn F n P Q a w := by
  cases c <;> first | exact h | exact loopWp.wp h
/-- A jump's scope, from somewhere in it on. -/
def scopeWp (F : Fence) (n : Nat) (P : Program) (whole c : Code) (Q : Exit → Act → World → Prop) (a : Act) (w : World) : Prop :=
  ∀ (b : Frame) (k : List Item) (cs : List Frame), b.roundOf = F.round → F.fn b.fn → F.room (cs.length + 1 + n) →
    ∃ e a' w', Q e a' w' ∧ ArrivesIn (Machine.fenced P F) P (lone (b.atR a (.code c :: .inScope whole :: k)) cs w) b k cs e a' w'
theorem stepR_scope {P : Program} {b : Frame} {a : Act} {k : List Item} {cs : List Frame} {w : World} {c : Code} : step P (lone (b.atR a (.code (.scope c) :: k)) cs w) = .next (lone (b.atR a (.code c :: .inScope c :: k)) cs w) :=
  step_lone_go (by simp [stepG, stepG.exec, Frame.atR])
theorem stepR_inScope {P : Program} {b : Frame} {a : Act} {k : List Item} {cs : List Frame} {w : World} {c : Code} : step P (lone (b.atR a (.inScope c :: k)) cs w) = .next (lone (b.atR a k) cs w) :=
  step_lone_go (by simp [stepG, stepG.exec, Frame.atR])
theorem scopeWp.wp {F : Fence} {n : Nat} {P : Program} {c : Code} {Q : Exit → Act → World → Prop} {a : Act} {w : World} (h : scopeWp F n P c c Q a w) : (Code.scope c).wpIn F n P Q a w :=
  fun b k cs hro hb hr => let ⟨e, a', w', q, r⟩ := h b k cs hro hb hr; ⟨e, a', w', q, .of_steps (.one (fenced_calm hb hr rfl) stepR_scope) r⟩
/-- What a piece's end asks of the scope around it. -/
def inScopePost (F : Fence) (n : Nat) (P : Program) (whole : Code) (Q : Exit → Act → World → Prop) : Exit → Act → World → Prop
  | .goto l, a, w => ∃ rest, Go.findLabel whole l = some rest ∧ scopeWp F n P whole rest Q a w
  | e, a, w => Q e a w
theorem scopeWp_of {F : Fence} {n : Nat} {P : Program} {whole c : Code} {Q : Exit → Act → World → Prop} {a : Act} {w : World} (h : c.wpIn F n P (inScopePost F n P whole Q) a w) : scopeWp F n P whole c Q a w := by
  intro b k cs hro hb hr
  obtain ⟨e, a₁, w₁, hq, harr⟩ := h b (.inScope whole :: k) cs hro hb hr
  cases e with
  | normal => exact ⟨.normal, a₁, w₁, hq, StepsIn.trans harr (.one (fenced_calm hb hr rfl) stepR_inScope)⟩
  | exit id =>
    have hx : exitTo id (.inScope whole :: k) = exitTo id k := by simp [exitTo]
    exact ⟨.exit id, a₁, w₁, hq, fun k' hk => harr.1 k' (by rw [hx]; exact hk), fun hr' hk => harr.2 hr' (by rw [hx]; exact hk)⟩
  | goto l =>
    obtain ⟨rest, hf, hs⟩ := hq
    obtain ⟨e₂, a₂, w₂, hq₂, harr₂⟩ := hs b k cs hro hb hr
    exact ⟨e₂, a₂, w₂, hq₂, .of_steps (harr.1 _ (by simp [gotoIn, hf])) harr₂⟩
  | ret => exact ⟨_, a₁, w₁, hq, harr⟩
  | panic ch => exact ⟨_, a₁, w₁, hq, harr⟩
  | outgrown => exact ⟨_, a₁, w₁, hq, harr⟩
def CodeOk (P : Program) (H : Hc) (ac : ACode) (ρ : Regs) (σ : St) (e : AExit) (ρ' : Regs) (σ' : St) : Prop :=
  (∀ c, CRel P c ac → ∀ ro n M a w, RRel H M ρ a.tmps → WRel (CRel P) H M σ w → InR ro w → Runs (Wide ro) n P c (Post P H M w a.defers e ρ' σ') a w) ∧
  (∀ whole c whole' c', ac = .scope whole' c' → CRel P whole whole' → CRel P c c' → ∀ ro n M a w, RRel H M ρ a.tmps → WRel (CRel P) H M σ w → InR ro w →
    scopeWp (Wide ro) n P whole c (Post P H M w a.defers e ρ' σ') a w)
def Back (P : Program) (H : Hc) (M : Mu) (w : World) (v : PV) (σ' : St) : Ending → World → Prop
  | .returned cv, w' => ∃ M', WRel (CRel P) H M' σ' w' ∧ Keeps M M' w w' ∧ VRel H M' v cv
  | _, _ => False
/-- What is said of a call. -/
def CallOk (P : Program) (H : Hc) (f : Nat) (args : List PV) (σ : St) (v : PV) (σ' : St) : Prop :=
  ∀ M w vs, VRels H M args vs → WRel (CRel P) H M σ w →
    (callFunc f vs.toArray).run P w = .ok (.enter f vs.toArray) w ∧ Calls P f vs.toArray w (Back P H M w v σ')
def RoundOk (P : Program) (H : Hc) (b : Nat) (args : List PV) (σ : St) (v : PV) (σ' : St) : Prop :=
  ∀ M w r vs, VRels H M args vs → WRel (CRel P) H M σ w → b < M.N → (∀ c n, M.at_ b = some (c, n) → r = c) → ∀ ro n, InR ro w →
    ∃ l f tmps assign body, (Instr.yield r vs.toArray).run P w = .ok (.round l f tmps assign body) w ∧ RoundIn (Wide ro) n P l f tmps assign body w (Back P H M w v σ')
/-- What a deeper evaluator must answer for. -/
def IhOk (P : Program) (H : Hc) (ih : ACode → Regs → St → R) : Prop := ∀ ac ρ σ e ρ' σ', ih ac ρ σ = some (e, ρ', σ') → CodeOk P H ac ρ σ e ρ' σ'

variable {H : Hc} {M M' : Mu} {σ σ' : St} {w w' : World} {P : Program} {ρ ρ' : Regs} {a : Act} {E : Env} {ih : ACode → Regs → St → R}

theorem InR.keeps {ro : Option Nat} (h : InR ro w) (hk : Keeps M M' w w') : InR ro w' := fun l hl => let ⟨lp, h1⟩ := h l hl; hk.loops l lp h1
theorem Mks.refl (M' : Mu) (w w' : World) (ds : List Deferred) : Mks M' w w' ds ds := ⟨[], rfl, .nil, by simp⟩
theorem Mks.trans {A B C : Mu} {u v x : World} {d1 d2 d3 : List Deferred} (hk : Keeps A B u v) (hk2 : Keeps B C v x) (h1 : Mks B u v d1 d2) (h2 : Mks C v x d2 d3) : Mks C u x d1 d3 := by
  obtain ⟨r1, e1, n1, p1⟩ := h1
  obtain ⟨r2, e2, n2, p2⟩ := h2
  refine ⟨r2 ++ r1, by rw [e2, e1]; simp, ?_, ?_⟩
  · rw [List.nodup_append]
    refine ⟨n2, n1, fun x hx y hy => ?_⟩
    have := (p2 x hx).1
    have := (p1 y hy).2.1
    omega
  · intro r hr
    rcases List.mem_append.1 hr with h | h
    · obtain ⟨q1, q2, q3, q4⟩ := p2 r h
      exact ⟨Nat.le_trans hk.size q1, q2, q3, q4⟩
    · obtain ⟨q1, q2, q3, q4⟩ := p1 r h
      refine ⟨q1, Nat.lt_of_lt_of_le q2 hk2.size, by rw [hk2.frame r q2 q4]; exact q3, fun b n hb => ?_⟩
      rcases hk2.fresh b r n hb with h3 | ⟨b', n', h3⟩
      · omega
      · exact q4 b' n' h3

theorem findLabel_sound {l : Nat} : ∀ (c : Code) (c' : ACode) (r : Option ACode), CRel P c c' → Am.findLabel c' l = some r →
    match r with
    | none => Go.findLabel c l = none
    | some r' => ∃ rest, Go.findLabel c l = some rest ∧ CRel P rest r' := by
  intro c c' r h
  induction h generalizing r with
  | seq h1 h2 ih1 ih2 =>
    intro hf
    simp only [Am.findLabel] at hf
    split at hf
    · rename_i rest hr
      simp only [Option.some.injEq] at hf; subst hf
      obtain ⟨rest', g1, g2⟩ := ih1 _ hr
      exact ⟨_, by simp [Go.findLabel, g1], .seq g2 h2⟩
    · rename_i hr
      have g1 := ih1 _ hr
      have g2 := ih2 _ hf
      simp only at g1
      cases r with
      | none => simp only at g2 ⊢; simp [Go.findLabel, g1, g2]
      | some r' => simp only at g2 ⊢; simpa [Go.findLabel, g1] using g2
    · simp at hf
  | label =>
    rename_i l'
    intro hf
    simp only [Am.findLabel] at hf
    by_cases e : l' = l
    · subst e
      simp at hf; subst hf
      exact ⟨.skip, by simp [Go.findLabel], .skip⟩
    · have : Nat.beq l' l = false := by rw [Bool.eq_false_iff]; intro e'; exact e (Nat.eq_of_beq_eq_true e')
      simp only [this, Option.some.injEq] at hf; subst hf
      simp [Go.findLabel, e]
  | stuck => intro hf; simp [Am.findLabel] at hf
  | _ => intro hf; simp only [Am.findLabel, Option.some.injEq] at hf; subst hf; simp [Go.findLabel]
/-! ### One operation -/
def operOut (E : Env) (ih : ACode → Regs → St → R) (ρ : Regs) (σ : St) (o : AOper) : Option (PV × St) :=
  match wantedV ρ o.guard with
  | some true => match opEval o.op ρ σ with
    | some (.v v σ') => some (v, σ')
    | some (.call f args σ') => callF E ih f args σ'
    | some (.round b args σ') => roundF ih b args σ'
    | none => none
  | some false => some (.tup [], σ)
  | none => none
theorem operEval_out {o : AOper} {ρ1 : Regs} {σ1 : St} (h : operEval E ih ρ σ o = some (ρ1, σ1)) : ∃ v, operOut E ih ρ σ o = some (v, σ1) ∧ ρ.put o.dst v = some ρ1 := by
  unfold operEval at h
  unfold operOut
  split at h
  · rename_i hg; simp only [hg]
    split at h
    · rename_i v σ2 ho; simp only [ho]
      split at h
      · rename_i hp; simp only [Option.some.injEq, Prod.mk.injEq] at h; obtain ⟨rfl, rfl⟩ := h; exact ⟨v, rfl, hp⟩
      · simp at h
    · rename_i ho; simp only [ho]
      split at h
      · rename_i hc; simp only [hc]
        split at h
        · rename_i hp; simp only [Option.some.injEq, Prod.mk.injEq] at h; obtain ⟨rfl, rfl⟩ := h; exact ⟨_, rfl, hp⟩
        · simp at h
      · simp at h
    · rename_i ho; simp only [ho]
      split at h
      · rename_i hc; simp only [hc]
        split at h
        · rename_i hp; simp only [Option.some.injEq, Prod.mk.injEq] at h; obtain ⟨rfl, rfl⟩ := h; exact ⟨_, rfl, hp⟩
        · simp at h
      · simp at h
    · simp at h
  · rename_i hg; simp only [hg]
    split at h
    · rename_i hp; simp only [Option.some.injEq, Prod.mk.injEq] at h; obtain ⟨rfl, rfl⟩ := h; exact ⟨_, rfl, hp⟩
    · simp at h
  · simp at h
theorem boolOf {v : PV} {cv : Value} (h : VRel H M v cv) : (∀ b, v = .bool b → cv = .bool b) ∧ ((∀ b, v ≠ .bool b) → ∀ b, cv ≠ .bool b) := by
  cases v <;> simp only [VRel] at h
  case bool b => subst h; exact ⟨fun _ e => by simp_all, fun hn => absurd rfl (hn b)⟩
  all_goals refine ⟨fun _ e => by simp at e, fun _ b hb => ?_⟩
  case raw => subst hb; cases ‹Flt› <;> simp [Flt.val] at h
  all_goals (subst hb; simp at h)
theorem wanted_sound {ops : Array Oper} {o : Oper} {ao : AOper} {b : Bool} (hrel : OperRel P ops o ao) (hr : RRel H M ρ a.tmps) (h : wantedV ρ ao.guard = some b) : Region.wanted o (yielded ops a.tmps) = b := by
  have hg := hrel.guard
  unfold Region.wanted
  cases h1 : o.guard with
  | none =>
    cases h2 : ao.guard with
    | none => simp [h2, wantedV] at h; simp [h]
    | some _ => simp [h1, h2, GuardRel] at hg
  | some p =>
    obtain ⟨j, v⟩ := p
    cases h2 : ao.guard with
    | none => simp [h1, h2, GuardRel] at hg
    | some q =>
      obtain ⟨t, u⟩ := q
      simp only [h1, h2, GuardRel] at hg
      obtain ⟨rfl, hj⟩ := hg
      simp only [h2, wantedV] at h
      cases h3 : ρ.get t with
      | none => simp [h3] at h
      | some x =>
        obtain ⟨cv, h4, h5⟩ := hr.2 t x h3
        obtain ⟨b1, b2⟩ := boolOf h5
        simp only [yielded, hj, Option.bind_some, h4]
        by_cases hx : ∃ y, x = .bool y
        · obtain ⟨y, rfl⟩ := hx
          simp only [h3, Option.some.injEq] at h
          rw [b1 y rfl]
          simp [← h]
        · have hx' : ∀ y, x ≠ .bool y := fun y e => hx ⟨y, e⟩
          have hb : b = false := by
            rw [h3] at h
            cases x <;> simp_all
          have hc := b2 hx'
          subst hb
          cases cv <;> simp_all
end Am
/- One operation of the model, by the abstract machine's. -/
namespace Am
open Go
variable {H : Hc} {M M' : Mu} {σ σ' : St} {w w' : World} {P : Program} {ρ ρ' : Regs} {a : Act} {E : Env} {ih : ACode → Regs → St → R}

theorem callsIn_ro {ro : Option Nat} {n : Nat} {f : FuncId} {args : Array Value} {R : Ending → World → Prop} (h : Calls P f args w R) : CallsIn (Wide ro) n P f args w R := (callsIn_wide.2 h : CallsIn Fence.wide n P f args w R)
theorem not_defer {o : Oper} {ao : AOp} (h : trOp P o.op = some ao) : ∀ c, o.op ≠ .defer c := by
  intro c hc; rw [hc] at h; simp [trOp] at h
theorem oper_out {ops : Array Oper} {o : Oper} {ao : AOper} {v : PV} {σ1 : St} {ro : Option Nat} {n : Nat} {K : Act → World → Prop} {Q : Exit → Act → World → Prop}
    (hcall : ∀ f args σ v σ', callF E ih f args σ = some (v, σ') → CallOk P H f args σ v σ') (hround : ∀ b args σ v σ', roundF ih b args σ = some (v, σ') → RoundOk P H b args σ v σ')
    (hrel : OperRel P ops o ao) (h : operOut E ih ρ σ ao = some (v, σ1)) (hr : RRel H M ρ a.tmps) (hw : WRel (CRel P) H M σ w) (hin : InR ro w)
    (hK : ∀ cv w1 M1, VRel H M1 v cv → WRel (CRel P) H M1 σ1 w1 → Keeps M M1 w w1 → K (a.put o.dst cv) w1) :
    if Region.wanted o (yielded ops a.tmps) = true then o.wpIn (Wide ro) n P a w K Q else (∀ f, o.about P w a.eval = some f → (Wide ro).fn f) ∧ K (a.put o.dst undef) w := by
  unfold operOut at h
  split at h
  · rename_i hg
    rw [wanted_sound hrel hr hg]
    simp only [if_true]
    have hop : ∀ r, opEval ao.op ρ σ = some r → trOp P o.op = some ao.op := by
      intro r hr'
      rcases hrel.op with h1 | h1
      · rw [h1] at hr'; simp [opEval, evStuck] at hr'
      · exact h1
    refine ⟨fun f _ => trivial, ?_⟩
    split at h
    · rename_i v' σ' he
      simp only [Option.some.injEq, Prod.mk.injEq] at h; obtain ⟨rfl, rfl⟩ := h
      have ht := hop _ he
      obtain ⟨nx, w1, M1, hrun, hw1, hk, cv, hv, hn⟩ := op_sound ht hr hw he
      rw [Oper.semAt_eq _ _ _ (not_defer ht), hrun]
      rcases hn with rfl | ⟨rfl, rfl⟩
      · exact hK _ _ _ hv hw1 hk
      · exact hK _ _ _ hv hw1 hk
    · rename_i f args σ2 he
      have ht := hop _ he
      obtain ⟨vs, hrun, hvs, hw2⟩ := op_sound ht hr hw he
      obtain ⟨henter, hc⟩ := hcall _ _ _ _ _ h M w vs hvs hw2
      rw [Oper.semAt_eq _ _ _ (not_defer ht), hrun, henter]
      refine ⟨fun hd => by simp [Wide, Fence.wide] at hd, CallsIn.mono (callsIn_ro hc) fun e w1 he => ?_⟩
      cases e with
      | returned cv => obtain ⟨M1, h1, h2, h3⟩ := he; exact hK cv w1 M1 h3 h1 h2
      | panicked _ => exact he.elim
      | outgrown => exact he.elim
    · rename_i b args σ2 he
      have ht := hop _ he
      obtain ⟨r, vs, hrun, hvs, hw2, hb, hat⟩ := op_sound ht hr hw he
      obtain ⟨l, f, tmps, assign, body, hy, hc⟩ := hround _ _ _ _ _ h M w r vs hvs hw2 hb hat ro (n - 1) hin
      rw [Oper.semAt_eq _ _ _ (not_defer ht), hrun, hy]
      refine ⟨fun hd => by simp [Wide, Fence.wide] at hd, RoundIn.mono hc fun e w1 he => ?_⟩
      cases e with
      | returned cv => obtain ⟨M1, h1, h2, h3⟩ := he; exact hK cv w1 M1 h3 h1 h2
      | panicked _ => exact he.elim
      | outgrown => exact he.elim
    · simp at h
  · rename_i hg
    rw [wanted_sound hrel hr hg]
    simp only [Option.some.injEq, Prod.mk.injEq] at h; obtain ⟨rfl, rfl⟩ := h
    simp only [Bool.false_eq_true, if_false]
    exact ⟨fun f _ => trivial, hK undef w M undefS hw (Keeps.refl M w)⟩
  · simp at h
theorem oper_wpIn_mono {F : Fence} {n : Nat} {o : Oper} {a : Act} {w : World} {K K' : Act → World → Prop} {Q Q' : Exit → Act → World → Prop} (h : ∀ a w, K a w → K' a w) (hq : ∀ e a w, Q e a w → Q' e a w)
    (hh : o.wpIn F n P a w K Q) : o.wpIn F n P a w K' Q' := by
  have lets : LetsOut Q → LetsOut Q' := fun ⟨a, w, h⟩ => ⟨a, w, hq _ _ _ h⟩
  unfold Oper.wpIn at *
  refine ⟨hh.1, ?_⟩
  have hh := hh.2
  generalize (o.semAt F.round a.eval).run P w = r at *
  cases r with
  | ok x w' =>
    cases x <;> simp only [Oper.uponIn] at hh ⊢ <;>
      first
        | exact h _ _ hh
        | exact ⟨hh.1, CallsIn.mono hh.2 (fun e w'' he => by cases e <;> first | exact h _ _ he | exact hq _ _ _ he | exact lets he)⟩
        | exact ⟨hh.1, RowsIn.mono hh.2 (fun _ _ he => h _ _ he)⟩
        | exact ⟨hh.1, RoundIn.mono hh.2 (fun e w'' he => by cases e <;> first | exact h _ _ he | exact hq _ _ _ he | exact lets he)⟩
  | halt x w' => cases x <;> simp only [Oper.uponIn] at hh ⊢ <;> first | exact hq _ _ _ hh | exact hh
theorem wpOpsIn_mono {F : Fence} {n : Nat} {ops : Array Oper} {Q Q' : Exit → Act → World → Prop} (hq : ∀ e a w, Q e a w → Q' e a w) : ∀ (l : List Nat) (a : Act) (w : World), wpOpsIn F n P ops Q l a w → wpOpsIn F n P ops Q' l a w
  | [], a, w, h => hq _ _ _ h
  | i :: l, a, w, h => by
    simp only [wpOpsIn] at h ⊢
    cases ho : ops[i]? with
    | none => simp only [ho] at h ⊢; exact wpOpsIn_mono hq l a w h
    | some o =>
      simp only [ho] at h ⊢
      split
      · rename_i hw; simp only [hw, if_true] at h
        exact oper_wpIn_mono (fun a w h => wpOpsIn_mono hq l a w h) hq h
      · rename_i hw; simp only [hw, if_false] at h
        exact ⟨h.1, wpOpsIn_mono hq l _ w h.2⟩
/-- A region in the order of its text. -/
theorem ops_sound {ops : Array Oper} {aops : List AOper} {ro : Option Nat} {n : Nat} {outs : List Nat}
    (hcall : ∀ f args σ v σ', callF E ih f args σ = some (v, σ') → CallOk P H f args σ v σ') (hround : ∀ b args σ v σ', roundF ih b args σ = some (v, σ') → RoundOk P H b args σ v σ')
    (hrel : OpsRel P ops aops) {ρ' : Regs} {σ' : St} {e : AExit} : ∀ (m i : Nat) (ρ : Regs) (σ : St) (M : Mu) (a : Act) (w : World), i + m = ops.size → opsEval E ih outs (aops.drop i) ρ σ = some (e, ρ', σ') → RRel H M ρ a.tmps → WRel (CRel P) H M σ w → InR ro w →
      wpOpsIn (Wide ro) n P ops (Post P H M w a.defers e ρ' σ') (List.range' i m) a w := by
  intro m
  induction m with
  | zero =>
    intro i ρ σ M a w hi h hr hw hin
    have hd : aops.drop i = [] := List.drop_eq_nil_of_le (by have := hrel.size; omega)
    rw [hd] at h
    simp only [opsEval, opsNil] at h
    split at h
    · rename_i ρ2 hk
      simp only [Option.some.injEq, Prod.mk.injEq] at h; obtain ⟨rfl, rfl, rfl⟩ := h
      exact ⟨rfl, M, hr.keep hk, hw, Keeps.refl M w, Mks.refl _ _ _ _⟩
    · simp at h
  | succ m ihm =>
    intro i ρ σ M a w hi h hr hw hin
    have hlt : i < ops.size := by omega
    have hlt' : i < aops.length := by have := hrel.size; omega
    rw [List.drop_eq_getElem_cons hlt'] at h
    simp only [opsEval] at h
    change opsCons E ih aops[i] (opsEval E ih outs (aops.drop (i + 1))) ρ σ = _ at h
    unfold opsCons at h
    split at h
    · rename_i ρ1 σ1 ho
      obtain ⟨v, h1, h2⟩ := operEval_out ho
      have hone := hrel.one i ops[i] aops[i] (by simp [hlt]) (by simp [hlt'])
      rw [show List.range' i (m + 1) = i :: List.range' (i + 1) m from rfl, wpOpsIn_cons]
      unfold wpOpIn
      rw [show ops[i]? = some ops[i] by simp [hlt]]
      refine oper_out hcall hround hone h1 hr hw hin fun cv w1 M1 hv hw1 hk => ?_
      have hr1 : RRel H M1 ρ1 (a.put ops[i].dst cv).tmps := (hr.mono hk.le).put hv (by rw [← hone.dst]; exact h2)
      have := ihm (i + 1) ρ1 σ1 M1 (a.put ops[i].dst cv) w1 (by omega) h hr1 hw1 (hin.keeps hk)
      refine wpOpsIn_mono ?_ _ _ _ this
      rintro ex a' w' ⟨rfl, M2, q1, q2, q3, q4⟩
      rw [Act.put_defers'] at q4
      exact ⟨rfl, M2, q1, q2, hk.trans q3, Mks.trans hk q3 (Mks.refl _ _ _ _) q4⟩
    · simp at h
end Am
/- The model's code, by the abstract machine's: all forms but the region in whatever order. -/
namespace Am
open Go
variable {H : Hc} {M M' : Mu} {σ σ' : St} {w w' : World} {P : Program} {ρ ρ' : Regs} {a : Act} {E : Env} {ih : ACode → Regs → St → R}

theorem Post.trans {M1 : Mu} {w1 : World} {ds ds1 : List Deferred} {e : AExit} {ex : Exit} {a' : Act} (hk : Keeps M M1 w w1) (hm : Mks M1 w w1 ds ds1) (h : Post P H M1 w1 ds1 e ρ' σ' ex a' w') : Post P H M w ds e ρ' σ' ex a' w' := by
  obtain ⟨h1, M2, q1, q2, q3, q4⟩ := h
  exact ⟨h1, M2, q1, q2, hk.trans q3, Mks.trans hk q3 hm q4⟩
theorem notPanic {e : AExit} : (∀ ch, Exit.panic ch ≠ exitOf e) ∧ Exit.outgrown ≠ exitOf e := by
  cases e
  all_goals refine ⟨fun _ h => ?_, fun h => ?_⟩
  all_goals simp [exitOf] at h

/-! ### An object that is nobody's -/
theorem WRel.junk {CR : Code → ACode → Prop} (h : WRel CR H M σ w) (o : Obj) : WRel CR H M σ { w with heap := w.heap.push o } ∧ Keeps M M w { w with heap := w.heap.push o } := by
  have hold : ∀ c, c < w.heap.size → ({ w with heap := w.heap.push o } : World).heap[c]? = w.heap[c]? := by
    intro c hc; simp [Array.getElem?_push]; omega
  refine ⟨⟨h.next, fun b o1 hb => ?_, h.lt, fun b c n hb => ?_, h.inj, fun c off v hv => ?_, h.apart⟩, ⟨Mu.Le.refl M, by simp, fun c hc _ => hold c hc, fun b _ n h => .inr ⟨b, n, h⟩, rfl, rfl, fun c lp hl => ⟨lp, by rw [hold c (Array.getElem?_eq_some_iff.1 hl).1]; exact hl⟩⟩⟩
  · obtain ⟨c, n, h1, h2⟩ := h.obj b o1 hb
    exact ⟨c, n, h1, by rw [hold c (h.bnd _ _ _ h1)]; exact h2⟩
  · have := h.bnd b c n hb; simp; omega
  · have := h.imm c off v hv
    have hlt : c < w.heap.size := World.block_lt_of_cell? _ _ this
    simp only [World.cell?] at this ⊢
    rw [hold c hlt]; exact this
/-- What a call of a function in a range over a function is asked for. -/
theorem range_sound {f : Operand} {ps : Array Tmp} {as body : Code} {f' : Src} {as' body' : ACode} {e : AExit} {ro : Option Nat} {n : Nat}
    (hcall : ∀ f args σ v σ', callF E ih f args σ = some (v, σ') → CallOk P H f args σ v σ')
    (hf : trS f = some f') (h1 : CRel P as as') (h2 : CRel P body body') (h : cRange E ih f' ps.toList as' body' ρ σ = some (e, ρ', σ')) (hr : RRel H M ρ a.tmps) (hw : WRel (CRel P) H M σ w) (hin : InR ro w) :
    (Code.rangeFunc f ps as body).wpIn (Wide ro) n P (Post P H M w a.defers e ρ' σ') a w := by
  unfold cRange at h
  split at h
  · rename_i g first cap hs
    have hp := trS_sound hf hr hs
    simp only [VRel] at hp
    obtain ⟨fs', cs', hF, hfs, hcs⟩ := hp
    split at h
    · rename_i v σ1 hc
      refine wpIn_rangeFunc fun fn _ => ?_
      -- the world behind the entry
      have key : ∀ (wj : World) (mark : List Deferred) (dblk : Nat), WRel (CRel P) H M σ wj → Keeps M M w wj → Mks M w wj a.defers (mark ++ a.defers) →
          (Instr.enterLoop fn a.tmps ps as body ro).run P w = .ok (wj.heap.size, mark) { wj with heap := wj.heap.push (.loop { state := .ready, pending := none, fn, tmps := a.tmps, params := ps, assign := as, body, defers := dblk }) } →
          ∃ (l : Nat) (mark : List Deferred) (w₁ : World) (d : Deferred) (w₁' : World) (f' : FuncId) (args : Array Value) (w₂ : World),
            (Instr.enterLoop fn a.tmps ps as body (Wide ro).round).run P w = .ok (l, mark) w₁ ∧
            (resolve a.eval (rangeCall f l) 0).run P w₁ = .ok d w₁' ∧
            (∀ f'', Target.leads P w₁' d.target d.args = some f'' → (Wide ro).fn f'') ∧
            (invoke d.target d.args).run P w₁' = .ok (.enter f' args) w₂ ∧
            ((Wide ro).depth.isSome = true → 1 ≤ n) ∧
            CallsIn (Wide ro) (n - 1) P f' args w₂ (rangePost (Wide ro) n P l (Post P H M w a.defers e ρ' σ') { a with defers := mark ++ a.defers }) := by
        intro wj mark dblk hwj hkj hmk hent
        have hlr : LRel (CRel P) H M { state := 0, pending := none, regs := ρ, params := ps.toList, assign := as', body := body' } { state := .ready, pending := none, fn, tmps := a.tmps, params := ps, assign := as, body, defers := dblk } :=
          ⟨rfl, rfl, hr, rfl, h1, h2⟩
        obtain ⟨hw1, hk1⟩ := hwj.new (n := 0) (o := .loop { state := 0, pending := none, regs := ρ, params := ps.toList, assign := as', body := body' })
          (o' := .loop { state := .ready, pending := none, fn, tmps := a.tmps, params := ps, assign := as, body, defers := dblk }) ⟨_, rfl, hlr.mono (M.le_add _ _)⟩
        have hle := M.le_add wj.heap.size 0
        have hN : M.N = σ.next := hw.next
        have hyld : VRel H (M.add wj.heap.size 0) (.yld σ.next) (.func (.yield wj.heap.size) #[] #[]) := by
          simp only [VRel]
          refine ⟨by simp [Mu.add, hN], wj.heap.size, rfl, fun c n hc => ?_⟩
          simp only [Mu.add, hN, if_true, Option.some.injEq, Prod.mk.injEq] at hc
          exact hc.1
        have hvs : VRels H (M.add wj.heap.size 0) (first ++ [.yld σ.next] ++ cap) (fs' ++ [.func (.yield wj.heap.size) #[] #[]] ++ cs') :=
          ((hfs.mono hle).append (VRels.cons_iff.2 ⟨hyld, VRels.nil_iff.2 rfl⟩)).append (hcs.mono hle)
        obtain ⟨henter, hcalls⟩ := hcall _ _ _ _ _ hc _ _ _ hvs hw1
        refine ⟨wj.heap.size, mark, _, { target := .fn (.func g) cs'.toArray, args := fs'.toArray ++ #[Value.func (.yield wj.heap.size) #[] #[]] }, { wj with heap := wj.heap.push (.loop { state := .ready, pending := none, fn, tmps := a.tmps, params := ps, assign := as, body, defers := dblk }) }, g, (fs' ++ [Value.func (.yield wj.heap.size) #[] #[]] ++ cs').toArray, { wj with heap := wj.heap.push (.loop { state := .ready, pending := none, fn, tmps := a.tmps, params := ps, assign := as, body, defers := dblk }) }, hent, ?_, fun _ _ => trivial, ?_, fun hd => by simp [Wide, Fence.wide] at hd, ?_⟩
        · simp only [resolve, rangeCall, hF, Deferred.ofValue, Sem.run_pure]
          simp [Act.eval]
        · rw [← henter]
          simp only [invoke]
          congr 1
          simp
        · refine CallsIn.mono (callsIn_ro hcalls) fun en w3 hb => ?_
          cases en with
          | panicked _ => exact hb.elim
          | outgrown => exact hb.elim
          | returned cv =>
            obtain ⟨M3, hw3, hk3, -⟩ := hb
            simp only [rangePost]
            split at h
            · rename_i l hl
              obtain ⟨c, n', hM, l', hobj, hlr'⟩ := hw3.obj _ _ hl
              have hc' : c = wj.heap.size := by
                have := hk3.le.at_ σ.next (by simp [Mu.add, hN]) _ hM
                simp only [Mu.add, hN, if_true, Option.some.injEq, Prod.mk.injEq] at this
                exact this.1.symm
              subst hc'
              have hkAll := hkj.trans (hk1.trans hk3)
              have fin : ∀ e', l.pending.getD .normal = e' → (match l.state with | 1 => none | _ => some (e', ρ, σ1.set σ.next (.loop { l with state := 3 }))) = some (e, ρ', σ') →
                  ∃ jump w₄, (Instr.endLoop wj.heap.size).run P w3 = .ok jump w₄ ∧
                  (match jump with
                   | none => Post P H M w a.defers e ρ' σ' .normal { a with defers := mark ++ a.defers } w₄
                   | some c => c.wpIn (Wide ro) n P (Post P H M w a.defers e ρ' σ') { a with defers := mark ++ a.defers } w₄) := by
                intro e' he' hres
                have hst : l.state ≠ 1 ∧ e' = e ∧ ρ = ρ' ∧ σ1.set σ.next (.loop { l with state := 3 }) = σ' := by
                  split at hres
                  · simp at hres
                  · rename_i hne; simp only [Option.some.injEq, Prod.mk.injEq] at hres; exact ⟨fun h => hne h, hres⟩
                obtain ⟨hne, rfl, rfl, rfl⟩ := hst
                obtain ⟨hw4, hk4⟩ := hw3.set (o := .loop { l with state := 3 }) (o' := .loop { l' with state := .exhausted }) hM ⟨_, rfl, ⟨rfl, hlr'.pending, hlr'.regs, hlr'.params, hlr'.assign, hlr'.body⟩⟩ (fun lp _ => ⟨_, rfl⟩)
                have hbusy : (l'.state == LoopState.busy) = false := by
                  have := hlr'.state
                  cases hs' : l'.state <;> simp_all [stateNo]
                have hpost : ∀ ex, ex = exitOf e' → Post P H M w a.defers e' ρ (σ1.set σ.next (.loop { l with state := 3 })) ex { a with defers := mark ++ a.defers } (put w3 wj.heap.size (.loop { l' with state := .exhausted })) := by
                  intro ex hex
                  have hk := hkAll.trans hk4
                  refine ⟨hex, M3, hr.mono hk.le, hw4, hk, ?_⟩
                  exact Mks.trans hkj (hk1.trans (hk3.trans hk4)) hmk (Mks.refl _ _ _ _)
                refine ⟨l'.pending, put w3 wj.heap.size (.loop { l' with state := .exhausted }), ?_, ?_⟩
                · simp only [Instr.endLoop, Instr.getLoop, Sem.run_bind, getObj_run hobj (by simp), Result.andThen_ok, Sem.run_pure, hbusy, Bool.false_eq_true, if_false, setObj_run hobj (by simp)]
                · clear hw4 hk4
                  generalize put w3 wj.heap.size (.loop { l' with state := .exhausted }) = W4 at hpost ⊢
                  generalize σ1.set σ.next (.loop { l with state := 3 }) = S4 at hpost ⊢
                  rw [hlr'.pending]
                  cases hpd : l.pending with
                  | none => simp only [Option.map_none]; rw [hpd] at he'; simp only [Option.getD_none] at he'; subst he'; exact hpost _ rfl
                  | some e2 =>
                    simp only [Option.map_some]
                    rw [hpd] at he'; simp only [Option.getD_some] at he'; subst he'
                    cases e2 with
                    | normal => exact wpIn_skip (hpost _ rfl)
                    | exit id => exact wpIn_exit (hpost _ rfl)
                    | goto l => exact wpIn_goto (hpost _ rfl)
                    | ret => exact wpIn_ret (hpost _ rfl)
              refine fin (l.pending.getD .normal) rfl ?_
              rw [← h]
              split <;> rename_i hst <;> simp only [hst]
              cases l.pending <;> rfl
            · simp at h
      cases ro with
      | none =>
        obtain ⟨hwj, hkj⟩ := hw.junk (.deferred (some []))
        refine key { w with heap := w.heap.push (.deferred (some [])) } [mkD w.heap.size] w.heap.size hwj hkj ?_ ?_
        · refine ⟨[w.heap.size], rfl, by simp, ?_⟩
          intro r hr'
          simp only [List.mem_singleton] at hr'; subst hr'
          refine ⟨Nat.le_refl _, by simp, by simp, fun b n hb => ?_⟩
          have := hw.bnd b _ n hb; omega
        · simp only [Instr.enterLoop, Sem.run_bind, run_newObj, Result.andThen_ok, Sem.run_pure, mkD]
      | some l0 =>
        obtain ⟨lp, hlp⟩ := hin l0 rfl
        refine key w [] lp.defers hw (Keeps.refl M w) (Mks.refl _ _ _ _) ?_
        simp only [Instr.enterLoop, Instr.getLoop, Sem.run_bind, getObj_run hlp (by simp), run_newObj, Result.andThen_ok, Sem.run_pure]
    · simp at h
  · simp at h
/-- All forms of code. -/
theorem code_sound (hcall : ∀ f args σ v σ', callF E ih f args σ = some (v, σ') → CallOk P H f args σ v σ') (hround : ∀ b args σ v σ', roundF ih b args σ = some (v, σ') → RoundOk P H b args σ v σ')
    (hih : IhOk P H ih)
    (hdrawn : ∀ id ops aops B L floats outs ρ σ e ρ' σ', OpsRel P ops aops → DrawnOk ops aops B L floats → drawnEval E ih aops floats outs ρ σ = some (e, ρ', σ') → ∀ ro n M a w, RRel H M ρ a.tmps → WRel (CRel P) H M σ w → InR ro w →
      (Code.region id ops true).wpIn (Wide ro) n P (Post P H M w a.defers e ρ' σ') a w) :
    ∀ (ac : ACode) (ρ : Regs) (σ : St) (e : AExit) (ρ' : Regs) (σ' : St), evalCode E ih ac ρ σ = some (e, ρ', σ') → CodeOk P H ac ρ σ e ρ' σ' := by
  intro ac
  have no2 : ∀ {ac : ACode} {ρ : Regs} {σ : St} {e : AExit} {ρ' : Regs} {σ' : St}, (∀ x y, ac ≠ .scope x y) → (∀ c, CRel P c ac → ∀ ro n M a w, RRel H M ρ a.tmps → WRel (CRel P) H M σ w → InR ro w → Runs (Wide ro) n P c (Post P H M w a.defers e ρ' σ') a w) → CodeOk P H ac ρ σ e ρ' σ' :=
    fun h h1 => ⟨h1, fun _ _ _ _ he => absurd he (h _ _)⟩
  induction ac with
  | skip =>
    intro ρ σ e ρ' σ' h
    refine no2 (by simp) fun c hc ro n M a w hr hw hin => ?_
    cases hc
    change cSkip ρ σ = _ at h
    simp only [cSkip, Option.some.injEq, Prod.mk.injEq] at h; obtain ⟨rfl, rfl, rfl⟩ := h
    exact wpIn_skip ⟨rfl, M, hr, hw, Keeps.refl M w, Mks.refl _ _ _ _⟩
  | region aops outs =>
    intro ρ σ e ρ' σ' h
    refine no2 (by simp) fun c hc ro n M a w hr hw hin => ?_
    cases hc with
    | region hrel =>
      refine wpIn_region ?_
      rw [List.range_eq_range']
      exact ops_sound hcall hround hrel _ 0 ρ σ M a w (by simp) h hr hw hin
  | drawn aops floats outs =>
    intro ρ σ e ρ' σ' h
    refine no2 (by simp) fun c hc ro n M a w hr hw hin => ?_
    cases hc with
    | drawn hrel hd => exact hdrawn _ _ _ _ _ _ _ _ _ _ _ _ hrel hd h ro n M a w hr hw hin
  | seq x y ihx ihy =>
    intro ρ σ e ρ' σ' h
    refine no2 (by simp) fun c hc ro n M a w hr hw hin => ?_
    cases hc with
    | seq h1 h2 =>
      change cSeq (evalCode E ih x) (evalCode E ih y) ρ σ = _ at h
      unfold cSeq at h
      split at h
      · rename_i e1 ρ1 σ1 hx
        have hx' := ((ihx _ _ _ _ _ hx).1 _ h1 ro n M a w hr hw hin).wp
        refine wpIn_seq (wpIn_mono hx' ?_)
        rintro ex a1 w1 hp
        have hp' := hp
        obtain ⟨rfl, M1, q1, q2, q3, q4⟩ := hp
        cases e1 with
        | normal =>
          simp only at h
          exact wpIn_mono ((ihy _ _ _ _ _ h).1 _ h2 ro n M1 a1 w1 q1 q2 (hin.keeps q3)).wp fun ex a2 w2 hq => hq.trans q3 q4
        | exit id => simp only [Option.some.injEq, Prod.mk.injEq] at h; obtain ⟨rfl, rfl, rfl⟩ := h; exact hp'
        | goto l => simp only [Option.some.injEq, Prod.mk.injEq] at h; obtain ⟨rfl, rfl, rfl⟩ := h; exact hp'
        | ret => simp only [Option.some.injEq, Prod.mk.injEq] at h; obtain ⟨rfl, rfl, rfl⟩ := h; exact hp'
      · simp at h
  | cond s x y ihx ihy =>
    intro ρ σ e ρ' σ' h
    refine no2 (by simp) fun c hc ro n M a w hr hw hin => ?_
    cases hc with
    | cond hs h1 h2 =>
      change cCond s (evalCode E ih x) (evalCode E ih y) ρ σ = _ at h
      unfold cCond at h
      split at h
      · rename_i b hb
        have hv := trS_sound hs hr hb
        simp only [VRel] at hv
        refine wpIn_cond hv ?_
        cases b with
        | true => exact ((ihx _ _ _ _ _ h).1 _ h1 ro n M a w hr hw hin).wp
        | false => exact ((ihy _ _ _ _ _ h).1 _ h2 ro n M a w hr hw hin).wp
      · simp at h
  | block id x ihx =>
    intro ρ σ e ρ' σ' h
    refine no2 (by simp) fun c hc ro n M a w hr hw hin => ?_
    cases hc with
    | block h1 =>
      change cBlock id (evalCode E ih x) ρ σ = _ at h
      unfold cBlock at h
      split at h
      · rename_i e1 ρ1 σ1 hx
        refine wpIn_block (wpIn_mono ((ihx _ _ _ _ _ hx).1 _ h1 ro n M a w hr hw hin).wp ?_)
        rintro ex a1 w1 hp
        have hp' := hp
        obtain ⟨rfl, M1, q⟩ := hp
        cases e1 with
        | normal => simp only [Option.some.injEq, Prod.mk.injEq] at h; obtain ⟨rfl, rfl, rfl⟩ := h; exact hp'
        | exit id' =>
          simp only at h
          simp only [exitOf, Exit.inBlock]
          split at h
          · rename_i hb
            have := Nat.eq_of_beq_eq_true hb; subst this
            simp only [Option.some.injEq, Prod.mk.injEq] at h; obtain ⟨rfl, rfl, rfl⟩ := h
            simp only [if_true]
            exact ⟨rfl, M1, q⟩
          · rename_i hb
            have : id' ≠ id := fun e => by subst e; simp at hb
            simp only [Option.some.injEq, Prod.mk.injEq] at h; obtain ⟨rfl, rfl, rfl⟩ := h
            simp only [this, if_false]
            exact ⟨rfl, M1, q⟩
        | goto l => simp only [Option.some.injEq, Prod.mk.injEq] at h; obtain ⟨rfl, rfl, rfl⟩ := h; exact hp'
        | ret => simp only [Option.some.injEq, Prod.mk.injEq] at h; obtain ⟨rfl, rfl, rfl⟩ := h; exact hp'
      · simp at h
  | loop x ihx =>
    intro ρ σ e ρ' σ' h
    refine no2 (by simp) fun c hc ro n M a w hr hw hin => ?_
    cases hc with
    | loop h1 =>
      change cLoop (ih (.loop x)) (evalCode E ih x) ρ σ = _ at h
      unfold cLoop at h
      split at h
      · rename_i e1 ρ1 σ1 hx
        refine loopWp_round (wpIn_mono ((ihx _ _ _ _ _ hx).1 _ h1 ro n M a w hr hw hin).wp ?_)
        rintro ex a1 w1 hp
        have hp' := hp
        obtain ⟨rfl, M1, q1, q2, q3, q4⟩ := hp
        cases e1 with
        | normal =>
          simp only at h
          have := (hih _ _ _ _ _ _ h).1 _ (.loop h1) ro n M1 a1 w1 q1 q2 (hin.keeps q3)
          simp only [Runs] at this
          intro b k cs hb1 hb2 hb3
          obtain ⟨ex, a2, w2, hq, harr⟩ := this b k cs hb1 hb2 hb3
          exact ⟨ex, a2, w2, hq.trans q3 q4, harr⟩
        | exit id => simp only [Option.some.injEq, Prod.mk.injEq] at h; obtain ⟨rfl, rfl, rfl⟩ := h; exact hp'
        | goto l => simp only [Option.some.injEq, Prod.mk.injEq] at h; obtain ⟨rfl, rfl, rfl⟩ := h; exact hp'
        | ret => simp only [Option.some.injEq, Prod.mk.injEq] at h; obtain ⟨rfl, rfl, rfl⟩ := h; exact hp'
      · simp at h
  | rangeFunc f ps as body iha ihb =>
    intro ρ σ e ρ' σ' h
    refine no2 (by simp) fun c hc ro n M a w hr hw hin => ?_
    cases hc with
    | rangeFunc hf h1 h2 => exact range_sound hcall hf h1 h2 h hr hw hin
  | exit id =>
    intro ρ σ e ρ' σ' h
    refine no2 (by simp) fun c hc ro n M a w hr hw hin => ?_
    cases hc
    change cEnd (.exit id) ρ σ = _ at h
    simp only [cEnd, Option.some.injEq, Prod.mk.injEq] at h; obtain ⟨rfl, rfl, rfl⟩ := h
    exact wpIn_exit ⟨rfl, M, hr, hw, Keeps.refl M w, Mks.refl _ _ _ _⟩
  | scope x y _ ihy =>
    intro ρ σ e ρ' σ' h
    have key : ∀ whole c whole' c', ACode.scope x y = .scope whole' c' → CRel P whole whole' → CRel P c c' → ∀ ro n M a w, RRel H M ρ a.tmps → WRel (CRel P) H M σ w → InR ro w →
        scopeWp (Wide ro) n P whole c (Post P H M w a.defers e ρ' σ') a w := by
      intro whole c whole' c' he hw1 hc1 ro n M a w hr hw hin
      injection he with he1 he2; subst he1 he2
      change cScope ih x (evalCode E ih y) ρ σ = _ at h
      unfold cScope at h
      split at h
      · rename_i e1 ρ1 σ1 hx
        refine scopeWp_of (wpIn_mono ((ihy _ _ _ _ _ hx).1 _ hc1 ro n M a w hr hw hin).wp ?_)
        rintro ex a1 w1 hp
        have hp' := hp
        obtain ⟨rfl, M1, q1, q2, q3, q4⟩ := hp
        cases e1 with
        | normal => simp only [Option.some.injEq, Prod.mk.injEq] at h; obtain ⟨rfl, rfl, rfl⟩ := h; exact hp'
        | exit id => simp only [Option.some.injEq, Prod.mk.injEq] at h; obtain ⟨rfl, rfl, rfl⟩ := h; exact hp'
        | ret => simp only [Option.some.injEq, Prod.mk.injEq] at h; obtain ⟨rfl, rfl, rfl⟩ := h; exact hp'
        | goto l =>
          simp only at h
          split at h
          · rename_i rest' hf
            obtain ⟨rest, g1, g2⟩ := findLabel_sound _ _ _ hw1 hf
            refine ⟨rest, g1, fun b k cs hb1 hb2 hb3 => ?_⟩
            obtain ⟨ex, a2, w2, hq, harr⟩ := (hih _ _ _ _ _ _ h).2 whole rest x rest' rfl hw1 g2 ro n M1 a1 w1 q1 q2 (hin.keeps q3) b k cs hb1 hb2 hb3
            exact ⟨ex, a2, w2, hq.trans q3 q4, harr⟩
          · simp at h
      · simp at h
    refine ⟨fun c hc ro n M a w hr hw hin => ?_, key⟩
    cases hc with
    | scope hc => exact (key _ _ _ _ rfl hc hc ro n M a w hr hw hin).wp
  | label l =>
    intro ρ σ e ρ' σ' h
    refine no2 (by simp) fun c hc ro n M a w hr hw hin => ?_
    cases hc
    change cSkip ρ σ = _ at h
    simp only [cSkip, Option.some.injEq, Prod.mk.injEq] at h; obtain ⟨rfl, rfl, rfl⟩ := h
    exact wpIn_label ⟨rfl, M, hr, hw, Keeps.refl M w, Mks.refl _ _ _ _⟩
  | goto l =>
    intro ρ σ e ρ' σ' h
    refine no2 (by simp) fun c hc ro n M a w hr hw hin => ?_
    cases hc
    change cEnd (.goto l) ρ σ = _ at h
    simp only [cEnd, Option.some.injEq, Prod.mk.injEq] at h; obtain ⟨rfl, rfl, rfl⟩ := h
    exact wpIn_goto ⟨rfl, M, hr, hw, Keeps.refl M w, Mks.refl _ _ _ _⟩
  | ret =>
    intro ρ σ e ρ' σ' h
    refine no2 (by simp) fun c hc ro n M a w hr hw hin => ?_
    cases hc
    change cEnd .ret ρ σ = _ at h
    simp only [cEnd, Option.some.injEq, Prod.mk.injEq] at h; obtain ⟨rfl, rfl, rfl⟩ := h
    exact wpIn_ret ⟨rfl, M, hr, hw, Keeps.refl M w, Mks.refl _ _ _ _⟩
  | stuck =>
    intro ρ σ e ρ' σ' h
    change cStuck ρ σ = _ at h
    simp [cStuck] at h
end Am
/- Calls, rounds, and the evaluator as a whole. -/
namespace Am
open Go
variable {H : Hc} {M M' : Mu} {σ σ' : St} {w w' : World} {P : Program} {ρ ρ' : Regs} {a : Act} {E : Env} {ih : ACode → Regs → St → R}

/-! ### The way in -/
theorem get_ofListFrom {α : Type} : ∀ (l : List α) (k : Nat) (t : PT α) (j : Nat), (PT.ofListFrom k l t).get j = if k ≤ j ∧ j < k + l.length then l[j - k]? else t.get j
  | [], k, t, j => by simp only [PT.ofListFrom, List.length_nil]; rw [if_neg (by omega)]
  | x :: l, k, t, j => by
    simp only [PT.ofListFrom, get_ofListFrom l (k + 1) (t.put k (some x)) j, List.length_cons, PT.get_put]
    by_cases e : j = k
    · subst e; rw [if_neg (by omega), if_pos (by omega)]; simp
    · by_cases h : k + 1 ≤ j ∧ j < k + 1 + l.length
      · rw [if_pos h, if_pos (by omega)]
        rw [show j - k = (j - (k + 1)) + 1 by omega]; simp
      · rw [if_neg h, if_neg (show ¬(k ≤ j ∧ j < k + (l.length + 1)) by omega), if_neg e]
theorem get_entry (n : Nat) (args : List PV) (t : Nat) : (Regs.entry n args).get t = args[t]? := by
  simp only [Regs.entry, Regs.get, Regs.look, PT.ofList, get_ofListFrom, Nat.zero_le, true_and, Nat.zero_add, Nat.sub_zero, PT.get_leaf]
  split
  · rfl
  · rename_i h; rw [List.getElem?_eq_none (by omega)]
theorem VRels.at_ : ∀ {xs : List PV} {ys : List Value} {t : Nat} {x : PV}, VRels H M xs ys → xs[t]? = some x → ∃ y, ys[t]? = some y ∧ VRel H M x y
  | [], _, t, x, _, h => by simp at h
  | x0 :: xs, ys, t, x, hr, h => by
    obtain ⟨y, ys', rfl, h1, h2⟩ := VRels.uncons hr
    cases t with
    | zero => simp at h; subst h; exact ⟨y, by simp, h1⟩
    | succ t => simp at h; obtain ⟨y', h3, h4⟩ := VRels.at_ h2 h; exact ⟨y', by simpa using h3, h4⟩
theorem entry_rel {args : List PV} {vs : List Value} {n : Nat} (h : VRels H M args vs) : RRel H M (Regs.entry n args) (vs.toArray ++ Array.replicate (n - vs.toArray.size) undef) := by
  have hl := h.length
  refine ⟨by simp [Regs.entry]; omega, fun t v ht => ?_⟩
  rw [get_entry] at ht
  obtain ⟨y, h1, h2⟩ := h.at_ ht
  refine ⟨y, ?_, h2⟩
  have hlt : t < vs.length := (List.getElem?_eq_some_iff.1 h1).1
  rw [Array.getElem?_append_left (by simpa using hlt)]
  simpa using h1
/-! ### The way out -/
def ResRel (P : Program) : List ResultVar → List ARes → Prop
  | [], [] => True
  | .tmp t :: l, .tmp t' :: l' => t = t' ∧ ResRel P l l'
  | .cell t ty :: l, .cell t' n :: l' => t = t' ∧ many? P ty = some n ∧ ResRel P l l'
  | _, _ => False
def resSem (tmps : Array Value) : ResultVar → Sem Value
  | .tmp t => pure (tmps.getD t undef)
  | .cell a t => do loadVar t (← asAddr (tmps.getD a undef))
theorem getD_of {tmps : Array Value} {t : Nat} {cv : Value} (h : tmps[t]? = some cv) : tmps.getD t undef = cv := by
  simp [Array.getD_eq_getD_getElem?, h]
theorem results_sound {tmps : Array Value} (hr : RRel H M ρ tmps) (hw : WRel (CRel P) H M σ w) : ∀ (l : List ResultVar) (l' : List ARes) (vs : List PV), ResRel P l l' → resultsOf ρ σ l' = some vs →
    ∃ us, (l.mapM (resSem tmps)).run P w = .ok us w ∧ VRels H M vs us
  | [], [], vs, _, h => by simp [resultsOf] at h; subst h; exact ⟨[], by simp, VRels.nil_iff.2 rfl⟩
  | [], _ :: _, vs, h, _ => h.elim
  | .tmp _ :: _, [], vs, h, _ => h.elim
  | .cell _ _ :: _, [], vs, h, _ => h.elim
  | .tmp _ :: _, .cell _ _ :: _, vs, h, _ => h.elim
  | .cell _ _ :: _, .tmp _ :: _, vs, h, _ => h.elim
  | .tmp t :: l, .tmp t' :: l', vs, hr', h => by
    obtain ⟨rfl, hr'⟩ := hr'
    simp only [resultsOf, resultOf] at h
    split at h
    · rename_i v hv
      split at h
      · rename_i vs' hvs
        simp only [Option.some.injEq] at h; subst h
        obtain ⟨cv, h1, h2⟩ := hr.2 t v hv
        obtain ⟨us, h3, h4⟩ := results_sound hr hw l l' vs' hr' hvs
        exact ⟨cv :: us, by simp [resSem, getD_of h1, h3], VRels.cons_iff.2 ⟨h2, h4⟩⟩
      · simp at h
    · simp at h
  | .cell t ty :: l, .cell t' n :: l', vs, hr', h => by
    obtain ⟨rfl, hn, hr'⟩ := hr'
    simp only [resultsOf] at h
    split at h
    · rename_i v hv
      split at h
      · rename_i vs' hvs
        simp only [Option.some.injEq] at h; subst h
        obtain ⟨us, h3, h4⟩ := results_sound hr hw l l' vs' hr' hvs
        simp only [resultOf] at hv
        split at hv
        · rename_i p hp
          obtain ⟨cv, h1, h2⟩ := hr.2 t p hp
          have hd := getD_of h1
          cases n with
          | none =>
            simp only at hv
            split at hv
            · rename_i v' hrd
              simp only [Option.some.injEq] at hv; subst hv
              obtain ⟨a', ws, he, hsp, hl, hv, hc⟩ := readPtr_sound hw h2 hrd
              cases ws with
              | nil => simp at hl
              | cons u ws =>
                obtain ⟨hv, -⟩ := VRels.cons_iff.1 hv
                have hc0 := hc 0 u rfl
                have : (⟨a'.block, a'.off + 0, none⟩ : Addr) = a' := by cases a'; simp at hsp; simp [hsp]
                rw [this] at hc0
                exact ⟨u :: us, by simp [resSem, hd, he, asAddr, loadVar_none hn hc0, h3], VRels.cons_iff.2 ⟨hv, h4⟩⟩
            · simp at hv
          | some n =>
            simp only at hv
            split at hv
            · rename_i cs hrd
              simp only [Option.some.injEq] at hv; subst hv
              obtain ⟨a', ws, he, hsp, hl, hv, hc⟩ := readPtr_sound hw h2 hrd
              exact ⟨.agg ws.toArray :: us, by simp [resSem, hd, he, asAddr, loadVar_some hn hsp hl hc, h3], VRels.cons_iff.2 ⟨by simp only [VRel]; exact ⟨ws, rfl, hv⟩, h4⟩⟩
            · simp at hv
        · simp at hv
      · simp at h
    · simp at h
theorem oneOrTup_sound {vs : List PV} {us : List Value} (h : VRels H M vs us) : VRel H M (oneOrTup vs) (if h : us.toArray.size = 1 then us.toArray[0] else .tuple us.toArray) := by
  have hl := h.length
  match vs, us, h with
  | [v], us, h =>
    obtain ⟨u, us', rfl, h1, h2⟩ := VRels.uncons h
    rw [VRels.nil_iff] at h2; subst h2
    simpa [oneOrTup] using h1
  | [], us, h =>
    rw [VRels.nil_iff] at h; subst h
    simp only [oneOrTup, VRel, List.size_toArray, List.length_nil]
    exact ⟨[], by simp, VRels.nil_iff.2 rfl⟩
  | v1 :: v2 :: vs, us, h =>
    have hne : ¬ us.toArray.size = 1 := by simp at hl ⊢; omega
    rw [dif_neg hne]
    simp only [oneOrTup, VRel]
    exact ⟨us, rfl, h⟩
theorem results_run {fn : Func} {af : AFunc} {tmps : Array Value} {vs : List PV} (hr : RRel H M ρ tmps) (hw : WRel (CRel P) H M σ w) (hres : ResRel P fn.results.toList af.results) (h : resultsOf ρ σ af.results = some vs) :
    ∃ v, (results fn tmps).run P w = .ok v w ∧ VRel H M (oneOrTup vs) v := by
  obtain ⟨us, h1, h2⟩ := results_sound hr hw _ _ _ hres h
  refine ⟨_, ?_, oneOrTup_sound h2⟩
  have key : ∀ f : ResultVar → Sem Value, (∀ r, f r = resSem tmps r) →
      (do let vs ← fn.results.mapM f; pure (if h : vs.size = 1 then vs[0] else .tuple vs) : Sem Value).run P w = .ok (if h : us.toArray.size = 1 then us.toArray[0] else .tuple us.toArray) w := by
    intro f hf
    rw [show f = resSem tmps from funext hf, Array.mapM_eq_mapM_toList]
    simp only [map_eq_pure_bind, Sem.run_bind, h1, Result.andThen_ok, Sem.run_pure]
  exact key _ (fun r => by cases r <;> rfl)
end Am
/- Calls, rounds, and the evaluator as a whole. -/
namespace Am
open Go
variable {H : Hc} {M M' : Mu} {σ σ' : St} {w w' : World} {P : Program} {ρ ρ' : Regs} {a : Act} {E : Env} {ih : ACode → Regs → St → R}

theorem putFree {CR : Code → ACode → Prop} {w0 : World} {M0 : Mu} {r : Nat} (o : Obj) (h : WRel CR H M σ w) (hk : Keeps M0 M w0 w) (h0 : w0.heap.size ≤ r) (hobj : w.heap[r]? = some (Obj.deferred (some []))) (hfree : ∀ b n, M.at_ b ≠ some (r, n)) :
    WRel CR H M σ (put w r o) ∧ Keeps M0 M w0 (put w r o) := by
  have hne : ∀ b c n, M.at_ b = some (c, n) → c ≠ r := fun b c n hb e => hfree b n (e ▸ hb)
  refine ⟨⟨h.next, fun b o1 hb => ?_, h.lt, by simpa using h.bnd, h.inj, fun c off v hv => ?_, h.apart⟩, ⟨hk.le, by simpa using hk.size, fun c hc hno => ?_, hk.fresh, hk.out, hk.os, fun c lp hl => ?_⟩⟩
  · obtain ⟨c, n, h1, h2⟩ := h.obj b o1 hb
    exact ⟨c, n, h1, by rw [put_get]; simpa [hne _ _ _ h1] using h2⟩
  · have h1 := h.imm c off v hv
    have : c ≠ r := by rintro rfl; simp [World.cell?, hobj] at h1
    simp only [World.cell?] at h1 ⊢
    rw [put_get]; simpa [this] using h1
  · rw [put_get, if_neg (by omega)]; exact hk.frame c hc hno
  · have hc : c < w0.heap.size := (Array.getElem?_eq_some_iff.1 hl).1
    rw [put_get, if_neg (by omega)]; exact hk.loops c lp hl
theorem takeDeferred_run {r : Nat} (hobj : w.heap[r]? = some (Obj.deferred (some []))) : (Instr.takeDeferred r).run P w = .ok [] (put w r (.deferred none)) := by
  simp only [Instr.takeDeferred, Sem.run_bind, getObj_run hobj (by simp), Result.andThen_ok, setObj_run hobj (by simp), Sem.run_pure]
theorem leaves_sound {F : Fence} {n : Nat} {fn : Func} {tmps : Array Value} {R : Ending → World → Prop} {M0 : Mu} {w0 : World}
    (hfin : ∀ w, WRel (CRel P) H M σ w → Keeps M0 M w0 w → ∃ v, (results fn tmps).run P w = .ok v w ∧ R (.returned v) w) :
    ∀ (rs : List Nat) (w : World), rs.Nodup → (∀ r ∈ rs, w0.heap.size ≤ r ∧ w.heap[r]? = some (Obj.deferred (some [])) ∧ ∀ b n, M.at_ b ≠ some (r, n)) → WRel (CRel P) H M σ w → Keeps M0 M w0 w →
      LeavesInM F n P fn tmps R (rs.map mkD) .returning w
  | [], w, _, _, hw, hk => hfin w hw hk
  | r :: rs, w, hn, hr, hw, hk => by
    rw [List.nodup_cons] at hn
    obtain ⟨h0, hobj, hfree⟩ := hr r (by simp)
    obtain ⟨hw', hk'⟩ := putFree (.deferred none) hw hk h0 hobj hfree
    refine ⟨by simp, .inl ⟨r, _, rfl, takeDeferred_run hobj, leaves_sound hfin rs _ hn.2 (fun r' hr' => ?_) hw' hk'⟩⟩
    obtain ⟨g0, g1, g2⟩ := hr r' (by simp [hr'])
    have : r' ≠ r := by rintro rfl; exact hn.1 hr'
    exact ⟨g0, by rw [put_get, if_neg this]; exact g1, g2⟩
/-- What is said of a function of the program. -/
structure FnRel (P : Program) (f : Nat) (af : AFunc) : Prop where
  rel : ∃ fn c, P.funcs[f]? = some fn ∧ fn.body = some c ∧ (fn.name == "runtime.NumGoroutine") = false ∧ CRel P c af.body ∧ af.ntmps = fn.ntmps ∧ ResRel P fn.results.toList af.results
structure EnvOk (P : Program) (H : Hc) (E : Env) : Prop where
  fn : ∀ f af, E.fn f = some af → FnRel P f af
  hook : ∀ f args σ v σ', E.hook f args σ = some (v, σ') → CallOk P H f args σ v σ'
theorem callF_sound (hE : EnvOk P H E) (hih : IhOk P H ih) : ∀ f args σ v σ', callF E ih f args σ = some (v, σ') → CallOk P H f args σ v σ' := by
  intro f args σ v σ' h
  unfold callF at h
  split at h
  · rename_i r hh
    simp only [Option.some.injEq] at h; subst h
    exact hE.hook _ _ _ _ _ hh
  · split at h
    · rename_i af haf
      obtain ⟨fn, c, hf, hb, hname, hrel, hnt, hres⟩ := (hE.fn f af haf).rel
      intro M w vs hvs hw
      refine ⟨?_, ?_⟩
      · unfold callFunc
        have hn : ¬ fn.name = "runtime.NumGoroutine" := by simpa using hname
        simp [hf, hn, hb]
      · split at h
        · rename_i e ρ1 σ1 hbody
          refine callsIn_wide.1 (callsIn_of_wp_marks (n := 0) hf hb trivial ?_)
          have hr := entry_rel (n := af.ntmps) hvs
          rw [hnt] at hr
          rw [hnt] at hbody
          refine wpIn_mono ((hih _ _ _ _ _ _ hbody).1 c hrel none 0 M { tmps := vs.toArray ++ Array.replicate (fn.ntmps - vs.toArray.size) undef, defers := [] } w hr hw (fun l hl => by simp at hl)).wp ?_
          rintro ex a1 w1 ⟨rfl, M1, q1, q2, q3, rs, hrs, hnd, hall⟩
          have hout : ∀ vs', resultsOf ρ1 σ1 af.results = some vs' → oneOrTup vs' = v → σ1 = σ' → LeavesInM Fence.wide 0 P fn a1.tmps (Back P H M w v σ') a1.defers .returning w1 := by
            rintro vs' hv rfl rfl
            rw [hrs, List.append_nil]
            refine leaves_sound (M := M1) (σ := σ1) (M0 := M) (w0 := w) (fun w2 hw2 hk2 => ?_) rs w1 hnd (fun r hr => ?_) q2 q3
            · obtain ⟨cv, h1, h2⟩ := results_run q1 hw2 hres hv
              exact ⟨cv, h1, M1, hw2, hk2, h2⟩
            · obtain ⟨g1, g2, g3, g4⟩ := hall r hr
              exact ⟨g1, g3, g4⟩
          cases e with
          | normal =>
            simp only at h
            split at h
            · rename_i vs' hv
              simp only [Option.some.injEq, Prod.mk.injEq] at h
              exact hout vs' hv h.1 h.2
            · simp at h
          | ret =>
            simp only at h
            split at h
            · rename_i vs' hv
              simp only [Option.some.injEq, Prod.mk.injEq] at h
              exact hout vs' hv h.1 h.2
            · simp at h
          | exit id => simp at h
          | goto l => simp at h
        · simp at h
    · simp at h
theorem putAll_rel : ∀ (ps : List Nat) (ρ : Regs) (tmps : Array Value) (args : List PV) (vs : List Value), RRel H M ρ tmps → VRels H M args vs → putAll ρ ps args = some ρ' →
    ps.length = vs.length ∧ RRel H M ρ' ((ps.zip vs).foldl (fun tmps (t, a) => tmps.setIfInBounds t a) tmps)
  | [], ρ, tmps, args, vs, hr, hv, h => by
    cases args with
    | nil => simp [putAll] at h; subst h; rw [VRels.nil_iff] at hv; subst hv; exact ⟨rfl, hr⟩
    | cons _ _ => simp [putAll] at h
  | p :: ps, ρ, tmps, args, vs, hr, hv, h => by
    cases args with
    | nil => simp [putAll] at h
    | cons x args =>
      obtain ⟨y, ys, rfl, h1, h2⟩ := VRels.uncons hv
      simp only [putAll] at h
      split at h
      · rename_i ρ1 hp
        have hg := fun t => Regs.get_putM hp t
        have hr1 : RRel H M ρ1 (tmps.setIfInBounds p y) := by
          refine ⟨by rw [(hg 0).2.1]; simpa using hr.1, fun t v ht => ?_⟩
          rw [(hg t).1] at ht
          rw [Array.getElem?_setIfInBounds]
          by_cases e : p = t
          · subst e
            simp only [if_true, Option.some.injEq] at ht; subst ht
            have := (hg 0).2.2
            have := hr.1
            exact ⟨y, by simp; omega, h1⟩
          · simp only [e, if_false] at ht ⊢
            exact hr.2 t v ht
        obtain ⟨k1, k2⟩ := putAll_rel ps ρ1 _ args ys hr1 h2 h
        exact ⟨by simp [k1], by simpa using k2⟩
      · simp at h
theorem roundF_sound (hih : IhOk P H ih) : ∀ b args σ v σ', roundF ih b args σ = some (v, σ') → RoundOk P H b args σ v σ' := by
  intro b args σ v σ' h M w r vs hvs hw hbN hat ro n hin
  unfold roundF at h
  split at h
  · rename_i l hl
    obtain ⟨c, n0, hM, lp, hobj, hlr⟩ := hw.obj _ _ hl
    have := hat c n0 hM; subst this
    split at h
    · rename_i ρ0 hput
      obtain ⟨hlen, hr0⟩ := putAll_rel _ _ _ _ _ hlr.regs hvs hput
      split at h
      · rename_i ρ1 σ1 hasg
        refine ⟨r, lp.fn, (lp.params.zip vs.toArray).foldl (fun tmps (t, a) => tmps.setIfInBounds t a) lp.tmps, lp.assign, lp.body, ?_, roundIn_of_wpIn (n := n) (F := Wide ro) trivial ?_⟩
        · have hsz : vs.toArray.size = lp.params.size := by
            rw [← hlr.params] at hlen; simpa using hlen.symm
          simp only [Instr.yield, Instr.getLoop, Sem.run_bind, getObj_run hobj (by simp), Result.andThen_ok, Sem.run_pure, hsz, ne_eq, not_true_eq_false, if_false]
        · have hr0' : RRel H M ρ0 ((lp.params.zip vs.toArray).foldl (fun tmps (t, a) => tmps.setIfInBounds t a) lp.tmps) := by
            rw [← hlr.params] at hr0
            rw [← Array.foldl_toList]
            simpa using hr0
          have hinr : InR (some r) w := fun l' hl' => by simp only [Option.some.injEq] at hl'; subst hl'; exact ⟨lp, hobj⟩
          have w1ok := ((hih _ _ _ _ _ _ hasg).1 _ hlr.assign (some r) n M { tmps := (lp.params.zip vs.toArray).foldl (fun tmps (t, a) => tmps.setIfInBounds t a) lp.tmps, defers := [] } w hr0' hw hinr).wp
          refine wpIn_mono w1ok ?_
          rintro ex a1 w1 ⟨rfl, M1, q1, q2, q3, -⟩
          simp only [exitOf, Exit.then]
          split at h
          · rename_i l1 hl1
            obtain ⟨c1, n1, hM1, lp1, hobj1, hlr1⟩ := q2.obj _ _ hl1
            have := hat c1 n1 (q3.le.at_ b hbN _ hM1); subst this
            split at h
            · rename_i hst
              obtain ⟨hw2, hk2⟩ := q2.set (o := .loop { l1 with state := 1 }) (o' := .loop { lp1 with state := .busy }) hM1 ⟨_, rfl, ⟨rfl, hlr1.pending, hlr1.regs, hlr1.params, hlr1.assign, hlr1.body⟩⟩ (fun lp _ => ⟨_, rfl⟩)
              have hready : lp1.state = .ready := by
                have := hlr1.state
                rw [hst] at this
                cases hs' : lp1.state <;> simp_all [stateNo]
              refine ⟨put w1 r (.loop { lp1 with state := .busy }), ?_, ?_⟩
              · simp only [Instr.beginRound, Instr.getLoop, Sem.run_bind, getObj_run hobj1 (by simp), Result.andThen_ok, Sem.run_pure, setObj_run hobj1 (by simp), hready]
              · split at h
                · rename_i e2 ρ2 σ2 hbody
                  have hk12 := q3.trans hk2
                  refine wpIn_mono ((hih _ _ _ _ _ _ hbody).1 _ hlr.body (some r) n M1 a1 _ q1 hw2 (hinr.keeps hk12)).wp ?_
                  rintro ex a2 w3 ⟨rfl, M2, p1, p2, p3, -⟩
                  have hk13 := hk12.trans p3
                  split at h
                  · rename_i l2 hl2
                    obtain ⟨c2, n2, hM2, lp2, hobj2, hlr2⟩ := p2.obj _ _ hl2
                    have := hat c2 n2 (hk13.le.at_ b hbN _ hM2); subst this
                    have fin : ∀ (jump : Option AExit) (st : LoopState), st = (if (jump.map exitCode).isNone then .ready else .done) → (PV.bool jump.isNone, σ2.set b (.loop { l2 with state := stateNo st, pending := jump })) = (v, σ') →
                        ∃ cv w', (Instr.endRound r (jump.map exitCode)).run P w3 = .ok cv w' ∧ Back P H M w v σ' (.returned cv) w' := by
                      rintro jump st hst' he
                      simp only [Prod.mk.injEq] at he; obtain ⟨rfl, rfl⟩ := he
                      obtain ⟨hw4, hk4⟩ := p2.set (o := .loop { l2 with state := stateNo st, pending := jump }) (o' := .loop { lp2 with state := st, pending := jump.map exitCode }) hM2
                        ⟨_, rfl, ⟨rfl, rfl, hlr2.regs, hlr2.params, hlr2.assign, hlr2.body⟩⟩ (fun lp _ => ⟨_, rfl⟩)
                      refine ⟨.bool jump.isNone, _, ?_, M2, hw4, hk13.trans hk4, by simp only [VRel]⟩
                      subst hst'
                      simp only [Instr.endRound, Instr.getLoop, Sem.run_bind, getObj_run hobj2 (by simp), Result.andThen_ok, Sem.run_pure, setObj_run hobj2 (by simp), Option.isNone_map]
                    cases e2 with
                    | normal =>
                      simp only [Option.some.injEq] at h
                      exact fin none .ready rfl h
                    | exit id =>
                      simp only [Option.some.injEq] at h
                      exact fin (some (.exit id)) .done rfl h
                    | goto id =>
                      simp only [Option.some.injEq] at h
                      exact fin (some (.goto id)) .done rfl h
                    | ret =>
                      simp only [Option.some.injEq] at h
                      exact fin (some .ret) .done rfl h
                  · simp at h
                · simp at h
            · simp at h
          · simp at h
      · simp at h
    · simp at h
  · simp at h
/-- What is asked for the regions in whatever order. -/
def DrawnSound (P : Program) (H : Hc) (E : Env) : Prop := ∀ (ih : ACode → Regs → St → R), (∀ f args σ v σ', callF E ih f args σ = some (v, σ') → CallOk P H f args σ v σ') → (∀ b args σ v σ', roundF ih b args σ = some (v, σ') → RoundOk P H b args σ v σ') →
  ∀ id ops aops B L floats outs ρ σ e ρ' σ', OpsRel P ops aops → DrawnOk ops aops B L floats → drawnEval E ih aops floats outs ρ σ = some (e, ρ', σ') → ∀ ro n M a w, RRel H M ρ a.tmps → WRel (CRel P) H M σ w → InR ro w →
      (Code.region id ops true).wpIn (Wide ro) n P (Post P H M w a.defers e ρ' σ') a w
theorem hev_sound (hE : EnvOk P H E) (hd : DrawnSound P H E) : ∀ k, IhOk P H (hev E k) := by
  intro k
  induction k with
  | zero => intro ac ρ σ e ρ' σ' h; change none = _ at h; simp at h
  | succ k ihk =>
    intro ac ρ σ e ρ' σ' h
    have hc := callF_sound hE ihk
    have hr := roundF_sound ihk
    exact code_sound hc hr ihk (hd _ hc hr) ac ρ σ e ρ' σ' h
theorem hcall_sound (hE : EnvOk P H E) (hd : DrawnSound P H E) {k f : Nat} {args : List PV} {v : PV} (h : hcall E k f args σ = some (v, σ')) : CallOk P H f args σ v σ' :=
  callF_sound hE (hev_sound hE hd k) f args σ v σ' h
end Am

/- The types of the arguments. -/
import Derived.Test.YtiohgnhgbfodjaaGreatDoorWalk
import Derived.Test.YtiohgnhgbfodjaaGreatDoorAmF
import Derived.Test.YtiohgnhgbfodjaaGreatDoorTie
import Derived.KernelRfl
set_option linter.unusedVariables false
set_option linter.unusedSimpArgs false
set_option linter.deprecated false
namespace Am
open Go Go.Proofs
set_option maxRecDepth 100000
theorem slice_ty {P : Program} {k t e n b : Nat} {pvs : List PV} (hu : P.underlying t = some (.slice e)) (hc : P.cellsOf e = n) (hb : P.bytesOf e = b) (h : TyA P (k + 1) t pvs) :
    ∃ v rows, pvs = [v] ∧ Sl n b rows v ∧ ∀ c ∈ rows, TyA P k e c := by
  unfold TyA at h
  rw [hu] at h
  rcases h with rfl | ⟨rows, cap, rfl, h1, h2, h3⟩
  · exact ⟨_, [], rfl, .inl ⟨rfl, rfl⟩, by simp⟩
  · rw [hc] at h3 ⊢; rw [hb] at h2
    exact ⟨_, rows, rfl, .inr ⟨cap, rfl, h1, h2, fun c hc => (h3 c hc).1⟩, fun c hc => (h3 c hc).2⟩
theorem int_ty {P : Program} {k t : Nat} {q : IntKind} {pvs : List PV} (hu : P.underlying t = some (.int q)) (h : TyA P (k + 1) t pvs) : ∃ n, pvs = [.int q n] ∧ (Lit.int q n).wf = true := by
  unfold TyA at h; rw [hu] at h; exact h
theorem str_ty {P : Program} {k t : Nat} {pvs : List PV} (hu : P.underlying t = some .string) (h : TyA P (k + 1) t pvs) : ∃ s, pvs = [.str s] ∧ s.size ≤ reachBytes := by
  unfold TyA at h; rw [hu] at h; exact h
theorem struct_ty {P : Program} {k t n : Nat} {fs : Array Field} {pvs : List PV} (hu : P.underlying t = some (.struct fs)) (hn : P.cellsOf t = n) (h : TyA P (k + 1) t pvs) : pvs.length = n ∧ ∀ f ∈ fs.toList, TyA P k f.type ((pvs.drop f.offset).take (P.cellsOf f.type)) := by
  unfold TyA at h; rw [hu] at h; rw [← hn]; exact h
/-- Of each something is known: a row of it. -/
theorem rows_of {α : Type} {R : List PV → Prop} {row : α → List PV} {Ok : α → Prop} (f : ∀ c, R c → ∃ x, c = row x ∧ Ok x) : ∀ {rows : List (List PV)}, (∀ c ∈ rows, R c) → ∃ l : List α, rows = l.map row ∧ ∀ x ∈ l, Ok x
  | [], _ => ⟨[], rfl, by simp⟩
  | c :: rows, h => by
    obtain ⟨x, rfl, h1⟩ := f c (h c (by simp))
    obtain ⟨l, rfl, h2⟩ := rows_of f (rows := rows) fun c hc => h c (by simp [hc])
    exact ⟨x :: l, rfl, by simpa using ⟨h1, h2⟩⟩
theorem c2 : Tryz.prog.cellsOf 2 = 1 := by kernel_rfl
theorem c3 : Tryz.prog.cellsOf 3 = 1 := by kernel_rfl
theorem c9 : Tryz.prog.cellsOf 9 = 1 := by kernel_rfl
theorem c26 : Tryz.prog.cellsOf 26 = 1 := by kernel_rfl
theorem c28 : Tryz.prog.cellsOf 28 = 1 := by kernel_rfl
theorem c36 : Tryz.prog.cellsOf 36 = 1 := by kernel_rfl
theorem c44 : Tryz.prog.cellsOf 44 = 1 := by kernel_rfl
theorem c48 : Tryz.prog.cellsOf 48 = 3 := by kernel_rfl
theorem c46 : Tryz.prog.cellsOf 46 = 5 := by kernel_rfl
theorem c38 : Tryz.prog.cellsOf 38 = 2 := by kernel_rfl
theorem b48 : Tryz.prog.bytesOf 48 = 32 := by kernel_rfl
theorem b46 : Tryz.prog.bytesOf 46 = 64 := by kernel_rfl
theorem b38 : Tryz.prog.bytesOf 38 = 32 := by kernel_rfl
theorem b26 : Tryz.prog.bytesOf 26 = 24 := by kernel_rfl
theorem val_ty {k : Nat} {c : List PV} (h : TyA Tryz.prog (k + 2) 48 c) : ∃ v : Vl, c = v.row ∧ v.s.size ≤ reachBytes := by
  obtain ⟨hl, hf⟩ := struct_ty Tryz.underlying48 c48 h
  rcases c with _ | ⟨x, _ | ⟨y, _ | ⟨z, _ | ⟨u, r⟩⟩⟩⟩ <;> simp at hl
  simp only [List.forall_mem_cons, List.not_mem_nil, false_implies, implies_true, and_true, c3, c2, c9, List.drop_zero, List.drop_succ_cons, List.take_succ_cons, List.take_zero] at hf
  obtain ⟨h0, h1, h2⟩ := hf
  obtain ⟨a, e0, _⟩ := int_ty Tryz.underlying3 h0
  obtain ⟨b, e1, _⟩ := int_ty Tryz.underlying2 h1
  obtain ⟨s, e2, hs⟩ := str_ty Tryz.underlying9 h2
  simp only [List.cons.injEq, and_true] at e0 e1 e2
  subst e0 e1 e2
  exact ⟨⟨a, b, s⟩, rfl, hs⟩
theorem ev_ty {k : Nat} {c : List PV} (h : TyA Tryz.prog (k + 4) 46 c) : ∃ e : Ev, c = e.row ∧ e.Ok := by
  obtain ⟨hl, hf⟩ := struct_ty Tryz.underlying46 c46 h
  rcases c with _ | ⟨x, _ | ⟨y, _ | ⟨z, _ | ⟨u, _ | ⟨v, _ | ⟨w, r⟩⟩⟩⟩⟩⟩ <;> simp at hl
  simp only [List.forall_mem_cons, List.not_mem_nil, false_implies, implies_true, and_true, c3, c2, c9, c44, List.drop_zero, List.drop_succ_cons, List.take_succ_cons, List.take_zero] at hf
  obtain ⟨h0, h1, h2, h3, h4⟩ := hf
  obtain ⟨a, e0, _⟩ := int_ty Tryz.underlying2 h0
  obtain ⟨b, e1, _⟩ := int_ty Tryz.underlying3 h1
  obtain ⟨d, e2, _⟩ := int_ty Tryz.underlying2 h2
  obtain ⟨s, e3, hs⟩ := str_ty Tryz.underlying9 h3
  obtain ⟨w, rows, e4, hsl, hr⟩ := slice_ty Tryz.underlying44 c48 b48 h4
  obtain ⟨l, rfl, hl2⟩ := rows_of (fun c hc => val_ty hc) hr
  simp only [List.cons.injEq, and_true] at e0 e1 e2 e3 e4
  subst e0 e1 e2 e3 e4
  exact ⟨⟨a, b, d, s, _, l⟩, rfl, ⟨hs, hsl, hl2⟩⟩
theorem evs_ty {k : Nat} {c : List PV} (h : TyA Tryz.prog (k + 5) 26 c) : ∃ s : Evs, c = [s.v] ∧ s.Ok := by
  obtain ⟨v, rows, rfl, hsl, hr⟩ := slice_ty Tryz.underlying26 c46 b46 h
  obtain ⟨l, rfl, hl⟩ := rows_of (fun c hc => ev_ty hc) hr
  exact ⟨⟨v, l⟩, rfl, ⟨hsl, hl⟩⟩
theorem mt_ty {k : Nat} {c : List PV} (h : TyA Tryz.prog (k + 7) 38 c) : ∃ m : Mt, c = m.row ∧ m.Ok := by
  obtain ⟨hl, hf⟩ := struct_ty Tryz.underlying38 c38 h
  rcases c with _ | ⟨x, _ | ⟨y, _ | ⟨z, r⟩⟩⟩ <;> simp at hl
  simp only [List.forall_mem_cons, List.not_mem_nil, false_implies, implies_true, and_true, c2, c36, List.drop_zero, List.drop_succ_cons, List.take_succ_cons, List.take_zero] at hf
  obtain ⟨h0, h1⟩ := hf
  obtain ⟨a, e0, _⟩ := int_ty Tryz.underlying2 h0
  obtain ⟨w, rows, e1, hsl, hr⟩ := slice_ty Tryz.underlying36 c26 b26 h1
  obtain ⟨l, rfl, hl2⟩ := rows_of (fun c hc => evs_ty hc) hr
  simp only [List.cons.injEq, and_true] at e0 e1
  subst e0 e1
  exact ⟨⟨a, _, l⟩, rfl, ⟨hsl, hl2⟩⟩
theorem mts_ty {k : Nat} {c : List PV} (h : TyA Tryz.prog (k + 8) 28 c) : ∃ s : Mts, c = [s.v] ∧ s.Ok := by
  obtain ⟨v, rows, rfl, hsl, hr⟩ := slice_ty Tryz.underlying28 c38 b38 h
  obtain ⟨l, rfl, hl⟩ := rows_of (fun c hc => mt_ty hc) hr
  exact ⟨⟨v, l⟩, rfl, ⟨hsl, hl⟩⟩
end Am

/- WholeTold, run by the abstract machine. -/
import Derived.Test.YtiohgnhgbfodjaaGreatDoorAmD
import Derived.Test.YtiohgnhgbfodjaaGreatDoorIr
set_option linter.unusedVariables false
set_option linter.unusedSimpArgs false
set_option linter.deprecated false
namespace Am
open Go AmIr
variable {E : Env} {σ : St}
set_option maxRecDepth 100000
/-! ### GreatEvent -/
theorem greatEvent_ok (hh : E.hook 50 = fun _ _ => none) (hf : E.fn 50 = some af50) (ev : Ev) (hok : ev.Ok) : CallX E 50 [.agg ev.row] σ (fun v _ => ∃ b, v = .bool b) := by
  have hlen := hok.vals.len
  have hnm := hok.name
  have hsl := hok.vals
  have hrow : ∀ j, j < (ev.vl.map Vl.row).length → ∃ s : ByteArray, cellsAt (ev.vl.map Vl.row).flatten (j * 3 + 2) 1 = some [.str s] := by
    intro j hj
    exact ⟨_, cell_at hsl.each (List.getElem?_eq_getElem hj) (v := .str (ev.vl[j]'(by simpa using hj)).s) (by simp [Vl.row])⟩
  generalize ev.vl.map Vl.row = rows at *
  rw [reach_eq] at hlen hnm
  suffices h : ∃ v σ', CallA E 50 [.agg ev.row] σ v σ' ∧ (σ' = σ.new (.cells ev.row false) ∧ ∃ b, v = .bool b) by
    obtain ⟨v, σ', h1, rfl, h2⟩ := h; exact ⟨v, _, h1, Ext.new _ _, h2⟩
  refine ce_fn (n := 35) (vs := [0, 1, 2, 3, 4, 20]) (by rw [hh]) hf rfl rfl ?_
  refine we_seq (we_region ?_)
  refine oe_v (ev_boxA rfl) rfl ?_
  refine oe_v rfl rfl ?_
  refine oe_nil rfl rfl ?_
  have hb : (σ.new (.cells ev.row false)).get σ.next = some (.cells ev.row false) := get_new_self
  generalize σ.new (.cells ev.row false) = τ at *
  generalize σ.next = b at *
  refine we_seq (we_region ?_)
  refine oe_v rfl rfl ?_
  refine oe_v (ev_load1 rfl (rd_ptr hb rfl)) rfl ?_
  refine oe_v (ev_lenStr rfl) rfl ?_
  refine oe_v rfl rfl ?_
  refine oe_v (ev_load1 rfl (rd_ptr hb rfl)) rfl ?_
  refine oe_v (ev_len_sl (by assumption) rfl) rfl ?_
  refine oe_v (ev_add rfl rfl (by omega)) rfl ?_
  refine oe_v rfl rfl ?_
  refine oe_nil rfl rfl ?_
  refine we_seq (we_cut (fun e σ' => σ' = τ ∧ ∃ n : Nat, forget e [(3, .int .i64 (.ofNat n))]) ?_ ?_)
  · refine we_seq (we_region ?_)
    refine oe_v rfl rfl ?_
    refine oe_nil rfl rfl ?_
    refine we_block (we_inv (fun k e σ' => σ' = τ ∧ ∃ i n : Nat, k = rows.length - i ∧ i ≤ rows.length ∧ n ≤ 281474976710656 + 9000 * i ∧ forget e [(4, .int .i64 (.ofNat i)), (3, .int .i64 (.ofNat n)), (1, .ptr b 0)]) rows.length ⟨rfl, 0, ev.name.size + rows.length, by omega, by omega, by omega, rfl, rfl, rfl, trivial⟩ ?_)
    rintro k e σ' ⟨rfl, i, n, rfl, hi, hn, hf⟩
    refine we_less _ hf (we_seq (we_seq (we_region ?_)))
    by_cases h1 : i < rows.length
    · by_cases h2 : n < 9000
      · obtain ⟨s, hs⟩ := hrow i h1
        refine oe_v rfl rfl ?_
        refine oe_v rfl rfl ?_
        refine oe_v (ev_load1 rfl (rd_ptr hb rfl)) rfl ?_
        refine oe_v (ev_len_sl (by assumption) rfl) rfl ?_
        refine oe_v (ev_ltN (r := true) rfl rfl (decide_eq_true (by first | omega | (simp; omega)))) rfl ?_
        refine oe_v rfl rfl ?_
        refine oe_vg rfl rfl rfl ?_
        refine oe_vg rfl (ev_ltN (r := true) rfl rfl (decide_eq_true (by first | omega | (simp; omega)))) rfl ?_
        refine oe_v rfl rfl ?_
        refine oe_nil rfl rfl ?_
        refine we_true rfl (we_skip ?_)
        refine we_seq (we_block (we_region ?_))
        refine oe_v rfl rfl ?_
        refine oe_v rfl rfl ?_
        refine oe_v (ev_load1 rfl (rd_ptr hb rfl)) rfl ?_
        refine oe_v rfl rfl ?_
        refine oe_v (ev_iaddr_sl (by assumption) rfl rfl (by first | omega | (simp; omega))) rfl ?_
        refine oe_v rfl rfl ?_
        refine oe_v (ev_load1 rfl (rd_iptr hs)) rfl ?_
        refine oe_v (ev_lenStr rfl) rfl ?_
        refine oe_v (ev_min2N rfl rfl) rfl ?_
        refine oe_v (ev_add rfl rfl (by omega)) rfl ?_
        refine oe_v rfl rfl ?_
        refine oe_nil rfl rfl ?_
        refine we_region ?_
        refine oe_v rfl rfl ?_
        refine oe_v (ev_add rfl rfl (by omega)) rfl ?_
        refine oe_v rfl rfl ?_
        refine oe_nil rfl rfl ?_
        exact ⟨rows.length - (i + 1), by omega, rfl, i + 1, _, rfl, by omega, by omega, rfl, rfl, rfl, trivial⟩
      · 
        refine oe_v rfl rfl ?_
        refine oe_v rfl rfl ?_
        refine oe_v (ev_load1 rfl (rd_ptr hb rfl)) rfl ?_
        refine oe_v (ev_len_sl (by assumption) rfl) rfl ?_
        refine oe_v (ev_ltN (r := true) rfl rfl (decide_eq_true (by first | omega | (simp; omega)))) rfl ?_
        refine oe_v rfl rfl ?_
        refine oe_vg rfl rfl rfl ?_
        refine oe_vg rfl (ev_ltN (r := false) rfl rfl (decide_eq_false (by first | omega | (simp; omega)))) rfl ?_
        refine oe_v rfl rfl ?_
        refine oe_nil rfl rfl ?_
        refine we_false rfl (we_exit ?_)
        exact ⟨rfl, n, rfl, trivial⟩
    · 
      refine oe_v rfl rfl ?_
      refine oe_v rfl rfl ?_
      refine oe_v (ev_load1 rfl (rd_ptr hb rfl)) rfl ?_
      refine oe_v (ev_len_sl (by assumption) rfl) rfl ?_
      refine oe_v (ev_ltN (r := false) rfl rfl (decide_eq_false (by first | omega | (simp; omega)))) rfl ?_
      refine oe_v rfl rfl ?_
      refine oe_no rfl rfl rfl ?_
      refine oe_no rfl rfl rfl ?_
      refine oe_v rfl rfl ?_
      refine oe_nil rfl rfl ?_
      refine we_false rfl (we_exit ?_)
      exact ⟨rfl, n, rfl, trivial⟩
  · rintro e σ' ⟨rfl, n, hf⟩
    refine we_less _ hf (we_seq (we_region ?_))
    refine oe_v rfl rfl ?_
    refine oe_v (ev_geI rfl rfl) rfl ?_
    refine oe_v rfl rfl ?_
    refine oe_nil rfl rfl ?_
    refine we_ret ?_
    exact ⟨.inl rfl, _, rfl, rfl, _, rfl⟩
end Am
namespace Am
open Go AmIr
variable {E : Env} {σ : St}
set_option maxRecDepth 100000
/-- The functions of these walks are those of the program, and no hook stands before them. -/
structure Has (E : Env) (f : Nat) (af : AFunc) : Prop where
  hook : E.hook f = fun _ _ => none
  fn : E.fn f = some af
/-! ### Great -/
theorem great_ok (h50 : Has E 50 af50) (h27 : Has E 27 af27) (s : Evs) (hok : s.Ok) : CallX E 27 [s.v] σ (fun v _ => ∃ b, v = .bool b ∧ (b = false → s.l.length < 60)) := by
  have hsl := hok.sl
  have hlen := hsl.len
  have hrow : ∀ j (hj : j < (s.l.map Ev.row).length), ∃ ev : Ev, ev.Ok ∧ cellsAt (s.l.map Ev.row).flatten (j * 5) 5 = some ev.row ∧ cellsAt (s.l.map Ev.row).flatten (j * 5 + 4) 1 = some [ev.vals] := by
    intro j hj
    have hj' : j < s.l.length := by simpa using hj
    refine ⟨s.l[j], hok.each _ (List.getElem_mem hj'), ?_, ?_⟩
    · exact row_at hsl.each (by simp [hj'])
    · exact cell_at hsl.each (List.getElem?_eq_getElem hj) (by simp [Ev.row])
  have hl : s.l.length = (s.l.map Ev.row).length := by simp
  rw [hl]
  generalize s.l.map Ev.row = rows at *
  rw [reach_eq] at hlen
  suffices h : ∃ v σ', CallA E 27 [s.v] σ v σ' ∧ (Ext σ σ' ∧ ∃ b, v = .bool b ∧ (b = false → rows.length < 60)) by
    obtain ⟨v, σ', h1, h2, h3⟩ := h; exact ⟨v, _, h1, h2, h3⟩
  refine ce_fn (n := 33) (vs := [0, 2, 3, 4, 14, 30]) (by rw [h27.hook]) h27.fn rfl rfl ?_
  refine we_seq (we_region ?_)
  refine oe_v rfl rfl ?_
  refine oe_nil rfl rfl ?_
  refine we_seq (we_region ?_)
  refine oe_v rfl rfl ?_
  refine oe_v (ev_len_sl (by assumption) rfl) rfl ?_
  refine oe_v rfl rfl ?_
  refine oe_nil rfl rfl ?_
  refine we_seq (we_cut (fun e σ' => Ext σ σ' ∧ forget e [(3, .int .i64 (.ofNat rows.length))]) ?_ ?_)
  · refine we_seq (we_region ?_)
    refine oe_v rfl rfl ?_
    refine oe_nil rfl rfl ?_
    refine we_block (we_inv (fun k e σ' => Ext σ σ' ∧ ∃ i : Nat, k = rows.length - i ∧ i ≤ rows.length ∧ forget e [(4, .int .i64 (.ofNat i)), (3, .int .i64 (.ofNat rows.length)), (0, s.v)]) rows.length ⟨Ext.refl σ, 0, by omega, by omega, rfl, rfl, rfl, trivial⟩ ?_)
    rintro k e σ' ⟨hx, i, rfl, hi, hf⟩
    refine we_less _ hf (we_seq (we_seq (we_region ?_)))
    by_cases h1 : i < rows.length
    · by_cases h2 : rows.length < 300
      · obtain ⟨ev, hev, hr1, hr2⟩ := hrow i h1
        have hvl := hev.vals
        refine oe_v rfl rfl ?_
        refine oe_v rfl rfl ?_
        refine oe_v (ev_len_sl (by assumption) rfl) rfl ?_
        refine oe_v (ev_ltN (r := true) rfl rfl (decide_eq_true (by first | omega | (simp; omega)))) rfl ?_
        refine oe_v rfl rfl ?_
        refine oe_vg rfl rfl rfl ?_
        refine oe_vg rfl (ev_ltN (r := true) rfl rfl (decide_eq_true (by first | omega | (simp; omega)))) rfl ?_
        refine oe_v rfl rfl ?_
        refine oe_nil rfl rfl ?_
        refine we_true rfl (we_skip ?_)
        obtain ⟨v, σ1, hc, hx1, b, rfl⟩ := greatEvent_ok (E := E) (σ := σ') h50.hook h50.fn ev hev
        refine we_seq (we_block (we_seq (we_region ?_)))
        cases b with
        | true =>
          refine oe_v rfl rfl ?_
          refine oe_v rfl rfl ?_
          refine oe_v (ev_iaddr_sl (by assumption) rfl rfl (by first | omega | (simp; omega))) rfl ?_
          refine oe_v (ev_loadN rfl (rd_iptr hr1)) rfl ?_
          refine oe_call rfl hc rfl ?_
          refine oe_v rfl rfl ?_
          refine oe_no rfl rfl rfl ?_
          refine oe_no rfl rfl rfl ?_
          refine oe_no rfl rfl rfl ?_
          refine oe_no rfl rfl rfl ?_
          refine oe_no rfl rfl rfl ?_
          refine oe_no rfl rfl rfl ?_
          refine oe_no rfl rfl rfl ?_
          refine oe_v rfl rfl ?_
          refine oe_nil rfl rfl ?_
          refine we_true rfl (we_seq (we_region ?_))
          refine oe_v rfl rfl ?_
          refine oe_nil rfl rfl ?_
          refine we_ret ?_
          exact ⟨.inl rfl, _, rfl, hx.trans hx1, true, rfl, fun h => by cases h⟩
        | false =>
          by_cases h3 : (ev.vl.map Vl.row).length > 20
          · 
            refine oe_v rfl rfl ?_
            refine oe_v rfl rfl ?_
            refine oe_v (ev_iaddr_sl (by assumption) rfl rfl (by first | omega | (simp; omega))) rfl ?_
            refine oe_v (ev_loadN rfl (rd_iptr hr1)) rfl ?_
            refine oe_call rfl hc rfl ?_
            refine oe_v rfl rfl ?_
            refine oe_vg rfl rfl rfl ?_
            refine oe_vg rfl rfl rfl ?_
            refine oe_vg rfl (ev_iaddr_sl (by assumption) rfl rfl (by first | omega | (simp; omega))) rfl ?_
            refine oe_vg rfl rfl rfl ?_
            refine oe_vg rfl (ev_load1 rfl (rd_iptr hr2)) rfl ?_
            refine oe_vg rfl (ev_len_sl (by assumption) rfl) rfl ?_
            refine oe_vg rfl (ev_gtN (r := true) rfl rfl (decide_eq_true (by first | omega | (simp; omega)))) rfl ?_
            refine oe_v rfl rfl ?_
            refine oe_nil rfl rfl ?_
            refine we_true rfl (we_seq (we_region ?_))
            refine oe_v rfl rfl ?_
            refine oe_nil rfl rfl ?_
            refine we_ret ?_
            exact ⟨.inl rfl, _, rfl, hx.trans hx1, true, rfl, fun h => by cases h⟩
          · 
            refine oe_v rfl rfl ?_
            refine oe_v rfl rfl ?_
            refine oe_v (ev_iaddr_sl (by assumption) rfl rfl (by first | omega | (simp; omega))) rfl ?_
            refine oe_v (ev_loadN rfl (rd_iptr hr1)) rfl ?_
            refine oe_call rfl hc rfl ?_
            refine oe_v rfl rfl ?_
            refine oe_vg rfl rfl rfl ?_
            refine oe_vg rfl rfl rfl ?_
            refine oe_vg rfl (ev_iaddr_sl (by assumption) rfl rfl (by first | omega | (simp; omega))) rfl ?_
            refine oe_vg rfl rfl rfl ?_
            refine oe_vg rfl (ev_load1 rfl (rd_iptr hr2)) rfl ?_
            refine oe_vg rfl (ev_len_sl (by assumption) rfl) rfl ?_
            refine oe_vg rfl (ev_gtN (r := false) rfl rfl (decide_eq_false (by first | omega | (simp; omega)))) rfl ?_
            refine oe_v rfl rfl ?_
            refine oe_nil rfl rfl ?_
            refine we_false rfl (we_skip ?_)
            refine we_region ?_
            refine oe_v rfl rfl ?_
            refine oe_v (ev_add rfl rfl (by omega)) rfl ?_
            refine oe_v rfl rfl ?_
            refine oe_nil rfl rfl ?_
            exact ⟨rows.length - (i + 1), by omega, hx.trans hx1, i + 1, rfl, by omega, rfl, rfl, rfl, trivial⟩
      · 
        refine oe_v rfl rfl ?_
        refine oe_v rfl rfl ?_
        refine oe_v (ev_len_sl (by assumption) rfl) rfl ?_
        refine oe_v (ev_ltN (r := true) rfl rfl (decide_eq_true (by first | omega | (simp; omega)))) rfl ?_
        refine oe_v rfl rfl ?_
        refine oe_vg rfl rfl rfl ?_
        refine oe_vg rfl (ev_ltN (r := false) rfl rfl (decide_eq_false (by first | omega | (simp; omega)))) rfl ?_
        refine oe_v rfl rfl ?_
        refine oe_nil rfl rfl ?_
        refine we_false rfl (we_exit ?_)
        exact ⟨hx, rfl, trivial⟩
    · 
      refine oe_v rfl rfl ?_
      refine oe_v rfl rfl ?_
      refine oe_v (ev_len_sl (by assumption) rfl) rfl ?_
      refine oe_v (ev_ltN (r := false) rfl rfl (decide_eq_false (by first | omega | (simp; omega)))) rfl ?_
      refine oe_v rfl rfl ?_
      refine oe_no rfl rfl rfl ?_
      refine oe_no rfl rfl rfl ?_
      refine oe_v rfl rfl ?_
      refine oe_nil rfl rfl ?_
      refine we_false rfl (we_exit ?_)
      exact ⟨hx, rfl, trivial⟩
  · rintro e σ' ⟨hx, hf⟩
    refine we_less _ hf (we_seq (we_region ?_))
    by_cases h : 60 ≤ rows.length
    · 
      refine oe_v rfl rfl ?_
      refine oe_v (ev_geN (r := true) rfl rfl (decide_eq_true (by first | omega | (simp; omega)))) rfl ?_
      refine oe_v rfl rfl ?_
      refine oe_nil rfl rfl ?_
      refine we_ret ?_
      exact ⟨.inl rfl, _, rfl, hx, true, rfl, fun h => by cases h⟩
    · 
      refine oe_v rfl rfl ?_
      refine oe_v (ev_geN (r := false) rfl rfl (decide_eq_false (by first | omega | (simp; omega)))) rfl ?_
      refine oe_v rfl rfl ?_
      refine oe_nil rfl rfl ?_
      refine we_ret ?_
      exact ⟨.inl rfl, _, rfl, hx, false, rfl, fun _ => by omega⟩
end Am
namespace Am
open Go AmIr
variable {E : Env} {σ : St}
set_option maxRecDepth 100000
/-! ### GreatMatches -/
def esum (l : List Evs) : Nat := (l.map fun s => s.l.length).sum
def Mt.cost (m : Mt) : Nat := 1 + m.l.length + esum m.l
def costs (l : List Mt) : Nat := (l.map Mt.cost).sum
theorem esum_take {l : List Evs} {i : Nat} (h : i < l.length) : esum (l.take (i + 1)) = esum (l.take i) + l[i].l.length := by
  unfold esum; rw [List.take_succ_eq_append_getElem h, List.map_append, List.sum_append]; simp only [List.map_cons, List.map_nil, List.sum_cons, List.sum_nil, Nat.add_zero]
theorem costs_take {l : List Mt} {i : Nat} (h : i < l.length) : costs (l.take (i + 1)) = costs (l.take i) + l[i].cost := by
  unfold costs; rw [List.take_succ_eq_append_getElem h, List.map_append, List.sum_append]; simp only [List.map_cons, List.map_nil, List.sum_cons, List.sum_nil, Nat.add_zero]
theorem greatMatches_ok (h50 : Has E 50 af50) (h27 : Has E 27 af27) (h16 : Has E 16 af16) (s : Mts) (hok : s.Ok) : CallX E 16 [s.v] σ (fun v _ => ∃ b, v = .bool b ∧ (b = false → costs s.l < 200)) := by
  have hsl := hok.sl
  have hlen := hsl.len
  have hrow : ∀ j (hj : j < s.l.length), cellsAt (s.l.map Mt.row).flatten (j * 2 + 1) 1 = some [s.l[j].v] := by
    intro j hj
    exact cell_at hsl.each (List.getElem?_eq_getElem (by simpa using hj)) (by simp [Mt.row])
  have hl : (s.l.map Mt.row).length = s.l.length := by simp
  generalize s.l.map Mt.row = rows at *
  rw [reach_eq] at hlen
  suffices h : ∃ v σ', CallA E 16 [s.v] σ v σ' ∧ (Ext σ σ' ∧ ∃ b, v = .bool b ∧ (b = false → costs s.l < 200)) by
    obtain ⟨v, σ', h1, h2, h3⟩ := h; exact ⟨v, _, h1, h2, h3⟩
  refine ce_fn (n := 61) (vs := [0, 2, 3, 4, 5, 13, 36, 58]) (by rw [h16.hook]) h16.fn rfl rfl ?_
  refine we_seq (we_region ?_)
  refine oe_v rfl rfl ?_
  refine oe_nil rfl rfl ?_
  refine we_seq (we_region ?_)
  refine oe_v rfl rfl ?_
  refine oe_nil rfl rfl ?_
  refine we_seq (we_cut (fun e σ' => Ext σ σ' ∧ ∃ n : Nat, (n < 200 → n = costs s.l) ∧ forget e [(3, .int .i64 (.ofNat n))]) ?_ ?_)
  · refine we_seq (we_region ?_)
    refine oe_v rfl rfl ?_
    refine oe_nil rfl rfl ?_
    refine we_block (we_inv (fun k e σ' => Ext σ σ' ∧ ∃ i n : Nat, k = rows.length - i ∧ i ≤ rows.length ∧ n ≤ 70368744177664 ∧ (n < 200 → n = costs (s.l.take i)) ∧ forget e [(4, .int .i64 (.ofNat i)), (3, .int .i64 (.ofNat n)), (0, s.v)]) rows.length ⟨Ext.refl σ, 0, 0, by omega, by omega, by omega, fun _ => by simp [costs], rfl, rfl, rfl, trivial⟩ ?_)
    rintro k e σ' ⟨hx, i, n, rfl, hi, hn, hc, hf⟩
    refine we_less _ hf (we_seq (we_seq (we_region ?_)))
    by_cases h1 : i < rows.length
    · by_cases h2 : n < 200
      · have hi' : i < s.l.length := by omega
        have hr := hrow i hi'
        have hm := hok.each _ (List.getElem_mem hi')
        have hct := costs_take hi'
        generalize s.l[i] = m at *
        have hms := hm.sl
        have hml := hms.len
        have hev : ∀ j (hj : j < m.l.length), cellsAt (m.l.map fun s => [s.v]).flatten (j * 1) 1 = some [m.l[j].v] := by
          intro j hj
          exact cell_at (o := 0) hms.each (List.getElem?_eq_getElem (by simpa using hj)) (by simp)
        have hel : (m.l.map fun s => [s.v]).length = m.l.length := by simp
        generalize (m.l.map fun s => [s.v]) = mrows at *
        rw [reach_eq] at hml
        refine oe_v rfl rfl ?_
        refine oe_v rfl rfl ?_
        refine oe_v (ev_len_sl (by assumption) rfl) rfl ?_
        refine oe_v (ev_ltN (r := true) rfl rfl (decide_eq_true (by first | omega | (simp; omega)))) rfl ?_
        refine oe_v rfl rfl ?_
        refine oe_vg rfl rfl rfl ?_
        refine oe_vg rfl (ev_ltN (r := true) rfl rfl (decide_eq_true (by first | omega | (simp; omega)))) rfl ?_
        refine oe_v rfl rfl ?_
        refine oe_nil rfl rfl ?_
        refine we_true rfl (we_skip ?_)
        refine we_seq (we_block (we_seq (we_region ?_)))
        refine oe_v rfl rfl ?_
        refine oe_v (ev_add rfl rfl (by omega)) rfl ?_
        refine oe_v rfl rfl ?_
        refine oe_v rfl rfl ?_
        refine oe_v (ev_iaddr_sl (by assumption) rfl rfl (by first | omega | (simp; omega))) rfl ?_
        refine oe_v rfl rfl ?_
        refine oe_v (ev_load1 rfl (rd_iptr hr)) rfl ?_
        refine oe_v (ev_len_sl (by assumption) rfl) rfl ?_
        refine oe_v (ev_add rfl rfl (by omega)) rfl ?_
        refine oe_v rfl rfl ?_
        refine oe_nil rfl rfl ?_
        refine we_cut (fun e σ' => Ext σ σ' ∧ ∃ n : Nat, n ≤ 70368744177664 ∧ (n < 200 → n = costs (s.l.take (i + 1))) ∧ forget e [(4, .int .i64 (.ofNat i)), (3, .int .i64 (.ofNat n)), (0, s.v)]) ?_ ?_
        · refine we_seq (we_region ?_)
          refine oe_v rfl rfl ?_
          refine oe_nil rfl rfl ?_
          refine we_block (we_inv (fun k e σ' => Ext σ σ' ∧ ∃ j n : Nat, k = m.l.length - j ∧ j ≤ m.l.length ∧ n ≤ 70368744177664 ∧ (n < 200 → n = costs (s.l.take i) + 1 + m.l.length + esum (m.l.take j)) ∧ forget e [(5, .int .i64 (.ofNat j)), (4, .int .i64 (.ofNat i)), (3, .int .i64 (.ofNat n)), (0, s.v)]) m.l.length ⟨hx, 0, n + 1 + mrows.length, by omega, by omega, by omega, fun _ => by have := hc h2; simp [esum]; omega, rfl, rfl, rfl, rfl, trivial⟩ ?_)
          rintro k e σ2 ⟨hx2, j, n2, rfl, hj, hn2, hc2, hf2⟩
          refine we_less _ hf2 (we_seq (we_seq (we_region ?_)))
          by_cases h3 : j < m.l.length
          · by_cases h4 : n2 < 200
            · have hes := hm.each _ (List.getElem_mem h3)
              have hre := hev j h3
              have het := esum_take h3
              have hsl2 := hes.sl
              have hsl2l := hsl2.len
              have hsl2n : (m.l[j].l.map Ev.row).length = m.l[j].l.length := by simp
              rw [reach_eq] at hsl2l
              obtain ⟨v, σ3, hcall, hx3, b, rfl, hb⟩ := great_ok (E := E) (σ := σ2) h50 h27 m.l[j] hes
              refine oe_v rfl rfl ?_
              refine oe_v rfl rfl ?_
              refine oe_v rfl rfl ?_
              refine oe_v (ev_iaddr_sl (by assumption) rfl rfl (by first | omega | (simp; omega))) rfl ?_
              refine oe_v rfl rfl ?_
              refine oe_v (ev_load1 rfl (rd_iptr hr)) rfl ?_
              refine oe_v (ev_len_sl (by assumption) rfl) rfl ?_
              refine oe_v (ev_ltN (r := true) rfl rfl (decide_eq_true (by first | omega | (simp; omega)))) rfl ?_
              refine oe_v rfl rfl ?_
              refine oe_vg rfl rfl rfl ?_
              refine oe_vg rfl (ev_ltN (r := true) rfl rfl (decide_eq_true (by first | omega | (simp; omega)))) rfl ?_
              refine oe_v rfl rfl ?_
              refine oe_nil rfl rfl ?_
              refine we_true rfl (we_skip ?_)
              refine we_seq (we_block (we_seq (we_region ?_)))
              refine oe_v rfl rfl ?_
              refine oe_v rfl rfl ?_
              refine oe_v rfl rfl ?_
              refine oe_v (ev_iaddr_sl (by assumption) rfl rfl (by first | omega | (simp; omega))) rfl ?_
              refine oe_v rfl rfl ?_
              refine oe_v (ev_load1 rfl (rd_iptr hr)) rfl ?_
              refine oe_v rfl rfl ?_
              refine oe_v (ev_iaddr_sl (by assumption) rfl rfl (by first | omega | (simp; omega))) rfl ?_
              refine oe_v (ev_load1 rfl (rd_iptr hre)) rfl ?_
              refine oe_v (ev_len_sl (by assumption) rfl) rfl ?_
              refine oe_v (ev_add rfl rfl (by omega)) rfl ?_
              refine oe_v rfl rfl ?_
              refine oe_nil rfl rfl ?_
              refine we_seq (we_region ?_)
              refine oe_v rfl rfl ?_
              refine oe_v rfl rfl ?_
              refine oe_v (ev_iaddr_sl (by assumption) rfl rfl (by first | omega | (simp; omega))) rfl ?_
              refine oe_v rfl rfl ?_
              refine oe_v (ev_load1 rfl (rd_iptr hr)) rfl ?_
              refine oe_v rfl rfl ?_
              refine oe_v (ev_iaddr_sl (by assumption) rfl rfl (by first | omega | (simp; omega))) rfl ?_
              refine oe_v (ev_load1 rfl (rd_iptr hre)) rfl ?_
              refine oe_call rfl hcall rfl ?_
              refine oe_nil rfl rfl ?_
              cases b with
              | true =>
                refine we_true rfl (we_seq (we_region ?_))
                refine oe_v rfl rfl ?_
                refine oe_nil rfl rfl ?_
                refine we_ret ?_
                exact ⟨.inl rfl, _, rfl, hx2.trans hx3, true, rfl, fun h => by cases h⟩
              | false =>
                refine we_false rfl (we_skip ?_)
                refine we_region ?_
                refine oe_v rfl rfl ?_
                refine oe_v (ev_add rfl rfl (by omega)) rfl ?_
                refine oe_v rfl rfl ?_
                refine oe_nil rfl rfl ?_
                exact ⟨m.l.length - (j + 1), by omega, hx2.trans hx3, j + 1, _, rfl, by omega, by omega, fun _ => by have := hc2 h4; omega, rfl, rfl, rfl, rfl, trivial⟩
            · 
              refine oe_v rfl rfl ?_
              refine oe_v rfl rfl ?_
              refine oe_v rfl rfl ?_
              refine oe_v (ev_iaddr_sl (by assumption) rfl rfl (by first | omega | (simp; omega))) rfl ?_
              refine oe_v rfl rfl ?_
              refine oe_v (ev_load1 rfl (rd_iptr hr)) rfl ?_
              refine oe_v (ev_len_sl (by assumption) rfl) rfl ?_
              refine oe_v (ev_ltN (r := true) rfl rfl (decide_eq_true (by first | omega | (simp; omega)))) rfl ?_
              refine oe_v rfl rfl ?_
              refine oe_vg rfl rfl rfl ?_
              refine oe_vg rfl (ev_ltN (r := false) rfl rfl (decide_eq_false (by first | omega | (simp; omega)))) rfl ?_
              refine oe_v rfl rfl ?_
              refine oe_nil rfl rfl ?_
              refine we_false rfl (we_exit ?_)
              exact ⟨hx2, n2, hn2, fun h => absurd h h4, rfl, rfl, rfl, trivial⟩
          · 
            refine oe_v rfl rfl ?_
            refine oe_v rfl rfl ?_
            refine oe_v rfl rfl ?_
            refine oe_v (ev_iaddr_sl (by assumption) rfl rfl (by first | omega | (simp; omega))) rfl ?_
            refine oe_v rfl rfl ?_
            refine oe_v (ev_load1 rfl (rd_iptr hr)) rfl ?_
            refine oe_v (ev_len_sl (by assumption) rfl) rfl ?_
            refine oe_v (ev_ltN (r := false) rfl rfl (decide_eq_false (by first | omega | (simp; omega)))) rfl ?_
            refine oe_v rfl rfl ?_
            refine oe_no rfl rfl rfl ?_
            refine oe_no rfl rfl rfl ?_
            refine oe_v rfl rfl ?_
            refine oe_nil rfl rfl ?_
            refine we_false rfl (we_exit ?_)
            refine ⟨hx2, n2, hn2, fun h => ?_, rfl, rfl, rfl, trivial⟩
            have := hc2 h
            have e := List.take_of_length_le (l := m.l) (i := j) (by omega)
            rw [e] at this
            rw [hct, this]; unfold Mt.cost; omega
        · rintro e σ2 ⟨hx2, n2, hn2, hc2, hf2⟩
          refine we_less _ hf2 (we_region ?_)
          refine oe_v rfl rfl ?_
          refine oe_v (ev_add rfl rfl (by omega)) rfl ?_
          refine oe_v rfl rfl ?_
          refine oe_nil rfl rfl ?_
          exact ⟨rows.length - (i + 1), by omega, hx2, i + 1, n2, rfl, by omega, hn2, hc2, rfl, rfl, rfl, trivial⟩
      · 
        refine oe_v rfl rfl ?_
        refine oe_v rfl rfl ?_
        refine oe_v (ev_len_sl (by assumption) rfl) rfl ?_
        refine oe_v (ev_ltN (r := true) rfl rfl (decide_eq_true (by first | omega | (simp; omega)))) rfl ?_
        refine oe_v rfl rfl ?_
        refine oe_vg rfl rfl rfl ?_
        refine oe_vg rfl (ev_ltN (r := false) rfl rfl (decide_eq_false (by first | omega | (simp; omega)))) rfl ?_
        refine oe_v rfl rfl ?_
        refine oe_nil rfl rfl ?_
        refine we_false rfl (we_exit ?_)
        exact ⟨hx, n, fun h => absurd h h2, rfl, trivial⟩
    · 
      refine oe_v rfl rfl ?_
      refine oe_v rfl rfl ?_
      refine oe_v (ev_len_sl (by assumption) rfl) rfl ?_
      refine oe_v (ev_ltN (r := false) rfl rfl (decide_eq_false (by first | omega | (simp; omega)))) rfl ?_
      refine oe_v rfl rfl ?_
      refine oe_no rfl rfl rfl ?_
      refine oe_no rfl rfl rfl ?_
      refine oe_v rfl rfl ?_
      refine oe_nil rfl rfl ?_
      refine we_false rfl (we_exit ?_)
      refine ⟨hx, n, fun h => ?_, rfl, trivial⟩
      have := hc h
      rwa [List.take_of_length_le (by omega)] at this
  · rintro e σ' ⟨hx, n, hn, hf⟩
    refine we_less _ hf (we_seq (we_region ?_))
    by_cases h : 200 ≤ n
    · 
      refine oe_v rfl rfl ?_
      refine oe_v (ev_geN (r := true) rfl rfl (decide_eq_true (by first | omega | (simp; omega)))) rfl ?_
      refine oe_v rfl rfl ?_
      refine oe_nil rfl rfl ?_
      refine we_ret ?_
      exact ⟨.inl rfl, _, rfl, hx, true, rfl, fun h => by cases h⟩
    · 
      refine oe_v rfl rfl ?_
      refine oe_v (ev_geN (r := false) rfl rfl (decide_eq_false (by first | omega | (simp; omega)))) rfl ?_
      refine oe_v rfl rfl ?_
      refine oe_nil rfl rfl ?_
      refine we_ret ?_
      exact ⟨.inl rfl, _, rfl, hx, false, rfl, fun _ => by have := hn (by omega); omega⟩
end Am
namespace Am
open Go AmIr
variable {E : Env} {σ : St}
set_option maxRecDepth 100000
def zEv : List PV := [.int .i64 (.ofNat 0), .int .i64 (.ofNat 0), .int .i64 (.ofNat 0), .str ⟨#[]⟩, .nils]
/-! ### slices.Grow(nil, n), slices.Concat -/
theorem ev_appN {ρ : Regs} {zero : List PV} {esz bytes n : Nat} {s x : Src} {sv r : PV} {σ' : St} (hs : ρ.src s = some sv) (hx : ρ.src x = some (.int .i64 (.ofNat n))) (hz : (Nat.beq zero.length esz && roomy n bytes) = true)
    (ha : appendV σ esz bytes sv n (repl zero n) = some (r, σ')) : opEval (.appendN zero esz bytes s x) ρ σ = some (.v r σ') := by
  simp only [opEval, evAppendN, hs, hx, asNat, hz, ha]
theorem ev_sub0 {ρ : Regs} {x y : Src} {a : Nat} (hx : ρ.src x = some (.int .i64 (.ofNat a))) (hy : ρ.src y = some (.int .i64 (.ofNat 0))) (h : a < 9223372036854775808) : opEval (.bin .sub x y) ρ σ = some (.v (.int .i64 (.ofNat a)) σ) := by
  have e1 : Int.sub (.ofNat a) (.ofNat 0) = .ofNat a := by show (a : Int) - 0 = a; omega
  have e2 : eqK .i64 .i64 = true := rfl
  simp only [opEval, evBin, hx, hy, bin, e2, binInt, e1, wrap_nat h]
theorem ev_slice0 {ρ : Regs} {x : Src} {b n esz : Nat} {k : IntKind} {hi : Src} (hs : ρ.src x = some (.slice b 0 n esz none)) (he : Nat.blt 0 esz = true) (hh : ρ.src hi = some (.int k (.ofNat 0))) :
    opEval (.slic (.slice esz) x none (some hi) none) ρ σ = some (.v (.slice b 0 0 esz none) σ) := by
  have e1 : (Nat.beq esz esz && Nat.blt 0 esz) = true := by rw [he]; simp
  have e2 : Nat.ble 0 0 = true := rfl
  have e3 : Nat.ble 0 n = true := by simp
  simp [opEval, evSlic, hs, optS, hh, asNat, sliceV, he, e2, e3]
theorem growNil_ok (h43 : Has E 43 af43) : CallA E 43 [.nils, .int .i64 (.ofNat 0)] σ .nils σ := by
  suffices h : ∃ v σ', CallA E 43 [.nils, .int .i64 (.ofNat 0)] σ v σ' ∧ (v = .nils ∧ σ' = σ) by
    obtain ⟨v, σ', h1, rfl, rfl⟩ := h; exact h1
  refine ce_fn (n := 27) (vs := [0, 1, 4, 6, 16]) (by rw [h43.hook]) h43.fn rfl rfl ?_
  refine we_seq (we_region ?_)
  refine oe_v rfl rfl ?_
  refine oe_nil rfl rfl ?_
  refine we_seq (we_seq (we_region ?_))
  refine oe_v rfl rfl ?_
  refine oe_v (ev_ltN (r := false) rfl rfl (decide_eq_false (by first | omega | (simp; omega)))) rfl ?_
  refine oe_nil rfl rfl ?_
  refine we_false rfl (we_skip ?_)
  refine we_seq (we_seq (we_region ?_))
  refine oe_v rfl rfl ?_
  refine oe_v rfl rfl ?_
  refine oe_v rfl rfl ?_
  refine oe_v rfl rfl ?_
  refine oe_v rfl rfl ?_
  refine oe_v (ev_sub0 (a := 0) rfl rfl (by decide)) rfl ?_
  refine oe_v (ev_sub0 rfl rfl (by first | omega | decide)) rfl ?_
  refine oe_v rfl rfl ?_
  refine oe_nil rfl rfl ?_
  refine we_seq (we_region ?_)
  refine oe_v rfl rfl ?_
  refine oe_v (ev_gtN (r := false) rfl rfl (decide_eq_false (by first | omega | (simp; omega)))) rfl ?_
  refine oe_nil rfl rfl ?_
  refine we_false rfl (we_skip ?_)
  refine we_seq (we_region ?_)
  refine oe_v rfl rfl ?_
  refine oe_v rfl rfl ?_
  refine oe_nil rfl rfl ?_
  refine we_ret ?_
  exact ⟨.inl rfl, _, rfl, rfl, rfl⟩
theorem grow_ok (h43 : Has E 43 af43) {n : Nat} (h0 : 0 < n) (hn : n < 65536) : CallA E 43 [.nils, .int .i64 (.ofNat n)] σ (.slice σ.next 0 0 5 none) (σ.new (.cells (repl zEv n) true)) := by
  suffices h : ∃ v σ', CallA E 43 [.nils, .int .i64 (.ofNat n)] σ v σ' ∧ (v = .slice σ.next 0 0 5 none ∧ σ' = σ.new (.cells (repl zEv n) true)) by
    obtain ⟨v, σ', h1, rfl, rfl⟩ := h; exact h1
  refine ce_fn (n := 27) (vs := [0, 1, 4, 6, 16]) (by rw [h43.hook]) h43.fn rfl rfl ?_
  refine we_seq (we_region ?_)
  refine oe_v rfl rfl ?_
  refine oe_nil rfl rfl ?_
  refine we_seq (we_seq (we_region ?_))
  refine oe_v rfl rfl ?_
  refine oe_v (ev_ltN (r := false) rfl rfl (decide_eq_false (by first | omega | (simp; omega)))) rfl ?_
  refine oe_nil rfl rfl ?_
  refine we_false rfl (we_skip ?_)
  refine we_seq (we_seq (we_region ?_))
  refine oe_v rfl rfl ?_
  refine oe_v rfl rfl ?_
  refine oe_v rfl rfl ?_
  refine oe_v rfl rfl ?_
  refine oe_v rfl rfl ?_
  refine oe_v (ev_sub0 (a := 0) rfl rfl (by decide)) rfl ?_
  refine oe_v (ev_sub0 rfl rfl (by first | omega | decide)) rfl ?_
  refine oe_v rfl rfl ?_
  refine oe_nil rfl rfl ?_
  refine we_seq (we_region ?_)
  refine oe_v rfl rfl ?_
  refine oe_v (ev_gtN (r := true) rfl rfl (decide_eq_true (by first | omega | (simp; omega)))) rfl ?_
  refine oe_nil rfl rfl ?_
  refine we_true rfl (we_region ?_)
  refine oe_v rfl rfl ?_
  refine oe_v rfl rfl ?_
  refine oe_v rfl rfl ?_
  refine oe_v rfl rfl ?_
  refine oe_v rfl rfl ?_
  refine oe_v (ev_appN (zero := zEv) rfl rfl (by simp [roomy_of (n := n) (bytes := 64) (by omega) (by omega)]; rfl) (app_nil (by omega) (by rw [repl_len]; rfl) (repl_one rfl n) h0 (by omega) (by omega))) rfl ?_
  refine oe_v rfl rfl ?_
  refine oe_v rfl rfl ?_
  refine oe_v (ev_slice0 rfl rfl rfl) rfl ?_
  refine oe_v rfl rfl ?_
  refine oe_nil rfl rfl ?_
  refine we_seq (we_region ?_)
  refine oe_v rfl rfl ?_
  refine oe_v rfl rfl ?_
  refine oe_nil rfl rfl ?_
  refine we_ret ?_
  exact ⟨.inl rfl, _, rfl, rfl, rfl⟩
end Am
namespace Am
open Go AmIr
variable {E : Env} {σ : St}
set_option maxRecDepth 100000
def evRows (l : List Ev) : List PV := (l.map Ev.row).flatten
def allEvs (l : List Evs) : List Ev := l.flatMap (·.l)
theorem evRows_len (l : List Ev) : (evRows l).length = l.length * 5 := by
  unfold evRows; rw [flat_len (n := 5)]
  · simp
  · intro c hc; obtain ⟨e, _, rfl⟩ := List.mem_map.1 hc; rfl
theorem evRows_app (a b : List Ev) : evRows (a ++ b) = evRows a ++ evRows b := by simp [evRows]
theorem allEvs_len (l : List Evs) : (allEvs l).length = esum l := by simp [allEvs, esum, List.length_flatMap]
theorem allEvs_take {l : List Evs} {i : Nat} (h : i < l.length) : allEvs (l.take (i + 1)) = allEvs (l.take i) ++ l[i].l := by
  unfold allEvs; rw [List.take_succ_eq_append_getElem h, List.flatMap_append]; simp
theorem Sl.one {esz bytes : Nat} {rows : List (List PV)} {v : PV} (h : Sl esz bytes rows v) : v.one = true := by
  rcases h with ⟨rfl, _⟩ | ⟨_, rfl, _⟩ <;> rfl
theorem evRows_one {l : List Ev} (h : ∀ e ∈ l, e.Ok) : allOne (evRows l) = true := by
  refine allOne_flat fun c hc => ?_
  obtain ⟨e, he, rfl⟩ := List.mem_map.1 hc
  simp [Ev.row, allOne, PV.one, (h e he).vals.one]
  rcases (h e he).vals with ⟨h, _⟩ | ⟨_, h, _⟩ <;> rw [h]
theorem esum_le {l : List Evs} {i : Nat} (h : i ≤ l.length) : esum (l.take i) ≤ esum l := by
  have := congrArg esum (List.take_append_drop i l)
  unfold esum at *
  rw [List.map_append, List.sum_append] at this
  omega
def ConcatR (σ : St) (m : Mt) (v : PV) (σ' : St) : Prop :=
  (esum m.l = 0 ∧ v = .nils) ∨ (0 < esum m.l ∧ ∃ b, σ.next ≤ b ∧ b < σ'.next ∧ v = .slice b 0 (esum m.l) 5 none ∧ σ'.get b = some (.cells (evRows (allEvs m.l)) true))
theorem concat_ok (h43 : Has E 43 af43) (h20 : Has E 20 af20) (m : Mt) (hok : m.Ok) (hT : esum m.l < 200) : CallX E 20 [m.v] σ (fun v σ' => ConcatR σ m v σ') := by
  have hms := hok.sl
  have hml := hms.len
  have hev : ∀ j (hj : j < m.l.length), cellsAt (m.l.map fun s => [s.v]).flatten (j * 1) 1 = some [m.l[j].v] := by
    intro j hj
    exact cell_at (o := 0) hms.each (List.getElem?_eq_getElem (by simpa using hj)) (by simp)
  have hel : (m.l.map fun s => [s.v]).length = m.l.length := by simp
  generalize (m.l.map fun s => [s.v]) = mrows at *
  rw [reach_eq] at hml
  suffices h : ∃ v σ', CallA E 20 [m.v] σ v σ' ∧ (Ext σ σ' ∧ ConcatR σ m v σ') by
    obtain ⟨v, σ', h1, h2, h3⟩ := h; exact ⟨v, _, h1, h2, h3⟩
  refine ce_fn (n := 36) (vs := [0, 2, 3, 5, 6, 8, 9, 10, 11, 12, 20, 25, 26, 27, 28]) (by rw [h20.hook]) h20.fn rfl rfl ?_
  refine we_seq (we_region ?_)
  refine oe_v rfl rfl ?_
  refine oe_nil rfl rfl ?_
  refine we_seq (we_region ?_)
  refine oe_v rfl rfl ?_
  refine oe_nil rfl rfl ?_
  refine we_seq (we_cut (fun e σ' => σ' = σ ∧ forget e [(3, .int .i64 (.ofNat (esum m.l))), (0, m.v)]) ?_ ?_)
  · refine we_seq (we_region ?_)
    refine oe_v rfl rfl ?_
    refine oe_v (ev_len_sl (by assumption) rfl) rfl ?_
    refine oe_v rfl rfl ?_
    refine oe_nil rfl rfl ?_
    refine we_block (we_inv (fun k e σ' => σ' = σ ∧ ∃ i : Nat, k = m.l.length - i ∧ i ≤ m.l.length ∧ forget e [(11, .int .i64 (.ofNat i)), (10, .int .i64 (.ofNat mrows.length)), (9, m.v), (3, .int .i64 (.ofNat (esum (m.l.take i)))), (0, m.v)]) m.l.length ⟨rfl, 0, by omega, by omega, rfl, rfl, rfl, rfl, rfl, trivial⟩ ?_)
    rintro k e σ' ⟨rfl, i, rfl, hi, hf⟩
    refine we_less _ hf (we_seq (we_region ?_))
    by_cases h1 : i < m.l.length
    · have hre := hev i h1
      have hes := hok.each _ (List.getElem_mem h1)
      have hsl2 := hes.sl
      have hsl2l := hsl2.len
      have hsl2n : (m.l[i].l.map Ev.row).length = m.l[i].l.length := by simp
      have het := esum_take h1
      have hle := esum_le (l := m.l) (i := i + 1) (by omega)
      refine oe_v (ev_ltN (r := true) rfl rfl (decide_eq_true (by first | omega | (simp; omega)))) rfl ?_
      refine oe_nil rfl rfl ?_
      refine we_seq (we_true rfl (we_skip ?_))
      refine we_seq (we_block (we_seq (we_region ?_)))
      refine oe_v (ev_iaddr_sl (by assumption) rfl rfl (by first | omega | (simp; omega))) rfl ?_
      refine oe_v (ev_load1 rfl (rd_iptr hre)) rfl ?_
      refine oe_v rfl rfl ?_
      refine oe_nil rfl rfl ?_
      refine we_seq (we_region ?_)
      refine oe_v rfl rfl ?_
      refine oe_v rfl rfl ?_
      refine oe_v (ev_len_sl (by assumption) rfl) rfl ?_
      refine oe_v (ev_add rfl rfl (by omega)) rfl ?_
      refine oe_v rfl rfl ?_
      refine oe_nil rfl rfl ?_
      refine we_seq (we_region ?_)
      refine oe_v rfl rfl ?_
      refine oe_v (ev_ltN (r := false) rfl rfl (decide_eq_false (by first | omega | (simp; omega)))) rfl ?_
      refine oe_nil rfl rfl ?_
      refine we_false rfl (we_skip ?_)
      refine we_region ?_
      refine oe_v (ev_add rfl rfl (by omega)) rfl ?_
      refine oe_v rfl rfl ?_
      refine oe_nil rfl rfl ?_
      refine ⟨m.l.length - (i + 1), by omega, rfl, i + 1, rfl, by omega, rfl, rfl, rfl, ?_, rfl, trivial⟩
      rw [het, ← hsl2n]; rfl
    · 
      refine oe_v (ev_ltN (r := false) rfl rfl (decide_eq_false (by first | omega | (simp; omega)))) rfl ?_
      refine oe_nil rfl rfl ?_
      refine we_seq (we_false rfl (we_exit ?_))
      refine ⟨rfl, ?_, rfl, trivial⟩
      have e := List.take_of_length_le (l := m.l) (i := i) (by omega)
      rw [e]; rfl
  · rintro e σ' ⟨rfl, hf⟩
    refine we_less _ hf ?_
    -- the row that grows
    let Own : Nat → PV → St → Prop := fun i v σ2 => (esum m.l = 0 ∧ v = .nils) ∨ (0 < esum m.l ∧ ∃ b, σ'.next ≤ b ∧ b < σ2.next ∧ v = .slice b 0 (esum (m.l.take i)) 5 none ∧ σ2.get b = some (.cells (evRows (allEvs (m.l.take i)) ++ repl zEv (esum m.l - esum (m.l.take i))) true))
    obtain ⟨v0, σ2, hcall, hx2, hown⟩ : ∃ v0 σ2, CallA E 43 [.nils, .int .i64 (.ofNat (esum m.l))] σ' v0 σ2 ∧ Ext σ' σ2 ∧ Own 0 v0 σ2 := by
      rcases Nat.eq_zero_or_pos (esum m.l) with h | h
      · rw [h]; exact ⟨_, _, growNil_ok h43, Ext.refl _, .inl ⟨h, rfl⟩⟩
      · exact ⟨_, _, grow_ok h43 h (by omega), Ext.new _ _, .inr ⟨h, σ'.next, Nat.le_refl _, by simp, rfl, by simp [evRows, allEvs, esum]⟩⟩
    refine we_seq (we_region ?_)
    refine oe_v rfl rfl ?_
    refine oe_call rfl hcall rfl ?_
    refine oe_v rfl rfl ?_
    refine oe_nil rfl rfl ?_
    refine we_seq (we_cut (fun e σ3 => Ext σ' σ3 ∧ ∃ v, Own m.l.length v σ3 ∧ forget e [(6, v)]) ?_ ?_)
    · refine we_seq (we_region ?_)
      refine oe_v rfl rfl ?_
      refine oe_v (ev_len_sl (by assumption) rfl) rfl ?_
      refine oe_v rfl rfl ?_
      refine oe_nil rfl rfl ?_
      refine we_block (we_inv (fun k e σ3 => Ext σ' σ3 ∧ ∃ i v, k = m.l.length - i ∧ i ≤ m.l.length ∧ Own i v σ3 ∧ forget e [(27, .int .i64 (.ofNat i)), (26, .int .i64 (.ofNat mrows.length)), (25, m.v), (6, v)]) m.l.length ⟨hx2, 0, v0, by omega, by omega, hown, rfl, rfl, rfl, rfl, trivial⟩ ?_)
      rintro k e σ3 ⟨hx3, i, v, rfl, hi, how, hf3⟩
      refine we_less _ hf3 (we_seq (we_region ?_))
      by_cases h1 : i < m.l.length
      · have hre := hev i h1
        have hes := hok.each _ (List.getElem_mem h1)
        have hsl2 := hes.sl
        have hsl2n : (m.l[i].l.map Ev.row).length = m.l[i].l.length := by simp
        have het := esum_take h1
        have hat := allEvs_take h1
        have hle := esum_le (l := m.l) (i := i + 1) (by omega)
        obtain ⟨hlen, hcells⟩ := cells_sl (σ := σ3) hsl2
        obtain ⟨v', σ4, happ, hx4, how'⟩ : ∃ v' σ4, appendV σ3 5 64 v (m.l[i].l.map Ev.row).length (m.l[i].l.map Ev.row).flatten = some (v', σ4) ∧ Ext σ' σ4 ∧ Own (i + 1) v' σ4 := by
          rcases how with ⟨hz, rfl⟩ | ⟨hp, b, hb1, hb2, rfl, hg⟩
          · have hn0 : m.l[i].l = [] := List.eq_nil_of_length_eq_zero (by omega)
            rw [hn0]
            exact ⟨_, _, app_nil0 (by omega), hx3, .inl ⟨hz, rfl⟩⟩
          · have e1 : esum m.l - esum (m.l.take i) = m.l[i].l.length + (esum m.l - esum (m.l.take (i + 1))) := by omega
            rw [e1, repl_add, ← List.append_assoc] at hg
            have hl2 : (evRows m.l[i].l).length = m.l[i].l.length * 5 := evRows_len _
            have := app_in (σ := σ3) (esz := 5) (bytes := 64) (n := m.l[i].l.length) (len := esum (m.l.take i)) (b := b) (new := evRows m.l[i].l) (by omega) hl2 (evRows_one hes.each) (by omega) (by omega) hg
              (by rw [evRows_len, allEvs_len]) (by rw [hl2, repl_len]; rfl)
            rw [hsl2n]
            refine ⟨_, _, this, hx3.set hb1, .inr ⟨hp, b, hb1, by simpa using hb2, by rw [het], ?_⟩⟩
            rw [get_set_self, hat, evRows_app]
        refine oe_v (ev_ltN (r := true) rfl rfl (decide_eq_true (by first | omega | (simp; omega)))) rfl ?_
        refine oe_nil rfl rfl ?_
        refine we_seq (we_true rfl (we_skip ?_))
        refine we_seq (we_block (we_seq (we_region ?_)))
        refine oe_v (ev_iaddr_sl (by assumption) rfl rfl (by first | omega | (simp; omega))) rfl ?_
        refine oe_v (ev_load1 rfl (rd_iptr hre)) rfl ?_
        refine oe_v rfl rfl ?_
        refine oe_nil rfl rfl ?_
        refine we_region ?_
        refine oe_v rfl rfl ?_
        refine oe_v rfl rfl ?_
        refine oe_v (ev_append rfl rfl hlen rfl hcells happ) rfl ?_
        refine oe_v rfl rfl ?_
        refine oe_nil rfl rfl ?_
        refine we_region ?_
        refine oe_v (ev_add rfl rfl (by omega)) rfl ?_
        refine oe_v rfl rfl ?_
        refine oe_nil rfl rfl ?_
        exact ⟨m.l.length - (i + 1), by omega, hx4, i + 1, v', rfl, by omega, how', rfl, rfl, rfl, rfl, trivial⟩
      · 
        refine oe_v (ev_ltN (r := false) rfl rfl (decide_eq_false (by first | omega | (simp; omega)))) rfl ?_
        refine oe_nil rfl rfl ?_
        refine we_seq (we_false rfl (we_exit ?_))
        have : i = m.l.length := by omega
        subst this
        exact ⟨hx3, v, how, rfl, trivial⟩
    · rintro e σ3 ⟨hx3, v, how, hf3⟩
      refine we_less _ hf3 (we_seq (we_region ?_))
      refine oe_v rfl rfl ?_
      refine oe_v rfl rfl ?_
      refine oe_nil rfl rfl ?_
      refine we_ret ?_
      refine ⟨.inl rfl, _, rfl, hx3, ?_⟩
      rcases how with ⟨hz, rfl⟩ | ⟨hp, b, hb1, hb2, rfl, hg⟩
      · exact .inl ⟨hz, rfl⟩
      · refine .inr ⟨hp, b, hb1, hb2, by rw [List.take_length]; rfl, ?_⟩
        rw [List.take_length] at hg
        rw [hg]; simp [repl]
end Am
namespace Am
open Go AmIr
variable {E : Env} {σ : St}
set_option maxRecDepth 100000
/-! ### Told -/
def firstTs (m : Mt) : Int := match allEvs m.l with
  | [] => 0
  | e :: _ => e.ts
def valsCells (m : Mt) : List PV := [.int .i64 (.ofNat 1), .int .i64 (.ofNat (esum m.l)), .str ⟨#[]⟩, .int .i64 (.ofNat 1), .int .i64 (firstTs m), .str ⟨#[]⟩]
def tRow (name : ByteArray) (d : Int) (i : Nat) (m : Mt) (b : Nat) : List PV := [.int .i64 m.done, .int .i64 d, .int .i64 (.ofNat i), .str name, .slice b 0 2 3 (some 2)]
/-- What Told has laid: a row of events, each with its two values. -/
def ToldR (base : Nat) (name : ByteArray) (d : Int) (l : List Mt) (v : PV) (σ : St) : Prop :=
  (v = .nils ∧ l = []) ∨ (0 < l.length ∧ ∃ (b : Nat) (rows : List (List PV)), v = .slice b 0 l.length 5 none ∧ base ≤ b ∧ b < σ.next ∧ σ.get b = some (.cells rows.flatten true) ∧ rows.length = l.length ∧ (∀ c ∈ rows, c.length = 5) ∧
    ∀ i (hi : i < l.length), ∃ bj, base ≤ bj ∧ bj < b ∧ rows[i]? = some (tRow name d i l[i] bj) ∧ σ.get bj = some (.cells (valsCells l[i]) false))
theorem told_app {base : Nat} {name : ByteArray} {d : Int} {l : List Mt} {v : PV} {σ0 σ : St} (m : Mt) (h0 : Ext σ0 σ) (hb : σ0.next = base) (h : ToldR base name d l v σ) (hl : l.length < 200) :
    ∃ v' σ', sliceCells ((σ.new (.cells (valsCells m) false)).new (.cells (tRow name d l.length m σ.next) false)) 1 (.slice (σ.new (.cells (valsCells m) false)).next 0 1 5 (some 1)) = some (tRow name d l.length m σ.next) ∧
      appendV ((σ.new (.cells (valsCells m) false)).new (.cells (tRow name d l.length m σ.next) false)) 5 64 v 1 (tRow name d l.length m σ.next) = some (v', σ') ∧ Ext σ0 σ' ∧ ToldR base name d (l ++ [m]) v' σ' := by
  have hn1 : (tRow name d l.length m σ.next).length = 1 * 5 := rfl
  have hone : allOne (tRow name d l.length m σ.next) = true := rfl
  have hbn : base ≤ σ.next := by rw [← hb]; exact h0.next
  have gv : (σ.new (.cells (valsCells m) false)).get σ.next = some (.cells (valsCells m) false) := get_new_self
  have nv : (σ.new (.cells (valsCells m) false)).next = σ.next + 1 := by simp
  have ov : ∀ b o, b < σ.next → σ.get b = some o → (σ.new (.cells (valsCells m) false)).get b = some o := fun b o h1 h2 => get_new_old h2 h1
  have x1 : Ext σ0 (σ.new (.cells (valsCells m) false)) := h0.add
  generalize σ.new (.cells (valsCells m) false) = σ1 at *
  have g2 : (σ1.new (.cells (tRow name d l.length m σ.next) false)).get σ1.next = some (.cells (tRow name d l.length m σ.next) false) := get_new_self
  have n2 : (σ1.new (.cells (tRow name d l.length m σ.next) false)).next = σ1.next + 1 := by simp
  have o2 : ∀ b o, b < σ1.next → σ1.get b = some o → (σ1.new (.cells (tRow name d l.length m σ.next) false)).get b = some o := fun b o h1 h2 => get_new_old h2 h1
  have x2 : Ext σ0 (σ1.new (.cells (tRow name d l.length m σ.next) false)) := x1.add
  have hsc : sliceCells (σ1.new (.cells (tRow name d l.length m σ.next) false)) 1 (.slice σ1.next 0 1 5 (some 1)) = some (tRow name d l.length m σ.next) := cells_own (post := []) (by rw [List.append_nil]; exact g2) hn1
  generalize σ1.new (.cells (tRow name d l.length m σ.next) false) = σ2 at *
  have gv2 := o2 _ _ (by omega) gv
  rcases h with ⟨rfl, rfl⟩ | ⟨hp, b, rows, rfl, hb1, hb2, hg, hr1, hr2, hr3⟩
  · refine ⟨_, _, hsc, app_nil (by omega) hn1 hone (by omega) (by omega) (by omega), x2.add, .inr ⟨by simp, σ2.next, [tRow name d 0 m σ.next], rfl, by omega, by simp, ?_, rfl, by simp [tRow], fun i hi => ?_⟩⟩
    · rw [get_new_self]; simp
    · have : i = 0 := by simp at hi; exact hi
      subst this
      exact ⟨σ.next, by omega, by omega, rfl, get_new_old gv2 (by omega)⟩
  · have hg2 := o2 _ _ (by omega) (ov _ _ hb2 hg)
    have hfl : rows.flatten.length = l.length * 5 := by rw [flat_len hr2, hr1]
    have hap := app_out (σ := σ2) (esz := 5) (bytes := 64) (n := 1) (len := l.length) (b := b) (new := tRow name d l.length m σ.next) (by omega) hn1 hone (by omega) (by omega) (by omega) hg2 hfl
    have nd : (σ2.del b).next = σ2.next := by simp
    have od : ∀ b' o, b' ≠ b → σ2.get b' = some o → (σ2.del b).get b' = some o := fun b' o h1 h2 => by rw [St.get_del, if_neg h1]; exact h2
    refine ⟨_, _, hsc, hap, (x2.del (by omega)).add, .inr ⟨by simp, σ2.next, rows ++ [tRow name d l.length m σ.next], by simp, by omega, by simp, ?_, by simp [hr1], ?_, fun i hi => ?_⟩⟩
    · have := get_new_self (σ := σ2.del b) (o := .cells (rows.flatten ++ tRow name d l.length m σ.next) true)
      rw [nd] at this; rw [this]; simp
    · intro c hc
      rcases List.mem_append.1 hc with hc | hc
      · exact hr2 c hc
      · simp at hc; subst hc; rfl
    · by_cases hil : i < l.length
      · obtain ⟨bj, q1, q2, q3, q4⟩ := hr3 i hil
        refine ⟨bj, q1, by omega, ?_, ?_⟩
        · rw [List.getElem?_append_left (by omega), q3, List.getElem_append_left hil]
        · rw [List.getElem_append_left hil]
          exact get_new_old (od _ _ (by omega) (o2 _ _ (by omega) (ov _ _ (by omega) q4))) (by omega)
      · have : i = l.length := by simp at hi; omega
        subst this
        refine ⟨σ.next, by omega, by omega, ?_, ?_⟩
        · rw [List.getElem?_append_right (by omega)]; simp [hr1]
        · simp only [List.getElem_concat_length]
          exact get_new_old (od _ _ (by omega) gv2) (by omega)
theorem mt_one {m : Mt} (h : m.Ok) : m.v.one = true := h.sl.one
theorem told_ok (h43 : Has E 43 af43) (h20 : Has E 20 af20) (h9 : Has E 9 af9) (name : ByteArray) (d : Int) (s : Mts) (hok : s.Ok) (hT : costs s.l < 200) :
    CallX E 9 [.str name, .int .i64 d, s.v] σ (fun v σ' => ToldR σ.next name d s.l v σ') := by
  have hsl := hok.sl
  have hlen := hsl.len
  have hrow : ∀ j (hj : j < s.l.length), cellsAt (s.l.map Mt.row).flatten (j * 2) 2 = some s.l[j].row := by
    intro j hj
    exact row_at hsl.each (by simp [hj])
  have hl : (s.l.map Mt.row).length = s.l.length := by simp
  generalize s.l.map Mt.row = rows at *
  rw [reach_eq] at hlen
  have hcost : ∀ i (hi : i < s.l.length), costs (s.l.take (i + 1)) ≤ costs s.l := by
    intro i hi
    have := congrArg costs (List.take_append_drop (i + 1) s.l)
    unfold costs at *
    rw [List.map_append, List.sum_append] at this
    omega
  have hcnt : ∀ i, i ≤ s.l.length → i ≤ costs (s.l.take i) := by
    intro i
    induction i with
    | zero => intro _; omega
    | succ i ih =>
      intro hi
      have := ih (by omega)
      rw [costs_take (by omega)]
      unfold Mt.cost; omega
  suffices h : ∃ v σ', CallA E 9 [.str name, .int .i64 d, s.v] σ v σ' ∧ (Ext σ σ' ∧ ToldR σ.next name d s.l v σ') by
    obtain ⟨v, σ', h1, h2, h3⟩ := h; exact ⟨v, _, h1, h2, h3⟩
  refine ce_fn (n := 46) (vs := [0, 1, 2, 6, 7, 8, 9, 10, 11, 12, 13, 14, 15, 24]) (by rw [h9.hook]) h9.fn rfl rfl ?_
  refine we_seq (we_region ?_)
  refine oe_v rfl rfl ?_
  refine oe_nil rfl rfl ?_
  refine we_seq (we_region ?_)
  refine oe_v rfl rfl ?_
  refine oe_nil rfl rfl ?_
  refine we_seq (we_cut (fun e σ' => Ext σ σ' ∧ ∃ v, ToldR σ.next name d s.l v σ' ∧ forget e [(7, v)]) ?_ ?_)
  · refine we_seq (we_region ?_)
    refine oe_v rfl rfl ?_
    refine oe_v (ev_len_sl (by assumption) rfl) rfl ?_
    refine oe_v rfl rfl ?_
    refine oe_nil rfl rfl ?_
    refine we_block (we_inv (fun k e σ' => Ext σ σ' ∧ ∃ i v, k = s.l.length - i ∧ i ≤ s.l.length ∧ ToldR σ.next name d (s.l.take i) v σ' ∧ forget e [(14, .int .i64 (.ofNat i)), (13, .int .i64 (.ofNat rows.length)), (12, s.v), (7, v), (1, .int .i64 d), (0, .str name)]) s.l.length ⟨Ext.refl σ, 0, .nils, by omega, by omega, .inl ⟨rfl, rfl⟩, rfl, rfl, rfl, rfl, rfl, rfl, trivial⟩ ?_)
    rintro k e σ' ⟨hx, i, v, rfl, hi, hto, hf⟩
    refine we_less _ hf (we_seq (we_region ?_))
    by_cases h1 : i < s.l.length
    · have hr := hrow i h1
      have hm := hok.each _ (List.getElem_mem h1)
      have hct := costs_take h1
      have hc1 := hcost i h1
      have htk : s.l.take (i + 1) = s.l.take i ++ [s.l[i]] := List.take_succ_eq_append_getElem h1
      have htl : (s.l.take i).length = i := by simp; omega
      have hile := hcnt i (by omega)
      generalize s.l[i] = m at *
      have hes : esum m.l < 200 := by unfold Mt.cost at hct; omega
      refine oe_v (ev_ltN (r := true) rfl rfl (decide_eq_true (by first | omega | (simp; omega)))) rfl ?_
      refine oe_nil rfl rfl ?_
      refine we_seq (we_true rfl (we_skip ?_))
      refine we_seq (we_block (we_seq (we_region ?_)))
      refine oe_v rfl rfl ?_
      refine oe_v (ev_iaddr_sl (by assumption) rfl rfl (by first | omega | (simp; omega))) rfl ?_
      refine oe_v (ev_loadN rfl (rd_iptr hr)) rfl ?_
      refine oe_v (ev_boxA rfl) rfl ?_
      refine oe_v rfl rfl ?_
      refine oe_n (ev_store (v := .agg m.row) rfl rfl (by simp [PV.cells, Mt.row, allOne, PV.one]; have := mt_one hm; cases hv : m.v <;> simp [hv, PV.one] at this ⊢) get_new_self rfl) ?_
      refine oe_nil rfl rfl ?_
      have gbox : ((σ'.new (.cells [.int .i64 (.ofNat 0), .nils] false)).set σ'.next (.cells m.row false)).get σ'.next = some (.cells m.row false) := get_set_self
      have xbox : Ext σ' ((σ'.new (.cells [.int .i64 (.ofNat 0), .nils] false)).set σ'.next (.cells m.row false)) := (Ext.new _ _).set (Nat.le_refl _)
      have nbox : σ'.next < ((σ'.new (.cells [.int .i64 (.ofNat 0), .nils] false)).set σ'.next (.cells m.row false)).next := by simp
      have hrowe : ((σ'.new (.cells [.int .i64 (.ofNat 0), .nils] false)).set σ'.next (.cells [.int .i64 m.done, m.v] false)) = ((σ'.new (.cells [.int .i64 (.ofNat 0), .nils] false)).set σ'.next (.cells m.row false)) := rfl
      rw [hrowe]
      generalize ((σ'.new (.cells [.int .i64 (.ofNat 0), .nils] false)).set σ'.next (.cells m.row false)) = τ at *
      obtain ⟨v2, τ2, hcall, hx2, hcc⟩ := concat_ok (E := E) (σ := τ) h43 h20 m hm hes
      refine we_seq (we_region ?_)
      refine oe_v rfl rfl ?_
      refine oe_v (ev_load1 rfl (rd_ptr gbox rfl)) rfl ?_
      refine oe_call rfl hcall rfl ?_
      refine oe_v rfl rfl ?_
      refine oe_nil rfl rfl ?_
      have gbox2 := hx2.get nbox gbox
      refine we_seq (we_region ?_)
      refine oe_v rfl rfl ?_
      refine oe_nil rfl rfl ?_
      refine we_seq (we_cut (fun e σ2 => σ2 = τ2 ∧ forget e [(11, .int .i64 (firstTs m)), (10, v2), (9, .ptr σ'.next 0), (8, .int .i64 (.ofNat i)), (14, .int .i64 (.ofNat i)), (13, .int .i64 (.ofNat rows.length)), (12, s.v), (7, v), (1, .int .i64 d), (0, .str name)]) ?_ ?_)
      · refine we_seq (we_region ?_)
        rcases hcc with ⟨hz, rfl⟩ | ⟨hp, b, hb1, hb2, rfl, hg⟩
        · 
          refine oe_v rfl rfl ?_
          refine oe_v rfl rfl ?_
          refine oe_v (ev_gtN (a := 0) (r := false) rfl rfl rfl) rfl ?_
          refine oe_nil rfl rfl ?_
          refine we_false rfl (we_skip ?_)
          have : allEvs m.l = [] := List.eq_nil_of_length_eq_zero (by rw [allEvs_len]; exact hz)
          refine ⟨rfl, ?_, rfl, rfl, rfl, rfl, rfl, rfl, rfl, rfl, rfl, trivial⟩
          unfold firstTs; rw [this]; rfl
        · have hg1 : readPtr τ2 (.ptr b (0 + 0 * 5 + 0)) 1 = some [.int .i64 (firstTs m)] := by
            refine rd_ptr hg ?_
            cases hev : allEvs m.l with
            | nil => have := allEvs_len m.l; rw [hev] at this; simp at this; omega
            | cons e0 rest => unfold firstTs; rw [hev]; rfl
          refine oe_v rfl rfl ?_
          refine oe_v rfl rfl ?_
          refine oe_v (ev_gtN (a := esum m.l) (r := true) rfl rfl (decide_eq_true hp)) rfl ?_
          refine oe_nil rfl rfl ?_
          refine we_true rfl (we_region ?_)
          refine oe_v rfl rfl ?_
          refine oe_v (ev_iaddr_s rfl rfl hp) rfl ?_
          refine oe_v rfl rfl ?_
          refine oe_v (ev_load1 rfl hg1) rfl ?_
          refine oe_v rfl rfl ?_
          refine oe_nil rfl rfl ?_
          exact ⟨rfl, rfl, rfl, rfl, rfl, rfl, rfl, rfl, rfl, rfl, rfl, trivial⟩
      · rintro e σ2 ⟨rfl, hf2⟩
        refine we_less _ hf2 (we_region ?_)
        have hx3 : Ext σ σ2 := hx.trans (xbox.trans hx2)
        have hto2 : ToldR σ.next name d (s.l.take i) v σ2 := by
          rcases hto with h | ⟨hp, b, rows', hv, q1, q2, q3, q4, q5, q6⟩
          · exact .inl h
          · have hy := xbox.trans hx2
            refine .inr ⟨hp, b, rows', hv, q1, Nat.lt_of_lt_of_le q2 hy.next, hy.get q2 q3, q4, q5, fun j hj => ?_⟩
            obtain ⟨bj, w1, w2, w3, w4⟩ := q6 j hj
            exact ⟨bj, w1, w2, w3, hy.get (by omega) w4⟩
        obtain ⟨v', τ', hsc, hap, hx4, hto3⟩ := told_app (base := σ.next) (name := name) (d := d) m hx3 rfl hto2 (by rw [htl]; omega)
        rw [htl] at hsc hap
        have hln : opEval (.lenS false (.t 35)) (rg 46 [(35, v2)]) σ2 = some (.v (.int .i64 (.ofNat (esum m.l))) σ2) := by
          rcases hcc with ⟨hz, rfl⟩ | ⟨hp, b, hb1, hb2, rfl, hg⟩
          · rw [hz]; rfl
          · rfl
        refine oe_v rfl rfl ?_
        refine oe_v rfl rfl ?_
        refine oe_v (ev_load1 rfl (rd_ptr gbox2 rfl)) rfl ?_
        refine oe_v rfl rfl ?_
        refine oe_v rfl rfl ?_
        refine oe_v rfl rfl ?_
        refine oe_v rfl rfl ?_
        refine oe_v (show opEval (.lenS false (.t 35)) _ σ2 = some (.v (.int .i64 (.ofNat (esum m.l))) σ2) from opEval_le (fun t v h => by simp only [Regs.get, Regs.look] at h; split at h <;> simp_all [Regs.get, Regs.look]) hln) rfl ?_
        refine oe_v rfl rfl ?_
        refine oe_v rfl rfl ?_
        refine oe_v rfl rfl ?_
        refine oe_v rfl rfl ?_
        refine oe_v rfl rfl ?_
        refine oe_v rfl rfl ?_
        refine oe_v (ev_append rfl rfl rfl rfl hsc hap) rfl ?_
        refine oe_v rfl rfl ?_
        refine oe_nil rfl rfl ?_
        refine we_region ?_
        refine oe_v (ev_add rfl rfl (by omega)) rfl ?_
        refine oe_v rfl rfl ?_
        refine oe_nil rfl rfl ?_
        refine ⟨s.l.length - (i + 1), by omega, hx4, i + 1, v', rfl, by omega, by rw [htk]; exact hto3, rfl, rfl, rfl, rfl, rfl, rfl, trivial⟩
    · 
      refine oe_v (ev_ltN (r := false) rfl rfl (decide_eq_false (by first | omega | (simp; omega)))) rfl ?_
      refine oe_nil rfl rfl ?_
      refine we_seq (we_false rfl (we_exit ?_))
      refine ⟨hx, v, ?_, rfl, trivial⟩
      rwa [List.take_of_length_le (by omega)] at hto
  · rintro e σ' ⟨hx, v, hto, hf⟩
    refine we_less _ hf (we_seq (we_region ?_))
    refine oe_v rfl rfl ?_
    refine oe_v rfl rfl ?_
    refine oe_nil rfl rfl ?_
    refine we_ret ?_
    exact ⟨.inl rfl, _, rfl, hx, hto⟩
end Am
namespace Am
open Go AmIr
variable {E : Env} {σ : St}
set_option maxRecDepth 100000
/-! ### WholeTold -/
theorem costs_le {l : List Mt} {i : Nat} : costs (l.take i) ≤ costs l := by
  have := congrArg costs (List.take_append_drop i l)
  unfold costs at *
  rw [List.map_append, List.sum_append] at this
  omega
theorem ev_rem {ρ : Regs} {x y : Src} {a c : Nat} (hx : ρ.src x = some (.int .u8 (.ofNat a))) (hy : ρ.src y = some (.int .u8 (.ofNat c))) (hc : c ≠ 0) : opEval (.bin .rem x y) ρ σ = some (.v (.int .u8 (.ofNat (a % c))) σ) := by
  have e1 : eqI (.ofNat c) 0 = false := by cases c with | zero => exact absurd rfl hc | succ c => rfl
  have e2 : eqK .u8 .u8 = true := rfl
  have e3 : Int.tmod (.ofNat a) (.ofNat c) = .ofNat (a % c) := rfl
  simp only [opEval, evBin, hx, hy, bin, e2, binInt, e1, e3]
theorem ev_toI64 {ρ : Regs} {x : Src} {k : IntKind} {a : Nat} (hx : ρ.src x = some (.int k (.ofNat a))) (h : a < 9223372036854775808) : opEval (.toInt .i64 x) ρ σ = some (.v (.int .i64 (.ofNat a)) σ) := by
  simp only [opEval, evToInt, hx, wrap_nat h]
theorem ev_neS {ρ : Regs} {x y : Src} {a b : ByteArray} {r : Bool} (hx : ρ.src x = some (.str a)) (hy : ρ.src y = some (.str b)) (h : (!eqBytes a.data.toList b.data.toList) = r) : opEval (.bin .neq x y) ρ σ = some (.v (.bool r) σ) := by
  subst h; simp only [opEval, evBin, hx, hy, bin, binStr]
theorem wholeTold_ok (h50 : Has E 50 af50) (h27 : Has E 27 af27) (h16 : Has E 16 af16) (h43 : Has E 43 af43) (h20 : Has E 20 af20) (h9 : Has E 9 af9) (h5 : Has E 5 af5) (hhead : ∀ σ, CallA E 6 [] σ (.bool true) σ)
    (name : ByteArray) (hname : name.size ≤ reachBytes) (a : Nat) (s : Mts) (hok : s.Ok) : ∃ σ', CallA E 5 [.str name, .int .u8 (.ofNat a), s.v] σ (.bool true) σ' := by
  suffices h : ∃ v σ', CallA E 5 [.str name, .int .u8 (.ofNat a), s.v] σ v σ' ∧ v = .bool true by
    obtain ⟨v, σ', h1, rfl⟩ := h; exact ⟨_, h1⟩
  rw [reach_eq] at hname
  refine ce_fn (n := 143) (vs := [0, 1, 2, 6, 7, 8, 9, 10, 11, 12, 20, 33, 37, 47, 141]) (by rw [h5.hook]) h5.fn rfl rfl ?_
  refine we_seq (we_region ?_)
  refine oe_v rfl rfl ?_
  refine oe_nil rfl rfl ?_
  refine we_seq (we_region ?_)
  refine oe_call rfl (hhead _) rfl ?_
  refine oe_v rfl rfl ?_
  refine oe_nil rfl rfl ?_
  obtain ⟨v1, σ1, hc1, hx1, b1, rfl, hb1⟩ := greatMatches_ok (E := E) (σ := σ) h50 h27 h16 s hok
  refine we_seq (we_seq (we_region ?_))
  cases b1 with
  | true =>
    refine oe_v rfl rfl ?_
    refine oe_call rfl hc1 rfl ?_
    refine oe_v rfl rfl ?_
    refine oe_no rfl rfl rfl ?_
    refine oe_no rfl rfl rfl ?_
    refine oe_no rfl rfl rfl ?_
    refine oe_v rfl rfl ?_
    refine oe_nil rfl rfl ?_
    refine we_true rfl (we_seq (we_region ?_))
    refine oe_v rfl rfl ?_
    refine oe_v rfl rfl ?_
    refine oe_nil rfl rfl ?_
    refine we_ret ?_
    exact ⟨.inl rfl, _, rfl, rfl⟩
  | false =>
    have hcost := hb1 rfl
    by_cases hn : name.size > 1000
    · 
      refine oe_v rfl rfl ?_
      refine oe_call rfl hc1 rfl ?_
      refine oe_v rfl rfl ?_
      refine oe_vg rfl rfl rfl ?_
      refine oe_vg rfl (ev_lenStr rfl) rfl ?_
      refine oe_vg rfl (ev_gtN (r := true) rfl rfl (decide_eq_true (by first | omega | (simp; omega)))) rfl ?_
      refine oe_v rfl rfl ?_
      refine oe_nil rfl rfl ?_
      refine we_true rfl (we_seq (we_region ?_))
      refine oe_v rfl rfl ?_
      refine oe_v rfl rfl ?_
      refine oe_nil rfl rfl ?_
      refine we_ret ?_
      exact ⟨.inl rfl, _, rfl, rfl⟩
    · 
      refine oe_v rfl rfl ?_
      refine oe_call rfl hc1 rfl ?_
      refine oe_v rfl rfl ?_
      refine oe_vg rfl rfl rfl ?_
      refine oe_vg rfl (ev_lenStr rfl) rfl ?_
      refine oe_vg rfl (ev_gtN (r := false) rfl rfl (decide_eq_false (by first | omega | (simp; omega)))) rfl ?_
      refine oe_v rfl rfl ?_
      refine oe_nil rfl rfl ?_
      refine we_false rfl (we_skip ?_)
      refine we_seq (we_region ?_)
      refine oe_v rfl rfl ?_
      refine oe_v (ev_rem rfl rfl (by omega)) rfl ?_
      refine oe_v (ev_toI64 rfl (by omega)) rfl ?_
      refine oe_v rfl rfl ?_
      refine oe_nil rfl rfl ?_
      obtain ⟨v2, σ2, hc2, hx2, hto⟩ := told_ok (E := E) (σ := σ1) h43 h20 h9 name (.ofNat (a % 4)) s hok hcost
      have hsl := hok.sl
      have hlen := hsl.len
      have hrow0 : ∀ j (hj : j < s.l.length), cellsAt (s.l.map Mt.row).flatten (j * 2 + 0) 1 = some [.int .i64 s.l[j].done] := fun j hj => cell_at hsl.each (List.getElem?_eq_getElem (by simpa using hj)) (by simp [Mt.row])
      have hrow1 : ∀ j (hj : j < s.l.length), cellsAt (s.l.map Mt.row).flatten (j * 2 + 1) 1 = some [s.l[j].v] := fun j hj => cell_at hsl.each (List.getElem?_eq_getElem (by simpa using hj)) (by simp [Mt.row])
      have hl : (s.l.map Mt.row).length = s.l.length := by simp
      generalize s.l.map Mt.row = rows at *
      rw [reach_eq] at hlen
      have hln : ∀ {ρ : Regs} {x : Src}, ρ.src x = some v2 → opEval (.lenS false x) ρ σ2 = some (.v (.int .i64 (.ofNat s.l.length)) σ2) := by
        intro ρ x hx
        rcases hto with ⟨rfl, hz⟩ | ⟨hp, b, rows', rfl, _⟩
        · rw [hz]; simp only [opEval, evLenS, hx]; rfl
        · simp only [opEval, evLenS, hx]; rfl
      refine we_seq (we_region ?_)
      refine oe_v rfl rfl ?_
      refine oe_v rfl rfl ?_
      refine oe_v rfl rfl ?_
      refine oe_call rfl hc2 rfl ?_
      refine oe_v rfl rfl ?_
      refine oe_nil rfl rfl ?_
      refine we_seq (we_seq (we_region ?_))
      refine oe_v rfl rfl ?_
      refine oe_v (hln rfl) rfl ?_
      refine oe_v rfl rfl ?_
      refine oe_v (ev_len_sl (by assumption) rfl) rfl ?_
      refine oe_v (ev_neN (r := false) rfl rfl (by first | (rw [decide_eq_true (by omega)]; rfl) | (simp; omega))) rfl ?_
      refine oe_nil rfl rfl ?_
      refine we_false rfl (we_skip ?_)
      refine we_seq (we_cut (fun e σ' => σ' = σ2 ∧ forget e [(7, .bool true)]) ?_ ?_)
      · refine we_seq (we_region ?_)
        refine oe_v rfl rfl ?_
        refine oe_nil rfl rfl ?_
        refine we_block (we_inv (fun k e σ' => σ' = σ2 ∧ ∃ i : Nat, k = s.l.length - i ∧ i ≤ s.l.length ∧ forget e [(10, .int .i64 (.ofNat i)), (9, v2), (8, .int .i64 (.ofNat (a % 4))), (7, .bool true), (2, s.v), (0, .str name)]) s.l.length ⟨rfl, 0, by omega, by omega, rfl, rfl, rfl, rfl, rfl, rfl, trivial⟩ ?_)
        rintro k e σ' ⟨rfl, i, rfl, hi, hf⟩
        refine we_less _ hf (we_seq (we_seq (we_region ?_)))
        by_cases h1 : i < s.l.length
        · have hr0 := hrow0 i h1
          have hr1 := hrow1 i h1
          have hm := hok.each _ (List.getElem_mem h1)
          -- what was told of it
          obtain ⟨b, hv2, bj, hre, hbj⟩ : ∃ b, v2 = .slice b 0 s.l.length 5 none ∧ ∃ bj, (∀ o v, (tRow name (.ofNat (a % 4)) i s.l[i] bj)[o]? = some v → readPtr σ' (.ptr b (0 + i * 5 + o)) 1 = some [v]) ∧ σ'.get bj = some (.cells (valsCells s.l[i]) false) := by
            rcases hto with ⟨_, hz⟩ | ⟨hp, b, rows', hv, q1, q2, q3, q4, q5, q6⟩
            · rw [hz] at h1; simp at h1
            · obtain ⟨bj, w1, w2, w3, w4⟩ := q6 i h1
              refine ⟨b, hv, bj, fun o v ho => ?_, w4⟩
              have := cell_at q5 w3 ho
              rw [Nat.zero_add]
              exact rd_ptr q3 this
          have hct := costs_take h1
          have hcl := costs_le (l := s.l) (i := i + 1)
          generalize s.l[i] = m at *
          subst hv2
          have hms := hm.sl
          have hml := hms.len
          have hev : ∀ j (hj : j < m.l.length), cellsAt (m.l.map fun s => [s.v]).flatten (j * 1) 1 = some [m.l[j].v] := by
            intro j hj
            exact cell_at (o := 0) hms.each (List.getElem?_eq_getElem (by simpa using hj)) (by simp)
          have hel : (m.l.map fun s => [s.v]).length = m.l.length := by simp
          generalize (m.l.map fun s => [s.v]) = mrows at *
          rw [reach_eq] at hml
          have w0 := hre 0 _ rfl
          have w1 := hre 1 _ rfl
          have w2 := hre 2 _ rfl
          have w3 := hre 3 _ rfl
          have w4 := hre 4 _ rfl
          refine oe_v rfl rfl ?_
          refine oe_v rfl rfl ?_
          refine oe_v (ev_len_sl (by assumption) rfl) rfl ?_
          refine oe_v (ev_ltN (r := true) rfl rfl (decide_eq_true (by first | omega | (simp; omega)))) rfl ?_
          refine oe_nil rfl rfl ?_
          refine we_true rfl (we_skip ?_)
          refine we_seq (we_block (we_seq (we_region ?_)))
          refine oe_v rfl rfl ?_
          refine oe_nil rfl rfl ?_
          refine we_seq (we_cut (fun e σ2 => σ2 = σ' ∧ forget e [(11, .int .i64 (.ofNat (esum m.l))), (10, .int .i64 (.ofNat i)), (9, .slice b 0 s.l.length 5 none), (8, .int .i64 (.ofNat (a % 4))), (7, .bool true), (2, s.v), (0, .str name)]) ?_ ?_)
          · refine we_seq (we_region ?_)
            refine oe_v rfl rfl ?_
            refine oe_nil rfl rfl ?_
            refine we_block (we_inv (fun k e σ2 => σ2 = σ' ∧ ∃ j : Nat, k = m.l.length - j ∧ j ≤ m.l.length ∧ forget e [(12, .int .i64 (.ofNat j)), (11, .int .i64 (.ofNat (esum (m.l.take j)))), (10, .int .i64 (.ofNat i)), (9, .slice b 0 s.l.length 5 none), (8, .int .i64 (.ofNat (a % 4))), (7, .bool true), (2, s.v), (0, .str name)]) m.l.length ⟨rfl, 0, by omega, by omega, rfl, rfl, rfl, rfl, rfl, rfl, rfl, rfl, trivial⟩ ?_)
            rintro k e σ3 ⟨rfl, j, rfl, hj, hf3⟩
            refine we_less _ hf3 (we_seq (we_seq (we_region ?_)))
            by_cases h3 : j < m.l.length
            · have hes := hm.each _ (List.getElem_mem h3)
              have hre3 := hev j h3
              have het := esum_take h3
              have hle := esum_le (l := m.l) (i := j + 1) (by omega)
              have hsl2 := hes.sl
              have hsl2n : (m.l[j].l.map Ev.row).length = m.l[j].l.length := by simp
              have hbig : esum m.l < 200 := by unfold Mt.cost at hct; omega
              refine oe_v rfl rfl ?_
              refine oe_v rfl rfl ?_
              refine oe_v rfl rfl ?_
              refine oe_v (ev_iaddr_sl (by assumption) rfl rfl (by first | omega | (simp; omega))) rfl ?_
              refine oe_v rfl rfl ?_
              refine oe_v (ev_load1 rfl (rd_iptr hr1)) rfl ?_
              refine oe_v (ev_len_sl (by assumption) rfl) rfl ?_
              refine oe_v (ev_ltN (r := true) rfl rfl (decide_eq_true (by first | omega | (simp; omega)))) rfl ?_
              refine oe_nil rfl rfl ?_
              refine we_true rfl (we_skip ?_)
              refine we_seq (we_block (we_region ?_))
              refine oe_v rfl rfl ?_
              refine oe_v rfl rfl ?_
              refine oe_v rfl rfl ?_
              refine oe_v (ev_iaddr_sl (by assumption) rfl rfl (by first | omega | (simp; omega))) rfl ?_
              refine oe_v rfl rfl ?_
              refine oe_v (ev_load1 rfl (rd_iptr hr1)) rfl ?_
              refine oe_v rfl rfl ?_
              refine oe_v (ev_iaddr_sl (by assumption) rfl rfl (by first | omega | (simp; omega))) rfl ?_
              refine oe_v (ev_load1 rfl (rd_iptr hre3)) rfl ?_
              refine oe_v (ev_len_sl (by assumption) rfl) rfl ?_
              refine oe_v (ev_add rfl rfl (by omega)) rfl ?_
              refine oe_v rfl rfl ?_
              refine oe_nil rfl rfl ?_
              refine we_region ?_
              refine oe_v rfl rfl ?_
              refine oe_v (ev_add rfl rfl (by omega)) rfl ?_
              refine oe_v rfl rfl ?_
              refine oe_nil rfl rfl ?_
              refine ⟨m.l.length - (j + 1), by omega, rfl, j + 1, rfl, by omega, rfl, ?_, rfl, rfl, rfl, rfl, rfl, rfl, trivial⟩
              rw [het, ← hsl2n]; rfl
            · 
              refine oe_v rfl rfl ?_
              refine oe_v rfl rfl ?_
              refine oe_v rfl rfl ?_
              refine oe_v (ev_iaddr_sl (by assumption) rfl rfl (by first | omega | (simp; omega))) rfl ?_
              refine oe_v rfl rfl ?_
              refine oe_v (ev_load1 rfl (rd_iptr hr1)) rfl ?_
              refine oe_v (ev_len_sl (by assumption) rfl) rfl ?_
              refine oe_v (ev_ltN (r := false) rfl rfl (decide_eq_false (by first | omega | (simp; omega)))) rfl ?_
              refine oe_nil rfl rfl ?_
              refine we_false rfl (we_exit ?_)
              refine ⟨rfl, ?_, rfl, rfl, rfl, rfl, rfl, rfl, trivial⟩
              have e := List.take_of_length_le (l := m.l) (i := j) (by omega)
              rw [e]; rfl
          · rintro e σ3 ⟨rfl, hf3⟩
            refine we_less _ hf3 (we_seq (we_drawn ?_))
            refine oe_v rfl rfl ?_
            refine oe_v rfl rfl ?_
            refine oe_v (ev_iaddr_s rfl rfl (by omega)) rfl ?_
            refine oe_v rfl rfl ?_
            refine oe_v (ev_load1 rfl w0) rfl ?_
            refine oe_v rfl rfl ?_
            refine oe_v rfl rfl ?_
            refine oe_v (ev_iaddr_sl (by assumption) rfl rfl (by first | omega | (simp; omega))) rfl ?_
            refine oe_v rfl rfl ?_
            refine oe_v (ev_load1 rfl (rd_iptr hr0)) rfl ?_
            refine oe_v (ev_neI' (r := false) rfl rfl (by simp)) rfl ?_
            refine oe_v rfl rfl ?_
            refine oe_vg rfl rfl rfl ?_
            refine oe_vg rfl rfl rfl ?_
            refine oe_vg rfl (ev_iaddr_s rfl rfl (by omega)) rfl ?_
            refine oe_vg rfl rfl rfl ?_
            refine oe_vg rfl (ev_load1 rfl w1) rfl ?_
            refine oe_vg rfl rfl rfl ?_
            refine oe_vg rfl (ev_neI' (r := false) rfl rfl (by simp)) rfl ?_
            refine oe_v rfl rfl ?_
            refine oe_v rfl rfl ?_
            refine oe_vg rfl rfl rfl ?_
            refine oe_vg rfl rfl rfl ?_
            refine oe_vg rfl (ev_iaddr_s rfl rfl (by omega)) rfl ?_
            refine oe_vg rfl rfl rfl ?_
            refine oe_vg rfl (ev_load1 rfl w2) rfl ?_
            refine oe_vg rfl rfl rfl ?_
            refine oe_vg rfl (ev_neI' (r := false) rfl rfl (by simp)) rfl ?_
            refine oe_v rfl rfl ?_
            refine oe_v rfl rfl ?_
            refine oe_vg rfl rfl rfl ?_
            refine oe_vg rfl rfl rfl ?_
            refine oe_vg rfl (ev_iaddr_s rfl rfl (by omega)) rfl ?_
            refine oe_vg rfl rfl rfl ?_
            refine oe_vg rfl (ev_load1 rfl w3) rfl ?_
            refine oe_vg rfl rfl rfl ?_
            refine oe_vg rfl (ev_neS (r := false) rfl rfl (by simp [eqBytes_refl])) rfl ?_
            refine oe_v rfl rfl ?_
            refine oe_v rfl rfl ?_
            refine oe_vg rfl rfl rfl ?_
            refine oe_vg rfl rfl rfl ?_
            refine oe_vg rfl (ev_iaddr_s rfl rfl (by omega)) rfl ?_
            refine oe_vg rfl rfl rfl ?_
            refine oe_vg rfl (ev_load1 rfl w4) rfl ?_
            refine oe_vg rfl rfl rfl ?_
            refine oe_vg rfl (ev_neN (a := 2) (r := false) rfl rfl rfl) rfl ?_
            refine oe_v rfl rfl ?_
            refine oe_v rfl rfl ?_
            refine oe_vg rfl rfl rfl ?_
            refine oe_vg rfl rfl rfl ?_
            refine oe_vg rfl (ev_iaddr_s rfl rfl (by omega)) rfl ?_
            refine oe_vg rfl rfl rfl ?_
            refine oe_vg rfl (ev_load1 rfl w4) rfl ?_
            refine oe_vg rfl (ev_iaddr_s rfl rfl (by omega)) rfl ?_
            refine oe_vg rfl rfl rfl ?_
            refine oe_vg rfl (ev_load1 rfl (rd_ptr hbj rfl)) rfl ?_
            refine oe_vg rfl rfl rfl ?_
            refine oe_vg rfl (ev_neI' (r := false) rfl rfl (by simp)) rfl ?_
            refine oe_v rfl rfl ?_
            refine oe_v rfl rfl ?_
            refine oe_vg rfl rfl rfl ?_
            refine oe_vg rfl rfl rfl ?_
            refine oe_vg rfl (ev_iaddr_s rfl rfl (by omega)) rfl ?_
            refine oe_vg rfl rfl rfl ?_
            refine oe_vg rfl (ev_load1 rfl w4) rfl ?_
            refine oe_vg rfl (ev_iaddr_s rfl rfl (by omega)) rfl ?_
            refine oe_vg rfl rfl rfl ?_
            refine oe_vg rfl (ev_load1 rfl (rd_ptr hbj rfl)) rfl ?_
            refine oe_vg rfl (ev_neN (a := 1) (r := false) rfl rfl rfl) rfl ?_
            refine oe_v rfl rfl ?_
            refine oe_v rfl rfl ?_
            refine oe_vg rfl rfl rfl ?_
            refine oe_vg rfl rfl rfl ?_
            refine oe_vg rfl (ev_iaddr_s rfl rfl (by omega)) rfl ?_
            refine oe_vg rfl rfl rfl ?_
            refine oe_vg rfl (ev_load1 rfl w4) rfl ?_
            refine oe_vg rfl (ev_iaddr_s rfl rfl (by omega)) rfl ?_
            refine oe_vg rfl rfl rfl ?_
            refine oe_vg rfl (ev_load1 rfl (rd_ptr hbj rfl)) rfl ?_
            refine oe_vg rfl (ev_neN (a := 1) (r := false) rfl rfl rfl) rfl ?_
            refine oe_v rfl rfl ?_
            refine oe_nil rfl rfl ?_
            refine we_false rfl (we_skip ?_)
            refine we_region ?_
            refine oe_v rfl rfl ?_
            refine oe_v (ev_add rfl rfl (by omega)) rfl ?_
            refine oe_v rfl rfl ?_
            refine oe_nil rfl rfl ?_
            exact ⟨s.l.length - (i + 1), by omega, rfl, i + 1, rfl, by omega, rfl, rfl, rfl, rfl, rfl, rfl, trivial⟩
        · 
          refine oe_v rfl rfl ?_
          refine oe_v rfl rfl ?_
          refine oe_v (ev_len_sl (by assumption) rfl) rfl ?_
          refine oe_v (ev_ltN (r := false) rfl rfl (decide_eq_false (by first | omega | (simp; omega)))) rfl ?_
          refine oe_nil rfl rfl ?_
          refine we_false rfl (we_exit ?_)
          exact ⟨rfl, rfl, trivial⟩
      · rintro e σ' ⟨rfl, hf⟩
        refine we_less _ hf (we_seq (we_region ?_))
        refine oe_v rfl rfl ?_
        refine oe_v rfl rfl ?_
        refine oe_nil rfl rfl ?_
        refine we_ret ?_
        exact ⟨.inl rfl, _, rfl, rfl⟩
end Am

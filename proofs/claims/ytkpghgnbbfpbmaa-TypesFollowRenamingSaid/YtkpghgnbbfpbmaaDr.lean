/- What an argument of a law reads as: typed data. -/
import Derived.Test.YtkpghgnbbfpbmaaDp
import Derived.ProofKit
import Derived.OpenShut
import Derived.ShutString
import Derived.ChangeOld
import Derived.ChangeSlices
import Derived.Below
import Derived.SizedLaws
set_option linter.unusedSimpArgs false
set_option linter.unusedVariables false
namespace Go.Proofs.Ytkpghgnbbfpbmaa
open Go.ChangeShapes Go.WideShapes Go.ChangeAt Go.RowKit

def nobody : Nat → Prop := fun _ => False
/-- Cells that read as the data us. -/
structure Cs (w : World) (cs : List Value) (us : List U) : Prop where
  len : cs.length = us.length
  rel : ∀ i, i < us.length → (cs.getD i undef).oneCell' = true ∧ RelU nobody w (cs.getD i undef) (us.getD i .pnil)
theorem Cs.one {w : World} {v : Value} {u : U} (h1 : v.oneCell' = true) (h : RelU nobody w v u) : Cs w [v] [u] :=
  ⟨rfl, fun i hi => by
    have : i = 0 := by simp at hi; omega
    subst this; exact ⟨h1, h⟩⟩
theorem Cs.app {w : World} {cs cs' : List Value} {us us' : List U} (h : Cs w cs us) (k : Cs w cs' us') : Cs w (cs ++ cs') (us ++ us') := by
  refine ⟨by simp [h.len, k.len], fun i hi => ?_⟩
  rw [getD_app, getD_app, h.len]
  split
  · exact h.rel i (by assumption)
  · exact k.rel _ (by simp at hi; omega)

/-- Cells of a type read as typed data, of which V holds. -/
def Rd (P : Program) (t : TypeId) {α : Type} (c : α → List U) (V : α → Prop) : Prop :=
  ∀ (H : Type) (enc : TypeId × Value → H) (w : World) (spare : Nat → Bool) (held : Bool) (fuel : Nat) (cs : List Value) (x : DataW H × List MemPlace), DataW.trod enc P w 0 spare held fuel t cs = some x → ∃ a, V a ∧ Cs w cs (c a)

def VInt (k : IntKind) (n : Int) : Prop := k.min ≤ n ∧ n ≤ k.max
def VAny {α : Type} (_ : α) : Prop := True
def VStr (s : ByteArray) : Prop := s.size ≤ 9223372036854775807
def VSl {α : Type} (V : α → Prop) (l : List α) : Prop := l.length ≤ 9223372036854775807 ∧ ∀ x ∈ l, V x

theorem Rd_int {P : Program} {t : TypeId} {k : IntKind} (ht : P.underlying t = some (.int k)) : Rd P t (cInt k) (VInt k) := by
  intro H enc w spare held fuel cs x h
  obtain ⟨n, rfl, _, hw⟩ := DataW.trod_int ht h
  exact ⟨n, by simpa [Lit.wf, VInt] using hw, .one rfl (.int _ _)⟩
theorem Rd_bool {P : Program} {t : TypeId} (ht : P.underlying t = some .bool) : Rd P t cBool VAny := by
  intro H enc w spare held fuel cs x h
  obtain ⟨n, rfl, _⟩ := DataW.trod_bool ht h
  exact ⟨n, trivial, .one rfl (.bool _)⟩
theorem Rd_str {P : Program} {t : TypeId} (ht : P.underlying t = some .string) : Rd P t cStr VStr := by
  intro H enc w spare held fuel cs x h
  obtain ⟨s, rfl, _, hs⟩ := DataW.trod_string ht h
  exact ⟨s, hs, .one rfl (.str _)⟩

theorem lt_heap_of_cell {w : World} {a : Addr} {v : Value} (h : w.cell? a = some v) : a.block < w.heap.size := by
  unfold World.cell? at h
  cases hb : w.heap[a.block]? with
  | none => simp [hb] at h
  | some o => exact (Array.getElem?_eq_some_iff.1 hb).1
theorem spot_of_cell {w : World} {a : Addr} {v : Value} (h : w.cell? a = some v) : a.spot = none := by
  unfold World.cell? at h
  split at h
  · split at h
    · cases h
    · rename_i h2; simpa using h2
  · cases h
theorem addr_add {b o : Nat} (n : Nat) : (⟨b, o, none⟩ : Addr).add n = ⟨b, o + n, none⟩ := by
  unfold Addr.add; split
  · rename_i h; subst h; rfl
  · rfl

/-- The elements of a slice, one after the other. -/
theorem read_els {P : Program} {e : TypeId} {α : Type} {c : α → List U} {V : α → Prop} (hE : Rd P e c V) (hs : ∀ x, (c x).length = P.cellsOf e) {H : Type} {enc : TypeId × Value → H} {w : World} {spare : Nat → Bool} {held : Bool} {n : Nat} {b o : Nat} : ∀ (len : Nat),
    (∀ i, i < len → ∃ y, (w.cells? 0 (⟨b, o + i * P.cellsOf e, none⟩) (P.cellsOf e)).bind (DataW.trod enc P w 0 spare held n e) = some y) →
    ∃ l : List α, l.length = len ∧ (∀ x ∈ l, V x) ∧ ∃ vs : Nat → Value, (∀ j, j < len * P.cellsOf e → w.cell? ⟨b, o + j, none⟩ = some (vs j)) ∧ (∀ j, j < len * P.cellsOf e → (vs j).oneCell' = true) ∧
      ∀ i j, i < len → j < P.cellsOf e → RelU nobody w (vs (i * P.cellsOf e + j)) (((l.map c).getD i []).getD j .pnil)
  | 0, _ => ⟨[], rfl, by simp, fun _ => undef, by simp, by simp, by simp⟩
  | len + 1, h => by
    obtain ⟨l, h1, h2, vs, h3, h4, h5⟩ := read_els hE hs len (fun i hi => h i (by omega))
    obtain ⟨y, hy⟩ := h len (by omega)
    rw [Option.bind_eq_some_iff] at hy
    obtain ⟨cs, hcs, hy⟩ := hy
    obtain ⟨a, hV, hC⟩ := hE _ _ _ _ _ _ _ _ hy
    obtain ⟨_, hl, hc⟩ := World.cells?_some hcs
    have hmul : (len + 1) * P.cellsOf e = len * P.cellsOf e + P.cellsOf e := Nat.succ_mul _ _
    refine ⟨l ++ [a], by simp [h1], by simpa [or_imp, forall_and] using ⟨h2, hV⟩, fun j => if j < len * P.cellsOf e then vs j else cs.getD (j - len * P.cellsOf e) undef, fun j hj => ?_, fun j hj => ?_, fun i j hi hj => ?_⟩
    · by_cases hjl : j < len * P.cellsOf e
      · simp only [if_pos hjl]; exact h3 j hjl
      · simp only [if_neg hjl]
        have hj' : j - len * P.cellsOf e < P.cellsOf e := by omega
        have := hc _ hj'
        rw [addr_add] at this
        rw [show o + j = o + len * P.cellsOf e + (j - len * P.cellsOf e) by omega, this]
        simp [List.getD_eq_getElem?_getD, hl, hj']
    · by_cases hjl : j < len * P.cellsOf e
      · simp only [if_pos hjl]; exact h4 j hjl
      · simp only [if_neg hjl]
        exact (hC.rel _ (by rw [hs]; omega)).1
    · have hmap : (l ++ [a]).map c = l.map c ++ [c a] := by simp
      rw [hmap, getD_app, List.length_map, h1]
      dsimp only
      by_cases hil : i < len
      · rw [if_pos hil, if_pos (lt_mul hil hj)]
        exact h5 i j hil hj
      · have hi' : i = len := by omega
        subst hi'
        rw [if_neg (by omega), if_neg (by omega)]
        have e1 : i * P.cellsOf e + j - i * P.cellsOf e = j := by omega
        rw [e1, Nat.sub_self]
        exact (hC.rel j (by rw [hs]; exact hj)).2

theorem read_slice {P : Program} {t e : TypeId} {α : Type} {c : α → List U} {V : α → Prop} (ht : P.underlying t = some (.slice e)) (hE : Rd P e c V) (hs : ∀ x, (c x).length = P.cellsOf e) (hp : 0 < P.cellsOf e)
    {H : Type} {enc : TypeId × Value → H} {w : World} {spare : Nat → Bool} {held : Bool} {fuel : Nat} {cs : List Value} {x : DataW H × List MemPlace} (h : DataW.trod enc P w 0 spare held fuel t cs = some x) :
    ∃ l, VSl V l ∧ ∃ v, cs = [v] ∧ v.oneCell' = true ∧ RelU nobody w v (.sl (l.map c)) := by
  rcases DataW.trod_slice ht h with ⟨rfl, _⟩ | ⟨a, len, cap, elems, rest, n, _, rfl, _, _, hl, hm, hlen, hel, _, _⟩
  · exact ⟨[], ⟨by simp, by simp⟩, _, rfl, rfl, .slnil⟩
  · by_cases h0 : len = 0
    · subst h0; exact ⟨[], ⟨by simp, by simp⟩, _, rfl, rfl, .slz a cap⟩
    · have hy0 : ∃ y, (w.cells? 0 (a.add (0 * P.cellsOf e)) (P.cellsOf e)).bind (DataW.trod enc P w 0 spare held n e) = some y := by
        have := hel 0 (by omega)
        rw [this]; exact ⟨elems[0]'(by omega), by rw [List.getElem?_eq_getElem]⟩
      obtain ⟨y, hy⟩ := hy0
      rw [Option.bind_eq_some_iff] at hy
      obtain ⟨cs0, hcs0, _⟩ := hy
      obtain ⟨_, hl0, hc0⟩ := World.cells?_some hcs0
      have hc00 := hc0 0 hp
      have e0 : (a.add (0 * P.cellsOf e)).add 0 = a := by simp [Addr.add]
      rw [e0] at hc00
      have hsome : w.cell? a = some (cs0[0]'(by omega)) := by rw [hc00, List.getElem?_eq_getElem]
      have hsp := spot_of_cell hsome
      have hlt := lt_heap_of_cell hsome
      obtain ⟨b, o, sp⟩ := a
      simp only at hsp hlt
      subst hsp
      obtain ⟨l, h1, h2, vs, h3, h4, h5⟩ := read_els hE hs (n := n) (b := b) (o := o) (spare := spare) (held := held) (enc := enc) (w := w) len (fun i hi => by
        have := hel i hi
        rw [addr_add] at this
        rw [this]; exact ⟨elems[i]'(by omega), by rw [List.getElem?_eq_getElem]⟩)
      have hmax : maxLen = 9223372036854775807 := rfl
      refine ⟨l, ⟨by omega, h2⟩, _, rfl, rfl, .sl b o cap (P.cellsOf e) len _ (by simp [h1]) hl hm (fun _ => ⟨fun h => h, hlt⟩) (fun z hz => by obtain ⟨x, _, rfl⟩ := List.mem_map.1 hz; exact hs x) vs (fun j hj => h3 j (by simpa [h1] using hj)) (fun j hj => h4 j (by simpa [h1] using hj)) (fun i j hi hj => h5 i j (by simpa [h1] using hi) hj)⟩

theorem Rd_slice {P : Program} {t e : TypeId} {α : Type} {c : α → List U} {V : α → Prop} (ht : P.underlying t = some (.slice e)) (hE : Rd P e c V) (hs : ∀ x, (c x).length = P.cellsOf e) (hp : 0 < P.cellsOf e) : Rd P t (cSl c) (VSl V) := by
  intro H enc w spare held fuel cs x h
  obtain ⟨l, hV, v, rfl, h1, hr⟩ := read_slice ht hE hs hp h
  exact ⟨l, hV, .one h1 hr⟩

/-- A struct's cells out of those of its fields. -/
def fieldsAt (P : Program) : Nat → List Field → List (TypeId × Nat) → Bool
  | _, [], [] => true
  | off, f :: fs, (t, n) :: l => f.offset == off && f.type == t && P.cellsOf t == n && fieldsAt P (off + n) fs l
  | _, _, _ => false
inductive RdFs (P : Program) : List (TypeId × Nat) → {α : Type} → (α → List U) → (α → Prop) → Prop
  | nil : RdFs P [] (fun _ : Unit => []) VAny
  | cons {α β : Type} {c : α → List U} {d : β → List U} {V : α → Prop} {W : β → Prop} {t : TypeId} {n : Nat} {l : List (TypeId × Nat)} (h : Rd P t c V) (k : RdFs P l d W) : RdFs P ((t, n) :: l) (fun p : α × β => c p.1 ++ d p.2) (fun p => V p.1 ∧ W p.2)
theorem read_fields {P : Program} {H : Type} {enc : TypeId × Value → H} {w : World} {spare : Nat → Bool} {held : Bool} {fuel : Nat} {cs : List Value} {l : List (TypeId × Nat)} {α : Type} {c : α → List U} {V : α → Prop} (h : RdFs P l c V) : ∀ (fs : List Field) (off : Nat), fieldsAt P off fs l = true →
    cs.length = off + (l.map (·.2)).sum → (∀ f ∈ fs, ∃ y, DataW.trod enc P w 0 spare held fuel f.type ((cs.drop f.offset).take (P.cellsOf f.type)) = some y) → ∃ a, V a ∧ Cs w (cs.drop off) (c a) := by
  induction h with
  | nil =>
    intro fs off h1 h2 h3
    exact ⟨(), trivial, by simp at h2 ⊢; omega, fun i hi => by simp at hi⟩
  | cons hr k ih =>
    rename_i c' d V' W t n l
    intro fs off h1 h2 h3
    cases fs with
    | nil => simp [fieldsAt] at h1
    | cons f fs =>
      simp only [fieldsAt, Bool.and_eq_true, beq_iff_eq] at h1
      obtain ⟨⟨⟨e1, e2⟩, e3⟩, h1⟩ := h1
      obtain ⟨y, hy⟩ := h3 f (by simp)
      rw [e1, e2, e3] at hy
      obtain ⟨a, hV, hC⟩ := hr _ _ _ _ _ _ _ _ hy
      obtain ⟨b, hW, hD⟩ := ih fs (off + n) h1 (by simp at h2; omega) (fun g hg => h3 g (by simp [hg]))
      refine ⟨(a, b), ⟨hV, hW⟩, ?_⟩
      have : cs.drop off = (cs.drop off).take n ++ cs.drop (off + n) := by
        rw [← List.drop_drop, List.take_append_drop]
      rw [this]
      exact hC.app hD
theorem Rd_struct {P : Program} {t : TypeId} {fs : Array Field} {l : List (TypeId × Nat)} {α β : Type} {c : α → List U} {V : α → Prop} {d : β → List U} {W : β → Prop} (ht : P.underlying t = some (.struct fs)) (h : RdFs P l c V) (hf : fieldsAt P 0 fs.toList l = true) (hz : (l.map (·.2)).sum = P.cellsOf t)
    (mk : α → β) (hd : ∀ a, d (mk a) = c a) (hW : ∀ a, V a → W (mk a)) : Rd P t d W := by
  intro H enc w spare held fuel cs x hx
  obtain ⟨xs, n, _, _, hl, hlen, hel⟩ := DataW.trod_struct ht hx
  obtain ⟨a, hV, hC⟩ := read_fields h fs.toList 0 hf (by omega) (enc := enc) (w := w) (spare := spare) (held := held) (fuel := n) (cs := cs) (fun f hfm => by
    obtain ⟨i, hi, rfl⟩ := List.getElem_of_mem hfm
    have hi' : i < fs.size := by simpa using hi
    have := hel i _ (by rw [Array.getElem?_eq_getElem hi'])
    simp only [Array.getElem_toList]
    rw [this]; exact ⟨xs[i]'(by omega), by rw [List.getElem?_eq_getElem]⟩)
  exact ⟨mk a, hW a hV, by rw [hd]; simpa using hC⟩

/-! ### Arguments -/
/-- An argument: its value reads as u. -/
theorem arg_one {P : Program} {t : TypeId} {α : Type} {c : α → List U} {V : α → Prop} (hR : Rd P t c V) {H : Type} {enc : TypeId × Value → H} {w : World} {v : Value} {d : DataW H} {ps : List MemPlace} (h : DataW.Trod enc P w 0 (fun _ => true) true t v d ps) {f : α → U} (hc : ∀ a, c a = [f a]) (hv : v.cells = #[v]) :
    ∃ a, V a ∧ RelU nobody w v (f a) := by
  obtain ⟨fuel, h⟩ := h
  rw [hv] at h
  obtain ⟨a, hV, hC⟩ := hR _ _ _ _ _ _ _ _ h
  rw [hc] at hC
  exact ⟨a, hV, by simpa using (hC.rel 0 (by simp)).2⟩
theorem arg_agg {P : Program} {t : TypeId} {α : Type} {c : α → List U} {V : α → Prop} (hR : Rd P t c V) {H : Type} {enc : TypeId × Value → H} {w : World} {cs : Array Value} {d : DataW H} {ps : List MemPlace} (h : DataW.Trod enc P w 0 (fun _ => true) true t (.agg cs) d ps) :
    ∃ a, V a ∧ RelU nobody w (.agg cs) (.agg (c a)) := by
  obtain ⟨fuel, h⟩ := h
  obtain ⟨a, hV, hC⟩ := hR _ _ _ _ _ _ _ _ h
  simp only [Value.cells] at hC
  refine ⟨a, hV, .agg cs _ (by simpa using hC.len) (fun i hi => ?_) (fun i hi => ?_)⟩
  · have := (hC.rel i hi).1; rwa [← arr_getD] at this
  · have := (hC.rel i hi).2; rwa [← arr_getD] at this
theorem rel_unit {w : World} {vs : Array Value} {us : List U} (h1 : vs.size = us.length) (h : ∀ i, i < us.length → RelU nobody w (vs.toList.getD i undef) (us.getD i .pnil)) : ∀ i, i < us.length → RelU nobody w (vs.getD i undef) (us.getD i .pnil) := by
  intro i hi; rw [arr_getD]; exact h i hi
theorem Below.of_frame {w w' : World} (h : Frame0 w (fun _ => False) w') : Below w.heap.size w w' := ⟨h.os, h.tape, h.output, h.size, fun k hk => h.block k hk (fun h => h)⟩
theorem one_int {P : Program} {w : World} {r : Reach} {b t : Nat} {k : IntKind} {v : Value} (ht : P.underlying t = some (.int k)) (h : Value.okWide P w r b t v) : v.cells = #[v] := by
  obtain ⟨n, rfl⟩ := okWide_int ht h; rfl
theorem one_str {P : Program} {w : World} {r : Reach} {b t : Nat} {v : Value} (ht : P.underlying t = some .string) (h : Value.okWide P w r b t v) : v.cells = #[v] := by
  obtain ⟨n, rfl⟩ := okWide_string ht h; rfl
theorem one_sl {P : Program} {w : World} {r : Reach} {b t e : Nat} {v : Value} (ht : P.underlying t = some (.slice e)) (h : Value.okWide P w r b t v) : v.cells = #[v] := by
  obtain ⟨a, n, c, rfl⟩ := okWide_slice ht h; rfl
theorem one_bool {P : Program} {w : World} {r : Reach} {b t : Nat} {v : Value} (ht : P.underlying t = some .bool) (h : Value.okWide P w r b t v) : v.cells = #[v] := by
  simp only [Value.okWide, ht, Cell.okWide] at h
  cases v <;> simp_all [Cell.ok, Value.cells]
theorem agg_struct {P : Program} {w : World} {r : Reach} {b t : Nat} {fs : Array Field} {v : Value} (ht : P.underlying t = some (.struct fs)) (h : Value.okWide P w r b t v) : ∃ cs, v = .agg cs := by
  simp only [Value.okWide, ht] at h
  obtain ⟨cs, h, _⟩ := h; exact ⟨cs, h⟩
theorem rels_nil {w : World} : ∀ i, i < ([] : List U).length → RelU nobody w (([] : List Value).getD i undef) (([] : List U).getD i .pnil) := by intro i hi; simp at hi
theorem rels_cons {w : World} {v : Value} {u : U} {vs : List Value} {us : List U} (h : RelU nobody w v u) (k : ∀ i, i < us.length → RelU nobody w (vs.getD i undef) (us.getD i .pnil)) : ∀ i, i < (u :: us).length → RelU nobody w ((v :: vs).getD i undef) ((u :: us).getD i .pnil) := by
  intro i hi
  cases i with
  | zero => exact h
  | succ i => exact k i (by simpa using hi)
theorem PC.true_calls {P : Program} {g : FuncId} {us : List U} (h : PC P g us (.bool true)) {w : World} {vs : List Value} (hl : vs.length = us.length) (hr : ∀ i, i < us.length → RelU nobody w (vs.getD i undef) (us.getD i .pnil)) :
    Calls P g vs.toArray w fun e w' => e = .returned (.bool true) ∧ Below w.heap.size w w' := by
  refine (h.2 nobody w vs.toArray (fun c hc => hc.elim) (by simpa using hl) (fun i hi => by rw [arr_getD]; exact hr i hi)).mono ?_
  rintro e w' ⟨v, rfl, hv, hf⟩
  cases hv
  exact ⟨rfl, Below.of_frame hf⟩
end Go.Proofs.Ytkpghgnbbfpbmaa

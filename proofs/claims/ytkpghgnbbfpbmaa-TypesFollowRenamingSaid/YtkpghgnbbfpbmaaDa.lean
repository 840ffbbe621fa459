/- Abstract data for the D-logic: pure data U, data with references D, owned objects, and their relations to values in a world. -/
import Derived.WalkKit
set_option linter.unusedSimpArgs false
set_option linter.unusedVariables false
namespace Go.Proofs.Ytkpghgnbbfpbmaa

theorem getD_lt {α : Type} {l : List α} {i : Nat} (d : α) (h : i < l.length) : l.getD i d = l[i] := by simp [List.getD_eq_getElem?_getD, h]
theorem getD_ge {α : Type} {l : List α} {i : Nat} (d : α) (h : l.length ≤ i) : l.getD i d = d := by simp [List.getD_eq_getElem?_getD, h]

/-- Pure data: what a value reads as when the memory it leads to is not written any more. -/
inductive U where
  | int (k : IntKind) (n : Int)
  | bool (b : Bool)
  | str (s : ByteArray)
  | agg (l : List U)
  | tup (l : List U)
  | nil
  | sl (els : List (List U))
  | pnil
  | fp (cells : List U) (off : Nat)
  | fn (f : FuncId) (first caps : List U)
  | fnil
  | mnil
  | fm (es : List (U × U))
instance : Inhabited U := ⟨.pnil⟩

inductive RelU (M : Nat → Prop) (w : World) : Value → U → Prop
  | int (k : IntKind) (n : Int) : RelU M w (.int k n) (.int k n)
  | bool (b : Bool) : RelU M w (.bool b) (.bool b)
  | str (s : ByteArray) : RelU M w (.string s) (.str s)
  | agg (cs : Array Value) (us : List U) (hs : cs.size = us.length) (h1 : ∀ i, i < us.length → (cs.getD i undef).oneCell' = true) (h : ∀ i, i < us.length → RelU M w (cs.getD i undef) (us.getD i .pnil)) : RelU M w (.agg cs) (.agg us)
  | tup (cs : Array Value) (us : List U) (hs : cs.size = us.length) (h : ∀ i, i < us.length → RelU M w (cs.getD i undef) (us.getD i .pnil)) : RelU M w (.tuple cs) (.tup us)
  | nil : RelU M w (.slice none 0 0) .nil
  | slnil : RelU M w (.slice none 0 0) (.sl [])
  | slz (a : Addr) (c : Nat) : RelU M w (.slice (some a) 0 c) (.sl [])
  | sl (b o c s n : Nat) (els : List (List U)) (hn : n = els.length) (hc : n ≤ c) (hm : c ≤ maxLen) (hM : els ≠ [] → ¬ M b ∧ b < w.heap.size) (hs : ∀ e ∈ els, e.length = s)
      (vs : Nat → Value) (hv : ∀ j, j < els.length * s → w.cell? ⟨b, o + j, none⟩ = some (vs j)) (h1 : ∀ j, j < els.length * s → (vs j).oneCell' = true)
      (hr : ∀ i j, i < els.length → j < s → RelU M w (vs (i * s + j)) ((els.getD i []).getD j .pnil)) : RelU M w (.slice (some ⟨b, o, none⟩) n c) (.sl els)
  | pnil : RelU M w (.pointer none) .pnil
  | fp (b o p off : Nat) (cells : List U) (hp : p = o + off) (hM : ¬ M b ∧ b < w.heap.size) (vs : Nat → Value) (hv : ∀ j, j < cells.length → w.cell? ⟨b, o + j, none⟩ = some (vs j)) (h1 : ∀ j, j < cells.length → (vs j).oneCell' = true)
      (hr : ∀ j, j < cells.length → RelU M w (vs j) (cells.getD j .pnil)) : RelU M w (.pointer (some ⟨b, p, none⟩)) (.fp cells off)
  | fn (f : FuncId) (fs cs : Array Value) (us xs : List U) (hs : fs.size = us.length) (h : ∀ i, i < us.length → RelU M w (fs.getD i undef) (us.getD i .pnil))
      (ht : cs.size = xs.length) (k : ∀ i, i < xs.length → RelU M w (cs.getD i undef) (xs.getD i .pnil)) : RelU M w (.func (.func f) fs cs) (.fn f us xs)
  | fnil : RelU M w .nilFunc .fnil
  | mnil : RelU M w (.map none) .mnil
  | fm (r clock : Nat) (entries : Array MapEntry) (es : List (U × U)) (hM : ¬ M r ∧ r < w.heap.size) (hw : w.heap[r]? = some (.map entries clock)) (hs : entries.size = es.length)
      (hk : ∀ i, i < es.length → RelU M w (entries.getD i default).key (es.getD i default).1) (hv : ∀ i, i < es.length → RelU M w (entries.getD i default).val (es.getD i default).2) :
      RelU M w (.map (some r)) (.fm es)

theorem RelU.mono {M M' : Nat → Prop} {w w' : World} (hz : w.heap.size ≤ w'.heap.size) (hw : ∀ c, c < w.heap.size → ¬ M c → w'.heap[c]? = w.heap[c]?) (hM : ∀ c, c < w.heap.size → M' c → M c)
    {v : Value} {u : U} (h : RelU M w v u) : RelU M' w' v u := by
  induction h with
  | int k n => exact .int k n
  | bool b => exact .bool b
  | str s => exact .str s
  | agg cs us hs h1 _ ih => exact .agg cs us hs h1 ih
  | tup cs us hs _ ih => exact .tup cs us hs ih
  | nil => exact .nil
  | slnil => exact .slnil
  | slz a c => exact .slz a c
  | sl b o c s n els hn hc hm h1 hs vs hv ho _ ih =>
    refine .sl b o c s n els hn hc hm (fun he => ⟨fun hx => (h1 he).1 (hM _ (h1 he).2 hx), Nat.lt_of_lt_of_le (h1 he).2 hz⟩) hs vs (fun j hj => ?_) ho ih
    have he : els ≠ [] := by rintro rfl; simp at hj
    have := hv j hj
    rw [← this]
    exact World.cell?_of_block (w := w) (hw b (h1 he).2 (h1 he).1)
  | pnil => exact .pnil
  | fp b o p off cells hp h1 vs hv ho _ ih =>
    refine .fp b o p off cells hp ⟨fun hx => h1.1 (hM _ h1.2 hx), Nat.lt_of_lt_of_le h1.2 hz⟩ vs (fun j hj => ?_) ho ih
    rw [← hv j hj]
    exact World.cell?_of_block (w := w) (hw b h1.2 h1.1)
  | fn f fs cs us xs hs _ ht _ ih1 ih2 => exact .fn f fs cs us xs hs ih1 ht ih2
  | fnil => exact .fnil
  | mnil => exact .mnil
  | fm r clock entries es h1 hw' hs _ _ ih1 ih2 =>
    exact .fm r clock entries es ⟨fun hx => h1.1 (hM _ h1.2 hx), Nat.lt_of_lt_of_le h1.2 hz⟩ (by rw [hw r h1.2 h1.1]; exact hw') hs ih1 ih2

/-- Data in a running call: pure data, references into blocks that the call owns, or nothing known. -/
inductive D where
  | any
  | u (x : U)
  | ref (b s i off : Nat)
  /-- A reference whose block is known: a receiver's. -/
  | pref (b s i off c k : Nat)
  | msl (b n : Nat)
  | mp (b : Nat)
  | agg (l : List D)
  | tup (l : List D)
  | fn (f : FuncId) (first caps : List D)
instance : Inhabited D := ⟨.any⟩

/-- Where the owned objects lie: by name, the block (none: a nil slice that has not been grown yet) and how many elements it has room for. -/
structure Rho where
  f : Nat → Option (Option Nat × Nat)
  /-- Blocks that belong to a caller: nothing here leads to them. -/
  F : Nat → Prop
instance : CoeFun Rho (fun _ => Nat → Option (Option Nat × Nat)) := ⟨Rho.f⟩
def Rho.own (ρ : Rho) (c : Nat) : Prop := ∃ b k, ρ b = some (some c, k)
def Rho.M (ρ : Rho) (c : Nat) : Prop := ρ.own c ∨ ρ.F c

inductive Rel (ρ : Rho) (w : World) : Value → D → Prop
  | any (v : Value) : Rel ρ w v .any
  | u {v : Value} {x : U} (h : RelU ρ.M w v x) : Rel ρ w v (.u x)
  | ref (b s i off c k p : Nat) (h : ρ b = some (some c, k)) (hp : p = i * s + off) : Rel ρ w (.pointer (some ⟨c, p, none⟩)) (.ref b s i off)
  | pref (b s i off c k p : Nat) (h : ρ b = some (some c, k)) (hp : p = i * s + off) : Rel ρ w (.pointer (some ⟨c, p, none⟩)) (.pref b s i off c k)
  | msl (b n c k : Nat) (h : ρ b = some (some c, k)) (hn : n ≤ k) : Rel ρ w (.slice (some ⟨c, 0, none⟩) n k) (.msl b n)
  | msl0 (b : Nat) (h : ρ b = some (none, 0)) : Rel ρ w (.slice none 0 0) (.msl b 0)
  | mp (b c k : Nat) (h : ρ b = some (some c, k)) : Rel ρ w (.map (some c)) (.mp b)
  | agg (cs : Array Value) (ds : List D) (hs : cs.size = ds.length) (h1 : ∀ i, i < ds.length → (cs.getD i undef).oneCell' = true) (h : ∀ i, i < ds.length → Rel ρ w (cs.getD i undef) (ds.getD i .any)) : Rel ρ w (.agg cs) (.agg ds)
  | tup (cs : Array Value) (ds : List D) (hs : cs.size = ds.length) (h : ∀ i, i < ds.length → Rel ρ w (cs.getD i undef) (ds.getD i .any)) : Rel ρ w (.tuple cs) (.tup ds)
  | fn (f : FuncId) (fs cs : Array Value) (ds es : List D) (hs : fs.size = ds.length) (h : ∀ i, i < ds.length → Rel ρ w (fs.getD i undef) (ds.getD i .any))
      (ht : cs.size = es.length) (k : ∀ i, i < es.length → Rel ρ w (cs.getD i undef) (es.getD i .any)) : Rel ρ w (.func (.func f) fs cs) (.fn f ds es)

mutual
/-- Does it mention the object b? -/
def D.has (b : Nat) : D → Bool
  | .any => false
  | .u _ => false
  | .ref b' _ _ _ => b' == b
  | .pref b' _ _ _ _ _ => b' == b
  | .msl b' _ => b' == b
  | .mp b' => b' == b
  | .agg l => D.hasL b l
  | .tup l => D.hasL b l
  | .fn _ l m => D.hasL b l || D.hasL b m
def D.hasL (b : Nat) : List D → Bool
  | [] => false
  | d :: l => D.has b d || D.hasL b l
end

theorem D.hasL_getD {b : Nat} : ∀ {l : List D} {i : Nat}, D.hasL b l = false → (l.getD i .any).has b = false
  | [], i, _ => by simp [D.has]
  | d :: l, 0, h => by simp [D.hasL] at h; simpa using h.1
  | d :: l, i + 1, h => by
    simp [D.hasL] at h
    have := D.hasL_getD (b := b) (l := l) (i := i) h.2
    simpa using this

/-- The relation needs the objects that are mentioned, and the frozen memory. -/
theorem Rel.mono {ρ ρ' : Rho} {w w' : World} (hz : w.heap.size ≤ w'.heap.size) (hw : ∀ c, c < w.heap.size → ¬ ρ.M c → w'.heap[c]? = w.heap[c]?) (hM : ∀ c, c < w.heap.size → ρ'.M c → ρ.M c)
    {v : Value} {d : D} (h : Rel ρ w v d) : (∀ b, d.has b = true → ρ' b = ρ b) → Rel ρ' w' v d := by
  induction h with
  | any v => intro _; exact .any v
  | u h => intro _; exact .u (h.mono hz hw hM)
  | ref b s i off c k p h hp => intro hb; exact .ref b s i off c k p (by rw [hb b (by simp [D.has])]; exact h) hp
  | pref b s i off c k p h hp => intro hb; exact .pref b s i off c k p (by rw [hb b (by simp [D.has])]; exact h) hp
  | msl b n c k h hn => intro hb; exact .msl b n c k (by rw [hb b (by simp [D.has])]; exact h) hn
  | msl0 b h => intro hb; exact .msl0 b (by rw [hb b (by simp [D.has])]; exact h)
  | mp b c k h => intro hb; exact .mp b c k (by rw [hb b (by simp [D.has])]; exact h)
  | agg cs ds hs h1 _ ih =>
    intro hb; refine .agg cs ds hs h1 (fun i hi => ih i hi (fun b h => hb b ?_))
    cases hd : D.hasL b ds with
    | true => simpa [D.has] using hd
    | false => rw [D.hasL_getD hd] at h; cases h
  | tup cs ds hs _ ih =>
    intro hb; refine .tup cs ds hs (fun i hi => ih i hi (fun b h => hb b ?_))
    cases hd : D.hasL b ds with
    | true => simpa [D.has] using hd
    | false => rw [D.hasL_getD hd] at h; cases h
  | fn f fs cs ds es hs _ ht _ ih1 ih2 =>
    intro hb
    refine .fn f fs cs ds es hs (fun i hi => ih1 i hi (fun b h => hb b ?_)) ht (fun i hi => ih2 i hi (fun b h => hb b ?_))
    · cases hd : D.hasL b ds with
      | true => simp [D.has, hd]
      | false => rw [D.hasL_getD hd] at h; cases h
    · cases hd : D.hasL b es with
      | true => simp [D.has, hd]
      | false => rw [D.hasL_getD hd] at h; cases h

/-- What is related is mentioned only where there is an object. -/
theorem Rel.has {ρ : Rho} {w : World} {v : Value} {d : D} (h : Rel ρ w v d) : ∀ b, d.has b = true → (ρ b).isSome = true := by
  have hl : ∀ {b : Nat} {l : List D}, D.hasL b l = true → ∃ i, i < l.length ∧ (l.getD i .any).has b = true := by
    intro b l
    induction l with
    | nil => intro h; simp [D.hasL] at h
    | cons d l ih =>
      intro h
      simp [D.hasL] at h
      rcases h with h | h
      · exact ⟨0, by simp, by simpa using h⟩
      · obtain ⟨i, hi, hd⟩ := ih h
        exact ⟨i + 1, by simpa using hi, by simpa using hd⟩
  induction h with
  | any v => intro b hb; simp [D.has] at hb
  | u h => intro b hb; simp [D.has] at hb
  | ref b s i off c k p h hp => intro b' hb; simp [D.has] at hb; subst hb; simp [h]
  | pref b s i off c k p h hp => intro b' hb; simp [D.has] at hb; subst hb; simp [h]
  | msl b n c k h hn => intro b' hb; simp [D.has] at hb; subst hb; simp [h]
  | msl0 b h => intro b' hb; simp [D.has] at hb; subst hb; simp [h]
  | mp b c k h => intro b' hb; simp [D.has] at hb; subst hb; simp [h]
  | agg cs ds hs _ _ ih => intro b hb; obtain ⟨i, hi, hd⟩ := hl (by simpa [D.has] using hb); exact ih i hi b hd
  | tup cs ds hs _ ih => intro b hb; obtain ⟨i, hi, hd⟩ := hl (by simpa [D.has] using hb); exact ih i hi b hd
  | fn f fs cs ds es hs _ ht _ ih1 ih2 =>
    intro b hb
    simp [D.has] at hb
    rcases hb with hb | hb
    · obtain ⟨i, hi, hd⟩ := hl hb; exact ih1 i hi b hd
    · obtain ⟨i, hi, hd⟩ := hl hb; exact ih2 i hi b hd

/-- An owned object: a row of elements of s cells each, pure or not, or a map. -/
inductive MObj where
  | row (s : Nat) (els : List (List U))
  | drow (s : Nat) (els : List (List D))
  | map (es : List (U × U))

def MObj.size : MObj → Nat
  | .row s _ => s
  | .drow s _ => s
  | .map _ => 0
def MObj.len : MObj → Nat
  | .row _ els => els.length
  | .drow _ els => els.length
  | .map _ => 0
/-- The cells of element i. -/
def MObj.elem (i : Nat) : MObj → List D
  | .row _ els => (els.getD i []).map D.u
  | .drow _ els => els.getD i []
  | .map _ => []

inductive ObjRel (ρ : Rho) (w : World) : Option Nat → Nat → MObj → Prop
  | cells (c k : Nat) (o : MObj) (cur : Array Value) (E : TypeId) (hw : w.heap[c]? = some (.cells cur E (0, 0))) (hs : cur.size = k * o.size) (hl : o.len ≤ k) (hk : k ≤ maxLen)
      (hm : ∀ es, o ≠ .map es) (he : ∀ i, i < o.len → (o.elem i).length = o.size) (h1 : ∀ i j, i < o.len → j < o.size → (cur.getD (i * o.size + j) undef).oneCell' = true) (h : ∀ i j, i < o.len → j < o.size → Rel ρ w (cur.getD (i * o.size + j) undef) ((o.elem i).getD j .any)) : ObjRel ρ w (some c) k o
  | nil (s : Nat) : ObjRel ρ w none 0 (.row s [])
  | dnil (s : Nat) : ObjRel ρ w none 0 (.drow s [])
  | map (c k clock : Nat) (entries : Array MapEntry) (es : List (U × U)) (hw : w.heap[c]? = some (.map entries clock)) (hs : entries.size = es.length)
      (hk : ∀ i, i < es.length → RelU ρ.M w (entries.getD i default).key (es.getD i default).1) (hv : ∀ i, i < es.length → RelU ρ.M w (entries.getD i default).val (es.getD i default).2) : ObjRel ρ w (some c) k (.map es)

def D.hasLL (b : Nat) (l : List (List D)) : Bool := l.any (D.hasL b)
def MObj.has (b : Nat) : MObj → Bool
  | .drow _ els => D.hasLL b els
  | _ => false

theorem MObj.elem_has {b : Nat} {o : MObj} {i j : Nat} (h : o.has b = false) : ((o.elem i).getD j .any).has b = false := by
  cases o with
  | row s els =>
    simp only [MObj.elem]
    by_cases hj : j < ((els.getD i []).map D.u).length
    · rw [getD_lt _ hj]; simp [D.has]
    · rw [getD_ge _ (by omega)]; simp [D.has]
  | drow s els =>
    simp only [MObj.elem]
    apply D.hasL_getD
    simp only [MObj.has, D.hasLL, List.any_eq_false] at h
    by_cases hi : i < els.length
    · rw [getD_lt _ hi]; simpa using h _ (List.getElem_mem hi)
    · rw [getD_ge _ (by omega)]; simp [D.hasL]
  | map es => simp [MObj.elem, D.has]

theorem ObjRel.mono {ρ ρ' : Rho} {w w' : World} (hz : w.heap.size ≤ w'.heap.size) (hw : ∀ c, c < w.heap.size → ¬ ρ.M c → w'.heap[c]? = w.heap[c]?) (hM : ∀ c, c < w.heap.size → ρ'.M c → ρ.M c)
    {c : Option Nat} {k : Nat} {o : MObj} (h : ObjRel ρ w c k o) (hb : ∀ b, o.has b = true → ρ' b = ρ b) (hc : ∀ c', c = some c' → w'.heap[c']? = w.heap[c']?) : ObjRel ρ' w' c k o := by
  cases h with
  | cells c k o cur E hw1 hs hl hk hm he h1 h =>
    refine .cells c k o cur E (by rw [hc c rfl]; exact hw1) hs hl hk hm he h1 (fun i j hi hj => (h i j hi hj).mono hz hw hM (fun b hd => hb b ?_))
    cases hh : o.has b with
    | true => rfl
    | false => rw [MObj.elem_has hh] at hd; cases hd
  | nil s => exact .nil s
  | dnil s => exact .dnil s
  | map c k clock entries es hw1 hs hk hv => exact .map c k clock entries es (by rw [hc c rfl]; exact hw1) hs (fun i hi => (hk i hi).mono hz hw hM) (fun i hi => (hv i hi).mono hz hw hM)

/-- A state: the slots, the owned objects by name, and the least name that is free from there on. -/
structure St where
  σ : Nat → D
  H : Nat → Option MObj
  nx : Nat

/-- What has not been owned in the world w0 (M0) reads as it did. -/
structure Frame0 (w0 : World) (M0 : Nat → Prop) (w : World) : Prop where
  os : w.os = w0.os
  tape : w.tape = w0.tape
  output : w.output = w0.output
  size : w0.heap.size ≤ w.heap.size
  block : ∀ c, c < w0.heap.size → ¬ M0 c → w.heap[c]? = w0.heap[c]?

theorem Frame0.refl (w : World) (M : Nat → Prop) : Frame0 w M w := ⟨rfl, rfl, rfl, Nat.le_refl _, fun _ _ _ => rfl⟩
theorem Frame0.trans {w0 w1 w2 : World} {M0 M1 : Nat → Prop} (h : Frame0 w0 M0 w1) (k : Frame0 w1 M1 w2) (hM : ∀ c, c < w0.heap.size → M1 c → M0 c) : Frame0 w0 M0 w2 :=
  ⟨k.os.trans h.os, k.tape.trans h.tape, k.output.trans h.output, Nat.le_trans h.size k.size, fun c hc hn => (k.block c (Nat.lt_of_lt_of_le hc h.size) (fun hx => hn (hM c hc hx))).trans (h.block c hc hn)⟩

structure HeapRel (w0 : World) (M0 : Nat → Prop) (H : Nat → Option MObj) (nx : Nat) (ρ : Rho) (w : World) : Prop where
  dom : ∀ b, H b = none → ρ b = none
  obj : ∀ b o, H b = some o → ∃ c k, ρ b = some (c, k) ∧ ObjRel ρ w c k o
  own : ∀ b c k, ρ b = some (some c, k) → c < w.heap.size ∧ (M0 c ∨ w0.heap.size ≤ c)
  inj : ∀ b b' c k k', ρ b = some (some c, k) → ρ b' = some (some c, k') → b = b'
  fresh : ∀ b, nx ≤ b → H b = none
  far : ∀ c, ρ.F c → c < w0.heap.size ∧ ¬ M0 c

structure HoldsR (n : Nat) (w0 : World) (M0 : Nat → Prop) (ρ : Rho) (st : St) (a : Act) (w : World) : Prop where
  defers : a.defers = []
  size : a.tmps.size = n
  frame : Frame0 w0 M0 w
  heap : HeapRel w0 M0 st.H st.nx ρ w
  regs : ∀ t, Rel ρ w (a.tmps.getD t undef) (st.σ t)

def Holds (n : Nat) (w0 : World) (M0 F : Nat → Prop) (st : St) (a : Act) (w : World) : Prop := ∃ ρ : Rho, ρ.F = F ∧ HoldsR n w0 M0 ρ st a w

/-- The triple: from every world in which the state holds, the code comes to an exit and a state that Q permits. -/
def T (P : Program) (n : Nat) (c : Code) (st : St) (Q : Exit → St → Prop) : Prop :=
  ∀ w0 M0 F a w, Holds n w0 M0 F st a w → c.wp P (fun e a' w' => ∃ st', Q e st' ∧ Holds n w0 M0 F st' a' w') a w

theorem T.mono {P : Program} {n : Nat} {c : Code} {st : St} {Q Q' : Exit → St → Prop} (h : T P n c st Q) (hq : ∀ e st', Q e st' → Q' e st') : T P n c st Q' :=
  fun w0 M0 F a w hh => wp_mono (h w0 M0 F a w hh) fun _ _ _ ⟨st', q, k⟩ => ⟨st', hq _ _ q, k⟩

def thn (Q : Exit → St → Prop) (K : St → Prop) : Exit → St → Prop
  | .normal, st => K st
  | e, st => Q e st

theorem T_seq {P : Program} {n : Nat} {x y : Code} {st : St} {Q : Exit → St → Prop} (h : T P n x st (thn Q fun st' => T P n y st' Q)) : T P n (.seq x y) st Q := by
  intro w0 M0 F a w hh
  refine wp_seq (wp_mono (h w0 M0 F a w hh) ?_)
  rintro e a' w' ⟨st', q, k⟩
  cases e <;> first | exact q w0 M0 F a' w' k | exact ⟨st', q, k⟩

theorem T_seq_k {P : Program} {n : Nat} {x y : Code} {st : St} {Q : Exit → St → Prop} (h : ∀ K : St → Prop, (∀ st', T P n y st' Q → K st') → T P n x st (thn Q K)) : T P n (.seq x y) st Q :=
  T_seq (h _ fun _ h => h)

theorem T_skip {P : Program} {n : Nat} {st : St} {Q : Exit → St → Prop} (h : Q .normal st) : T P n .skip st Q := fun _ _ _ _ _ hh => wp_skip ⟨st, h, hh⟩
theorem T_exit {P : Program} {n i : Nat} {st : St} {Q : Exit → St → Prop} (h : Q (.exit i) st) : T P n (.exit i) st Q := fun _ _ _ _ _ hh => wp_exit ⟨st, h, hh⟩
theorem T_ret {P : Program} {n : Nat} {st : St} {Q : Exit → St → Prop} (h : Q .ret st) : T P n .ret st Q := fun _ _ _ _ _ hh => wp_ret ⟨st, h, hh⟩

def inb (id : Nat) (Q : Exit → St → Prop) : Exit → St → Prop
  | .exit id', st => if id' = id then Q .normal st else Q (.exit id') st
  | e, st => Q e st

theorem T_block {P : Program} {n : Nat} {id : Nat} {c : Code} {st : St} {Q : Exit → St → Prop} (h : T P n c st (inb id Q)) : T P n (.block id c) st Q := by
  intro w0 M0 F a w hh
  refine wp_block (wp_mono (h w0 M0 F a w hh) ?_)
  rintro e a' w' ⟨st', q, k⟩
  cases e with
  | exit id' =>
    simp only [inb] at q
    simp only [Exit.inBlock]
    split at q <;> rename_i hid
    · rw [if_pos hid]; exact ⟨st', q, k⟩
    · rw [if_neg hid]; exact ⟨st', q, k⟩
  | _ => exact ⟨st', q, k⟩

/-- From a state in which more is known. -/
def Weak (st st2 : St) : Prop := ∀ n w0 M0 F a w, Holds n w0 M0 F st a w → Holds n w0 M0 F st2 a w
theorem Weak.refl (st : St) : Weak st st := fun _ _ _ _ _ _ h => h
theorem T_weak {P : Program} {n : Nat} {c : Code} {st st2 : St} {Q : Exit → St → Prop} (hw : Weak st st2) (h : T P n c st2 Q) : T P n c st Q :=
  fun w0 M0 F a w hh => h w0 M0 F a w (hw n w0 M0 F a w hh)

theorem T_loop {P : Program} {n : Nat} {c : Code} {st : St} {Q : Exit → St → Prop} {ι : Type} (I : ι → St) (ok : ι → Prop) (μ : ι → Nat) (i0 : ι) (h0 : Weak st (I i0)) (hk : ok i0)
    (round : ∀ i, ok i → T P n c (I i) (thn Q fun st' => ∃ j, ok j ∧ Weak st' (I j) ∧ μ j < μ i)) : T P n (.loop c) st Q := by
  intro w0 M0 F a w hh b k cs
  have key : ∀ m (a : Act) (w : World), (∃ i, ok i ∧ μ i ≤ m ∧ Holds n w0 M0 F (I i) a w) →
      ∃ e a' w', (∃ st', Q e st' ∧ Holds n w0 M0 F st' a' w') ∧ Arrives P (lone (b.at a (.code c :: .inLoop c :: k)) cs w) b k cs e a' w' := by
    intro m
    induction m with
    | zero =>
      rintro a w ⟨i, hi, hn, hx⟩
      obtain ⟨e, a1, w1, ⟨st', q, kk⟩, harr⟩ := round i hi w0 M0 F a w hx b (.inLoop c :: k) cs
      cases e with
      | normal => obtain ⟨j, _, _, hlt⟩ := q; omega
      | exit id => exact ⟨_, a1, w1, ⟨st', q, kk⟩, .pass (x := .inLoop c) rfl (fun _ _ => .inl (by simp)) harr⟩
      | goto l => exact ⟨_, a1, w1, ⟨st', q, kk⟩, .pass (x := .inLoop c) rfl (fun _ _ => .inl (by simp)) harr⟩
      | ret => exact ⟨_, a1, w1, ⟨st', q, kk⟩, .pass (x := .inLoop c) rfl (fun _ _ => .inl (by simp)) harr⟩
      | panic ch => exact ⟨_, a1, w1, ⟨st', q, kk⟩, .pass (x := .inLoop c) rfl (fun _ _ => .inl (by simp)) harr⟩
      | outgrown => exact ⟨_, a1, w1, ⟨st', q, kk⟩, .pass (x := .inLoop c) rfl (fun _ _ => .inl (by simp)) harr⟩
    | succ m ih =>
      rintro a w ⟨i, hi, hn, hx⟩
      obtain ⟨e, a1, w1, ⟨st', q, kk⟩, harr⟩ := round i hi w0 M0 F a w hx b (.inLoop c :: k) cs
      cases e with
      | normal =>
        obtain ⟨j, hj, hwk, hlt⟩ := q
        obtain ⟨e2, a2, w2, hq2, harr2⟩ := ih a1 w1 ⟨j, hj, by omega, hwk _ _ _ _ _ _ kk⟩
        exact ⟨e2, a2, w2, hq2, .of_steps (Steps.trans harr (.one step_inLoop)) harr2⟩
      | exit id => exact ⟨_, a1, w1, ⟨st', q, kk⟩, .pass (x := .inLoop c) rfl (fun _ _ => .inl (by simp)) harr⟩
      | goto l => exact ⟨_, a1, w1, ⟨st', q, kk⟩, .pass (x := .inLoop c) rfl (fun _ _ => .inl (by simp)) harr⟩
      | ret => exact ⟨_, a1, w1, ⟨st', q, kk⟩, .pass (x := .inLoop c) rfl (fun _ _ => .inl (by simp)) harr⟩
      | panic ch => exact ⟨_, a1, w1, ⟨st', q, kk⟩, .pass (x := .inLoop c) rfl (fun _ _ => .inl (by simp)) harr⟩
      | outgrown => exact ⟨_, a1, w1, ⟨st', q, kk⟩, .pass (x := .inLoop c) rfl (fun _ _ => .inl (by simp)) harr⟩
  obtain ⟨e, a', w', hq, harr⟩ := key _ a w ⟨i0, hk, Nat.le_refl _, h0 _ _ _ _ _ _ hh⟩
  exact ⟨e, a', w', hq, .of_steps (.one step_loop) harr⟩

end Go.Proofs.Ytkpghgnbbfpbmaa

/- The rules of each operation, over typed data: what a lifted function asks for, and what then stands in the slots. -/
import Derived.Test.YtkpghgnbbfpbmaaDo
set_option linter.unusedSimpArgs false
set_option linter.unusedVariables false
namespace Go.Proofs.Ytkpghgnbbfpbmaa

/-! ### Words of the lifted functions -/
def idx {α : Type} (l : List α) (i : Int) : Option α := if 0 ≤ i then l[i.toNat]? else none
def sidx (s : ByteArray) (i : Int) : Option Int := if 0 ≤ i ∧ i < s.size then some ((s.data.toList.getD i.toNat 0).toNat : Int) else none
def slc {α : Type} (l : List α) (lo hi : Int) : Option (List α) := if 0 ≤ lo ∧ lo ≤ hi ∧ hi ≤ l.length then some ((l.take hi.toNat).drop lo.toNat) else none
def ssl (s : ByteArray) (lo hi : Int) : Option ByteArray := if 0 ≤ lo ∧ lo ≤ hi ∧ hi ≤ s.size then some (s.extract lo.toNat hi.toNat) else none
def room (n bytes : Nat) : Bool := decide (n * bytes ≤ 140737488355328 ∧ n ≤ 9223372036854775807)
def mksl {α : Type} (bytes : Nat) (z : α) (l c : Int) : Option (List α) := if 0 ≤ l ∧ l ≤ c ∧ c * bytes ≤ 140737488355328 ∧ c ≤ 9223372036854775807 then some (List.replicate l.toNat z) else none

/-! ### Typed data as cells -/
def cInt (k : IntKind) (x : Int) : List U := [.int k x]
def cBool (x : Bool) : List U := [.bool x]
def cStr (x : ByteArray) : List U := [.str x]
def cSl {α : Type} (c : α → List U) (l : List α) : List U := [.sl (l.map c)]
def cPt {α : Type} (c : α → List U) (x : α) : List U := [.fp (c x) 0]

theorem bindS {α β : Type} {x : Option α} {f : α → Option β} {r : β} (h : x.bind f = some r) : ∃ o, x = some o ∧ f o = some r := Option.bind_eq_some_iff.1 h
theorem cond_T {α : Type} {a b : α} {r : α} (h : cond true a b = r) : a = r := h
theorem cond_F {α : Type} {a b : α} {r : α} (h : cond false a b = r) : b = r := h
theorem chkS {α : Type} {c : Bool} {a : Option α} {r : α} (h : cond c a none = some r) : c = true ∧ a = some r := by
  cases c with
  | true => exact ⟨rfl, h⟩
  | false => cases h
theorem elimL {α β γ : Type} {f : α → γ} {g : β → γ} {x : α} {r : γ} (h : Sum.elim f g (.inl x) = r) : f x = r := h
theorem elimR {α β γ : Type} {f : α → γ} {g : β → γ} {x : β} {r : γ} (h : Sum.elim f g (.inr x) = r) : g x = r := h

section
variable {P : Program} {n : Nat} {Q : Exit → St → Prop} {fs : List Fr} {L : List (Nat × D)} {O : List (Nat × MObj)} {nx : Nat} {l : List AOp} {g : Option (Nat × Bool)} {t : Nat}

def evL (L : List (Nat × D)) : Opd → D
  | .t k => regs L k
  | .c x => .u x
theorem evL_eq (x : Opd) : (mkSt L O nx).ev x = evL L x := by cases x <;> rfl
theorem evL_fun : (mkSt L O nx).ev = evL L := funext fun x => evL_eq x

/-- A branch. -/
theorem R_cond {α : Type} {x : Opd} {a b : AC} {c : Bool} {A B : Option α} {r : α} (hx : evL L x = .u (.bool c)) (h : cond c A B = some r) (k1 : A = some r → Run P n Q fs a (mkSt L O nx)) (k2 : B = some r → Run P n Q fs b (mkSt L O nx)) :
    Run P n Q fs (.cond x a b) (mkSt L O nx) := by
  cases c with
  | true => exact R_cond_t (by rw [evL_eq]; exact hx) (k1 h)
  | false => exact R_cond_f (by rw [evL_eq]; exact hx) (k2 h)
theorem R_ct {x : Opd} {a b : AC} (hx : evL L x = .u (.bool true)) (h : Run P n Q fs a (mkSt L O nx)) : Run P n Q fs (.cond x a b) (mkSt L O nx) := R_cond_t (by rw [evL_eq]; exact hx) h
theorem R_cf {x : Opd} {a b : AC} (hx : evL L x = .u (.bool false)) (h : Run P n Q fs b (mkSt L O nx)) : Run P n Q fs (.cond x a b) (mkSt L O nx) := R_cond_f (by rw [evL_eq]; exact hx) h
/-- Both values of a slot. -/
theorem S_case {α : Type} {c : Bool} {A B : Option α} {r : α} (hx : regs L t = .u (.bool c)) (h : cond c A B = some r) (k1 : c = true → A = some r → Rs P n Q fs l (mkSt ((t, .u (.bool true)) :: L) O nx)) (k2 : c = false → B = some r → Rs P n Q fs l (mkSt ((t, .u (.bool false)) :: L) O nx)) :
    Rs P n Q fs l (mkSt L O nx) := by
  have key : ∀ d, regs L t = d → mkSt ((t, d) :: L) O nx = mkSt L O nx := by
    intro d hd
    have : regs ((t, d) :: L) = regs L := by
      funext x
      simp only [regs]
      split
      · rename_i hx; rw [hx]; exact hd.symm
      · rfl
    simp only [mkSt, this]
  cases c with
  | true => rw [← key _ hx]; exact k1 rfl h
  | false => rw [← key _ hx]; exact k2 rfl h

def gdL (L : List (Nat × D)) : Option (Nat × Bool) → Prop
  | none => True
  | some (t, want) => regs L t = .u (.bool want)
theorem gdL_gdo (h : gdL L g) : gdo (mkSt L O nx) g := by
  cases g with
  | none => trivial
  | some p => exact h

theorem S_skip {t' : Nat} {want b : Bool} {ao : AO} (hx : regs L t' = .u (.bool b)) (hb : (b == want) = false) (h : Rs P n Q fs l (mkSt ((t, .u (.tup [])) :: L) O nx)) : Rs P n Q fs (⟨some t, some (t', want), ao⟩ :: l) (mkSt L O nx) :=
  Rs_skpU (.inl ⟨b, hx, hb⟩) h
theorem S_skip0 {t' : Nat} {want b : Bool} {ao : AO} (hx : regs L t' = .u (.bool b)) (hb : (b == want) = false) (h : Rs P n Q fs l (mkSt L O nx)) : Rs P n Q fs (⟨none, some (t', want), ao⟩ :: l) (mkSt L O nx) :=
  Rs_skpU (.inl ⟨b, hx, hb⟩) h
theorem S_skipu {t' : Nat} {want : Bool} {ao : AO} (hx : regs L t' = .u (.tup [])) (h : Rs P n Q fs l (mkSt ((t, .u (.tup [])) :: L) O nx)) : Rs P n Q fs (⟨some t, some (t', want), ao⟩ :: l) (mkSt L O nx) :=
  Rs_skpU (.inr hx) h
theorem S_skipu0 {t' : Nat} {want : Bool} {ao : AO} (hx : regs L t' = .u (.tup [])) (h : Rs P n Q fs l (mkSt L O nx)) : Rs P n Q fs (⟨none, some (t', want), ao⟩ :: l) (mkSt L O nx) :=
  Rs_skpU (.inr hx) h

theorem S_pure {ao : AO} {d : D} (hg : gdL L g) (hop : opVC P ao (evL L) (objs O) nx (fun e => e = { d := d })) (h : Rs P n Q fs l (mkSt ((t, d) :: L) O nx)) : Rs P n Q fs (⟨some t, g, ao⟩ :: l) (mkSt L O nx) := by
  refine Rs_op (gdL_gdo hg) (R := fun e => e = { d := d }) (by rw [evL_fun]; exact hop) ?_
  rintro e rfl
  have : (mkSt L O nx).app (some t) { d := d } = mkSt ((t, d) :: L) O nx := by simp [St.app, St.killO, updH, St.put, mkSt]; rfl
  rw [this]; exact h
theorem S_up {ao : AO} {d : D} {ob : MObj} (hg : gdL L g) (hop : opVC P ao (evL L) (objs O) nx (fun e => e = { d := d, up := [(nx, ob)], nx := nx + 1 })) (h : Rs P n Q fs l (mkSt ((t, d) :: L) ((nx, ob) :: O) (nx + 1))) : Rs P n Q fs (⟨some t, g, ao⟩ :: l) (mkSt L O nx) := by
  refine Rs_op (gdL_gdo hg) (R := fun e => e = { d := d, up := [(nx, ob)], nx := nx + 1 }) (by rw [evL_fun]; exact hop) ?_
  rintro e rfl
  have : (mkSt L O nx).app (some t) { d := d, up := [(nx, ob)], nx := nx + 1 } = mkSt ((t, d) :: L) ((nx, ob) :: O) (nx + 1) := by simp [St.app, St.killO, updH, St.put, mkSt]; exact ⟨rfl, rfl⟩
  rw [this]; exact h

theorem S_mv {x : Opd} {d : D} (hg : gdL L g) (hx : evL L x = d) (h : Rs P n Q fs l (mkSt ((t, d) :: L) O nx)) : Rs P n Q fs (⟨some t, g, .mv x⟩ :: l) (mkSt L O nx) :=
  S_pure hg (by simp only [opVC, hx]) h
def ncOk : D → Bool
  | .u (.fp _ _) => true
  | .u (.fn _ _ _) => true
  | .ref _ _ _ _ => true
  | .fn _ _ _ => true
  | _ => false
theorem S_nc {x : Opd} {d : D} (hg : gdL L g) (hx : evL L x = d) (hd : ncOk d = true) (h : Rs P n Q fs l (mkSt ((t, d) :: L) O nx)) : Rs P n Q fs (⟨some t, g, .nc x⟩ :: l) (mkSt L O nx) :=
  S_pure hg (by
    simp only [opVC, hx]
    cases d with
    | u u => cases u <;> first | rfl | cases hd
    | ref _ _ _ _ => rfl
    | fn _ _ _ => rfl
    | _ => cases hd) h
theorem S_pkt {c x y : Opd} {d : D} (hg : gdL L g) (hc : evL L c = .u (.bool true)) (hx : evL L x = d) (h : Rs P n Q fs l (mkSt ((t, d) :: L) O nx)) : Rs P n Q fs (⟨some t, g, .pk c x y⟩ :: l) (mkSt L O nx) :=
  S_pure hg (by simp only [opVC, hc, hx]; split <;> simp_all) h
theorem S_pkf {c x y : Opd} {d : D} (hg : gdL L g) (hc : evL L c = .u (.bool false)) (hy : evL L y = d) (h : Rs P n Q fs l (mkSt ((t, d) :: L) O nx)) : Rs P n Q fs (⟨some t, g, .pk c x y⟩ :: l) (mkSt L O nx) :=
  S_pure hg (by simp only [opVC, hc, hy]; split <;> simp_all) h
theorem S_neg {x : Opd} {k : IntKind} {a : Int} (hg : gdL L g) (hx : evL L x = .u (.int k a)) (h : Rs P n Q fs l (mkSt ((t, .u (.int k (k.wrap (0 - a)))) :: L) O nx)) : Rs P n Q fs (⟨some t, g, .un .neg x⟩ :: l) (mkSt L O nx) :=
  S_pure hg (by simp only [opVC, hx]) h
theorem S_not {x : Opd} {b : Bool} (hg : gdL L g) (hx : evL L x = .u (.bool b)) (h : Rs P n Q fs l (mkSt ((t, .u (.bool !b)) :: L) O nx)) : Rs P n Q fs (⟨some t, g, .un .not x⟩ :: l) (mkSt L O nx) :=
  S_pure hg (by simp only [opVC, hx]) h
theorem S_com {x : Opd} {k : IntKind} {a : Int} (hg : gdL L g) (hx : evL L x = .u (.int k a)) (h : Rs P n Q fs l (mkSt ((t, .u (.int k (bits .xor k (if k.signed then -1 else k.max) a))) :: L) O nx)) : Rs P n Q fs (⟨some t, g, .un .xor x⟩ :: l) (mkSt L O nx) :=
  S_pure hg (by simp only [opVC, hx]) h

section
variable {x y : Opd} {k k' : IntKind} {a b : Int} (hg : gdL L g) (hx : evL L x = .u (.int k a))
include hg hx
theorem S_shl (hy : evL L y = .u (.int k' b)) (hb : decide (0 ≤ b) = true) (h : Rs P n Q fs l (mkSt ((t, .u (.int k (k.wrap (a * 2 ^ min b.toNat k.bits)))) :: L) O nx)) : Rs P n Q fs (⟨some t, g, .bi .shl x y⟩ :: l) (mkSt L O nx) :=
  S_pure hg (by simp only [opVC, hx, hy, biI]; exact ⟨of_decide_eq_true hb, trivial⟩) h
theorem S_shr (hy : evL L y = .u (.int k' b)) (hb : decide (0 ≤ b) = true) (h : Rs P n Q fs l (mkSt ((t, .u (.int k (a.fdiv (2 ^ min b.toNat k.bits)))) :: L) O nx)) : Rs P n Q fs (⟨some t, g, .bi .shr x y⟩ :: l) (mkSt L O nx) :=
  S_pure hg (by simp only [opVC, hx, hy, biI]; exact ⟨of_decide_eq_true hb, trivial⟩) h
theorem S_quo (hy : evL L y = .u (.int k b)) (hb : (!decide (b = 0)) = true) (h : Rs P n Q fs l (mkSt ((t, .u (.int k (k.wrap (a.tdiv b)))) :: L) O nx)) : Rs P n Q fs (⟨some t, g, .bi .quo x y⟩ :: l) (mkSt L O nx) :=
  S_pure hg (by simp only [opVC, hx, hy, biI]; exact ⟨trivial, by simpa using hb, trivial⟩) h
theorem S_rem (hy : evL L y = .u (.int k b)) (hb : (!decide (b = 0)) = true) (h : Rs P n Q fs l (mkSt ((t, .u (.int k (a.tmod b))) :: L) O nx)) : Rs P n Q fs (⟨some t, g, .bi .rem x y⟩ :: l) (mkSt L O nx) :=
  S_pure hg (by simp only [opVC, hx, hy, biI]; exact ⟨trivial, by simpa using hb, trivial⟩) h
variable (hy : evL L y = .u (.int k b))
include hy
theorem S_add (h : Rs P n Q fs l (mkSt ((t, .u (.int k (k.wrap (a + b)))) :: L) O nx)) : Rs P n Q fs (⟨some t, g, .bi .add x y⟩ :: l) (mkSt L O nx) := S_pure hg (by simp only [opVC, hx, hy, biI]; exact ⟨trivial, trivial⟩) h
theorem S_sub (h : Rs P n Q fs l (mkSt ((t, .u (.int k (k.wrap (a - b)))) :: L) O nx)) : Rs P n Q fs (⟨some t, g, .bi .sub x y⟩ :: l) (mkSt L O nx) := S_pure hg (by simp only [opVC, hx, hy, biI]; exact ⟨trivial, trivial⟩) h
theorem S_mul (h : Rs P n Q fs l (mkSt ((t, .u (.int k (k.wrap (a * b)))) :: L) O nx)) : Rs P n Q fs (⟨some t, g, .bi .mul x y⟩ :: l) (mkSt L O nx) := S_pure hg (by simp only [opVC, hx, hy, biI]; exact ⟨trivial, trivial⟩) h
theorem S_and (h : Rs P n Q fs l (mkSt ((t, .u (.int k (bits .and k a b))) :: L) O nx)) : Rs P n Q fs (⟨some t, g, .bi .and x y⟩ :: l) (mkSt L O nx) := S_pure hg (by simp only [opVC, hx, hy, biI]; exact ⟨trivial, trivial⟩) h
theorem S_or (h : Rs P n Q fs l (mkSt ((t, .u (.int k (bits .or k a b))) :: L) O nx)) : Rs P n Q fs (⟨some t, g, .bi .or x y⟩ :: l) (mkSt L O nx) := S_pure hg (by simp only [opVC, hx, hy, biI]; exact ⟨trivial, trivial⟩) h
theorem S_xor (h : Rs P n Q fs l (mkSt ((t, .u (.int k (bits .xor k a b))) :: L) O nx)) : Rs P n Q fs (⟨some t, g, .bi .xor x y⟩ :: l) (mkSt L O nx) := S_pure hg (by simp only [opVC, hx, hy, biI]; exact ⟨trivial, trivial⟩) h
theorem S_andNot (h : Rs P n Q fs l (mkSt ((t, .u (.int k (bits .andNot k a b))) :: L) O nx)) : Rs P n Q fs (⟨some t, g, .bi .andNot x y⟩ :: l) (mkSt L O nx) := S_pure hg (by simp only [opVC, hx, hy, biI]; exact ⟨trivial, trivial⟩) h
theorem S_eql (h : Rs P n Q fs l (mkSt ((t, .u (.bool (decide (a = b)))) :: L) O nx)) : Rs P n Q fs (⟨some t, g, .bi .eql x y⟩ :: l) (mkSt L O nx) := S_pure hg (by simp only [opVC, hx, hy, biI]; exact ⟨trivial, trivial⟩) h
theorem S_neq (h : Rs P n Q fs l (mkSt ((t, .u (.bool (!decide (a = b)))) :: L) O nx)) : Rs P n Q fs (⟨some t, g, .bi .neq x y⟩ :: l) (mkSt L O nx) := S_pure hg (by simp only [opVC, hx, hy, biI]; exact ⟨trivial, trivial⟩) h
theorem S_lss (h : Rs P n Q fs l (mkSt ((t, .u (.bool (decide (a < b)))) :: L) O nx)) : Rs P n Q fs (⟨some t, g, .bi .lss x y⟩ :: l) (mkSt L O nx) := S_pure hg (by simp only [opVC, hx, hy, biI]; exact ⟨trivial, trivial⟩) h
theorem S_leq (h : Rs P n Q fs l (mkSt ((t, .u (.bool (decide (a ≤ b)))) :: L) O nx)) : Rs P n Q fs (⟨some t, g, .bi .leq x y⟩ :: l) (mkSt L O nx) := S_pure hg (by simp only [opVC, hx, hy, biI]; exact ⟨trivial, trivial⟩) h
theorem S_gtr (h : Rs P n Q fs l (mkSt ((t, .u (.bool (decide (b < a)))) :: L) O nx)) : Rs P n Q fs (⟨some t, g, .bi .gtr x y⟩ :: l) (mkSt L O nx) := S_pure hg (by simp only [opVC, hx, hy, biI]; exact ⟨trivial, trivial⟩) h
theorem S_geq (h : Rs P n Q fs l (mkSt ((t, .u (.bool (decide (b ≤ a)))) :: L) O nx)) : Rs P n Q fs (⟨some t, g, .bi .geq x y⟩ :: l) (mkSt L O nx) := S_pure hg (by simp only [opVC, hx, hy, biI]; exact ⟨trivial, trivial⟩) h
end
section
variable {x y : Opd} {a b : ByteArray} (hg : gdL L g) (hx : evL L x = .u (.str a)) (hy : evL L y = .u (.str b))
include hg hx hy
theorem S_seql (h : Rs P n Q fs l (mkSt ((t, .u (.bool (decide (a = b)))) :: L) O nx)) : Rs P n Q fs (⟨some t, g, .bi .eql x y⟩ :: l) (mkSt L O nx) := S_pure hg (by simp only [opVC, hx, hy, biS]) h
theorem S_sneq (h : Rs P n Q fs l (mkSt ((t, .u (.bool (!decide (a = b)))) :: L) O nx)) : Rs P n Q fs (⟨some t, g, .bi .neq x y⟩ :: l) (mkSt L O nx) := S_pure hg (by simp only [opVC, hx, hy, biS]) h
end
section
variable {x y : Opd} {a b : Bool} (hg : gdL L g) (hx : evL L x = .u (.bool a)) (hy : evL L y = .u (.bool b))
include hg hx hy
theorem S_beql (h : Rs P n Q fs l (mkSt ((t, .u (.bool (decide (a = b)))) :: L) O nx)) : Rs P n Q fs (⟨some t, g, .bb .eql x y⟩ :: l) (mkSt L O nx) := S_pure hg (by simp only [opVC, hx, hy]) h
theorem S_bneq (h : Rs P n Q fs l (mkSt ((t, .u (.bool (!decide (a = b)))) :: L) O nx)) : Rs P n Q fs (⟨some t, g, .bb .neq x y⟩ :: l) (mkSt L O nx) := S_pure hg (by simp only [opVC, hx, hy]) h
end
theorem S_cv {x : Opd} {k k' : IntKind} {a : Int} (hg : gdL L g) (hx : evL L x = .u (.int k' a)) (h : Rs P n Q fs l (mkSt ((t, .u (.int k (k.wrap a))) :: L) O nx)) : Rs P n Q fs (⟨some t, g, .cv k x⟩ :: l) (mkSt L O nx) :=
  S_pure hg (by simp only [opVC, hx]) h

/-! #### Reading -/
theorem S_ldf {m : Nat} {x : Opd} {cells : List U} {off : Nat} {u : U} (hg : gdL L g) (hx : evL L x = .u (.fp cells off)) (hu : cells[off]? = some u) (h : Rs P n Q fs l (mkSt ((t, .u u) :: L) O nx)) : Rs P n Q fs (⟨some t, g, .ld false m x⟩ :: l) (mkSt L O nx) :=
  S_pure hg (by
    obtain ⟨hl, hu⟩ := List.getElem?_eq_some_iff.1 hu
    simp only [opVC, hx]; exact ⟨hl, by rw [getD_lt _ hl, hu]⟩) h
theorem S_lda {m : Nat} {x : Opd} {cells us : List U} {off : Nat} (hg : gdL L g) (hx : evL L x = .u (.fp cells off)) (hl : Nat.ble (off + m) cells.length = true) (hu : (cells.drop off).take m = us) (h : Rs P n Q fs l (mkSt ((t, .u (.agg us)) :: L) O nx)) : Rs P n Q fs (⟨some t, g, .ld true m x⟩ :: l) (mkSt L O nx) :=
  S_pure hg (by simp only [opVC, hx]; exact ⟨Nat.le_of_ble_eq_true hl, by rw [hu]⟩) h
theorem S_ldo {m : Nat} {x : Opd} {b s off : Nat} {ds : List D} {d : D} (hg : gdL L g) (hx : evL L x = .ref b s 0 off) (ho : objs O b = some (.drow s [ds])) (hs : Nat.blt off s = true) (hd : ds.getD off .any = d) (h : Rs P n Q fs l (mkSt ((t, d) :: L) O nx)) : Rs P n Q fs (⟨some t, g, .ld false m x⟩ :: l) (mkSt L O nx) :=
  S_pure hg (by simp only [opVC, hx, ho]; exact ⟨trivial, by simp, Nat.le_of_ble_eq_true hs, by simp only [List.getD_cons_zero]; rw [hd]⟩) h
theorem S_ldoa {m : Nat} {x : Opd} {b s off : Nat} {ds : List D} {d : D} (hg : gdL L g) (hx : evL L x = .ref b s 0 off) (ho : objs O b = some (.drow s [ds])) (hs : Nat.ble (off + m) s = true) (hd : mkAgg ((ds.drop off).take m) = d) (h : Rs P n Q fs l (mkSt ((t, d) :: L) O nx)) : Rs P n Q fs (⟨some t, g, .ld true m x⟩ :: l) (mkSt L O nx) :=
  S_pure hg (by simp only [opVC, hx, ho]; exact ⟨trivial, by simp, Nat.le_of_ble_eq_true hs, by simp only [List.getD_cons_zero]; rw [hd]⟩) h
section
variable {α : Type} {c : α → List U} {li : List α} {i : Int} {a : α}
theorem idx_some (h : idx li i = some a) : 0 ≤ i ∧ i < li.length ∧ ∃ hl : i.toNat < li.length, li[i.toNat] = a := by
  unfold idx at h
  split at h
  · rename_i h0
    obtain ⟨h1, h2⟩ := List.getElem?_eq_some_iff.1 h
    exact ⟨h0, by omega, h1, h2⟩
  · cases h
theorem idx_map (h : idx li i = some a) : (li.map c).getD i.toNat [] = c a := by
  obtain ⟨_, _, h1, h2⟩ := idx_some h
  rw [getD_lt _ (by simpa using h1)]; simp [h2]
theorem S_ldr {m : Nat} {x : Opd} {b s off : Nat} {u : U} (hg : gdL L g) (hx : evL L x = .ref b s i.toNat off) (ho : objs O b = some (.row s (li.map c))) (hi : idx li i = some a) (hs : Nat.blt off s = true) (hd : (c a).getD off .pnil = u) (h : Rs P n Q fs l (mkSt ((t, .u u) :: L) O nx)) : Rs P n Q fs (⟨some t, g, .ld false m x⟩ :: l) (mkSt L O nx) :=
  S_pure hg (by
    have := idx_map (c := c) hi
    obtain ⟨_, _, h1, h2⟩ := idx_some hi
    simp only [opVC, hx, ho]; exact ⟨trivial, by simpa using h1, Nat.le_of_ble_eq_true hs, by rw [this, hd]⟩) h
theorem S_ldra {m : Nat} {x : Opd} {b s off : Nat} {us : List U} (hg : gdL L g) (hx : evL L x = .ref b s i.toNat off) (ho : objs O b = some (.row s (li.map c))) (hi : idx li i = some a) (hs : Nat.ble (off + m) s = true) (hd : ((c a).drop off).take m = us) (h : Rs P n Q fs l (mkSt ((t, .u (.agg us)) :: L) O nx)) : Rs P n Q fs (⟨some t, g, .ld true m x⟩ :: l) (mkSt L O nx) :=
  S_pure hg (by
    have := idx_map (c := c) hi
    obtain ⟨_, _, h1, h2⟩ := idx_some hi
    simp only [opVC, hx, ho]; exact ⟨trivial, by simpa using h1, Nat.le_of_ble_eq_true hs, by rw [this, hd]⟩) h
theorem S_ia {x y : Opd} {k : IntKind} {s : Nat} {u : List U} (hg : gdL L g) (hx : evL L x = .u (.sl (li.map c))) (hy : evL L y = .u (.int k i)) (hi : idx li i = some a) (hu : c a = u) (hs : u.length = s) (h : Rs P n Q fs l (mkSt ((t, .u (.fp u 0)) :: L) O nx)) : Rs P n Q fs (⟨some t, g, .ia s x y⟩ :: l) (mkSt L O nx) :=
  S_pure hg (by
    have := idx_map (c := c) hi
    obtain ⟨h0, h3, h1, h2⟩ := idx_some hi
    simp only [opVC, hx, hy]; exact ⟨h0, by simpa using h3, by rw [this, hu]; exact hs, by rw [this, hu]⟩) h
theorem S_iam {x y : Opd} {k : IntKind} {b s : Nat} (hg : gdL L g) (hx : evL L x = .msl b li.length) (ho : objs O b = some (.row s (li.map c))) (hy : evL L y = .u (.int k i)) (hi : idx li i = some a) (h : Rs P n Q fs l (mkSt ((t, .ref b s i.toNat 0) :: L) O nx)) : Rs P n Q fs (⟨some t, g, .ia s x y⟩ :: l) (mkSt L O nx) :=
  S_pure hg (by
    obtain ⟨h0, h3, h1, h2⟩ := idx_some hi
    simp only [opVC, hx, hy, ho]; exact ⟨rfl, h0, h3, by simp [MObj.len], trivial⟩) h
end
theorem S_sx {x y : Opd} {k : IntKind} {s : ByteArray} {i a : Int} (hg : gdL L g) (hx : evL L x = .u (.str s)) (hy : evL L y = .u (.int k i)) (hi : sidx s i = some a) (h : Rs P n Q fs l (mkSt ((t, .u (.int .u8 a)) :: L) O nx)) : Rs P n Q fs (⟨some t, g, .sx x y⟩ :: l) (mkSt L O nx) :=
  S_pure hg (by
    unfold sidx at hi
    split at hi
    · rename_i hc; injection hi with hi; simp only [opVC, hx, hy]; exact ⟨hc.1, hc.2, by rw [hi]⟩
    · cases hi) h
theorem S_faf {x : Opd} {cells : List U} {o off : Nat} (hg : gdL L g) (hx : evL L x = .u (.fp cells o)) (h : Rs P n Q fs l (mkSt ((t, .u (.fp cells (o + off))) :: L) O nx)) : Rs P n Q fs (⟨some t, g, .fa off x⟩ :: l) (mkSt L O nx) :=
  S_pure hg (by simp only [opVC, hx]) h
theorem S_far {x : Opd} {b s i o off : Nat} (hg : gdL L g) (hx : evL L x = .ref b s i o) (h : Rs P n Q fs l (mkSt ((t, .ref b s i (o + off)) :: L) O nx)) : Rs P n Q fs (⟨some t, g, .fa off x⟩ :: l) (mkSt L O nx) :=
  S_pure hg (by simp only [opVC, hx]) h
theorem S_fl {off m : Nat} {x : Opd} {us : List U} {u : U} (hg : gdL L g) (hx : evL L x = .u (.agg us)) (hu : us[off]? = some u) (h : Rs P n Q fs l (mkSt ((t, .u u) :: L) O nx)) : Rs P n Q fs (⟨some t, g, .fl false off m x⟩ :: l) (mkSt L O nx) :=
  S_pure hg (by
    obtain ⟨hl, hu⟩ := List.getElem?_eq_some_iff.1 hu
    simp only [opVC, hx]; exact ⟨hl, by rw [getD_lt _ hl, hu]⟩) h
theorem S_fla {off m : Nat} {x : Opd} {us us' : List U} (hg : gdL L g) (hx : evL L x = .u (.agg us)) (hl : Nat.ble (off + m) us.length = true) (hu : (us.drop off).take m = us') (h : Rs P n Q fs l (mkSt ((t, .u (.agg us')) :: L) O nx)) : Rs P n Q fs (⟨some t, g, .fl true off m x⟩ :: l) (mkSt L O nx) :=
  S_pure hg (by simp only [opVC, hx]; exact ⟨Nat.le_of_ble_eq_true hl, by rw [hu]⟩) h
theorem S_ex {x : Opd} {i : Nat} {us : List U} {u : U} (hg : gdL L g) (hx : evL L x = .u (.tup us)) (hu : us[i]? = some u) (h : Rs P n Q fs l (mkSt ((t, .u u) :: L) O nx)) : Rs P n Q fs (⟨some t, g, .ex x i⟩ :: l) (mkSt L O nx) :=
  S_pure hg (by
    obtain ⟨hl, hu⟩ := List.getElem?_eq_some_iff.1 hu
    simp only [opVC, hx]; exact ⟨hl, by rw [getD_lt _ hl, hu]⟩) h
theorem S_ln {α : Type} {c : α → List U} {li : List α} {x : Opd} (hg : gdL L g) (hx : evL L x = .u (.sl (li.map c))) (h : Rs P n Q fs l (mkSt ((t, .u (.int .i64 li.length)) :: L) O nx)) : Rs P n Q fs (⟨some t, g, .ln x⟩ :: l) (mkSt L O nx) :=
  S_pure hg (by simp only [opVC, hx, List.length_map]) h
theorem S_lnm {b m : Nat} {x : Opd} (hg : gdL L g) (hx : evL L x = .msl b m) (h : Rs P n Q fs l (mkSt ((t, .u (.int .i64 m)) :: L) O nx)) : Rs P n Q fs (⟨some t, g, .ln x⟩ :: l) (mkSt L O nx) :=
  S_pure hg (by simp only [opVC, hx]) h
theorem S_lnn {x : Opd} (hg : gdL L g) (hx : evL L x = .u .nil) (h : Rs P n Q fs l (mkSt ((t, .u (.int .i64 0)) :: L) O nx)) : Rs P n Q fs (⟨some t, g, .ln x⟩ :: l) (mkSt L O nx) :=
  S_pure hg (by simp only [opVC, hx]) h
theorem S_sn {x : Opd} {s : ByteArray} (hg : gdL L g) (hx : evL L x = .u (.str s)) (h : Rs P n Q fs l (mkSt ((t, .u (.int .i64 s.size)) :: L) O nx)) : Rs P n Q fs (⟨some t, g, .sn x⟩ :: l) (mkSt L O nx) :=
  S_pure hg (by simp only [opVC, hx]) h
theorem minI_min (a b : Int) : minI a b = min a b := by unfold minI; split <;> omega
theorem maxI_max (a b : Int) : maxI a b = max a b := by unfold maxI; split <;> omega
theorem S_mn {x y : Opd} {k : IntKind} {a b : Int} (hg : gdL L g) (hx : evL L x = .u (.int k a)) (hy : evL L y = .u (.int k b)) (h : Rs P n Q fs l (mkSt ((t, .u (.int k (min a b))) :: L) O nx)) : Rs P n Q fs (⟨some t, g, .mn [x, y]⟩ :: l) (mkSt L O nx) :=
  S_pure hg (by simp [opVC, hx, hy, foldI, foldI.go, minI_min]) h
theorem S_mx {x y : Opd} {k : IntKind} {a b : Int} (hg : gdL L g) (hx : evL L x = .u (.int k a)) (hy : evL L y = .u (.int k b)) (h : Rs P n Q fs l (mkSt ((t, .u (.int k (max a b))) :: L) O nx)) : Rs P n Q fs (⟨some t, g, .mx [x, y]⟩ :: l) (mkSt L O nx) :=
  S_pure hg (by simp [opVC, hx, hy, foldI, foldI.go, maxI_max]) h
theorem S_mf {f : FuncId} {xs ys : List Opd} {us vs : List U} (hg : gdL L g) (hx : allU (xs.map (evL L)) = some us) (hy : allU (ys.map (evL L)) = some vs) (h : Rs P n Q fs l (mkSt ((t, .u (.fn f us vs)) :: L) O nx)) : Rs P n Q fs (⟨some t, g, .mf f xs ys⟩ :: l) (mkSt L O nx) :=
  S_pure hg (by simp only [opVC, hx, hy]) h
theorem S_mfd {f : FuncId} {xs ys : List Opd} {us vs : List D} (hg : gdL L g) (hx : xs.map (evL L) = us) (hy : ys.map (evL L) = vs) (hn : (allU us).isNone || (allU vs).isNone) (h : Rs P n Q fs l (mkSt ((t, .fn f us vs) :: L) O nx)) : Rs P n Q fs (⟨some t, g, .mf f xs ys⟩ :: l) (mkSt L O nx) :=
  S_pure hg (by
    simp only [opVC, hx, hy]
    cases h1 : allU us <;> cases h2 : allU vs <;> simp [h1, h2] at hn ⊢) h

/-! #### Calls -/
theorem S_ca {f : FuncId} {xs : List Opd} {us : List U} {r : U} (hg : gdL L g) (hx : allU (xs.map (evL L)) = some us) (hp : PC P f us r) (h : Rs P n Q fs l (mkSt ((t, .u r) :: L) O nx)) : Rs P n Q fs (⟨some t, g, .ca f xs⟩ :: l) (mkSt L O nx) :=
  S_pure hg (by simp only [opVC, frzA, hx]; exact ⟨r, hp, rfl, rfl⟩) h
theorem S_cl {f : FuncId} {x : Opd} {xs : List Opd} {fs' cs us : List U} {r : U} (hg : gdL L g) (hf : evL L x = .u (.fn f fs' cs)) (hx : allU (xs.map (evL L)) = some us) (hp : PC P f (fs' ++ us ++ cs) r) (h : Rs P n Q fs l (mkSt ((t, .u r) :: L) O nx)) : Rs P n Q fs (⟨some t, g, .cl x xs⟩ :: l) (mkSt L O nx) :=
  S_pure hg (by simp only [opVC, hf, frzA, hx]; exact ⟨r, hp, rfl, rfl⟩) h
theorem frzL_map_u {H : Nat → Option MObj} : ∀ {m : Nat} {us vs : List U}, frzL H m (us.map D.u) = some vs → vs = us
  | m, [], vs, h => by cases m <;> (simp [frzL] at h; exact h)
  | 0, _ :: _, vs, h => by simp [frzL] at h
  | 1, u :: us, vs, h => by simp [frzL, frz] at h
  | m + 2, u :: us, vs, h => by
    simp only [List.map_cons, frzL, frz] at h
    split at h
    · rename_i x y h1 h2
      injection h1 with h1; injection h with h
      rw [← h, ← h1, frzL_map_u h2]
    · cases h
theorem frzA_of {H : Nat → Option MObj} {ds : List D} {us : List U} (h : frzL H 40 ds = some us) : frzA H ds = some us := by
  unfold frzA
  split
  · rename_i us' hu
    have := allU_eq hu
    subst this
    rw [frzL_map_u h]
  · exact h
/-- A call to which owned objects are lent. -/
theorem S_caf {f : FuncId} {xs : List Opd} {ds : List D} {us : List U} {r : U} (hg : gdL L g) (hd : xs.map (evL L) = ds) (hx : frzL (objs O) 40 ds = some us) (hp : PC P f us r) (hr : r.scal = true) (h : Rs P n Q fs l (mkSt ((t, .u r) :: L) O nx)) : Rs P n Q fs (⟨some t, g, .ca f xs⟩ :: l) (mkSt L O nx) :=
  S_pure hg (by simp only [opVC, hd, frzA_of hx]; exact ⟨r, hp, by rw [hr, Bool.or_true], rfl⟩) h
theorem fz_u {H : Nat → Option MObj} {m : Nat} {x : U} : frz H (m + 1) (.u x) = some x := rfl
theorem fz_msl {H : Nat → Option MObj} {m b s : Nat} {α : Type} {c : α → List U} {li : List α} (h : H b = some (.row s (li.map c))) : frz H (m + 1) (.msl b li.length) = some (.sl (li.map c)) := by
  simp only [frz, h]
  rw [if_pos (by simp), List.take_of_length_le (by simp)]
theorem fz_ref {H : Nat → Option MObj} {m b s off : Nat} {ds : List D} {us : List U} (h : H b = some (.drow s [ds])) (hl : frzL H m ds = some us) : frz H (m + 1) (.ref b s 0 off) = some (.fp us off) := by
  simp only [frz, h]
  rw [if_pos (by simp)]
  simp [hl]
theorem fz_agg {H : Nat → Option MObj} {m : Nat} {ds : List D} {us : List U} (hl : frzL H m ds = some us) : frz H (m + 1) (.agg ds) = some (.agg us) := by simp only [frz, hl, Option.map_some]
theorem fz_tup {H : Nat → Option MObj} {m : Nat} {ds : List D} {us : List U} (hl : frzL H m ds = some us) : frz H (m + 1) (.tup ds) = some (.tup us) := by simp only [frz, hl, Option.map_some]
theorem fz_fn {H : Nat → Option MObj} {m : Nat} {f : FuncId} {ds es : List D} {us vs : List U} (hl : frzL H m ds = some us) (hm : frzL H m es = some vs) : frz H (m + 1) (.fn f ds es) = some (.fn f us vs) := by simp only [frz, hl, hm]
theorem fz_nil {H : Nat → Option MObj} {m : Nat} : frzL H m [] = some [] := by cases m <;> rfl
theorem fz_cons {H : Nat → Option MObj} {m : Nat} {d : D} {ds : List D} {u : U} {us : List U} (h : frz H m d = some u) (hl : frzL H m ds = some us) : frzL H (m + 1) (d :: ds) = some (u :: us) := by simp only [frzL, h, hl]

/-! #### Making and writing -/
theorem S_al {zs : List U} (hg : gdL L g) (h : Rs P n Q fs l (mkSt ((t, .ref nx zs.length 0 0) :: L) ((nx, .drow zs.length [zs.map .u]) :: O) (nx + 1))) : Rs P n Q fs (⟨some t, g, .al zs⟩ :: l) (mkSt L O nx) :=
  S_up hg (by simp only [opVC]) h
theorem S_bx {x : Opd} {ds : List D} {d : D} (hg : gdL L g) (hx : evL L x = d) (hd : d.cells = some ds) (h : Rs P n Q fs l (mkSt ((t, .ref nx ds.length 0 0) :: L) ((nx, .drow ds.length [ds]) :: O) (nx + 1))) : Rs P n Q fs (⟨some t, g, .bx x⟩ :: l) (mkSt L O nx) :=
  S_up hg (by simp only [opVC, hx, hd]) h
theorem S_bs {s m : Nat} {xs : List Opd} {els : List (List D)} {uss : List (List U)} (hg : gdL L g) (hx : cellsAll (xs.map (evL L)) = some els) (hs : (els.all fun l => l.length == s) = true) (hu : mkRow s els = .row s uss) (hm : els.length = m) (h : Rs P n Q fs l (mkSt ((t, .msl nx m) :: L) ((nx, .row s uss) :: O) (nx + 1))) : Rs P n Q fs (⟨some t, g, .bs s xs⟩ :: l) (mkSt L O nx) :=
  S_up hg (by simp only [opVC, hx]; exact ⟨hs, by rw [hu, hm]⟩) h
theorem S_bd {zs : List U} {ps : List (Nat × Nat × Opd)} {ds : List D} {d : D} (hg : gdL L g) (hx : opVC.bdGo (evL L) (zs.map .u) ps = some ds) (hd : mkAgg ds = d) (h : Rs P n Q fs l (mkSt ((t, d) :: L) O nx)) : Rs P n Q fs (⟨some t, g, .bd zs ps⟩ :: l) (mkSt L O nx) :=
  S_pure hg (by simp only [opVC, hx, hd]) h
theorem S_mk {α : Type} {c : α → List U} {z : α} {s bytes : Nat} {zs : List U} {x y : Opd} {a b : Int} {li : List α} (hg : gdL L g) (hx : evL L x = .u (.int .i64 a)) (hy : evL L y = .u (.int .i64 b)) (hm : mksl bytes z a b = some li) (hz : c z = zs)
    (h : Rs P n Q fs l (mkSt ((t, .msl nx li.length) :: L) ((nx, .row s (li.map c)) :: O) (nx + 1))) : Rs P n Q fs (⟨some t, g, .mk s bytes zs x y⟩ :: l) (mkSt L O nx) :=
  S_up hg (by
    unfold mksl at hm
    split at hm
    · rename_i hc
      injection hm with hm; subst hm
      simp only [opVC, hx, hy]
      refine ⟨hc.1, hc.2.1, by omega, by omega, ?_⟩
      simp [hz]
    · cases hm) h
theorem S_st {m : Nat} {x y : Opd} {b s off : Nat} {d : D} {ds xs : List D} {ob : MObj} (hg : gdL L g) (hx : evL L x = .ref b s 0 off) (hy : evL L y = d) (hc : d.cells = some xs) (ho : objs O b = some (.drow s [ds])) (hs : (Nat.ble (off + m) s && Nat.beq xs.length m) = true) (hn : MObj.drow s [splice ds off xs] = ob)
    (h : Rs P n Q fs l (mkSt L ((b, ob) :: O) nx)) : Rs P n Q fs (⟨none, g, .st m x y⟩ :: l) (mkSt L O nx) := by
  simp only [Bool.and_eq_true] at hs
  refine Rs_op (gdL_gdo hg) (R := fun e => e = { d := .any, up := [(b, ob)] }) ?_ ?_
  · rw [evL_fun]
    have h1 : (mkSt L O nx).H b = some (.drow s [ds]) := ho
    simp only [opVC, hx, hy, hc, h1, setElem]
    exact ⟨rfl, by simp [MObj.len], Nat.le_of_ble_eq_true hs.1, Nat.eq_of_beq_eq_true hs.2, by simp [← hn]⟩
  · rintro e rfl
    have : (mkSt L O nx).app none { d := .any, up := [(b, ob)] } = mkSt L ((b, ob) :: O) nx := by simp [St.app, St.killO, updH, St.put, mkSt]; rfl
    rw [this]; exact h
theorem map_set_splice {α : Type} {c : α → List U} {li : List α} {i : Int} {a a' : α} {us : List U} {off : Nat} (hi : idx li i = some a) (hn : splice (c a) off us = c a') : (li.map c).set i.toNat (splice ((li.map c).getD i.toNat []) off us) = (li.set i.toNat a').map c := by
  rw [idx_map hi, hn, List.map_set]
theorem S_str {α : Type} {c : α → List U} {li : List α} {i : Int} {a a' : α} {m : Nat} {x y : Opd} {b s off : Nat} {d : D} {xs : List D} {us : List U} (hg : gdL L g) (hx : evL L x = .ref b s i.toNat off) (hy : evL L y = d) (hc : d.cells = some xs) (hu : allU xs = some us) (ho : objs O b = some (.row s (li.map c))) (hi : idx li i = some a)
    (hs : (Nat.ble (off + m) s && Nat.beq xs.length m) = true) (hn : splice (c a) off us = c a') (h : Rs P n Q fs l (mkSt L ((b, .row s ((li.set i.toNat a').map c)) :: O) nx)) : Rs P n Q fs (⟨none, g, .st m x y⟩ :: l) (mkSt L O nx) := by
  simp only [Bool.and_eq_true] at hs
  obtain ⟨h0, h3, h1', h2⟩ := idx_some hi
  refine Rs_op (gdL_gdo hg) (R := fun e => e = { d := .any, up := [(b, .row s ((li.set i.toNat a').map c))] }) ?_ ?_
  · rw [evL_fun]
    have h1 : (mkSt L O nx).H b = some (.row s (li.map c)) := ho
    simp only [opVC, hx, hy, hc, h1, setElem, hu]
    exact ⟨rfl, by simpa [MObj.len] using h1', Nat.le_of_ble_eq_true hs.1, Nat.eq_of_beq_eq_true hs.2, by rw [map_set_splice hi hn]⟩
  · rintro e rfl
    have : (mkSt L O nx).app none { d := .any, up := [(b, .row s ((li.set i.toNat a').map c))] } = mkSt L ((b, .row s ((li.set i.toNat a').map c)) :: O) nx := by simp [St.app, St.killO, updH, St.put, mkSt]; rfl
    rw [this]; exact h
def ndOf : Option Opd → Int → List (Nat × D) → Option Int
  | none, k, _ => some k
  | some o, _, L => match evL L o with
    | .u (.int _ n) => some n
    | _ => none
theorem nd_some {o : Opd} {m : Int} {a : Int} (h : ndOf (some o) m L = some a) (h1 : 0 ≤ a) : natOf (evL L o) = some a.toNat := by
  simp only [ndOf] at h
  split at h
  · rename_i k m hm; injection h with h; subst h; simp only [hm, natOf]; rw [if_pos h1]
  · cases h
theorem nd_none {m : Int} {a : Int} (h : ndOf none m L = some a) : a = m := by simp only [ndOf, Option.some.injEq] at h; exact h.symm
theorem S_sl {α : Type} {c : α → List U} {li li' : List α} {s : Nat} {x : Opd} {lo hi : Option Opd} {a b : Int} (hg : gdL L g) (hx : evL L x = .u (.sl (li.map c))) (hlo : ndOf lo 0 L = some a) (hhi : ndOf hi li.length L = some b) (hs : slc li a b = some li') (hc : ∀ z, (c z).length = s)
    (h : Rs P n Q fs l (mkSt ((t, .u (.sl (li'.map c))) :: L) O nx)) : Rs P n Q fs (⟨some t, g, .sl s x lo hi⟩ :: l) (mkSt L O nx) :=
  S_pure hg (by
    unfold slc at hs
    split at hs
    · rename_i hcc
      injection hs with hs
      obtain ⟨h1, h2, h3⟩ := hcc
      have fin : a.toNat ≤ b.toNat ∧ b.toNat ≤ (li.map c).length ∧ ((li.map c).all fun e => e.length == s) = true ∧ ({ d := D.u (.sl (((li.map c).take b.toNat).drop a.toNat)) } : Eff) = { d := D.u (.sl (li'.map c)) } :=
        ⟨by omega, by simp; omega, by simp [hc], by rw [← hs, ← List.map_take, ← List.map_drop]⟩
      cases lo with
      | none =>
        have := nd_none hlo; subst this
        cases hi with
        | none => have := nd_none hhi; subst this; simp only [opVC, hx]; simpa using fin
        | some o => simp only [opVC, hx, nd_some hhi (by omega)]; simpa using fin
      | some o' =>
        cases hi with
        | none => have := nd_none hhi; subst this; simp only [opVC, hx, nd_some hlo h1]; simpa using fin
        | some o => simp only [opVC, hx, nd_some hlo h1, nd_some hhi (by omega)]; exact fin
    · cases hs) h
theorem S_ss {x : Opd} {lo hi : Option Opd} {s s' : ByteArray} {a b : Int} (hg : gdL L g) (hx : evL L x = .u (.str s)) (hlo : ndOf lo 0 L = some a) (hhi : ndOf hi s.size L = some b) (hs : ssl s a b = some s')
    (h : Rs P n Q fs l (mkSt ((t, .u (.str s')) :: L) O nx)) : Rs P n Q fs (⟨some t, g, .ss x lo hi⟩ :: l) (mkSt L O nx) :=
  S_pure hg (by
    unfold ssl at hs
    split at hs
    · rename_i hcc
      injection hs with hs
      obtain ⟨h1, h2, h3⟩ := hcc
      have fin : a.toNat ≤ b.toNat ∧ b.toNat ≤ s.size ∧ ({ d := D.u (.str (s.extract a.toNat b.toNat)) } : Eff) = { d := D.u (.str s') } := ⟨by omega, by omega, by rw [hs]⟩
      cases lo with
      | none =>
        have := nd_none hlo; subst this
        cases hi with
        | none => have := nd_none hhi; subst this; simp only [opVC, hx]; simpa using fin
        | some o => simp only [opVC, hx, nd_some hhi (by omega)]; simpa using fin
      | some o' =>
        cases hi with
        | none => have := nd_none hhi; subst this; simp only [opVC, hx, nd_some hlo h1]; simpa using fin
        | some o => simp only [opVC, hx, nd_some hlo h1, nd_some hhi (by omega)]; exact fin
    · cases hs) h

/-! #### Growing -/
theorem allUU_map (uss : List (List U)) : allUU (uss.map fun l => l.map D.u) = some uss := by
  induction uss with
  | nil => rfl
  | cons u us ih => simp only [List.map_cons, allUU, allU_map, ih]
theorem mkRow_map_u (s : Nat) (uss : List (List U)) : mkRow s (uss.map fun l => l.map D.u) = .row s uss := by simp only [mkRow, allUU_map]
/-- What is appended. -/
inductive Srcs (O : List (Nat × MObj)) (s : Nat) (uss : List (List U)) : D → Prop
  | pure (h : ∀ l ∈ uss, l.length = s) : Srcs O s uss (.u (.sl uss))
  | row (b : Nat) (h : objs O b = some (.row s uss)) : Srcs O s uss (.msl b uss.length)
theorem Srcs.src {s : Nat} {uss : List (List U)} {d : D} (h : Srcs O s uss d) : opVC.appSrc (objs O) s d = some (uss.map fun l => l.map D.u) := by
  cases h with
  | pure h => simp only [opVC.appSrc]; rw [if_pos (by simpa using h)]
  | row b h => simp only [opVC.appSrc, h]; rw [if_pos (by simp)]; simp
theorem room_le {m bytes : Nat} (h : room m bytes = true) : m ≤ 9223372036854775807 ∧ m * bytes ≤ 140737488355328 := by
  unfold room at h; have := of_decide_eq_true h; exact ⟨this.2, this.1⟩
theorem Srcs.typed {s : Nat} {α : Type} {c : α → List U} {li : List α} (hc : ∀ z, (c z).length = s) : Srcs O s (li.map c) (.u (.sl (li.map c))) := .pure (by intro l hl; obtain ⟨z, _, rfl⟩ := List.mem_map.1 hl; exact hc z)
theorem Srcs.own {s : Nat} {α : Type} {c : α → List U} {li : List α} (b : Nat) (h : objs O b = some (.row s (li.map c))) : Srcs O s (li.map c) (.msl b li.length) := by
  have := Srcs.row b h; simpa using this
theorem S_apn {α : Type} {c : α → List U} {li : List α} {s bytes : Nat} {x y : Opd} (hg : gdL L g) (hx : evL L x = .u .nil) (hy : Srcs O s (li.map c) (evL L y)) (hr : room li.length bytes = true)
    (h : Rs P n Q fs l (mkSt ((t, .msl nx li.length) :: L) ((nx, .row s (li.map c)) :: O) (nx + 1))) : Rs P n Q fs (⟨some t, g, .ap s bytes x y⟩ :: l) (mkSt L O nx) :=
  S_up hg (by
    obtain ⟨h1, h2⟩ := room_le hr
    simp only [opVC, hx, hy.src, mkRow_map_u, List.length_map]
    exact ⟨by omega, by omega, trivial⟩) h
def killL (b : Nat) : List (Nat × D) → List (Nat × D)
  | [] => []
  | p :: l => (p.1, p.2.kill b) :: killL b l
def killO (b : Nat) : List (Nat × MObj) → List (Nat × MObj)
  | [] => []
  | p :: l => (p.1, p.2.kill b) :: killO b l
theorem regs_kill (b : Nat) : ∀ (L : List (Nat × D)), (fun t => (regs L t).kill b) = regs (killL b L)
  | [] => by funext t; simp [regs, killL, D.kill, D.has]
  | p :: L => by
    have := regs_kill b L
    funext t
    simp only [regs, killL]
    split
    · rfl
    · exact congrFun this t
theorem objs_kill (b : Nat) : ∀ (O : List (Nat × MObj)), (fun x => (objs O x).map (MObj.kill b)) = objs (killO b O)
  | [] => by funext t; simp [objs, killO]
  | p :: O => by
    have := objs_kill b O
    funext t
    simp only [objs, killO]
    split
    · rfl
    · exact congrFun this t
theorem S_apm {α : Type} {c : α → List U} {li lj : List α} {b s bytes : Nat} {x y : Opd} {L' : List (Nat × D)} {O' : List (Nat × MObj)} (hg : gdL L g) (hx : evL L x = .msl b li.length) (ho : objs O b = some (.row s (li.map c))) (hy : Srcs O s (lj.map c) (evL L y)) (hr : room (li.length + lj.length) bytes = true) (hL : killL b L = L') (hO : killO b O = O')
    (h : Rs P n Q fs l (mkSt ((t, .msl b (li ++ lj).length) :: L') ((b, .row s ((li ++ lj).map c)) :: O') nx)) : Rs P n Q fs (⟨some t, g, .ap s bytes x y⟩ :: l) (mkSt L O nx) := by
  obtain ⟨h1, h2⟩ := room_le hr
  refine Rs_op (gdL_gdo hg) (R := fun e => e = { d := .msl b (li ++ lj).length, up := [(b, .row s ((li ++ lj).map c))], kl := some b }) ?_ ?_
  · rw [evL_fun]
    have h3 : (mkSt L O nx).H b = some (.row s (li.map c)) := ho
    have h4 : opVC.appSrc (mkSt L O nx).H s (evL L y) = some ((lj.map c).map fun l => l.map D.u) := hy.src
    simp only [opVC, hx, h4, h3, allUU_map, List.length_map]
    refine ⟨by omega, by omega, trivial, by simp, ?_⟩
    rw [List.take_of_length_le (by simp)]
    simp
  · rintro e rfl
    have : (mkSt L O nx).app (some t) { d := .msl b (li ++ lj).length, up := [(b, .row s ((li ++ lj).map c))], kl := some b } = mkSt ((t, .msl b (li ++ lj).length) :: L') ((b, .row s ((li ++ lj).map c)) :: O') nx := by
      simp only [St.app, St.killO, St.kill, updH, St.put, mkSt, ← hL, ← hO, regs_kill, objs_kill]
      simp only [Nat.not_lt_zero, if_false]
      rfl
    rw [this]; exact h

/-- Both values of a slot, whatever follows. -/
theorem S_case0 {c : Bool} (hx : regs L t = .u (.bool c)) (k1 : c = true → Rs P n Q fs l (mkSt ((t, .u (.bool true)) :: L) O nx)) (k2 : c = false → Rs P n Q fs l (mkSt ((t, .u (.bool false)) :: L) O nx)) : Rs P n Q fs l (mkSt L O nx) :=
  S_case (A := some ()) (B := some ()) (r := ()) hx (by cases c <;> rfl) (fun e _ => k1 e) (fun e _ => k2 e)
/-- The results. -/
theorem Q_ret {ts : List Nat} {r x : U} (hf : frz (objs O) 40 (resD (mkSt L O nx) ts) = some x) (hq : Nq x r) : den P n (retQ ts r) fs .ret (mkSt L O nx) := D_ret (show retQ ts r .ret (mkSt L O nx) from ⟨x, hf, hq⟩) fs
theorem Q_end {ts : List Nat} {r x : U} (hf : frz (objs O) 40 (resD (mkSt L O nx) ts) = some x) (hq : Nq x r) : den P n (retQ ts r) [] .normal (mkSt L O nx) := show retQ ts r .normal (mkSt L O nx) from ⟨x, hf, hq⟩

theorem Q_retd {ts : List Nat} {r x : U} {d : D} (hd : resD (mkSt L O nx) ts = d) (hf : frz (objs O) 40 d = some x) (hq : Nq x r) : den P n (retQ ts r) fs .ret (mkSt L O nx) := Q_ret (by rw [hd]; exact hf) hq
theorem Q_endd {ts : List Nat} {r x : U} {d : D} (hd : resD (mkSt L O nx) ts = d) (hf : frz (objs O) 40 d = some x) (hq : Nq x r) : den P n (retQ ts r) [] .normal (mkSt L O nx) := Q_end (by rw [hd]; exact hf) hq
/-- A contract out of a run. -/
theorem PC_run {f : FuncId} {c : FC} (hok : okF P f c = true) {args : List U} (hn : Nat.ble args.length c.n = true) {L : List (Nat × D)} (hL : argRegs 0 args = L) {r : U} (h : Run P c.n (retQ c.rs r) [] c.c (mkSt L [] 0)) : PC P f args r :=
  PC_of hok hn fun _ => by rw [hL]; exact h
end
end Go.Proofs.Ytkpghgnbbfpbmaa

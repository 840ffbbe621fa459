/- The rules of each operation, over typed data: what a lifted function asks for, and what then stands in the slots. -/
import Derived.Test.YtkpghgnbbfpbmaaDo
set_option linter.unusedSimpArgs false
set_option linter.unusedVariables false
namespace Go.Proofs.Ytkpghgnbbfpbmaa

/-! ### Words of the lifted functions -/
def idx {α : Type} (l : List α) (i : Int) : Option α := if 0 ≤ i then l[i.toNat]? else none
def sidx (s : ByteArray) (i : Int) : Option Int := if 0 ≤ i ∧ i < s.size then some ((s.data.toList.getD i.toNat 0).toNat : Int) else none
def slc {α : Type} (l : List α) (lo hi : Int) : Option (List α) := if 0 ≤ lo ∧ lo ≤ hi ∧ hi ≤ l.length then some ((l.take hi.toNat).drop lo.toNat) else none
def ssl (s : ByteArray) (lo hi : Int) : Option ByteArray := if 0 ≤ lo ∧ lo ≤ hi ∧ hi ≤ s.size then some (s.extract lo.toNat hi.toNat) else none
def room (n bytes : Nat) : Bool := decide (n * bytes ≤ 140737488355328 ∧ n ≤ 9223372036854775807)
def mksl {α : Type} (bytes : Nat) (z : α) (l c : Int) : Option (List α) := if 0 ≤ l ∧ l ≤ c ∧ c * bytes ≤ 140737488355328 ∧ c ≤ 9223372036854775807 then some (List.replicate l.toNat z) else none

/-! ### Typed data as cells -/
def cInt (k : IntKind) (x : Int) : List U := [.int k x]
def cBool (x : Bool) : List U := [.bool x]
def cStr (x : ByteArray) : List U := [.str x]
def cSl {α : Type} (c : α → List U) (l : List α) : List U := [.sl (l.map c)]
def cPt {α : Type} (c : α → List U) (x : α) : List U := [.fp (c x) 0]

theorem bindS {α β : Type} {x : Option α} {f : α → Option β} {r : β} (h : x.bind f = some r) : ∃ o, x = some o ∧ f o = some r := Option.bind_eq_some_iff.1 h
theorem cond_T {α : Type} {a b : α} {r : α} (h : cond true a b = r) : a = r := h
theorem cond_F {α : Type} {a b : α} {r : α} (h : cond false a b = r) : b = r := h
theorem chkS {α : Type} {c : Bool} {a : Option α} {r : α} (h : cond c a none = some r) : c = true ∧ a = some r := by
  cases c with
  | true => exact ⟨rfl, h⟩
  | false => cases h
theorem elimL {α β γ : Type} {f : α → γ} {g : β → γ} {x : α} {r : γ} (h : Sum.elim f g (.inl x) = r) : f x = r := h
theorem elimR {α β γ : Type} {f : α → γ} {g : β → γ} {x : β} {r : γ} (h : Sum.elim f g (.inr x) = r) : g x = r := h

section
variable {P : Program} {n : Nat} {Q : Exit → St → Prop} {fs : List Fr} {L : List (Nat × D)} {O : List (Nat × MObj)} {nx : Nat} {l : List AOp} {g : Option (Nat × Bool)} {t : Nat}

def evL (L : List (Nat × D)) : Opd → D
  | .t k => regs L k
  | .c x => .u x
theorem evL_eq (x : Opd) : (mkSt L O nx).ev x = evL L x := by cases x <;> rfl
theorem evL_fun : (mkSt L O nx).ev = evL L := funext fun x => evL_eq x

/-- A branch. -/
theorem R_cond {α : Type} {x : Opd} {a b : AC} {c : Bool} {A B : Option α} {r : α} (hx : evL L x = .u (.bool c)) (h : cond c A B = some r) (k1 : A = some r → Run P n Q fs a (mkSt L O nx)) (k2 : B = some r → Run P n Q fs b (mkSt L O nx)) :
    Run P n Q fs (.cond x a b) (mkSt L O nx) := by
  cases c with
  | true => exact R_cond_t (by rw [evL_eq]; exact hx) (k1 h)
  | false => exact R_cond_f (by rw [evL_eq]; exact hx) (k2 h)
theorem R_ct {x : Opd} {a b : AC} (hx : evL L x = .u (.bool true)) (h : Run P n Q fs a (mkSt L O nx)) : Run P n Q fs (.cond x a b) (mkSt L O nx) := R_cond_t (by rw [evL_eq]; exact hx) h
theorem R_cf {x : Opd} {a b : AC} (hx : evL L x = .u (.bool false)) (h : Run P n Q fs b (mkSt L O nx)) : Run P n Q fs (.cond x a b) (mkSt L O nx) := R_cond_f (by rw [evL_eq]; exact hx) h
theorem mkSt_re {d : D} (hx : regs L t = d) : mkSt ((t, d) :: L) O nx = mkSt L O nx := by
  have : regs ((t, d) :: L) = regs L := by
    funext x
    simp only [regs]
    split
    · rename_i h; rw [h]; exact hx.symm
    · rfl
  simp only [mkSt, this]
/-- A slot's value, spelled in another way. -/
theorem S_re {d : D} (hx : regs L t = d) (k : Rs P n Q fs l (mkSt ((t, d) :: L) O nx)) : Rs P n Q fs l (mkSt L O nx) := by
  rw [← mkSt_re hx]; exact k
theorem re_len {L : List (Nat × D)} {t b m m' : Nat} (h : regs L t = .msl b m) (e : m = m') : regs L t = .msl b m' := by rw [← e]; exact h
/-- Both values of a slot. -/
theorem S_case {α : Type} {c : Bool} {A B : Option α} {r : α} (hx : regs L t = .u (.bool c)) (h : cond c A B = some r) (k1 : c = true → A = some r → Rs P n Q fs l (mkSt ((t, .u (.bool true)) :: L) O nx)) (k2 : c = false → B = some r → Rs P n Q fs l (mkSt ((t, .u (.bool false)) :: L) O nx)) :
    Rs P n Q fs l (mkSt L O nx) := by
  have key : ∀ d, regs L t = d → mkSt ((t, d) :: L) O nx = mkSt L O nx := by
    intro d hd
    have : regs ((t, d) :: L) = regs L := by
      funext x
      simp only [regs]
      split
      · rename_i hx; rw [hx]; exact hd.symm
      · rfl
    simp only [mkSt, this]
  cases c with
  | true => rw [← key _ hx]; exact k1 rfl h
  | false => rw [← key _ hx]; exact k2 rfl h

def gdL (L : List (Nat × D)) : Option (Nat × Bool) → Prop
  | none => True
  | some (t, want) => regs L t = .u (.bool want)
theorem gdL_gdo (h : gdL L g) : gdo (mkSt L O nx) g := by
  cases g with
  | none => trivial
  | some p => exact h

theorem S_skip {t' : Nat} {want b : Bool} {ao : AO} (hx : regs L t' = .u (.bool b)) (hb : (b == want) = false) (h : Rs P n Q fs l (mkSt ((t, .u (.tup [])) :: L) O nx)) : Rs P n Q fs (⟨some t, some (t', want), ao⟩ :: l) (mkSt L O nx) :=
  Rs_skpU (.inl ⟨b, hx, hb⟩) h
theorem S_skip0 {t' : Nat} {want b : Bool} {ao : AO} (hx : regs L t' = .u (.bool b)) (hb : (b == want) = false) (h : Rs P n Q fs l (mkSt L O nx)) : Rs P n Q fs (⟨none, some (t', want), ao⟩ :: l) (mkSt L O nx) :=
  Rs_skpU (.inl ⟨b, hx, hb⟩) h
theorem S_skipu {t' : Nat} {want : Bool} {ao : AO} (hx : regs L t' = .u (.tup [])) (h : Rs P n Q fs l (mkSt ((t, .u (.tup [])) :: L) O nx)) : Rs P n Q fs (⟨some t, some (t', want), ao⟩ :: l) (mkSt L O nx) :=
  Rs_skpU (.inr hx) h
theorem S_skipu0 {t' : Nat} {want : Bool} {ao : AO} (hx : regs L t' = .u (.tup [])) (h : Rs P n Q fs l (mkSt L O nx)) : Rs P n Q fs (⟨none, some (t', want), ao⟩ :: l) (mkSt L O nx) :=
  Rs_skpU (.inr hx) h

theorem S_pure {ao : AO} {d : D} (hg : gdL L g) (hop : opVC P ao (evL L) (objs O) nx (fun e => e = { d := d })) (h : Rs P n Q fs l (mkSt ((t, d) :: L) O nx)) : Rs P n Q fs (⟨some t, g, ao⟩ :: l) (mkSt L O nx) := by
  refine Rs_op (gdL_gdo hg) (R := fun e => e = { d := d }) (by rw [evL_fun]; exact hop) ?_
  rintro e rfl
  have : (mkSt L O nx).app (some t) { d := d } = mkSt ((t, d) :: L) O nx := by simp [St.app, St.killO, updH, St.put, mkSt]; rfl
  rw [this]; exact h
theorem S_up {ao : AO} {d : D} {ob : MObj} (hg : gdL L g) (hop : opVC P ao (evL L) (objs O) nx (fun e => e = { d := d, up := [(nx, ob)], nx := nx + 1 })) (h : Rs P n Q fs l (mkSt ((t, d) :: L) ((nx, ob) :: O) (nx + 1))) : Rs P n Q fs (⟨some t, g, ao⟩ :: l) (mkSt L O nx) := by
  refine Rs_op (gdL_gdo hg) (R := fun e => e = { d := d, up := [(nx, ob)], nx := nx + 1 }) (by rw [evL_fun]; exact hop) ?_
  rintro e rfl
  have : (mkSt L O nx).app (some t) { d := d, up := [(nx, ob)], nx := nx + 1 } = mkSt ((t, d) :: L) ((nx, ob) :: O) (nx + 1) := by simp [St.app, St.killO, updH, St.put, mkSt]; exact ⟨rfl, rfl⟩
  rw [this]; exact h

theorem O_mv {x : Opd} {d : D} (hx : evL L x = d) : opVC P (.mv x) (evL L) (objs O) nx (fun e => e = { d := d }) := by simp only [opVC, hx]
def ncOk : D → Bool
  | .u (.fp _ _) => true
  | .u (.fn _ _ _) => true
  | .ref _ _ _ _ => true
  | .fn _ _ _ => true
  | _ => false
theorem O_nc {x : Opd} {d : D} (hx : evL L x = d) (hd : ncOk d = true) : opVC P (.nc x) (evL L) (objs O) nx (fun e => e = { d := d }) := by
    simp only [opVC, hx]
    cases d with
    | u u => cases u <;> first | rfl | cases hd
    | ref _ _ _ _ => rfl
    | fn _ _ _ => rfl
    | _ => cases hd
theorem O_pkt {c x y : Opd} {d : D} (hc : evL L c = .u (.bool true)) (hx : evL L x = d) : opVC P (.pk c x y) (evL L) (objs O) nx (fun e => e = { d := d }) := by simp only [opVC, hc, hx]; split <;> simp_all
theorem O_pkf {c x y : Opd} {d : D} (hc : evL L c = .u (.bool false)) (hy : evL L y = d) : opVC P (.pk c x y) (evL L) (objs O) nx (fun e => e = { d := d }) := by simp only [opVC, hc, hy]; split <;> simp_all
theorem O_neg {x : Opd} {k : IntKind} {a : Int} (hx : evL L x = .u (.int k a)) : opVC P (.un .neg x) (evL L) (objs O) nx (fun e => e = { d := .u (.int k (k.wrap (0 - a))) }) := by simp only [opVC, hx]
theorem O_not {x : Opd} {b : Bool} (hx : evL L x = .u (.bool b)) : opVC P (.un .not x) (evL L) (objs O) nx (fun e => e = { d := .u (.bool !b) }) := by simp only [opVC, hx]
theorem O_com {x : Opd} {k : IntKind} {a : Int} (hx : evL L x = .u (.int k a)) : opVC P (.un .xor x) (evL L) (objs O) nx (fun e => e = { d := .u (.int k (bits .xor k (if k.signed then -1 else k.max) a)) }) := by simp only [opVC, hx]
section
variable {x y : Opd} {k k' : IntKind} {a b : Int} (hx : evL L x = .u (.int k a))
include hx
theorem O_shl (hy : evL L y = .u (.int k' b)) (hb : decide (0 ≤ b) = true) : opVC P (.bi .shl x y) (evL L) (objs O) nx (fun e => e = { d := .u (.int k (k.wrap (a * 2 ^ min b.toNat k.bits))) }) := by simp only [opVC, hx, hy, biI]; exact ⟨of_decide_eq_true hb, trivial⟩
theorem O_shr (hy : evL L y = .u (.int k' b)) (hb : decide (0 ≤ b) = true) : opVC P (.bi .shr x y) (evL L) (objs O) nx (fun e => e = { d := .u (.int k (a.fdiv (2 ^ min b.toNat k.bits))) }) := by simp only [opVC, hx, hy, biI]; exact ⟨of_decide_eq_true hb, trivial⟩
theorem O_quo (hy : evL L y = .u (.int k b)) (hb : (!decide (b = 0)) = true) : opVC P (.bi .quo x y) (evL L) (objs O) nx (fun e => e = { d := .u (.int k (k.wrap (a.tdiv b))) }) := by simp only [opVC, hx, hy, biI]; exact ⟨trivial, by simpa using hb, trivial⟩
theorem O_rem (hy : evL L y = .u (.int k b)) (hb : (!decide (b = 0)) = true) : opVC P (.bi .rem x y) (evL L) (objs O) nx (fun e => e = { d := .u (.int k (a.tmod b)) }) := by simp only [opVC, hx, hy, biI]; exact ⟨trivial, by simpa using hb, trivial⟩
variable (hy : evL L y = .u (.int k b))
include hy
theorem O_add : opVC P (.bi .add x y) (evL L) (objs O) nx (fun e => e = { d := .u (.int k (k.wrap (a + b))) }) := by simp only [opVC, hx, hy, biI]; exact ⟨trivial, trivial⟩
theorem O_sub : opVC P (.bi .sub x y) (evL L) (objs O) nx (fun e => e = { d := .u (.int k (k.wrap (a - b))) }) := by simp only [opVC, hx, hy, biI]; exact ⟨trivial, trivial⟩
theorem O_mul : opVC P (.bi .mul x y) (evL L) (objs O) nx (fun e => e = { d := .u (.int k (k.wrap (a * b))) }) := by simp only [opVC, hx, hy, biI]; exact ⟨trivial, trivial⟩
theorem O_and : opVC P (.bi .and x y) (evL L) (objs O) nx (fun e => e = { d := .u (.int k (bits .and k a b)) }) := by simp only [opVC, hx, hy, biI]; exact ⟨trivial, trivial⟩
theorem O_or : opVC P (.bi .or x y) (evL L) (objs O) nx (fun e => e = { d := .u (.int k (bits .or k a b)) }) := by simp only [opVC, hx, hy, biI]; exact ⟨trivial, trivial⟩
theorem O_xor : opVC P (.bi .xor x y) (evL L) (objs O) nx (fun e => e = { d := .u (.int k (bits .xor k a b)) }) := by simp only [opVC, hx, hy, biI]; exact ⟨trivial, trivial⟩
theorem O_andNot : opVC P (.bi .andNot x y) (evL L) (objs O) nx (fun e => e = { d := .u (.int k (bits .andNot k a b)) }) := by simp only [opVC, hx, hy, biI]; exact ⟨trivial, trivial⟩
theorem O_eql : opVC P (.bi .eql x y) (evL L) (objs O) nx (fun e => e = { d := .u (.bool (decide (a = b))) }) := by simp only [opVC, hx, hy, biI]; exact ⟨trivial, trivial⟩
theorem O_neq : opVC P (.bi .neq x y) (evL L) (objs O) nx (fun e => e = { d := .u (.bool (!decide (a = b))) }) := by simp only [opVC, hx, hy, biI]; exact ⟨trivial, trivial⟩
theorem O_lss : opVC P (.bi .lss x y) (evL L) (objs O) nx (fun e => e = { d := .u (.bool (decide (a < b))) }) := by simp only [opVC, hx, hy, biI]; exact ⟨trivial, trivial⟩
theorem O_leq : opVC P (.bi .leq x y) (evL L) (objs O) nx (fun e => e = { d := .u (.bool (decide (a ≤ b))) }) := by simp only [opVC, hx, hy, biI]; exact ⟨trivial, trivial⟩
theorem O_gtr : opVC P (.bi .gtr x y) (evL L) (objs O) nx (fun e => e = { d := .u (.bool (decide (b < a))) }) := by simp only [opVC, hx, hy, biI]; exact ⟨trivial, trivial⟩
theorem O_geq : opVC P (.bi .geq x y) (evL L) (objs O) nx (fun e => e = { d := .u (.bool (decide (b ≤ a))) }) := by simp only [opVC, hx, hy, biI]; exact ⟨trivial, trivial⟩
end
section
variable {x y : Opd} {a b : ByteArray} (hx : evL L x = .u (.str a)) (hy : evL L y = .u (.str b))
include hx hy
theorem O_seql : opVC P (.bi .eql x y) (evL L) (objs O) nx (fun e => e = { d := .u (.bool (decide (a = b))) }) := by simp only [opVC, hx, hy, biS]
theorem O_sadd (hb : decide (((a.size + b.size : Nat) : Int) ≤ 9223372036854775807) = true) : opVC P (.bi .add x y) (evL L) (objs O) nx (fun e => e = { d := .u (.str (a ++ b)) }) := by simp only [opVC, hx, hy, biS]; exact ⟨of_decide_eq_true hb, trivial⟩
theorem O_sneq : opVC P (.bi .neq x y) (evL L) (objs O) nx (fun e => e = { d := .u (.bool (!decide (a = b))) }) := by simp only [opVC, hx, hy, biS]
end
section
variable {x y : Opd} {a b : Bool} (hx : evL L x = .u (.bool a)) (hy : evL L y = .u (.bool b))
include hx hy
theorem O_beql : opVC P (.bb .eql x y) (evL L) (objs O) nx (fun e => e = { d := .u (.bool (decide (a = b))) }) := by simp only [opVC, hx, hy]
theorem O_bneq : opVC P (.bb .neq x y) (evL L) (objs O) nx (fun e => e = { d := .u (.bool (!decide (a = b))) }) := by simp only [opVC, hx, hy]
end
theorem O_cv {x : Opd} {k k' : IntKind} {a : Int} (hx : evL L x = .u (.int k' a)) : opVC P (.cv k x) (evL L) (objs O) nx (fun e => e = { d := .u (.int k (k.wrap a)) }) := by simp only [opVC, hx]
/-! #### Reading -/
theorem O_ldf {m : Nat} {x : Opd} {cells : List U} {off : Nat} {u : U} (hx : evL L x = .u (.fp cells off)) (hu : cells[off]? = some u) : opVC P (.ld false m x) (evL L) (objs O) nx (fun e => e = { d := .u u }) := by
    obtain ⟨hl, hu⟩ := List.getElem?_eq_some_iff.1 hu
    simp only [opVC, hx]; exact ⟨hl, by rw [getD_lt _ hl, hu]⟩
theorem O_lda {m : Nat} {x : Opd} {cells us : List U} {off : Nat} (hx : evL L x = .u (.fp cells off)) (hl : Nat.ble (off + m) cells.length = true) (hu : (cells.drop off).take m = us) : opVC P (.ld true m x) (evL L) (objs O) nx (fun e => e = { d := .u (.agg us) }) := by simp only [opVC, hx]; exact ⟨Nat.le_of_ble_eq_true hl, by rw [hu]⟩
theorem O_ldo {m : Nat} {x : Opd} {b s off : Nat} {ds : List D} {d : D} (hx : evL L x = .ref b s 0 off) (ho : objs O b = some (.drow s [ds])) (hs : Nat.blt off s = true) (hd : ds.getD off .any = d) : opVC P (.ld false m x) (evL L) (objs O) nx (fun e => e = { d := d }) := by simp only [opVC, hx, ho]; exact ⟨trivial, by simp, Nat.le_of_ble_eq_true hs, by simp only [List.getD_cons_zero]; rw [hd]⟩
theorem O_ldoa {m : Nat} {x : Opd} {b s off : Nat} {ds : List D} {d : D} (hx : evL L x = .ref b s 0 off) (ho : objs O b = some (.drow s [ds])) (hs : Nat.ble (off + m) s = true) (hd : mkAgg ((ds.drop off).take m) = d) : opVC P (.ld true m x) (evL L) (objs O) nx (fun e => e = { d := d }) := by simp only [opVC, hx, ho]; exact ⟨trivial, by simp, Nat.le_of_ble_eq_true hs, by simp only [List.getD_cons_zero]; rw [hd]⟩
section
variable {α : Type} {c : α → List U} {li : List α} {i : Int} {a : α}
theorem idx_some (h : idx li i = some a) : 0 ≤ i ∧ i < li.length ∧ ∃ hl : i.toNat < li.length, li[i.toNat] = a := by
  unfold idx at h
  split at h
  · rename_i h0
    obtain ⟨h1, h2⟩ := List.getElem?_eq_some_iff.1 h
    exact ⟨h0, by omega, h1, h2⟩
  · cases h
theorem idx_map (h : idx li i = some a) : (li.map c).getD i.toNat [] = c a := by
  obtain ⟨_, _, h1, h2⟩ := idx_some h
  rw [getD_lt _ (by simpa using h1)]; simp [h2]
theorem O_ldr {m : Nat} {x : Opd} {b s off : Nat} {u : U} (hx : evL L x = .ref b s i.toNat off) (ho : objs O b = some (.row s (li.map c))) (hi : idx li i = some a) (hs : Nat.blt off s = true) (hd : (c a).getD off .pnil = u) : opVC P (.ld false m x) (evL L) (objs O) nx (fun e => e = { d := .u u }) := by
    have := idx_map (c := c) hi
    obtain ⟨_, _, h1, h2⟩ := idx_some hi
    simp only [opVC, hx, ho]; exact ⟨trivial, by simpa using h1, Nat.le_of_ble_eq_true hs, by rw [this, hd]⟩
theorem O_ldra {m : Nat} {x : Opd} {b s off : Nat} {us : List U} (hx : evL L x = .ref b s i.toNat off) (ho : objs O b = some (.row s (li.map c))) (hi : idx li i = some a) (hs : Nat.ble (off + m) s = true) (hd : ((c a).drop off).take m = us) : opVC P (.ld true m x) (evL L) (objs O) nx (fun e => e = { d := .u (.agg us) }) := by
    have := idx_map (c := c) hi
    obtain ⟨_, _, h1, h2⟩ := idx_some hi
    simp only [opVC, hx, ho]; exact ⟨trivial, by simpa using h1, Nat.le_of_ble_eq_true hs, by rw [this, hd]⟩
theorem O_ia {x y : Opd} {k : IntKind} {s : Nat} {u : List U} (hx : evL L x = .u (.sl (li.map c))) (hy : evL L y = .u (.int k i)) (hi : idx li i = some a) (hu : c a = u) (hs : u.length = s) : opVC P (.ia s x y) (evL L) (objs O) nx (fun e => e = { d := .u (.fp u 0) }) := by
    have := idx_map (c := c) hi
    obtain ⟨h0, h3, h1, h2⟩ := idx_some hi
    simp only [opVC, hx, hy]; exact ⟨h0, by simpa using h3, by rw [this, hu]; exact hs, by rw [this, hu]⟩
theorem O_iam {x y : Opd} {k : IntKind} {b s : Nat} (hx : evL L x = .msl b li.length) (ho : objs O b = some (.row s (li.map c))) (hy : evL L y = .u (.int k i)) (hi : idx li i = some a) : opVC P (.ia s x y) (evL L) (objs O) nx (fun e => e = { d := .ref b s i.toNat 0 }) := by
    obtain ⟨h0, h3, h1, h2⟩ := idx_some hi
    simp only [opVC, hx, hy, ho]; exact ⟨rfl, h0, h3, by simp [MObj.len], trivial⟩
end
theorem O_sx {x y : Opd} {k : IntKind} {s : ByteArray} {i a : Int} (hx : evL L x = .u (.str s)) (hy : evL L y = .u (.int k i)) (hi : sidx s i = some a) : opVC P (.sx x y) (evL L) (objs O) nx (fun e => e = { d := .u (.int .u8 a) }) := by
    unfold sidx at hi
    split at hi
    · rename_i hc; injection hi with hi; simp only [opVC, hx, hy]; exact ⟨hc.1, hc.2, by rw [hi]⟩
    · cases hi
theorem O_faf {x : Opd} {cells : List U} {o off : Nat} (hx : evL L x = .u (.fp cells o)) : opVC P (.fa off x) (evL L) (objs O) nx (fun e => e = { d := .u (.fp cells (o + off)) }) := by simp only [opVC, hx]
theorem O_far {x : Opd} {b s i o off : Nat} (hx : evL L x = .ref b s i o) : opVC P (.fa off x) (evL L) (objs O) nx (fun e => e = { d := .ref b s i (o + off) }) := by simp only [opVC, hx]
theorem O_fl {off m : Nat} {x : Opd} {us : List U} {u : U} (hx : evL L x = .u (.agg us)) (hu : us[off]? = some u) : opVC P (.fl false off m x) (evL L) (objs O) nx (fun e => e = { d := .u u }) := by
    obtain ⟨hl, hu⟩ := List.getElem?_eq_some_iff.1 hu
    simp only [opVC, hx]; exact ⟨hl, by rw [getD_lt _ hl, hu]⟩
theorem O_fla {off m : Nat} {x : Opd} {us us' : List U} (hx : evL L x = .u (.agg us)) (hl : Nat.ble (off + m) us.length = true) (hu : (us.drop off).take m = us') : opVC P (.fl true off m x) (evL L) (objs O) nx (fun e => e = { d := .u (.agg us') }) := by simp only [opVC, hx]; exact ⟨Nat.le_of_ble_eq_true hl, by rw [hu]⟩
theorem O_ex {x : Opd} {i : Nat} {us : List U} {u : U} (hx : evL L x = .u (.tup us)) (hu : us[i]? = some u) : opVC P (.ex x i) (evL L) (objs O) nx (fun e => e = { d := .u u }) := by
    obtain ⟨hl, hu⟩ := List.getElem?_eq_some_iff.1 hu
    simp only [opVC, hx]; exact ⟨hl, by rw [getD_lt _ hl, hu]⟩
theorem O_ln {α : Type} {c : α → List U} {li : List α} {x : Opd} (hx : evL L x = .u (.sl (li.map c))) : opVC P (.ln x) (evL L) (objs O) nx (fun e => e = { d := .u (.int .i64 li.length) }) := by simp only [opVC, hx, List.length_map]
theorem O_lnm {b m : Nat} {x : Opd} (hx : evL L x = .msl b m) : opVC P (.ln x) (evL L) (objs O) nx (fun e => e = { d := .u (.int .i64 m) }) := by simp only [opVC, hx]
theorem O_lnn {x : Opd} (hx : evL L x = .u .nil) : opVC P (.ln x) (evL L) (objs O) nx (fun e => e = { d := .u (.int .i64 0) }) := by simp only [opVC, hx]
theorem O_sn {x : Opd} {s : ByteArray} (hx : evL L x = .u (.str s)) : opVC P (.sn x) (evL L) (objs O) nx (fun e => e = { d := .u (.int .i64 s.size) }) := by simp only [opVC, hx]
theorem minI_min (a b : Int) : minI a b = min a b := by unfold minI; split <;> omega
theorem maxI_max (a b : Int) : maxI a b = max a b := by unfold maxI; split <;> omega
theorem O_mn {x y : Opd} {k : IntKind} {a b : Int} (hx : evL L x = .u (.int k a)) (hy : evL L y = .u (.int k b)) : opVC P (.mn [x, y]) (evL L) (objs O) nx (fun e => e = { d := .u (.int k (min a b)) }) := by simp [opVC, hx, hy, foldI, foldI.go, minI_min]
theorem O_mx {x y : Opd} {k : IntKind} {a b : Int} (hx : evL L x = .u (.int k a)) (hy : evL L y = .u (.int k b)) : opVC P (.mx [x, y]) (evL L) (objs O) nx (fun e => e = { d := .u (.int k (max a b)) }) := by simp [opVC, hx, hy, foldI, foldI.go, maxI_max]
theorem O_mf {f : FuncId} {xs ys : List Opd} {us vs : List U} (hx : allU (xs.map (evL L)) = some us) (hy : allU (ys.map (evL L)) = some vs) : opVC P (.mf f xs ys) (evL L) (objs O) nx (fun e => e = { d := .u (.fn f us vs) }) := by simp only [opVC, hx, hy]
theorem O_mfd {f : FuncId} {xs ys : List Opd} {us vs : List D} (hx : xs.map (evL L) = us) (hy : ys.map (evL L) = vs) (hn : (allU us).isNone || (allU vs).isNone) : opVC P (.mf f xs ys) (evL L) (objs O) nx (fun e => e = { d := .fn f us vs }) := by
    simp only [opVC, hx, hy]
    cases h1 : allU us <;> cases h2 : allU vs <;> simp [h1, h2] at hn ⊢
/-! #### Calls -/
theorem O_ca {f : FuncId} {xs : List Opd} {us : List U} {r : U} (hx : allU (xs.map (evL L)) = some us) (hp : PC P f us r) : opVC P (.ca f xs) (evL L) (objs O) nx (fun e => e = { d := .u r }) := by simp only [opVC, frzA, hx]; exact ⟨r, hp, rfl, rfl⟩
theorem O_cl {f : FuncId} {x : Opd} {xs : List Opd} {fs' cs us : List U} {r : U} (hf : evL L x = .u (.fn f fs' cs)) (hx : allU (xs.map (evL L)) = some us) (hp : PC P f (fs' ++ us ++ cs) r) : opVC P (.cl x xs) (evL L) (objs O) nx (fun e => e = { d := .u r }) := by simp only [opVC, hf, frzA, hx]; exact ⟨r, hp, rfl, rfl⟩
theorem frzL_map_u {H : Nat → Option MObj} : ∀ {m : Nat} {us vs : List U}, frzL H m (us.map D.u) = some vs → vs = us
  | m, [], vs, h => by cases m <;> (simp [frzL] at h; exact h)
  | 0, _ :: _, vs, h => by simp [frzL] at h
  | 1, u :: us, vs, h => by simp [frzL, frz] at h
  | m + 2, u :: us, vs, h => by
    simp only [List.map_cons, frzL, frz] at h
    split at h
    · rename_i x y h1 h2
      injection h1 with h1; injection h with h
      rw [← h, ← h1, frzL_map_u h2]
    · cases h
theorem frzA_of {H : Nat → Option MObj} {ds : List D} {us : List U} (h : frzL H 40 ds = some us) : frzA H ds = some us := by
  unfold frzA
  split
  · rename_i us' hu
    have := allU_eq hu
    subst this
    rw [frzL_map_u h]
  · exact h
/-- A call to which owned objects are lent. -/
theorem O_caf {f : FuncId} {xs : List Opd} {ds : List D} {us : List U} {r : U} (hd : xs.map (evL L) = ds) (hx : frzL (objs O) 40 ds = some us) (hp : PC P f us r) (hr : r.scal = true) : opVC P (.ca f xs) (evL L) (objs O) nx (fun e => e = { d := .u r }) := by simp only [opVC, hd, frzA_of hx]; exact ⟨r, hp, by rw [hr, Bool.or_true], rfl⟩
theorem fz_u {H : Nat → Option MObj} {m : Nat} {x : U} : frz H (m + 1) (.u x) = some x := rfl
theorem fz_msl {H : Nat → Option MObj} {m b s : Nat} {α : Type} {c : α → List U} {li : List α} (h : H b = some (.row s (li.map c))) : frz H (m + 1) (.msl b li.length) = some (.sl (li.map c)) := by
  simp only [frz, h]
  rw [if_pos (by simp), List.take_of_length_le (by simp)]
theorem fz_ref {H : Nat → Option MObj} {m b s off : Nat} {ds : List D} {us : List U} (h : H b = some (.drow s [ds])) (hl : frzL H m ds = some us) : frz H (m + 1) (.ref b s 0 off) = some (.fp us off) := by
  simp only [frz, h]
  rw [if_pos (by simp)]
  simp [hl]
theorem fz_agg {H : Nat → Option MObj} {m : Nat} {ds : List D} {us : List U} (hl : frzL H m ds = some us) : frz H (m + 1) (.agg ds) = some (.agg us) := by simp only [frz, hl, Option.map_some]
theorem fz_tup {H : Nat → Option MObj} {m : Nat} {ds : List D} {us : List U} (hl : frzL H m ds = some us) : frz H (m + 1) (.tup ds) = some (.tup us) := by simp only [frz, hl, Option.map_some]
theorem fz_fn {H : Nat → Option MObj} {m : Nat} {f : FuncId} {ds es : List D} {us vs : List U} (hl : frzL H m ds = some us) (hm : frzL H m es = some vs) : frz H (m + 1) (.fn f ds es) = some (.fn f us vs) := by simp only [frz, hl, hm]
theorem fz_nil {H : Nat → Option MObj} {m : Nat} : frzL H m [] = some [] := by cases m <;> rfl
theorem fz_cons {H : Nat → Option MObj} {m : Nat} {d : D} {ds : List D} {u : U} {us : List U} (h : frz H m d = some u) (hl : frzL H m ds = some us) : frzL H (m + 1) (d :: ds) = some (u :: us) := by simp only [frzL, h, hl]

/-! #### Making and writing -/
theorem O_al {zs : List U} : opVC P (.al zs) (evL L) (objs O) nx (fun e => e = { d := .ref nx zs.length 0 0, up := [(nx, .drow zs.length [zs.map .u])], nx := nx + 1 }) := by simp only [opVC]
theorem O_bx {x : Opd} {ds : List D} {d : D} (hx : evL L x = d) (hd : d.cells = some ds) : opVC P (.bx x) (evL L) (objs O) nx (fun e => e = { d := .ref nx ds.length 0 0, up := [(nx, .drow ds.length [ds])], nx := nx + 1 }) := by simp only [opVC, hx, hd]
theorem O_bs {s m : Nat} {xs : List Opd} {els : List (List D)} {uss : List (List U)} (hx : cellsAll (xs.map (evL L)) = some els) (hs : (els.all fun l => l.length == s) = true) (hu : mkRow s els = .row s uss) (hm : els.length = m) : opVC P (.bs s xs) (evL L) (objs O) nx (fun e => e = { d := .msl nx m, up := [(nx, .row s uss)], nx := nx + 1 }) := by simp only [opVC, hx]; exact ⟨hs, by rw [hu, hm]⟩
theorem O_bd {zs : List U} {ps : List (Nat × Nat × Opd)} {ds : List D} {d : D} (hx : opVC.bdGo (evL L) (zs.map .u) ps = some ds) (hd : mkAgg ds = d) : opVC P (.bd zs ps) (evL L) (objs O) nx (fun e => e = { d := d }) := by simp only [opVC, hx, hd]
theorem O_mk {α : Type} {c : α → List U} {z : α} {s bytes : Nat} {zs : List U} {x y : Opd} {a b : Int} {li : List α} (hx : evL L x = .u (.int .i64 a)) (hy : evL L y = .u (.int .i64 b)) (hm : mksl bytes z a b = some li) (hz : c z = zs) : opVC P (.mk s bytes zs x y) (evL L) (objs O) nx (fun e => e = { d := .msl nx li.length, up := [(nx, .row s (li.map c))], nx := nx + 1 }) := by
    unfold mksl at hm
    split at hm
    · rename_i hc
      injection hm with hm; subst hm
      simp only [opVC, hx, hy]
      refine ⟨hc.1, hc.2.1, by omega, by omega, ?_⟩
      simp [hz]
    · cases hm
theorem S_set {ao : AO} {b : Nat} {ob : MObj} (hg : gdL L g) (hop : opVC P ao (evL L) (objs O) nx (fun e => e = { d := .any, up := [(b, ob)] })) (h : Rs P n Q fs l (mkSt L ((b, ob) :: O) nx)) : Rs P n Q fs (⟨none, g, ao⟩ :: l) (mkSt L O nx) := by
  refine Rs_op (gdL_gdo hg) (R := fun e => e = { d := .any, up := [(b, ob)] }) (by rw [evL_fun]; exact hop) ?_
  rintro e rfl
  have : (mkSt L O nx).app none { d := .any, up := [(b, ob)] } = mkSt L ((b, ob) :: O) nx := by simp [St.app, St.killO, updH, St.put, mkSt]; rfl
  rw [this]; exact h
theorem O_st {m : Nat} {x y : Opd} {b s off : Nat} {d : D} {ds xs : List D} {ob : MObj} (hx : evL L x = .ref b s 0 off) (hy : evL L y = d) (hc : d.cells = some xs) (ho : objs O b = some (.drow s [ds])) (hs : (Nat.ble (off + m) s && Nat.beq xs.length m) = true) (hn : MObj.drow s [splice ds off xs] = ob) :
    opVC P (.st m x y) (evL L) (objs O) nx (fun e => e = { d := .any, up := [(b, ob)] }) := by
  simp only [Bool.and_eq_true] at hs
  simp only [opVC, hx, hy, hc, ho, setElem]
  exact ⟨rfl, by simp [MObj.len], Nat.le_of_ble_eq_true hs.1, Nat.eq_of_beq_eq_true hs.2, by simp [← hn]⟩
theorem map_set_splice {α : Type} {c : α → List U} {li : List α} {i : Int} {a a' : α} {us : List U} {off : Nat} (hi : idx li i = some a) (hn : splice (c a) off us = c a') : (li.map c).set i.toNat (splice ((li.map c).getD i.toNat []) off us) = (li.set i.toNat a').map c := by
  rw [idx_map hi, hn, List.map_set]
theorem O_str {α : Type} {c : α → List U} {li : List α} {i : Int} {a a' : α} {m : Nat} {x y : Opd} {b s off : Nat} {d : D} {xs : List D} {us : List U} (hx : evL L x = .ref b s i.toNat off) (hy : evL L y = d) (hc : d.cells = some xs) (hu : allU xs = some us) (ho : objs O b = some (.row s (li.map c))) (hi : idx li i = some a)
    (hs : (Nat.ble (off + m) s && Nat.beq xs.length m) = true) (hn : splice (c a) off us = c a') : opVC P (.st m x y) (evL L) (objs O) nx (fun e => e = { d := .any, up := [(b, .row s ((li.set i.toNat a').map c))] }) := by
  simp only [Bool.and_eq_true] at hs
  obtain ⟨h0, h3, h1', h2⟩ := idx_some hi
  simp only [opVC, hx, hy, hc, ho, setElem, hu]
  exact ⟨rfl, by simpa [MObj.len] using h1', Nat.le_of_ble_eq_true hs.1, Nat.eq_of_beq_eq_true hs.2, by rw [map_set_splice hi hn]⟩
def ndOf : Option Opd → Int → List (Nat × D) → Option Int
  | none, k, _ => some k
  | some o, _, L => match evL L o with
    | .u (.int _ n) => some n
    | _ => none
theorem nd_some {o : Opd} {m : Int} {a : Int} (h : ndOf (some o) m L = some a) (h1 : 0 ≤ a) : natOf (evL L o) = some a.toNat := by
  simp only [ndOf] at h
  split at h
  · rename_i k m hm; injection h with h; subst h; simp only [hm, natOf]; rw [if_pos h1]
  · cases h
theorem nd_none {m : Int} {a : Int} (h : ndOf none m L = some a) : a = m := by simp only [ndOf, Option.some.injEq] at h; exact h.symm
theorem O_sl {α : Type} {c : α → List U} {li li' : List α} {s : Nat} {x : Opd} {lo hi : Option Opd} {a b : Int} (hx : evL L x = .u (.sl (li.map c))) (hlo : ndOf lo 0 L = some a) (hhi : ndOf hi li.length L = some b) (hs : slc li a b = some li') (hc : ∀ z, (c z).length = s) : opVC P (.sl s x lo hi) (evL L) (objs O) nx (fun e => e = { d := .u (.sl (li'.map c)) }) := by
    unfold slc at hs
    split at hs
    · rename_i hcc
      injection hs with hs
      obtain ⟨h1, h2, h3⟩ := hcc
      have fin : a.toNat ≤ b.toNat ∧ b.toNat ≤ (li.map c).length ∧ ((li.map c).all fun e => e.length == s) = true ∧ ({ d := D.u (.sl (((li.map c).take b.toNat).drop a.toNat)) } : Eff) = { d := D.u (.sl (li'.map c)) } :=
        ⟨by omega, by simp; omega, by simp [hc], by rw [← hs, ← List.map_take, ← List.map_drop]⟩
      cases lo with
      | none =>
        have := nd_none hlo; subst this
        cases hi with
        | none => have := nd_none hhi; subst this; simp only [opVC, hx]; simpa using fin
        | some o => simp only [opVC, hx, nd_some hhi (by omega)]; simpa using fin
      | some o' =>
        cases hi with
        | none => have := nd_none hhi; subst this; simp only [opVC, hx, nd_some hlo h1]; simpa using fin
        | some o => simp only [opVC, hx, nd_some hlo h1, nd_some hhi (by omega)]; exact fin
    · cases hs
theorem O_ss {x : Opd} {lo hi : Option Opd} {s s' : ByteArray} {a b : Int} (hx : evL L x = .u (.str s)) (hlo : ndOf lo 0 L = some a) (hhi : ndOf hi s.size L = some b) (hs : ssl s a b = some s') : opVC P (.ss x lo hi) (evL L) (objs O) nx (fun e => e = { d := .u (.str s') }) := by
    unfold ssl at hs
    split at hs
    · rename_i hcc
      injection hs with hs
      obtain ⟨h1, h2, h3⟩ := hcc
      have fin : a.toNat ≤ b.toNat ∧ b.toNat ≤ s.size ∧ ({ d := D.u (.str (s.extract a.toNat b.toNat)) } : Eff) = { d := D.u (.str s') } := ⟨by omega, by omega, by rw [hs]⟩
      cases lo with
      | none =>
        have := nd_none hlo; subst this
        cases hi with
        | none => have := nd_none hhi; subst this; simp only [opVC, hx]; simpa using fin
        | some o => simp only [opVC, hx, nd_some hhi (by omega)]; simpa using fin
      | some o' =>
        cases hi with
        | none => have := nd_none hhi; subst this; simp only [opVC, hx, nd_some hlo h1]; simpa using fin
        | some o => simp only [opVC, hx, nd_some hlo h1, nd_some hhi (by omega)]; exact fin
    · cases hs
/-! #### Growing -/
theorem allUU_map (uss : List (List U)) : allUU (uss.map fun l => l.map D.u) = some uss := by
  induction uss with
  | nil => rfl
  | cons u us ih => simp only [List.map_cons, allUU, allU_map, ih]
theorem mkRow_map_u (s : Nat) (uss : List (List U)) : mkRow s (uss.map fun l => l.map D.u) = .row s uss := by simp only [mkRow, allUU_map]
/-- What is appended. -/
inductive Srcs (O : List (Nat × MObj)) (s : Nat) (uss : List (List U)) : D → Prop
  | pure (h : ∀ l ∈ uss, l.length = s) : Srcs O s uss (.u (.sl uss))
  | row (b : Nat) (h : objs O b = some (.row s uss)) : Srcs O s uss (.msl b uss.length)
theorem Srcs.src {s : Nat} {uss : List (List U)} {d : D} (h : Srcs O s uss d) : opVC.appSrc (objs O) s d = some (uss.map fun l => l.map D.u) := by
  cases h with
  | pure h => simp only [opVC.appSrc]; rw [if_pos (by simpa using h)]
  | row b h => simp only [opVC.appSrc, h]; rw [if_pos (by simp)]; simp
theorem room_le {m bytes : Nat} (h : room m bytes = true) : m ≤ 9223372036854775807 ∧ m * bytes ≤ 140737488355328 := by
  unfold room at h; have := of_decide_eq_true h; exact ⟨this.2, this.1⟩
theorem Srcs.typed {s : Nat} {α : Type} {c : α → List U} {li : List α} (hc : ∀ z, (c z).length = s) : Srcs O s (li.map c) (.u (.sl (li.map c))) := .pure (by intro l hl; obtain ⟨z, _, rfl⟩ := List.mem_map.1 hl; exact hc z)
theorem Srcs.own {s : Nat} {α : Type} {c : α → List U} {li : List α} (b : Nat) (h : objs O b = some (.row s (li.map c))) : Srcs O s (li.map c) (.msl b li.length) := by
  have := Srcs.row b h; simpa using this
theorem O_apn {α : Type} {c : α → List U} {li : List α} {s bytes : Nat} {x y : Opd} (hx : evL L x = .u .nil) (hy : Srcs O s (li.map c) (evL L y)) (hr : room li.length bytes = true) : opVC P (.ap s bytes x y) (evL L) (objs O) nx (fun e => e = { d := .msl nx li.length, up := [(nx, .row s (li.map c))], nx := nx + 1 }) := by
    obtain ⟨h1, h2⟩ := room_le hr
    simp only [opVC, hx, hy.src, mkRow_map_u, List.length_map]
    exact ⟨by omega, by omega, trivial⟩
def killL (b : Nat) : List (Nat × D) → List (Nat × D)
  | [] => []
  | p :: l => (p.1, p.2.kill b) :: killL b l
def killO (b : Nat) : List (Nat × MObj) → List (Nat × MObj)
  | [] => []
  | p :: l => (p.1, p.2.kill b) :: killO b l
theorem regs_kill (b : Nat) : ∀ (L : List (Nat × D)), (fun t => (regs L t).kill b) = regs (killL b L)
  | [] => by funext t; simp [regs, killL, D.kill, D.has]
  | p :: L => by
    have := regs_kill b L
    funext t
    simp only [regs, killL]
    split
    · rfl
    · exact congrFun this t
theorem objs_kill (b : Nat) : ∀ (O : List (Nat × MObj)), (fun x => (objs O x).map (MObj.kill b)) = objs (killO b O)
  | [] => by funext t; simp [objs, killO]
  | p :: O => by
    have := objs_kill b O
    funext t
    simp only [objs, killO]
    split
    · rfl
    · exact congrFun this t
theorem S_app {ao : AO} {d : D} {b : Nat} {ob : MObj} {L' : List (Nat × D)} {O' : List (Nat × MObj)} (hg : gdL L g) (hop : opVC P ao (evL L) (objs O) nx (fun e => e = { d := d, up := [(b, ob)], kl := some b })) (hL : killL b L = L') (hO : killO b O = O')
    (h : Rs P n Q fs l (mkSt ((t, d) :: L') ((b, ob) :: O') nx)) : Rs P n Q fs (⟨some t, g, ao⟩ :: l) (mkSt L O nx) := by
  refine Rs_op (gdL_gdo hg) (R := fun e => e = { d := d, up := [(b, ob)], kl := some b }) (by rw [evL_fun]; exact hop) ?_
  rintro e rfl
  have : (mkSt L O nx).app (some t) { d := d, up := [(b, ob)], kl := some b } = mkSt ((t, d) :: L') ((b, ob) :: O') nx := by
    simp only [St.app, St.killO, St.kill, updH, St.put, mkSt, ← hL, ← hO, regs_kill, objs_kill]
    simp only [Nat.not_lt_zero, if_false]
    rfl
  rw [this]; exact h
theorem O_apm {α : Type} {c : α → List U} {li lj : List α} {b s bytes : Nat} {x y : Opd} (hx : evL L x = .msl b li.length) (ho : objs O b = some (.row s (li.map c))) (hy : Srcs O s (lj.map c) (evL L y)) (hr : room (li.length + lj.length) bytes = true) :
    opVC P (.ap s bytes x y) (evL L) (objs O) nx (fun e => e = { d := .msl b (li ++ lj).length, up := [(b, .row s ((li ++ lj).map c))], kl := some b }) := by
  obtain ⟨h1, h2⟩ := room_le hr
  have h4 : opVC.appSrc (objs O) s (evL L y) = some ((lj.map c).map fun l => l.map D.u) := hy.src
  simp only [opVC, hx, h4, ho, allUU_map, List.length_map]
  refine ⟨by omega, by omega, trivial, by simp, ?_⟩
  rw [List.take_of_length_le (by simp)]
  simp
theorem slc_zero {α : Type} {li li' : List α} {a : Int} (h : slc li 0 a = some li') : 0 ≤ a ∧ a ≤ li.length ∧ li' = li.take a.toNat ∧ li'.length = a.toNat := by
  unfold slc at h
  split at h
  · rename_i hc
    injection h with h
    simp at h
    exact ⟨hc.2.1, hc.2.2, h.symm, by rw [← h]; simp; omega⟩
  · cases h
/-- The beginning of an owned slice. -/
theorem O_slm {α : Type} {li li' : List α} {c : α → List U} {b s : Nat} {x y : Opd} {k : IntKind} {a : Int} (hx : evL L x = .msl b li.length) (hy : evL L y = .u (.int k a)) (hs : slc li 0 a = some li') :
    opVC P (.sl s x none (some y)) (evL L) (objs O) nx (fun e => e = { d := .msl b li'.length }) := by
  obtain ⟨h1, h2, _, h4⟩ := slc_zero hs
  have : natOf (.u (.int k a)) = some a.toNat := by simp only [natOf]; rw [if_pos h1]
  simp only [opVC, hx, hy, this]
  exact ⟨trivial, by omega, by rw [h4]⟩
/-- Fewer elements of an owned row are known. -/
theorem W_shrink {α : Type} {li li' : List α} {c : α → List U} {L : List (Nat × D)} {O : List (Nat × MObj)} {nx : Nat} {a : Int} (b s : Nat) (ho : objs O b = some (.row s (li.map c))) (hs : slc li 0 a = some li') : Weak (mkSt L O nx) (mkSt L ((b, .row s (li'.map c)) :: O) nx) := by
  obtain ⟨h1, h2, h3, h4⟩ := slc_zero hs
  rintro n w0 M0 F act w ⟨ρ, rfl, hh⟩
  have hH := hh.heap
  refine ⟨ρ, rfl, hh.defers, hh.size, hh.frame, ⟨fun x hx => ?_, fun x o hx => ?_, hH.own, hH.inj, fun x hx => ?_, hH.far⟩, hh.regs⟩
  · replace hx : objs ((b, .row s (li'.map c)) :: O) x = none := hx
    simp only [objs] at hx
    split at hx
    · cases hx
    · exact hH.dom x hx
  · replace hx : objs ((b, .row s (li'.map c)) :: O) x = some o := hx
    simp only [objs] at hx
    split at hx
    · rename_i he
      injection hx with hx
      subst hx; subst he
      obtain ⟨c0, k0, g1, g2⟩ := hH.obj x _ ho
      refine ⟨c0, k0, g1, ?_⟩
      have hl : (li'.map c).length ≤ (li.map c).length := by simp; omega
      have hel : ∀ i, i < (li'.map c).length → (li'.map c).getD i [] = (li.map c).getD i [] := by
        intro i hi
        rw [h3, List.map_take]
        rw [h3, List.map_take] at hi
        exact getD_tk _ _ _ _ (by simp at hi; omega)
      generalize li.map c = m0 at g2 hl hel
      cases g2 with
      | cells cc kk _ cur E hw hsz hlen hk hm he h1c hr =>
        refine .cells cc k0 _ cur E hw hsz (by simp only [MObj.len] at hlen ⊢; omega) hk (fun es => by simp) (fun i hi => ?_) (fun i j hi hj => ?_) (fun i j hi hj => ?_)
        · have := he i (by simp only [MObj.len] at hi ⊢; omega)
          simp only [MObj.elem, MObj.size] at this ⊢
          rw [hel i hi]; exact this
        · exact h1c i j (by simp only [MObj.len] at hi ⊢; omega) hj
        · have := hr i j (by simp only [MObj.len] at hi ⊢; omega) hj
          simp only [MObj.elem, MObj.size] at this ⊢
          rw [hel i hi]; exact this
      | nil s' =>
        have : li' = [] := List.eq_nil_of_length_eq_zero (by simpa using hl)
        rw [this]; exact .nil s
    · exact hH.obj x o hx
  · show objs ((b, .row s (li'.map c)) :: O) x = none
    have h0 := hH.fresh x hx
    simp only [objs]
    split
    · rename_i he; subst he
      have h0 : objs O x = none := h0
      rw [ho] at h0; cases h0
    · exact h0

/-- Both values of a slot, whatever follows. -/
theorem S_case0 {c : Bool} (hx : regs L t = .u (.bool c)) (k1 : c = true → Rs P n Q fs l (mkSt ((t, .u (.bool true)) :: L) O nx)) (k2 : c = false → Rs P n Q fs l (mkSt ((t, .u (.bool false)) :: L) O nx)) : Rs P n Q fs l (mkSt L O nx) :=
  S_case (A := some ()) (B := some ()) (r := ()) hx (by cases c <;> rfl) (fun e _ => k1 e) (fun e _ => k2 e)
/-- The results. -/
theorem Q_ret {ts : List Nat} {r x : U} (hf : frz (objs O) 40 (resD (mkSt L O nx) ts) = some x) (hq : Nq x r) : den P n (retQ ts r) fs .ret (mkSt L O nx) := D_ret (show retQ ts r .ret (mkSt L O nx) from ⟨x, hf, hq⟩) fs
theorem Q_end {ts : List Nat} {r x : U} (hf : frz (objs O) 40 (resD (mkSt L O nx) ts) = some x) (hq : Nq x r) : den P n (retQ ts r) [] .normal (mkSt L O nx) := show retQ ts r .normal (mkSt L O nx) from ⟨x, hf, hq⟩

theorem Q_retd {ts : List Nat} {r x : U} {d : D} (hd : resD (mkSt L O nx) ts = d) (hf : frz (objs O) 40 d = some x) (hq : Nq x r) : den P n (retQ ts r) fs .ret (mkSt L O nx) := Q_ret (by rw [hd]; exact hf) hq
theorem Q_endd {ts : List Nat} {r x : U} {d : D} (hd : resD (mkSt L O nx) ts = d) (hf : frz (objs O) 40 d = some x) (hq : Nq x r) : den P n (retQ ts r) [] .normal (mkSt L O nx) := Q_end (by rw [hd]; exact hf) hq
/-- A contract out of a run. -/
theorem PC_run {f : FuncId} {c : FC} (hok : okF P f c = true) {args : List U} (hn : Nat.ble args.length c.n = true) {L : List (Nat × D)} (hL : argRegs 0 args = L) {r : U} (h : Run P c.n (retQ c.rs r) [] c.c (mkSt L [] 0)) : PC P f args r :=
  PC_of hok hn fun _ => by rw [hL]; exact h
end
end Go.Proofs.Ytkpghgnbbfpbmaa

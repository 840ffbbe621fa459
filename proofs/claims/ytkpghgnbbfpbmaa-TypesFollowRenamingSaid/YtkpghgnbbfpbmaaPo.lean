/- The laws TypesOfParts and TypesIgnoreNumbers. -/
import Derived.Test.YtkpghgnbbfpbmaaPn
import Derived.Test.YtkpghgnbbfpbmaaL07e
set_option linter.unusedSimpArgs false
set_option linter.unusedVariables false
namespace Go.Proofs.Ytkpghgnbbfpbmaa
open Fo

/-- The k-th tree of a forest. -/
structure Part (e : List ApiTerm) (F : Fo) (q : Nat) (t1 : ApiTerm) (c1 : Fo) (l1 : List ApiTerm) : Prop where
  drop : e.drop q = t1 :: (c1.flat ++ l1)
  w1 : arI t1.Op = (c1.cnt : Int)
  w2 : c1.wf
  depth : c1.depth + 1 ≤ F.depth
  nest : (nd t1 c1 nil).nest ≤ F.nest
  mem : ∀ x ∈ t1 :: c1.flat, x ∈ F.flat
  ty : ∀ kinds b, tyK kinds b t1 c1 ∈ F.tys kinds b
theorem parts {e : List ApiTerm} : ∀ (k : Nat) (F : Fo) (q : Nat) (l : List ApiTerm), k < F.cnt → F.wf → e.drop q = F.flat ++ l → ∃ t1 c1 l1, Part e F (q + F.off k) t1 c1 l1
  | _, nil, q, l, h, _, _ => by simp [cnt] at h
  | 0, nd t c s, q, l, h, w, hd => by
    refine ⟨t, c, s.flat ++ l, ?_, w.1, w.2.1, ?_, ?_, ?_, ?_⟩
    · rw [show q + (nd t c s).off 0 = q by simp [off], hd]; simp [flat]
    · simp only [depth]; omega
    · simp only [nest]; omega
    · intro x hx; simp only [flat, List.mem_cons, List.mem_append] at hx ⊢; rcases hx with h | h
      · exact .inl h
      · exact .inr (.inl h)
    · intro kinds b; simp [tys, tyK]
  | k + 1, nd t c s, q, l, h, w, hd => by
    have hd' : e.drop q = t :: (c.flat ++ (s.flat ++ l)) := by rw [hd]; simp [flat]
    obtain ⟨hp, h1, h2⟩ := at_drop hd'
    obtain ⟨t1, c1, l1, p⟩ := parts k s (q + 1 + c.flat.length) l (by simp only [cnt] at h; omega) w.2.2 (drop_add (a := c.flat) (p := q + 1) h2)
    refine ⟨t1, c1, l1, ?_, p.w1, p.w2, ?_, ?_, ?_, ?_⟩
    · rw [show q + (nd t c s).off (k + 1) = q + 1 + c.flat.length + s.off k by simp only [off]; omega]; exact p.drop
    · have := p.depth; simp only [depth]; omega
    · have := p.nest; simp only [nest] at this ⊢; omega
    · intro x hx; have := p.mem x hx; simp only [flat, List.mem_cons, List.mem_append]; exact .inr (.inr this)
    · intro kinds b; have := p.ty kinds b; simp only [tys, List.mem_cons]; exact .inr this
theorem outK_ne {k : Int} (h : k ≠ 0) : outK k = (k, 0) := by simp [outK, h]
theorem pure_TypesOfParts (e : List ApiTerm) (kinds : List Int) (b : Bool) (h1 : VSl ApiTerm.V e) (h2 : VSl (VInt .i64) kinds) (h3 : VAny b) : law07_TypesOfParts e kinds b = some true := by
  unfold law07_TypesOfParts made_LightExpr
  rw [Option.bind_some, awake7_eq]
  by_cases ha : (e.length : Int) ≤ 250
  · by_cases hb : 10 < (kinds.length : Int)
    · simp [ha, hb]
    · simp only [decide_eq_true ha, decide_eq_false hb, Bool.not_true, Bool.or_false, cond_false]
      by_cases hg : ∃ t c, Good e kinds t c
      · obtain ⟨t, c, g⟩ := hg
        rw [(Of_good g b).1, (Of_good g b).2]
        by_cases hz : tyK kinds b t c = 0
        · simp [outK, hz]
        · have hbd := tyK_bd g.ok b t c
          have hlen := g.v.len
          have hd : e.drop 0 = t :: (c.flat ++ []) := by rw [g.v.eq]; simp
          obtain ⟨hp, he0, hd1⟩ := at_drop hd
          have i0 : idx e 0 = some t := by have := idx_nat hp; rw [he0] at this; exact this
          have ho12 : ((bif b then (some true) else ((idx e 0).bind (fun (y37 : ApiTerm) => ((ref05_Aggregate y37.Op).bind (fun (y38 : Bool) => (some y38)))))) : Option Bool) = some (b || aggB t.Op) := by
            cases b
            · simp [i0, agg5_eq]
            · rfl
          rw [Option.bind_some, Option.bind_some, outK_ne hz]
          simp only [decide_true, Bool.not_true, Bool.or_false, cond_false, ho12, Option.bind_some]
          have hloop : loopO (law07_TypesOfParts.l36 e kinds (b || aggB t.Op)) 0 = some (.inl ()) := by
            have hw1 : arI t.Op = (c.cnt : Int) := g.v.w.1
            refine range_all (step := law07_TypesOfParts.l36 e kinds (b || aggB t.Op)) c.cnt (fun i => (i : Int)) _ (fun i hi => ?_) ?_
            · unfold law07_TypesOfParts.l36
              simp only [i0, Option.bind_some, arity5_eq, hw1, decide_eq_true (show (i : Int) < (c.cnt : Int) by omega), cond_true]
              have hO := Operand_eq (p := 0) (by omega) hw1 g.v.w.2.1 hd i hi
              rw [show ((0 : Nat) : Int) = 0 from rfl] at hO
              rw [hO, Option.bind_some]
              obtain ⟨t1, c1, l1, p⟩ := parts i c 1 [] hi g.v.w.2.1 hd1
              have hq : 0 + 1 + c.off i = 1 + c.off i := by omega
              rw [hq]
              obtain ⟨hp1, _, _⟩ := at_drop p.drop
              rw [End5_eq e _ (by omega) (by omega), endI_tree p.w1 p.w2 p.drop, Option.bind_some]
              generalize 1 + c.off i = q at *
              have hsum : q + 1 + c1.flat.length + l1.length = e.length := by
                have := congrArg List.length p.drop
                simp at this; omega
              have hs : slc e (q : Int) ((q + 1 + c1.flat.length : Nat) : Int) = some (t1 :: c1.flat) := by
                rw [slc, if_pos ⟨by omega, by omega, by omega⟩, Int.toNat_natCast, Int.toNat_natCast, List.drop_take, p.drop]
                rw [show q + 1 + c1.flat.length - q = (t1 :: c1.flat).length by simp; omega]
                rw [show t1 :: (c1.flat ++ l1) = (t1 :: c1.flat) ++ l1 from rfl, List.take_left]
              have hlen1 : (t1 :: c1.flat).length ≤ 200 := by simp; omega
              have g1 : Good (t1 :: c1.flat) kinds t1 c1 := {
                k6 := g.k6, ok := g.ok,
                v := { len := hlen1, w := ⟨p.w1, p.w2, trivial⟩, eq := rfl
                       depth := by have := p.depth; have := g.v.depth; simp only [depth] at *; omega
                       nest := by have := p.nest; have := g.v.nest; simp only [nest] at *; omega
                       args := by
                         refine List.all_eq_true.2 (fun x hx => List.all_eq_true.1 g.v.args x ?_)
                         rw [g.v.eq]; exact List.mem_cons_of_mem _ (p.mem x hx) } }
              have hne : tyK kinds (b || aggB t.Op) t1 c1 ≠ 0 := cmbK_ne (by unfold tyK at hz; exact hz) _ (p.ty kinds _)
              have hbd1 := tyK_bd g.ok (b || aggB t.Op) t1 c1
              rw [hs, Option.bind_some, show room (t1 :: c1.flat).length 16 = true by unfold room; simp only [decide_eq_true_eq]; omega, cond_true, (Of_good g1 _).1, Option.bind_some, outK_ne hne]
              simp only [decide_true, Bool.not_true, Bool.false_or]
              rw [decide_eq_false (show ¬ (tyK kinds (b || aggB t.Op) t1 c1 < 1) by omega), decide_eq_false (show ¬ (3 < tyK kinds (b || aggB t.Op) t1 c1) by omega)]
              rw [wr_succ hi (by have := cnt_le3 g.v.w; omega)]; rfl
            · unfold law07_TypesOfParts.l36
              simp [i0, arity5_eq, hw1]
          rw [hloop]
          simp [show 1 ≤ tyK kinds b t c by omega, hbd.2]
      · rw [(Of_bad (by omega) (by omega) hg b).1, (Of_bad (by omega) (by omega) hg b).2]; simp
  · simp [ha]

/-! ### Other numbers -/
def FRel (R : ApiTerm → ApiTerm → Prop) : Fo → Fo → Prop
  | nil, nil => True
  | nd t c s, nd t' c' s' => R t t' ∧ FRel R c c' ∧ FRel R s s'
  | _, _ => False
/-- Lists whose members match, one by one. -/
def LRel (R : ApiTerm → ApiTerm → Prop) : List ApiTerm → List ApiTerm → Prop
  | [], [] => True
  | x :: l, y :: m => R x y ∧ LRel R l m
  | _, _ => False
theorem LRel.split {R : ApiTerm → ApiTerm → Prop} : ∀ (a b m : List ApiTerm), LRel R (a ++ b) m → ∃ m1 m2, m = m1 ++ m2 ∧ LRel R a m1 ∧ LRel R b m2
  | [], b, m, h => ⟨[], m, rfl, trivial, h⟩
  | x :: a, b, [], h => by cases h
  | x :: a, b, y :: m, h => by
    obtain ⟨m1, m2, h1, h2, h3⟩ := LRel.split a b m h.2
    exact ⟨y :: m1, m2, by rw [h1]; rfl, ⟨h.1, h2⟩, h3⟩
theorem LRel.len {R : ApiTerm → ApiTerm → Prop} : ∀ (a m : List ApiTerm), LRel R a m → a.length = m.length
  | [], [], _ => rfl
  | [], _ :: _, h => by cases h
  | _ :: _, [], h => by cases h
  | x :: a, y :: m, h => by simp [LRel.len a m h.2]
theorem LRel.forest {R : ApiTerm → ApiTerm → Prop} : ∀ (F : Fo) (m : List ApiTerm), LRel R F.flat m → ∃ G : Fo, G.flat = m ∧ FRel R F G
  | nil, m, h => by
    cases m with
    | nil => exact ⟨nil, rfl, trivial⟩
    | cons _ _ => cases h
  | nd t c s, [], h => by cases h
  | nd t c s, y :: m, h => by
    obtain ⟨m1, m2, h1, h2, h3⟩ := LRel.split c.flat s.flat m h.2
    obtain ⟨G1, g1, g2⟩ := LRel.forest c m1 h2
    obtain ⟨G2, g3, g4⟩ := LRel.forest s m2 h3
    exact ⟨nd y G1 G2, by simp [flat, g1, g3, h1], h.1, g2, g4⟩
theorem FRel.facts {R : ApiTerm → ApiTerm → Prop} (hR : ∀ x y, R x y → x.Op = y.Op) : ∀ (F G : Fo), FRel R F G → F.cnt = G.cnt ∧ (F.wf → G.wf) ∧ F.depth = G.depth ∧ F.nest = G.nest
  | nil, nil, _ => ⟨rfl, fun h => h, rfl, rfl⟩
  | nil, nd _ _ _, h => by cases h
  | nd _ _ _, nil, h => by cases h
  | nd t c s, nd t' c' s', h => by
    obtain ⟨a1, a2, a3, a4⟩ := FRel.facts hR c c' h.2.1
    obtain ⟨b1, b2, b3, b4⟩ := FRel.facts hR s s' h.2.2
    have := hR _ _ h.1
    refine ⟨by simp [cnt, b1], fun w => ⟨by rw [← this, w.1, a1], a2 w.2.1, b2 w.2.2⟩, by simp [depth, a3, b3], by simp [nest, a4, b4, this]⟩
theorem FRel.tys {R : ApiTerm → ApiTerm → Prop} {kinds kinds' : List Int} (hR : ∀ x y, R x y → x.Op = y.Op) (hL : ∀ x y b, R x y → leafK kinds x b = leafK kinds' y b) : ∀ (F G : Fo) (b : Bool), FRel R F G → F.tys kinds b = G.tys kinds' b
  | nil, nil, _, _ => rfl
  | nil, nd _ _ _, _, h => by cases h
  | nd _ _ _, nil, _, h => by cases h
  | nd t c s, nd t' c' s', b, h => by
    have ho := hR _ _ h.1
    simp only [Fo.tys]
    rw [FRel.tys hR hL c c' _ h.2.1, FRel.tys hR hL s s' _ h.2.2, ho]
    congr 1
    unfold cmbK
    split
    · exact hL _ _ b h.1
    all_goals (try rw [ho])
    all_goals rfl
theorem LRel.args {R : ApiTerm → ApiTerm → Prop} {v v' : Int} (hA : ∀ x y, R x y → argB x v = true → argB y v' = true) : ∀ (l m : List ApiTerm), LRel R l m → argsB l v = true → argsB m v' = true
  | [], [], _, _ => rfl
  | [], _ :: _, h, _ => by cases h
  | _ :: _, [], h, _ => by cases h
  | x :: l, y :: m, h, ha => by
    simp only [argsB, List.all_cons, Bool.and_eq_true] at ha ⊢
    exact ⟨hA x y h.1 ha.1, LRel.args hA l m h.2 ha.2⟩
/-- What matches a good expression is good and of the same kind. -/
theorem Good.rel {R : ApiTerm → ApiTerm → Prop} {e e' : List ApiTerm} {kinds kinds' : List Int} {t : ApiTerm} {c : Fo} (hR : ∀ x y, R x y → x.Op = y.Op) (hL : ∀ x y b, R x y → leafK kinds x b = leafK kinds' y b)
    (hA : ∀ x y, R x y → argB x (kinds.length : Int) = true → argB y (kinds'.length : Int) = true) (h6 : kinds'.length ≤ 6) (hok : okK kinds') (hl : LRel R e e') (g : Good e kinds t c) :
    ∃ t' c', Good e' kinds' t' c' ∧ ∀ b, tyK kinds b t c = tyK kinds' b t' c' := by
  have he : e = (nd t c nil).flat := by rw [g.v.eq]; simp [flat]
  obtain ⟨G, g1, g2⟩ := LRel.forest (nd t c nil) e' (by rw [← he]; exact hl)
  match G, g1, g2 with
  | nd t' c' nil, g1, g2 =>
    obtain ⟨a1, a2, a3, a4⟩ := FRel.facts hR _ _ g2
    refine ⟨t', c', ⟨h6, hok, ?_, a2 g.v.w, ?_, ?_, ?_, LRel.args hA _ _ hl g.v.args⟩, fun b => ?_⟩
    · rw [← LRel.len _ _ hl]; exact g.v.len
    · rw [← g1]; simp [flat]
    · rw [← a3]; exact g.v.depth
    · rw [← a4]; exact g.v.nest
    · have := FRel.tys hR hL _ _ b g2
      simp only [Fo.tys, List.cons.injEq] at this
      exact this.1
  | nil, _, g2 => cases g2
  | nd _ _ (nd _ _ _), _, g2 => cases g2.2.2
/-- The term with another number. -/
def numG (m : Int) (x : ApiTerm) : ApiTerm := if x.Op = 1 ∧ 0 ≤ x.Arg ∧ x.Arg ≤ 1073741824 then ⟨x.Op, m⟩ else x
theorem LRel.map {R : ApiTerm → ApiTerm → Prop} (f : ApiTerm → ApiTerm) (h : ∀ x, R x (f x)) : ∀ l : List ApiTerm, LRel R l (l.map f)
  | [] => trivial
  | x :: l => ⟨h x, LRel.map f h l⟩
theorem LRel.map' {R : ApiTerm → ApiTerm → Prop} (f : ApiTerm → ApiTerm) (h : ∀ x, R (f x) x) : ∀ l : List ApiTerm, LRel R (l.map f) l
  | [] => trivial
  | x :: l => ⟨h x, LRel.map' f h l⟩
theorem made_num (by_ : Int) : ∃ m, made_Mod by_ 1073741825 = some m ∧ 0 ≤ m ∧ m ≤ 1073741824 := by
  unfold made_Mod
  rw [show (!decide ((1073741825 : Int) = 0)) = true from rfl, cond_true]
  have hlt := Int.tmod_lt_of_pos by_ (show (0 : Int) < 1073741825 by omega)
  have hgt : -1073741825 < Int.tmod by_ 1073741825 := by
    have := Int.lt_tmod_of_pos by_ (show (0 : Int) < 1073741825 by omega)
    omega
  generalize Int.tmod by_ 1073741825 = z at *
  by_cases hz : z < 0
  · rw [decide_eq_true hz, cond_true, wr (by omega) (by omega)]
    exact ⟨_, rfl, by omega, by omega⟩
  · rw [decide_eq_false hz, cond_false]
    exact ⟨_, rfl, by omega, by omega⟩
theorem map_take_set {α : Type} (f : α → α) (l : List α) (i : Nat) (h : i < l.length) : ((l.take i).map f ++ l.drop i).set i (f l[i]) = (l.take (i + 1)).map f ++ l.drop (i + 1) := by
  have hl : ((l.take i).map f).length = i := by simp; omega
  rw [drop_cons h, take_succ h, List.map_append, List.set_append_right _ _ (by omega), hl, Nat.sub_self, List.set_cons_zero, List.append_assoc]; rfl
theorem mts_get {α : Type} (f : α → α) (l : List α) (i : Nat) (h : i < l.length) : idx ((l.take i).map f ++ l.drop i) (i : Int) = some l[i] := by
  rw [idx_nat (by simp; omega), List.getElem_append_right (by simp; omega)]
  simp [show i - min i l.length = 0 by omega]
theorem l29_eq (by_ m : Int) (hm : made_Mod by_ 1073741825 = some m) (e : List ApiTerm) (hl : e.length ≤ 1000) : loopO (law07_TypesIgnoreNumbers.l29 by_) (0, e) = some (e.map (numG m)) := by
  have key := range_all (step := law07_TypesIgnoreNumbers.l29 by_) e.length (fun i => ((i : Int), (e.take i).map (numG m) ++ e.drop i)) (e.map (numG m)) (fun i hi => ?_) ?_
  · simpa using key
  · unfold law07_TypesIgnoreNumbers.l29
    have hlen : ((e.take i).map (numG m) ++ e.drop i).length = e.length := by simp; omega
    have hset := map_take_set (numG m) e i hi
    have hsame : numG m e[i] = e[i] → (e.take (i + 1)).map (numG m) ++ e.drop (i + 1) = (e.take i).map (numG m) ++ e.drop i := by
      intro hs
      rw [take_succ hi, drop_cons hi, List.map_append, List.map_singleton, hs]; simp
    simp only [hlen, decide_eq_true (show (i : Int) < (e.length : Int) by omega), cond_true, mts_get _ _ _ hi, Option.bind_some, hm]
    rw [wr_succ hi (by omega), Int.toNat_natCast]
    by_cases h1 : e[i].Op = 1
    · by_cases h2 : 0 ≤ e[i].Arg
      · by_cases h3 : e[i].Arg ≤ 1073741824
        · have hg : numG m e[i] = ⟨e[i].Op, m⟩ := by unfold numG; rw [if_pos ⟨h1, h2, h3⟩]
          rw [← hg, hset]
          simp [h1, h2, h3]
        · have hg : numG m e[i] = e[i] := by unfold numG; rw [if_neg (by omega)]
          rw [hsame hg]; simp [h1, h2, h3]
      · have hg : numG m e[i] = e[i] := by unfold numG; rw [if_neg (by omega)]
        rw [hsame hg]; simp [h1, h2]
    · have hg : numG m e[i] = e[i] := by unfold numG; rw [if_neg (by omega)]
      rw [hsame hg]; simp [h1]
  · unfold law07_TypesIgnoreNumbers.l29
    simp
theorem pure_TypesIgnoreNumbers (e : List ApiTerm) (kinds : List Int) (b : Bool) (by_ : Int) (h1 : VSl ApiTerm.V e) (h2 : VSl (VInt .i64) kinds) (h3 : VAny b) (h4 : VInt .i64 by_) : law07_TypesIgnoreNumbers e kinds b by_ = some true := by
  unfold law07_TypesIgnoreNumbers made_LightExpr
  rw [Option.bind_some, awake7_eq]
  by_cases ha : (e.length : Int) ≤ 250
  · by_cases hb : 10 < (kinds.length : Int)
    · simp [ha, hb]
    · simp only [decide_eq_true ha, decide_eq_false hb, Bool.not_true, Bool.or_false, cond_false]
      obtain ⟨m, hm, hm0, hm1⟩ := made_num by_
      rw [show room e.length 16 = true by unfold room; simp only [decide_eq_true_eq]; omega, cond_true, l29_eq by_ m hm e (by omega), Option.bind_some]
      have op : ∀ x, (numG m x).Op = x.Op := fun x => by unfold numG; split <;> rfl
      have arg : ∀ x, x.Op ≠ 1 → numG m x = x := fun x hx => by unfold numG; rw [if_neg (by omega)]
      have leaf : ∀ x b, leafK kinds (numG m x) b = leafK kinds x b := by
        intro x b
        by_cases hx : x.Op = 1
        · unfold leafK; rw [op x]; simp [hx]
        · rw [arg x hx]
      have args : ∀ x, argB (numG m x) (kinds.length : Int) = argB x (kinds.length : Int) := by
        intro x
        by_cases hx : x.Op = 1 ∧ 0 ≤ x.Arg ∧ x.Arg ≤ 1073741824
        · unfold argB numG; rw [if_pos hx]; simp [hx.1, hx.2.1, hx.2.2, hm0, hm1]
        · unfold numG; rw [if_neg hx]
      by_cases hg : ∃ t c, Good e kinds t c
      · obtain ⟨t, c, g⟩ := hg
        obtain ⟨t', c', g', hty⟩ := Good.rel (R := fun x y => y = numG m x) (fun x y h => by rw [h, op]) (fun x y b h => by rw [h, leaf]) (fun x y h ha => by rw [h, args, ha]) g.k6 g.ok (LRel.map (R := fun x y => y = numG m x) (numG m) (fun x => rfl) e) g
        rw [(Of_good g b).1, (Of_good g' b).1, hty b]; simp
      · have hg' : ¬ ∃ t c, Good (e.map (numG m)) kinds t c := by
          rintro ⟨t, c, g⟩
          obtain ⟨t', c', g', _⟩ := Good.rel (R := fun x y => x = numG m y) (e := e.map (numG m)) (e' := e) (fun x y h => by rw [h, op]) (fun x y b h => by rw [h, leaf]) (fun x y h ha => by rw [← args, ← h, ha]) g.k6 g.ok (LRel.map' (R := fun x y => x = numG m y) (numG m) (fun x => rfl) e) g
          exact hg ⟨t', c', g'⟩
        rw [(Of_bad (by omega) (by omega) hg b).1, (Of_bad (by rw [List.length_map]; omega) (by omega) hg' b).1]; simp
  · simp [ha]
end Go.Proofs.Ytkpghgnbbfpbmaa
